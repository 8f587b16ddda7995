/- Parts. -/
import Derived.WalkSpells
import Derived.WalkLawsBesides
import Derived.Deep.OwnRows
import Derived.Lib.Hide
import Derived.Deep.AppendLies
import Derived.Test.YtkjojjopamaoiaaGreatRows
import Derived.ProofKit
import Derived.OpenShut
import Derived.Lib.ConvBytes
import Derived.Deep.WholeRow
import Derived.Deep.Fields
import Derived.Lib.Bytealg
import Derived.BigQuiet
import Derived.Deep.CutRange
import Derived.Laws.CopyOwn
import Derived.Lib.AppendZerosOnto
import Derived.Lib.Overlaps
import Derived.Deep.RegionHeld3
import Derived.StillTail
set_option linter.all false
set_option maxRecDepth 100000
set_option maxHeartbeats 8000000
open Array renaming getElem?_eq_getElem->dK,ext_getElem?->eB,getElem?_eq_none->aV,length_toList->bf,getElem?_toList->dH,getElem?_extract->dz,size_extract->jI,getElem?_modify->zJ,getElem?_eq_some_iff->bW,foldl_toList->Db,range->lD,mapM->iG,all_eq_true_iff_forall_mem->gG,ext'->o9,size->Array.j,toList->Array.a,getD->Array.c,setIfInBounds->Array.b
open BitVec renaming ofInt->gD,ofInt_natCast->mh,toNat_ofNat->nK,ofNat->Ia,toNat->BitVec.e
open Bool renaming eq_iff_iff->cB,and_eq_true->bB,not_true->Ak,or_eq_true->nJ,toNat->Bool.e
open ByteArray renaming size->ByteArray.j,toList->ByteArray.a
open Go renaming Addr->aU,World->au,Value->aC,TypeId->bF,Program->eX,TypeInfo->nS,run_underlying->dJ,Oper->je,Act->qY,Exit->zW,Operand->pR,wpList_plain->sU,Calls->aQ,DataW->zI,MemPlace->sV,cell_of_row->sW,heap_alloc_new->GX,setRow_heap->rG,Field->oh,Sem->xA,Ending->lu,run_storeAt_new->yY,run_storeAt_mid->El,run_equalIn_struct->zB,results_cell_tmp->KR,run_callFunc_extern->yH,bodyPost_ret->aO,wpQuiet_nil->gN,run_equal_slice_nil->jf,mem_ready->kF,getD_replicate_false->mR,underlying->Go.k
open Go.Addr renaming add->qH,add_mid->iH
open Go.BoundsCode renaming toNat->Go.BoundsCode.e
open Go.Builtin renaming append_->Ag,firstCells->tT,copy_->qI,zeroCells->nZ
open Go.Calls renaming mono->Go.Calls.g
open Go.DataW renaming trod->mq,slice->Go.DataW.a,agg->Go.DataW.d
open Go.Ending renaming returned->Go.Ending.a
open Go.Field renaming name->Go.Field.E,offset->Go.Field.Z,type->Go.Field.p
open Go.FloatKind renaming f64->kW
open Go.Func renaming name->Go.Func.E
open Go.Instr renaming loadAt->cZ,buildSlice->bK,fill->fD,build->fM,storeAt->eU,sureAddr->yR,slice->Go.Instr.a
open Go.IntKind renaming min->JI,max->JJ,signed->lZ,bits->nY,i64->bU,u64->jB,wrap_u64->jT,wrap->vK,u16->Dz,i64->Go.IntKind.a,u8->Go.IntKind.b,u64->Go.IntKind.c
open Go.Lib renaming hid->ah,compareBytes->iE
open Go.Lit renaming int->Go.Lit.b,bool->Go.Lit.e,string->Go.Lit.g
open Go.Obj renaming cells->Go.Obj.D
open Go.Op renaming eqItems->Kt,equalIn->jk,eqFields->wu,bytesLess->bR,slice->Go.Op.a
open Go.Oper renaming wp->nI,dst->Go.Oper.Y,type->Go.Oper.p
open Go.Program renaming cellsOf->Ai,fieldsOf->jS,underlying->Go.Program.k,cellsOf->Go.Program.a
open Go.Proofs.Tryz renaming prog->aj,underlying56->cu,underlying4->nU,underlying9->iR,underlying3->gY,underlying100->nQ,underlying33->rY,underlying5->lF,underlying62->lS,underlying27->fC,underlying25->Fq,underlying22->qp,func125->Cq,ntmps125->Al,underlying30->jo
open Go.Region renaming wanted->fF,ready->gF,binds->qJ,lexTailB->xD
open Go.Result renaming andThen_ok->gT,andThen->iI
open Go.RowKit renaming Below->aM
open Go.RowKit.Below renaming heap_setCell->ru,refl->aH,size->Go.RowKit.Below.j,mono->Go.RowKit.Below.g,setCell->Go.RowKit.Below.G
open Go.RowKit.Hid renaming out->Go.RowKit.Hid.i
open Go.Sem renaming run_bind->jM,run_pure->oD,run->JL,run->Go.Sem.J
open Go.Tables renaming info?->Go.Tables.l
open Go.TypeDesc renaming slice->Go.TypeDesc.a,int->Go.TypeDesc.b,pointer->Go.TypeDesc.c,bool->Go.TypeDesc.e,tuple->Go.TypeDesc.K,string->Go.TypeDesc.g,struct->Go.TypeDesc.d
open Go.TypeInfo renaming size->Go.TypeInfo.j
open Go.Value renaming int->aJ,agg->cK,string->jl,bool->bQ,oneCell'->dx,float->Aj,cells->bZ,cells->Go.Value.D,slice->Go.Value.a,int->Go.Value.b,pointer->Go.Value.c,agg->Go.Value.d,bool->Go.Value.e,tuple->Go.Value.K,ownBlock->Go.Value.f,oneCell'->Go.Value.h,string->Go.Value.g
open Go.World renaming cell?_alloc_lt->vJ,cell?_setCell_other->wm,setCell->iw,cell?->Em,frozen?->su,setCells->Dc,ownsRow_nil->fB,ownsRow_lit->lN,heap->Go.World.a,cell?->Go.World.b,setCell->Go.World.G,ownsRow->Go.World.c,there->Go.World.O,grownBy->Go.World.d
open Go.World.grownBy renaming size->Go.World.grownBy.j
open Go.World.ownsRow renaming cells->Go.World.ownsRow.D
open Ieee renaming double->tZ
open Int renaming lt_or_le->wH,natCast_emod->Ip,toNat->Int.e
open List renaming getElem?_eq_getElem->aD,getElem?_drop->jq,length_take->bL,getElem?_eq_none->aT,mem_map->iX,getElem?_map->jm,getD_eq_getElem?_getD->av,eq_nil_of_length_eq_zero->bG,map_map->Ir,map_cons->kK,range->dS,foldl_cons->jW,length_cons->bD,take_succ_eq_append_getElem->dV,take_of_length_le->aL,mem_append_left->Ay,append_nil->uI,getElem?_toArray->dY,map_congr_left->Ck,mem_range->eG,zipIdx_cons->Hz,length_set->aW,take_append_drop->iK,ext_getElem?->iN,flatMap_cons->iO,getElem?_append_left->mX,getElem?_append_right->rD,length_append->aS,ofFn->H9,drop_eq_getElem_cons->kS,getElem_mem->eY,getElem?_append->kR,nil_append->dG,all_eq_true->fV,findIdx?_eq_some_iff_getElem->ig,append_assoc->dF,take_append_of_le_length->gJ,drop_of_length_le->iY,mem_cons->bE,replicate->eu,getElem?_range->wO,set_cons_succ->bI,getElem?_set->fI,pairwise_cons->gU,length->List.a,toArray->List.b,getD->List.c,take->List.d,drop->List.f,flatMap->List.h,below->List.S
open Nat renaming add_assoc->nG,mul_le_mul_right->bY,lt_or_ge->aZ,eq_zero_or_pos->eD,le_trans->aP,lt_of_lt_of_le->eZ,le_refl->ay,zero_add->bl,shiftLeft_eq->mO,pow_le_pow_right->nV,min_eq_left->oI,min_eq_right->Ah,lt_succ_self->mP,mul_one->gL,succ_mul->Dg,mul_comm->Dh,div_lt_iff_lt_mul->zX,mod_lt->fH,add_zero->nM,add_comm->lV,two_pow_pos->nO,pow_add->oJ,ne_of_gt->uD,le_of_lt_succ->FK,zero_mul->JK,mod_eq_of_lt->fP,div_le_self->Ku,min->qw,mul_le_mul->gP,succ_pos->kX,below->Nat.S
open Ne renaming symm->jy
open Option renaming map_some->mo,getD_some->jE,getD->Option.c
open Option.some renaming injEq->re
open Or renaming inl->Or.a,inr->Or.b
open UInt8 renaming ofNat->aK,toNat_ofNat'->Df,toNat_inj->mE,lt_iff_toNat_lt->zK,lt_irrefl->kE,lt_trans->sZ,toNat->UInt8.e,toNat_lt->UInt8.a
open Vector renaming ofFn->Ej,replicate->bH,toList->Vector.a
namespace Go.Proofs.YtkjojjopamaoiaaGreat
open Go.RowKit
abbrev gy(w:World)(v:Value):Ending->World->Prop:=fun e w'=>e=.returned v/\Below w.heap.size w w'
abbrev aB:Value:=.int .u8 0
abbrev bg:Value:=.int .i64 0
theorem sQ{α:Type _}(x:α):∃y,x=y:=⟨_,rfl⟩
theorem dw{α:Type _}(x:α):∃y,y=x:=⟨_,rfl⟩

theorem aoP(a b:Nat):((a:Int)==(b:Int))=(a==b):=by rw[cB];simp;omega
theorem Bh(a:aU)(n:Nat):(a.add n).block=a.block:=by unfold qH;split<;>rfl
theorem ab4(a:aU)(i j:Nat):(a.add i).add j=a.add (i+j):=by
 unfold qH;by_cases hi:i=0<;>by_cases hj:j=0<;>simp[hi,hj,nG]
theorem OP(a:aU):a.add 0=a:=by unfold qH;simp
def Rd(w:au)(B size:Nat)(A:Option aU)(n:Nat)(xs:List aC):Prop:=
 xs.a=n*size/\(0<n->∃a,A=some a/\a.block<B/\∀j u,xs[j]? = some u->w.b (a.add j)=some u)
section
variable {w w':au} {B B' size n:Nat} {A:Option aU} {xs:List aC}
theorem Rd.nil:Rd w B size A 0 []:=⟨by simp,fun h=>absurd h (by omega)⟩
theorem Rd.pick{k:Nat}(h:Rd w B 1 A n xs)(hk:k<n):∃a u,A=some a/\a.block<B/\xs[k]? = some u/\w.b (a.add k)=some u:=by
 obtain⟨a,e,hb,hc⟩:=h.2 (by omega);have hl:k<xs.a:=by have:=h.1;omega
 exact⟨a,xs[k],e,hb,aD hl,hc k _ (aD hl)⟩
theorem Rd.keep(h:Rd w B size A n xs)(hk:∀p:aU,p.block<B->w'.b p=w.b p):Rd w' B size A n xs:=
 ⟨h.1,fun hn=>by
  obtain⟨a,e,hb,hc⟩:=h.2 hn;exact⟨a,e,hb,fun j u hu=>(hk _ (by rw[Bh];exact hb)).trans (hc j u hu)⟩⟩
theorem Rd.lH(h:Rd w B size A n xs)(hB:B<=B'):Rd w B' size A n xs:=
 ⟨h.1,fun hn=>by
  obtain⟨a,e,hb,hc⟩:=h.2 hn;exact⟨a,e,by omega,hc⟩⟩
theorem Rd.S(h:Rd w B size A n xs)(hb:aM B w w'):Rd w' B size A n xs:=h.keep fun _ hp=>hb.cell hp
theorem Rd.to{C:Nat}(h:Rd w B size A n xs)(hb:aM C w w')(hC:B<=C):Rd w' B size A n xs:=h.keep fun _ hp=>hb.cell (by omega)
theorem Rd.alloc(h:Rd w B size A n xs)(hB:B<=w.a.j)(o:Obj):Rd (w.alloc o) B size A n xs:=h.keep fun p hp=>vJ w o p (by omega)
theorem Rd.G(h:Rd w B size A n xs){p:aU}(hB:B<=p.block)(u:aC):Rd (w.G p u) B size A n xs:=
 h.keep fun q hq=>wm w p q u (fun e=>by subst e;omega)
theorem Rd.cut(h:Rd w B size A n xs){k cap:Nat}(hk:k<=n)(hc:n<=cap):
 Rd w B size (if cap=k then A else A.map (·.add (k*size))) (n-k) (xs.f (k*size)):=by
 refine⟨by rw[List.length_drop,h.1,Nat.sub_mul],fun hn=>?_⟩;obtain⟨a,rfl,hb,hcell⟩:=h.2 (by omega);rw[if_neg (by omega)];refine⟨a.add (k*size),rfl,by rw[Bh];exact hb,fun j u hu=>?_⟩;rw[ab4];exact hcell _ u (by rw[<-hu,jq])
theorem Rd.upto(h:Rd w B size A n xs){k:Nat}(hk:k<=n):Rd w B size A k (xs.d (k*size)):=by
 refine⟨by rw[bL,h.1];have:=bY size hk;omega,fun hn=>?_⟩;obtain⟨a,rfl,hb,hcell⟩:=h.2 (by omega);refine⟨a,rfl,hb,fun j u hu=>?_⟩;rcases aZ j (k*size)with h1|h1
 ·rw[List.getElem?_take_of_lt h1]at hu
  exact hcell j u hu
 ·rw[aT (by rw[bL];omega)]at hu;cases hu
theorem Rd.gV{base:Nat}{e:bF}{c:Nat}(h:w.c base e size (.a A n c) n xs):Rd w w.a.j size A n xs:=by
 refine⟨h.1,fun hn=>?_⟩;rcases h.2 with⟨_,h0⟩|⟨g,cap,cur,hv,_,_,_,_,_,_⟩
 ·omega
 ·injection hv with hA _ _
  have hl:=(h.lt g (by rw[hA];rfl)).2;exact⟨⟨g,0,none⟩,hA,hl,h.D (by rw[hA];rfl)⟩
end
def bv(b:UInt8):aC:=.b .b (b.e:Nat)
theorem Di(l:List UInt8):∀u∈l.map bv,u.h=true:=by
 intro u hu;obtain⟨b,_,rfl⟩:=iX.1 hu;rfl
def fZ(w:au)(B:Nat)(A:Option aU)(n:Nat)(l:List UInt8):Prop:=Rd w B 1 A n (l.map bv)
section
variable {w w':au} {B B' n:Nat} {A:Option aU} {l:List UInt8}
theorem fZ.len(h:fZ w B A n l):l.a=n:=by have:=h.1;simpa using this
theorem fZ.fG(h:fZ w B A n l){k:Nat}(hk:k<n):∃a,A=some a/\a.block<B/\w.b (a.add k)=some (bv (l.c k 0)):=by
 obtain⟨a,u,e,hb,hu,hc⟩:=Rd.pick h hk;refine⟨a,e,hb,?_⟩;rw[hc];have hl:=h.len;rw[jm,aD (by omega)]at hu;simp only[mo,re]at hu;rw[<-hu,av,aD (by omega)];rfl
theorem fZ.S(h:fZ w B A n l)(hb:aM B w w'):fZ w' B A n l:=Rd.S h hb
theorem fZ.to{C:Nat}(h:fZ w B A n l)(hb:aM C w w')(hC:B<=C):fZ w' B A n l:=Rd.to h hb hC
theorem fZ.lH(h:fZ w B A n l)(hB:B<=B'):fZ w B' A n l:=Rd.lH h hB
theorem fZ.alloc(h:fZ w B A n l)(hB:B<=w.a.j)(o:Obj):fZ (w.alloc o) B A n l:=Rd.alloc h hB o
theorem fZ.G(h:fZ w B A n l){p:aU}(hB:B<=p.block)(u:aC):fZ (w.G p u) B A n l:=Rd.G h hB u
theorem fZ.akQ{b c:Nat}{t:bF}{N:Nat}{f:Nat->aC}(h:w.rowIs b t N f)(hn:l.a<=N)(hb:b<B)(hf:∀j,j<l.a->f j=bv (l.c j 0)):fZ w B (some ⟨b,0,none⟩) l.a l:=by
 refine⟨by simp,fun h0=>⟨⟨b,0,none⟩,rfl,hb,fun j u hu=>?_⟩⟩;have hj:j<l.a:=by
  rcases aZ j l.a with h1|h1
  ·exact h1
  ·rw[aT (by simpa using h1)]at hu;cases hu
 have e:(⟨b,0,none⟩:aU).add j=⟨b,j,none⟩:=by unfold qH;split<;>simp_all
 rw[e,h.cell (by omega),hf j hj];rw[jm,aD hj]at hu;simp only[mo,re]at hu;rw[<-hu,av,aD hj];rfl
end
def bP(l:List UInt8):ByteArray:=⟨l.b⟩
theorem Qo(s:ByteArray):bP s.data.a=s:=by cases s;rfl
theorem IE{P:eX}{w:au}{B:Nat}{A:Option aU}{n:Nat}{l:List UInt8}(h:fZ w B A n l)(src e dst:bF)
 (hs:P.k src=some (.a e)) (he:P.k e=some (.b .b)) (hd:P.k dst=some .g) (c:Nat) :
 (convert src dst (.a A n c)).J P w=.ok (.g (bP l)) w:=by
 have hlen:=h.len;cases A with
 | none=>
   have h0:n=0:=by
    rcases eD n with h0|h0
    ·exact h0
    ·obtain⟨a,ha,_⟩:=h.2 h0;cases ha
   have hl:l=[]:=bG (by omega);subst hl;rw[run_convert_bytes_nil w src e hs he n c dst hd];rfl
 | some a=>
   have hld:(loadCells a n).J P w=.ok ((l.map fun b=>(b.e:Int)).map (aJ .b)).b w:=by
    have hm:(l.map fun b=>(b.e:Int)).map (aJ .b)=l.map bv:=by rw[Ir];rfl
    rw[hm];have:=run_loadCells_list (P:=P) w a (l.map bv) (fun j v hj=>by
     have hn:0<n:=by
      rcases eD n with h0|h0
      ·have hl:l=[]:=bG (by omega)
       subst hl;simp at hj
      ·exact h0
     obtain⟨a',ha,_,hc⟩:=h.2 hn;injection ha with ha
     subst ha;exact hc j v hj)
    simpa[hlen]using this
   rw[run_convert_bytes_string w src dst e _ n c hs he hd,run_bytesToString w _ n c _ hld,foldl_push_bytes];simp[bP,ByteArray.empty,ByteArray.emptyWithCapacity,Ir,Function.comp_def];rfl
theorem Az{a w:au}{row:Option Nat}(h:a.d w row):a.d w.drew row:=⟨h.os,h.tape,h.output,h.j,h.block⟩
theorem xU{a w:au}{g:Nat}(h:a.d w (some g)){p:aU}(hp:p.block=g\/a.a.j<=p.block)(u:aC):a.d (w.G p u) (some g):=
 ⟨h.os,h.tape,h.output,by simpa[iw]using h.j,fun i hi hne=>(ru w p u i (by
  rintro rfl;rcases hp with hp|hp
  ·exact hne (by rw[hp])
  ·omega)).trans (h.block i hi hne)⟩
theorem MH{a b c:au}{row:Option Nat}(h:a.d b row)(k:b.d c row):a.d c row:=
 ⟨k.os.trans h.os,k.tape.trans h.tape,k.output.trans h.output,aP h.j k.j,fun i hi hne=>(k.block i (eZ hi h.j) hne).trans (h.block i hi hne)⟩
theorem qM{B:Nat}{a b c:au}{g:Nat}(h:aM B a b)(k:b.d c (some g))(hg:B<=g)(hB:B<=b.a.j):aM B a c:=
 h.grown k hB (fun x hx=>by injection hx with hx;omega)
theorem fJ{B:Nat}{a w:au}(h:aM B a w)(n:Nat):aM B a (w.drewN n):=⟨h.os,h.tape,h.output,h.j,h.block⟩
theorem iZ{w a b:au}(h1:aM w.a.j w a)(h2:aM a.a.j a b):aM w.a.j w b:=h1.trans (h2.g h1.j)
theorem aoQ{w a b:au}(h1:aM w.drew.a.j w.drew a)(h2:aM a.a.j a b):aM w.a.j w b:=
 have h:aM w.a.j w a:=⟨h1.os,h1.tape,h1.output,h1.j,h1.block⟩
 h.trans (h2.g h1.j)
theorem aoR(l r:List UInt8):(l==r)=decide (l=r):=by rw[cB];simp
theorem dig(n:Nat)(h:n<256):(aK n).e=n:=by simp[UInt8.toNat_ofNat];omega
theorem jw{w:au}{base:Nat}{e:bF}{size:Nat}{v:aC}{n:Nat}{xs:List aC}(h:w.c base e size v n xs):∃A cap,v=.a A n cap/\n<=cap/\cap<=maxLen:=by
 rcases h.2 with⟨rfl,rfl⟩|⟨g,cap,cur,rfl,_,_,h1,h2,_,_⟩
 ·exact⟨_,_,rfl,ay _,by unfold maxLen;omega⟩
 ·exact⟨_,_,rfl,h1,h2⟩
section
variable {P:eX} (w:au)
theorem ab5(base:Nat)(t ty e:bF)(i:nS)(size:Nat)(ht:P.k t=some (.a e))(hi:P.l e=some i)
 (v:aC) (n:Nat) (xs:List aC) (hown:w.c base e size v n xs) (c:Nat):(Ag #[t,t] ty #[v,.a none 0 c]).J P w=.ok v w:=by
 rcases hown.2 with⟨rfl,rfl⟩|⟨g,cap,cur,rfl,_,_,hnc,_⟩
 ·simp[Ag,dJ ht,sizeOf,typeInfo,hi,Builtin.lenOf,tT]
 ·simp[Ag,dJ ht,sizeOf,typeInfo,hi,Builtin.lenOf,tT,hnc,storeCells]
theorem aeQ(base:Nat)(t ty e:bF)(i:nS)(z:aC)(size bytes:Nat)(ht:P.k t=some (.a e))(hi:P.l e=some i)(hz:i.zero=some z)
 (hsize:i.j=size) (hby:i.bytes=bytes) (hzs:z.D.j=size) (hsz:0<size)
 (v:aC) (n:Nat) (xs:List aC) (hown:w.c base e size v n xs)
 (B:Nat) (A:Option aU) (m c:Nat) (news:List aC) (hr:Rd w B size A m news) (h1:∀u∈news,u.h=true)
 (h63:n+m<=maxLen) (hbytes:(n+m)*bytes<=140737488355328) (hbase:base<=w.a.j) :
 ∃v' w',(Ag #[t,t] ty #[v,.a A m c]).J P w=.ok v' w'/\w'.c base e size v' (n+m) (xs++news)/\w.d w' v.f /\
  (v'.f=v.f\/v'.f=some w.a.j):=by
 rcases A with _|ad
 ·have hm:m=0:=by
   rcases eD m with h0|h0
   ·exact h0
   ·obtain⟨ad,h,_⟩:=hr.2 h0
    cases h
  subst hm;have hn:news=[]:=bG (by simpa using hr.1);subst hn;exact⟨v,w,ab5 w base t ty e i size ht hi v n xs hown c,by simpa using hown,World.grownBy.refl w _,.a rfl⟩
 ·have hcells:∀j u,news[j]? = some u->w.b (ad.add j)=some u:=by
   intro j u hu;rcases eD m with h0|h0
   ·subst h0
    have hn:news=[]:=bG (by simpa using hr.1);subst hn;simp at hu
   ·obtain⟨ad',h,_,hc⟩:=hr.2 h0
    injection h with h
    subst h;exact hc j u hu
  obtain⟨v',w',hrun,h2,h3,_,h5⟩:=run_append_own_at (P:=P) w base t ty e i z size bytes ht hi hz hsize hby hzs hsz v n xs hown ad m c news hr.1 hcells h1 h63 hbytes hbase;exact⟨v',w',hrun,h2,h3,h5⟩
theorem JU{o:je}{a:qY}{K:qY->au->Prop}{Q:zW->qY->au->Prop}(s x:pR)(t:bF)
 (ho:o.op=.call {callee:=.builtin .append,args:=#[s,x],argTypes:=#[t,t]})
 (base:Nat) (e:bF) (i:nS) (z:aC) (size bytes:Nat) (ht:P.k t=some (.a e)) (hi:P.l e=some i) (hz:i.zero=some z)
 (hsize:i.j=size) (hby:i.bytes=bytes) (hzs:z.D.j=size) (hsz:0<size)
 (v:aC) (n:Nat) (xs:List aC) (hs:a.eval s=v) (hown:w.c base e size v n xs)
 (B:Nat) (A:Option aU) (m c:Nat) (news:List aC) (hx:a.eval x=.a A m c) (hr:Rd w B size A m news) (h1:∀u∈news,u.h=true)
 (h63:n+m<=maxLen) (hbytes:(n+m)*bytes<=140737488355328) (hbase:base<=w.a.j)
 (h:∀v' w',w'.c base e size v' (n+m) (xs++news)->w.d w' v.f->(v'.f=v.f\/v'.f=some w.a.j)->K (a.put o.Y v') w'):o.wp P a w K Q:=by
 obtain⟨v',w',hrun,h2,h3,h4⟩:=aeQ (P:=P) w base t o.p e i z size bytes ht hi hz hsize hby hzs hsz v n xs hown B A m c news hr h1 h63 hbytes hbase;unfold nI execOp;simp only[ho,resolve,invoke,builtin,jM,oD,gT,List.map_toArray,kK,List.map_nil,hs,hx,hrun];exact h v' w' h2 h3 h4
theorem iT{ops:Array je}{rest:List je}{o:je}{a:qY}{Q:zW->qY->au->Prop}(hgd:o.guard=none)(s x:pR)(t:bF)
 (ho:o.op=.call {callee:=.builtin .append,args:=#[s,x],argTypes:=#[t,t]})
 (base:Nat) (e:bF) (i:nS) (z:aC) (size bytes:Nat) (ht:P.k t=some (.a e)) (hi:P.l e=some i) (hz:i.zero=some z)
 (hsize:i.j=size) (hby:i.bytes=bytes) (hzs:z.D.j=size) (hsz:0<size)
 (v:aC) (n:Nat) (xs:List aC) (hs:a.eval s=v) (hown:w.c base e size v n xs)
 (B:Nat) (A:Option aU) (m c:Nat) (news:List aC) (hx:a.eval x=.a A m c) (hr:Rd w B size A m news) (h1:∀u∈news,u.h=true)
 (h63:n+m<=maxLen) (hbytes:(n+m)*bytes<=140737488355328) (hbase:base<=w.a.j)
 (h:∀v' w',w'.c base e size v' (n+m) (xs++news)->w.d w' v.f->(v'.f=v.f\/v'.f=some w.a.j)->wpList P ops Q rest (a.put o.Y v') w'):wpList P ops Q (o::rest) a w:=
 sU hgd fun _ hK=>JU w s x t ho base e i z size bytes ht hi hz hsize hby hzs hsz v n xs hs hown B A m c news hx hr h1 h63 hbytes hbase fun v' w' h2 h3 h4=>hK _ _ (h v' w' h2 h3 h4)
end
theorem FM:(aj.l 5).map (fun i=>(i.zero,i.j,i.bytes))=some (some (.b .b 0),1,1):=by kernel_rfl
def FP(n i:Nat):UInt8:=aK (n/2^(8*i))
def rQ(n k:Nat):List UInt8:=(dS k).map (FP n)
def iL(n k:Nat)(big:Bool):List UInt8:=if big then(rQ n k).reverse else rQ n k
theorem akR(f:Nat->Int)(k m n i:Nat)(hm:m+k+1=n)(hkm:k<m)(hi:i<n)(x y:Int)(hx:x=f k)(hy:y=f m):
 (if i=m then aJ .b x else if i=k then aJ .b y else aJ .b (if i<k\/n-k<=i then f (n-1-i)else f i)) =
  aJ .b (if i<k+1\/n-(k+1)<=i then f (n-1-i)else f i):=by
 subst hx hy;by_cases h1:i=m
 ·subst h1
  rw[if_pos rfl,if_pos (by omega)];congr 2;omega
 ·rw[if_neg h1]
  by_cases h2:i=k
  ·subst h2
   rw[if_pos rfl,if_pos (by omega)];congr 2;omega
  ·rw[if_neg h2]
   by_cases h3:i<k\/n-k<=i
   ·rw[if_pos h3,if_pos (by omega)]
   ·rw[if_neg h3,if_neg (by omega)]
theorem ab6(g n c:Nat)(f:Nat->Int)(w:au)(hb:w.rowIs g 5 n (fun j=>.b .b (f j)))(hn:n<=4611686018427387904):
 aQ aj 255 #[.a (some ⟨g,0,none⟩) n c] w fun e w'=>e=.a (.K #[]) /\
  w'.rowIs g 5 n (fun j=>.b .b (f (n-1-j)))/\w.d w' (some g):=by
 go_enter Tryz.func255,Tryz.ntmps255;go_wp2;go_loopw [2,3] (fun s2 s3 wr=>∃k:Nat,2*k<=n+1/\s2=.b .a k/\s3=.b .a ((n:Int)-1-k)/\wr.rowIs g 5 n (fun j=>.b .b (if j<k\/n-k<=j then f (n-1-j)else f j))/\w.d wr (some g)) (fun _ s3 _=>(intOf s3+1).e)
 case atStart=>exact⟨0,by omega,rfl,by simp,hb.congr (fun i hi=>by rw[if_neg (by omega)]),World.grownBy.refl _ _⟩
 case round=>
  obtain⟨k,hk,rfl,rfl,hrow,hg⟩:=hrel;by_cases hlt:(k:Int)<(n:Int)-1-k
  ·obtain⟨m,hm⟩:∃m:Nat,(n:Int)-1-k=m:=⟨n-1-k,by omega⟩
   have hm1:k<m:=by omega
   have hm2:m+k+1=n:=by omega
   rw[hm]at hlt ⊢;clear hm;have HM:=ah hm2;have c1:=hrow.cell (i:=k) (by omega);have c2:=hrow.cell (i:=m) (by omega);have f1:=hrow.frozen k;have f2:=hrow.frozen m;rw[if_neg (by omega)]at c1 c2;have hb1:(k:Int)<n:=by omega
   have hb2:(m:Int)<n:=by omega
   clear hm2;obtain⟨x,hx⟩:=dw (f k);obtain⟨y,hy⟩:=dw (f m);rw[<-hx]at c1;rw[<-hy]at c2;have HX:=ah hx;have HY:=ah hy;clear hx hy;have HR:=ah hrow;clear hrow;go_wp2;go_region
   all_goals go_wp2
   all_goals go_roundw
   case rel=>
    have hm2:=HM.i;refine⟨k+1,by omega,by go_num,by simp<;>omega,?_,?_⟩
    ·refine(((HR.i.drew.set k _).set m _)).congr (fun i hi=>?_)
     exact akR f k m n i hm2 hm1 hi x y HX.i HY.i
    ·exact xU (xU (Az hg) (.a rfl) _) (.a rfl) _
   case measure=>simp[intOf]<;>omega
  ·go_wp2
   go_end0;refine⟨rfl,hrow.congr (fun i hi=>?_),hg⟩;by_cases h1:i<k\/n-k<=i
   ·rw[if_pos h1]
   ·rw[if_neg h1]
    have:n-1-i=i:=by omega
    rw[this]
theorem ab7(n i:Nat):((FP n i).e:Int)=(n:Int)/2^(8*i)%256:=by
 unfold FP;simp[UInt8.toNat_ofNat]
theorem aoS(n k:Nat)(hk:k<=8)(hn:n<18446744073709551616)(big:Bool)(w:au):
 aQ aj 184 #[.b .c n,.b .a k,.e big] w fun e w'=>e=.a (.a (some ⟨w.a.j,0,none⟩) k k) /\
  w'.rowIs w.a.j 5 k (fun j=>bv ((iL n k big).c j 0))/\aM w.a.j w w':=by
 have hmk:=run_make_row' (P:=aj) 56 5 (.b .b 0) 1 cu FM rfl .a .a k (by omega) (by omega);go_enter Tryz.func184,Tryz.ntmps184;go_wp2;go_loopw [15] (fun s15 wr=>∃i:Nat,i<=k/\s15=.b .a i/\wr.rowIs w.a.j 5 k (fun j=>if j<i then bv (FP n j)else .b .b 0)/\aM w.a.j w wr) (fun s15 _=>k-(intOf s15).e)
 case atStart=>
  refine⟨0,by omega,rfl,?_,(aH _ _).alloc (ay _) _⟩;exact(World.rowIs_made w (.b .b 0) k _).congr (fun i hi=>by simp)
 case round=>
  obtain⟨i,hi,rfl,hrow,hb⟩:=hrel;by_cases hlt:i<k
  ·have c1:=hrow.cell hlt
   have f1:=hrow.frozen i;rw[if_neg (by omega)]at c1;have hlb:=ab7 n i;have HL:=ah hlb;have HR:=ah hrow;have HB:=ah hb;clear hlb hrow hb hmk;go_wp2;go_roundw
   case rel=>
    refine⟨i+1,by omega,by go_num,?_,?_⟩
    ·refine(HR.i.set i _).congr (fun j hj=>?_)
     by_cases e:j=i
     ·subst e
      rw[if_pos rfl,if_pos (by omega)];unfold bv;rw[HL.i]
     ·rw[if_neg e]
      by_cases e2:j<i
      ·rw[if_pos e2,if_pos (by omega)]
      ·rw[if_neg e2,if_neg (by omega)]
    ·exact HB.i.G (ay _) _
   case measure=>simp[intOf]<;>omega
  ·obtain rfl:i=k:=by omega
   have HB:=ah hb;clear hb hmk;cases big
   ·have HR:=ah hrow
    clear hrow;go_wp2;go_ret;refine⟨rfl,HR.i.congr (fun j hj=>?_),HB.i⟩;rw[if_pos hj];simp[iL,rQ,av,hj]
   ·have hrow2:wr.rowIs w.a.j 5 i (fun j=>.b .b ((FP n j).e:Nat)):=hrow.congr (fun j hj=>by rw[if_pos hj];rfl)
    have hrev:=fun c=>ab6 w.a.j i c (fun j=>((FP n j).e:Nat)) wr hrow2 (by omega)
    clear hrow hrow2;go_wp2_with (go_at_call 255;refine(hrev _).g ?_;rintro e w' ⟨rfl,hr',hg'⟩);go_ret;refine⟨rfl,hr'.congr (fun j hj=>?_),qM HB.i hg' (ay _) HB.i.j⟩;simp[iL,rQ,av,List.getElem?_reverse,hj,bv]
def oL(l:List UInt8):Nat:=l.foldl (fun a c=>a*256+c.e) 0
theorem IG(l:List UInt8)(c:UInt8):oL (l++[c])=oL l*256+c.e:=by simp[oL]
theorem JV(l:List UInt8):oL l<256^l.a:=by
 have key:∀(l:List UInt8)(a k:Nat),a<256^k->l.foldl (fun a c=>a*256+c.e) a<256^(k+l.a):=by
  intro l
  induction l with
  | nil=>intro a k h;simpa using h
  | cons c l ih=>
    intro a k h;have:=ih (a*256+c.e) (k+1) (by rw[Nat.pow_succ];have:=c.a;omega);simp only[jW,bD];rw[show k+(l.a+1)=k+1+l.a by omega];exact this
 have:=key l 0 0 (by simp);rw[bl]at this;exact this
theorem Ud(l:List UInt8)(k:Nat)(h:k<l.a):l.d (k+1)=l.d k++[l.c k 0]:=by
 rw[dV h,av,aD h];rfl
theorem ag1(a c:Nat)(ha:a*256<18446744073709551616)(hc:c<256):bits .or .c ((a:Int)*256) (c:Int)=((a*256+c:Nat):Int):=by
 rw[show(a:Int)*256=((a*256:Nat):Int)by omega,bits_or_u64_nat _ _ ha (by omega)];rw[show a*256=a <<< 8 by rw[mO],Nat.shiftLeft_add_eq_or_of_lt (by omega)]
theorem MI(A:Option aU)(n c:Nat)(l:List UInt8)(w:au)(hnc:n<=c)(hc:c<=9223372036854775807)(hr:fZ w w.a.j A n l):
 aQ aj 180 #[.a A n c,.e true] w (gy w (.b .c (oL (l.d 8)))):=by
 have hlen:=hr.len;have hr2:=hr.alloc (ay _) (.D #[.b .c 0] 92);obtain⟨m,hm,hm8,hmn⟩:∃m:Nat,(if(8:Int)<(n:Int)then(8:Int)else(n:Int))=m/\m<=8/\m<=n:=⟨min n 8,by split<;>omega,by omega,by omega⟩
 have hmm:m=min n 8:=by split at hm<;>omega
 have HMM:=ah hmm;have hnl:n<=l.a:=by omega
 have HLEN:=ah hlen;clear hlen hmm;go_enter Tryz.func180,Tryz.ntmps180;go_wp2;have HM:=ah hm;clear hm;go_loopw [18] (fun s18 wr=>∃i:Nat,i<=m/\s18=.b .a i/\wr.rowIs w.a.j 92 1 (fun _=>.b .c (oL (l.d i)))/\fZ wr w.a.j A n l/\aM w.a.j w wr) (fun s18 _=>m-(intOf s18).e)
 case atStart=>exact⟨0,by omega,rfl,(World.rowIs_alloc w #[.b .c 0] _ _ (fun i hi=>by simp at hi;subst hi;rfl)),hr2,(aH _ _).alloc (ay _) _⟩
 case round=>
  obtain⟨i,hi,rfl,hrow,hrd,hb⟩:=hrel;by_cases hlt:i<m
  ·obtain⟨a,rfl,hab,hcell⟩:=hrd.fG (k:=i) (by omega)
   have c1:=hrow.cell (i:=0) (by omega);have f1:=hrow.frozen 0;have hbn:=JV (l.d i);have hsn:=IG (l.d i) (l.c i 0);rw[<-Ud l i (by omega)]at hsn;have XQ:oL (l.d i)*256<18446744073709551616:=by
    have h1:(l.d i).a<=7:=by rw[bL];omega
    have h2:256^(l.d i).a<=256^7:=nV (by omega) h1;omega
   have hor:=ag1 (oL (l.d i)) (l.c i 0).e XQ (l.c i 0).a;have DV:=ah hsn;have HR:=ah hrow;have HD:=ah hrd;have HB:=ah hb;have aif:=(l.c i 0).a;unfold bv at hcell;generalize(l.c i 0).e=ch at hcell hor aif DV;generalize oL (l.d i)=nn at c1 XQ hor DV HR;clear hrow hrd hb hsn hbn hr hr2;go_wp2;go_roundw
   case rel=>
    refine⟨i+1,by omega,by go_num,?_,?_,?_⟩
    ·refine(HR.i.set 0 _).congr (fun j hj=>?_)
     rw[if_pos (by omega),DV.i];go_num
    ·exact HD.i.G (ay _) _
    ·exact HB.i.G (ay _) _
   case measure=>simp[intOf]<;>omega
  ·obtain rfl:i=m:=by omega
   have c1:=hrow.cell (i:=0) (by omega);have HB:=ah hb;clear hrow hrd hb hr hr2;go_wp2;go_ret;refine⟨?_,HB.i⟩;have hmm:=HMM.i;have hlen:=HLEN.i;have e:l.d 8=l.d i:=by
    rw[hmm];by_cases h8:n<=8
    ·rw[oI h8,aL (by omega),aL (by omega)]
    ·rw[Ah (by omega)]
   rw[e];rfl
section
open Go.ChangeShapes Go.WideShapes Go.ChangeAt Go.RowKit
theorem vD:ownKnob aj.godebug=none:=by kernel_rfl
theorem ag2:laidOutB aj=true:=by kernel_rfl
section
variable {H:Type} {enc:bF×aC->H} {P:eX}
theorem KV(hl:laidOutB P=true){W W':au}(hb:aM W.a.j W W'):∀{ts:List bF} {vs:List aC} {ds:List (zI H)} {ps:List sV},
 (ts.all fun t=>P.readableRec t&&decide (t<P.types.j))=true->(∀x∈ps,x.block<W.a.j) ->
 DataW.TrodAll enc P W 0 (fun _=>true) true ts vs ds ps->DataW.TrodAll enc P W' 0 (fun b=>decide (b<W.a.j)) true ts vs ds ps
 | [],vs,ds,ps,_,_,h=>by
   obtain⟨rfl,rfl,rfl⟩:=trodAll_nil h;exact trodAll_mk0
 | t::ts,vs,ds,ps,hr,hlt,h=>by
   obtain⟨v,vs',d,ds',p,q,rfl,rfl,rfl,h1,h2⟩:=trodAll_cons h;simp only[List.all_cons,bB,decide_eq_true_eq]at hr;exact trodAll_cons_mk (Below.trod hl hr.1.1 hr.1.2 h1 hb (fun x hx=>hlt x (Ay _ hx)))
    (KV hl hb hr.2 (fun x hx=>hlt x (List.mem_append_right _ hx)) h2)
theorem akT{f:Func}{s:ChangeSpec}(hl:laidOutB P=true){W W':au}{args:Array aC}{ds gs:List (zI H)}{before:List sV}
 (hvars:s.vars=[]) (hr:(f.params.a.all fun t=>P.readableRec t&&decide (t<P.types.j))=true) (T:bF) (hT:P.k T=some .e) (hres:f.resultTypes = #[T])
 (hW:DataW.Whole enc P f.params.a s.vars false W args.a ds gs before)
 (hs:s.fn H ds={results:=[.lit (.e true)],args:=ds})
 (hb:aM W.a.j W W'):s.post enc P f false true false false W args (.e true) W':=by
 have hlt:∀p∈before,p.block<W.a.j:=fun p hp=>hW.lt p hp
 have hW':=hW;obtain⟨p,q,hA,hV,rfl,hfz,hnd⟩:=hW;rw[hvars]at hV;obtain⟨rfl,rfl⟩:=trodVars_none hV;refine⟨ds,[],p++[],[],p,[],hW',?_,?_,?_,?_,fun h=>by cases h⟩
 ·rw[uI,hs,hres]
  exact trodAll_mk1 (shut_bool hT true)
 ·rw[uI,hs]
  exact KV hl hb hr (fun x hx=>hlt x (Ay _ hx)) hA
 ·rw[uI,hs,hvars]
  rfl
 ·exact hb.frame _
end
end
@[go_sem,simp]theorem KW(l:List UInt8):(bP l).a=l:=ByteArray.toList_mk l
@[go_sem,simp]theorem Dj(l:List UInt8):(bP l).j=l.a:=by simp[bP,ByteArray.size]
def sF(w:au)(e:bF)(s:List UInt8):au:=Lib.bytesWorld w e (bP s)
theorem He(w:au)(e:bF)(s:List UInt8):aM w.a.j w (sF w e s):=
 ⟨rfl,rfl,rfl,by unfold sF;rw[Lib.bytesWorld_size];omega,fun k hk=>Lib.bytesWorld_at_old w e _ k hk⟩
theorem Hf(w:au)(e:bF)(s:List UInt8):fZ (sF w e s) (w.a.j+1) (some ⟨w.a.j,0,none⟩) s.a s:=by
 refine⟨by simp,fun _=>⟨_,rfl,mP _,fun j u hu=>?_⟩⟩;have hj:j<s.a:=by
  rcases aZ j s.a with h1|h1
  ·exact h1
  ·rw[aT (by simpa using h1)]at hu;cases hu
 have e1:(⟨w.a.j,0,none⟩:aU).add j=⟨w.a.j,j,none⟩:=by unfold qH;split<;>simp_all
 rw[e1];unfold sF;rw[Lib.bytesWorld_cell w e _ j (by rw[Dj];exact hj)];rw[jm,aD hj]at hu;simp only[mo,re]at hu;rw[<-hu];simp[bP,bv,av,hj]
theorem II{P:eX}(src dst e:bF)(hs:P.k src=some .g)(hd:P.k dst=some (.a e))(he:P.k e=some (.b .b))(s:List UInt8)(w:au):
 (convert src dst (.g (bP s))).J P w=.ok (.a (some ⟨w.a.j,0,none⟩) s.a (grownCap w s.a 0 e)) (sF w e s):=by
 have:=Lib.run_convert_string_bytes (P:=P) w src dst e (bP s) hs hd he;rw[Dj]at this;exact this
section
open Go.RowKit Go.ChangeShapes Go.WideShapes Go.ChangeAt Go.Deep
def fv(n:Nat):aC:=.float .f64 n
@[go_sem]theorem aGo(n:Nat):fv n=.float .f64 n:=rfl
section
variable {P:eX}
theorem ni(w:au)(c:Array aC)(t:bF)(j:Nat):(w.alloc (.D c t)).b ⟨w.a.j,j,none⟩=c[j]?:=
 sW _ _ j c t (0,0) (heap_alloc_last w _)
end
def vE(W:au)(b o n:Nat):Prop:=∀j,j<n->∃v,W.b ⟨b,o+j,none⟩=some v
def dQ(W:au)(b o n:Nat):Array aC:=((dS n).map fun j=>(W.b ⟨b,o+j,none⟩).c undef).b
theorem FQ(W:au)(b o n:Nat):(dQ W b o n).j=n:=by simp[dQ]
theorem IJ(W:au)(b o n j:Nat)(hj:j<n):(dQ W b o n)[j]? = some ((W.b ⟨b,o+j,none⟩).c undef):=by
 simp[dQ,dY,hj]
theorem wT{W:au}{b o n:Nat}{c:Array aC}(hn:c.j=n)(h:∀j,j<n->W.b ⟨b,o+j,none⟩=c[j]?):vE W b o n/\dQ W b o n=c:=by
 subst hn;constructor
 ·intro j hj
  exact⟨c[j],by rw[h j hj];exact dK hj⟩
 ·apply eB
  intro j;rcases aZ j c.j with hj|hj
  ·rw[IJ _ _ _ _ _ hj,h j hj,dK hj];rfl
  ·rw[aV (by rw[FQ];exact hj),aV hj]
theorem Bt{W W':au}{b o n:Nat}(h:∀j,j<n->W'.b ⟨b,o+j,none⟩=W.b ⟨b,o+j,none⟩):dQ W' b o n=dQ W b o n:=by
 unfold dQ;congr 1;refine Ck (fun j hj=>?_);rw[h j (eG.1 hj)]
@[go_sem]theorem axy(W:au)(b o n:Nat):vE W.drew b o n=vE W b o n:=by rw[eq_iff_iff];exact Iff.rfl
@[go_sem]theorem aoT(W:au)(b o n:Nat):dQ W.drew b o n=dQ W b o n:=rfl
@[go_sem]theorem awl(W:au)(k b o n:Nat):vE (W.drewN k) b o n=vE W b o n:=by rw[eq_iff_iff];exact Iff.rfl
@[go_sem]theorem aos(W:au)(k b o n:Nat):dQ (W.drewN k) b o n=dQ W b o n:=rfl
@[go_sem]theorem aot(W:au)(ob:Obj)(b o n:Nat)(hb:b<W.a.j):dQ (W.alloc ob) b o n=dQ W b o n:=
 Bt fun j _=>vJ W ob _ hb
@[go_sem]theorem aou(W:au)(ob:Obj)(b o n:Nat)(hb:b<W.a.j):vE (W.alloc ob) b o n=vE W b o n:=by
 have h:∀j,(W.alloc ob).b ⟨b,o+j,none⟩=W.b ⟨b,o+j,none⟩:=fun j=>vJ W ob _ hb
 unfold vE;simp only[h]
theorem IK(w:au)(c:Array aC)(t:bF)(o n:Nat)(d:Array aC)(hd:d.j=n)(h:∀j,j<n->c[o+j]? = d[j]?):
 vE (w.alloc (.D c t)) w.a.j o n/\dQ (w.alloc (.D c t)) w.a.j o n=d:=
 wT hd fun j hj=>by rw[ni];exact h j hj
theorem jU{P:eX}(W:au)(b o n:Nat)(ty:bF)(d:TypeDesc)(hu:P.k ty=some d)(hd:d.isRow=true)(hi:(P.l ty).map (·.j)=some n)(h:vE W b o n):
 (cZ ty (.c (some ⟨b,o,none⟩))).J P W=.ok (.d (dQ W b o n)) W:=by
 have hc:W.rangeAt b o (dQ W b o n).a:=fun j v hv=>by
  have hj:j<n:=by
   rcases aZ j n with h1|h1
   ·exact h1
   ·rw[aT (by rw[bf,FQ];exact h1)]at hv;cases hv
  rw[dH,IJ _ _ _ _ _ hj]at hv;obtain⟨u,hu⟩:=h j hj;rw[hu]at hv ⊢;exact hv
 have:=run_loadAt_mid (P:=P) W b o ty (dQ W b o n).a d hc hu hd (by rw[hi,bf,FQ]);simpa using this
theorem Qp{w W:au}{b o n B:Nat}(h:w.O b o n)(hb:aM B w W)(hlt:b<B):W.O b o n:=fun j hj=>by
 obtain⟨h1,h2⟩:=h j hj;exact⟨by rw[hb.cell hlt];exact h1,by rw[hb.frozen hlt];exact h2⟩
theorem aii{w W:au}{c:Array aC}{t:bF}(hb:aM (w.alloc (.D c t)).a.j (w.alloc (.D c t)) W):∀k,W.b ⟨w.a.j,k,none⟩=c[k]?:=fun k=>by
 rw[hb.cell (p:=⟨w.a.j,k,none⟩) (by simp)];exact ni w c t k
theorem oq(c:Array aC)(o n j:Nat)(hj:j<n)(h:o+n<=c.j):(c.extract o (o+n))[j]? = c[o+j]?:=by
 rw[dz];simp;omega
def eF(c:Array aC):Nat:=c.j
@[go_sem]theorem aAV(W:au)(c:Array aC)(t:bF)(b o n:Nat)(hb:b=W.a.j)(h:o+n<=eF c):vE (W.alloc (.D c t)) b o n=True:=by
 subst hb;unfold eF at h;simp only[eq_iff_iff,iff_true];exact(IK W c t o n (c.extract o (o+n)) (by rw[jI];omega) (fun j hj=>(oq c o n j hj h).symm)).1
@[go_sem]theorem arE(W:au)(c:Array aC)(t:bF)(b o n:Nat)(hb:b=W.a.j)(h:o+n<=eF c):dQ (W.alloc (.D c t)) b o n=c.extract o (o+n):=by
 subst hb;unfold eF at h;exact(IK W c t o n (c.extract o (o+n)) (by rw[jI];omega) (fun j hj=>(oq c o n j hj h).symm)).2
theorem Ue{W w1:au}(hb:aM W.a.j W w1):
 (∀b o,b<W.a.j->w1.b ⟨b,o,none⟩=W.b ⟨b,o,none⟩)/\(∀b o,b<W.a.j->w1.frozen? ⟨b,o,none⟩=W.frozen? ⟨b,o,none⟩) /\
 (∀b o n,b<W.a.j->vE w1 b o n=vE W b o n)/\(∀b o n,b<W.a.j->dQ w1 b o n=dQ W b o n)/\W.a.j<=w1.a.j:=by
 refine⟨fun b o h=>hb.cell (p:=⟨b,o,none⟩) h,fun b o h=>hb.frozen (p:=⟨b,o,none⟩) h,fun b o n h=>?_,fun b o n h=>Bt fun j _=>hb.cell (p:=⟨b,o+j,none⟩) h,hb.j⟩;unfold vE;have:∀j,w1.b ⟨b,o+j,none⟩=W.b ⟨b,o+j,none⟩:=fun j=>hb.cell (p:=⟨b,o+j,none⟩) h
 simp only[this]
@[go_sem]theorem aAW(W:au)(p:aU)(v:aC)(b o n:Nat):vE (W.G p v) b o n=vE W b o n:=by
 rw[eq_iff_iff];unfold vE;refine forall_congr' fun j=>forall_congr' fun hj=>?_
 by_cases hp:p=⟨b,o+j,none⟩
 ·subst hp
  cases h:W.b ⟨b,o+j,none⟩with
  | none=>
    have:(W.G ⟨b,o+j,none⟩ v).b ⟨b,o+j,none⟩=none:=by
     cases h2:(W.G ⟨b,o+j,none⟩ v).b ⟨b,o+j,none⟩with
     | none=>rfl
     | some u=>
       exfalso;cases hb:W.a[b]? with
       | none=>simp[Em,iw,zJ,hb]at h2
       | some ob=>
         cases ob<;>simp_all[Em,iw,zJ]
    simp[this]
  | some u=>simp[World.cell?_setCell_same _ _ _ h]
 ·rw[wm _ _ _ _ hp]
@[go_sem]theorem arF(W:au)(p:aU)(v:aC)(b o n:Nat)(hp:p.block≠b):dQ (W.G p v) b o n=dQ W b o n:=
 Bt fun j _=>wm _ _ _ _ (fun e=>hp (by rw[e]))
def dN(W:au)(b:Nat)(c:Array aC):Prop:=∃t,W.a[b]? = some (.D c t (0,0))
theorem dN.lt{W:au}{b:Nat}{c:Array aC}(h:dN W b c):b<W.a.j:=by
 obtain⟨t,h⟩:=h;exact(bW.1 h).1
theorem dN.new(W:au)(c:Array aC)(t:bF):dN (W.alloc (.D c t)) W.a.j c:=⟨t,GX W _⟩
theorem dN.Rb(W:au)(ob:Obj)(c:Array aC)(t:bF):dN ((W.alloc ob).alloc (.D c t)) (W.a.j+1) c:=by
 have:=dN.new (W.alloc ob) c t
 rwa [show(W.alloc ob).a.j=W.a.j+1 by simp]at this
theorem dN.aij(W:au)(ob Hg:Obj)(c:Array aC)(t:bF):dN (((W.alloc ob).alloc Hg).alloc (.D c t)) (W.a.j+2) c:=by
 have:=dN.Rb (W.alloc ob) Hg c t
 rwa [show(W.alloc ob).a.j+1=W.a.j+2 by simp]at this
theorem dN.alloc{W:au}{b:Nat}{c:Array aC}(h:dN W b c)(ob:Obj):dN (W.alloc ob) b c:=by
 have hl:=h.lt;obtain⟨t,h⟩:=h;exact⟨t,by rw[Below.heap_alloc W ob b hl];exact h⟩
theorem dN.drew{W:au}{b:Nat}{c:Array aC}(h:dN W b c):dN W.drew b c:=h
theorem dN.drewN{W:au}{b:Nat}{c:Array aC}(h:dN W b c)(n:Nat):dN (W.drewN n) b c:=h
theorem dN.S{W W':au}{b B:Nat}{c:Array aC}(h:dN W b c)(hb:aM B W W')(hl:b<B):dN W' b c:=by
 obtain⟨t,h⟩:=h;exact⟨t,by rw[hb.block b hl];exact h⟩
theorem dN.grown{W W':au}{b:Nat}{c:Array aC}{row:Option Nat}(h:dN W b c)(hg:W.d W' row)(hl:some b≠row):dN W' b c:=by
 have hl2:=h.lt;obtain⟨t,h⟩:=h;exact⟨t,by rw[hg.block b hl2 hl];exact h⟩
theorem dN.dR{W:au}{b:Nat}{c:Array aC}(h:dN W b c)(p:aU)(v:aC)(hp:p.block≠b):dN (W.G p v) b c:=by
 obtain⟨t,h⟩:=h;exact⟨t,by rw[ru W p v b (fun e=>hp e.symm)];exact h⟩
theorem dN.eH{W:au}{b:Nat}{c:Array aC}(h:dN W b c)(j:Nat)(v:aC):dN (W.G ⟨b,j,none⟩ v) b (c.b j v):=by
 obtain⟨t,h⟩:=h;exact⟨t,by rw[setCell_eq_setRow W b j c t (0,0) v h];exact rG W b c _ t (0,0) h⟩
theorem dN.M{W:au}{b:Nat}{c:Array aC}(h:dN W b c):
 (∀j,W.b ⟨b,j,none⟩=c[j]?)/\(∀j,W.frozen? ⟨b,j,none⟩=false)/\(∀o n,o+n<=eF c->vE W b o n=True)/\(∀o n,o+n<=eF c->dQ W b o n=c.extract o (o+n)):=by
 obtain⟨t,h⟩:=h;have hc:∀j,W.b ⟨b,j,none⟩=c[j]?:=fun j=>sW W b j c t (0,0) h
 refine⟨hc,fun j=>by simp[su,h],fun o n hn=>?_,fun o n hn=>?_⟩
 ·unfold eF at hn
  simp only[eq_iff_iff,iff_true];exact(wT (c:=c.extract o (o+n)) (by rw[jI];omega) (fun j hj=>by rw[hc,oq c o n j hj hn])).1
 ·unfold eF at hn
  exact(wT (c:=c.extract o (o+n)) (by rw[jI];omega) (fun j hj=>by rw[hc,oq c o n j hj hn])).2
theorem dN.O{W:au}{b:Nat}{c:Array aC}(h:dN W b c)(o n:Nat)(hn:o+n<=c.j):W.O b o n:=by
 obtain⟨t,h⟩:=h;intro j hj;have hj':o+j<c.j:=by omega
 refine⟨by rw[sW W b (o+j) c t (0,0) h,dK hj'];rfl,by simp[su,h]⟩
theorem KX(l:List aC):∀(k off:Nat)(cells:Array aC)(j:Nat),
 ((l.zipIdx k).foldl (fun cs (x:aC×Nat)=>cs.b (off+x.2) x.1) cells)[j]? = if off+k<=j/\j<off+k+l.a/\j<cells.j then l[j-(off+k)]? else cells[j]?:=by
 induction l with
 | nil=>intro k off cells j;simp;omega
 | cons v l ih=>
   intro k off cells j;rw[Hz,jW,ih (k+1) off];simp only[Array.size_setIfInBounds,bD,Array.getElem?_setIfInBounds];by_cases h1:off+k<=j/\j<off+k+(l.a+1)/\j<cells.j
   ·by_cases h2:off+k=j
    ·subst h2
     have:¬off+(k+1)<=off+k:=by omega
     simp[this,h1.2.2]
    ·have h3:off+(k+1)<=j/\j<off+(k+1)+l.a/\j<cells.j:=by omega
     rw[if_pos h3,if_pos h1,show j-(off+k)=(j-(off+(k+1)))+1 by omega,List.getElem?_cons_succ]
   ·have h3:¬(off+(k+1)<=j/\j<off+(k+1)+l.a/\j<cells.j):=by omega
    rw[if_neg h3,if_neg h1];by_cases h2:off+k=j
    ·subst h2
     have:¬off+k<cells.j:=by simp at h1;omega
     simp[this]
    ·simp[h2]
theorem Uf(v cells:Array aC)(h:v.j=cells.j):Array.foldl (fun cs (x:aC×Nat)=>cs.b (0+x.2) x.1) cells v.zipIdx=v:=by
 apply eB;intro j;have h1:=KX v.a 0 0 cells j;rw[<-Db,Array.toList_zipIdx,h1];by_cases hj:j<cells.j
 ·simp[h,hj]
 ·simp[hj];omega
theorem rR{P:eX}(w:au)(t e:bF)(i:nS)(z:aC)(size:Nat)(ht:P.k t=some (.a e))(hi:P.l e=some i)(hz:i.zero=some z)(hsize:i.j=size)(hzs:z.D.j=size)(h0:0<size)(h24:size<=16777216)(c:Array aC)(hc:c.j=size):
 (bK t 1 #[(0,.d c)]).J P w=.ok (.a (some ⟨w.a.j,0,none⟩) 1 1) (w.alloc (.D c e)):=by
 have hx:(cK c).D=c:=rfl;have hfw:=Uf c ((lD (1*size)).map (z.D[· % z.D.j]!)) (by simp[hc]);have hne:¬size=0:=by omega
 have aCy:¬16777216<size:=by omega
 simp only[bl,Nat.one_mul,Array.size_zipIdx,hc]at hfw;simp[bK,dJ ht,sizeOf,typeInfo,zeroValue,hi,hz,hsize,hne,aCy,fD,hx,hc,newRow,hfw]
theorem dN.go{W w1:au}{b:Nat}{c:Array aC}(h:dN W b c)(hb:aM W.a.j W w1):dN w1 b c:=h.S hb h.lt
theorem akU{w W w1:au}(h:aM w.a.j w W)(hb:aM W.a.j W w1):aM w.a.j w w1:=iZ h hb
theorem axz{w W w1:au}{ob:Obj}(h:aM w.a.j w W)(hb:aM (W.alloc ob).a.j (W.alloc ob) w1):aM w.a.j w w1:=iZ (h.alloc h.j ob) hb
def sG(cells:Array aC)(off:Nat)(v:Array aC):Array aC:=v.zipIdx.foldl (fun cs (x:aC×Nat)=>cs.b (off+x.2) x.1) cells
theorem Ep(cells v:Array aC)(off j:Nat):(sG cells off v)[j]? = if off<=j/\j<off+v.j/\j<cells.j then v[j-off]? else cells[j]?:=by
 have h:=KX v.a 0 off cells j;unfold sG;rw[<-Db,Array.toList_zipIdx,h];simp
theorem Er(place:Nat->Option (Nat×Nat))(cells:Array aC)(i off size:Nat)(v:aC)(rest:List (Nat×aC))(hp:place i=some (off,size))(hs:v.D.j=size)(hf:off+size<=cells.j):
 fD place cells ((i,v)::rest)=fD place (sG cells off v.D) rest:=by
 have h1:(decide (v.D.j≠size)||decide (off+v.D.j>cells.j))=false:=by
  rw[hs];simp;omega
 rw[fD,hp];simp only[h1,sG];rfl
theorem XT(cells v:Array aC)(off:Nat):(sG cells off v).j=cells.j:=by
 unfold sG;generalize v.zipIdx=l;rw[<-Db];generalize l.a=l
 induction l generalizing cells with
 | nil=>rfl
 | cons x l ih=>rw[jW,ih];simp
theorem akV(cells:Array aC)(off:Nat)(v:aC):sG cells off #[v]=cells.b off v:=by
 simp[sG]
theorem OQ(c:Array aC):(cK c).D=c:=rfl
theorem Es{P:eX}(w:au)(t:bF)(fs:Array oh)(i:nS)(z:Array aC)(ps:Array (Nat×aC))(cells:Array aC)(places:Array (Nat×Nat))(ht:P.k t=some (.d fs))(hi:P.l t=some i)(hz:i.zero=some (.d z))
 (hp:(iG (fun f=>Prod.mk f.Z <$> sizeOf f.p) fs:xA (Array (Nat×Nat))).J P w=.ok places w) (hf:fD (places[·]?) z ps.a=some cells):(fM t ps).J P w=.ok (.d cells) w:=by
 simp only[fM,zeroValue,typeInfo,jM,gT,dJ ht];simp[hi,hz,hp,OQ,hf]
theorem fQ{w w':au}{base size n:Nat}{e:bF}{v:aC}{xs:List aC}(h:w.c base e size v n xs)(hb:aM w.a.j w w'):w'.c base e size v n xs:=
 ⟨h.1,h.2.imp id fun⟨g,cap,cur,h1,h2,h3,h4⟩=>⟨g,cap,cur,h1,h2,(hb.block g (bW.1 h3).1).trans h3,h4⟩⟩
theorem jD{w:au}{base size n:Nat}{e:bF}{v:aC}{xs:List aC}(h:w.c base e size v n xs){p:aU}(hp:p.block<base)(u:aC):(w.G p u).c base e size v n xs:=
 ⟨h.1,h.2.imp id fun⟨g,cap,cur,h1,h2,h3,h4⟩=>⟨g,cap,cur,h1,h2,(ru w p u g (by omega)).trans h3,h4⟩⟩
theorem vF{w:au}{base size n:Nat}{e:bF}{v:aC}{xs:List aC}(h:w.c base e size v n xs)(ob:Obj):(w.alloc ob).c base e size v n xs:=h.alloc ob
theorem iM{w:au}{base base' size n:Nat}{e:bF}{v:aC}{xs:List aC}(h:w.c base e size v n xs)(hb:base'<=base):w.c base' e size v n xs:=
 ⟨h.1,h.2.imp id fun⟨g,cap,cur,h1,h2,h3,h4⟩=>⟨g,cap,cur,h1,aP hb h2,h3,h4⟩⟩
theorem SA{w:au}{base size n g c:Nat}{e:bF}{xs:List aC}(h:w.c base e size (.a (some ⟨g,0,none⟩) n c) n xs)(j:Nat)(hj:j<n*size)(u:aC):
 (w.G ⟨g,j,none⟩ u).c base e size (.a (some ⟨g,0,none⟩) n c) n (xs.set j u):=by
 refine⟨by rw[aW];exact h.1,?_⟩;rcases h.2 with⟨hv,h0⟩|⟨g',cap,cur,hv,h2,h3,h4,h5,h6,h7⟩
 ·cases hv
 ·injection hv with e1 e2 e3
  injection e1 with e1
  injection e1 with e1
  subst e1 e3;refine .b ⟨g,c,cur.b j u,rfl,h2,?_,h4,h5,by rw[Array.size_setIfInBounds];exact h6,?_⟩
  ·rw[setCell_eq_setRow w g j cur e (0,0) u h3];exact rG w g cur _ e (0,0) h3
  ·rw[Array.toList_setIfInBounds,List.take_set,h7]
theorem KY(b:Nat)(t:bF)(fr:Nat×Nat):∀(vs:List aC)(o:Nat)(c:Array aC)(W:au),W.a[b]? = some (.D c t fr) ->
 (W.setCells b o vs).a[b]? = some (.D ((vs.zipIdx o).foldl (fun cs (x:aC×Nat)=>cs.b x.2 x.1) c) t fr)
 | [],_,_,_,h=>h
 | v::r,o,c,W,h=>by
   rw[Dc,Hz,jW];exact KY b t fr r (o+1) _ _ (by rw[setCell_eq_setRow W b o c t fr v h];exact rG W b c _ t fr h)
section
variable {H:Type} {enc:bF×aC->H} {P:eX} {w:au} {base:Nat} {spare:Nat->Bool} {held:Bool} {fuel:Nat} {t:bF} {cs:List aC} {x:zI H×List sV}
theorem Ug(ht:P.k t=some .g)(h:mq enc P w base spare held fuel t cs=some x):∃l:List UInt8,cs=[.g (bP l)]/\l.a<=9223372036854775807:=by
 obtain⟨s,rfl,_,hs⟩:=DataW.trod_string ht h;refine⟨s.data.a,by rw[Qo],?_⟩;have h2:s.j<=9223372036854775807:=by unfold maxLen at hs;omega
 show s.data.a.a<=_;rw[bf];exact h2
theorem sH(ht:P.k t=some (.b .a))(h:mq enc P w base spare held fuel t cs=some x):∃z:Int,cs=[.b .a z]/\-9223372036854775808<=z/\z<=9223372036854775807:=by
 obtain⟨z,rfl,_,hz⟩:=DataW.trod_int ht h;have : -9223372036854775808<=z/\z<=9223372036854775807:=by simpa[Lit.wf,JI,JJ,lZ,nY]using hz
 exact⟨z,rfl,this⟩
theorem ag3(ht:P.k t=some (.b .b))(h:mq enc P w base spare held fuel t cs=some x):∃b:UInt8,cs=[bv b]:=by
 obtain⟨z,rfl,_,hz⟩:=DataW.trod_int ht h;have h2:0<=z/\z<=255:=by simpa[Lit.wf,JI,JJ,lZ,nY]using hz
 refine⟨aK z.e,?_⟩;unfold bv;congr 2;rw[Df];omega
theorem ab8(ht:P.k t=some (.float .f64))(h:mq enc P w base spare held fuel t cs=some x):∃n:Nat,cs=[fv n]/\n<18446744073709551616:=by
 cases fuel with
 | zero=>simp[mq]at h
 | succ m=>
   unfold mq at h;rw[ht]at h;split at h<;>simp_all;rename_i heq;subst heq;obtain⟨⟨_,hw⟩,_⟩:=h;exact⟨_,rfl,by simpa[Lit.wf]using hw⟩
theorem Kv{fs:Array oh}{n:Nat}{xs:List (zI H×List sV)}(hl:xs.a=fs.j)(hf:∀(i:Nat)(f:oh),fs[i]? = some f->mq enc P w base spare held n f.p ((cs.f f.Z).d (P.a f.p))=xs[i]?)
 (j:Nat) (f:oh) (hj:fs[j]? = some f):∃y,mq enc P w base spare held n f.p ((cs.f f.Z).d (P.a f.p))=some y:=by
 have hlt:j<xs.a:=by have:=(bW.1 hj).1;omega
 exact⟨xs[j],(hf j f hj).trans (aD hlt)⟩
theorem tu{α:Type}(l:List α)(o n:Nat):l.f o=(l.f o).d n++l.f (o+n):=by
 rw[<-List.drop_drop];exact(iK n _).symm
theorem MJ{k:Nat}{e:bF}(ht:P.k t=some (.array k e))(he:P.k e=some (.b .b))(hc:P.a e=1)(hk:P.a t=k)(h:mq enc P w base spare held fuel t cs=some x):∃v:Vector UInt8 k,cs=v.a.map bv:=by
 obtain⟨xs,m,_,_,hl,hxl,hf⟩:=DataW.trod_array ht h;rw[hk]at hl;have hg:∀i,i<k->∃b:UInt8,cs[i]? = some (bv b):=fun i hi=>by
  have h1:=hf i hi;rw[hc,gL,aD (by omega)]at h1;obtain⟨b,hb⟩:=ag3 he h1;refine⟨b,?_⟩;rw[take1_drop cs i undef (by omega)]at hb;simp only[List.cons.injEq,and_true]at hb;rw[aD (by omega),<-hb,av,aD (by omega)];rfl
 obtain⟨f,hf⟩:∃f:Nat->UInt8,∀i,i<k->cs[i]? = some (bv (f i)):=by
  refine⟨fun i=>if hi:i<k then(hg i hi).choose else 0,fun i hi=>?_⟩;simp only[hi,dif_pos];exact(hg i hi).choose_spec
 refine⟨Ej fun i:Fin k=>f i,?_⟩;apply iN;intro i;rcases aZ i k with hi|hi
 ·rw[hf i hi]
  simp[hi]
 ·rw[aT (by omega),aT (by simpa using hi)]
end
theorem uL{α:Type}(f:α->Array aC)(size:Nat)(hs:∀x,(f x).j=size)(l:List α)(k j:Nat)(hk:k<l.a)(hj:j<size):(l.h fun x=>(f x).a)[k*size+j]? = (f (l[k]'hk))[j]?:=by
 induction l generalizing k with
 | nil=>simp at hk
 | cons x l ih=>
   rw[iO];rcases k with _|k
   ·rw[mX (by rw[bf,hs];omega),dH]
    simp
   ·rw[rD (by rw[bf,hs,Dg];omega),bf,hs,show(k+1)*size+j-size=k*size+j by rw[Dg];omega]
    rw[bD]at hk;simpa using ih k (by omega)
theorem tC{α:Type}(f:α->Array aC)(size:Nat)(hs:∀x,(f x).j=size)(l:List α):(l.h fun x=>(f x).a).a=l.a*size:=by
 induction l with
 | nil=>simp
 | cons x l ih=>rw[iO,aS,ih,bf,hs,bD,Dg];omega
section
variable {H:Type} {enc:bF×aC->H} {P:eX} {w:au} {base:Nat} {held:Bool} {fuel:Nat} {t:bF} {cs:List aC} {x:zI H×List sV}
theorem OT{α:Type}(f:α->Array aC)(OU:α->Prop)(size:Nat)(hfs:∀x,(f x).j=size){e:bF}(ht:P.k t=some (.a e))(hc:P.a e=size)(hpos:0<size)
 (hrd:∀(n:Nat)(cs:List aC)(y:zI H×List sV),mq enc P w base (fun _=>true) held n e cs=some y->∃a,cs=(f a).a/\OU a)
 (h:mq enc P w base (fun _=>true) held fuel t cs=some x) :
 ∃(A:Option aU)(n c:Nat)(l:List α),cs=[.a A n c]/\n<=c/\c<=9223372036854775807/\l.a=n/\Rd w w.a.j size A n (l.h fun x=>(f x).a)/\(∀a,A=some a->0<n->a=⟨a.block,a.off,none⟩)/\∀a∈l,OU a:=by
 rcases open_slice ht h with⟨rfl,_⟩|⟨a,len,cap,m,n,D,Pl,rfl,_,hl,hm,hmm,_,hi⟩
 ·exact⟨none,0,0,[],rfl,ay _,by omega,rfl,Rd.nil,(fun a h=>by cases h),by simp⟩
 ·rw[if_pos rfl]at hmm
  have hg:∀i,i<len->∃b:α,OU b/\∀j,j<size->w.b (a.add (i*size+j))=(f b)[j]?:=fun i hlt=>by
   obtain⟨cs',h1,h2⟩:=hi i (by omega);obtain⟨_,hlen,hcell⟩:=World.cells?_some h1;obtain⟨b,hb,hgd⟩:=hrd _ _ _ h2;rw[hc]at hcell;refine⟨b,hgd,fun j hj=>?_⟩;have:=hcell j hj;rw[ab4,hb,dH]at this;exact this
  obtain⟨F,hF⟩:∃F:Fin len->α,∀i:Fin len,OU (F i)/\∀j,j<size->w.b (a.add (i*size+j))=(f (F i))[j]?:=
   ⟨fun i=>(hg i i.2).choose,fun i=>(hg i i.2).choose_spec⟩
  have hll:(H9 F).a=len:=List.length_ofFn;have hcl:∀k (hk:k<len) j,j<size->((H9 F).h fun x=>(f x).a)[k*size+j]? = w.b (a.add (k*size+j)):=fun k hk j hj=>by
   rw[uL f size hfs _ k j (by omega) hj,List.getElem_ofFn];exact((hF ⟨k,hk⟩).2 j hj).symm
  refine⟨some a,len,cap,H9 F,rfl,hl,by unfold maxLen at hm;omega,hll,⟨by rw[tC f size hfs,hll],fun h0=>⟨a,rfl,?_,fun j u hu=>?_⟩⟩,fun a' ha h0=>?_,fun b hb=>?_⟩
  ·have h1:=hcl 0 h0 0 hpos
   have h2:=uL f size hfs (H9 F) 0 0 (by omega) hpos;have h3:w.b (a.add (0*size+0))=some ((f ((H9 F)[0]'(by omega)))[0]'(by rw[hfs];exact hpos)):=by rw[<-h1,h2];exact dK _
   have:=World.block_lt_of_cell? _ _ h3
   rwa [Bh]at this
  ·have hj:j<len*size:=by
    rcases aZ j (len*size)with h1|h1
    ·exact h1
    ·rw[aT (by rw[tC f size hfs,hll];exact h1)]at hu;cases hu
   have e1:j=j/size*size+j%size:=by rw[Dh];exact(Nat.div_add_mod j size).symm
   have:=hcl (j/size) ((zX hpos).2 hj) (j%size) (fH _ hpos);rw[<-e1]at this;rw[<-this];exact hu
  ·injection ha with ha
   subst ha;have h1:=hcl 0 h0 0 hpos;have h2:=uL f size hfs (H9 F) 0 0 (by omega) hpos;have h3:w.b (a.add (0*size+0))=some ((f ((H9 F)[0]'(by omega)))[0]'(by rw[hfs];exact hpos)):=by rw[<-h1,h2];exact dK _
   rw[show 0*size+0=0 by omega,OP]at h3;have hs:=World.cell?_spot h3;obtain⟨b,o,s⟩:=a;simp at hs;rw[hs]
  ·obtain⟨i,rfl⟩:=List.mem_ofFn.1 hb
   exact(hF i).1
end
section
variable {P:eX}
theorem KZ(d:Nat){e:bF}(he:P.k e=some (.b .b))(l m:List UInt8)(w:au)(hlm:l.a=m.a):∀(j k:Nat),j+k=l.a ->
 (Kt (d+1) e 1 (l.map bv).b (m.map bv).b (List.range' k j)).J P w=.ok (l.f k==m.f k) w
 | 0,k,h=>by
   have h1:l.f k=[]:=List.drop_eq_nil_of_le (by omega);have h2:m.f k=[]:=List.drop_eq_nil_of_le (by omega);simp[Kt,h1,h2]
 | j+1,k,h=>by
   have hk:k<l.a:=by omega
   have hk':k<m.a:=by omega
   have hp:P.plainKey e=true:=by simp[Program.plainKey,he]
   have p1:(part e (l.map bv).b (k*1)).J P w=.ok (bv l[k]) w:=run_part_plain w hp (by simp[hk]);have p2:(part e (m.map bv).b (k*1)).J P w=.ok (bv m[k]) w:=run_part_plain w hp (by simp[hk']);have p3:(jk (d+1) e (bv l[k]) (bv m[k])).J P w=.ok (l[k]==m[k]) w:=by
    simp only[bv,jk,jM,dJ he,gT,if_true,oD];congr 1;rw[cB];simp only[beq_iff_eq];constructor
    ·intro h;exact mE.1 (by omega)
    ·intro h;rw[h]
   rw[List.range'_succ];simp only[Kt,jM,p1,p2,p3,gT];have ih:=KZ d he l m w hlm j (k+1) (by omega);have e3:(l.f k==m.f k)=((l[k]==m[k])&&(l.f (k+1)==m.f (k+1))):=by
    rw[kS hk,kS hk'];rfl
   rw[e3];cases(l[k]==m[k])
   ·simp
   ·simpa using ih
theorem Ho(d:Nat){t e:bF}{n:Nat}(hu:P.k t=some (.array n e))(hsz:(P.l e).map (·.j)=some 1)(he:P.k e=some (.b .b))(l m:List UInt8)(hl:l.a=n)(hm:m.a=n)(w:au):
 (jk (d+2) t (.d (l.map bv).b) (.d (m.map bv).b)).J P w=.ok (l==m) w:=by
 obtain⟨i,hi,hs⟩:∃i,P.l e=some i/\i.j=1:=by
  cases h:P.l e with
  | none=>simp[h]at hsz
  | some i=>exact⟨i,rfl,by simpa[h]using hsz⟩
 rw[run_equalIn_array w (d+1) _ _ hu hi];have hc:P.a e=1:=by simp[Ai,hi,hs]
 rw[hc,List.range_eq_range',KZ d he l m w (by omega) n 0 (by omega)];simp
end
theorem ag4{n:Nat}(a b:Vector UInt8 n):(a.a==b.a)=decide (a=b):=by
 rw[cB];simp only[beq_iff_eq,decide_eq_true_eq];constructor
 ·intro h;exact Vector.toList_inj.1 h
 ·intro h;rw[h]
theorem pK{P:eX}{e:bF}(he:(match P.k e with|some (.d _)|some (.array _ _)|none=>false|_=>true)=true){xs:Array aC}{off:Nat}{v:aC}(hx:xs[off]? = some v)(w:au):(part e xs off).J P w=.ok v w:=by
 cases hu:P.k e with
 | none=>simp[hu]at he
 | some d=>cases d<;>simp[hu]at he<;>simp[part,isAgg,dJ hu,hx]
theorem Et{P:eX}{e:bF}{n:Nat}(he:(match P.k e with|some (.d _)|some (.array _ _)=>true|_=>false)=true)(hs:(P.l e).map (·.j)=some n)(xs:Array aC)(off:Nat)(w:au):(part e xs off).J P w=.ok (.d (xs.extract off (off+n))) w:=by
 obtain⟨i,hi,hi2⟩:∃i,P.l e=some i/\i.j=n:=by
  cases h:P.l e with
  | none=>simp[h]at hs
  | some i=>exact⟨i,rfl,by simpa[h]using hs⟩
 have hc:P.a e=n:=by simp[Ai,hi,hi2]
 cases hu:P.k e with
 | none=>simp[hu]at he
 | some d=>cases d<;>simp[hu]at he<;>simp[part,isAgg,dJ hu,run_sizeOf w hi,hc]
theorem ZL(a b:Bool)(d:Nat)(W:au):(jk (d+1) 4 (.e a) (.e b)).J aj W=.ok (a==b) W:=by
 simp only[jk,jM,dJ nU,gT,oD]
theorem OV(a b:List UInt8)(d:Nat)(W:au):(jk (d+1) 9 (.g (bP a)) (.g (bP b))).J aj W=.ok (a==b) W:=by
 rw[run_equalIn_string W d _ _ _ iR,KW,KW]
theorem FU(a b:Int)(d:Nat)(W:au):(jk (d+1) 3 (.b .a a) (.b .a b)).J aj W=.ok (a==b) W:=by
 simp only[jk,jM,dJ gY,gT,if_true,oD]
theorem iU{P:eX}(d:Nat)(xs ys:Array aC)(f:oh)(fs:List oh)(h:f.E ≠ "_")(W:au)(a b:aC)(r r':Bool)
 (p:(part f.p xs f.Z).J P W=.ok a W) (q:(part f.p ys f.Z).J P W=.ok b W) (e:(jk d f.p a b).J P W=.ok r W)
 (rest:(wu d xs ys fs).J P W=.ok r' W):(wu d xs ys (f::fs)).J P W=.ok (r&&r') W:=by
 simp only[wu,h,ne_eq,not_false_eq_true,if_true,jM,p,q,e,gT];cases r
 ·simp
 ·simpa using rest
def iF{α:Type}(f:α->Array aC)(s:Nat)(w:au)(B:Nat)(A:Option aU)(n:Nat)(l:List α):Prop:=
 l.a=n/\Rd w B s A n (l.h fun x=>(f x).a)/\∀a,A=some a->0<n->a=⟨a.block,a.off,none⟩
section
variable {α:Type} {f:α->Array aC} {s:Nat} {w w':au} {B B' n:Nat} {A:Option aU} {l:List α}
theorem iF.nil(w:au)(B:Nat):iF f s w B none 0 []:=⟨rfl,Rd.nil,fun a h _=>by cases h⟩
theorem iF.len(h:iF f s w B A n l):l.a=n:=h.1
theorem iF.S(h:iF f s w B A n l)(hb:aM B w w'):iF f s w' B A n l:=⟨h.1,Rd.S h.2.1 hb,h.2.2⟩
theorem iF.to{C:Nat}(h:iF f s w B A n l)(hb:aM C w w')(hC:B<=C):iF f s w' B A n l:=⟨h.1,Rd.to h.2.1 hb hC,h.2.2⟩
theorem iF.lH(h:iF f s w B A n l)(hB:B<=B'):iF f s w B' A n l:=⟨h.1,Rd.lH h.2.1 hB,h.2.2⟩
theorem iF.alloc(h:iF f s w B A n l)(hB:B<=w.a.j)(o:Obj):iF f s (w.alloc o) B A n l:=⟨h.1,Rd.alloc h.2.1 hB o,h.2.2⟩
theorem iF.up(h:iF f s w w.a.j A n l)(ob:Obj):iF f s (w.alloc ob) (w.alloc ob).a.j A n l:=(h.alloc (ay _) ob).lH (by simp)
theorem iF.arG(h:iF f s w w.a.j A n l):iF f s w.drew w.drew.a.j A n l:=h
theorem iF.go{W w1:au}(h:iF f s W W.a.j A n l)(hb:aM W.a.j W w1):iF f s w1 w1.a.j A n l:=(h.S hb).lH hb.j
theorem iF.aCz(h:iF f s w B A n l){p:aU}(u:aC)(hp:∀a,A=some a->p.block≠a.block):iF f s (w.G p u) B A n l:=by
 obtain⟨h1,h2,h3⟩:=h;refine⟨h1,⟨h2.1,fun hn=>?_⟩,h3⟩;obtain⟨a,e,hb,hc⟩:=h2.2 hn;refine⟨a,e,hb,fun j u' hu=>?_⟩;rw[wm _ _ _ _ (fun e2=>by have:=hp a e;rw[e2,Bh]at this;omega)];exact hc j u' hu
theorem iF.cell(hs:∀x,(f x).j=s)(d:α){k:Nat}(h:iF f s w B A n l)(hk:k<n):∃b o,A=some ⟨b,o,none⟩/\b<B/\∀j,j<s->w.b ⟨b,o+k*s+j,none⟩=(f (l.c k d))[j]?:=by
 obtain⟨h1,h2,h3⟩:=h;obtain⟨a,hA,hb,hc⟩:=h2.2 (by omega);have ha:=h3 a hA (by omega);refine⟨a.block,a.off,by rw[hA,<-ha],hb,fun j hj=>?_⟩;have hk':k<l.a:=by omega
 have hg:=uL f s hs l k j hk' hj;have hx:l.c k d=l[k]:=by rw[av,aD hk'];rfl
 have hs1:(f (l[k]'hk'))[j]? = some ((f (l[k]'hk'))[j]'(by rw[hs];exact hj)):=dK _;rw[hs1]at hg;rw[hx,hs1];have:=hc _ _ hg;rw[ha,iH]at this;rw[<-this,nG]
theorem iF.fG(hs:∀x,(f x).j=s)(d:α){k:Nat}(h:iF f s w B A n l)(hk:k<n):∃b o,A=some ⟨b,o,none⟩/\b<B/\vE w b (o+k*s) s/\dQ w b (o+k*s) s=f (l.c k d):=by
 obtain⟨b,o,hA,hb,hc⟩:=h.cell hs d hk;exact⟨b,o,hA,hb,wT (hs _) hc⟩
theorem iF.one(x:α)(hs:∀x,(f x).j=s)(w:au)(t:bF):iF f s (w.alloc (.D (f x) t)) (w.alloc (.D (f x) t)).a.j (some ⟨w.a.j,0,none⟩) 1 [x]:=
 ⟨rfl,⟨by simp[hs],fun _=>⟨_,rfl,by simp,by
  intro j v hv;rw[iH,bl];have:=ni w (f x) t j;rw[this];simpa using hv⟩⟩,fun a h _=>by injection h with h;rw[<-h]⟩
end
theorem akW{α:Type}(f:α->Array aC)(s:Nat)(hs:∀x,(f x).j=s)(l:List α):(l.h fun x=>(f x).a).a=l.a*s:=tC f s hs l
theorem aik{α:Type}(f:α->Array aC)(l:List α)(x:α):(l.h fun x=>(f x).a)++(f x).a=(l++[x]).h fun x=>(f x).a:=by simp
theorem ab9{α:Type}(f:α->Array aC)(l m:List α):(l.h fun x=>(f x).a)++(m.h fun x=>(f x).a)=(l++m).h fun x=>(f x).a:=by simp
theorem Bu{α:Type}(f:α->Array aC)(h1:∀x,(f x).all (·.h)=true)(l:List α):∀u∈(l.h fun x=>(f x).a),u.h=true:=by
 intro u hu;obtain⟨x,_,hx⟩:=List.mem_flatMap.1 hu;exact gG.1 (h1 x) u (by simpa using hx)
theorem lW{α:Type}(d:α)(l:List α)(i:Nat)(hi:i<l.a):l.d i++[l.c i d]=l.d (i+1):=by
 rw[dV hi,av,aD hi];rfl
theorem Eu{α:Type}(d:α)(l:List α)(i:Nat)(hi:i<l.a):l.c i d∈l:=by
 rw[av,aD hi];simp
theorem iF.gV{α:Type}{f:α->Array aC}{s:Nat}{w:au}{base n:Nat}{e:bF}{l:List α}{A:Option aU}{c:Nat}(hn:l.a=n)(h:w.c base e s (.a A n c) n (l.h fun x=>(f x).a)):iF f s w w.a.j A n l:=
 ⟨hn,Rd.gV h,fun a ha _=>by
  rcases h.2 with⟨hv,h0⟩|⟨g,cap,cur,hv,_⟩
  ·injection hv with e1 _ _
   rw[e1]at ha;cases ha
  ·injection hv with e1 _ _
   rw[e1]at ha;injection ha with ha
   rw[<-ha]⟩
theorem ZO(w:au)(c:Array aC)(s:Nat)(hc:c.j=s)(t:bF):Rd (w.alloc (.D c t)) (w.a.j+1) s (some ⟨w.a.j,0,none⟩) 1 c.a:=
 ⟨by rw[bf,hc,Nat.one_mul],fun _=>⟨_,rfl,mP _,fun j v hv=>by
  rw[iH,bl,ni w c t j];simpa using hv⟩⟩
theorem Uh{w:au}{base size n:Nat}{e:bF}{v:aC}{xs:List aC}(h:w.c base e size v n xs){p:aU}(hp:v.f≠some p.block)(u:aC):(w.G p u).c base e size v n xs:=by
 refine⟨h.1,?_⟩;rcases h.2 with hn|⟨g,cap,cur,rfl,h2,h3,h4⟩
 ·exact .a hn
 ·exact .b ⟨g,cap,cur,rfl,h2,(ru w p u g (fun e=>hp (by rw[<-e];rfl))).trans h3,h4⟩
theorem IL{w:au}{g:Nat}(vs:List aC):∀(o:Nat)(W:au),w.d W (some g)->w.d (W.setCells g o vs) (some g):=by
 induction vs with
 | nil=>exact fun _ _ h=>h
 | cons v vs ih=>
   intro o W h;rw[Dc];refine ih (o+1) _ ⟨h.os,h.tape,h.output,by simpa[iw]using h.j,fun k hk hne=>?_⟩;rw[ru W _ v k (fun e=>hne (by rw[e]))];exact h.block k hk hne
theorem xV{w:au}{B g:Nat}(hg:B<=g)(vs:List aC):∀(o:Nat)(W:au),aM B w W->aM B w (W.setCells g o vs):=by
 induction vs with
 | nil=>exact fun _ _ h=>h
 | cons v vs ih=>intro o W h;rw[Dc];exact ih (o+1) _ (h.G hg v)
theorem nb{x:Option Nat}{a b c:Nat}(h:x=some a\/x=some b)(h1:c≠a)(h2:c≠b):x≠some c:=by
 rcases h with rfl|rfl<;>(intro e;injection e with e;omega)
theorem Ui(b:Nat)(t:bF)(vs:List aC)(o:Nat)(c:Array aC)(W:au)(h:W.a[b]? = some (.D c t (0,0))):(W.setCells b o vs).a[b]? = some (.D (sG c o vs.b) t (0,0)):=by
 have:=KY b t (0,0) vs o c W h;rw[this];unfold sG;congr 2;rw[<-Db,Array.toList_zipIdx];have:∀(vs:List aC)(k:Nat)(c:Array aC),(List.foldl (fun cs (x:aC×Nat)=>cs.b x.2 x.1) c (vs.zipIdx (o+k)))=List.foldl (fun cs (x:aC×Nat)=>cs.b (o+x.2) x.1) c (vs.zipIdx k):=by
  intro vs
  induction vs with
  | nil=>intros;rfl
  | cons v vs ih=>intro k c;rw[Hz,Hz,jW,jW,nG,ih]
 have h2:=this vs 0 c;simpa using h2
theorem dN.akX{W:au}{b:Nat}{c:Array aC}(h:dN W b c)(d:Array aC)(hc:d.j=c.j):dN (W.setCells b 0 d.a) b d:=by
 obtain⟨t,h⟩:=h;refine⟨t,?_⟩;have h1:=Ui b t d.a 0 c W h;rw[h1];congr 2;exact Uf d c hc
end
section
open Go.RowKit Go.ChangeShapes Go.WideShapes Go.ChangeAt Go.Deep
def txA(s:List UInt8):Array aC:=#[.g (bP s)]
theorem akY(s:List UInt8):(txA s).j=1:=rfl
abbrev RdT:=iF txA 1
theorem iF.text{W:au}{B n:Nat}{A:Option aU}{l:List (List UInt8)}{k:Nat}(h:RdT W B A n l)(hk:k<n):∃b o,A=some ⟨b,o,none⟩/\b<B/\W.b ⟨b,o+k,none⟩=some (.g (bP (l.c k []))):=by
 obtain⟨b,o,hA,hb,hc⟩:=iF.cell akY [] h hk;refine⟨b,o,hA,hb,?_⟩;have:=hc 0 (by omega);rw[gL,nM]at this;exact this
def vS(l:List (List UInt8)):List aC:=l.h fun x=>(txA x).a
theorem Qq(l:List (List UInt8))(s:List UInt8):vS l++[.g (bP s)]=vS (l++[s]):=by simp[vS,txA]
theorem ZU:∃i:nS,aj.l 9=some i/\i.zero=some (.g ⟨#[]⟩)/\i.j=1/\i.bytes<=400:=by
 cases h:aj.l 9 with
 | none=>exact absurd h (by have:(aj.l 9).isSome=true:=by kernel_rfl
                            intro e;rw[e]at this;cases this)
 | some i=>
   have h1:(aj.l 9).map (·.j)=some 1:=by kernel_rfl
   have h2:(aj.l 9).map (fun i=>decide (i.bytes<=400))=some true:=by kernel_rfl
   have h3:(aj.l 9).map (·.zero)=some (some (.g ⟨#[]⟩)):=by kernel_rfl
   rw[h]at h1 h2 h3;simp at h1 h2 h3;exact⟨i,rfl,h3,h1,h2⟩
def TxP(w:au)(m:List (List UInt8))(e:lu)(w':au):Prop:=
 ∃A n c,e=.a (.a A n c)/\m.a=n/\w'.c w.a.j 9 1 (.a A n c) n (vS m)/\aM w.a.j w w'
end
section
open Go.RowKit Go.ChangeShapes Go.WideShapes Go.ChangeAt Go.Deep
structure Hl where
 E:List UInt8
 down:Bool
 J:Int
deriving DecidableEq
def Hl.aA(x:Hl):Array aC:=#[jl (bP x.E),bQ x.down,aJ .a x.J]
theorem Hl.I(x:Hl):x.aA.j=3:=by simp[Hl.aA]
@[go_sem]theorem Hl.eF(x:Hl):eF x.aA=3:=Hl.I x
@[go_sem]theorem Hl.qG(x:Hl):x.aA[0]? = some (.g (bP x.E)):=rfl
@[go_sem]theorem Hl.Ev(x:Hl):x.aA[1]? = some (.e x.down):=rfl
@[go_sem]theorem Hl.Uj(x:Hl):x.aA[2]? = some (.b .a x.J):=rfl
theorem Hl.cO(x:Hl):x.aA.all (·.h)=true:=by simp[Hl.aA,dx]
@[go_sem]theorem Hl.kg(x:Hl):x.aA.extract 0 3=x.aA:=by
 have:=Hl.I x;rw[<-this];simp
def kQ:Hl:=⟨[],false,0⟩
@[go_sem]theorem axA:cK #[jl {data:=#[]},bQ false,aJ bU 0]=cK kQ.aA:=rfl
@[go_sem]theorem as6:Obj.cells #[jl {data:=#[]},bQ false,aJ bU 0] 100=Obj.cells kQ.aA 100:=rfl
def akZ(v:aC):xA aC:=cZ 100 v
def ZV(v x:aC):xA Unit:=eU 100 v x
@[go_sem ↓]theorem awm(v:aC):cZ 100 v=akZ v:=rfl
@[go_sem ↓]theorem as7(v x:aC):eU 100 v x=ZV v x:=rfl
@[go_sem]theorem aAX(W:au)(b o:Nat)(h:vE W b o 3):(akZ (.c (some ⟨b,o,none⟩))).J aj W=.ok (.d (dQ W b o 3)) W:=
 jU W b o 3 _ _ nQ rfl (by kernel_rfl) h
@[go_sem]theorem aoU(W:au)(c:Array aC)(x:Hl)(b:Nat)(hb:b=W.a.j)(hc:eF c=3):
 (ZV (.c (some ⟨b,0,none⟩)) (.d x.aA)).J aj (W.alloc (.D c 100))=.ok () (W.alloc (.D x.aA 100)):=by
 subst hb;exact yY W _ c x.aA (by rw[Hl.I];kernel_rfl) (by rw[Hl.I];exact hc) (Hl.cO x)
def Uk(W:au)(b o:Nat)(x:Hl):au:=W.setCells b o x.aA.a
@[go_sem]theorem axB(W:au)(b o:Nat)(x:Hl)(h:W.O b o 3):(ZV (.c (some ⟨b,o,none⟩)) (.d x.aA)).J aj W=.ok () (Uk W b o x):=
 El W b o _ x.aA (by rw[Hl.I];exact h) (by rw[Hl.I];kernel_rfl) (Hl.cO x)
theorem dN.axC{W:au}{b:Nat}{c:Array aC}(h:dN W b c)(hc:c.j=3)(x:Hl):dN (Uk W b 0 x) b x.aA:=h.akX x.aA (by rw[Hl.I,hc])
theorem Qr{w W:au}{B:Nat}(h:aM B w W)(b o:Nat)(x:Hl)(hb:B<=b):aM B w (Uk W b o x):=xV hb _ o W h
def ab'(x y:Hl):Bool:=(x.E==y.E)&&((x.down==y.down)&&((x.J==y.J)&&true))
theorem SC(x y:Hl):ab' x y=decide (x=y):=by
 rw[cB];cases x;cases y;simp[ab']
theorem ail:aj.k 100=some (.d (aj.fieldsOf 100)):=by
 simp only[jS,nQ]
theorem aoV:∃f1 f2 f3:oh,(aj.fieldsOf 100).a=[f1,f2,f3]/\(f1.E ≠ "_" /\ f2.E ≠ "_" /\ f3.E ≠ "_")/\(f1.p=9/\f1.Z=0)/\(f2.p=4/\f2.Z=1)/\(f3.p=3/\f3.Z=2):=by
 refine⟨_,_,_,by simp only[jS,nQ];rfl,⟨?_,?_,?_⟩,⟨rfl,rfl⟩,⟨rfl,rfl⟩,⟨rfl,rfl⟩⟩<;>decide
theorem ain(x y:Hl)(d:Nat)(W:au):(jk (d+2) 100 (.d x.aA) (.d y.aA)).J aj W=.ok (ab' x y) W:=by
 rw[zB W (d+1) _ _ _ ail Tryz.stoodInHeld100];obtain⟨f1,f2,f3,hl,⟨n1,n2,n3⟩,⟨t1,o1⟩,⟨t2,o2⟩,⟨t3,o3⟩⟩:=aoV;rw[hl];have p1:∀z:Hl,(part f1.p z.aA f1.Z).J aj W=.ok (.g (bP z.E)) W:=fun z=>by
  rw[t1,o1];exact pK (by simp only[iR]) (Hl.qG z) W
 have p2:∀z:Hl,(part f2.p z.aA f2.Z).J aj W=.ok (.e z.down) W:=fun z=>by
  rw[t2,o2];exact pK (by simp only[nU]) (Hl.Ev z) W
 have p3:∀z:Hl,(part f3.p z.aA f3.Z).J aj W=.ok (.b .a z.J) W:=fun z=>by
  rw[t3,o3];exact pK (by simp only[gY]) (Hl.Uj z) W
 exact(iU _ _ _ _ _ n1 W _ _ _ _ (p1 x) (p1 y) (by rw[t1];exact OV _ _ _ W) (iU _ _ _ _ _ n2 W _ _ _ _ (p2 x) (p2 y) (by rw[t2];exact ZL _ _ _ W) (iU _ _ _ _ _ n3 W _ _ _ _ (p3 x) (p3 y) (by rw[t3];exact FU _ _ _ W) (by simp[wu]))))
@[go_sem ↓]theorem aGq(x y:Hl)(W:au):(jk 10000 100 (.d x.aA) (.d y.aA)).J aj W=.ok (ab' x y) W:=ain x y 9998 W
theorem Lu:∃i:nS,aj.l 100=some i/\i.zero=some (.d kQ.aA)/\i.j=3/\i.bytes<=400:=by
 cases h:aj.l 100 with
 | none=>exact absurd h (by have:(aj.l 100).isSome=true:=by kernel_rfl
                            intro e;rw[e]at this;cases this)
 | some i=>
   have h1:(aj.l 100).map (·.j)=some 3:=by kernel_rfl
   have h2:(aj.l 100).map (fun i=>decide (i.bytes<=400))=some true:=by kernel_rfl
   have h3:(aj.l 100).map (·.zero)=some (some (.d kQ.aA)):=by kernel_rfl
   rw[h]at h1 h2 h3;simp at h1 h2 h3;exact⟨i,rfl,h3,h1,h2⟩
def as8(ps:Array (Nat×aC)):xA aC:=fM 100 ps
@[go_sem ↓]theorem aAY(ps:Array (Nat×aC)):fM 100 ps=as8 ps:=rfl
theorem XU(w:au)(fs:Array oh)(h:aj.k 100=some (.d fs)):(iG (fun f=>Prod.mk f.Z <$> sizeOf f.p) fs:xA (Array (Nat×Nat))).J aj w=.ok #[(0,1),(1,1),(2,1)] w:=by
 have e:=nQ;rw[h]at e;cases e;show _=_
 kernel_rfl
@[go_sem]theorem as9(w:au):(as8 #[]).J aj w=.ok (.d (Hl.mk [] false 0).aA) w:=by
 obtain⟨i0,hi0,hz0,_,_⟩:=Lu;exact Es w _ _ i0 kQ.aA _ _ _ nQ hi0 hz0 (XU w _ nQ) rfl
@[go_sem]theorem ata(w:au)(u0:List UInt8):(as8 #[(0,.g (bP u0))]).J aj w=.ok (.d (Hl.mk u0 false 0).aA) w:=by
 obtain⟨i0,hi0,hz0,_,_⟩:=Lu;exact Es w _ _ i0 kQ.aA _ _ _ nQ hi0 hz0 (XU w _ nQ) rfl
def ag5(n:Nat)(ps:Array (Nat×aC)):xA aC:=bK 33 n ps
@[go_sem ↓]theorem axD(n:Nat)(ps:Array (Nat×aC)):bK 33 n ps=ag5 n ps:=rfl
@[go_sem]theorem awn(w:au)(x:Hl):(ag5 1 #[(0,.d x.aA)]).J aj w=.ok (.a (some ⟨w.a.j,0,none⟩) 1 1) (w.alloc (.D x.aA 100)):=by
 obtain⟨i0,hi0,hz0,hz1,hzb⟩:=Lu;exact rR w _ _ i0 (.d kQ.aA) 3 rY hi0 hz0 hz1 (Hl.I kQ) (by omega) (by omega) x.aA (Hl.I x)
@[go_sem]theorem atb(w:au):(ag5 0 #[]).J aj w=.ok (.a (some ⟨w.a.j,0,none⟩) 0 0) (w.alloc (.D #[] 100)):=by
 obtain⟨i0,hi0,hz0,hz1,hzb⟩:=Lu;have hne:¬i0.j=0:=by omega
 simp[ag5,bK,dJ rY,sizeOf,typeInfo,zeroValue,hi0,hz0,hz1,fD,newRow,hne];rw[show(lD 0)=(#[]:Array Nat)by simp[lD],Array.map_empty]
theorem DW{fn:Func}{p u:Tmp}(h:fn.results = #[.cell p 100,.tmp u])(tmps:Array aC)(W:au)(b o:Nat)(hp:tmps.c p undef=.c (some ⟨b,o,none⟩))(hh:vE W b o 3):
 (results fn tmps).J aj W=.ok (.K #[.d (dQ W b o 3),tmps.c u undef]) W:=by
 have hl:=jU W b o 3 _ _ nQ rfl (by kernel_rfl) hh;simp only[cZ,yR,jM,oD,gT]at hl;rw[KR h,hp];simp[asAddr,iI,hl]
end
def ZW(c:UInt8):Bool:=(decide (97<=c.e)&&decide (c.e<=122))||(decide (48<=c.e)&&decide (c.e<=57))||decide (c.e=45)||decide (c.e=46)
def vT(s:List UInt8):Bool:=s.all ZW&&decide (1<=s.a)&&decide (s.a<=24)
theorem Xd(l:List UInt8)(p:UInt8->Bool)(i:Nat)(hi:i<l.a):(l.d (i+1)).all p=((l.d i).all p&&p (l.c i 0)):=by
 rw[dV hi,List.all_append,av,aD hi];simp
theorem aac(l:List UInt8)(p:UInt8->Bool)(i:Nat)(hi:i<l.a)(h:p (l.c i 0)=false):l.all p=false:=by
 rw[List.all_eq_false];refine⟨l.c i 0,?_,by rw[h];simp⟩;rw[av,aD hi];exact eY hi
theorem Ul(s:List UInt8)(w:au)(hs:s.a<=9223372036854775807):
 aQ aj 116 #[.g (bP s)] w (gy w (.e (vT s))):=by
 have hcv:=II (P:=aj) 9 56 5 iR cu lF s;have hb:=He w 5 s;have hr:=Hf w 5 s;have HB:=ah hb;have HR:=ah hr;clear hb hr;go_enter Tryz.func116,Tryz.ntmps116;go_wp2;clear hcv;generalize sF w 5 s=W at HB HR ⊢;generalize grownCap w s.a 0 5=cp;go_loop [8] (fun s8=>∃i:Nat,i<=s.a/\s8=.b .a i/\(s.d i).all ZW=true) (fun s8=>s.a-(intOf s8).e)
 case atStart=>exact⟨0,by omega,rfl,rfl⟩
 case round=>
  obtain⟨i,hi,rfl,hall⟩:=hrel;have HA:=ah hall;clear hall;by_cases hlt:i<s.a
  ·have hin:(i:Int)<s.a:=by omega
   obtain⟨a,ha,hab,hcell⟩:=HR.i.fG hlt;injection ha with ha
   subst ha;have e1:(⟨w.a.j,0,none⟩:aU).add i=⟨w.a.j,i,none⟩:=by unfold qH;split<;>simp_all
   rw[e1]at hcell;clear e1;have hsn:=Xd s ZW i hlt;have hno:=aac s ZW i hlt;have HS:=ah hsn;have HN:=ah hno;clear hsn hno;unfold bv at hcell;have hc:ZW (s.c i 0)=ZW (s.c i 0):=rfl;have aif:=(s.c i 0).a;obtain⟨c,hcc⟩:=dw (s.c i 0);rw[<-hcc]at hcell HS HN aif;clear hcc hc;have hok:ZW c=((decide (97<=c.e)&&decide (c.e<=122))||(decide (48<=c.e)&&decide (c.e<=57))||decide (c.e=45)||decide (c.e=46)):=rfl;have JW:=ah hok;clear hok;generalize c.e=n at hcell aif JW;rcases(show n<45\/n=45\/n=46\/n=47\/(48<=n/\n<=57)\/(57<n/\n<97)\/(97<=n/\n<=122)\/122<n by omega)with h|rfl|rfl|rfl|⟨h,h'⟩|⟨h,h'⟩|⟨h,h'⟩|h
   all_goals
    try(have h45:((n:Int) != 45)=true:=by rw[bne_iff_ne];omega)
    try(have h46:((n:Int) != 46)=true:=by rw[bne_iff_ne];omega)
   all_goals
    first
     | (have hk:ZW c=true:=by rw[JW.i];simp<;>omega
        have HK:=ah hk;clear hk;go_wp2;go_round
        case rel=>exact⟨i+1,by omega,by go_num,by rw[HS.i,HA.i,HK.i];rfl⟩
        case measure=>simp[intOf]<;>omega
        done)
     | (have hk:ZW c=false:=by rw[JW.i];simp<;>omega
        have HK:=ah hk;clear hk;go_wp2;go_ret;exact⟨by simp[vT,HN.i HK.i],HB.i⟩)
  ·obtain rfl:i=s.a:=by omega
   have hall:=HA.i;rw[aL (ay _)]at hall;have HL:=ah hall;clear hall;have hok:vT s=(decide (1<=s.a)&&decide (s.a<=24)):=by simp[vT,HL.i]
   have HK:=ah hok;clear hok;by_cases h1:1<=s.a
   ·by_cases h2:s.a<=24
    all_goals
     go_wp2;go_ret;exact⟨by rw[HK.i];simp[h1,h2]<;>omega,HB.i⟩
   ·have h1':¬(1:Int)<=s.a:=by omega
    go_wp2;go_ret;exact⟨by rw[HK.i];simp[h1],HB.i⟩
structure fE where
 h:Bool
 b:Vector UInt8 16
deriving DecidableEq
structure Bk where
 E:List UInt8
 h:fE
 nu:Int
 Bj:Vector UInt8 6
 w:Nat
 drain:Bool
deriving DecidableEq
def fE.aA(a:fE):Array aC:=(bQ a.h::a.b.a.map bv).b
def Bk.aA(x:Bk):Array aC:=(jl (bP x.E)::bQ x.h.h::(x.h.b.a.map bv++aJ .a x.nu::(x.Bj.a.map bv++[fv x.w,bQ x.drain]))).b
theorem fE.I(a:fE):a.aA.j=17:=by simp[fE.aA]
theorem Bk.I(x:Bk):x.aA.j=27:=by simp[Bk.aA]
@[go_sem]theorem fE.qG(a:fE):a.aA[0]? = some (.e a.h):=rfl
theorem fE.Ew(a:fE)(i:Nat)(hi:i<16):a.aA[i+1]? = some (bv (a.b.a.c i 0)):=by
 simp[fE.aA,dY,hi,av]
@[go_sem]theorem Bk.qG(x:Bk):x.aA[0]? = some (.g (bP x.E)):=rfl
@[go_sem]theorem Bk.Ev(x:Bk):x.aA[1]? = some (.e x.h.h):=rfl
theorem Bk.Ew(x:Bk)(i:Nat)(hi:i<16):x.aA[i+2]? = some (bv (x.h.b.a.c i 0)):=by
 simp[Bk.aA,dY,kR,hi,av]
@[go_sem]theorem Bk.ak0(x:Bk):x.aA[18]? = some (.b .a x.nu):=by simp[Bk.aA,dY,kR]
theorem Bk.arH(x:Bk)(i:Nat)(hi:i<6):x.aA[i+19]? = some (bv (x.Bj.a.c i 0)):=by
 simp[Bk.aA,dY,kR,hi,av]
@[go_sem]theorem Bk.aeS(x:Bk):x.aA[25]? = some (fv x.w):=by simp[Bk.aA,dY,kR]
@[go_sem]theorem Bk.aeT(x:Bk):x.aA[26]? = some (.e x.drain):=by simp[Bk.aA,dY,kR]
theorem fE.cO(a:fE):a.aA.all (·.h)=true:=by
 rw[gG];intro v hv;simp[fE.aA]at hv;rcases hv with rfl|⟨b,_,rfl⟩<;>rfl
theorem Bk.cO(x:Bk):x.aA.all (·.h)=true:=by
 rw[gG];intro v hv;simp[Bk.aA]at hv;rcases hv with rfl|rfl|⟨b,_,rfl⟩|rfl|⟨b,_,rfl⟩|rfl|rfl<;>rfl
theorem Bk.ML(x:Bk)(j:Nat)(hj:j<17):x.aA[j+1]? = x.h.aA[j]?:=by
 rcases j with _|j
 ·rfl
 ·rw[show j+1+1=j+2 from rfl,Bk.Ew x j (by omega),fE.Ew x.h j (by omega)]
@[go_sem]theorem Um(w:au)(x:Bk)(t:bF):vE (w.alloc (.D x.aA t)) w.a.j 0 27=True:=by
 simp only[eq_iff_iff,iff_true];exact(IK w x.aA t 0 27 x.aA (Bk.I x) (fun j _=>by rw[bl])).1
@[go_sem]theorem IQ(w:au)(x:Bk)(t:bF):dQ (w.alloc (.D x.aA t)) w.a.j 0 27=x.aA:=
 (IK w x.aA t 0 27 x.aA (Bk.I x) (fun j _=>by rw[bl])).2
@[go_sem]theorem acd(w:au)(x:Bk)(t:bF):vE (w.alloc (.D x.aA t)) w.a.j 1 17=True:=by
 simp only[eq_iff_iff,iff_true];exact(IK w x.aA t 1 17 x.h.aA (fE.I _) (fun j hj=>by rw[lV];exact Bk.ML x j hj)).1
@[go_sem]theorem Rf(w:au)(x:Bk)(t:bF):dQ (w.alloc (.D x.aA t)) w.a.j 1 17=x.h.aA:=
 (IK w x.aA t 1 17 x.h.aA (fE.I _) (fun j hj=>by rw[lV];exact Bk.ML x j hj)).2
def rH(v:aC):xA aC:=cZ 27 v
def Lv(v:aC):xA aC:=cZ 62 v
def JX(v x:aC):xA Unit:=eU 62 v x
@[go_sem ↓]theorem atc(v:aC):cZ 27 v=rH v:=rfl
@[go_sem ↓]theorem awo(v:aC):cZ 62 v=Lv v:=rfl
@[go_sem ↓]theorem atd(v x:aC):eU 62 v x=JX v x:=rfl
@[go_sem]theorem aad(W:au)(b o:Nat)(h:vE W b o 27):(Lv (.c (some ⟨b,o,none⟩))).J aj W=.ok (.d (dQ W b o 27)) W:=
 jU W b o 27 _ _ lS rfl (by kernel_rfl) h
@[go_sem]theorem MO(W:au)(b o:Nat)(h:vE W b o 17):(rH (.c (some ⟨b,o,none⟩))).J aj W=.ok (.d (dQ W b o 17)) W:=
 jU W b o 17 _ _ fC rfl (by kernel_rfl) h
@[go_sem]theorem MP(w:au)(c:Array aC)(x:Bk)(hc:c.j=27):
 (JX (.c (some ⟨w.a.j,0,none⟩)) (.d x.aA)).J aj (w.alloc (.D c 62))=.ok () (w.alloc (.D x.aA 62)):=
 yY w _ c x.aA (by rw[Bk.I];kernel_rfl) (by rw[Bk.I];exact hc) (Bk.cO x)
def jd:Bk:=⟨[],⟨false,bH 16 0⟩,0,bH 6 0,0,false⟩
@[go_sem]theorem axE:cK #[jl {data:=#[]},bQ false,aB,aB,aB,aB,aB,aB,aB,aB,aB,aB,aB,aB,aB,aB,aB,aB,bg,aB,aB,aB,aB,aB,aB,Aj kW 0,bQ false]=cK jd.aA:=rfl
@[go_sem]theorem ate:Obj.cells #[jl {data:=#[]},bQ false,aB,aB,aB,aB,aB,aB,aB,aB,aB,aB,aB,aB,aB,aB,aB,aB,bg,aB,aB,aB,aB,aB,aB,Aj kW 0,bQ false] 62=Obj.cells jd.aA 62:=rfl
theorem ak1{fn:Func}{p u:Tmp}(h:fn.results = #[.cell p 62,.tmp u])(tmps:Array aC)(W:au)(b o:Nat)(hp:tmps.c p undef=.c (some ⟨b,o,none⟩))(hh:vE W b o 27):
 (results fn tmps).J aj W=.ok (.K #[.d (dQ W b o 27),tmps.c u undef]) W:=by
 have hl:=jU W b o 27 _ _ lS rfl (by kernel_rfl) hh;simp only[cZ,yR,jM,oD,gT]at hl;rw[KR h,hp];simp[asAddr,iI,hl]
def Un(W:au)(b o:Nat)(x:Bk):au:=W.setCells b o x.aA.a
@[go_sem]theorem axF(W:au)(b o:Nat)(x:Bk)(h:W.O b o 27):(JX (.c (some ⟨b,o,none⟩)) (.d x.aA)).J aj W=.ok () (Un W b o x):=
 El W b o _ x.aA (by rw[Bk.I];exact h) (by rw[Bk.I];kernel_rfl) (Bk.cO x)
theorem aeU(W:au)(b o:Nat)(x:Bk)(h:W.O b o 27):∀j,j<27->(Un W b o x).b ⟨b,o+j,none⟩=x.aA[j]?:=fun j hj=>by
 have hs:=Bk.I x;have:=World.cell?_setCells_in b x.aA.a o W (fun i hi=>(h i (by simpa[hs]using hi)).1) j (by simpa[hs]using hj);rw[Un,this,Array.getElem_toList,dK (by rw[hs];exact hj)]
theorem MQ(W:au)(b o:Nat)(x:Bk)(h:W.O b o 27):vE (Un W b o x) b o 27/\dQ (Un W b o x) b o 27=x.aA:=
 wT (Bk.I x) (aeU W b o x h)
theorem Qs{w W:au}{B:Nat}(h:aM B w W)(b o:Nat)(x:Bk)(hb:B<=b):aM B w (Un W b o x):=by
 unfold Un;generalize x.aA.a=l
 induction l generalizing W o with
 | nil=>exact h
 | cons v l ih=>rw[Dc];exact ih (h.G hb v) (o+1)
@[go_sem]theorem Xe(w:au)(x y:Bk):
 (JX (.c (some ⟨w.a.j,0,none⟩)) (.d x.aA)).J aj (w.alloc (.D y.aA 62))=.ok () (w.alloc (.D x.aA 62)):=
 MP w y.aA x (Bk.I y)
theorem XV(w:au)(c:Array aC)(t:bF)(hc:c.j=27):(w.alloc (.D c t)).O w.a.j 0 27:=fun j hj=>by
 have hj':j<c.j:=by omega
 refine⟨by rw[bl,ni,dK hj'];rfl,?_⟩;simp
namespace Fl
open Ieee
theorem IU:double.binade=4503599627370496:=by decide
theorem aae:double.signWeight=9223372036854775808:=by decide
theorem ace:double.infRung=9218868437227405312:=by decide
theorem MS:double.leastPlace = -1074:=by decide
theorem atf:double.fractionBits=52:=rfl
def mag(r:Nat):Nat:=if r<4503599627370496 then r else 4503599627370496+r%4503599627370496
def pl(r:Nat):Nat:=r/4503599627370496-1
def V(r:Nat):Nat:=mag r*2^pl r
theorem atg(r:Nat):mag r<9007199254740992:=by unfold mag;split<;>omega
theorem IV{x:Nat}(h:x<9218868437227405312):double.read x=.number false (mag x) ((pl x:Int)-1074):=by
 unfold Format.read;simp only[aae,IU,ace,MS];have h1:x/9223372036854775808=0:=by omega
 have h2:x%9223372036854775808=x:=by omega
 rw[h1,h2];simp only[mag,pl];by_cases h3:x<4503599627370496
 ·have:x/4503599627370496=0:=by omega
  simp[this,h3]
 ·rw[if_neg h3,if_pos h,if_neg h3]
  congr 1
theorem ak2{x:Nat}(h:x<9218868437227405312):double.read (9223372036854775808+x)=.number true (mag x) ((pl x:Int)-1074):=by
 unfold Format.read;simp only[aae,IU,ace,MS];have h1:(9223372036854775808+x)/9223372036854775808=1:=by omega
 have h2:(9223372036854775808+x)%9223372036854775808=x:=by omega
 rw[h1,h2];simp only[mag,pl];by_cases h3:x<4503599627370496
 ·have:x/4503599627370496=0:=by omega
  simp[this,h3]
 ·rw[if_neg h3,if_pos h,if_neg h3]
  congr 1
theorem acf:double.read 9218868437227405312=.infinity false:=by decide +kernel
theorem XW:double.read 18442240474082181120=.infinity true:=by decide +kernel
theorem ak3{x:Nat}(h:9218868437227405312<x)(h':x<9223372036854775808):double.read x=.nan false (x-9218868437227405312):=by
 unfold Format.read;simp only[aae,IU,ace,MS];have h1:x/9223372036854775808=0:=by omega
 have h2:x%9223372036854775808=x:=by omega
 rw[h1,h2,if_neg (by omega),if_neg (by omega),if_neg (by omega)];rfl
theorem aio{x:Nat}(h:18442240474082181120<x)(h':x<18446744073709551616):double.read x=.nan true (x-18442240474082181120):=by
 unfold Format.read;simp only[aae,IU,ace,MS];have h1:x/9223372036854775808=1:=by omega
 have h2:x%9223372036854775808=x-9223372036854775808:=by omega
 rw[h1,h2,if_neg (by omega),if_neg (by omega),if_neg (by omega)];simp;omega
theorem ak4(r:Nat):V (r+1)=V r+2^pl r:=by
 unfold V mag pl;by_cases h:r+1<4503599627370496
 ·have h1:r/4503599627370496=0:=by omega
  have h2:(r+1)/4503599627370496=0:=by omega
  rw[if_pos h,if_pos (by omega),h1,h2];simp
 ·rw[if_neg h]
  by_cases h3:(r+1)%4503599627370496=0
  ·
   have h4:r%4503599627370496=4503599627370495:=by omega
   have h5:(r+1)/4503599627370496=r/4503599627370496+1:=by omega
   rw[h3,h5];by_cases h6:r<4503599627370496
   ·have h7:r/4503599627370496=0:=by omega
    rw[if_pos h6,h7];simp;omega
   ·have h7:r/4503599627370496=(r/4503599627370496-1)+1:=by omega
    rw[if_neg h6,h4];have e:r/4503599627370496+1-1=(r/4503599627370496-1)+1:=by omega
    rw[e,Nat.pow_succ];generalize 2^(r/4503599627370496-1)=z;omega
  ·have h5:(r+1)/4503599627370496=r/4503599627370496:=by omega
   have h6:(r+1)%4503599627370496=r%4503599627370496+1:=by omega
   rw[h5,h6,if_neg (by omega)];generalize 2^(r/4503599627370496-1)=z;rw[show 4503599627370496+(r%4503599627370496+1)=(4503599627370496+r%4503599627370496)+1 from rfl,Dg]
theorem aaf{r s:Nat}(h:r<=s):V r<=V s:=by
 induction h with
 | refl=>exact ay _
 | step _ ih=>rw[ak4];exact aP ih (Nat.le_add_right _ _)
theorem aCA{r s:Nat}(h:r<s):V r<V s:=by
 have h1:=ak4 r;have h2:=aaf (show r+1<=s from h);have h3:0<2^pl r:=nO _;omega
theorem Uo{r s:Nat}:V r<=V s↔r<=s:=⟨fun h=>by
 by_cases hc:r<=s
 ·exact hc
 ·have:=aCA (show s<r by omega);omega,aaf⟩
theorem aeV:V 0=0:=by decide
theorem acg(a b:Int)(z:Nat)(hz:0<z):compare (a*z) (b*z)=compare a b:=by
 simp only[compare,compareOfLessAndEq];have a1:(a*(z:Int)<b*z)↔a<b:=Int.mul_lt_mul_right (by omega);have a2:(a*(z:Int)=b*z)↔a=b:=Int.mul_eq_mul_right_iff (by omega);simp only[a1,a2]
theorem Uq(s:Bool)(m k d:Nat):signed s m (k+d)=signed s m k*(2^d:Nat):=by
 unfold signed;simp only[mO,oJ];cases s
 ·simp[Int.mul_assoc]
 ·simp[Int.mul_assoc,Int.neg_mul]
theorem aip(s t:Bool)(m n i j:Nat):Datum.order (.number s m ((i:Int)-1074)) (.number t n ((j:Int)-1074))=some (compare (signed s m i) (signed t n j)):=by
 simp only[Datum.order];congr 1;obtain⟨b,hb⟩:∃b:Nat,b=min i j:=⟨_,rfl⟩
 have e0:min ((i:Int)-1074) ((j:Int)-1074)=(b:Int)-1074:=by omega
 rw[e0];have e1:signed s m i=signed s m ((i:Int)-1074-((b:Int)-1074)).e*(2^b:Nat):=by
  rw[<-Uq];congr 1;omega
 have e2:signed t n j=signed t n ((j:Int)-1074-((b:Int)-1074)).e*(2^b:Nat):=by
  rw[<-Uq];congr 1;omega
 rw[e1,e2];exact(acg _ _ _ (nO _)).symm
def XZ(x:Nat):Prop:=x<9218868437227405312\/(9223372036854775808<=x/\x<18442240474082181120)
def SV(x:Nat):Int:=if x<9223372036854775808 then(V x:Int)else -(V (x-9223372036854775808):Int)
theorem MV{x:Nat}(h:XZ x):∃(s:Bool)(m i:Nat),double.read x=.number s m ((i:Int)-1074)/\signed s m i=SV x:=by
 rcases h with h|⟨h,h'⟩
 ·exact⟨_,_,_,IV h,by unfold SV;rw[if_pos (by omega)];simp[signed,V,mO]⟩
 ·have:=ak2 (x:=x-9223372036854775808) (by omega)
  rw[show 9223372036854775808+(x-9223372036854775808)=x by omega]at this;exact⟨_,_,_,this,by unfold SV;rw[if_neg (by omega)];simp[signed,V,mO]⟩
theorem aag{x y:Nat}(hx:XZ x)(hy:XZ y):double.order x y=some (compare (SV x) (SV y)):=by
 obtain⟨s,m,i,h1,h2⟩:=MV hx;obtain⟨t,n,j,h3,h4⟩:=MV hy;unfold Format.order;rw[h1,h3,aip,h2,h4]
theorem ag6{x:Nat}(hx:x<18446744073709551616)(h:¬XZ x):x=9218868437227405312\/x=18442240474082181120\/(∃s f,double.read x=.nan s f):=by
 unfold XZ at h;by_cases h1:x=9218868437227405312
 ·exact .a h1
 by_cases h2:x=18442240474082181120
 ·exact .b (.a h2)
 by_cases h3:x<9223372036854775808
 ·exact .b (.b ⟨_,_,ak3 (by omega) h3⟩)
 ·exact .b (.b ⟨_,_,aio (by omega) hx⟩)
theorem OX{x y:Nat}{s f}(h:double.read x=.nan s f):double.order x y=none:=by
 unfold Format.order;rw[h];rfl
theorem Ya{y:Nat}(hy:XZ y):double.order 9218868437227405312 y=some .gt:=by
 obtain⟨t,n,j,h3,h4⟩:=MV hy;unfold Format.order;rw[h3,acf];rfl
theorem Ur{y:Nat}(hy:XZ y):double.order 18442240474082181120 y=some .lt:=by
 obtain⟨t,n,j,h3,h4⟩:=MV hy;unfold Format.order;rw[h3,XW];rfl
theorem ach(k t:Nat)(hk:0<k):(k*2^t).log2=k.log2+t:=by
 have h0:k*2^t≠0:=uD (Nat.mul_pos hk (nO _));have h1:2^k.log2<=k:=Nat.log2_self_le (by omega);have h2:k<2^(k.log2+1):=Nat.lt_log2_self;refine Nat.le_antisymm ?_ ?_
 ·refine FK ((Nat.log2_lt h0).2 ?_)
  rw[show Nat.succ (k.log2+t)=(k.log2+1)+t by omega,oJ];exact(Nat.mul_lt_mul_right (nO _)).2 h2
 ·refine(Nat.le_log2 h0).2 ?_
  rw[oJ];exact bY _ h1
theorem ak5(way:Toward)(neg:Bool)(n:Nat):way.cut neg n 0=n:=by
 unfold Toward.cut;cases way<;>simp[Nat.mod_one]
theorem aiq(neg:Bool)(k t:Nat)(hk:0<k):Toward.even.cut neg (k*2^t) t=k:=by
 unfold Toward.cut;have h0:min t ((k*2^t).log2+2)=t:=by rw[ach _ _ hk];omega
 have h1:(1 <<< t)=2^t:=by rw[mO,Nat.one_mul]
 have hp:0<2^t:=nO _;simp only[h0,h1,Nat.mul_div_cancel _ hp,Nat.mul_mod_left];simp
theorem aci(n t:Nat):Toward.down.cut false n t=n/2^t:=by
 unfold Toward.cut;simp only[Bool.false_and,Bool.toNat_false,nM];have h1:∀d,(1 <<< d)=2^d:=fun d=>by rw[mO,Nat.one_mul]
 rw[h1];by_cases h:t<=n.log2+2
 ·rw[oI h]
 ·rw[Ah (by omega)]
  have h2:n<2^(n.log2+1):=Nat.lt_log2_self;have h3:2^(n.log2+1)<=2^(n.log2+2):=nV (by omega) (by omega);have h4:2^(n.log2+2)<=2^t:=nV (by omega) (by omega);rw[Nat.div_eq_of_lt (by omega),Nat.div_eq_of_lt (by omega)]
theorem air(neg:Bool)(n t:Nat):Toward.zero.cut neg n t=n/2^t:=by
 have:=aci n t;unfold Toward.cut at this ⊢;simpa using this
theorem K6(neg:Bool)(k t s:Nat)(p:Int)(hp:p+t=(s:Int)-1074)(hk0:0<k)(hk:k<9007199254740992)(hs:s+k.log2<=2097):
 ∃r,r<9218868437227405312/\double.nearest neg (k*2^t) p=double.word neg r/\V r=k*2^s:=by
 have axG:k.log2<=52:=FK ((Nat.log2_lt (by omega)).2 (by simpa using hk));have h1:2^k.log2<=k:=Nat.log2_self_le (by omega);have h2:k<2^(k.log2+1):=Nat.lt_log2_self;have hne:k*2^t≠0:=uD (Nat.mul_pos hk0 (nO _));obtain⟨l,hl⟩:∃l:Nat,l=s+k.log2-52:=⟨_,rfl⟩
 have hlast:max (p+((k*2^t).log2:Int)-52) (-1074)=(l:Int)-1074:=by rw[ach _ _ hk0];omega
 have hkept:Toward.even.cut neg ((k*2^t) <<< (p-((l:Int)-1074)).e) (((l:Int)-1074)-p).e=k*2^(s-l):=by
  rw[mO];by_cases hc:(l:Int)-1074<=p
  ·rw[show(((l:Int)-1074)-p).e=0 by omega,ak5,Nat.mul_assoc,<-oJ]
   congr 2;omega
  ·rw[show(p-((l:Int)-1074)).e=0 by omega,Nat.pow_zero,gL]
   obtain⟨d,hd⟩:∃d:Nat,d=(((l:Int)-1074)-p).e:=⟨_,rfl⟩
   rw[<-hd,show k*2^t=(k*2^(s-l))*2^d by rw[Nat.mul_assoc,<-oJ];congr 2;omega];exact aiq _ _ _ (Nat.mul_pos hk0 (nO _))
 have hrun:double.nearest neg (k*2^t) p=double.word neg (min (l*4503599627370496+k*2^(s-l)) 9218868437227405312):=by
  unfold Format.nearest;simp only[if_neg hne,atf,MS,IU,ace];rw[show((52:Nat):Int)=52 from rfl,hlast,hkept];congr 4;omega
 by_cases hl0:l=0
 ·subst hl0
  have hb:k*2^s<9007199254740992:=by
   have h5:k*2^s<2^(k.log2+1)*2^s:=(Nat.mul_lt_mul_right (nO _)).2 h2;rw[<-oJ]at h5;have h6:2^(k.log2+1+s)<=2^53:=nV (by omega) (by omega);omega
  refine⟨k*2^s,by omega,?_,?_⟩
  ·rw[hrun,JK,bl,Nat.sub_zero,oI (by omega)]
  ·generalize k*2^s=z at hb
   unfold V mag pl;split
   ·rename_i h7;rw[show z/4503599627370496=0 by omega];simp
   ·rename_i h7;rw[show z/4503599627370496=1 by omega];simp;omega
 ·have hb1:4503599627370496<=k*2^(s-l):=by
   have h5:2^k.log2*2^(s-l)<=k*2^(s-l):=bY _ h1;rw[<-oJ,show k.log2+(s-l)=52 by omega]at h5;exact h5
  have hb2:k*2^(s-l)<9007199254740992:=by
   have h5:k*2^(s-l)<2^(k.log2+1)*2^(s-l):=(Nat.mul_lt_mul_right (nO _)).2 h2;rw[<-oJ,show k.log2+1+(s-l)=53 by omega]at h5;exact h5
  have hv:k*2^s=k*2^(s-l)*2^l:=by rw[Nat.mul_assoc,<-oJ];congr 2;omega
  rw[hv];generalize k*2^(s-l)=z at hb1 hb2 hrun;refine⟨l*4503599627370496+z,by omega,?_,?_⟩
  ·rw[hrun,oI (by omega)]
  ·unfold V mag pl
   rw[if_neg (by omega),show(l*4503599627370496+z)/4503599627370496=l+1 by omega,show(l*4503599627370496+z)%4503599627370496=z-4503599627370496 by omega];rw[show 4503599627370496+(z-4503599627370496)=z by omega];rfl
def top:Nat:=1074
theorem aeW:top=1074:=rfl
def U:Nat:=2^top
theorem ak6{p:Nat}(h:p<=top):U=2^(top-p)*2^p:=by
 have h1:2^(top-p+p)=2^(top-p)*2^p:=oJ 2 (top-p) p;rw[Nat.sub_add_cancel h]at h1;exact h1
theorem aoX{p:Nat}(h:p<=1074):U=2^(1074-p)*2^p:=by
 have h1:=ak6 (p:=p) (by rw[aeW];exact h);rw[h1,show top-p=1074-p from congrArg (fun z=>z-p) aeW]
theorem aCB:∃s:Nat,s=1074/\U=2^s:=⟨top,aeW,rfl⟩
theorem ak7:0<U:=nO _
theorem ais:double.read 4652218415073722368=.number false 4503599627370496 (-42):=by decide +kernel
theorem ak8:V 4652007308841189376=1000*U:=by decide +kernel
theorem FV(r:Nat):double.word false r=r:=rfl
theorem aah(x t s:Nat)(p:Int)(hp:p+t=(s:Int)-1074)(hs:s<=2045):
 ∃r,r<9218868437227405312/\double.write (.number false (mag x*2^t) p)=r/\V r=mag x*2^s:=by
 unfold Format.write;by_cases h0:mag x=0
 ·rw[h0,JK]
  exact⟨0,by decide,by simp[Format.nearest,FV],by simp[aeV]⟩
 ·have hm:=atg x
  have axG:(mag x).log2<=52:=FK ((Nat.log2_lt h0).2 (by simpa using hm));obtain⟨r,a,b,c⟩:=K6 false (mag x) t s p hp (by omega) hm (by omega);exact⟨r,a,b.trans (FV r),c⟩
theorem ak9{x:Nat}(h:x<=4652007308841189376):∃r,r<9218868437227405312/\double.mul x 4652218415073722368=some r/\V r=V x*1024:=by
 unfold Format.mul;rw[IV (x:=x) (by omega),ais];obtain⟨r,a,b,c⟩:=aah x 52 (pl x+10) ((pl x:Int)-1074 + -42) (by omega) (by unfold pl;omega);refine⟨r,a,?_,?_⟩
 ·simp only[Datum.product,Option.map]
  rw[show(4503599627370496:Nat)=2^52 from rfl];exact congrArg some b
 ·rw[c,V,oJ,Nat.mul_assoc]
theorem acj:double.mul 9223372036854775808 4652218415073722368=some 9223372036854775808:=by decide +kernel
theorem Us{r c:Nat}(h:V r<=V c):pl r<=pl c:=by
 have:=Uo.1 h;unfold pl;have:=Nat.div_le_div_right (c:=4503599627370496) this;omega
theorem arI{r:Nat}(h:pl r<=1074):mag r/2^(1074-pl r)=V r/U:=by
 unfold V;rw[aoX h,Nat.mul_div_mul_right _ _ (nO _)]
theorem Xf{r:Nat}(hr:r<9218868437227405312)(h:pl r<=1074):(double.read r).integral .down=.number false (V r/U) 0:=by
 rw[IV hr];simp only[Datum.integral];rw[show((pl r:Int)-1074).e=0 by omega,show(-((pl r:Int)-1074)).e=1074-pl r by omega,Nat.shiftLeft_zero,aci,arI h]
theorem Xg{r:Nat}(hr:r<9218868437227405312)(h:pl r<=1074):(double.read r).integral .zero=.number false (V r/U) 0:=by
 rw[IV hr];simp only[Datum.integral];rw[show((pl r:Int)-1074).e=0 by omega,show(-((pl r:Int)-1074)).e=1074-pl r by omega,Nat.shiftLeft_zero,air,arI h]
theorem acn(q:Nat)(hq:q<9007199254740992):∃r,r<9218868437227405312/\double.write (.number false q 0)=r/\V r=q*U:=by
 unfold Format.write;by_cases h0:q=0
 ·subst h0
  exact⟨0,by decide,by simp[Format.nearest,FV],by simp[aeV]⟩
 ·have axG:q.log2<=52:=FK ((Nat.log2_lt h0).2 (by simpa using hq))
  obtain⟨u,hu,hU⟩:=aCB;obtain⟨r,a,b,c⟩:=K6 false q 0 u 0 (by omega) (by omega) hq (by omega);rw[Nat.pow_zero,gL]at b;rw[<-hU]at c;exact⟨r,a,b.trans (FV r),c⟩
theorem ak':V 4697254411347427328=1048576*U:=by decide +kernel
theorem ala{r q:Nat}(hv:V r=q*U)(hq:q<=1048576):pl r<=1074:=by
 have h1:V r<=V 4697254411347427328:=by rw[hv,ak'];exact bY _ hq
 have h2:=Us h1;have h3:pl 4697254411347427328=1042:=by decide +kernel
 omega
def uM(x:Nat):Nat:=V x*1024/U
theorem aco{x y:Nat}(h:x<=y):uM x<=uM y:=Nat.div_le_div_right (bY _ (aaf h))
theorem acp:uM 4652007308841189376=1024000:=by
 unfold uM;rw[ak8,Nat.mul_right_comm,Nat.mul_div_cancel _ ak7]
theorem ait{x:Nat}(h:x<=4652007308841189376):uM x<=1024000:=acp ▸ aco h
end Fl
theorem zf(x:Nat)(w:au):(callFunc 198 #[.float .f64 x]).J aj w=.ok (.value (.b .c x)) w:=by
 rw[yH Tryz.func198 (by kernel_rfl) (by kernel_rfl) (by kernel_rfl) (e:=Extern.MathFloatBits.float64bits) (by kernel_rfl)];rfl
def ord(x y:Nat):Option Ordering:=kW.format.order x y
def Ut(x:Nat):Bool:=ord x x != some .eq
theorem aiu(x:Nat)(w:au):aQ aj 261 #[.float .f64 x] w fun e w'=>e=.a (.e (Ut x))/\w=w':=by
 go_enter Tryz.func261,Tryz.ntmps261;go_wp2;go_ret;exact⟨rfl,rfl⟩
def K7(x:Nat):Nat:=if Ut x then 9221120237041090560 else x
theorem alc(x:Nat)(w:au):aQ aj 192 #[.float .f64 x] w fun e w'=>e=.a (.b .c (K7 x))/\w=w':=by
 have h1:=zf x;cases hn:Ut x
 all_goals
  go_enter Tryz.func192,Tryz.ntmps192;go_wp2_with (first|(go_at_call 261;refine(aiu _ _).g ?_;rintro e w' ⟨rfl,rfl⟩));go_ret;exact⟨by simp[K7,hn],rfl⟩
def Ey(x y:Nat):Bool:=K7 x==K7 y
theorem acr(x y:Nat)(w:au):aQ aj 112 #[.float .f64 x,.float .f64 y] w fun e w'=>e=.a (.e (Ey x y))/\w=w':=by
 go_enter Tryz.func112,Tryz.ntmps112;go_wp2_with (first|(go_at_call 192;refine(alc _ _).g ?_;rintro e w' ⟨rfl,rfl⟩));go_ret;exact⟨by simp[Ey,aoP],rfl⟩
def OY(x:Nat):Bool:=(ord x 0==some .gt||ord x 0==some .eq)&&(ord x 4652007308841189376==some .lt||ord x 4652007308841189376==some .eq)
theorem JY(x:Nat)(w:au):aQ aj 170 #[.float .f64 x] w fun e w'=>e=.a (.e (OY x))/\w=w':=by
 cases h0:(kW.format.order x 0==some .gt||kW.format.order x 0==some .eq)
 all_goals
  go_enter Tryz.func170,Tryz.ntmps170;go_wp2;go_ret;exact⟨by simp[OY,ord,h0],rfl⟩
def kG(x:Nat):Nat:=if ord x 0==some .eq then 0 else x
theorem zh(x:Nat)(w:au):aQ aj 113 #[.float .f64 x] w fun e w'=>e=.a (.float .f64 (kG x))/\w=w':=by
 cases h0:(kW.format.order x 0==some .eq)
 all_goals
  go_enter Tryz.func113,Tryz.ntmps113;go_wp2;go_ret;exact⟨by simp[kG,ord,h0],rfl⟩
def Xh(x:Nat):Bool:=decide (x<=4652007308841189376)||x==9223372036854775808
theorem JZ{x:Nat}(hx:x<18446744073709551616):OY x=Xh x:=by
 have f0:Fl.XZ 0:=by unfold Fl.XZ;omega
 have f1:Fl.XZ 4652007308841189376:=by unfold Fl.XZ;omega
 have s0:Fl.SV 0=0:=by decide +kernel
 have s1:Fl.SV 4652007308841189376=(Fl.V 4652007308841189376:Int):=by unfold Fl.SV;rw[if_pos (by omega)]
 have ath:∀a b,ord a b=tZ.order a b:=fun _ _=>rfl
 unfold OY Xh;rw[cB];simp only[ath];by_cases hf:Fl.XZ x
 ·rw[Fl.aag hf f0,Fl.aag hf f1,s0,s1]
  have e1:∀a b:Int,(some (compare a b)==some Ordering.gt||some (compare a b)==some Ordering.eq)=decide (b<=a):=by
   intro a b;rw[cB];simp[Int.compare_eq_gt,Int.compare_eq_eq];omega
  have e2:∀a b:Int,(some (compare a b)==some Ordering.lt||some (compare a b)==some Ordering.eq)=decide (a<=b):=by
   intro a b;rw[cB];simp[Int.compare_eq_lt,Int.compare_eq_eq];omega
  rw[e1,e2];unfold Fl.SV;split
  ·rename_i h1
   have:=@Fl.Uo x 4652007308841189376;simp;omega
  ·rename_i h1
   have:=@Fl.Uo (x-9223372036854775808) 0;have hz:=Fl.aeV;simp;omega
 ·have hno:¬x<=4652007308841189376:=fun h=>hf (by unfold Fl.XZ;omega)
  have hno':¬x=9223372036854775808:=fun h=>hf (by unfold Fl.XZ;omega)
  rcases Fl.ag6 hx hf with rfl|rfl|⟨s,f,h⟩
  ·rw[Fl.Ya f0,Fl.Ya f1];decide
  ·rw[Fl.Ur f0,Fl.Ur f1];decide
  ·rw[Fl.OX h,Fl.OX h]
   simp;omega
def wQ(x:Nat):Nat:=if Xh x then Fl.uM (x%9223372036854775808)else 0
theorem arJ(x:Nat):wQ x<=1024000:=by
 unfold wQ;split
 ·rename_i h
  simp[Xh]at h;refine Fl.ait ?_;omega
 ·omega
theorem Uu(x:Nat)(d:Ieee.Datum)(h:tZ.read x=d)(hn:d.isNaN=false)(w:au):
 (callFunc 244 #[.float .f64 x]).J aj w=.ok (.value (.float .f64 (tZ.write (d.integral .down)))) w:=by
 rw[yH Tryz.func244 (by kernel_rfl) (by kernel_rfl) (by kernel_rfl) (e:=Extern.MathFloor.toIntegral (Tryz.f244.E) .down) (by kernel_rfl)];have e:kW.decode x=d:=h;have hrun:JL aj (Extern.MathFloor.toIntegral (Tryz.f244.E) .down #[.float .f64 x]) w=.ok (.float .f64 (tZ.write (d.integral .down))) w:=by
  change JL aj ((match kW.decode x with
   | .nan s t=>
     if kW.format.quiet t=t then pure (Aj .f64 x)else do
     let kept<-choose _
     pure (Aj .f64 (if kept==1 then x else kW.encode (.nan s (kW.format.quiet t))))
   | d=>pure (Aj .f64 (kW.encode (d.integral .down)))):xA aC) w=_
  rw[e];cases d with
  | nan s f=>simp[Ieee.Datum.isNaN]at hn
  | infinity s=>rfl
  | number s m i=>rfl
 rw[hrun];rfl
theorem aiv(x:Nat)(h:Xh x=true)(w:au):aQ aj 86 #[.float .f64 x] w fun e w'=>e=.a (.K #[.b .a (wQ x),.e true])/\w=w':=by
 have hx:x<18446744073709551616:=by simp[Xh]at h;omega
 have hr:OY x=true:=by rw[JZ hx,h]
 obtain⟨r,r2,e1,e2,e3,e4⟩:∃r r2,tZ.mul x 4652218415073722368=some r/\(tZ.read r).isNaN=false/\tZ.write ((tZ.read r).integral .down)=r2/\floatToIntVal .f64 r2 .a=some (wQ x:Int):=by
  by_cases hm:x=9223372036854775808
  ·subst hm
   exact⟨_,_,Fl.acj,by decide +kernel,rfl,by decide +kernel⟩
  ·have hle:x<=4652007308841189376:=by simp[Xh]at h;omega
   have hq:wQ x=Fl.uM x:=by unfold wQ;rw[if_pos h,fP (by omega)]
   obtain⟨r,a,b,c⟩:=Fl.ak9 hle;have aIU:=arJ x;have hV:Fl.V r<1048576*Fl.U:=by
    have h1:=Fl.aaf hle;rw[Fl.ak8]at h1;have:=Fl.ak7;rw[c];generalize Fl.V x=y at h1;generalize Fl.U=u at h1 this;omega
   have hpl:Fl.pl r<=1074:=by
    have h1:Fl.V r<=Fl.V 4697254411347427328:=by rw[Fl.ak'];exact Nat.le_of_lt hV
    have h2:=Fl.Us h1;have h3:Fl.pl 4697254411347427328=1042:=by decide +kernel
    omega
   have hi:=Fl.Xf a hpl;have hqq:Fl.V r/Fl.U=wQ x:=by rw[hq,c];rfl
   rw[hqq]at hi;obtain⟨r2,a2,b2,c2⟩:=Fl.acn (wQ x) (by omega);have hz:=Fl.Xg a2 (Fl.ala c2 (by omega));rw[c2,Nat.mul_div_cancel _ Fl.ak7]at hz;refine⟨r,r2,b,?_,?_,?_⟩
   ·rw[Fl.IV a];rfl
   ·rw[hi];exact b2
   ·unfold floatToIntVal
    have:(kW.decode r2).toInt .zero=some (wQ x:Int):=by
     show(tZ.read r2).toInt .zero=_;unfold Ieee.Datum.toInt;rw[hz];simp[Ieee.signed]
    rw[this];simp[JI,JJ,lZ,nY];omega
 have h1:=fun w=>run_float_arith (P:=aj) w .mul 60 .f64 x 4652218415073722368 r e1
 have h2:=Uu r _ rfl e2;rw[e3]at h2;have h3:=fun w=>run_convert_float_int (P:=aj) w 60 3 .f64 .a r2 _ (by kernel_rfl) gY e4
 clear e1 e2 e3 e4;go_enter Tryz.func86,Tryz.ntmps86;go_wp2_with (first|(go_at_call 170;refine(JY _ _).g ?_;rintro e w' ⟨rfl,rfl⟩)|(go_at_call 171;go_in));go_ret2;exact⟨rfl,rfl⟩
theorem aiw(x:Nat)(hx:x<18446744073709551616)(h:Xh x=false)(w:au):aQ aj 86 #[.float .f64 x] w fun e w'=>e=.a (.K #[.b .a (wQ x),.e false])/\w=w':=by
 have hr:OY x=false:=by rw[JZ hx,h]
 have hq:wQ x=0:=by unfold wQ;rw[h];rfl
 go_enter Tryz.func86,Tryz.ntmps86;go_wp2_with (first|(go_at_call 170;refine(JY _ _).g ?_;rintro e w' ⟨rfl,rfl⟩));go_ret2;exact⟨by simp[hq],rfl⟩
theorem aeX(x:Nat)(hx:x<18446744073709551616)(w:au):aQ aj 86 #[.float .f64 x] w fun e w'=>e=.a (.K #[.b .a (wQ x),.e (Xh x)])/\w=w':=by
 cases h:Xh x
 ·exact aiw x hx h w
 ·exact aiv x h w
theorem MW(x m k:Nat)(hx:x<18446744073709551616)(hm:m+1=2^k)(hk:m<18446744073709551616):bits .and .c (x:Int) (m:Int)=((x%2^k:Nat):Int):=by
 rw[bits_and_u64_nat x m hx hk,show m=2^k-1 by omega,Nat.and_two_pow_sub_one_eq_mod]
theorem aix(x:Nat)(hx:x<18446744073709551616)(w:au):aQ aj 265 #[.float .f64 x] w fun e w'=>
 e=.a (.K #[.e (decide (9223372036854775808<=x)),.b .a (x/4503599627370496%2048:Nat),.b .c (x%4503599627370496:Nat)])/\w=w':=by
 have h1:=zf x;have h2:bits .and .c ((x:Int)/4503599627370496) 2047=((x/4503599627370496%2048:Nat):Int):=
  MW (x/4503599627370496) 2047 11 (by omega) (by omega) (by omega)
 have h3:bits .and .c (x:Int) 4503599627370495=((x%4503599627370496:Nat):Int):=
  MW x 4503599627370495 52 (by omega) (by omega) (by omega)
 go_enter Tryz.func265,Tryz.ntmps265;go_wp2;go_ret3;refine⟨?_,rfl⟩;have e1:((x:Int)/9223372036854775808==1)=decide (9223372036854775808<=x):=by rw[cB];simp;omega
 have e2:wrap64 ((x/4503599627370496%2048:Nat):Int)=((x/4503599627370496%2048:Nat):Int):=IntWalk.wrap64_in _ (by omega);simp[e1]
theorem acs(n i:Nat):rQ n (i+1)=rQ n i++[FP n i]:=by
 unfold rQ;rw[List.range_succ,List.map_append];rfl
theorem acu(n k:Nat)(hk:k<=8)(hn:n<18446744073709551616)(w:au):
 aQ aj 197 #[.b .c n,.b .a k,.e true] w fun e w'=>∃v,e=.a v /\
  w'.c w.a.j 5 1 v k ((iL n k true).map bv)/\aM w.a.j w w':=by
 obtain⟨i0,hi0,hz0,hz1,hz2⟩:=info_parts FM;go_enter Tryz.func197,Tryz.ntmps197;go_wp2;go_loopw [0,7,8] (fun s0 s7 s8 wr=>∃(i:Nat)(A:Option aU)(cap:Nat),i<=k/\s0=.b .c (n/2^(8*i):Nat)/\s7=.a A i cap/\s8=.b .a i/\wr.c w.a.j 5 1 (.a A i cap) i ((rQ n i).reverse.map bv)/\aM w.a.j w wr) (fun _ _ s8 _=>k-(intOf s8).e)
 case atStart=>exact⟨0,none,0,by omega,by simp,rfl,rfl,fB _ _ _ _,aH _ _⟩
 case round=>
  obtain⟨i,A,cap,hi,rfl,rfl,rfl,hown,hb⟩:=hrel;by_cases hlt:i<k
  ·have hlt2:(i:Int)<k:=by omega
   have hlt3:(i:Int)<8:=by omega
   have hlo:=acs n i;have hbyte:=ab7 n i;have hq:n/2^(8*i)<18446744073709551616:=Nat.lt_of_le_of_lt (Ku _ _) hn;have hn2:n/2^(8*(i+1))=n/2^(8*i)/256:=by
    rw[Nat.div_div_eq_div_mul,show 8*(i+1)=8*i+8 by omega,oJ]
   have ald:((FP n i).e:Int)=((n/2^(8*i):Nat):Int)%256:=by rw[hbyte];simp
   have HN:=ah hn2;have HLO:=ah hlo;have Kw:=ah ald;clear hn2 hlo hbyte ald;generalize n/2^(8*i)=q at hq HN Kw ⊢;have hrd:=Rd.gV hown;have HO:=ah hown;clear hown;have o1:(wr.alloc (.D #[.b .b ((q:Int)%256)] 5)).c w.a.j 5 1 (.a (some ⟨wr.a.j,0,none⟩) 1 1) 1 [.b .b ((q:Int)%256)]:=
    lN wr #[.b .b ((q:Int)%256)] 1 hb.j (by unfold maxLen;omega) rfl
   have o2:=hrd.alloc (ay _) (.D #[.b .b ((q:Int)%256)] 5);have o3:w.a.j<=(wr.alloc (.D #[.b .b ((q:Int)%256)] 5)).a.j:=by have:=hb.j;simp;omega
   have O1:=ah o1;have O2:=ah o2;have O3:=ah o3;have HB:=ah hb;clear o1 o2 o3 hrd hb;go_wp2_with (at_builtin;refine iT _ rfl (.tmp 26) (.tmp 27) _ rfl w.a.j 5 i0 (.b .b 0) 1 1 cu hi0 hz0 hz1 hz2 rfl (ay 1) (.a (some ⟨wr.a.j,0,none⟩) 1 1) 1 [.b .b ((q:Int)%256)] rfl O1.i wr.a.j A i cap ((rQ n i).reverse.map bv) rfl O2.i (Di _) (by unfold maxLen;omega) (by omega) O3.i ?_;intro v1 w1 hown1 hg1 uN);go_roundw
   case rel=>
    obtain⟨A',cap',hv,_,_⟩:=jw hown1;refine⟨i+1,A',cap',by omega,by rw[HN.i];go_num,by rw[hv,lV],by go_num,?_,?_⟩
    ·rw[lV i 1,<-hv,lV 1 i,HLO.i]
     rw[lV 1 i]at hown1;simpa[bv,Kw.i]using hown1
    ·exact qM (HB.i.alloc HB.i.j _) hg1 HB.i.j O3.i
   case measure=>simp[intOf]<;>omega
  ·obtain rfl:i=k:=by omega
   have hd:decide ((i:Int)<(i:Int))=false:=by simp
   go_wp2;go_ret;exact⟨_,rfl,hown,hb⟩
theorem ale{x:Nat}(hx:x<18446744073709551616):Ut x=((((x/4503599627370496%2048:Nat):Int)==2047)&&(((x%4503599627370496:Nat):Int) != 0)):=by
 have ath:ord x x=tZ.order x x:=rfl;unfold Ut;rw[ath,cB];by_cases hf:Fl.XZ x
 ·rw[Fl.aag hf hf]
  have:compare (Fl.SV x) (Fl.SV x)=.eq:=Int.compare_eq_eq.2 rfl;rw[this];unfold Fl.XZ at hf;simp;omega
 ·rcases Fl.ag6 hx hf with rfl|rfl|⟨s,f,h⟩
  ·decide +kernel
  ·decide +kernel
  ·rw[Fl.OX h]
   have h1:x≠9218868437227405312:=by rintro rfl;rw[Fl.acf]at h;cases h
   have h2:x≠18442240474082181120:=by rintro rfl;rw[Fl.XW]at h;cases h
   unfold Fl.XZ at hf;simp;omega
theorem Uv(x:Nat)(hx:x<18446744073709551616)(w:au):aQ aj 196 #[.float .f64 x] w fun e w'=>e=.a (.e (Ut x))/\w=w':=by
 have hn:=ale hx;obtain⟨E,hE⟩:∃E:Int,E=((x/4503599627370496%2048:Nat):Int):=⟨_,rfl⟩
 obtain⟨M,hM⟩:∃M:Int,M=((x%4503599627370496:Nat):Int):=⟨_,rfl⟩
 rw[<-hE,<-hM]at hn;have HN:=ah hn;have HE:=ah hE;have HM:=ah hM;clear hn hE hM;cases hc:(E==2047)
 all_goals
  go_enter Tryz.func196,Tryz.ntmps196;go_wp2_with (first|(go_at_call 265;refine(aix _ hx _).g ?_;rintro e w' ⟨rfl,rfl⟩;rw[<-HE.i,<-HM.i]));go_ret;refine⟨?_,rfl⟩;rw[HN.i,hc];simp
theorem acv{x:Nat}(hx:x<18446744073709551616):K7 x<18446744073709551616:=by unfold K7;split<;>omega
def Lx(x:Nat):List UInt8:=iL (K7 x) 8 true
theorem aeY(x:Nat)(hx:x<18446744073709551616)(w:au):aQ aj 119 #[.float .f64 x] w fun e w'=>
 ∃A c,e=.a (.a A 8 c)/\fZ w' w'.a.j A 8 (Lx x)/\aM w.a.j w w':=by
 have h1:=zf x;cases hn:Ut x
 ·have e1:K7 x=x:=by unfold K7;rw[hn];rfl
  have HE:=ah e1;clear e1;go_enter Tryz.func119,Tryz.ntmps119;go_wp2_with (first|(go_at_call 196;refine(Uv _ hx _).g ?_;rintro e w' ⟨rfl,rfl⟩)|(go_at_call 197;refine(acu _ 8 (by omega) hx _).g ?_;rintro e w' ⟨v,rfl,hown,hbl⟩));obtain⟨A,cap,hv,_,_⟩:=jw hown;go_ret;refine⟨A,cap,by simp[hv],?_,hbl⟩;rw[hv]at hown;have:=Rd.gV hown;unfold fZ Lx;rw[HE.i];exact this
 ·have e1:Lx x=[127,248,0,0,0,0,0,0]:=by unfold Lx K7;rw[hn,if_pos rfl];decide +kernel
  have HE:=ah e1;clear e1;go_enter Tryz.func119,Tryz.ntmps119;go_wp2_with (first|(go_at_call 196;refine(Uv _ hx _).g ?_;rintro e w' ⟨rfl,rfl⟩));go_ret;refine⟨_,_,rfl,?_,(aH _ _).alloc (ay _) _⟩;rw[HE.i];refine fZ.akQ (c:=0) (l:=[127,248,0,0,0,0,0,0]) (World.rowIs_alloc w _ _ (fun j=>bv (([127,248,0,0,0,0,0,0]:List UInt8).c j 0)) (fun i hi=>?_)) (by simp) (by simp) (fun j hj=>rfl);simp at hi;have:i=0\/i=1\/i=2\/i=3\/i=4\/i=5\/i=6\/i=7:=by omega
  rcases this with rfl|rfl|rfl|rfl|rfl|rfl|rfl|rfl<;>rfl
theorem wU{w:au}{A:Option aU}{n:Nat}{l:List UInt8}(h:fZ w w.a.j A n l)(c:Nat):
 (∀W,aM w.a.j w W->(convert 56 9 (.a A n c)).J aj W=.ok (.g (bP l)) W) /\
  (convert 56 9 (.a A n c)).J aj w=.ok (.g (bP l)) w:=
 ⟨fun W hW=>IE (P:=aj) (h.S hW) _ _ _ cu lF iR c,
  IE (P:=aj) h _ _ _ cu lF iR c⟩
theorem acw(l:List UInt8):(bP l).a=l:=ByteArray.toList_mk l
theorem acy{n m:Nat}(k:Nat)(h:∀i,i<k->FP n i=FP m i):n%2^(8*k)=m%2^(8*k):=by
 induction k with
 | zero=>simp[Nat.mod_one]
 | succ k ih=>
   have h1:=ih (fun i hi=>h i (by omega));have h2:=congrArg UInt8.toNat (h k (by omega));simp only[FP,Df]at h2;have e:2^(8*(k+1))=2^(8*k)*256:=by rw[show 8*(k+1)=8*k+8 by omega,oJ]
   rw[e,Nat.mod_mul,Nat.mod_mul,h1,h2]
theorem aeZ{n m:Nat}(hn:n<18446744073709551616)(hm:m<18446744073709551616)(h:iL n 8 true=iL m 8 true):n=m:=by
 have h1:rQ n 8=rQ m 8:=by
  have:=congrArg List.reverse h;simpa[iL]using this
 have h2:∀i,i<8->FP n i=FP m i:=fun i hi=>by
  have:=congrArg (fun l:List UInt8=>l[i]?) h1;simpa[rQ,hi]using this
 have h3:=acy 8 h2;rw[fP (by omega),fP (by omega)]at h3;exact h3
theorem Rh(l:List UInt8):rQ (oL l) l.a=l.reverse:=by
 have key:∀(k:Nat)(l:List UInt8),l.a=k->rQ (oL l) k=l.reverse:=by
  intro k
  induction k with
  | zero=>intro l hl;rw[bG hl];rfl
  | succ k ih=>
    intro l hl;obtain⟨r,c,rfl⟩:∃r c,l=r++[c]:=⟨l.dropLast,l.getLast (by intro h;simp[h]at hl),(List.dropLast_concat_getLast _).symm⟩
    have hr:r.a=k:=by simpa using hl
    have:=ih r hr;rw[IG];unfold rQ at this ⊢;rw[List.range_succ_eq_map,kK,Ir,List.reverse_append];simp only[List.reverse_cons,List.reverse_nil,dG,List.singleton_append,List.cons.injEq];constructor
    ·unfold FP
     apply mE.1;have:=c.a;simp[Df]
    ·rw[<-this]
     refine Ck (fun i hi=>?_);simp only[Function.comp,FP];have e:(oL r*256+c.e)/2^(8*(i+1))=oL r/2^(8*i):=by
      rw[show 8*(i+1)=8+8*i by omega,oJ,<-Nat.div_div_eq_div_mul];congr 1;have:=c.a;omega
     rw[show Nat.succ i=i+1 from rfl,e]
 exact key _ l rfl
theorem acz(x y:Nat)(hx:x<18446744073709551616)(hy:y<18446744073709551616)(w:au):aQ aj 199 #[.float .f64 x,.float .f64 y] w fun e w'=>
 e=.a (.e (decide (Lx x=Lx y)))/\aM w.a.j w w':=by
 have ht:=acw;go_enter Tryz.func199,Tryz.ntmps199;go_wp2_with fail;go_region_with (first|(go_at_call 119;refine(aeY _ (by assumption) _).g ?_;rintro e w' ⟨A,c,rfl,hr,hb⟩;obtain⟨k1,k2⟩:=wU hr c))
 all_goals go_wp2
 all_goals go_ret
 all_goals exact⟨by simp[aoR,eq_comm,Act.put],aoQ (by assumption) hb⟩
def fE.mU(a:fE):Bool:=(a.b.a.f 4).all (fun c=>c==0)
theorem fE.axH(a:fE):a.b.a.a=16:=a.b.size_toArray
def Bk.Cx(x:Bk):Bool:=(x.h.h||x.h.mU)&&vT x.E&&decide (1<=x.nu)&&decide (x.nu<=65535)&&Xh x.w
def fE.fG(a:fE)(i:Nat):UInt8:=a.b.a.c i 0
theorem fE.J3(a:fE):a.mU=true↔∀i,4<=i->i<16->a.fG i=0:=by
 unfold fE.mU fE.fG;rw[fV];have hl:=a.axH;constructor
 ·intro h i h4 h16
  have:a.b.a.c i 0∈a.b.a.f 4:=by
   rw[av,aD (by omega)];exact List.mem_drop_iff_getElem.2 ⟨i-4,by omega,by simp[show 4+(i-4)=i by omega]⟩
  simpa using h _ this
 ·intro h x hx
  obtain⟨j,hj,rfl⟩:=List.mem_drop_iff_getElem.1 hx;have:=h (4+j) (by omega) (by omega);rw[av,aD (by omega)]at this;simpa using this
theorem fE.Uw{a:fE}{i:Nat}(h4:4<=i)(h16:i<16)(h:a.fG i≠0):a.mU=false:=by
 cases hs:a.mU
 ·rfl
 ·exact absurd (a.J3.1 hs i h4 h16) h
theorem aiy(a:fE)(w:au):aQ aj 133 #[.d a.aA] w (gy w (.e (a.mU && !a.h))):=by
 go_enter Tryz.func133,Tryz.ntmps133;go_wp2;have hb:aM w.a.j w (w.alloc (.D a.aA 27)):=(aH _ _).alloc (ay _) _;have HB:=ah hb;clear hb;go_loop [3] (fun s3=>∃i:Nat,i<=16/\4<=i/\s3=.b .a i/\∀j,4<=j->j<i->a.fG j=0) (fun s3=>16-(intOf s3).e)
 case atStart=>exact⟨4,by omega,by omega,rfl,fun j h1 h2=>by omega⟩
 case round=>
  obtain⟨i,hi,hi4,rfl,hall⟩:=hrel;have HA:=ah hall;clear hall;by_cases hlt:i<16
  ·have hin:(i:Int)<16:=by omega
   have hcell:(w.alloc (.D a.aA 27)).b ⟨w.a.j,1+i,none⟩=some (.b .b ((a.fG i).e:Nat)):=by
    rw[ni,lV];exact fE.Ew a i hlt
   have hz:((a.fG i).e:Int)=0↔a.fG i=0:=by
    constructor
    ·intro h;apply mE.1;have:(0:UInt8).e=0:=rfl;omega
    ·intro h;rw[h];rfl
   have HZ:=ah hz;clear hz;obtain⟨n,hn⟩:∃n:Nat,n=(a.fG i).e:=⟨_,rfl⟩
   rw[<-hn]at hcell HZ;clear hn;by_cases h0:n=0
   ·have h1:((n:Int) != 0)=false:=by rw[h0];rfl
    have hz0:a.fG i=0:=HZ.i.1 (by omega);have HZ0:=ah hz0;clear hz0 h0;go_wp2;go_round
    case rel=>exact⟨i+1,by omega,by omega,by go_num,fun j h1 h2=>by
     by_cases hji:j=i
     ·rw[hji];exact HZ0.i
     ·exact HA.i j h1 (by omega)⟩
    case measure=>simp[intOf]<;>omega
   ·have h1:((n:Int) != 0)=true:=by rw[bne_iff_ne];omega
    have hno:a.mU=false:=fE.Uw hi4 hlt (fun h=>h0 (by have:=HZ.i.2 h;omega));have FW:=ah hno;clear hno h0;go_wp2;go_ret;exact⟨by rw[FW.i];rfl,HB.i⟩
  ·obtain rfl:i=16:=by omega
   have hs:a.mU=true:=a.J3.2 HA.i;have HS:=ah hs;clear hs;go_wp2;go_ret;exact⟨by rw[HS.i];rfl,HB.i⟩
theorem Qt(c:Nat)(w:au):aQ aj 191 #[.b .b c] w fun e w'=>e=.a (.e ((c:Int) != 0))/\w=w':=by
 go_enter Tryz.func191,Tryz.ntmps191;go_wp2;go_ret;exact⟨rfl,rfl⟩
theorem Xi(args:Array aC)(w:au):(callFunc 191 args).J aj w=.ok (.enter 191 args) w:=by kernel_rfl
theorem acB(a:fE)(b o c:Nat)(w:au)(hc:∀j,j<12->w.b ⟨b,o+j,none⟩=some (.b .b ((a.fG (4+j)).e:Nat))):
 aQ aj 260 #[.a (some ⟨b,o,none⟩) 12 c,.func (.func 191) #[] #[]] w fun e w'=>∃r:Int,e=.a (.b .a r)/\(decide (0<=r) = !a.mU)/\w=w':=by
 have hen:=Xi;have HC:=ah hc;clear hc;go_enter Tryz.func260,Tryz.ntmps260;go_wp2;go_loop [8] (fun s8=>∃i:Nat,i<=12/\s8=.b .a i/\∀j,4<=j->j<4+i->a.fG j=0) (fun s8=>12-(intOf s8).e)
 case atStart=>exact⟨0,by omega,rfl,fun j h1 h2=>by omega⟩
 case round=>
  obtain⟨i,hi,rfl,hall⟩:=hrel;have HA:=ah hall;clear hall;by_cases hlt:i<12
  ·have hin:(i:Int)<12:=by omega
   have hcell:=HC.i i hlt;have hz:((a.fG (4+i)).e:Int)=0↔a.fG (4+i)=0:=by
    constructor
    ·intro h;apply mE.1;have:(0:UInt8).e=0:=rfl;omega
    ·intro h;rw[h];rfl
   have HZ:=ah hz;clear hz;obtain⟨n,hn⟩:∃n:Nat,n=(a.fG (4+i)).e:=⟨_,rfl⟩
   rw[<-hn]at hcell HZ;clear hn;by_cases h0:n=0
   ·have h1:((n:Int) != 0)=false:=by rw[h0];rfl
    have hz0:a.fG (4+i)=0:=HZ.i.1 (by omega);have HZ0:=ah hz0;clear hz0 h0;go_wp2_with (go_at_call 191;refine(Qt n _).g ?_;rintro e w' ⟨rfl,rfl⟩);go_round
    case rel=>exact⟨i+1,by omega,by go_num,fun j h1 h2=>by
     by_cases hji:j=4+i
     ·rw[hji];exact HZ0.i
     ·exact HA.i j h1 (by omega)⟩
    case measure=>simp[intOf]<;>omega
   ·have h1:((n:Int) != 0)=true:=by rw[bne_iff_ne];omega
    have hno:a.mU=false:=fE.Uw (i:=4+i) (by omega) (by omega) (fun h=>h0 (by have:=HZ.i.2 h;omega));have FW:=ah hno;clear hno h0;go_wp2_with (go_at_call 191;refine(Qt n _).g ?_;rintro e w' ⟨rfl,rfl⟩);go_ret;exact⟨_,rfl,by rw[FW.i];simp,rfl⟩
  ·obtain rfl:i=12:=by omega
   have hs:a.mU=true:=a.J3.2 HA.i;have HS:=ah hs;clear hs;go_wp2;go_ret;exact⟨_,rfl,by rw[HS.i];simp,rfl⟩
theorem Qu(a:fE)(b o c:Nat)(w:au)(hc:∀j,j<12->w.b ⟨b,o+j,none⟩=some (.b .b ((a.fG (4+j)).e:Nat))):
 aQ aj 189 #[.a (some ⟨b,o,none⟩) 12 c,.func (.func 191) #[] #[]] w fun e w'=>e=.a (.e (!a.mU))/\w=w':=by
 have HC:=ah hc;clear hc;go_enter Tryz.func189,Tryz.ntmps189;go_wp2_with (go_at_call 260;refine(acB a b o c _ HC.i).g ?_;rintro e w' ⟨r,rfl,hr,rfl⟩);go_ret;exact⟨by simp,rfl⟩
theorem ae0(w:au)(x:Bk)(t:bF):∀j,j<12->(w.alloc (.D x.aA t)).b ⟨w.a.j,6+j,none⟩=some (.b .b ((x.h.fG (4+j)).e:Nat)):=fun j hj=>by
 rw[ni,show 6+j=(4+j)+2 by omega];exact Bk.Ew x (4+j) (by omega)
theorem acC(x:Bk)(w:au)(hn:x.E.a<=9223372036854775807)(hw:x.w<18446744073709551616):
 aQ aj 111 #[.d x.aA] w (gy w (.e x.Cx)):=by
 have ht:=ae0 w x 62;have HT:=ah ht;clear ht;have hr:=JZ hw;have HR:=ah hr;clear hr;have hf:x.Cx=((x.h.h||x.h.mU)&&vT x.E&&decide (1<=x.nu)&&decide (x.nu<=65535)&&Xh x.w):=rfl;have HF:=ah hf;clear hf;have hb0:aM w.a.j w (w.alloc (.D x.aA 62)):=(aH _ _).alloc (ay _) _;have HB0:=ah hb0;clear hb0;cases hs:(x.h.h||x.h.mU)
 ·have h6:x.h.h=false:=by cases h:x.h.h<;>simp_all
  have hsh:x.h.mU=false:=by cases h:x.h.mU<;>simp_all
  have HS:=ah hs;clear hs;go_enter Tryz.func111,Tryz.ntmps111;go_wp2_with fail;refine(Qu x.h _ 6 _ _ HT.i).g ?_;rintro e w' ⟨rfl,rfl⟩;rw[hsh];go_wp2_with fail;go_ret;exact⟨by rw[HF.i,HS.i];rfl,HB0.i⟩
 ·have HS:=ah hs
  have hk:vT x.E=true\/vT x.E=false:=by cases vT x.E<;>simp
  clear hs;have main:∀(K:Bool),vT x.E=K->x.h.h=true\/(x.h.h=false/\x.h.mU=true) ->
   aQ aj 111 #[.d x.aA] w fun e w'=>e=.a (.e x.Cx)/\aM w.a.j w w':=by
   intro K hK h6;have HK:=ah hK;clear hK hk;rcases h6 with h6|⟨h6,hsh⟩
   all_goals
    go_enter Tryz.func111,Tryz.ntmps111;go_wp2_with fail
    try(refine(Qu x.h _ 6 _ _ HT.i).g ?_;rintro e w' ⟨rfl,rfl⟩;rw[hsh];go_wp2_with fail)
    refine(Ul _ _ hn).g ?_;rintro e w1 ⟨rfl,hb1⟩;rw[HK.i];have hcl:=aii hb1;have hB1:aM w.a.j w w1:=HB0.i.trans (hb1.g (by simp));have HB1:=ah hB1;clear hb1 hB1;cases K
    ·go_wp2_with fail
     go_ret;exact⟨by rw[HF.i,HS.i,HK.i];rfl,HB1.i⟩
    ·by_cases p1:1<=x.nu
     ·by_cases p2:x.nu<=65535
      ·go_wp2_with fail
       refine(JY _ _).g ?_;rintro e w' ⟨rfl,rfl⟩;rw[HR.i];go_wp2_with fail;go_ret;exact⟨by rw[HF.i,HS.i,HK.i];simp[p1,p2]<;>intros<;>omega,HB1.i⟩
      ·go_wp2_with fail
       go_ret;exact⟨by rw[HF.i,HS.i,HK.i];simp[p1,p2]<;>intros<;>omega,HB1.i⟩
     ·go_wp2_with fail
      go_ret;exact⟨by rw[HF.i,HS.i,HK.i];simp[p1]<;>intros<;>omega,HB1.i⟩
  refine main _ rfl ?_;have:=HS.i;cases h:x.h.h
  ·right;rw[h]at this;exact⟨rfl,by simpa using this⟩
  ·left;rfl
def dO(l:List Bk):List aC:=l.h (·.aA.a)
theorem jH(l:List Bk):(dO l).a=l.a*27:=by
 induction l with
 | nil=>rfl
 | cons x l ih=>
   have hx:=Bk.I x;rw[dO,iO,aS,bf,hx,bD];rw[dO]at ih;rw[ih];omega
theorem IW(l:List Bk)(k j:Nat)(hk:k<l.a)(hj:j<27):(dO l)[k*27+j]? = (l.c k jd).aA[j]?:=by
 induction l generalizing k with
 | nil=>simp at hk
 | cons x l ih=>
   have hx:=Bk.I x;rw[dO,iO];rcases k with _|k
   ·rw[mX (by rw[bf,hx];omega),dH]
    simp
   ·rw[rD (by rw[bf,hx];omega),bf,hx,show(k+1)*27+j-27=k*27+j by omega]
    rw[bD]at hk;rw[List.getD_cons_succ];exact ih k (by omega)
def Ez(w:au)(B:Nat)(A:Option aU)(n:Nat)(l:List Bk):Prop:=
 l.a=n/\Rd w B 27 A n (dO l)/\∀a,A=some a->0<n->a=⟨a.block,a.off,none⟩
section
variable {w w':au} {B B' n:Nat} {A:Option aU} {l:List Bk}
theorem Ez.S(h:Ez w B A n l)(hb:aM B w w'):Ez w' B A n l:=⟨h.1,Rd.S h.2.1 hb,h.2.2⟩
theorem Ez.lH(h:Ez w B A n l)(hB:B<=B'):Ez w B' A n l:=⟨h.1,Rd.lH h.2.1 hB,h.2.2⟩
theorem Ez.alloc(h:Ez w B A n l)(hB:B<=w.a.j)(o:Obj):Ez (w.alloc o) B A n l:=⟨h.1,Rd.alloc h.2.1 hB o,h.2.2⟩
theorem Ez.cell{k:Nat}(h:Ez w B A n l)(hk:k<n):∃b o,A=some ⟨b,o,none⟩/\b<B/\∀j,j<27->w.b ⟨b,o+k*27+j,none⟩=(l.c k jd).aA[j]?:=by
 obtain⟨h1,h2,h3⟩:=h;obtain⟨a,hA,hb,hc⟩:=h2.2 (by omega);have:=h3 a hA (by omega);refine⟨a.block,a.off,by rw[hA,<-this],hb,fun j hj=>?_⟩;have hg:=IW l k j (by omega) hj;have hs:((l.c k jd).aA)[j]? = some ((l.c k jd).aA[j]'(by rw[Bk.I];exact hj)):=dK _;rw[hs]at hg ⊢;have:=hc _ _ hg;rw[h3 a hA (by omega),iH]at this;rw[<-this,nG]
theorem Ez.fG{k:Nat}(h:Ez w B A n l)(hk:k<n):∃b o,A=some ⟨b,o,none⟩/\b<B/\vE w b (o+k*27) 27/\dQ w b (o+k*27) 27=(l.c k jd).aA:=by
 obtain⟨b,o,hA,hb,hc⟩:=h.cell hk;exact⟨b,o,hA,hb,wT (Bk.I _) hc⟩
end
def mK(a b:List UInt8):Int:=iE a b
theorem ae1(a b:List UInt8):mK a b = -1\/mK a b=0\/mK a b=1:=by
 unfold mK
 induction a generalizing b with
 | nil=>cases b<;>simp[iE]
 | cons x a ih=>
   cases b with
   | nil=>simp[iE]
   | cons y b=>
     unfold iE;split
     ·simp
     ·split
      ·simp
      ·exact ih b
theorem OZ(x y:UInt8):x<y\/x=y\/y<x:=by
 rcases Nat.lt_trichotomy x.e y.e with h|h|h
 ·exact Or.inl (zK.2 h)
 ·exact Or.inr (Or.inl (mE.1 h))
 ·exact Or.inr (Or.inr (zK.2 h))
theorem J4{a b:List UInt8}:mK a b=0↔a=b:=by
 unfold mK
 induction a generalizing b with
 | nil=>cases b<;>simp[iE]
 | cons x a ih=>
   cases b with
   | nil=>simp[iE]
   | cons y b=>
     unfold iE;rcases OZ x y with h|rfl|h
     ·have:x≠y:=fun e=>by subst e;exact kE x h
      simp[h,this]
     ·have:=kE x
      simp[this,ih]
     ·have h1:¬x<y:=fun h2=>kE x (sZ h2 h)
      have:x≠y:=fun e=>by subst e;exact kE x h
      simp[h,h1,this]
theorem aiz(a b:List UInt8):mK b a = - mK a b:=by
 unfold mK
 induction a generalizing b with
 | nil=>cases b<;>simp[iE]
 | cons x a ih=>
   cases b with
   | nil=>simp[iE]
   | cons y b=>
     unfold iE;rcases OZ x y with h|rfl|h
     ·have h1:¬y<x:=fun h2=>kE x (sZ h h2)
      simp[h,h1]
     ·have:=kE x
      simp[this,ih]
     ·have h1:¬x<y:=fun h2=>kE x (sZ h2 h)
      simp[h,h1]
theorem FZ{a b c:List UInt8}(h1:mK a b<0)(h2:mK b c<0):mK a c<0:=by
 unfold mK at *
 induction a generalizing b c with
 | nil=>
   cases c with
   | nil=>cases b<;>simp[iE]at h1 h2
   | cons z c=>simp[iE]
 | cons x a ih=>
   cases b with
   | nil=>simp[iE]at h1
   | cons y b=>
     cases c with
     | nil=>simp[iE]at h2
     | cons z c=>
       unfold iE at h1 h2 ⊢;rcases OZ x y with h|rfl|h
       ·rcases OZ y z with k|rfl|k
        ·have:=sZ h k
         simp[this]
        ·simp[h]
        ·have k1:¬y<z:=fun k2=>kE z (sZ k k2)
         simp[k,k1]at h2
       ·have hx:=kE x
        rcases OZ x z with k|rfl|k
        ·simp[k]
        ·simp[hx]at h1 h2 ⊢
         exact ih h1 h2
        ·have k1:¬x<z:=fun k2=>kE z (sZ k k2)
         simp[k,k1]at h2
       ·have h3:¬x<y:=fun k2=>kE y (sZ h k2)
        simp[h,h3]at h1
theorem xW(a b:List UInt8):bR a b=decide (mK a b<0):=by
 unfold mK
 induction a generalizing b with
 | nil=>cases b<;>simp[iE,bR]
 | cons x a ih=>
   cases b with
   | nil=>simp[iE,bR]
   | cons y b=>
     unfold iE bR;rcases OZ x y with h|rfl|h
     ·simp[h]
     ·have:=kE x
      simp[this,ih]
     ·have h1:¬x<y:=fun h2=>kE x (sZ h2 h)
      have:x≠y:=fun e=>by subst e;exact kE x h
      simp[h,h1,this]
def Ga(l:List Bk):Prop:=l.Pairwise fun x y=>mK x.E y.E<0
def nm(l:List Bk)(i:Nat):List UInt8:=(l.c i jd).E
theorem Ga.lt{l:List Bk}(h:Ga l){i j:Nat}(hij:i<j)(hj:j<l.a):mK (nm l i) (nm l j)<0:=by
 have:=List.pairwise_iff_getElem.1 h i j (by omega) hj hij;unfold nm;rw[av,av,aD hj,aD (by omega:i<l.a)];exact this
theorem Ga.down{l:List Bk}(h:Ga l){i j:Nat}(s:List UInt8)(hij:i<=j)(hj:j<l.a)(hs:mK (nm l j) s<0):mK (nm l i) s<0:=by
 rcases aZ i j with h1|h1
 ·exact FZ (h.lt h1 hj) hs
 ·obtain rfl:i=j:=by omega
  exact hs
theorem Ga.up{l:List Bk}(h:Ga l){i j:Nat}(s:List UInt8)(hij:i<=j)(hj:j<l.a)(hs:¬mK (nm l i) s<0):¬mK (nm l j) s<0:=fun h1=>hs (h.down s hij hj h1)
def kH(l:List Bk)(s:List UInt8):Nat:=(l.takeWhile fun x=>decide (mK x.E s<0)).a
theorem ag7{l:List Bk}{s:List UInt8}{k:Nat}(hk:k<=l.a)(h1:∀i,i<k->mK (nm l i) s<0)(h2:k<l.a->¬mK (nm l k) s<0):kH l s=k:=by
 unfold kH
 induction l generalizing k with
 | nil=>simp at hk⊢;omega
 | cons x l ih=>
   rcases k with _|k
   ·have:¬mK x.E s<0:=h2 (by simp)
    simp[this]
   ·have h0:mK x.E s<0:=h1 0 (by omega)
    rw[List.takeWhile_cons];simp only[h0,decide_true,if_true,bD];rw[ih (k:=k) (by simpa using hk) (fun i hi=>h1 (i+1) (by omega)) (fun hi=>h2 (by simpa using hi))]
theorem Ux(a b:List UInt8)(w:au):(callFunc 302 #[.g (bP a),.g (bP b)]).J aj w=.ok (.value (.b .a (mK a b))) w:=by
 rw[yH Tryz.func302 (by kernel_rfl) (by kernel_rfl) (by kernel_rfl) (e:=Extern.BytealgCompare.compare) (by kernel_rfl),Lib.run_compareString];rfl
theorem MX(a b:List UInt8)(w:au):aQ aj 240 #[.g (bP a),.g (bP b)] w fun e w'=>e=.a (.b .a (mK a b))/\w=w':=by
 have h:=Ux a b;go_enter Tryz.func240,Tryz.ntmps240;go_wp2;go_ret;exact⟨rfl,rfl⟩
theorem Qv(a b:List UInt8)(w:au):aQ aj 166 #[.g (bP a),.g (bP b)] w fun e w'=>e=.a (.b .a (mK a b))/\w=w':=by
 go_enter Tryz.func166,Tryz.ntmps166;go_wp2_with (go_at_call 240;refine(MX _ _ _).g ?_;rintro e w' ⟨rfl,rfl⟩);go_ret;exact⟨rfl,rfl⟩
theorem SE(x:Bk)(s:List UInt8)(w:au):aQ aj 179 #[.d x.aA,.g (bP s)] w (gy w (.b .a (mK x.E s))):=by
 have hb0:aM w.a.j w (w.alloc (.D x.aA 62)):=(aH _ _).alloc (ay _) _;have HB0:=ah hb0;clear hb0;go_enter Tryz.func179,Tryz.ntmps179;go_wp2_with (go_at_call 166;refine(Qv _ _ _).g ?_;rintro e w' ⟨rfl,rfl⟩);go_ret;exact⟨rfl,HB0.i⟩
def sP(l:List Bk)(s:List UInt8):Bool:=decide (kH l s<l.a)&&decide (mK (nm l (kH l s)) s=0)
def qd(l:List Bk)(s:List UInt8):Bk:=if sP l s then l.c (kH l s) jd else jd
theorem aoY{l:List Bk}{s:List UInt8}(h:sP l s=false):qd l s=jd:=by simp[qd,h]
theorem EA{l:List Bk}{s:List UInt8}(h:sP l s=true):qd l s=l.c (kH l s) jd:=by simp[qd,h]
theorem aiA(args:Array aC)(w:au):(callFunc 179 args).J aj w=.ok (.enter 179 args) w:=by kernel_rfl
theorem ae2(l:List Bk)(hs:Ga l)(s:List UInt8)(A:Option aU)(c:Nat)(w:au)(hR:Ez w w.a.j A l.a l)(hn:l.a<4611686018427387904):
 aQ aj 178 #[.a A l.a c,.g (bP s),.func (.func 179) #[] #[]] w
  (gy w (.K #[.b .a (kH l s),.e (sP l s)])):=by
 have hen:=aiA;have HR:=ah hR;clear hR;have HS:=ah hs;clear hs;obtain⟨n,hnl⟩:=dw l.a;rw[<-hnl]at HR hn ⊢;have HN:=ah hnl;clear hnl;go_enter Tryz.func178,Tryz.ntmps178;go_wp2;go_loopw [9,10] (fun s9 s10 wr=>∃i j:Nat,i<=j/\j<=n/\s9=.b .a i/\s10=.b .a j/\(∀k,k<i->mK (nm l k) s<0)/\(∀k,j<=k->k<n->¬mK (nm l k) s<0)/\aM w.a.j w wr) (fun s9 s10 _=>(intOf s10-intOf s9).e)
 case atStart=>exact⟨0,n,by omega,ay _,rfl,rfl,fun k hk=>by omega,fun k h1 h2=>by omega,aH _ _⟩
 case round=>
  obtain⟨i,j,hij,hjn,rfl,rfl,hlo,hhi,hb⟩:=hrel;have HLO:=ah hlo;have HHI:=ah hhi;have HB:=ah hb;clear hlo hhi hb;by_cases hlt:i<j
  ·have hin:(i:Int)<j:=by omega
   have hmn:(i+j)/2<n:=by omega
   have hR1:=HR.i.S HB.i;obtain⟨b,o,rfl,hbb,hh,hc⟩:=hR1.fG hmn;have Ig:=ah hbb;clear hR1 hbb;have hdn:∀k,k<=(i+j)/2->mK (nm l ((i+j)/2)) s<0->mK (nm l k) s<0:=fun k hk h=>HS.i.down s hk (by have:=HN.i;omega) h
   have hup:∀k,(i+j)/2<=k->k<n->¬mK (nm l ((i+j)/2)) s<0->¬mK (nm l k) s<0:=fun k hk hkn h=>HS.i.up s hk (by have:=HN.i;omega) h
   have HDN:=ah hdn;have HUP:=ah hup;clear hdn hup;unfold nm at HDN HUP;obtain⟨x,hx⟩:=dw (l.c ((i+j)/2) jd);rw[<-hx]at hc HDN HUP;clear hx;by_cases ht:mK x.E s<0
   ·have hd:decide (mK x.E s<0)=true:=by simpa using ht
    go_wp2_with (go_at_call 179;refine(SE x s _).g ?_;rintro e w1 ⟨rfl,hb1⟩;clear hh hc;have HB1:=ah hb1;clear hb1);go_roundw
    case rel=>exact⟨(i+j)/2+1,j,by omega,by omega,by go_num,by go_num,fun k hk=>HDN.i k (by omega) ht,fun k h1 h2=>by have:=HHI.i k h1 h2;omega,iZ HB.i HB1.i⟩
    case measure=>simp[intOf]<;>omega
   ·have hd:decide (mK x.E s<0)=false:=by simpa using ht
    go_wp2_with (go_at_call 179;refine(SE x s _).g ?_;rintro e w1 ⟨rfl,hb1⟩;clear hh hc;have HB1:=ah hb1;clear hb1);go_roundw
    case rel=>exact⟨i,(i+j)/2,by omega,by omega,by go_num,by go_num,HLO.i,fun k h1 h2=>by have:=HUP.i k h1 h2 ht;unfold nm;omega,iZ HB.i HB1.i⟩
    case measure=>simp[intOf]<;>omega
  ·obtain rfl:i=j:=by omega
   have hlo:kH l s=i:=ag7 (by have:=HN.i;omega) HLO.i (fun h=>by have:=HHI.i i (ay _) (by have:=HN.i;omega);omega);have alf:=ah hlo;clear hlo;by_cases hlt2:i<n
   ·have hin:(i:Int)<n:=by omega
    have hR1:=HR.i.S HB.i;obtain⟨b,o,rfl,hbb,hh,hc⟩:=hR1.fG hlt2;clear hR1 hbb;have hf:sP l s=decide (mK (l.c i jd).E s=0):=by
     have h1:=alf.i;have h2:=HN.i;unfold sP nm;rw[h1];simp[show i<l.a by omega]
    have HF:=ah hf;clear hf;obtain⟨x,hx⟩:=dw (l.c i jd);rw[<-hx]at hc HF;clear hx;by_cases ht:mK x.E s=0
    ·have hd:(mK x.E s==0)=true:=by simpa using ht
     go_wp2_with (go_at_call 179;refine(SE x s _).g ?_;rintro e w1 ⟨rfl,hb1⟩;clear hh hc;have HB1:=ah hb1;clear hb1);go_ret2;exact⟨by rw[alf.i,HF.i];simp[ht],iZ HB.i HB1.i⟩
    ·have hd:(mK x.E s==0)=false:=by simpa using ht
     go_wp2_with (go_at_call 179;refine(SE x s _).g ?_;rintro e w1 ⟨rfl,hb1⟩;clear hh hc;have HB1:=ah hb1;clear hb1);go_ret2;exact⟨by rw[alf.i,HF.i];simp[ht],iZ HB.i HB1.i⟩
   ·have hf:sP l s=false:=by
     have h1:=alf.i;have h2:=HN.i;unfold sP;rw[h1];simp[show¬i<l.a by omega]
    have HF:=ah hf;clear hf;have hd:decide ((i:Int)<n)=false:=by simpa using hlt2
    go_wp2;go_ret2;exact⟨by rw[alf.i,HF.i];rfl,HB.i⟩
theorem LA(l:List Bk)(hs:Ga l)(s:List UInt8)(v:Int)(A:Option aU)(c:Nat)(w:au)(hR:Ez w w.a.j A l.a l)(hn:l.a<4611686018427387904):
 aQ aj 96 #[.d #[.b .a v,.a A l.a c],.g (bP s)] w (gy w (.K #[.b .a (kH l s),.e (sP l s)])):=by
 have hb0:∀ob,aM w.a.j w (w.alloc ob):=fun ob=>(aH _ _).alloc (ay _) _
 have HB0:=ah hb0;clear hb0;have HR1:=ah (fun ob=>(hR.alloc (ay _) ob).lH (B':=(w.alloc ob).a.j) (by simp));clear hR;go_enter Tryz.func96,Tryz.ntmps96;go_wp2_with (go_at_call 178;refine(ae2 l hs s A c _ (HR1.i _) hn).g ?_;rintro e w1 ⟨rfl,hb1⟩;have HB1:=ah hb1;clear hb1);go_ret2;exact⟨rfl,iZ (HB0.i _) HB1.i⟩
theorem Bv(l:List Bk)(hs:Ga l)(s:List UInt8)(v:Int)(A:Option aU)(c:Nat)(w:au)(hR:Ez w w.a.j A l.a l)(hn:l.a<4611686018427387904):
 aQ aj 33 #[.d #[.b .a v,.a A l.a c],.g (bP s)] w (gy w (.K #[.d (qd l s).aA,.e (sP l s)])):=by
 have hb0:∀ob sO,aM w.a.j w ((w.alloc ob).alloc sO):=fun ob sO=>((aH _ _).alloc (ay _) _).alloc (by simp) _
 have HB0:=ah hb0;clear hb0;have HR1:=ah (fun ob sO=>((hR.alloc (ay _) ob).alloc (by simp) sO).lH (B':=((w.alloc ob).alloc sO).a.j) (by simp;omega));have HRB:=ah hR;clear hR;obtain⟨K,hK⟩:=sQ (sP l s);have HK:=ah hK;clear hK;cases K
 ·go_enter Tryz.func33,Tryz.ntmps33
  go_wp2_with fail;refine(LA l hs s v A c _ (HR1.i _ _) hn).g ?_;rintro e w1 ⟨rfl,hb1⟩;rw[HK.i];have hth:=Qp (XV (w.alloc (.D #[.b .a v,.a A l.a c] 32)) jd.aA 62 (Bk.I _)) hb1 (by simp);rw[show∀ob,(w.alloc ob).a.j=w.a.j+1 from fun ob=>by simp]at hth;have hB:=HB0.i (.D #[.b .a v,.a A l.a c] 32) (.D jd.aA 62);have HB1:=ah (hB.trans (hb1.g (by simp;omega)));have HT:=ah hth;clear hb1 hB;go_wp2_with fail
  (try simp only[Exit.inBlock,Exit.then])
  refine aO (ak1 rfl _ _ _ _ rfl (MQ _ _ _ _ HT.i).1) rfl ⟨?_,Qs HB1.i _ _ _ (by omega)⟩;rw[(MQ _ _ _ _ HT.i).2,aoY HK.i]
  try rw[HK.i]
  rfl
 ·have hlt:kH l s<l.a:=by
   have:=HK.i;unfold sP at this;simp at this;exact this.1
  have hin:((kH l s:Nat):Int)<(l.a:Nat):=by omega
  go_enter Tryz.func33,Tryz.ntmps33;go_wp2_with fail;refine(LA l hs s v A c _ (HR1.i _ _) hn).g ?_;rintro e w1 ⟨rfl,hb1⟩;rw[HK.i];have hcl:w1.b ⟨w.a.j,1,none⟩=some (.a A l.a c):=by
   rw[hb1.cell (by simp;omega)];go_simp
  have hth:=Qp (XV (w.alloc (.D #[.b .a v,.a A l.a c] 32)) jd.aA 62 (Bk.I _)) hb1 (by simp);rw[show∀ob,(w.alloc ob).a.j=w.a.j+1 from fun ob=>by simp]at hth;have hB:=HB0.i (.D #[.b .a v,.a A l.a c] 32) (.D jd.aA 62);have hB1:=hB.trans (hb1.g (by simp;omega));have HB1:=ah hB1;have hR1:=HRB.i.S hB1;have HT:=ah hth;clear hb1 hB hB1;obtain⟨b,o,rfl,hbb,hh,hc⟩:=hR1.fG hlt;clear hbb hR1;obtain⟨x,hx⟩:=dw (l.c (kH l s) jd);rw[<-hx]at hc;have HX:=ah hx;clear hx;go_wp2_with fail
  (try simp only[Exit.inBlock,Exit.then])
  refine aO (ak1 rfl _ _ _ _ rfl (MQ _ _ _ _ HT.i).1) rfl ⟨?_,Qs HB1.i _ _ _ (by omega)⟩;rw[(MQ _ _ _ _ HT.i).2,EA HK.i,<-HX.i]
  try rw[HK.i]
  rfl
theorem nW{P:eX}{T:Type}(f:T->au){id:Nat}{Q:zW->qY->au->Prop}{a:qY}{w:au}{l:List je}(hm:P.follows .mixedOrders=true)(hB:Region.lexB .any l.b=true)
 (n0:T) (h0:f n0=w.drew)
 (h:wpQuiet P l.b (fun w'=>∃n,w'=f n) (fun a'=>∀w',(∃n,w'=f n)->Q .normal a' w') l a):(Code.region id l.b true).wp P Q a w:=
 wp_region_quiet (C:=fun w'=>∃n,w'=f n) hm hB ⟨n0,h0.symm⟩ (by simpa using h)
theorem EC(S:au->Prop)(w:au)(h:S w.drew):∃(T:Type)(f:T->au)(n0:T),f n0=w.drew/\(∀n,S (f n))/\(∀W,S W->∃n,W=f n):=
 ⟨{W // S W},Subtype.val,⟨w.drew,h⟩,rfl,fun n=>n.2,fun W hW=>⟨⟨W,hW⟩,rfl⟩⟩
theorem aiB(x:Nat):Ey x x=true:=by simp[Ey]
def Xj(x:Nat):Bool:=Ey x (kG x)
def Bk.qg(x:Bk):Prop:=x.E.a<=9223372036854775807/\x.w<18446744073709551616
def Ky(l:List Bk)(i:Nat):Bool:=(l.c i jd).Cx&&Xj (l.c i jd).w&&(decide (i=0)||decide (mK (nm l (i-1)) (nm l i)<0))
def xX(v:Int)(l:List Bk):Bool:=decide (0<=v)&&decide (v<=1099511627776)&&decide (l.a<=1024)&&(dS l.a).all (Ky l)
theorem IX(p:Nat->Bool)(i:Nat):(dS (i+1)).all p=((dS i).all p&&p i):=by
 rw[List.range_succ,List.all_append];simp
theorem mg(p:Nat->Bool)(i n:Nat)(h:i<n)(hp:p i=false):(dS n).all p=false:=by
 rw[List.all_eq_false];exact⟨i,eG.2 h,by rw[hp];simp⟩
def SR(n4:Nat)(x:Bk)(hp:Nat)(sl:aC)(b o:Nat)(pn:List UInt8)(W:au):Prop:=
 n4<W.a.j/\hp<W.a.j/\b<W.a.j/\vE W n4 0 27/\dQ W n4 0 27=x.aA/\W.b ⟨n4,0,none⟩=some (.g (bP x.E))/\W.b ⟨n4,25,none⟩=some (fv x.w)/\W.b ⟨hp,1,none⟩=some sl/\W.b ⟨b,o,none⟩=some (.g (bP pn))
theorem SR.S{n4 hp b o:Nat}{x:Bk}{sl:aC}{pn:List UInt8}{W W1:au}(h:SR n4 x hp sl b o pn W)(hb:aM W.a.j W W1):SR n4 x hp sl b o pn W1:=by
 obtain⟨h1,h2,h3,h4,h5,h6,h7,h8,h9⟩:=h;have hz:=hb.j;refine⟨by omega,by omega,by omega,fun j hj=>?_,?_,by rw[hb.cell h1];exact h6,by rw[hb.cell h1];exact h7,by rw[hb.cell h2];exact h8,by rw[hb.cell h3];exact h9⟩
 ·obtain⟨v,hv⟩:=h4 j hj
  exact⟨v,by rw[hb.cell h1];exact hv⟩
 ·rw[<-h5];exact Bt fun j _=>hb.cell h1
theorem SR.load{n4 hp b o:Nat}{x:Bk}{sl:aC}{pn:List UInt8}{W:au}(h:SR n4 x hp sl b o pn W):(Lv (.c (some ⟨n4,0,none⟩))).J aj W=.ok (.d x.aA) W:=by
 rw[aad W n4 0 h.2.2.2.1,h.2.2.2.2.1]
theorem Xk(l:List Bk)(hf:∀x∈l,x.qg)(v:Int)(A:Option aU)(c:Nat)(w:au)(hR:Ez w w.a.j A l.a l)(hn:l.a<4611686018427387904):
 aQ aj 45 #[.d #[.b .a v,.a A l.a c]] w (gy w (.e (xX v l))):=by
 have hb0:∀ob,aM w.a.j w (w.alloc ob):=fun ob=>(aH _ _).alloc (ay _) _
 have HB0:=ah hb0;clear hb0;have HR:=ah hR;have HF:=ah hf;clear hR hf;have hp:xX v l=(decide (0<=v)&&decide (v<=1099511627776)&&decide (l.a<=1024)&&(dS l.a).all (Ky l)):=rfl;have HP:=ah hp;clear hp;by_cases h1:0<=v;rotate_left
 ·have h1':v<0:=by omega
  go_enter Tryz.func45,Tryz.ntmps45;go_wp2;go_ret;exact⟨by rw[HP.i];simp<;>intros<;>omega,HB0.i _⟩
 by_cases h2:v<=1099511627776;rotate_left
 ·go_enter Tryz.func45,Tryz.ntmps45
  go_wp2;go_ret;exact⟨by rw[HP.i];simp<;>intros<;>omega,HB0.i _⟩
 by_cases h3:l.a<=1024;rotate_left
 ·go_enter Tryz.func45,Tryz.ntmps45
  go_wp2;go_ret;exact⟨by rw[HP.i];simp<;>intros<;>omega,HB0.i _⟩
 obtain⟨n,hnl⟩:=dw l.a;rw[<-hnl]at HR hn h3 ⊢;have HN:=ah hnl;clear hnl;go_enter Tryz.func45,Tryz.ntmps45;go_wp2;go_loopw [22] (fun s22 wr=>∃i:Nat,i<=n/\s22=.b .a i/\(dS i).all (Ky l)=true/\aM (w.a.j+1) (w.alloc (.D #[.b .a v,.a A n c] 32)) wr) (fun s22 _=>n-(intOf s22).e)
 case atStart=>exact⟨0,by omega,rfl,rfl,by simpa using aH _ _⟩
 case round=>
  obtain⟨i,hin,rfl,hall,hb⟩:=hrel;have HA:=ah hall;have hB:=(HB0.i (.D #[.b .a v,.a A n c] 32)).trans (hb.g (by simp));have hcl:wr.b ⟨w.a.j,1,none⟩=some (.a A n c):=by
   rw[hb.cell (by simp)];go_simp
  have HB:=ah hb;have HBW:=ah hB;have hsz:=hb.j;clear hall hb hB;by_cases hlt:i<n
  ·have hi:(i:Int)<n:=by omega
   have hR1:=HR.i.S HBW.i;obtain⟨b,o,rfl,hbb,hh,hc⟩:=hR1.fG hlt;have hbs:b<wr.a.j:=by simp at hsz;omega
   have hmem:l.c i jd∈l:=by
    have:=HN.i;rw[av,aD (by omega)];simp
   obtain⟨hx1,hx2⟩:=HF.i _ hmem;have hok:Ky l i=((l.c i jd).Cx&&Xj (l.c i jd).w&&(decide (i=0)||decide (mK (nm l (i-1)) (nm l i)<0))):=rfl;have hnm:nm l i=(l.c i jd).E:=rfl;rw[hnm]at hok;obtain⟨x,hx⟩:=dw (l.c i jd);rw[<-hx]at hc hx1 hx2 hok;have JW:=ah hok;clear hx hok hnm hmem;obtain⟨K1,hK1⟩:∃K,x.Cx=K:=⟨_,rfl⟩
   obtain⟨K2,hK2⟩:∃K,Ey x.w (kG x.w)=K:=⟨_,rfl⟩
   have hn4:wr.a.j<(wr.alloc (.D x.aA 62)).a.j:=by simp
   have hS:∀b' o' pn,b'<wr.a.j->wr.b ⟨b',o',none⟩=some (.g (bP pn))->SR wr.a.j x w.a.j (.a (some ⟨b,o,none⟩) n c) b' o' pn (wr.alloc (.D x.aA 62)):=by
    intro b' o' pn h1 h2;refine⟨by simp,by simp at hsz⊢;omega,by simp;omega,?_,?_,?_,?_,?_,?_⟩
    ·rw[Um];trivial
    ·exact IQ _ _ _
    ·rw[ni];exact Bk.qG x
    ·rw[ni];exact Bk.aeS x
    ·rw[vJ _ _ _ (by simp at hsz⊢;omega)];exact hcl
    ·rw[vJ _ _ _ (by simpa using h1)];exact h2
   have hpn:∃pn,(0<i->wr.b ⟨b,o+(i-1)*27,none⟩=some (.g (bP pn))/\nm l (i-1)=pn):=by
    refine⟨nm l (i-1),fun h0=>⟨?_,rfl⟩⟩;obtain⟨b',o',hbo,_,hcc⟩:=hR1.cell (k:=i-1) (by omega);injection hbo with hbo
    injection hbo with e1 e2
    subst e1 e2;have:=hcc 0 (by omega);rw[Bk.qG]at this;simpa[nm]using this
   have hn0:wr.b ⟨b,o+i*27,none⟩=some (.g (bP x.E)):=by
    have:=hh 0 (by omega);obtain⟨u,hu⟩:=this;have hg:=IJ wr b (o+i*27) 27 0 (by omega);rw[hc,Bk.qG]at hg;rw[hu]at hg;simp at hg hu;rw[hu,<-hg]
   have Xl:∀b' o' pn,b'<wr.a.j->wr.b ⟨b',o',none⟩=some (.g (bP pn))->∃(T:Type)(f:T->au)(n0:T),f n0=(wr.alloc (.D x.aA 62)).drew/\(∀m W1,aM (f m).a.j (f m) W1->∃m',W1=f m')/\(∀m,aM (w.a.j+1) (w.alloc (.D #[.b .a v,.a (some ⟨b,o,none⟩) n c] 32)) (f m)) /\
    (∀m,(Lv (.c (some ⟨wr.a.j,0,none⟩))).J aj (f m)=.ok (.d x.aA) (f m))/\(∀m,(f m).b ⟨wr.a.j,0,none⟩=some (.g (bP x.E)))/\(∀m,(f m).b ⟨wr.a.j,25,none⟩=some (.float .f64 x.w)) /\
     (∀m,(f m).b ⟨w.a.j,1,none⟩=some (.a (some ⟨b,o,none⟩) n c))/\(∀m,(f m).b ⟨b',o',none⟩=some (.g (bP pn))):=by
    intro b' o' pn h1 h2;obtain⟨T,f,n0,e0,eS,eT⟩:=EC (fun W=>SR wr.a.j x w.a.j (.a (some ⟨b,o,none⟩) n c) b' o' pn W/\aM (w.a.j+1) (w.alloc (.D #[.b .a v,.a (some ⟨b,o,none⟩) n c] 32)) W)
     (wr.alloc (.D x.aA 62)) ⟨hS _ _ _ h1 h2,(HB.i.alloc (by simp at hsz;omega) _).drew⟩
    refine⟨T,f,n0,e0,?_,fun m=>(eS m).2,fun m=>(eS m).1.load,fun m=>(eS m).1.2.2.2.2.2.1,fun m=>(eS m).1.2.2.2.2.2.2.1,fun m=>(eS m).1.2.2.2.2.2.2.2.1,fun m=>(eS m).1.2.2.2.2.2.2.2.2⟩;intro m W1 hb;have:=(eS m).2.j;exact eT _ ⟨(eS m).1.S hb,(eS m).2.trans (hb.g (by simpa using this))⟩
   have zC:∀K,x.Cx=K->∀W,aQ aj 111 #[.d x.aA] W fun e w'=>e=.a (.e K)/\aM W.a.j W w':=fun K h W=>by
    have:=acC x W hx1 hx2;rw[h]at this;exact this
   have pY:∀K,Ey x.w (kG x.w)=K->∀W,aQ aj 112 #[.float .f64 x.w,.float .f64 (kG x.w)] W fun e w'=>e=.a (.e K)/\W=w':=fun K h W=>by
    have:=acr x.w (kG x.w) W;rw[h]at this;exact this
   cases K1
   ·have hno:Ky l i=false:=by rw[JW.i,hK1];rfl
    have acD:=mg (Ky l) i n hlt hno;have hPF:xX v l=false:=by rw[HP.i,<-HN.i,acD];simp
    have HPF:=ah hPF;have HRI:=ah (zC _ hK1);have SG:=ah (pY _ hK2);clear hK1 hK2 hpn hno acD hPF zC pY;obtain⟨T,f,n0,e0,es,ew,r1,r2,r3,r4,r5⟩:=Xl _ _ _ hbs hn0;have hne:Nonempty T:=⟨n0⟩
    have E0:=ah e0;have ES:=ah es;have EW:=ah ew;clear hS Xl e0 es ew;go_upto_region 6 with fail
    refine nW f (by kernel_rfl) (by kernel_rfl) n0 E0.i ?_
    repeat(go_big_quiet_step ((first
     | (go_at_call 111;refine(HRI.i _).g ?_;rintro e w1 ⟨rfl,hb1⟩;exact⟨rfl,ES.i _ _ hb1⟩)
     | (go_at_call 113;refine(zh _ _).g ?_;rintro e w1 ⟨rfl,rfl⟩;exact⟨rfl,_,rfl⟩)
     | (go_at_call 112;refine(SG.i _).g ?_;rintro e w1 ⟨rfl,rfl⟩;exact⟨rfl,_,rfl⟩))))
    refine gN ?_;rintro _ ⟨m,rfl⟩;go_wp2;go_ret;exact⟨by rw[HPF.i];rfl,(HB0.i _).trans ((EW.i _).g (by simp))⟩
   ·cases K2
    ·have hno:Ky l i=false:=by rw[JW.i];unfold Xj;rw[hK2];simp
     have acD:=mg (Ky l) i n hlt hno;have hPF:xX v l=false:=by rw[HP.i,<-HN.i,acD];simp
     have HPF:=ah hPF;have HRI:=ah (zC _ hK1);have SG:=ah (pY _ hK2);clear hK1 hK2 hpn hno acD hPF zC pY;obtain⟨T,f,n0,e0,es,ew,r1,r2,r3,r4,r5⟩:=Xl _ _ _ hbs hn0;have hne:Nonempty T:=⟨n0⟩
     have E0:=ah e0;have ES:=ah es;have EW:=ah ew;clear hS Xl e0 es ew;go_upto_region 6 with fail
     refine nW f (by kernel_rfl) (by kernel_rfl) n0 E0.i ?_
     repeat(go_big_quiet_step ((first
      | (go_at_call 111;refine(HRI.i _).g ?_;rintro e w1 ⟨rfl,hb1⟩;exact⟨rfl,ES.i _ _ hb1⟩)
      | (go_at_call 113;refine(zh _ _).g ?_;rintro e w1 ⟨rfl,rfl⟩;exact⟨rfl,_,rfl⟩)
      | (go_at_call 112;refine(SG.i _).g ?_;rintro e w1 ⟨rfl,rfl⟩;exact⟨rfl,_,rfl⟩))))
     refine gN ?_;rintro _ ⟨m,rfl⟩;go_wp2;go_ret;exact⟨by rw[HPF.i];rfl,(HB0.i _).trans ((EW.i _).g (by simp))⟩
    ·rcases i with _|i
     ·simp only[JK,nM]at hh hc hn0
      have hyes:(dS (0+1)).all (Ky l)=(dS 0).all (Ky l):=by
       rw[IX,JW.i];unfold Xj;rw[hK1,hK2];simp
      have HY:=ah hyes;have HRI:=ah (zC _ hK1);have SG:=ah (pY _ hK2);clear hK1 hK2 hpn hyes zC pY;obtain⟨T,f,n0,e0,es,ew,r1,r2,r3,r4,r5⟩:=Xl _ _ _ hbs hn0;have hne:Nonempty T:=⟨n0⟩
      have E0:=ah e0;have ES:=ah es;have EW:=ah ew;clear hS Xl e0 es ew;go_upto_region 6 with fail
      refine nW f (by kernel_rfl) (by kernel_rfl) n0 E0.i ?_
      repeat(go_big_quiet_step ((first
       | (go_at_call 111;refine(HRI.i _).g ?_;rintro e w1 ⟨rfl,hb1⟩;exact⟨rfl,ES.i _ _ hb1⟩)
       | (go_at_call 113;refine(zh _ _).g ?_;rintro e w1 ⟨rfl,rfl⟩;exact⟨rfl,_,rfl⟩)
       | (go_at_call 112;refine(SG.i _).g ?_;rintro e w1 ⟨rfl,rfl⟩;exact⟨rfl,_,rfl⟩))))
      refine gN ?_;rintro _ ⟨m,rfl⟩;go_wp2;go_roundw
      case rel=>exact⟨0+1,by omega,by go_num,by rw[HY.i];exact HA.i,EW.i _⟩
      case measure=>simp[intOf]<;>omega
     ·obtain⟨pn,hpn⟩:=hpn
      obtain⟨hp1,hp2⟩:=hpn (by omega);clear hpn;simp only[Nat.add_sub_cancel]at hp1 hp2;have hok2:Ky l (i+1)=(x.Cx&&Xj x.w&&(decide (i+1=0)||decide (mK pn x.E<0))):=by rw[JW.i,Nat.add_sub_cancel,hp2]
      have hbl:=xW pn x.E;by_cases ht:mK pn x.E<0
      ·have hbt:bR pn x.E=true:=by rw[hbl];simpa using ht
       have hyes:(dS (i+1+1)).all (Ky l)=(dS (i+1)).all (Ky l):=by
        rw[IX,hok2];unfold Xj;rw[hK1,hK2];simp[ht]
       have HY:=ah hyes;have HRI:=ah (zC _ hK1);have SG:=ah (pY _ hK2);clear hK1 hK2 hyes zC pY hok2 hbl hp2 ht;obtain⟨T,f,n0,e0,es,ew,r1,r2,r3,r4,r5⟩:=Xl _ _ _ hbs hp1;have hne:Nonempty T:=⟨n0⟩
       have E0:=ah e0;have ES:=ah es;have EW:=ah ew;clear hS Xl e0 es ew;go_upto_region 6 with fail
       refine nW f (by kernel_rfl) (by kernel_rfl) n0 E0.i ?_
       repeat(go_big_quiet_step ((first
        | (go_at_call 111;refine(HRI.i _).g ?_;rintro e w1 ⟨rfl,hb1⟩;exact⟨rfl,ES.i _ _ hb1⟩)
        | (go_at_call 113;refine(zh _ _).g ?_;rintro e w1 ⟨rfl,rfl⟩;exact⟨rfl,_,rfl⟩)
        | (go_at_call 112;refine(SG.i _).g ?_;rintro e w1 ⟨rfl,rfl⟩;exact⟨rfl,_,rfl⟩))))
       refine gN ?_;rintro _ ⟨m,rfl⟩;go_wp2;go_roundw
       case rel=>exact⟨i+1+1,by omega,by go_num,by rw[HY.i];exact HA.i,EW.i _⟩
       case measure=>simp[intOf]<;>omega
      ·have hbt:bR pn x.E=false:=by rw[hbl];simpa using ht
       have hno:Ky l (i+1)=false:=by rw[hok2];simp[ht]
       have acD:=mg (Ky l) (i+1) n hlt hno;have hPF:xX v l=false:=by rw[HP.i,<-HN.i,acD];simp
       have HPF:=ah hPF;have HRI:=ah (zC _ hK1);have SG:=ah (pY _ hK2);clear hK1 hK2 hno acD hPF zC pY hok2 hbl hp2 ht;obtain⟨T,f,n0,e0,es,ew,r1,r2,r3,r4,r5⟩:=Xl _ _ _ hbs hp1;have hne:Nonempty T:=⟨n0⟩
       have E0:=ah e0;have ES:=ah es;have EW:=ah ew;clear hS Xl e0 es ew;go_upto_region 6 with fail
       refine nW f (by kernel_rfl) (by kernel_rfl) n0 E0.i ?_
       repeat(go_big_quiet_step ((first
        | (go_at_call 111;refine(HRI.i _).g ?_;rintro e w1 ⟨rfl,hb1⟩;exact⟨rfl,ES.i _ _ hb1⟩)
        | (go_at_call 113;refine(zh _ _).g ?_;rintro e w1 ⟨rfl,rfl⟩;exact⟨rfl,_,rfl⟩)
        | (go_at_call 112;refine(SG.i _).g ?_;rintro e w1 ⟨rfl,rfl⟩;exact⟨rfl,_,rfl⟩))))
       refine gN ?_;rintro _ ⟨m,rfl⟩;go_wp2;go_ret;exact⟨by rw[HPF.i];rfl,(HB0.i _).trans ((EW.i _).g (by simp))⟩
  ·obtain rfl:i=n:=by omega
   have hPT:xX v l=true:=by rw[HP.i,<-HN.i,HA.i];simp[h1,h2,h3]<;>omega
   have HPT:=ah hPT;clear hPT;have hd:decide ((i:Int)<i)=false:=by simp
   go_wp2;go_ret;exact⟨by rw[HPT.i];rfl,HBW.i⟩
structure Tu where
 h:fE
 Y:fE
 aR:Int
 kT:Int
 j4:Int
deriving DecidableEq
structure Fw where
 key:Tu
 E:List UInt8
 xG:Int
 seen:Int
 no:Int
deriving DecidableEq
structure qB where
 Y:Int
 rX:List Bk
 h:List Hl
 I:List Fw
 gq:Int
 no:Int
 lI:Vector Int 11
deriving DecidableEq
def nE:fE:=⟨false,bH 16 0⟩
def ae4:Tu:=⟨nE,nE,0,0,0⟩
def ko:Fw:=⟨ae4,[],0,0,0⟩
def uO:qB:=⟨0,[],[],[],0,0,bH 11 0⟩
abbrev RS:=Option (List UInt8)
def Hq(k:Nat):RS->List UInt8×RS
 | some l=>if k<=l.a then(l.d k,some (l.f k))else([],none)
 | none=>([],none)
def acE(k:Nat)(s:RS):Nat×RS:=(oL (Hq k s).1,(Hq k s).2)
def qh(n:Nat)(l:List UInt8):Vector UInt8 n:=Ej fun i=>l.c i 0
def tuO(s:RS):(Tu×Bool)×RS:=
 let a1:=acE 1 s
 let a2:=Hq 16 a1.2
 let a3:=Hq 16 a2.2
 let a4:=acE 1 a3.2
 let a5:=acE 2 a4.2
 let a6:=acE 2 a5.2
 ((⟨⟨a1.1==6,qh 16 a2.1⟩,⟨a1.1==6,qh 16 a3.1⟩,a4.1,a5.1,a6.1⟩,(a1.1==6)||(a1.1==4)),a6.2)
def MC(t:Tu):List UInt8:=[if t.h.h then 6 else 4]++(t.h.b.a++(t.Y.b.a++([aK t.aR.e]++(iL t.kT.e 2 true++iL t.j4.e 2 true))))
def Yb(n m:Int):Bool:=decide (0<=n)&&decide (n<=m)
def qN(a:fE):Bool:=a.h||(a.b.a.f 4).all (· == 0)
def Gb(t:Tu):Bool:=decide (t.h.h=t.Y.h)&&qN t.h&&qN t.Y&&Yb t.aR 255&&Yb t.kT 65535&&Yb t.j4 65535
def DX(x:Fw):Bool:=Gb x.key&&vT x.E&&decide (1<=x.xG)&&decide (x.xG<=5)&&Yb x.seen 1099511627776&&Yb x.no 1152921504606846976
theorem Uy(a b:Vector UInt8 6)(d:Nat)(W:au):(jk (d+2) 25 (.d (a.a.map bv).b) (.d (b.a.map bv).b)).J aj W=.ok (decide (a=b)) W:=by
 rw[Ho d Fq (by kernel_rfl) lF _ _ (by simp) (by simp),ag4]
theorem aiD(a b:Vector UInt8 16)(d:Nat)(W:au):(jk (d+2) 22 (.d (a.a.map bv).b) (.d (b.a.map bv).b)).J aj W=.ok (decide (a=b)) W:=by
 rw[Ho d qp (by kernel_rfl) lF _ _ (by simp) (by simp),ag4]
theorem fE.aiE(a:fE):a.aA.extract 1 (1+16)=(a.b.a.map bv).b:=by
 apply o9;simp[fE.aA];exact aL (by simp)
theorem ae5:aj.k 27=some (.d (aj.fieldsOf 27)):=by
 simp only[jS,fC]
theorem Yc(c:fE)(W:au):(part 4 c.aA 0).J aj W=.ok (.e c.h) W:=
 pK (P:=aj) (e:=4) (by simp only[nU]) (fE.qG c) W
theorem ag8(c:fE)(W:au):(part 22 c.aA 1).J aj W=.ok (.d (c.b.a.map bv).b) W:=by
 rw[Et (P:=aj) (e:=22) (n:=16) (by simp only[qp]) (by kernel_rfl) c.aA 1 W,fE.aiE]
theorem ali:∃f1 f2:oh,(aj.fieldsOf 27).a=[f1,f2]/\f1.E ≠ "_" /\ f2.E ≠ "_" /\ f1.p=4/\f1.Z=0/\f2.p=22/\f2.Z=1:=by
 refine⟨_,_,by simp only[jS,fC];rfl,?_,?_,rfl,rfl,rfl,rfl⟩<;>decide
theorem aaj{P:eX}(d:Nat)(xs ys:Array aC)(f1 f2:oh)(h1:f1.E ≠ "_")(h2:f2.E ≠ "_")(W:au)(a1 b1 a2 b2:aC)(r1 r2:Bool)
 (p1:(part f1.p xs f1.Z).J P W=.ok a1 W) (q1:(part f1.p ys f1.Z).J P W=.ok b1 W) (e1:(jk d f1.p a1 b1).J P W=.ok r1 W)
 (p2:(part f2.p xs f2.Z).J P W=.ok a2 W) (q2:(part f2.p ys f2.Z).J P W=.ok b2 W) (e2:(jk d f2.p a2 b2).J P W=.ok r2 W) :
 (wu d xs ys [f1,f2]).J P W=.ok (r1&&r2) W:=by
 simp only[wu,h1,h2,ne_eq,not_false_eq_true,if_true,jM,p1,q1,e1,gT];cases r1
 ·simp
 ·simp only[Ak,Bool.false_eq_true,if_false,jM,p2,q2,e2,gT]
  cases r2<;>simp
theorem Gc(a b:fE)(d:Nat)(W:au):(jk (d+3) 27 (.d a.aA) (.d b.aA)).J aj W=.ok (decide (a=b)) W:=by
 rw[zB W (d+2) _ _ _ ae5 Tryz.stoodInHeld27];obtain⟨f1,f2,hl,n1,n2,t1,o1,t2,o2⟩:=ali;rw[hl,aaj (d+2) a.aA b.aA f1 f2 n1 n2 W _ _ _ _ _ _ (by rw[t1,o1];exact Yc a W) (by rw[t1,o1];exact Yc b W) (by rw[t1];exact ZL _ _ _ W)
  (by rw[t2,o2];exact ag8 a W) (by rw[t2,o2];exact ag8 b W) (by rw[t2];exact aiD _ _ d W)]
 obtain⟨s1,v1⟩:=a;obtain⟨s2,v2⟩:=b;congr 1;rw[cB];simp
@[go_sem ↓]theorem aCG(a b:fE)(W:au):(jk 10000 27 (.d a.aA) (.d b.aA)).J aj W=.ok (decide (a=b)) W:=Gc a b 9997 W
theorem Bk.aoZ(x:Bk):x.aA.extract 1 (1+17)=x.h.aA:=by
 apply eB;intro j;have hs:=Bk.I x;have ha:=fE.I x.h;rw[dz];by_cases hj:j<17
 ·rw[if_pos (by rw[hs];omega),lV]
  exact Bk.ML x j hj
 ·rw[if_neg (by rw[hs];omega),aV (by rw[ha];omega)]
theorem Bk.ag9(x:Bk):x.aA.extract 19 (19+6)=(x.Bj.a.map bv).b:=by
 apply eB;intro j;have hs:=Bk.I x;have hm:x.Bj.a.a=6:=by simp
 rw[dz];by_cases hj:j<6
 ·rw[if_pos (by rw[hs];omega),lV,Bk.arH x j hj]
  simp[hj,dY]
 ·rw[if_neg (by rw[hs];omega),aV (by simp;omega)]
theorem alj(a b:Nat)(d:Nat)(W:au):(jk (d+1) 60 (fv a) (fv b)).J aj W=.ok (Op.floatEq .f64 a b) W:=by
 simp only[fv,jk,jM,dJ Tryz.underlying60,gT,if_true,oD]
theorem aiF:aj.k 62=some (.d (aj.fieldsOf 62)):=by
 simp only[jS,lS]
theorem ao0:∃f1 f2 f3 f4 f5 f6:oh,(aj.fieldsOf 62).a=[f1,f2,f3,f4,f5,f6]/\(f1.E ≠ "_" /\ f2.E ≠ "_" /\ f3.E ≠ "_" /\ f4.E ≠ "_" /\ f5.E ≠ "_" /\ f6.E ≠ "_") /\
 (f1.p=9/\f1.Z=0)/\(f2.p=27/\f2.Z=1)/\(f3.p=3/\f3.Z=18)/\(f4.p=25/\f4.Z=19)/\(f5.p=60/\f5.Z=25)/\(f6.p=4/\f6.Z=26):=by
 refine⟨_,_,_,_,_,_,by simp only[jS,lS];rfl,⟨?_,?_,?_,?_,?_,?_⟩,⟨rfl,rfl⟩,⟨rfl,rfl⟩,⟨rfl,rfl⟩,⟨rfl,rfl⟩,⟨rfl,rfl⟩,⟨rfl,rfl⟩⟩<;>decide
def alk(x y:Bk):Bool:=(x.E==y.E)&&(decide (x.h=y.h)&&((x.nu==y.nu)&&(decide (x.Bj=y.Bj)&&(Op.floatEq .f64 x.w y.w&&((x.drain==y.drain)&&true)))))
theorem aiG(x y:Bk)(d:Nat)(W:au):(jk (d+4) 62 (.d x.aA) (.d y.aA)).J aj W=.ok (alk x y) W:=by
 rw[zB W (d+3) _ _ _ aiF Tryz.stoodInHeld62];obtain⟨f1,f2,f3,f4,f5,f6,hl,⟨n1,n2,n3,n4,n5,n6⟩,⟨t1,o1⟩,⟨t2,o2⟩,⟨t3,o3⟩,⟨t4,o4⟩,⟨t5,o5⟩,⟨t6,o6⟩⟩:=ao0;rw[hl];have p1:∀z:Bk,(part f1.p z.aA f1.Z).J aj W=.ok (.g (bP z.E)) W:=fun z=>by
  rw[t1,o1];exact pK (by simp only[iR]) (Bk.qG z) W
 have p2:∀z:Bk,(part f2.p z.aA f2.Z).J aj W=.ok (.d z.h.aA) W:=fun z=>by
  rw[t2,o2,Et (n:=17) (by simp only[fC]) (by kernel_rfl) z.aA 1 W,Bk.aoZ]
 have p3:∀z:Bk,(part f3.p z.aA f3.Z).J aj W=.ok (.b .a z.nu) W:=fun z=>by
  rw[t3,o3];exact pK (by simp only[gY]) (Bk.ak0 z) W
 have p4:∀z:Bk,(part f4.p z.aA f4.Z).J aj W=.ok (.d (z.Bj.a.map bv).b) W:=fun z=>by
  rw[t4,o4,Et (n:=6) (by simp only[Fq]) (by kernel_rfl) z.aA 19 W,Bk.ag9]
 have p5:∀z:Bk,(part f5.p z.aA f5.Z).J aj W=.ok (fv z.w) W:=fun z=>by
  rw[t5,o5];exact pK (by simp only[Tryz.underlying60]) (Bk.aeS z) W
 have p6:∀z:Bk,(part f6.p z.aA f6.Z).J aj W=.ok (.e z.drain) W:=fun z=>by
  rw[t6,o6];exact pK (by simp only[nU]) (Bk.aeT z) W
 exact iU _ _ _ _ _ n1 W _ _ _ _ (p1 x) (p1 y) (by rw[t1];exact OV _ _ _ W)
  (iU _ _ _ _ _ n2 W _ _ _ _ (p2 x) (p2 y) (by rw[t2];exact Gc _ _ d W)
  (iU _ _ _ _ _ n3 W _ _ _ _ (p3 x) (p3 y) (by rw[t3];exact FU _ _ _ W)
  (iU _ _ _ _ _ n4 W _ _ _ _ (p4 x) (p4 y) (by rw[t4];exact Uy _ _ _ W)
  (iU _ _ _ _ _ n5 W _ _ _ _ (p5 x) (p5 y) (by rw[t5];exact alj _ _ _ W)
  (iU _ _ _ _ _ n6 W _ _ _ _ (p6 x) (p6 y) (by rw[t6];exact ZL _ _ _ W) (by simp[wu]))))))
@[go_sem ↓]theorem aGt(x y:Bk)(W:au):(jk 10000 62 (.d x.aA) (.d y.aA)).J aj W=.ok (alk x y) W:=aiG x y 9996 W
def Xm(m:Vector UInt8 6):Array aC:=(m.a.map bv).b
theorem Yd(m:Vector UInt8 6):(Xm m).j=6:=by simp[Xm]
def AA(v:aC):xA aC:=cZ 25 v
@[go_sem ↓]theorem atj(v:aC):cZ 25 v=AA v:=rfl
@[go_sem]theorem axJ(W:au)(b o:Nat)(h:vE W b o 6):(AA (.c (some ⟨b,o,none⟩))).J aj W=.ok (.d (dQ W b o 6)) W:=
 jU W b o 6 _ _ Fq rfl (by kernel_rfl) h
theorem Bk.acG(x:Bk)(j:Nat)(hj:j<6):x.aA[19+j]? = (Xm x.Bj)[j]?:=by
 rw[lV,Bk.arH x j hj];simp[Xm,hj,dY]
@[go_sem]theorem ae6(w:au)(x:Bk)(t:bF):vE (w.alloc (.D x.aA t)) w.a.j 19 6=True:=by
 simp only[eq_iff_iff,iff_true];exact(IK w x.aA t 19 6 (Xm x.Bj) (Yd _) (fun j hj=>Bk.acG x j hj)).1
@[go_sem]theorem Uz(w:au)(x:Bk)(t:bF):dQ (w.alloc (.D x.aA t)) w.a.j 19 6=Xm x.Bj:=
 (IK w x.aA t 19 6 (Xm x.Bj) (Yd _) (fun j hj=>Bk.acG x j hj)).2
@[go_sem ↓]theorem aCH(a b:Vector UInt8 6)(W:au):(jk 10000 25 (.d (Xm a)) (.d (Xm b))).J aj W=.ok (decide (a=b)) W:=Uy a b 9998 W
@[go_sem]theorem aAZ(w:au)(ob:Obj)(x:Bk)(t:bF):vE ((w.alloc ob).alloc (.D x.aA t)) (w.a.j+1) 0 27=True:=by
 have:=Um (w.alloc ob) x t
 rwa [show(w.alloc ob).a.j=w.a.j+1 by simp]at this
@[go_sem]theorem arM(w:au)(ob:Obj)(x:Bk)(t:bF):dQ ((w.alloc ob).alloc (.D x.aA t)) (w.a.j+1) 0 27=x.aA:=by
 have:=IQ (w.alloc ob) x t
 rwa [show(w.alloc ob).a.j=w.a.j+1 by simp]at this
@[go_sem]theorem awp(w:au)(ob:Obj)(x:Bk)(t:bF):vE ((w.alloc ob).alloc (.D x.aA t)) (w.a.j+1) 1 17=True:=by
 have:=acd (w.alloc ob) x t
 rwa [show(w.alloc ob).a.j=w.a.j+1 by simp]at this
@[go_sem]theorem aov(w:au)(ob:Obj)(x:Bk)(t:bF):dQ ((w.alloc ob).alloc (.D x.aA t)) (w.a.j+1) 1 17=x.h.aA:=by
 have:=Rf (w.alloc ob) x t
 rwa [show(w.alloc ob).a.j=w.a.j+1 by simp]at this
@[go_sem]theorem axK(w:au)(ob:Obj)(x:Bk)(t:bF):vE ((w.alloc ob).alloc (.D x.aA t)) (w.a.j+1) 19 6=True:=by
 have:=ae6 (w.alloc ob) x t
 rwa [show(w.alloc ob).a.j=w.a.j+1 by simp]at this
@[go_sem]theorem ao1(w:au)(ob:Obj)(x:Bk)(t:bF):dQ ((w.alloc ob).alloc (.D x.aA t)) (w.a.j+1) 19 6=Xm x.Bj:=by
 have:=Uz (w.alloc ob) x t
 rwa [show(w.alloc ob).a.j=w.a.j+1 by simp]at this
def AB(x y:Bk):Bool:=(x.E==y.E)&&decide (x.h=y.h)&&(x.nu==y.nu)&&decide (x.Bj=y.Bj)&&(x.drain==y.drain)&&decide (Lx x.w=Lx y.w)
theorem acI(x y:Bk)(hx:x.w<18446744073709551616)(hy:y.w<18446744073709551616)(w:au):
 aQ aj 125 #[.d x.aA,.d y.aA] w (gy w (.e (AB x y))):=by
 have hb0:∀ob sO,aM w.a.j w ((w.alloc ob).alloc sO):=fun ob sO=>((aH _ _).alloc (ay _) _).alloc (by simp) _
 have HB0:=ah hb0;clear hb0;have hs:AB x y=((x.E==y.E)&&decide (x.h=y.h)&&(x.nu==y.nu)&&decide (x.Bj=y.Bj)&&(x.drain==y.drain)&&decide (Lx x.w=Lx y.w)):=rfl;have HS:=ah hs;clear hs;cases k1:x.E==y.E
 ·go_enter Cq,Al
  go_wp2;go_ret;exact⟨by rw[HS.i,k1];rfl,HB0.i _ _⟩
 cases k2:decide (x.h=y.h)
 ·go_enter Cq,Al
  go_wp2;go_ret;exact⟨by rw[HS.i,k1,k2];rfl,HB0.i _ _⟩
 cases k3:x.nu==y.nu
 ·go_enter Cq,Al
  go_wp2;go_ret;exact⟨by rw[HS.i,k1,k2,k3];rfl,HB0.i _ _⟩
 cases k4:decide (x.Bj=y.Bj)
 ·go_enter Cq,Al
  go_wp2;go_ret;exact⟨by rw[HS.i,k1,k2,k3,k4];rfl,HB0.i _ _⟩
 cases k5:x.drain==y.drain
 ·go_enter Cq,Al
  go_wp2;go_ret;exact⟨by rw[HS.i,k1,k2,k3,k4,k5];rfl,HB0.i _ _⟩
 go_enter Cq,Al;go_wp2_with (go_at_call 199;refine(acz _ _ hx hy _).g ?_;rintro e w' ⟨rfl,hb1⟩;have HB1:=ah hb1;clear hb1);go_ret;exact⟨by rw[HS.i,k1,k2,k3,k4,k5];rfl,(HB0.i _ _).trans (HB1.i.g (by simp;omega))⟩
def Bk.OH(x:Bk)(v:Nat):Bk:={x with w:=v}
def Bk.toD(x:Bk)(d:Bool):Bk:={x with drain:=d}
@[go_sem]theorem Bk.axL(x:Bk)(v:Nat):x.aA.b 25 (.float .f64 v)=(x.OH v).aA:=by
 apply o9;simp[Bk.aA,Bk.OH,List.set_append,fv]
@[go_sem]theorem Bk.arN(x:Bk)(d:Bool):x.aA.b 26 (.e d)=(x.toD d).aA:=by
 apply o9;simp[Bk.aA,Bk.toD,List.set_append]
@[go_sem]theorem arO{P:eX}{w:au}{a:aU}{m:Mode}(k:FloatKind)(n:Nat):(store a (.float k n) m).J P w=stored P w a (.float k n) m:=run_store P w a _ m rfl
def Qw(x y:Bk):Bool:=Ey x.w y.w&&alk (x.OH 0) (y.OH 0)
theorem aiH(x y:Bk)(w:au):
 aQ aj 124 #[.d x.aA,.d y.aA] w (gy w (.e (Qw x y))):=by
 have hb0:∀ob sO,aM w.a.j w ((w.alloc ob).alloc sO):=fun ob sO=>((aH _ _).alloc (ay _) _).alloc (by simp) _
 have HB0:=ah hb0;clear hb0;have hs:Qw x y=(Ey x.w y.w&&alk (x.OH 0) (y.OH 0)):=rfl;have HS:=ah hs;clear hs;have pY:∀K,Ey x.w y.w=K->∀W,aQ aj 112 #[.float .f64 x.w,.float .f64 y.w] W fun e w'=>e=.a (.e K)/\W=w':=fun K h W=>by
  have:=acr x.w y.w W;rw[h]at this;exact this
 cases k:Ey x.w y.w
 ·have HK:=ah k
  have SG:=ah (pY _ k);clear k pY;go_enter Tryz.func124,Tryz.ntmps124;go_wp2_with (go_at_call 112;refine(SG.i _).g ?_;rintro e w' ⟨rfl,rfl⟩);go_ret;exact⟨by rw[HS.i,HK.i];rfl,HB0.i _ _⟩
 ·have HK:=ah k
  have SG:=ah (pY _ k);clear k pY;go_enter Tryz.func124,Tryz.ntmps124;go_wp2_with (go_at_call 112;refine(SG.i _).g ?_;rintro e w' ⟨rfl,rfl⟩);go_ret;exact⟨by rw[HS.i,HK.i];rfl,HB0.i _ _⟩
theorem Dk(l:List Bk):∀u∈dO l,u.h=true:=by
 intro u hu;obtain⟨x,_,hx⟩:=List.mem_flatMap.1 hu;exact gG.1 (Bk.cO x) u (by simpa using hx)
theorem LC:∃i:nS,aj.l 62=some i/\i.zero=some (.d jd.aA)/\i.j=27/\i.bytes<=200:=by
 cases h:aj.l 62 with
 | none=>exact absurd h (by have:(aj.l 62).isSome=true:=by kernel_rfl
                            intro e;rw[e]at this;cases this)
 | some i=>
   have h1:(aj.l 62).map (·.j)=some 27:=by kernel_rfl
   have h2:(aj.l 62).map (fun i=>decide (i.bytes<=200))=some true:=by kernel_rfl
   have h3:(aj.l 62).map (·.zero)=some (some (.d jd.aA)):=by kernel_rfl
   rw[h]at h1 h2 h3;simp at h1 h2 h3;exact⟨i,rfl,h3,h1,h2⟩
def uP(n:Int):Int:=if n<1 then 1 else if 100<n then 100 else n
theorem Ye(n:Int):1<=uP n/\uP n<=100:=by unfold uP;split<;>(try split)<;>omega
theorem Yf(n:Int)(w:au):aQ aj 216 #[.b .a n] w fun e w'=>e=.a (.b .a (uP n))/\w=w':=by
 rcases(show n<1\/(1<=n/\n<=100)\/100<n by omega)with h|⟨h1,h2⟩|h
 ·have hb:=ah (show uP n=1 by simp[uP,h])
  go_enter Tryz.func216,Tryz.ntmps216;go_wp2;go_ret;exact⟨by rw[hb.i];rfl,rfl⟩
 ·have hb:=ah (show uP n=n by unfold uP;rw[if_neg (by omega),if_neg (by omega)])
  go_enter Tryz.func216,Tryz.ntmps216;go_wp2;go_ret;exact⟨by rw[hb.i];rfl,rfl⟩
 ·have hb:=ah (show uP n=100 by unfold uP;rw[if_neg (by omega),if_pos h])
  go_enter Tryz.func216,Tryz.ntmps216;go_wp2;go_ret;exact⟨by rw[hb.i];rfl,rfl⟩
def uQ(h:Hl)(well:Bool)(kr fall:Int):Hl×Bool:=
 if well != h.down then({h with J:=0},false)
 else if uP (if h.down then kr else fall)-1<=max h.J 0 then(⟨h.E,!h.down,0⟩,true)
 else({h with J:=max h.J 0+1},false)
def arP(w:au)(r:Hl×Bool)(e:lu)(w':au):Prop:=e=.a (.K #[.d r.1.aA,.e r.2])/\aM w.a.j w w'
theorem wC{w W:au}{x:Hl}{r:Bool}{h:Hl}{well:Bool}{kr fall:Int}(hs:uQ h well kr fall=(x,r))(hb:aM w.a.j w W):
 arP w (uQ h well kr fall) (.a (.K #[.d x.aA,.e r])) W:=by rw[hs];exact⟨rfl,hb⟩
theorem SI{h:Hl}{well:Bool}{kr fall k m:Int}(hw:well=h.down)(hk:uP (if h.down then kr else fall)=k)(hm:max h.J 0=m)(hle:k-1<=m):uQ h well kr fall=(⟨h.E,!h.down,0⟩,true):=by
 unfold uQ;rw[if_neg (by simp[hw]),hk,hm,if_pos hle]
theorem SK{h:Hl}{well:Bool}{kr fall k m:Int}(hw:well=h.down)(hk:uP (if h.down then kr else fall)=k)(hm:max h.J 0=m)(hlt:m<k-1):uQ h well kr fall=(⟨h.E,h.down,m+1⟩,false):=by
 unfold uQ;rw[if_neg (by simp[hw]),hk,hm,if_neg (by omega)]
theorem LG{w W1:au}{nm:List UInt8}{dn:Bool}{rn:Int}(b1:dN W1 w.a.j (Hl.mk nm dn rn).aA)(b2:dN W1 (w.a.j+1) kQ.aA)(hb:aM w.a.j w W1)(v:Int):
 dN (W1.G ⟨w.a.j,2,none⟩ (.b .a v)) w.a.j (Hl.mk nm dn v).aA/\dN (W1.G ⟨w.a.j,2,none⟩ (.b .a v)) (w.a.j+1) kQ.aA/\Hid (aM w.a.j w (Uk (W1.G ⟨w.a.j,2,none⟩ (.b .a v)) (w.a.j+1) 0 (Hl.mk nm dn v)))/\Hid (dN (Uk (W1.G ⟨w.a.j,2,none⟩ (.b .a v)) (w.a.j+1) 0 (Hl.mk nm dn v)) (w.a.j+1) (Hl.mk nm dn v).aA):=by
 have c2:dN (W1.G ⟨w.a.j,2,none⟩ (.b .a v)) (w.a.j+1) kQ.aA:=b2.dR ⟨w.a.j,2,none⟩ (.b .a v) (by simp);exact⟨b1.eH 2 (.b .a v),c2,Qr (hb.G (p:=⟨w.a.j,2,none⟩) (ay _) (.b .a v)) (w.a.j+1) 0 (Hl.mk nm dn v) (by omega),c2.axC (Hl.I _) (Hl.mk nm dn v)⟩
theorem SX{w W1:au}{nm:List UInt8}{dn:Bool}{rn:Int}(b1:dN W1 w.a.j (Hl.mk nm dn rn).aA)(b2:dN W1 (w.a.j+1) kQ.aA)(hb:aM w.a.j w W1)(d:Bool):
 dN ((W1.G ⟨w.a.j,1,none⟩ (.e d)).G ⟨w.a.j,2,none⟩ (.b .a 0)) w.a.j (Hl.mk nm d 0).aA/\dN ((W1.G ⟨w.a.j,1,none⟩ (.e d)).G ⟨w.a.j,2,none⟩ (.b .a 0)) (w.a.j+1) kQ.aA/\Hid (aM w.a.j w (Uk ((W1.G ⟨w.a.j,1,none⟩ (.e d)).G ⟨w.a.j,2,none⟩ (.b .a 0)) (w.a.j+1) 0 (Hl.mk nm d 0)))/\Hid (dN (Uk ((W1.G ⟨w.a.j,1,none⟩ (.e d)).G ⟨w.a.j,2,none⟩ (.b .a 0)) (w.a.j+1) 0 (Hl.mk nm d 0)) (w.a.j+1) (Hl.mk nm d 0).aA):=
 LG (b1.eH 1 (.e d)) (b2.dR ⟨w.a.j,1,none⟩ (.e d) (by simp)) (hb.G (p:=⟨w.a.j,1,none⟩) (ay _) (.e d)) 0
theorem alm(h:Hl)(well:Bool)(kr fall:Int)(w:au)(hh : -9223372036854775808<=h.J/\h.J<=9223372036854775807):
 aQ aj 149 #[.d h.aA,.e well,.b .a kr,.b .a fall] w (arP w (uQ h well kr fall)):=by
 obtain⟨nm,dn,rn⟩:=h;obtain⟨hh1,hh2⟩:=hh;have B1:=ah (fun(ob:Obj)=>(dN.new w (Hl.mk nm dn rn).aA 100).alloc ob);have B2:=ah (fun(ob:Obj)=>dN.Rb w ob kQ.aA 100);have HB:=ah (fun(ob sO:Obj)=>((aH w.a.j w).alloc (ay _) ob).alloc (by simp) sO);go_enter Tryz.func149,Tryz.ntmps149;go_wp2_with fail;refine(Yf _ _).g ?_;rintro e wz ⟨rfl,rfl⟩;have B1:=ah (B1.i (.D kQ.aA 100));have B2:=ah (B2.i (.D (Hl.mk nm dn rn).aA 100));have HB:=ah (HB.i (.D (Hl.mk nm dn rn).aA 100) (.D kQ.aA 100));obtain⟨W1,hW1⟩:=dw ((w.alloc (.D (Hl.mk nm dn rn).aA 100)).alloc (.D kQ.aA 100));rw[<-hW1]at B1 B2 HB ⊢;clear hW1;obtain⟨x1,x2,x3,x4⟩:=B1.i.M;have l1:=B1.i.lt;have l2:=B2.i.lt;cases dn
 ·have kb:=Ye fall
  obtain⟨k,hk⟩:=sQ (uP fall);rw[hk]at kb ⊢;have HK:=ah hk;clear hk;obtain⟨kb1,kb2⟩:=kb;cases well
  ·rcases wH rn 0 with hrn|hrn
   ·have HM:=ah (show max rn 0=0 by omega)
    rcases wH (0:Int) (k-1)with hlt|hle
    ·have hne:decide (k-1<=0)=false:=by simp;omega
     obtain⟨c1,c2,Qx,CF⟩:=LG B1.i B2.i HB.i (1);obtain⟨y1,y2,y3,y4⟩:=c1.M;have th:=c2.O 0 3 (by rw[Hl.I];omega);clear c1 c2;have hs:=ah (SK (h:=⟨nm,false,rn⟩) (well:=false) (kr:=kr) (fall:=fall) rfl HK.i HM.i hlt);go_wp2_with fail;refine aO (DW rfl _ _ _ _ rfl (by rw[CF.i.M.2.2.1 0 3 (ay _)];trivial)) rfl ?_;rw[CF.i.M.2.2.2 0 3 (ay _),Hl.kg];exact wC hs.i Qx.i
    ·have hye:decide (k-1<=0)=true:=by simp;omega
     obtain⟨c1,c2,Qx,CF⟩:=SX B1.i B2.i HB.i true;obtain⟨y1,y2,y3,y4⟩:=c1.M;have th:=c2.O 0 3 (by rw[Hl.I];omega);obtain⟨z1,z2,z3,z4⟩:=(B1.i.eH 1 (.e true)).M;clear c1 c2;have hs:=ah (SI (h:=⟨nm,false,rn⟩) (well:=false) (kr:=kr) (fall:=fall) rfl HK.i HM.i hle);go_wp2_with fail;refine aO (DW rfl _ _ _ _ rfl (by rw[CF.i.M.2.2.1 0 3 (ay _)];trivial)) rfl ?_;rw[CF.i.M.2.2.2 0 3 (ay _),Hl.kg];exact wC hs.i Qx.i
   ·have HM:=ah (show max rn 0=rn by omega)
    rcases wH rn (k-1)with hlt|hle
    ·have hne:decide (k-1<=rn)=false:=by simp;omega
     obtain⟨c1,c2,Qx,CF⟩:=LG B1.i B2.i HB.i (rn+1);obtain⟨y1,y2,y3,y4⟩:=c1.M;have th:=c2.O 0 3 (by rw[Hl.I];omega);clear c1 c2;have hs:=ah (SK (h:=⟨nm,false,rn⟩) (well:=false) (kr:=kr) (fall:=fall) rfl HK.i HM.i hlt);go_wp2_with fail;refine aO (DW rfl _ _ _ _ rfl (by rw[CF.i.M.2.2.1 0 3 (ay _)];trivial)) rfl ?_;rw[CF.i.M.2.2.2 0 3 (ay _),Hl.kg];exact wC hs.i Qx.i
    ·have hye:decide (k-1<=rn)=true:=by simp;omega
     obtain⟨c1,c2,Qx,CF⟩:=SX B1.i B2.i HB.i true;obtain⟨y1,y2,y3,y4⟩:=c1.M;have th:=c2.O 0 3 (by rw[Hl.I];omega);obtain⟨z1,z2,z3,z4⟩:=(B1.i.eH 1 (.e true)).M;clear c1 c2;have hs:=ah (SI (h:=⟨nm,false,rn⟩) (well:=false) (kr:=kr) (fall:=fall) rfl HK.i HM.i hle);go_wp2_with fail;refine aO (DW rfl _ _ _ _ rfl (by rw[CF.i.M.2.2.1 0 3 (ay _)];trivial)) rfl ?_;rw[CF.i.M.2.2.2 0 3 (ay _),Hl.kg];exact wC hs.i Qx.i
  ·have hbn:((true:Bool) != false)=true:=rfl
   rcases wH rn 0 with hrn|hrn
   all_goals
    skip;obtain⟨c1,c2,Qx,CF⟩:=LG B1.i B2.i HB.i 0;obtain⟨y1,y2,y3,y4⟩:=c1.M;have th:=c2.O 0 3 (by rw[Hl.I];omega);clear c1 c2;have hs:=ah (show uQ ⟨nm,false,rn⟩ true kr fall=(⟨nm,false,0⟩,false)from rfl);go_wp2_with fail;refine aO (DW rfl _ _ _ _ rfl (by rw[CF.i.M.2.2.1 0 3 (ay _)];trivial)) rfl ?_;rw[CF.i.M.2.2.2 0 3 (ay _),Hl.kg];exact wC hs.i Qx.i
 ·have kb:=Ye kr
  obtain⟨k,hk⟩:=sQ (uP kr);go_wp2_with fail;refine(Yf _ _).g ?_;rintro e wz ⟨rfl,rfl⟩;rw[hk]at kb ⊢;have HK:=ah hk;clear hk;obtain⟨kb1,kb2⟩:=kb;cases well
  ·have hbn:((false:Bool) != true)=true:=rfl
   rcases wH rn 0 with hrn|hrn
   all_goals
    skip;obtain⟨c1,c2,Qx,CF⟩:=LG B1.i B2.i HB.i 0;obtain⟨y1,y2,y3,y4⟩:=c1.M;have th:=c2.O 0 3 (by rw[Hl.I];omega);clear c1 c2;have hs:=ah (show uQ ⟨nm,true,rn⟩ false kr fall=(⟨nm,true,0⟩,false)from rfl);go_wp2_with fail;refine aO (DW rfl _ _ _ _ rfl (by rw[CF.i.M.2.2.1 0 3 (ay _)];trivial)) rfl ?_;rw[CF.i.M.2.2.2 0 3 (ay _),Hl.kg];exact wC hs.i Qx.i
  ·rcases wH rn 0 with hrn|hrn
   ·have HM:=ah (show max rn 0=0 by omega)
    rcases wH (0:Int) (k-1)with hlt|hle
    ·have hne:decide (k-1<=0)=false:=by simp;omega
     obtain⟨c1,c2,Qx,CF⟩:=LG B1.i B2.i HB.i (1);obtain⟨y1,y2,y3,y4⟩:=c1.M;have th:=c2.O 0 3 (by rw[Hl.I];omega);clear c1 c2;have hs:=ah (SK (h:=⟨nm,true,rn⟩) (well:=true) (kr:=kr) (fall:=fall) rfl HK.i HM.i hlt);go_wp2_with fail;refine aO (DW rfl _ _ _ _ rfl (by rw[CF.i.M.2.2.1 0 3 (ay _)];trivial)) rfl ?_;rw[CF.i.M.2.2.2 0 3 (ay _),Hl.kg];exact wC hs.i Qx.i
    ·have hye:decide (k-1<=0)=true:=by simp;omega
     obtain⟨c1,c2,Qx,CF⟩:=SX B1.i B2.i HB.i false;obtain⟨y1,y2,y3,y4⟩:=c1.M;have th:=c2.O 0 3 (by rw[Hl.I];omega);obtain⟨z1,z2,z3,z4⟩:=(B1.i.eH 1 (.e false)).M;clear c1 c2;have hs:=ah (SI (h:=⟨nm,true,rn⟩) (well:=true) (kr:=kr) (fall:=fall) rfl HK.i HM.i hle);go_wp2_with fail;refine aO (DW rfl _ _ _ _ rfl (by rw[CF.i.M.2.2.1 0 3 (ay _)];trivial)) rfl ?_;rw[CF.i.M.2.2.2 0 3 (ay _),Hl.kg];exact wC hs.i Qx.i
   ·have HM:=ah (show max rn 0=rn by omega)
    rcases wH rn (k-1)with hlt|hle
    ·have hne:decide (k-1<=rn)=false:=by simp;omega
     obtain⟨c1,c2,Qx,CF⟩:=LG B1.i B2.i HB.i (rn+1);obtain⟨y1,y2,y3,y4⟩:=c1.M;have th:=c2.O 0 3 (by rw[Hl.I];omega);clear c1 c2;have hs:=ah (SK (h:=⟨nm,true,rn⟩) (well:=true) (kr:=kr) (fall:=fall) rfl HK.i HM.i hlt);go_wp2_with fail;refine aO (DW rfl _ _ _ _ rfl (by rw[CF.i.M.2.2.1 0 3 (ay _)];trivial)) rfl ?_;rw[CF.i.M.2.2.2 0 3 (ay _),Hl.kg];exact wC hs.i Qx.i
    ·have hye:decide (k-1<=rn)=true:=by simp;omega
     obtain⟨c1,c2,Qx,CF⟩:=SX B1.i B2.i HB.i false;obtain⟨y1,y2,y3,y4⟩:=c1.M;have th:=c2.O 0 3 (by rw[Hl.I];omega);obtain⟨z1,z2,z3,z4⟩:=(B1.i.eH 1 (.e false)).M;clear c1 c2;have hs:=ah (SI (h:=⟨nm,true,rn⟩) (well:=true) (kr:=kr) (fall:=fall) rfl HK.i HM.i hle);go_wp2_with fail;refine aO (DW rfl _ _ _ _ rfl (by rw[CF.i.M.2.2.1 0 3 (ay _)];trivial)) rfl ?_;rw[CF.i.M.2.2.2 0 3 (ay _),Hl.kg];exact wC hs.i Qx.i
abbrev RdH:=iF Hl.aA 3
theorem iF.hl{W:au}{B n:Nat}{A:Option aU}{l:List Hl}{k:Nat}(h:RdH W B A n l)(hk:k<n):∃b o,A=some ⟨b,o,none⟩/\b<B/\vE W b (o+k*3) 3/\dQ W b (o+k*3) 3=(l.c k kQ).aA /\
 W.b ⟨b,o+k*3,none⟩=some (.g (bP (l.c k kQ).E))/\W.b ⟨b,o+k*3+1,none⟩=some (.e (l.c k kQ).down):=by
 obtain⟨b,o,hA,hb,hc⟩:=iF.cell Hl.I kQ h hk;obtain⟨h1,h2⟩:=wT (Hl.I _) hc;exact⟨b,o,hA,hb,h1,h2,by have:=hc 0 (by omega);rw[nM]at this;exact this,hc 1 (by omega)⟩
theorem vE.S{w W:au}{b o k B:Nat}(h:vE w b o k)(hb:aM B w W)(hlt:b<B):vE W b o k:=fun j hj=>by
 obtain⟨u,hu⟩:=h j hj;exact⟨u,by rw[hb.cell hlt];exact hu⟩
theorem K8{w W:au}{b o k B:Nat}(hb:aM B w W)(hlt:b<B):dQ W b o k=dQ w b o k:=Bt fun j _=>hb.cell hlt
def zL(l:List Hl)(s:List UInt8):Int:=match l.findIdx? (fun x=>x.E==s)with|some i=>(i:Nat)|none=>-1
theorem ao2{l:List Hl}{s:List UInt8}{i:Nat}(hi:i<l.a)(h:(l.c i kQ).E=s)(hno:∀k,k<i->(l.c k kQ).E≠s):zL l s=i:=by
 have:l.findIdx? (fun x=>x.E==s)=some i:=by
  rw[ig];refine⟨hi,?_,fun j hj=>?_⟩
  ·rw[av,aD hi]at h
   simpa using h
  ·have:=hno j hj
   rw[av,aD (by omega)]at this;simpa using this
 unfold zL;rw[this]
theorem ao3{l:List Hl}{s:List UInt8}(hno:∀k,k<l.a->(l.c k kQ).E≠s):zL l s = -1:=by
 have:l.findIdx? (fun x=>x.E==s)=none:=by
  rw[List.findIdx?_eq_none_iff];intro x hx;obtain⟨k,hk,rfl⟩:=List.getElem_of_mem hx;have:=hno k hk;rw[av,aD hk]at this;simpa using this
 unfold zL;rw[this]
theorem ao4(l:List Hl)(s:List UInt8):zL l s<l.a:=by
 unfold zL;split
 ·rename_i i h
  have:=(ig.1 h).1;omega
 ·omega
theorem ae7(l:List Hl)(s:List UInt8):zL l s = -1\/∃i:Nat,zL l s=i/\i<l.a:=by
 have:=ao4 l s;unfold zL at this ⊢;split
 ·rename_i i h;rw[h]at this;exact .b ⟨i,rfl,by simpa using this⟩
 ·exact .a rfl
theorem aiJ(l m:List Hl)(A B:Option aU)(n k c d:Nat)(w:au)(hR:RdH w w.a.j A n l)(hT:RdH w w.a.j B k m)(hn:n<=4611686018427387904)(hk:k<=4611686018427387904):
 aQ aj 57 #[.a A n c,.a B k d] w (gy w (.e (decide (l=m)))):=by
 have HR:=ah hR;have HT:=ah hT;have HN:=ah hR.1;have HK:=ah hT.1;clear hR hT;by_cases hlm:n=k;rotate_left
 ·have hne:((n:Int) != (k:Int))=true:=by rw[bne_iff_ne];omega
  have HF:=ah (show decide (l=m)=false from decide_eq_false (fun e=>hlm (by rw[<-HN.i,<-HK.i,e])));clear hlm;go_enter Tryz.func57,Tryz.ntmps57;go_wp2;go_ret;exact⟨by rw[HF.i];rfl,aH _ _⟩
 subst hlm;have hbn:((n:Int) != (n:Int))=false:=by simp
 go_enter Tryz.func57,Tryz.ntmps57;go_wp2;go_loopw [5] (fun s5 wr=>∃i:Nat,i<=n/\s5=.b .a i/\l.d i=m.d i/\aM w.a.j w wr) (fun s5 _=>n-(intOf s5).e)
 case atStart=>exact⟨0,by omega,rfl,rfl,aH _ _⟩
 case round=>
  obtain⟨i,hin,rfl,hall,hb⟩:=hrel;have HA:=ah hall;have HB:=ah hb;clear hall hb;by_cases hlt:i<n
  ·have hi:(i:Int)<n:=by omega
   obtain⟨b,o,rfl,hbb,hh,hc,_,_⟩:=(HR.i.S HB.i).hl hlt;obtain⟨b2,o2,rfl,MZ,hh2,hc2,_,_⟩:=(HT.i.S HB.i).hl hlt;obtain⟨x,hx⟩:=dw (l.c i kQ);obtain⟨y,hy⟩:=dw (m.c i kQ);rw[<-hx]at hc;rw[<-hy]at hc2;have HX:=ah hx;have HY:=ah hy;clear hx hy hbb MZ;by_cases hq:x=y
   ·have he:ab' x y=true:=by rw[SC];simpa using hq
    have HS:=ah (show l.d (i+1)=m.d (i+1)by
     rw[<-lW kQ l i (by rw[HN.i];exact hlt),<-lW kQ m i (by rw[HK.i];exact hlt),HA.i,<-HX.i,<-HY.i,hq])
    clear hq;go_wp2;go_quiet (fail);go_wp2;go_roundw
    case rel=>exact⟨i+1,by omega,by go_num,HS.i,fJ HB.i _⟩
    case measure=>simp[intOf]<;>omega
   ·have he:ab' x y=false:=by rw[SC];simpa using hq
    have HF:=ah (show decide (l=m)=false from decide_eq_false (fun e=>hq (by rw[HX.i,HY.i,e])));clear hq;go_wp2;go_quiet (fail);go_wp2;go_ret;exact⟨by rw[HF.i];rfl,fJ HB.i _⟩
  ·obtain rfl:i=n:=by omega
   have hd:decide ((i:Int)<i)=false:=by simp
   have HT2:=ah (show decide (l=m)=true from decide_eq_true (by
    have:=HA.i
    rwa [aL (by rw[HN.i];omega),aL (by rw[HK.i];omega)]at this))
   go_wp2;go_ret;exact⟨by rw[HT2.i];rfl,HB.i⟩
section
variable {P:eX}
theorem K9(w:au)(dT sT ty elem:bF)(size g o dLen dCap:Nat)(a:aU)(sLen sCap:Nat)(cur:Array aC)(t:bF)(cs:List aC)(m:Nat)
 (hu:P.k dT=some (.a elem)) (hs:(P.l elem).map (·.j)=some size)
 (hg:w.a[g]? = some (.D cur t (0,0))) (hm:m=qw sLen dLen) (hn:cs.a=m*size)
 (hsrc:∀j v,cs[j]? = some v->w.b (a.add j)=some v) (hfit:o+cs.a<=cur.j) (h1:∀v∈cs,v.h=true) :
 (qI #[dT,sT] ty #[.a (some ⟨g,o,none⟩) dLen dCap,.a (some a) sLen sCap]).J P w =
  .ok (goInt m) (w.setRow g (splice cur.a o cs).b):=by
 have hl:=run_loadCells_list (P:=P) w a cs hsrc;have hst:=run_storeCells_at P g o t cs 0 cur w hg (by simpa using hfit) h1;cases hq:P.l elem with
 | none=>simp[hq]at hs
 | some i=>
   have hi:i.j=size:=by simpa[hq]using hs
   subst hm;simp[qI,dJ hu,Builtin.lenOf,tT,sizeOf,typeInfo,hq,hi,<-hn,hl,hst,splice]
theorem ED{w:au}{ops:Array je}{rest:List je}{o:je}{a:qY}{Q:zW->qY->au->Prop}(hgd:o.guard=none)(d s:pR)(dT sT:bF)
 (ho:o.op=.call {callee:=.builtin .copy,args:=#[d,s],argTypes:=#[dT,sT]}) (elem:bF) (size:Nat) (hu:P.k dT=some (.a elem)) (hsz:(P.l elem).map (·.j)=some size)
 (g off dLen dCap:Nat) (ad:aU) (sLen sCap:Nat) (hd:a.eval d=.a (some ⟨g,off,none⟩) dLen dCap) (hs:a.eval s=.a (some ad) sLen sCap)
 (cur:Array aC) (t:bF) (hg:w.a[g]? = some (.D cur t (0,0))) (cs:List aC) (m:Nat) (hm:m=qw sLen dLen) (hn:cs.a=m*size)
 (hsrc:∀j v,cs[j]? = some v->w.b (ad.add j)=some v) (hfit:off+cs.a<=cur.j) (h1:∀v∈cs,v.h=true)
 (h:∀w',w'=w.setRow g (splice cur.a off cs).b->wpList P ops Q rest (a.put o.Y (goInt m)) w'):wpList P ops Q (o::rest) a w:=by
 refine sU hgd fun K hK=>?_
 have hrun:=K9 (P:=P) w dT sT o.p elem size g off dLen dCap ad sLen sCap cur t cs m hu hsz hg hm hn hsrc hfit h1;unfold nI;simp[execOp,ho,resolve,invoke,builtin,hd,hs,hrun,iI];exact hK _ _ (h _ rfl)
theorem IY{ops:Array je}{o:je}{a:qY}{w:au}{K:qY->au->Prop}{Q:zW->qY->au->Prop}{E:Prop}(hgd:o.guard=none)(d s:pR)(dT sT:bF)
 (ho:o.op=.call {callee:=.builtin .copy,args:=#[d,s],argTypes:=#[dT,sT]}) (elem:bF) (size:Nat) (hu:P.k dT=some (.a elem)) (hsz:(P.l elem).map (·.j)=some size)
 (g off dLen dCap:Nat) (ad:aU) (sLen sCap:Nat) (hd:a.eval d=.a (some ⟨g,off,none⟩) dLen dCap) (hs:a.eval s=.a (some ad) sLen sCap)
 (cur:Array aC) (t:bF) (hg:w.a[g]? = some (.D cur t (0,0))) (cs:List aC) (m:Nat) (hm:m=qw sLen dLen) (hn:cs.a=m*size)
 (hsrc:∀j v,cs[j]? = some v->w.b (ad.add j)=some v) (hfit:off+cs.a<=cur.j) (h1:∀v∈cs,v.h=true)
 (h:∀w',w'=w.setRow g (splice cur.a off cs).b->K (a.put o.Y (goInt m)) w') :
 if fF o (yielded ops a.tmps)=true then nI P o a w K Q else E:=by
 have hw:fF o (yielded ops a.tmps)=true:=by simp[fF,hgd]
 rw[if_pos hw];have hrun:=K9 (P:=P) w dT sT o.p elem size g off dLen dCap ad sLen sCap cur t cs m hu hsz hg hm hn hsrc hfit h1;unfold nI;simp[execOp,ho,resolve,invoke,builtin,hd,hs,hrun,iI];exact h _ rfl
theorem Pb{w:au}{ops:Array je}{rest:List je}{o:je}{a:qY}{Q:zW->qY->au->Prop}(hgd:o.guard=none)(s x:pR)(t tn:bF)
 (ho:o.op=.call {callee:=.builtin .append,args:=#[s,x],argTypes:=#[t,tn]}) (e:bF) (i:nS) (z:aC) (size:Nat) (kq kn:IntKind) (ht:P.k t=some (.a e)) (htn:P.k tn=some (.b kn)) (hi:P.l e=some i) (hz:i.zero=some z)
 (hsize:i.j=size) (hzs:z.D.j=size)
 (ad:aU) (sLen sCap:Nat) (hs:a.eval s=.a (some ad) sLen sCap) (k:Nat) (hx:a.eval x=.b kq k)
 (olds:List aC) (hlo:olds.a=sLen*size) (hold:∀j u,olds[j]? = some u->w.b (ad.add j)=some u)
 (h0:0<k) (hsz:0<size) (hg:sCap<sLen+k) (h63:sLen+k<=maxLen) (hb:(sLen+k)*i.bytes<=140737488355328)
 (h:∀c' cur w',sLen+k<=c'->c'<=maxLen->cur.j=c'*size->cur.a.d (sLen*size)=olds->w'.a[w.a.j]? = some (.D cur e (0,0))->aM w.a.j w w' ->
  wpList P ops Q rest (a.put o.Y (.a (some ⟨w.a.j,0,none⟩) (sLen+k) c')) w'):wpList P ops Q (o::rest) a w:=by
 subst hsize;refine sU hgd fun K hK=>?_
 have hl:(tT i.j sLen (.a (some ad) sLen sCap)).J P w.drew=.ok olds.b w.drew:=by
  have:=run_loadCells_list (P:=P) w.drew ad olds (fun j v hj=>by simpa using hold j v hj);rw[hlo]at this;simpa[tT]using this
 have h63':((sLen+k:Nat):Int)<=9223372036854775807:=by unfold maxLen at h63;omega
 have h48:k*i.bytes<=281474976710656:=aP (bY _ (by omega:k<=sLen+k)) (by omega);have hrun:=Lib.run_append_grow_zeros (P:=P) w t tn o.p e i z kq kn ht htn hi hz (some ad) sLen sCap olds hl k h0 hsz hg h63' h48 (growslice_fits hg hb);have hge:=grownCap_ge w (sLen+k) sCap e;have:=h (grownCap w (sLen+k) sCap e) _ _ hge (grownCap_le_maxLen w (sLen+k) sCap e h63)
  (by simp only[Array.size_append,List.size_toArray,size_zeroCells,hzs,hlo,<-Nat.add_mul];congr 1;omega)
  (by simp only[Array.toList_append,dF];rw[<-hlo];exact List.take_left)
  (GX w.drew (.D (olds.b++nZ z.D k++nZ z.D (grownCap w (sLen+k) sCap e-(sLen+k))) e))
  (((aH w.a.j w).drew).alloc (ay _) _)
 unfold nI;simp[execOp,ho,resolve,invoke,builtin,hs,hx,hrun,iI];exact hK _ _ (by simpa using this)
theorem La{ops:Array je}{o:je}{a:qY}{w:au}{K:qY->au->Prop}{Q:zW->qY->au->Prop}{E:Prop}(hgd:o.guard=none)(s x:pR)(t:bF)
 (ho:o.op=.call {callee:=.builtin .append,args:=#[s,x],argTypes:=#[t,t]}) (e:bF) (i:nS) (size:Nat) (ht:P.k t=some (.a e)) (hi:P.l e=some i) (hsize:i.j=size)
 (g sLen sCap:Nat) (ad:aU) (m c:Nat) (hs:a.eval s=.a (some ⟨g,0,none⟩) sLen sCap) (hx:a.eval x=.a (some ad) m c)
 (cur:Array aC) (hg:w.a[g]? = some (.D cur e (0,0))) (news:List aC) (hl:news.a=m*size) (hnews:∀j u,news[j]? = some u->w.b (ad.add j)=some u) (h1:∀u∈news,u.h=true)
 (hroom:sLen+m<=sCap) (hfit:sLen*size+news.a<=cur.j)
 (h:∀w',w'=w.setRow g (splice cur.a (sLen*size) news).b->K (a.put o.Y (.a (some ⟨g,0,none⟩) (sLen+m) sCap)) w') :
 if fF o (yielded ops a.tmps)=true then nI P o a w K Q else E:=by
 subst hsize;have hw:fF o (yielded ops a.tmps)=true:=by simp[fF,hgd]
 rw[if_pos hw];have hrun:=run_append_room (P:=P) w t o.p e i ht hi g sLen sCap cur hg ad m c news hl hnews h1 hroom hfit;unfold nI;simp[execOp,ho,resolve,invoke,builtin,hs,hx,hrun,iI];exact h _ (by simp[splice])
theorem EF{w:au}{ops:Array je}{rest:List je}{o:je}{a:qY}{Q:zW->qY->au->Prop}(hgd:o.guard=none)(s:pR)(t:bF)
 (ho:o.op=.call {callee:=.builtin .clear,args:=#[s],argTypes:=#[t]}) (e:bF) (i:nS) (z:aC) (size:Nat) (ht:P.k t=some (.a e)) (hi:P.l e=some i) (hz:i.zero=some z) (hzs:z.D.j=size) (h1:z.D.all (·.h)=true)
 (g off n c:Nat) (hs:a.eval s=.a (some ⟨g,off,none⟩) n c) (h0:0<n) (cur:Array aC) (tt:bF) (hg:w.a[g]? = some (.D cur tt (0,0))) (hfit:off+n*size<=cur.j)
 (h:∀w' zs,zs.a=n*size->w'=w.setRow g (splice cur.a off zs).b->wpList P ops Q rest (a.put o.Y (.K #[])) w'):wpList P ops Q (o::rest) a w:=by
 refine sU hgd fun K hK=>?_
 have hzl:(nZ z.D n).a.a=n*size:=by rw[bf,size_zeroCells,hzs]
 have hst:=run_storeCells_at P g off tt (nZ z.D n).a 0 cur w hg (by rw[hzl];omega) (fun v hv=>by
  have hv':v∈nZ z.D n:=by simpa using hv
  unfold nZ at hv';obtain⟨j,hj,rfl⟩:=Array.mem_map.1 hv';have hj':j<n*z.D.j:=by simpa using hj
  have hpos:0<z.D.j:=by
   rcases eD z.D.j with h2|h2
   ·rw[h2]at hj';omega
   ·exact h2
  have hm:j%z.D.j<z.D.j:=fH _ hpos;rw[getElem!_pos z.D _ hm];exact gG.1 h1 _ (Array.getElem_mem hm))
 have hrun:(Builtin.clear_ #[t] o.p #[.a (some ⟨g,off,none⟩) n c]).J P w=.ok (.K #[]) (w.setRow g (splice cur.a off (nZ z.D n).a).b):=by
  obtain⟨n',rfl⟩:∃n',n=n'+1:=⟨n-1,by omega⟩
  simp[Builtin.clear_,dJ ht,zeroValue,typeInfo,hi,hz,hst,splice]
 unfold nI;simp[execOp,ho,resolve,invoke,builtin,hs,hrun,iI];exact hK _ _ (h _ _ hzl rfl)
end
theorem aiK{α:Type}(cur xs ys:List α)(k s:Nat)(hx:cur.d xs.a=xs)(hk:k<=xs.a)(hy:ys.a=s)(hfit:xs.a+s<=cur.a):
 (splice (splice cur (k+s) (xs.f k)) k ys).d (xs.a+s)=xs.d k++ys++xs.f k:=by
 have hc:cur=xs++cur.f xs.a:=by
  conv=>lhs;rw[<-iK xs.a cur]
  rw[hx]
 generalize cur.f xs.a=r at hc;subst hc;have hr:s<=r.a:=by simp at hfit;omega
 unfold splice;have e1:((xs++r).d (k+s)++(xs.f k++(xs++r).f (k+s+(xs.f k).a))).d k=xs.d k:=by
  rw[gJ (by simp;omega),List.take_take,oI (by omega),gJ hk]
 have e2:((xs++r).d (k+s)++(xs.f k++(xs++r).f (k+s+(xs.f k).a))).f (k+ys.a)=xs.f k++(xs++r).f (k+s+(xs.f k).a):=by
  rw[hy];have:(List.take (k+s) (xs++r)).a=k+s:=by simp;omega
  rw[List.drop_append_of_le_length (by omega),iY (by omega),dG]
 rw[e1,e2,<-dF,<-dF,gJ (by simp;omega)];exact aL (by simp;omega)
theorem ao5{α:Type}(cur xs ys:List α)(k s:Nat)(hx:cur.d k=xs.d k)(hk:k<=xs.a)(hy:ys.a=s)(hfit:xs.a+s<=cur.a):
 (splice (splice cur k ys) (k+s) (xs.f k)).d (xs.a+s)=xs.d k++ys++xs.f k:=by
 unfold splice;rw[hx];have e1:(xs.d k++(ys++cur.f (k+ys.a))).d (k+s)=xs.d k++ys:=by
  rw[<-dF,gJ (by simp;omega)];exact aL (by simp;omega)
 rw[e1,<-dF,gJ (by simp;omega)];exact aL (by simp;omega)
theorem Yg{α:Type}(cur xs:List α)(k s:Nat)(hx:cur.d xs.a=xs)(hk:k+s<=xs.a):
 (splice cur k (xs.f (k+s))).d (xs.a-s)=xs.d k++xs.f (k+s):=by
 have hc:cur=xs++cur.f xs.a:=by
  conv=>lhs;rw[<-iK xs.a cur]
  rw[hx]
 generalize cur.f xs.a=r at hc;subst hc;unfold splice;have e1:(xs++r).d k=xs.d k:=gJ (by omega);rw[e1,<-dF,gJ (by simp;omega)];exact aL (by simp;omega)
@[go_sem]theorem aln(w:au)(ob:Obj)(x y:Bk):
 (JX (.c (some ⟨w.a.j+1,0,none⟩)) (.d x.aA)).J aj ((w.alloc ob).alloc (.D y.aA 62))=.ok () ((w.alloc ob).alloc (.D x.aA 62)):=by
 have:=Xe (w.alloc ob) x y
 rwa [show(w.alloc ob).a.j=w.a.j+1 by simp]at this
def IZ(l m:List Bk)(i:Nat):Bool:=Qw (l.c i jd) (m.c i jd)
def I4(l m:List Bk):Bool:=decide (l.a=m.a)&&(dS l.a).all (IZ l m)
theorem acJ(args:Array aC)(w:au):(callFunc 124 args).J aj w=.ok (.enter 124 args) w:=by kernel_rfl
theorem Ld(p:Nat->Bool)(i:Nat):(dS (i+1)).all p=((dS i).all p&&p i):=by
 rw[List.range_succ,List.all_append];simp
theorem Qy(p:Nat->Bool)(i n:Nat)(h:i<n)(hp:p i=false):(dS n).all p=false:=by
 rw[List.all_eq_false];exact⟨i,eG.2 h,by rw[hp];simp⟩
theorem Xn(l m:List Bk)(A B:Option aU)(c d:Nat)(w:au)(hR:Ez w w.a.j A l.a l)(hT:Ez w w.a.j B m.a m)(hn:l.a<4611686018427387904)(hm:m.a<4611686018427387904):
 aQ aj 123 #[.a A l.a c,.a B m.a d,.func (.func 124) #[] #[]] w
  (gy w (.e (I4 l m))):=by
 have hen:=acJ;have HR:=ah hR;have HT:=ah hT;clear hR hT;have he:I4 l m=(decide (l.a=m.a)&&(dS l.a).all (IZ l m)):=rfl;have HE:=ah he;clear he;by_cases hlm:l.a=m.a;rotate_left
 ·have aCI:((l.a:Int) != (m.a:Int))=true:=by rw[bne_iff_ne];omega
  have hf:I4 l m=false:=by rw[HE.i];simp[hlm]
  have HF:=ah hf;clear hf hlm;go_enter Tryz.func123,Tryz.ntmps123;go_wp2;go_ret;exact⟨by rw[HF.i];rfl,aH _ _⟩
 have HLM:=ah hlm;rw[<-hlm]at HT hm ⊢;clear hlm;obtain⟨n,hnl⟩:=dw l.a;rw[<-hnl]at HR HT hn ⊢;have HN:=ah hnl;clear hnl hm;have hbn:((n:Int) != (n:Int))=false:=by simp
 go_enter Tryz.func123,Tryz.ntmps123;go_wp2;go_loopw [17] (fun s17 wr=>∃i:Nat,i<=n/\s17=.b .a i/\(dS i).all (IZ l m)=true/\aM w.a.j w wr) (fun s17 _=>n-(intOf s17).e)
 case atStart=>exact⟨0,by omega,rfl,rfl,aH _ _⟩
 case round=>
  obtain⟨i,hin,rfl,hall,hb⟩:=hrel;have HA:=ah hall;have HB:=ah hb;have hsz:=hb.j;clear hall hb;by_cases hlt:i<n
  ·have hi:(i:Int)<n:=by omega
   obtain⟨b,o,rfl,hbb,hh,hc⟩:=(HR.i.S HB.i).fG hlt;obtain⟨b2,o2,rfl,MZ,hh2,hc2⟩:=(HT.i.S HB.i).fG hlt;have hbs:b<wr.a.j:=by omega
   have Gd:b2<wr.a.j:=by omega
   have hp:IZ l m i=Qw (l.c i jd) (m.c i jd):=rfl;obtain⟨x,hx⟩:=dw (l.c i jd);obtain⟨y,hy⟩:=dw (m.c i jd);rw[<-hx]at hc hp;rw[<-hy]at hc2 hp;have HP:=ah hp;clear hx hy hp hbb MZ;have pY:∀K,Qw x y=K->∀W,aQ aj 124 #[.d x.aA,.d y.aA] W fun e w'=>e=.a (.e K)/\aM W.a.j W w':=fun K h W=>by
    have:=aiH x y W;rw[h]at this;exact this
   have hb2:∀ob sO,aM wr.a.j wr ((wr.alloc ob).alloc sO):=fun ob sO=>((aH _ _).alloc (ay _) _).alloc (by simp) _
   have HB2:=ah hb2;clear hb2;cases k:Qw x y
   ·have hf:I4 l m=false:=by
     rw[HE.i,<-HN.i,Qy (IZ l m) i n hlt (by rw[HP.i,k])];simp
    have HF:=ah hf;have SG:=ah (pY _ k);clear k pY hf;go_wp2_with (go_at_call 124;refine(SG.i _).g ?_;rintro e w1 ⟨rfl,hb1⟩;clear hh hc hh2 hc2;have HB1:=ah hb1;clear hb1);go_ret;exact⟨by rw[HF.i];rfl,iZ HB.i ((HB2.i _ _).trans (HB1.i.g (by simp;omega)))⟩
   ·have hy':(dS (i+1)).all (IZ l m)=true:=by rw[Ld,HA.i,HP.i,k];rfl
    have HY:=ah hy';have SG:=ah (pY _ k);clear k pY hy';go_wp2_with (go_at_call 124;refine(SG.i _).g ?_;rintro e w1 ⟨rfl,hb1⟩;clear hh hc hh2 hc2;have HB1:=ah hb1;clear hb1);go_roundw
    case rel=>exact⟨i+1,by omega,by go_num,HY.i,iZ HB.i ((HB2.i _ _).trans (HB1.i.g (by simp;omega)))⟩
    case measure=>simp[intOf]<;>omega
  ·obtain rfl:i=n:=by omega
   have ht:I4 l m=true:=by rw[HE.i,<-HN.i,HA.i];have:=HLM.i;have:=HN.i;simp;omega
   have HTR:=ah ht;clear ht;have hd:decide ((i:Int)<i)=false:=by simp
   go_wp2;go_ret;exact⟨by rw[HTR.i];rfl,HB.i⟩
def aak(v:Int)(l:List Bk)(v':Int)(m:List Bk):Bool:=(v==v')&&I4 l m
theorem aal(l m:List Bk)(v v':Int)(A B:Option aU)(c d:Nat)(w:au)(hR:Ez w w.a.j A l.a l)(hT:Ez w w.a.j B m.a m)(hn:l.a<4611686018427387904)(hm:m.a<4611686018427387904):
 aQ aj 53 #[.d #[.b .a v,.a A l.a c],.d #[.b .a v',.a B m.a d]] w
  (gy w (.e (aak v l v' m))):=by
 have hb0:∀ob sO,aM w.a.j w ((w.alloc ob).alloc sO):=fun ob sO=>((aH _ _).alloc (ay _) _).alloc (by simp) _
 have HB0:=ah hb0;clear hb0;have HR:=ah (fun ob sO=>((hR.alloc (ay _) ob).alloc (by simp) sO).lH (B':=((w.alloc ob).alloc sO).a.j) (by simp;omega));have HT:=ah (fun ob sO=>((hT.alloc (ay _) ob).alloc (by simp) sO).lH (B':=((w.alloc ob).alloc sO).a.j) (by simp;omega));clear hR hT;have he:aak v l v' m=((v==v')&&I4 l m):=rfl;have HE:=ah he;clear he;cases k:v==v'
 ·have HK:=ah k
  go_enter Tryz.func53,Tryz.ntmps53;go_wp2;go_ret;exact⟨by rw[HE.i,HK.i];rfl,HB0.i _ _⟩
 ·have HK:=ah k
  go_enter Tryz.func53,Tryz.ntmps53;go_wp2_with (go_at_call 123;refine(Xn l m A B c d _ (HR.i _ _) (HT.i _ _) hn hm).g ?_;rintro e w1 ⟨rfl,hb1⟩;have HB1:=ah hb1;clear hb1);go_ret;exact⟨by rw[HE.i,HK.i];rfl,(HB0.i _ _).trans (HB1.i.g (by simp;omega))⟩
theorem acL(l:List Bk)(a:aU)(c:Nat)(w:au)(hR:Ez w w.a.j (some a) l.a l)(hn:l.a<=100000000000):
 aQ aj 61 #[.a (some a) l.a c] w fun e w'=>∃A' c',e=.a (.a A' l.a c')/\w'.c w.a.j 62 27 (.a A' l.a c') l.a (dO l)/\aM w.a.j w w':=by
 have hnil:∀W:au,(binOp .eql 30 (.a (some a) l.a c) (.a none 0 0)).J aj W=.ok (.e false) W:=fun W=>by
  simp only[binOp];simp[jf,jo]
 obtain⟨i0,hi0,hz0,hz1,hzb⟩:=LC;have hz2:(cK jd.aA).D.j=27:=by simp[bZ,Bk.I]
 have o1:(w.alloc (.D #[] 62)).c w.a.j 62 27 (.a (some ⟨w.a.j,0,none⟩) 0 0) 0 []:=
  lN w #[] 0 (ay _) (by unfold maxLen;omega) rfl
 have O1:=ah o1;have O2:=ah (hR.alloc (ay _) (.D #[] 62)).2.1;have ME:=ah (show 0+l.a<=maxLen by unfold maxLen;omega);have Kw:=ah (show(0+l.a)*i0.bytes<=140737488355328 from aP (gP (show 0+l.a<=100000000000 by omega) hzb) (by omega));have O3:=ah (show w.a.j<=(w.alloc (.D #[] 62)).a.j by simp);clear o1 hR;go_enter Tryz.func61,Tryz.ntmps61;go_wp2_with (at_builtin;refine iT _ rfl (.tmp 5) (.tmp 6) _ rfl w.a.j 62 i0 (.d jd.aA) 27 i0.bytes jo hi0 hz0 hz1 rfl hz2 (kX _) (.a (some ⟨w.a.j,0,none⟩) 0 0) 0 [] rfl O1.i w.a.j (some a) l.a c (dO l) rfl O2.i (Dk l) ME.i Kw.i O3.i ?_;intro v1 w1 hown1 hg1 uN);obtain⟨A',c',hv,_,_⟩:=jw hown1;subst hv;simp only[bl,dG]at hown1;have hb:=qM ((aH w.a.j w).alloc (ay _) (.D #[] 62)) hg1 (ay _) O3.i;go_wp2;go_ret;exact⟨A',c',by simp,hown1,hb⟩
theorem ao6{l:List Bk}(hs:Ga l){s:List UInt8}{i:Nat}(hi:i<l.a)(h:nm l i=s):kH l s=i/\sP l s=true:=by
 have h0:mK (nm l i) s=0:=J4.2 h;have hl:kH l s=i:=ag7 (by omega) (fun k hk=>by rw[<-h];exact hs.lt hk hi) (fun _=>by omega);refine⟨hl,?_⟩;unfold sP;rw[hl];simp[hi,h0]
def Gf(l m:List Bk)(i:Nat):Bool:=AB (l.c i jd) (m.c i jd)
def Bw(v:Int)(l:List Bk)(v':Int)(m:List Bk):Bool:=(v==v')&&decide (l.a=m.a)&&(dS l.a).all (Gf l m)
theorem Ri(l m:List Bk)(hf:∀x∈l,x.qg)(hg:∀x∈m,x.qg)(v v':Int)(A B:Option aU)(c d:Nat)(w:au)(hR:Ez w w.a.j A l.a l)(hT:Ez w w.a.j B m.a m)(hn:l.a<4611686018427387904)(hm:m.a<4611686018427387904):
 aQ aj 56 #[.d #[.b .a v,.a A l.a c],.d #[.b .a v',.a B m.a d]] w
  (gy w (.e (Bw v l v' m))):=by
 have hb0:∀ob sO,aM w.a.j w ((w.alloc ob).alloc sO):=fun ob sO=>((aH _ _).alloc (ay _) _).alloc (by simp) _
 have HB0:=ah hb0;clear hb0;have HR:=ah hR;have HT:=ah hT;have HF:=ah hf;have HG:=ah hg;clear hR hT hf hg;have he:Bw v l v' m=((v==v')&&decide (l.a=m.a)&&(dS l.a).all (Gf l m)):=rfl;have HE:=ah he;clear he;by_cases hv:v=v';rotate_left
 ·have hv1:(v != v')=true:=by rw[bne_iff_ne];exact hv
  have hff:Bw v l v' m=false:=by rw[HE.i];simp[hv]
  have FD:=ah hff;clear hff hv;go_enter Tryz.func56,Tryz.ntmps56;go_wp2;go_ret;exact⟨by rw[FD.i];rfl,HB0.i _ _⟩
 have hv1:(v != v')=false:=by simpa using hv
 by_cases hlm:l.a=m.a;rotate_left
 ·have aCI:((l.a:Int) != (m.a:Int))=true:=by rw[bne_iff_ne];omega
  have hff:Bw v l v' m=false:=by rw[HE.i];simp[hlm]
  have FD:=ah hff;clear hff hlm hv;go_enter Tryz.func56,Tryz.ntmps56;go_wp2;go_ret;exact⟨by rw[FD.i];rfl,HB0.i _ _⟩
 have HLM:=ah hlm;have HV:=ah hv;rw[<-hlm]at HT hm ⊢;clear hlm hv;obtain⟨n,hnl⟩:=dw l.a;rw[<-hnl]at HR HT hn ⊢;have HN:=ah hnl;clear hnl hm;have hbn:((n:Int) != (n:Int))=false:=by simp
 go_enter Tryz.func56,Tryz.ntmps56;go_wp2;go_loopw [5] (fun s5 wr=>∃i:Nat,i<=n/\s5=.b .a i/\(dS i).all (Gf l m)=true/\aM (w.a.j+2) ((w.alloc (.D #[.b .a v,.a A n c] 32)).alloc (.D #[.b .a v',.a B n d] 32)) wr) (fun s5 _=>n-(intOf s5).e)
 case atStart=>exact⟨0,by omega,rfl,rfl,aH _ _⟩
 case round=>
  obtain⟨i,hin,rfl,hall,hb⟩:=hrel;have HA:=ah hall;have HB:=ah hb;have hcl:wr.b ⟨w.a.j,1,none⟩=some (.a A n c):=by
   rw[hb.cell (by simp)];go_simp
  have hBW:=(HB0.i (.D #[.b .a v,.a A n c] 32) (.D #[.b .a v',.a B n d] 32)).trans (hb.g (by simp));have HBW:=ah hBW;clear hall hb hBW;by_cases hlt:i<n
  ·have hsz:=HB.i.j
   have hi:(i:Int)<n:=by omega
   have aCJ:wr.b ⟨w.a.j+1,1,none⟩=some (.a B n d):=by
    rw[HB.i.cell (by simp)];go_simp
   obtain⟨b,o,rfl,hbb,hh,hc⟩:=(HR.i.S HBW.i).fG hlt;obtain⟨b2,o2,rfl,MZ,hh2,hc2⟩:=(HT.i.S HBW.i).fG hlt;have hws:w.a.j+2<=wr.a.j:=by simpa using hsz
   have hbs:b<wr.a.j:=by omega
   have Gd:b2<wr.a.j:=by omega
   have hmem:l.c i jd∈l:=by
    have:=HN.i;rw[av,aD (by omega)];simp
   have arR:m.c i jd∈m:=by
    have:=HN.i;have:=HLM.i;rw[av,aD (by omega)];simp
   obtain⟨hx1,hx2⟩:=HF.i _ hmem;obtain⟨hy1,hy2⟩:=HG.i _ arR;have hp:Gf l m i=AB (l.c i jd) (m.c i jd):=rfl;obtain⟨x,hx⟩:=dw (l.c i jd);obtain⟨y,hy⟩:=dw (m.c i jd);rw[<-hx]at hc hp hx2;rw[<-hy]at hc2 hp hy2;have HP:=ah hp;clear hx hy hp hbb MZ hmem arR hx1 hy1;have pY:∀K,AB x y=K->∀W,aQ aj 125 #[.d x.aA,.d y.aA] W fun e w'=>e=.a (.e K)/\aM W.a.j W w':=fun K h W=>by
    have:=acI x y hx2 hy2 W;rw[h]at this;exact this
   obtain⟨T,f,n0,e0,eS,eT⟩:=EC (fun W=>aM wr.a.j wr W) wr (aH _ _).drew;have es:∀q W1,aM (f q).a.j (f q) W1->∃q',W1=f q':=fun q W1 hb=>eT _ ((eS q).trans (hb.g (eS q).j))
   have r1:∀q,(Lv (.c (some ⟨b,o+i*27,none⟩))).J aj (f q)=.ok (.d x.aA) (f q):=fun q=>by
    rw[aad _ _ _ (hh.S (eS q) hbs),K8 (eS q) hbs,hc]
   have r2:∀q,(Lv (.c (some ⟨b2,o2+i*27,none⟩))).J aj (f q)=.ok (.d y.aA) (f q):=fun q=>by
    rw[aad _ _ _ (hh2.S (eS q) Gd),K8 (eS q) Gd,hc2]
   have r3:∀q,(f q).b ⟨w.a.j,1,none⟩=some (.a (some ⟨b,o,none⟩) n c):=fun q=>by rw[(eS q).cell (by simp;omega)];exact hcl
   have r4:∀q,(f q).b ⟨w.a.j+1,1,none⟩=some (.a (some ⟨b2,o2,none⟩) n d):=fun q=>by rw[(eS q).cell (by simp;omega)];exact aCJ
   have hne:Nonempty T:=⟨n0⟩
   have E0:=ah e0;have ES:=ah es;have EB:=ah (fun q=>HB.i.trans ((eS q).g hws));have EW:=ah (fun q=>HBW.i.trans ((eS q).g (by omega)));clear e0 es eS eT hh hc hh2 hc2;cases k:AB x y
   ·have hff:Bw v l v' m=false:=by
     rw[HE.i,<-HN.i,Qy (Gf l m) i n hlt (by rw[HP.i,k])];simp
    have FD:=ah hff;have SG:=ah (pY _ k);clear k pY hff;go_upto_region 6 with fail
    refine nW f (by kernel_rfl) (by kernel_rfl) n0 E0.i ?_
    repeat(go_big_quiet_step ((first
     | (go_at_call 125;refine(SG.i _).g ?_;rintro e w1 ⟨rfl,hb1⟩;exact⟨rfl,ES.i _ _ hb1⟩))))
    refine gN ?_;rintro _ ⟨q,rfl⟩;go_wp2;go_ret;exact⟨by rw[FD.i];rfl,EW.i _⟩
   ·have hy':(dS (i+1)).all (Gf l m)=true:=by rw[Ld,HA.i,HP.i,k];rfl
    have HY:=ah hy';have SG:=ah (pY _ k);clear k pY hy';go_upto_region 6 with fail
    refine nW f (by kernel_rfl) (by kernel_rfl) n0 E0.i ?_
    repeat(go_big_quiet_step ((first
     | (go_at_call 125;refine(SG.i _).g ?_;rintro e w1 ⟨rfl,hb1⟩;exact⟨rfl,ES.i _ _ hb1⟩))))
    refine gN ?_;rintro _ ⟨q,rfl⟩;go_wp2;go_roundw
    case rel=>exact⟨i+1,by omega,by go_num,HY.i,EB.i _⟩
    case measure=>simp[intOf]<;>omega
  ·obtain rfl:i=n:=by omega
   have ht:Bw v l v' m=true:=by rw[HE.i,<-HN.i,HA.i];have:=HLM.i;have:=HN.i;have:=HV.i;simp;omega
   have HTR:=ah ht;clear ht;have hd:decide ((i:Int)<i)=false:=by simp
   go_wp2;go_ret;exact⟨by rw[HTR.i];rfl,HBW.i⟩
theorem aiL{x y:Nat}(hx:x<18446744073709551616)(hy:y<18446744073709551616):Ey x y=decide (Lx x=Lx y):=by
 rw[cB];simp only[Ey,beq_iff_eq,decide_eq_true_eq];constructor
 ·intro h;simp only[Lx,h]
 ·intro h;exact aeZ (acv hx) (acv hy) h
theorem ae8:Op.floatEq .f64 0 0=true:=by decide +kernel
theorem alo{x y:Bk}(hx:x.w<18446744073709551616)(hy:y.w<18446744073709551616):Qw x y=AB x y:=by
 unfold Qw AB alk Bk.OH;rw[ae8,aiL hx hy];cases(decide (Lx x.w=Lx y.w))<;>cases(x.E==y.E)<;>cases(decide (x.h=y.h))<;>cases(x.nu==y.nu)<;>cases(decide (x.Bj=y.Bj))<;>cases(x.drain==y.drain)<;>rfl
theorem aiM{l m:List Bk}(v v':Int)(hf:∀x∈l,x.qg)(hg:∀x∈m,x.qg):aak v l v' m=Bw v l v' m:=by
 unfold aak Bw I4;rw[Bool.and_assoc];congr 1;by_cases hlm:l.a=m.a
 ·congr 1
  rw[cB,fV,fV];have key:∀i,i∈dS l.a->IZ l m i=Gf l m i:=fun i hi=>by
   have hi:=eG.1 hi;unfold IZ Gf;have h1:l.c i jd∈l:=by rw[av,aD hi];simp
   have h2:m.c i jd∈m:=by rw[av,aD (by omega)];simp
   exact alo (hf _ h1).2 (hg _ h2).2
  constructor
  ·intro h i hi;rw[<-key i hi];exact h i hi
  ·intro h i hi;rw[key i hi];exact h i hi
 ·simp[hlm]
theorem ae9(v:Int)(l:List Bk):Bw v l v l=true:=by
 unfold Bw Gf AB;simp
def UA(f w:Nat):Bool:=decide (f/w%2=1)
theorem alp(f w:Nat)(hf:f<64)(hw:w∈[1,2,4,16]):(bits .and .a (f:Int) (w:Int) != 0)=UA f w:=
 (by decide +kernel:∀f:Fin 64,∀w∈([1,2,4,16]:List Nat),(bits .and .a ((f.val:Nat):Int) (w:Int) != 0)=UA f.val w) ⟨f,hf⟩ w hw
def aam(f:Nat):Bool:=UA f 2 && !UA f 16
def aan(p:Int)(f:Nat):Int:=if p=17 then 5 else if p=6 then(if UA f 4 then 4 else if UA f 1 then 3 else if aam f then 1 else 2)else 0
def ag'(s:Int)(f:Nat):Int:=if s=5 then 5 else if s<1\/5<s then 0 else if UA f 4 then 4 else if s=4 then(if aam f then 1 else 4)else if UA f 1 then 3 else if s=1/\(UA f 16 && !UA f 2)=true then 2 else s
def I5(n:Int):Int:=if n<0 then 0 else if 1099511627776<n then 1099511627776 else n
section
variable (f w:Nat) (p s n:Int) (W:au)
theorem aao(hf:f<64)(hw:w∈[1,2,4,16]):aQ aj 208 #[.b .a f,.b .a w] W fun e W'=>e=.a (.e (UA f w))/\W=W':=by
 have h:=alp f w hf hw;go_enter Tryz.func208,Tryz.ntmps208;go_wp2;go_ret;exact⟨by rw[<-h];rfl,rfl⟩
theorem Yh(hf:f<64):aQ aj 209 #[.b .a f] W fun e W'=>e=.a (.e (aam f))/\W=W':=by
 go_enter Tryz.func209,Tryz.ntmps209;go_wp2_with (go_at_call 208;refine(aao f _ _ hf (by simp)).g ?_;rintro e w' ⟨rfl,rfl⟩)
 all_goals(go_ret;refine⟨?_,rfl⟩;simp_all[aam])
theorem aiN(hf:f<64):aQ aj 138 #[.b .a p,.b .a f] W fun e W'=>e=.a (.b .a (aan p f))/\W=W':=by
 go_enter Tryz.func138,Tryz.ntmps138;go_wp2_with (first|(go_at_call 208;refine(aao f _ _ hf (by simp)).g ?_;rintro e w' ⟨rfl,rfl⟩)|(go_at_call 209;refine(Yh f _ hf).g ?_;rintro e w' ⟨rfl,rfl⟩))
 all_goals(go_ret;refine⟨?_,rfl⟩;simp_all[aan])
theorem alq(hf:f<64):aQ aj 139 #[.b .a s,.b .a f] W fun e W'=>e=.a (.b .a (ag' s f))/\W=W':=by
 go_enter Tryz.func139,Tryz.ntmps139;go_wp2_with (first|(go_at_call 208;refine(aao f _ _ hf (by simp)).g ?_;rintro e w' ⟨rfl,rfl⟩)|(go_at_call 209;refine(Yh f _ hf).g ?_;rintro e w' ⟨rfl,rfl⟩))
 all_goals(go_ret;refine⟨?_,rfl⟩;simp_all[ag']<;>omega)
theorem acM:aQ aj 217 #[.b .a n] W fun e W'=>e=.a (.b .a (I5 n))/\W=W':=by
 go_enter Tryz.func217,Tryz.ntmps217;go_wp2
 all_goals(go_ret;refine⟨?_,rfl⟩;simp_all[I5]<;>(repeat' split)<;>omega)
end
def lK(n:Nat):Bool:=decide (2<=n)&&(dS n).all fun d=>decide (d<2)||decide (n<d*d)||decide (n%d≠0)
theorem J5{n:Nat}(h:lK n=true){d:Nat}(h2:2<=d)(hd:d*d<=n):n%d≠0:=by
 unfold lK at h;simp only[bB,fV,eG,nJ,decide_eq_true_eq]at h;have hlt:d<n:=by have:=bY d h2;omega
 rcases h.2 d hlt with(h|h)|h<;>omega
theorem wV{n:Nat}(h:lK n=true):2<=n:=by
 unfold lK at h;simp at h;exact h.1
theorem ae'{n g:Nat}(h:lK n=true)(hg:g∣n)(h2:2<=g):g=n:=by
 obtain⟨q,rfl⟩:=hg;rcases aZ q 2 with hq|hq
 ·rcases q with _|_|q
  ·have:=wV h;omega
  ·omega
  ·omega
 ·exfalso
  rcases Nat.le_total g q with hle|hle
  ·exact J5 h h2 (Nat.mul_le_mul_left g hle) (Nat.mul_mod_right g q)
  ·exact J5 h hq (bY q hle) (Nat.mul_mod_left g q)
theorem UC{n s:Nat}(h:lK n=true)(h1:1<=s)(h2:s<n):Nat.Coprime n s:=by
 have hg:=Nat.gcd_dvd_left n s;have hs:=Nat.gcd_dvd_right n s;have hpos:0<Nat.gcd n s:=Nat.gcd_pos_of_pos_right n h1;rcases aZ (Nat.gcd n s) 2 with hc|hc
 ·show Nat.gcd n s=1;omega
 ·have:=ae' h hg hc
  have:=Nat.le_of_dvd h1 hs;omega
def rF(o s n i:Nat):Nat:=(o+i*s)%n
theorem afa{o s n i j:Nat}(h:lK n=true)(h1:1<=s)(h2:s<n)(hi:i<j)(hj:j<n)(e:rF o s n i=rF o s n j):False:=by
 unfold rF at e;have hd:n∣(j-i)*s:=by
  have:n∣(o+j*s)-(o+i*s):=Nat.dvd_of_mod_eq_zero (Nat.sub_mod_eq_zero_of_mod_eq e.symm)
  rwa [Nat.add_sub_add_left,<-Nat.mul_sub_right_distrib]at this
 have:=(UC h h1 h2).dvd_of_dvd_mul_right hd;have:=Nat.le_of_dvd (by omega) this;omega
theorem acN:∀(l m:List Nat),l.Nodup->(∀x∈l,x∈m)->l.a<=m.a
 | [],m,_,_=>Nat.zero_le _
 | x::l,m,hn,hs=>by
   have hx:=hs x (by simp);rw[List.nodup_cons]at hn;have:=acN l (m.erase x) hn.2 (fun y hy=>(List.mem_erase_of_ne (fun e=>hn.1 (by rw[<-e];exact hy))).2 (hs y (by simp[hy])));rw[List.length_erase_of_mem hx]at this;have:=List.length_pos_of_mem hx;simp;omega
theorem UD{o s n:Nat}(h:lK n=true)(h1:1<=s)(h2:s<n){j:Nat}(hj:j<n):∃i,i<n/\rF o s n i=j:=by
 have hn:0<n:=by omega
 by_cases hc:j∈(dS n).map (rF o s n)
 ·obtain⟨i,hi,e⟩:=iX.1 hc
  exact⟨i,eG.1 hi,e⟩
 ·exfalso
  have hnd:((dS n).map (rF o s n)).Nodup:=by
   rw[List.Nodup,List.pairwise_map];refine List.Pairwise.imp_of_mem ?_ (List.pairwise_lt_range (n:=n));intro a b ha hb hab e;exact afa h h1 h2 hab (eG.1 hb) e
  have:=acN (j::(dS n).map (rF o s n)) (dS n) (List.nodup_cons.2 ⟨hc,hnd⟩) (by
   intro x hx;rcases bE.1 hx with rfl|hx
   ·exact eG.2 hj
   ·obtain⟨i,_,rfl⟩:=iX.1 hx
    exact eG.2 (fH _ hn))
  simp at this;omega
theorem Pf{o s n i:Nat}(h:0<n):rF o s n i<n:=fH _ h
structure Mg where
 cr:List Nat
 sl:List Int
 left:Nat
def rU(sl:List Int)(j:Nat):Bool:=decide (sl.c j 0 = -1)
def ff(sl:List Int)(ch:Nat->Nat)(n:Nat):Nat:=((dS n).find? fun k=>rU sl (ch k)).c 0
def sI(g n:Nat)(q:List Nat)(ch:Nat->Nat->Nat)(m:Mg)(i:Nat):Mg:=
 if m.cr.c i 0+q.c i 0<g then{m with cr:=m.cr.set i (m.cr.c i 0+q.c i 0)}
 else⟨m.cr.set i (m.cr.c i 0+q.c i 0-g),m.sl.set (ch i (ff m.sl (ch i) n)) i,m.left-1⟩
def jO(g n:Nat)(q:List Nat)(ch:Nat->Nat->Nat):Nat->Mg
 | 0=>⟨q.map fun _=>0,eu n (-1),n⟩
 | j+1=>sI g n q ch (jO g n q ch j) (j%q.a)
def I6(sl:List Int):Nat:=sl.countP fun x=>decide (x = -1)
theorem arS{sl:List Int}{ch:Nat->Nat}{n:Nat}(h:∃k,k<n/\rU sl (ch k)=true):ff sl ch n<n/\rU sl (ch (ff sl ch n))=true/\∀k,k<ff sl ch n->rU sl (ch k)=false:=by
 unfold ff;cases hf:(dS n).find? fun k=>rU sl (ch k)with
 | none=>
   obtain⟨k,hk,hk2⟩:=h;rw[List.find?_eq_none]at hf;exact absurd hk2 (hf k (eG.2 hk))
 | some k=>
   obtain⟨h1,u1,bs,h2,h3⟩:=List.find?_eq_some_iff_append.1 hf;have hk:u1.a=k/\k<n:=by
    have e1:(dS n)[u1.a]? = some k:=by rw[h2];simp
    rw[wO]at e1
    ·have hl:u1.a<n:=by have:=congrArg List.length h2;simp at this;omega
     simp at e1;omega
    ·have:=congrArg List.length h2;simp at this;omega
   refine⟨hk.2,h1,fun j hj=>?_⟩;simp only[jE]at hj;have e1:(dS n)[j]? = some j:=by rw[wO (by omega)]
   rw[h2,mX (by omega)]at e1;have:=h3 j (List.mem_of_getElem? e1);simpa using this
theorem Pg:∀(sl:List Int)(j:Nat)(v:Int),rU sl j=true->j<sl.a->v≠-1->I6 (sl.set j v)+1=I6 sl
 | [],j,v,_,h,_=>by simp at h
 | a::sl,0,v,h,_,hv=>by
   have:a = -1:=by simpa[rU]using h
   subst this;simp[I6,hv]
 | a::sl,j+1,v,h,hj,hv=>by
   have:=Pg sl j v (by simpa[rU]using h) (by simpa using hj) hv;simp only[I6,bI,List.countP_cons]at this ⊢;omega
theorem Yi:∀(sl:List Int),0<I6 sl->∃j,j<sl.a/\rU sl j=true
 | [],h=>by simp[I6]at h
 | a::sl,h=>by
   by_cases ha:a = -1
   ·exact⟨0,by simp,by simp[rU,ha]⟩
   ·obtain⟨j,h1,h2⟩:=Yi sl (by simpa[I6,List.countP_cons,ha]using h)
    exact⟨j+1,by simpa using h1,by simpa[rU]using h2⟩
structure afb(n:Nat)(q:List Nat)(m:Mg):Prop where
 crl:m.cr.a=q.a
 sll:m.sl.a=n
 fr:I6 m.sl=m.left
 rng:∀j,j<n->m.sl.c j 0 = -1\/∃i,i<q.a/\m.sl.c j 0=(i:Int)
def acO(n k:Nat)(ch:Nat->Nat->Nat):Prop:=∀i,i<k->(∀t,ch i t<n)/\∀j,j<n->∃t,t<n/\ch i t=j
theorem afb.free{n:Nat}{q:List Nat}{ch:Nat->Nat->Nat}{m:Mg}(h:afb n q m)(hf:acO n q.a ch)(hl:m.left≠0){i:Nat}(hi:i<q.a):∃k,k<n/\rU m.sl (ch i k)=true:=by
 obtain⟨j,hj,hj2⟩:=Yi m.sl (by rw[h.fr];omega);obtain⟨t,ht,e⟩:=(hf i hi).2 j (by rw[<-h.sll];exact hj);exact⟨t,ht,by rw[e];exact hj2⟩
theorem afb.Xo{g n:Nat}{q:List Nat}{ch:Nat->Nat->Nat}{m:Mg}(h:afb n q m)(hf:acO n q.a ch)(hl:m.left≠0){i:Nat}(hi:i<q.a):afb n q (sI g n q ch m i):=by
 unfold sI;split
 ·exact⟨by simpa using h.crl,h.sll,h.fr,h.rng⟩
 ·obtain⟨h1,h2,h3⟩:=arS (h.free hf hl hi)
  have hlt:=(hf i hi).1 (ff m.sl (ch i) n);have hll:=h.sll;refine⟨by simpa using h.crl,by simpa using h.sll,?_,fun j hj=>?_⟩
  ·have:=Pg m.sl _ (i:Int) h2 (by omega) (by omega)
   have:=h.fr;show I6 (m.sl.set _ _)=m.left-1;omega
  ·simp only[av,fI]
   split
   ·rename_i e
    rw[if_pos (by omega)];exact .b ⟨i,hi,rfl⟩
   ·have:=h.rng j hj
    simpa[av]using this
theorem acP{g n:Nat}{q:List Nat}{ch:Nat->Nat->Nat}(m:Mg)(i:Nat):(sI g n q ch m i).left<=m.left:=by
 unfold sI;split
 ·exact ay _
 ·exact Nat.sub_le _ _
theorem aap{g n:Nat}{q:List Nat}{ch:Nat->Nat->Nat}(j:Nat):∀d,(jO g n q ch (j+d)).left<=(jO g n q ch j).left
 | 0=>ay _
 | d+1=>aP (acP _ _) (aap j d)
theorem aaq{g n:Nat}{q:List Nat}{ch:Nat->Nat->Nat}{i0:Nat}(hi:i0<q.a)(hg:q.c i0 0=g)(m:Nat):(jO g n q ch ((m+1)*q.a)).left<=(jO g n q ch (m*q.a)).left-1:=by
 have h1:(jO g n q ch (m*q.a+i0+1)).left<=(jO g n q ch (m*q.a+i0)).left-1:=by
  have e:(m*q.a+i0)%q.a=i0:=by rw[Dh,Nat.mul_add_mod,fP hi]
  show(sI g n q ch _ ((m*q.a+i0)%q.a)).left<=_;rw[e];unfold sI;rw[if_neg (by omega)];exact ay _
 have h2:=aap (g:=g) (n:=n) (q:=q) (ch:=ch) (m*q.a) i0;have h3:=aap (g:=g) (n:=n) (q:=q) (ch:=ch) (m*q.a+i0+1) (q.a-i0-1);rw[show m*q.a+i0+1+(q.a-i0-1)=(m+1)*q.a by rw[Nat.add_mul];omega]at h3;omega
theorem ao7{g n:Nat}{q:List Nat}{ch:Nat->Nat->Nat}{i0:Nat}(hi:i0<q.a)(hg:q.c i0 0=g):∃K,(jO g n q ch K).left=0/\∀j,j<K->(jO g n q ch j).left≠0:=by
 have h:∀m,(jO g n q ch (m*q.a)).left<=n-m:=by
  intro m
  induction m with
  | zero=>simp[jO]
  | succ m ih=>have:=aaq (n:=n) (ch:=ch) hi hg m;omega
 have hk:(jO g n q ch (n*q.a)).left=0:=by have:=h n;omega
 have:∀k,(∃j,j<=k/\(jO g n q ch j).left=0)->∃K,(jO g n q ch K).left=0/\∀j,j<K->(jO g n q ch j).left≠0:=by
  intro k
  induction k with
  | zero=>rintro⟨j,hj,h0⟩;obtain rfl:j=0:=by omega
          exact⟨0,h0,fun j h=>by omega⟩
  | succ k ih=>
    rintro⟨j,hj,h0⟩;by_cases hc:∃j,j<=k/\(jO g n q ch j).left=0
    ·exact ih hc
    ·exact⟨j,h0,fun t ht e=>hc ⟨t,by omega,e⟩⟩
 exact this _ ⟨_,ay _,hk⟩
theorem alr{g n:Nat}{q:List Nat}{ch:Nat->Nat->Nat}(hq:0<q.a)(hf:acO n q.a ch):∀j,(∀t,t<j->(jO g n q ch t).left≠0)->afb n q (jO g n q ch j)
 | 0,_=>⟨by simp[jO],by simp[jO],by simp[jO,I6,List.countP_replicate],fun j hj=>.a (by simp[jO,av,hj])⟩
 | j+1,h=>(alr hq hf j fun t ht=>h t (by omega)).Xo hf (h j (by omega)) (fH _ hq)
theorem acQ(n:Int):0<=I5 n/\I5 n<=1099511627776:=by unfold I5;(repeat' split)<;>omega
theorem als{P:eX}{f:FuncId}{args:Array aC}{w:au}{n:Nat}{v:aC}(h:aQ P f args (w.drewN n) fun e w'=>e=.a v/\w.drewN n=w'):aQ P f args (w.drewN n) fun e w''=>e=.a v/\∃m,w''=w.drewN m:=
 h.g fun _ _ ⟨he,hm⟩=>⟨he,n,hm.symm⟩
def Kz(v:Vector Int 6):Array aC:=(v.a.map fun n=>.b .a n).b
def DY(s seen now:Int)(v:Vector Int 6):Bool:=decide (s<1\/5<s\/v.a.c s.e 0<I5 now-I5 seen)
theorem aar(v:Vector Int 6)(k:Nat)(hk:k<6):(Kz v)[k]? = some (.b .a (v.a.c k 0)):=by
 simp[Kz,av,hk]
theorem aCL(a b:Nat)(ha:a<9223372036854775808):wrap64 ((a:Int)/(b:Int))=((a/b:Nat):Int):=by
 have:=Ku a b;rw[<-Int.natCast_ediv];generalize a/b=q at *;unfold wrap64;omega
section
variable (s seen now:Int) (v:Vector Int 6) (W:au)
theorem aiO:aQ aj 150 #[.b .a s,.b .a seen,.b .a now,.d (Kz v)] W (gy W (.e (DY s seen now v))):=by
 have HB:=ah ((aH W.a.j W).alloc (ay _) (.D (Kz v) 24));have t1:=ah (acQ now);have t2:=ah (acQ seen);have C1:=fun W=>acM now W
 have C2:=fun W=>acM seen W
 by_cases hs:s<1\/5<s
 ·have H:=ah (show DY s seen now v=true by simp[DY];omega)
  go_enter Tryz.func150,Tryz.ntmps150;go_wp2
  all_goals first|(go_ret;exact⟨by rw[H.i];rfl,HB.i⟩)|(exfalso;simp_all)
 ·obtain⟨k,rfl⟩:∃k:Nat,s=k:=⟨s.e,by omega⟩
  have h1:¬(k:Int)<1:=by omega
  have h2:¬(5:Int)<k:=by omega
  have hg:=aar v k (by omega);have hk:(k:Int)<6:=by omega
  have H:=ah (show DY k seen now v=decide (v.a.c k 0<I5 now-I5 seen)from decide_eq_decide.2 ⟨fun h=>(h.resolve_left h1).resolve_left h2,fun h=>.b (.b h)⟩);generalize I5 now=p at *;generalize I5 seen=q at *;generalize v.a.c k 0=z at *;have hpq:wrap64 (p-q)=p-q:=by have:=t1.i;have:=t2.i;unfold wrap64;omega
  clear hs;go_enter Tryz.func150,Tryz.ntmps150;go_wp2_with fail;go_quiet (first|(go_at_call 217;with_reducible refine als (C1 _))|(go_at_call 217;with_reducible refine als (C2 _)));go_wp2;go_ret;exact⟨by rw[H.i];rfl,fJ HB.i _⟩
theorem UE{n:Nat}(h:2<=n)(hall:∀e,2<=e->e*e<=n->n%e≠0):lK n=true:=by
 unfold lK;simp only[bB,fV,eG,nJ,decide_eq_true_eq];refine⟨h,fun d _=>?_⟩;by_cases h1:d<2
 ·exact .a (.a h1)
 ·by_cases h2:n<d*d
  ·exact .a (.b h2)
  ·exact .b (hall d (by omega) (by omega))
theorem Yj(n:Nat)(hn:n<=65537):aQ aj 81 #[.b .a n] W fun e W'=>e=.a (.e (lK n))/\W=W':=by
 go_enter Tryz.func81,Tryz.ntmps81;by_cases h2:n<2
 ·have h2':(n:Int)<2:=by omega
  have hp:=ah (show lK n=false by simp[lK];omega);go_wp2;go_ret;exact⟨by rw[hp.i];rfl,rfl⟩
 have h2':¬(n:Int)<2:=by omega
 go_wp2;go_loop [3] (fun s3=>∃d:Nat,2<=d/\d<=n+1/\s3=.b .a d/\∀e,2<=e->e<d->n%e≠0) (fun s3=>n+1-(intOf s3).e)
 case atStart=>exact⟨2,by omega,by omega,rfl,fun e h1 h2=>by omega⟩
 case round=>
  obtain⟨d,hd,hdn,rfl,hall⟩:=hrel;have HA:=ah hall;clear hall;have hd0:¬(d:Int)=0:=by omega
  have hq:=aCL n d (by omega);by_cases hle:d*d<=n
  ·have hle2:(d:Int)<=((n/d:Nat):Int):=by have:=(Nat.le_div_iff_mul_le (show 0<d by omega)).2 hle;omega
   by_cases hm:n%d=0
   ·have hm2:((n:Int)%(d:Int)==0)=true:=by rw[<-Ip,hm];rfl
    have H:=ah (show lK n=false by cases hp:lK n with
     | false=>rfl
     | true=>exact absurd hm (J5 hp hd hle))
    clear hle hm;go_wp2;go_ret;exact⟨by rw[H.i];rfl,rfl⟩
   ·have hm2:((n:Int)%(d:Int)==0)=false:=by rw[<-Ip,beq_eq_false_iff_ne];omega
    have HL:=ah (show d<n+1 by have:=Nat.le_mul_self d;omega);have HM:=ah hm;clear hle hm;go_wp2;go_round
    case rel=>exact⟨d+1,by omega,by have:=HL.i;omega,by go_num,fun e h1 h2=>by
     rcases aZ e d with h|h
     ·exact HA.i e h1 h
     ·rw[show e=d by omega];exact HM.i⟩
    case measure=>have:=HL.i;simp[intOf]<;>omega
  ·have hle2:¬(d:Int)<=((n/d:Nat):Int):=by have:=mt (Nat.le_div_iff_mul_le (show 0<d by omega)).1 hle;omega
   have H:=ah (show lK n=true from UE (by omega) fun e h1 h2=>HA.i e h1 (by
    rcases aZ e d with h|h
    ·exact h
    ·have:=gP h h;omega))
   clear hle;go_wp2;go_ret;exact⟨by rw[H.i];rfl,rfl⟩
theorem aas(n:Nat)(hn:n<=65537):aQ aj 69 #[.b .a n] W fun e W'=>e=.a (.e (lK n))/\W=W':=by
 go_enter Tryz.func69,Tryz.ntmps69;by_cases h2:n<2
 ·have h2':(n:Int)<2:=by omega
  have hp:=ah (show lK n=false by simp[lK];omega);go_wp2;go_ret;exact⟨by rw[hp.i];rfl,rfl⟩
 have h2':¬(n:Int)<2:=by omega
 go_wp2;go_loop [3] (fun s3=>∃d:Nat,2<=d/\d<=n+1/\s3=.b .a d/\∀e,2<=e->e<d->n%e≠0) (fun s3=>n+1-(intOf s3).e)
 case atStart=>exact⟨2,by omega,by omega,rfl,fun e h1 h2=>by omega⟩
 case round=>
  obtain⟨d,hd,hdn,rfl,hall⟩:=hrel;have HA:=ah hall;clear hall;have hd0:¬(d:Int)=0:=by omega
  have hq:wrap64 ((d:Int)*(d:Int))=((d*d:Nat):Int):=by
   have h1:d*d<=4295229444:=aP (gP (show d<=65538 by omega) (show d<=65538 by omega)) (by decide);rw[<-Int.natCast_mul];generalize d*d=q at h1 ⊢;unfold wrap64;omega
  by_cases hle:d*d<=n
  ·have hle2:((d*d:Nat):Int)<=(n:Int):=by omega
   by_cases hm:n%d=0
   ·have hm2:((n:Int)%(d:Int)==0)=true:=by rw[<-Ip,hm];rfl
    have H:=ah (show lK n=false by cases hp:lK n with
     | false=>rfl
     | true=>exact absurd hm (J5 hp hd hle))
    clear hle hm;go_wp2;go_ret;exact⟨by rw[H.i];rfl,rfl⟩
   ·have hm2:((n:Int)%(d:Int)==0)=false:=by rw[<-Ip,beq_eq_false_iff_ne];omega
    have HL:=ah (show d<n+1 by have:=Nat.le_mul_self d;omega);have HM:=ah hm;clear hle hm;go_wp2;go_round
    case rel=>exact⟨d+1,by omega,by have:=HL.i;omega,by go_num,fun e h1 h2=>by
     rcases aZ e d with h|h
     ·exact HA.i e h1 h
     ·rw[show e=d by omega];exact HM.i⟩
    case measure=>have:=HL.i;simp[intOf]<;>omega
  ·have hle2:¬((d*d:Nat):Int)<=(n:Int):=by omega
   have H:=ah (show lK n=true from UE (by omega) fun e h1 h2=>HA.i e h1 (by
    rcases aZ e d with h|h
    ·exact h
    ·have:=gP h h;omega))
   clear hle;go_wp2;go_ret;exact⟨by rw[H.i];rfl,rfl⟩
end
section
variable {α κ:Type} [DecidableEq κ] (kf:α->κ) (hm:κ->Nat)
def yJ(N z c:Nat):Nat:=(z+c)%N
theorem By{N z c:Nat}(h:0<N):yJ N z c<N:=fH _ h
theorem wJ{N a:Nat}(h:a<2*N):a%N=if a<N then a else a-N:=by
 split
 ·exact fP ‹_›
 ·rw[Nat.mod_eq_sub_mod (by omega),fP (by omega)]
theorem LH{N z c:Nat}(hz:z<N)(hc:c<N):yJ N z c=if z+c<N then z+c else z+c-N:=wJ (by omega)
def yK(N z i:Nat):Nat:=if z<=i then i-z else i+N-z
theorem Bz{N z i:Nat}(hz:z<N)(hi:i<N):yK N z i<N:=by unfold yK;split<;>omega
theorem wK{N z i:Nat}(hz:z<N)(hi:i<N):yJ N z (yK N z i)=i:=by
 rw[LH hz (Bz hz hi)];unfold yK;split<;>split<;>omega
theorem M7{N z c:Nat}(hz:z<N)(hc:c<N):yK N z (yJ N z c)=c:=by
 rw[LH hz hc];unfold yK;split<;>split<;>omega
theorem J6{N z c d:Nat}(hz:z<N)(hc:c<N)(hd:d<N)(h:yJ N z c=yJ N z d):c=d:=by
 rw[<-M7 hz hc,<-M7 hz hd,h]
def fG(s:List (Option α))(i:Nat):Option α:=s.c i none
theorem Gh(s:List (Option α))(i j:Nat)(v:Option α)(hi:i<s.a):fG (s.set i v) j=if i=j then v else fG s j:=by
 unfold fG;rw[av,av,fI];by_cases h:i=j
 ·subst h;simp[hi]
 ·simp[h]
def Lin(s:List (Option α))(z:Nat):Prop:=∀c x,c<s.a->fG s (yJ s.a z c)=some x ->
 yK s.a z (hm (kf x))<=c/\∀q,yK s.a z (hm (kf x))<=q->q<c->fG s (yJ s.a z q)≠none
structure Tab(s:List (Option α)):Prop where
 hom:∀k,hm k<s.a
 lin:∃z,z<s.a/\fG s z=none/\Lin kf hm s z
 uni:∀i j x y,i<s.a->j<s.a->fG s i=some x->fG s j=some y->kf x=kf y->i=j
def stops(s:List (Option α))(k:κ)(i:Nat):Bool:=match fG s i with|none=>true|some x=>decide (kf x=k)
variable {kf hm} {s:List (Option α)}
theorem Lin.atm(h0:∀k,hm k<s.a){z z':Nat}(hz:z<s.a)(hf:fG s z=none)(h:Lin kf hm s z)(hz':z'<s.a)(hf':fG s z'=none):Lin kf hm s z':=by
 intro c x hc hx;have hi:=By (N:=s.a) (z:=z') (c:=c) (by omega);generalize hI:yJ s.a z' c=i at hx hi;have hc2:c=yK s.a z' i:=by rw[<-hI,M7 hz' hc]
 subst hc2;have hh:=h0 (kf x);obtain⟨h1,h2⟩:=h (yK s.a z i) x (Bz hz hi) (by rw[wK hz hi];exact hx);have hne:i≠z':=by rintro rfl;rw[hf']at hx;cases hx
 have hno:¬(yK s.a z (hm (kf x))<=yK s.a z z'/\yK s.a z z'<yK s.a z i):=fun⟨a,b⟩=>
  h2 _ a b (by rw[wK hz hz'];exact hf')
 have hne2:i≠z:=by rintro rfl;rw[hf]at hx;cases hx
 generalize hm (kf x)=y at *;have e1:yK s.a z' y<=yK s.a z' i:=by
  revert hno h1
  unfold yK
  repeat' split
  all_goals omega
 refine⟨e1,fun q hq1 hq2=>?_⟩;have hqN:q<s.a:=Nat.lt_trans hq2 (Bz hz' hi);have hj:=By (N:=s.a) (z:=z') (c:=q) (by omega);generalize hJ:yJ s.a z' q=j at hj;have hq3:q=yK s.a z' j:=by rw[<-hJ,M7 hz' hqN]
 subst hq3
 have:=h2 (yK s.a z j) (by revert hno h1 hq1 hq2;unfold yK;repeat' split
                           all_goals omega) (by revert hno h1 hq1 hq2;unfold yK;repeat' split
                                                all_goals omega)
 rwa [wK hz hj]at this
def Found(hm:κ->Nat)(kf:α->κ)(s:List (Option α))(k:κ)(d:Nat):Prop:=d<s.a/\stops (kf:=kf) s k ((hm k+d)%s.a)=true/\∀t,t<d->stops (kf:=kf) s k ((hm k+t)%s.a)=false
theorem M8{N z y q:Nat}(hz:z<N)(hy:y<N)(h1:yK N z y<=q)(hq:q<N):yJ N z q=(y+(q-yK N z y))%N:=by
 rw[LH hz hq,wJ (by unfold yK at *;split at h1<;>omega)];unfold yK at *
 repeat' split
 all_goals(try split at h1)
 all_goals omega
theorem Tab.aat(h:Tab kf hm s){k:κ}{j:Nat}{x:α}(hj:j<s.a)(hx:fG s j=some x)(hk:kf x=k):∃d,Found hm kf s k d/\(hm k+d)%s.a=j:=by
 obtain⟨z,hz,hf,hl⟩:=h.lin;obtain⟨h1,h2⟩:=hl (yK s.a z j) x (Bz hz hj) (by rw[wK hz hj];exact hx);rw[hk]at h1 h2;have hy:=h.hom k;have hcj:=Bz hz hj;have ej:(hm k+(yK s.a z j-yK s.a z (hm k)))%s.a=j:=by rw[<-M8 hz hy h1 hcj,wK hz hj]
 refine⟨yK s.a z j-yK s.a z (hm k),⟨by omega,?_,fun t ht=>?_⟩,ej⟩
 ·rw[ej];simp[stops,hx,hk]
 ·have hq:yK s.a z (hm k)+t<yK s.a z j:=by omega
  have:=h2 (yK s.a z (hm k)+t) (by omega) hq;have e:=M8 hz hy (q:=yK s.a z (hm k)+t) (by omega) (by omega);rw[show yK s.a z (hm k)+t-yK s.a z (hm k)=t by omega]at e;rw[e]at this;cases hw:fG s ((hm k+t)%s.a)with
  | none=>exact absurd hw this
  | some y=>
    simp only[stops,hw,decide_eq_false_iff_not];intro hky;have hlt:(hm k+t)%s.a<s.a:=fH _ (by omega);have:=h.uni _ _ _ _ hlt hj hw hx (by rw[hky,hk]);rw[<-e,<-wK hz hj]at this;have:=J6 hz (by omega) hcj this;omega
theorem Tab.aha(h:Tab kf hm s){k:κ}(hno:∀j x,j<s.a->fG s j=some x->kf x≠k):∃d,Found hm kf s k d/\fG s ((hm k+d)%s.a)=none:=by
 obtain⟨z,hz,hf,hl⟩:=h.lin;have hy:=h.hom k;have hN:0<s.a:=by omega
 have st:∀i,i<s.a->(stops (kf:=kf) s k i=true↔fG s i=none):=by
  intro i hi;unfold stops;cases hw:fG s i with
  | none=>simp
  | some x=>simpa using hno i x hi hw
 have ex:∃d,d<s.a/\stops (kf:=kf) s k ((hm k+d)%s.a)=true:=by
  have hd:(hm k+(if hm k<=z then z-hm k else z+s.a-hm k))%s.a=z:=by
   rw[wJ (by split<;>omega)];repeat' split
   all_goals omega
  refine⟨if hm k<=z then z-hm k else z+s.a-hm k,by split<;>omega,?_⟩;rw[hd,st z hz];exact hf
 have least:∀n,(∃d,d<n/\d<s.a/\stops (kf:=kf) s k ((hm k+d)%s.a)=true)->∃d,d<s.a/\stops (kf:=kf) s k ((hm k+d)%s.a)=true/\∀t,t<d->stops (kf:=kf) s k ((hm k+t)%s.a)=false:=by
  intro n
  induction n with
  | zero=>rintro⟨d,hd,_⟩;omega
  | succ n ih=>
    rintro⟨d,hd,hd2,hd3⟩;by_cases hc:∃d,d<n/\d<s.a/\stops (kf:=kf) s k ((hm k+d)%s.a)=true
    ·exact ih hc
    ·refine⟨d,hd2,hd3,fun t ht=>?_⟩
     cases hs:stops (kf:=kf) s k ((hm k+t)%s.a)with
     | false=>rfl
     | true=>exact absurd ⟨t,by omega,by omega,hs⟩ hc
 obtain⟨d,hd⟩:=ex;obtain⟨e,e1,e2,e3⟩:=least s.a ⟨d,hd.1,hd.1,hd.2⟩;exact⟨e,⟨e1,e2,e3⟩,(st _ (fH _ hN)).1 e2⟩
theorem Found.Ih{k:κ}{d e:Nat}(h:Found hm kf s k d)(g:Found hm kf s k e):d=e:=by
 rcases Nat.lt_trichotomy d e with h1|h1|h1
 ·have:=g.2.2 d h1;rw[h.2.1]at this;cases this
 ·exact h1
 ·have:=h.2.2 e h1;rw[g.2.1]at this;cases this
theorem Tab.found(h:Tab kf hm s)(k:κ):∃d,Found hm kf s k d:=by
 by_cases hc:∃j x,j<s.a/\fG s j=some x/\kf x=k
 ·obtain⟨j,x,h1,h2,h3⟩:=hc
  obtain⟨d,hd,_⟩:=h.aat h1 h2 h3;exact⟨d,hd⟩
 ·obtain⟨d,hd,_⟩:=h.aha (k:=k) (fun j x h1 h2 h3=>hc ⟨j,x,h1,h2,h3⟩)
  exact⟨d,hd⟩
theorem Tab.put(h:Tab kf hm s){x:α}{d:Nat}(hd:Found hm kf s (kf x) d){z':Nat}(hz':z'<s.a)(hfree:fG s z'=none)(hne:z'≠(hm (kf x)+d)%s.a):
 Tab kf hm (s.set ((hm (kf x)+d)%s.a) (some x)):=by
 obtain⟨z,hz,hf,hl⟩:=h.lin;have hl:=hl.atm h.hom hz hf hz' hfree;have hy:=h.hom (kf x);have hN:0<s.a:=by omega
 have hj:(hm (kf x)+d)%s.a<s.a:=fH _ hN;have hstop:=hd.2.1;have hbef:=hd.2.2;have hdl:=hd.1;generalize hJ:(hm (kf x)+d)%s.a=j at *;refine⟨by simpa using h.hom,⟨z',by simpa using hz',by rw[Gh _ _ _ _ hj,if_neg (jy hne)];exact hfree,?_⟩,?_⟩
 ·intro c y hc hyc
  simp only[aW]at hc hyc ⊢;have hkeep:∀q,fG s (yJ s.a z' q)≠none->fG (s.set j (some x)) (yJ s.a z' q)≠none:=by
   intro q hq;rw[Gh _ _ _ _ hj];split
   ·simp
   ·exact hq
  rw[Gh _ _ _ _ hj]at hyc;split at hyc
  ·rename_i hjc
   injection hyc with hyc;subst hyc
   have hcj:c=yK s.a z' j:=by rw[hjc,M7 hz' hc]
   have arU:∀t,t<d->fG s ((hm (kf x)+t)%s.a)≠none:=by
    intro t ht hn;have:=hbef t ht;simp[stops,hn]at this
   have hzd:∀t,t<=d->(hm (kf x)+t)%s.a≠z':=by
    intro t ht e;rcases aZ t d with h1|h1
    ·exact arU t h1 (by rw[e];exact hfree)
    ·have:t=d:=by omega
     subst this;rw[hJ]at e;exact hne e.symm
   have hle:yK s.a z' (hm (kf x))+d<s.a:=by
    rcases aZ (yK s.a z' (hm (kf x))+d) s.a with h1|h1
    ·exact h1
    ·exfalso
     have hlt:=Bz hz' hy;refine hzd (s.a-yK s.a z' (hm (kf x))) (by omega) ?_;rw[wJ (by omega)];unfold yK at *
     repeat' split
     all_goals(repeat' split at *)
     all_goals omega
   have e1:yJ s.a z' (yK s.a z' (hm (kf x))+d)=j:=by
    rw[M8 hz' hy (by omega) hle,<-hJ];congr 2;omega
   have e2:c=yK s.a z' (hm (kf x))+d:=J6 hz' hc hle (by rw[e1,<-hjc]);refine⟨by omega,fun q h1 h2=>hkeep q ?_⟩;rw[M8 hz' hy h1 (by omega)];exact arU _ (by omega)
  ·obtain⟨a,b⟩:=hl c y hc hyc
   exact⟨a,fun q h1 h2=>hkeep q (b q h1 h2)⟩
 ·intro i k y w hi hk hyi hwk he
  simp only[aW]at hi hk;rw[Gh _ _ _ _ hj]at hyi hwk;have key:∀k w,k<s.a->fG s k=some w->kf w=kf x->k=j:=by
   intro k w hk hw he;obtain⟨e,he1,he2⟩:=h.aat hk hw he;have:=he1.Ih hd;subst this;rw[<-he2,hJ]
  split at hyi<;>split at hwk
  ·omega
  ·injection hyi with hyi;subst hyi
   have:=key k w hk hwk he.symm;omega
  ·injection hwk with hwk;subst hwk
   have:=key i y hi hyi he;omega
  ·exact h.uni i k y w hi hk hyi hwk he
def iB(s:List (Option α)):List α:=s.filterMap id
theorem zi(s:List (Option α)):∀(i:Nat)(x:α),i<s.a->(iB (s.set i (some x))).Perm (x::iB (s.set i none)):=by
 induction s with
 | nil=>intro i x h;simp at h
 | cons a s ih=>
   intro i x h;cases i with
   | zero=>simp[iB]
   | succ i=>
     have:=ih i x (by simpa using h);cases a with
     | none=>simpa[iB]using this
     | some a=>
       simp only[iB,bI,List.filterMap_cons,id]at this ⊢;exact(this.cons a).trans (List.Perm.swap x a _)
theorem acR(s:List (Option α))(i:Nat)(hi:i<s.a):s.set i (fG s i)=s:=by
 apply iN;intro j;rw[fI];split
 ·rename_i h;subst h;simp[hi,fG]
 ·rfl
theorem Ph(s:List (Option α))(i:Nat)(x:α)(hi:i<s.a)(hx:fG s i=some x):(iB s).Perm (x::iB (s.set i none)):=by
 have:=zi s i x hi
 rwa [<-hx,acR s i hi]at this
theorem LJ(s:List (Option α))(i:Nat)(x:α)(hi:i<s.a)(hx:fG s i=none):(iB (s.set i (some x))).Perm (x::iB s):=by
 have:=zi s i x hi
 rwa [<-hx,acR s i hi]at this
theorem Pj{s:List (Option α)}{x:α}:x∈iB s↔∃i,i<s.a/\fG s i=some x:=by
 simp only[iB,List.mem_filterMap,id];constructor
 ·rintro⟨a,h1,rfl⟩
  obtain⟨i,hi,he⟩:=List.mem_iff_getElem.1 h1;exact⟨i,hi,by simp[fG,av,hi,he]⟩
 ·rintro⟨i,hi,he⟩
  refine⟨some x,?_,rfl⟩;rw[<-he];simp only[fG,av,aD hi,jE];exact eY hi
theorem alu(s:List (Option α)):(iB s).a<=s.a:=List.length_filterMap_le _ _
theorem LK(s:List (Option α)):(iB s).a<s.a↔∃i,i<s.a/\fG s i=none:=by
 induction s with
 | nil=>simp[iB]
 | cons a s ih=>
   cases a with
   | none=>exact⟨fun _=>⟨0,by simp,by simp[fG]⟩,fun _=>by have:=alu s;simp[iB]at this⊢;omega⟩
   | some a=>
     have:(iB (some a::s)).a=(iB s).a+1:=by simp[iB]
     rw[this,bD];constructor
     ·intro h
      obtain⟨i,h1,h2⟩:=ih.1 (by omega);exact⟨i+1,by omega,by simpa[fG]using h2⟩
     ·rintro⟨i,h1,h2⟩
      cases i with
      | zero=>simp[fG]at h2
      | succ i=>
        have:=ih.2 ⟨i,by omega,by simpa[fG]using h2⟩;omega
structure Xp(kf:α->κ)(hm:κ->Nat)(z:Nat)(s:List (Option α))(a c:Nat)(L:List α):Prop where
 hom:∀k,hm k<s.a
 hz:z<s.a
 free:fG s z=none
 a0:0<a
 ac:a<c
 cN:c<=s.a
 lin:∀e x,e<s.a->e≠a->fG s (yJ s.a z e)=some x->yK s.a z (hm (kf x))<=e/\∀q,yK s.a z (hm (kf x))<=q->q<e->(q≠a->fG s (yJ s.a z q)≠none)/\(q=a->c<=e)
 acS:∀q,a<q->q<c->fG s (yJ s.a z q)≠none
 uni:∀d e x y,d<s.a->e<s.a->d≠a->e≠a->fG s (yJ s.a z d)=some x->fG s (yJ s.a z e)=some y->kf x=kf y->d=e
 Pm:(iB (s.set (yJ s.a z a) none)).Perm L
theorem Tab.aCM(h:Tab kf hm s){j:Nat}{x:α}(hj:j<s.a)(hx:fG s j=some x):∃z a,Xp kf hm z s a (a+1) (iB (s.set j none))/\yJ s.a z a=j:=by
 obtain⟨z,hz,hf,hl⟩:=h.lin;have hne:j≠z:=by rintro rfl;rw[hf]at hx;cases hx
 have hlt:=Bz hz hj;have ej:=wK hz hj;refine⟨z,yK s.a z j,⟨h.hom,hz,hf,?_,by omega,by omega,?_,fun q h1 h2=>absurd h1 (by omega),?_,?_⟩,ej⟩
 ·unfold yK;split<;>omega
 ·intro e y he hea hy
  obtain⟨h1,h2⟩:=hl e y he hy;exact⟨h1,fun q h3 h4=>⟨fun _=>h2 q h3 h4,fun h5=>by omega⟩⟩
 ·intro d e y w hd he hda hea hy hw hk
  exact J6 hz hd he (h.uni _ _ y w (By (by omega)) (By (by omega)) hy hw hk)
 ·rw[ej]
theorem UF{s:List (Option α)}{z a e:Nat}(hz:z<s.a)(ha:a<s.a)(he:e<s.a)(v:Option α):fG (s.set (yJ s.a z a) v) (yJ s.a z e)=if a=e then v else fG s (yJ s.a z e):=by
 rw[Gh _ _ _ _ (By (by omega))];by_cases h:a=e
 ·subst h;simp
 ·rw[if_neg h,if_neg (fun e2=>h (J6 hz ha he e2))]
theorem Xp.aCN{z a c:Nat}{L:List α}{x:α}(h:Xp kf hm z s a c L)(hc:c<s.a)(hx:fG s (yJ s.a z c)=some x)(hlt:a<yK s.a z (hm (kf x))):Xp kf hm z s a (c+1) L:=by
 refine⟨h.hom,h.hz,h.free,h.a0,by have:=h.ac;omega,by omega,?_,?_,h.uni,h.Pm⟩
 ·intro e y he hea hy
  obtain⟨h1,h2⟩:=h.lin e y he hea hy;refine⟨h1,fun q h3 h4=>⟨(h2 q h3 h4).1,fun h5=>?_⟩⟩;have:=(h2 q h3 h4).2 h5;rcases aZ c e with h6|h6
  ·omega
  ·have:e=c:=by omega
   subst this;rw[hx]at hy;injection hy with hy;subst hy
   omega
 ·intro q h1 h2
  rcases aZ q c with h3|h3
  ·exact h.acS q h1 h3
  ·have:q=c:=by omega
   subst this;rw[hx];simp
theorem Xp.move{z a c:Nat}{L:List α}{x:α}(h:Xp kf hm z s a c L)(hc:c<s.a)(hx:fG s (yJ s.a z c)=some x)(hle:yK s.a z (hm (kf x))<=a):Xp kf hm z (s.set (yJ s.a z a) (some x)) c (c+1) L:=by
 have ha:a<s.a:=by have:=h.ac;omega
 have hac:=h.ac;have hz:=h.hz;have ca:∀e,e<s.a->∀v:Option α,fG (s.set (yJ s.a z a) v) (yJ s.a z e)=if a=e then v else fG s (yJ s.a z e):=fun e he v=>UF hz ha he v
 have z0:yJ s.a z 0=z:=by rw[LH hz (by omega)];split<;>omega
 refine⟨by simpa using h.hom,by simpa using hz,?_,by omega,by omega,by simp;omega,?_,?_,?_,?_⟩
 ·have:=ca 0 (by omega) (some x)
  rw[z0,if_neg (by have:=h.a0;omega)]at this;rw[this];exact h.free
 ·intro e y he hec hy
  simp only[aW]at he hy ⊢;rw[ca e he]at hy;split at hy
  ·rename_i hae
   injection hy with hy;subst hy;subst hae
   refine⟨hle,fun q h3 h4=>⟨fun h5=>?_,fun h5=>by omega⟩⟩;rw[ca q (by omega),if_neg (by omega)];exact((h.lin c x hc (by omega) hx).2 q h3 (by omega)).1 (by omega)
  ·rename_i hae
   obtain⟨h1,h2⟩:=h.lin e y he (jy hae) hy;refine⟨h1,fun q h3 h4=>⟨fun h5=>?_,fun h5=>by omega⟩⟩;rw[ca q (by omega)];split
   ·simp
   ·exact(h2 q h3 h4).1 (by omega)
 ·intro q h1 h2;omega
 ·intro d e y w hd he hda hea hy hw hk
  simp only[aW]at hd he hy hw;rw[ca d hd]at hy;rw[ca e he]at hw;split at hy<;>split at hw
  ·omega
  ·injection hy with hy;subst hy
   have:=h.uni c e x w hc he (by omega) (by omega) hx hw hk;omega
  ·injection hw with hw;subst hw
   have:=h.uni d c y x hd hc (by omega) (by omega) hy hx hk;omega
  ·exact h.uni d e y w hd he (by omega) (by omega) hy hw hk
 ·have h1:=h.Pm
  have hci:=By (N:=s.a) (z:=z) (c:=c) (by omega);have hai:=By (N:=s.a) (z:=z) (c:=a) (by omega);have hne:yJ s.a z a≠yJ s.a z c:=fun e=>by have:=J6 hz ha hc e;omega
  simp only[aW];rw[List.set_comm _ _ hne];refine List.Perm.trans (zi _ _ x (by simpa using hai)) ?_;rw[List.set_comm _ _ (jy hne)];refine List.Perm.trans (List.Perm.symm (Ph (s.set (yJ s.a z a) none) _ x (by simpa using hci) ?_)) h1;rw[ca c hc,if_neg (by omega)];exact hx
theorem Xp.done{z a c:Nat}{L:List α}(h:Xp kf hm z s a c L)(hc:fG s (yJ s.a z c)=none):Tab kf hm (s.set (yJ s.a z a) none)/\(iB (s.set (yJ s.a z a) none)).Perm L:=by
 have hcN:=h.cN;have hac:=h.ac;have ha:a<s.a:=by omega
 have hz:=h.hz;have ca:∀e,e<s.a->∀v:Option α,fG (s.set (yJ s.a z a) v) (yJ s.a z e)=if a=e then v else fG s (yJ s.a z e):=fun e he v=>UF hz ha he v
 have z0:yJ s.a z 0=z:=by rw[LH hz (by omega)];split<;>omega
 refine⟨⟨by simpa using h.hom,⟨z,by simpa using hz,?_,?_⟩,?_⟩,h.Pm⟩
 ·have:=ca 0 (by omega) none
  rw[z0]at this;rw[this];split
  ·rfl
  ·exact h.free
 ·intro e y he hy
  simp only[aW]at he hy ⊢;rw[ca e he]at hy;split at hy
  ·cases hy
  ·rename_i hae
   obtain⟨h1,h2⟩:=h.lin e y he (jy hae) hy;refine⟨h1,fun q h3 h4=>?_⟩;rw[ca q (by omega)];have hqa:a≠q:=by
    intro hq;have h5:=(h2 q h3 h4).2 hq.symm;rcases aZ c e with h6|h6
    ·exact(h2 c (by omega) h6).1 (by omega) hc
    ·have:e=c:=by omega
     subst this;rw[hc]at hy;cases hy
   rw[if_neg hqa];exact(h2 q h3 h4).1 (jy hqa)
 ·intro i k y w hi hk hy hw he
  simp only[aW]at hi hk;rw[<-wK hz hi,ca _ (Bz hz hi)]at hy;rw[<-wK hz hk,ca _ (Bz hz hk)]at hw;split at hy
  ·cases hy
  ·split at hw
   ·cases hw
   ·have:=h.uni _ _ y w (Bz hz hi) (Bz hz hk) (by omega) (by omega) hy hw he
    rw[<-wK hz hi,<-wK hz hk,this]
theorem acT{N z c d:Nat}(hz:z<N)(hd:d<=c)(hc:c<N):(yJ N z c+N-yJ N z d)%N=c-d:=by
 have h1:=By (N:=N) (z:=z) (c:=c) (by omega);have h2:=By (N:=N) (z:=z) (c:=d) (by omega);rw[wJ (by omega)];rw[LH hz hc,LH hz (by omega)]
 repeat' split
 all_goals omega
theorem aiP{N z c y:Nat}(hz:z<N)(hy:y<N)(hd:yK N z y<=c)(hc:c<N):(yJ N z c+N-y)%N=c-yK N z y:=by
 have:=acT hz hd hc
 rwa [wK hz hy]at this
theorem acU{N z c:Nat}(hz:z<N)(hc:c<N):(yJ N z c+1)%N=yJ N z (c+1):=by unfold yJ;rw[Nat.mod_add_mod,nG]
theorem Tab.new{N:Nat}(hN:0<N)(h:∀k,hm k<N):Tab kf hm (eu N (none:Option α)):=by
 have e:∀i,fG (eu N (none:Option α)) i=none:=by
  intro i;unfold fG;rw[av,List.getElem?_replicate];split<;>rfl
 refine⟨by simpa using h,⟨0,by simpa using hN,e 0,fun c x _ hx=>?_⟩,fun i j x y _ _ hx=>?_⟩<;>(rw[e]at hx;cases hx)
theorem UG(N:Nat):iB (eu N (none:Option α))=[]:=by induction N<;>simp_all[iB,List.replicate_succ]
end
section
variable {α:Type} (lt:α->α->Bool)
def Asc(l:List α):Prop:=l.Pairwise fun x y=>lt x y=true
structure I7:Prop where
 irr:∀x,lt x x=false
 tr:∀x y z,lt x y=true->lt y z=true->lt x z=true
variable {lt}
theorem I7.asy(h:I7 lt){x y:α}(h1:lt x y=true):lt y x=false:=by
 cases h2:lt y x with
 | false=>rfl
 | true=>have:=h.tr _ _ _ h1 h2;rw[h.irr]at this;cases this
theorem Asc.eq(h:I7 lt):∀{l m:List α},Asc lt l->Asc lt m->l.Perm m->l=m
 | [],m,_,_,p=>(List.Perm.nil_eq p)
 | x::l,[],_,_,p=>by simp at p
 | x::l,y::m,hl,hm,p=>by
   obtain⟨a1,a2⟩:=gU.1 hl;obtain⟨b1,b2⟩:=gU.1 hm;have hx:x∈y::m:=p.subset (by simp);have hy:y∈x::l:=p.symm.subset (by simp);have e:x=y:=by
    rcases bE.1 hx with hx|hx
    ·exact hx
    ·rcases bE.1 hy with hy|hy
     ·exact hy.symm
     ·have:=h.asy (a1 y hy);rw[b1 x hx]at this;cases this
   subst e;rw[Asc.eq h a2 b2 (List.Perm.cons_inv p)]
def ins(lt:α->α->Bool)(f:α):List α->List α
 | []=>[f]
 | x::l=>if lt f x then f::x::l else x::ins lt f l
theorem BF(f:α):∀l:List α,(ins lt f l).Perm (f::l)
 | []=>.refl _
 | x::l=>by
   unfold ins;split
   ·exact .refl _
   ·exact((BF f l).cons x).trans (.swap f x l)
theorem ahb(h:I7 lt){f:α}:∀{l:List α},Asc lt l->(∀x∈l,lt f x=true\/lt x f=true)->Asc lt (ins lt f l)
 | [],_,_=>by simp[ins,Asc]
 | x::l,hl,ht=>by
   obtain⟨a1,a2⟩:=gU.1 hl;unfold ins;split
   ·rename_i hfx
    exact gU.2 ⟨fun y hy=>by
     rcases bE.1 hy with rfl|hy
     ·exact hfx
     ·exact h.tr _ _ _ hfx (a1 y hy),hl⟩
   ·rename_i hfx
    have hxf:lt x f=true:=(ht x (by simp)).resolve_left hfx;refine gU.2 ⟨fun y hy=>?_,ahb h a2 fun y hy=>ht y (by simp[hy])⟩;rcases bE.1 ((BF f l).subset hy)with rfl|hy
    ·exact hxf
    ·exact a1 y hy
theorem acV{f:α}:∀{l:List α},(∀x∈l,lt f x=false)->ins lt f l=l++[f]
 | [],_=>rfl
 | x::l,h=>by
   unfold ins;rw[if_neg (by rw[h x (by simp)];exact Bool.false_ne_true),acV fun y hy=>h y (by simp[hy])];rfl
theorem Asc.sub{l m:List α}(h:Asc lt l)(hs:m.Sublist l):Asc lt m:=List.Pairwise.sublist hs h
theorem Asc.ao9{x:α}{l:List α}(h:Asc lt (x::l)){y:α}(hy:y∈l):lt x y=true:=(gU.1 h).1 y hy
def least(lt:α->α->Bool)(b:Option α)(x:α):Option α:=match b with|none=>some x|some y=>if lt x y then some x else some y
theorem acW(h:I7 lt){m:α}:∀(l:List α)(b:Option α),(m∈l\/b=some m)->(∀x∈l,x=m\/lt m x=true)->(∀y,b=some y->y=m\/lt m y=true)->l.foldl (least lt) b=some m
 | [],b,h1,_,_=>by simpa using h1
 | x::l,b,h1,h2,h3=>by
   rw[jW];refine acW h l _ ?_ (fun y hy=>h2 y (by simp[hy])) ?_
   ·rcases h1 with h1|rfl
    ·rcases bE.1 h1 with rfl|h1
     ·right
      cases b with
      | none=>rfl
      | some y=>
        unfold least;rcases h3 y rfl with rfl|h4
        ·simp
        ·simp[h4]
     ·exact .a h1
    ·right
     unfold least;rcases h2 x (by simp)with rfl|h4
     ·simp
     ·simp[h.asy h4]
   ·intro y hy
    cases b with
    | none=>injection hy with hy;subst hy;exact h2 x (by simp)
    | some z=>
      simp only[least]at hy;split at hy<;>(injection hy with hy;subst hy)
      ·exact h2 x (by simp)
      ·exact h3 z rfl
end
def LM(x k:Nat):Nat:=x*2^k%18446744073709551616 ||| x/2^(64-k)
theorem axP(a b:Nat)(ha:a<18446744073709551616)(hb:b<18446744073709551616):a ||| b<18446744073709551616:=Nat.or_lt_two_pow (n:=64) ha hb
theorem xY(a b:Nat)(ha:a<18446744073709551616)(hb:b<18446744073709551616):a ^^^ b<18446744073709551616:=Nat.xor_lt_two_pow (n:=64) ha hb
theorem ao'(x k:Nat)(hx:x<18446744073709551616):LM x k<18446744073709551616:=axP _ _ (fH _ (by decide)) (Nat.lt_of_le_of_lt (Ku _ _) hx)
theorem acX(n:Nat):jB.wrap (n:Int)=((n%18446744073709551616:Nat):Int):=by
 rw[jT];omega
theorem aiQ(x k:Nat)(hx:x<18446744073709551616):bits .or .c (jB.wrap ((x:Int)*2^k)) ((x:Int)/2^(64-k))=((LM x k:Nat):Int):=by
 have h1:(x:Int)*2^k=((x*2^k:Nat):Int):=by simp
 have h2:(x:Int)/2^(64-k)=((x/2^(64-k):Nat):Int):=by simp
 rw[h1,h2,acX,bits_or_u64_nat _ _ (fH _ (by decide)) (Nat.lt_of_le_of_lt (Ku _ _) hx)];rfl
theorem EH(x k:Nat)(hx:x<18446744073709551616)(hk:k∈[13,16,17,21,32])(W:au):aQ aj 254 #[.b .c x,.b .a k] W fun e W'=>e=.a (.b .c (LM x k:Nat))/\W=W':=by
 have h:=aiQ x k hx;have H1:bits .and .c (k:Int) 63=(k:Int):=(by decide +kernel:∀k∈([13,16,17,21,32]:List Nat),bits .and .c (k:Int) 63=(k:Int)) k hk;have H2:jB.wrap (64-(k:Int))=((64-k:Nat):Int):=(by decide +kernel:∀k∈([13,16,17,21,32]:List Nat),jB.wrap (64-(k:Int))=((64-k:Nat):Int)) k hk;have hk1:(k:Int)<64:=by simp at hk;omega
 have hk2:0<k:=by simp at hk;omega
 go_enter Tryz.func254,Tryz.ntmps254;go_wp2;go_ret;exact⟨by rw[<-h];rfl,rfl⟩
structure S4 where
 a:Nat
 b:Nat
 c:Nat
 d:Nat
def S4.aA(s:S4):Array aC:=#[.b .c s.a,.b .c s.b,.b .c s.c,.b .c s.d]
@[go_sem]theorem S4.qG(s:S4):s.aA[0]? = some (.b .c s.a):=rfl
@[go_sem]theorem S4.Ev(s:S4):s.aA[1]? = some (.b .c s.b):=rfl
@[go_sem]theorem S4.Uj(s:S4):s.aA[2]? = some (.b .c s.c):=rfl
@[go_sem]theorem S4.acY(s:S4):s.aA[3]? = some (.b .c s.d):=rfl
def S4.ok(s:S4):Prop:=s.a<18446744073709551616/\s.b<18446744073709551616/\s.c<18446744073709551616/\s.d<18446744073709551616
def addN(a b:Nat):Nat:=(a+b)%18446744073709551616
def KD(s:S4):S4:=
 let a:=addN s.a s.b
 let b:=LM s.b 13 ^^^ a
 let a:=LM a 32
 let c:=addN s.c s.d
 let d:=LM s.d 16 ^^^ c
 let a:=addN a d
 let d:=LM d 21 ^^^ a
 let c:=addN c b
 let b:=LM b 17 ^^^ c
 ⟨a,b,LM c 32,d⟩
theorem apa(a b:Nat):addN a b<18446744073709551616:=fH _ (by decide)
theorem Gi(a b:Nat):jB.wrap ((a:Int)+(b:Int))=((addN a b:Nat):Int):=by rw[<-Int.natCast_add,acX];rfl
theorem pV(a b:Nat)(ha:a<18446744073709551616)(hb:b<18446744073709551616):bits .xor .c (a:Int) (b:Int)=((a ^^^ b:Nat):Int):=bits_xor_u64_nat _ _ ha hb
theorem Yk(s:S4)(h:s.ok):∃a1 b1 a2 c1 d1 a3 d2 c2 b2 c3 r13 r16 r21 r17:Nat,KD s=⟨a3,b2,c3,d2⟩ /\
 jB.wrap ((s.a:Int)+(s.b:Int))=(a1:Int)/\a1<18446744073709551616/\LM s.b 13=r13/\bits .xor .c (r13:Int) (a1:Int)=(b1:Int)/\b1<18446744073709551616/\LM a1 32=a2/\a2<18446744073709551616 /\
 jB.wrap ((s.c:Int)+(s.d:Int))=(c1:Int)/\c1<18446744073709551616/\LM s.d 16=r16/\bits .xor .c (r16:Int) (c1:Int)=(d1:Int)/\d1<18446744073709551616 /\
 jB.wrap ((a2:Int)+(d1:Int))=(a3:Int)/\a3<18446744073709551616/\LM d1 21=r21/\bits .xor .c (r21:Int) (a3:Int)=(d2:Int)/\d2<18446744073709551616 /\
 jB.wrap ((c1:Int)+(b1:Int))=(c2:Int)/\c2<18446744073709551616/\LM b1 17=r17/\bits .xor .c (r17:Int) (c2:Int)=(b2:Int)/\b2<18446744073709551616/\LM c2 32=c3/\c3<18446744073709551616:=by
 obtain⟨h1,h2,h3,h4⟩:=h;have R:=ao';have A:=apa;have X:=xY;refine⟨_,_,_,_,_,_,_,_,_,_,_,_,_,_,rfl,Gi _ _,A _ _,rfl,pV _ _ (R _ _ h2) (A _ _),X _ _ (R _ _ h2) (A _ _),rfl,R _ _ (A _ _),Gi _ _,A _ _,rfl,pV _ _ (R _ _ h4) (A _ _),X _ _ (R _ _ h4) (A _ _),Gi _ _,A _ _,rfl,
  pV _ _ (R _ _ (X _ _ (R _ _ h4) (A _ _))) (A _ _),X _ _ (R _ _ (X _ _ (R _ _ h4) (A _ _))) (A _ _),Gi _ _,A _ _,rfl,pV _ _ (R _ _ (X _ _ (R _ _ h2) (A _ _))) (A _ _),X _ _ (R _ _ (X _ _ (R _ _ h2) (A _ _))) (A _ _),rfl,R _ _ (A _ _)⟩
theorem dN.num{W:au}{p:Nat}{s:S4}(h:dN W p s.aA):W.b ⟨p,0,none⟩=some (.b .c s.a)/\W.b ⟨p,1,none⟩=some (.b .c s.b)/\W.b ⟨p,2,none⟩=some (.b .c s.c)/\W.b ⟨p,3,none⟩=some (.b .c s.d)/\(∀j,W.frozen? ⟨p,j,none⟩=false):=by
 obtain⟨h1,h2,_⟩:=h.M;exact⟨h1 0,h1 1,h1 2,h1 3,h2⟩
def zM{α:Type}(f:α->α):Nat->α->α
 | 0,s=>s
 | n+1,s=>zM f n (f s)
theorem ahc{α:Type}(f:α->α)(n:Nat)(s:α):zM f (n+1) s=zM f n (f s):=rfl
theorem ahd{α:Type}(f:α->α)(s:α):zM f 0 s=s:=rfl
theorem ahe(s:S4)(h:s.ok):(KD s).ok:=by
 obtain⟨a1,b1,a2,c1,d1,a3,d2,c2,b2,c3,r13,r16,r21,r17,h0,e1,l1,e2,e3,l3,e4,l4,e5,l5,e6,e7,l7,e8,l8,e9,e10,l10,e11,l11,e12,e13,l13,e14,l14⟩:=Yk s h;rw[h0];exact⟨l8,l13,l14,l10⟩
theorem ahf(w:au)(row:Option Nat):w.d w row:=⟨rfl,rfl,rfl,ay _,fun _ _ _=>rfl⟩
theorem dN.p0{W:au}{p a b c d:Nat}(h:dN W p (S4.mk a b c d).aA)(x:Nat):dN (W.G ⟨p,0,none⟩ (.b .c x)) p (S4.mk x b c d).aA:=h.eH 0 _
theorem dN.p1{W:au}{p a b c d:Nat}(h:dN W p (S4.mk a b c d).aA)(x:Nat):dN (W.G ⟨p,1,none⟩ (.b .c x)) p (S4.mk a x c d).aA:=h.eH 1 _
theorem dN.p2{W:au}{p a b c d:Nat}(h:dN W p (S4.mk a b c d).aA)(x:Nat):dN (W.G ⟨p,2,none⟩ (.b .c x)) p (S4.mk a b x d).aA:=h.eH 2 _
theorem dN.p3{W:au}{p a b c d:Nat}(h:dN W p (S4.mk a b c d).aA)(x:Nat):dN (W.G ⟨p,3,none⟩ (.b .c x)) p (S4.mk a b c x).aA:=h.eH 3 _
theorem afc(n:Nat)(hn:n<=4)(p:Nat)(s:S4)(hs:s.ok)(W:au)(hb:dN W p s.aA):aQ aj 183 #[.c (some ⟨p,0,none⟩),.b .a n] W fun e W'=>e=.a (.K #[])/\dN W' p (zM KD n s).aA/\W.d W' (some p):=by
 have HB:=ah hb;clear hb;go_enter Tryz.func183,Tryz.ntmps183;go_wp2;go_loopw [5] (fun s5 wr=>∃(k:Nat)(x:S4),k<=n/\s5=.b .a k/\x.ok/\dN wr p x.aA/\W.d wr (some p)/\zM KD n s=zM KD (n-k) x) (fun s5 _=>n-(intOf s5).e)
 case atStart=>exact⟨0,s,by omega,rfl,hs,HB.i,ahf _ _,by rw[Nat.sub_zero]⟩
 case round=>
  obtain⟨k,x,hk,rfl,hx,hbx,hg,wW⟩:=hrel;have HI:=ah wW;have HG:=ah hg;have HX:=ah hbx;clear hg wW hbx;by_cases hlt:k<n
  ·obtain⟨a1,b1,a2,c1,d1,a3,d2,c2,b2,c3,r13,r16,r21,r17,h0,e1,l1,e2,e3,l3,e4,l4,e5,l5,e6,e7,l7,e8,l8,e9,e10,l10,e11,l11,e12,e13,l13,e14,l14⟩:=Yk x hx
   have HE:=ah (show zM KD n s=zM KD (n-(k+1)) (KD x)by rw[HI.i,show n-k=n-(k+1)+1 by omega,ahc]);rw[h0]at HE;have OK:=ah (show(S4.mk a3 b2 c3 d2).ok by rw[<-h0];exact ahe x hx);obtain⟨a,b,c,d⟩:=x;obtain⟨y1,y2,y3,y4,y5⟩:=HX.i.num;obtain⟨k1,k2,k3,k4⟩:=hx;simp only at e1 e2 e3 e4 e5 e6 e7 e8 e9 e10 e11 e12 e13 e14 y1 y2 y3 y4 k1 k2 k3 k4;have hlt2:(k:Int)<n:=by omega
   clear h0 HI;go_wp2_with fail;go_region;have X0:=ah ((HX.i.p0 a1).drew);have G0:=ah (Az (xU HG.i (p:=⟨p,0,none⟩) (.a rfl) (.b .c (a1:Nat))));generalize(wr.G ⟨p,0,none⟩ (.b .c (a1:Nat))).drew=w0 at X0 G0 ⊢;clear y1 y2 y3 y4 y5 HX HG;obtain⟨y1,y2,y3,y4,y5⟩:=X0.i.num;simp only at y1 y2 y3 y4;have C:=ah (fun W=>e2 ▸ EH b 13 k2 (by simp) W);go_wp2_with fail;go_cut []from 18 to 30 (fun wx=>dN wx p (S4.mk a1 b1 c d).aA/\W.d wx (some p))
   case first=>
    go_region_law (first|(go_simp;(go_at_call 254;refine(C.i _).g ?_;rintro e w' ⟨rfl,rfl⟩)))
    all_goals
     go_wp2_with fail;go_meet
     case rel=>exact⟨(X0.i.p1 b1).drew,Az (xU G0.i (p:=⟨p,1,none⟩) (.a rfl) (.b .c (b1:Nat)))⟩
   obtain⟨X1,G1⟩:=hcut;have X1:=ah X1;have G1:=ah G1;generalize wc=w1 at X1 G1 ⊢;clear y1 y2 y3 y4 y5 X0 G0;obtain⟨y1,y2,y3,y4,y5⟩:=X1.i.num;simp only at y1 y2 y3 y4;have C:=ah (fun W=>e4 ▸ EH a1 32 l1 (by simp) W);go_wp2_with (go_at_call 254;refine(C.i _).g ?_;rintro e w' ⟨rfl,rfl⟩);have X2:=ah ((X1.i.p0 a2));have G2:=ah ((xU G1.i (p:=⟨p,0,none⟩) (.a rfl) (.b .c (a2:Nat))));generalize(w1.G ⟨p,0,none⟩ (.b .c (a2:Nat)))=w2 at X2 G2 ⊢;clear y1 y2 y3 y4 y5 X1 G1;obtain⟨y1,y2,y3,y4,y5⟩:=X2.i.num;simp only at y1 y2 y3 y4;go_wp2_with fail;go_region;have X3:=ah ((X2.i.p2 c1).drew);have G3:=ah (Az (xU G2.i (p:=⟨p,2,none⟩) (.a rfl) (.b .c (c1:Nat))));generalize(w2.G ⟨p,2,none⟩ (.b .c (c1:Nat))).drew=w3 at X3 G3 ⊢;clear y1 y2 y3 y4 y5 X2 G2;obtain⟨y1,y2,y3,y4,y5⟩:=X3.i.num;simp only at y1 y2 y3 y4;have C:=ah (fun W=>e6 ▸ EH d 16 k4 (by simp) W);go_wp2_with fail;go_cut []from 50 to 62 (fun wx=>dN wx p (S4.mk a2 b1 c1 d1).aA/\W.d wx (some p))
   case first=>
    go_region_law (first|(go_simp;(go_at_call 254;refine(C.i _).g ?_;rintro e w' ⟨rfl,rfl⟩)))
    all_goals
     go_wp2_with fail;go_meet
     case rel=>exact⟨(X3.i.p3 d1).drew,Az (xU G3.i (p:=⟨p,3,none⟩) (.a rfl) (.b .c (d1:Nat)))⟩
   obtain⟨X4,G4⟩:=hcut;have X4:=ah X4;have G4:=ah G4;generalize wc=w4 at X4 G4 ⊢;clear y1 y2 y3 y4 y5 X3 G3;obtain⟨y1,y2,y3,y4,y5⟩:=X4.i.num;simp only at y1 y2 y3 y4;go_wp2_with fail;go_region;have X5:=ah ((X4.i.p0 a3).drew);have G5:=ah (Az (xU G4.i (p:=⟨p,0,none⟩) (.a rfl) (.b .c (a3:Nat))));generalize(w4.G ⟨p,0,none⟩ (.b .c (a3:Nat))).drew=w5 at X5 G5 ⊢;clear y1 y2 y3 y4 y5 X4 G4;obtain⟨y1,y2,y3,y4,y5⟩:=X5.i.num;simp only at y1 y2 y3 y4;have C:=ah (fun W=>e9 ▸ EH d1 21 l7 (by simp) W);go_wp2_with fail;go_cut []from 74 to 86 (fun wx=>dN wx p (S4.mk a3 b1 c1 d2).aA/\W.d wx (some p))
   case first=>
    go_region_law (first|(go_simp;(go_at_call 254;refine(C.i _).g ?_;rintro e w' ⟨rfl,rfl⟩)))
    all_goals
     go_wp2_with fail;go_meet
     case rel=>exact⟨(X5.i.p3 d2).drew,Az (xU G5.i (p:=⟨p,3,none⟩) (.a rfl) (.b .c (d2:Nat)))⟩
   obtain⟨X6,G6⟩:=hcut;have X6:=ah X6;have G6:=ah G6;generalize wc=w6 at X6 G6 ⊢;clear y1 y2 y3 y4 y5 X5 G5;obtain⟨y1,y2,y3,y4,y5⟩:=X6.i.num;simp only at y1 y2 y3 y4;go_wp2_with fail;go_region;have X7:=ah ((X6.i.p2 c2).drew);have G7:=ah (Az (xU G6.i (p:=⟨p,2,none⟩) (.a rfl) (.b .c (c2:Nat))));generalize(w6.G ⟨p,2,none⟩ (.b .c (c2:Nat))).drew=w7 at X7 G7 ⊢;clear y1 y2 y3 y4 y5 X6 G6;obtain⟨y1,y2,y3,y4,y5⟩:=X7.i.num;simp only at y1 y2 y3 y4;have C:=ah (fun W=>e12 ▸ EH b1 17 l3 (by simp) W);go_wp2_with fail;go_cut []from 98 to 110 (fun wx=>dN wx p (S4.mk a3 b2 c2 d2).aA/\W.d wx (some p))
   case first=>
    go_region_law (first|(go_simp;(go_at_call 254;refine(C.i _).g ?_;rintro e w' ⟨rfl,rfl⟩)))
    all_goals
     go_wp2_with fail;go_meet
     case rel=>exact⟨(X7.i.p1 b2).drew,Az (xU G7.i (p:=⟨p,1,none⟩) (.a rfl) (.b .c (b2:Nat)))⟩
   obtain⟨X8,G8⟩:=hcut;have X8:=ah X8;have G8:=ah G8;generalize wc=w8 at X8 G8 ⊢;clear y1 y2 y3 y4 y5 X7 G7;obtain⟨y1,y2,y3,y4,y5⟩:=X8.i.num;simp only at y1 y2 y3 y4;have C:=ah (fun W=>e14 ▸ EH c2 32 l11 (by simp) W);go_wp2_with (go_at_call 254;refine(C.i _).g ?_;rintro e w' ⟨rfl,rfl⟩);have X9:=ah ((X8.i.p2 c3));have G9:=ah ((xU G8.i (p:=⟨p,2,none⟩) (.a rfl) (.b .c (c3:Nat))));generalize(w8.G ⟨p,2,none⟩ (.b .c (c3:Nat)))=w9 at X9 G9 ⊢;clear y1 y2 y3 y4 y5 X8 G8;go_wp2;go_roundw
   case rel=>exact⟨k+1,_,by omega,by go_num,OK.i,X9.i,G9.i,HE.i⟩
   case measure=>simp[intOf]<;>omega
  ·have hlt2:¬(k:Int)<n:=by omega
   obtain rfl:k=n:=by omega
   have HI:=ah (show zM KD k s=x by rw[HI.i,Nat.sub_self,ahd]);go_wp2;go_end0;exact⟨rfl,by rw[HI.i];exact HX.i,HG.i⟩
def leN(l:List UInt8):Nat:=oL l.reverse
theorem afd(l:List UInt8):leN l<256^l.a:=by have:=JV l.reverse;rwa [List.length_reverse]at this
theorem J7(l:List UInt8)(h:l.a<=8):leN l<18446744073709551616:=eZ (afd l) (nV (by decide) h:256^l.a<=256^8)
def Pn:Nat->List UInt8->Nat->List Nat
 | 0,l,e=>[leN l+e*72057594037927936]
 | k+1,l,e=>leN (l.d 8)::Pn k (l.f 8) e
def ato(s:S4)(n:Nat):S4:=⟨s.a ^^^ n,s.b,s.c,s.d⟩
def alv(s:S4)(n:Nat):S4:=⟨s.a,s.b,s.c,s.d ^^^ n⟩
def alx(s:S4)(n:Nat):S4:=⟨s.a,s.b,s.c ^^^ n,s.d⟩
def atp(s:S4):Nat:=s.a ^^^ s.b ^^^ s.c ^^^ s.d
def UH(s:S4)(n:Nat):S4:=ato (zM KD 2 (alv s n)) n
def apb(k:Vector UInt8 16):S4:=⟨leN (k.a.d 8) ^^^ 8317987319222330741,leN (k.a.f 8) ^^^ 7237128888997146477,leN (k.a.d 8) ^^^ 7816392313619706465,leN (k.a.f 8) ^^^ 8387220255154660723⟩
def aly(s:S4):Nat:=atp (zM KD 4 (alx s 255))
def xZ(k:Vector UInt8 16)(l:List UInt8):Nat:=aly ((Pn (l.a/8) l (l.a%256)).foldl UH (apb k))
theorem Na(n:Nat):∀s:S4,s.ok->(zM KD n s).ok:=by
 induction n with
 | zero=>intro s h;rw[ahd];exact h
 | succ n ih=>intro s h;rw[ahc];exact ih _ (ahe s h)
theorem apc{s:S4}(h:s.ok){n:Nat}(hn:n<18446744073709551616):(ato s n).ok:=⟨xY _ _ h.1 hn,h.2.1,h.2.2.1,h.2.2.2⟩
theorem ahg{s:S4}(h:s.ok){n:Nat}(hn:n<18446744073709551616):(alv s n).ok:=⟨h.1,h.2.1,h.2.2.1,xY _ _ h.2.2.2 hn⟩
theorem aav{s:S4}(h:s.ok){n:Nat}(hn:n<18446744073709551616):(alx s n).ok:=⟨h.1,h.2.1,xY _ _ h.2.2.1 hn,h.2.2.2⟩
theorem apd{s:S4}(h:s.ok):atp s<18446744073709551616:=xY _ _ (xY _ _ (xY _ _ h.1 h.2.1) h.2.2.1) h.2.2.2
theorem aaw{s:S4}(h:s.ok){n:Nat}(hn:n<18446744073709551616):(UH s n).ok:=apc (Na 2 _ (ahg h hn)) hn
theorem ahh(k:Vector UInt8 16):(apb k).ok:=by
 have h1:=J7 (k.a.d 8) (by simp);have h2:=J7 (k.a.f 8) (by simp);exact⟨xY _ _ h1 (by decide),xY _ _ h2 (by decide),xY _ _ h1 (by decide),xY _ _ h2 (by decide)⟩
theorem Yl:∀(k:Nat)(l:List UInt8)(e:Nat),l.a/8=k->e<256->∀n∈Pn k l e,n<18446744073709551616
 | 0,l,e,h,he,n,hn=>by
   have h1:=afd l;have h2:256^l.a<=256^7:=nV (by decide) (by omega);simp only[Pn,List.mem_singleton]at hn;omega
 | k+1,l,e,h,he,n,hn=>by
   rcases bE.1 hn with rfl|hn
   ·exact J7 _ (by simp;omega)
   ·exact Yl k (l.f 8) e (by simp;omega) he n hn
def aax(w:au)(B:Nat)(A:Option aU)(n:Nat)(ls:List (List UInt8)):Prop:=Rd w B 1 A n (ls.map fun s=>.g (bP s))
theorem aax.len{w:au}{B n:Nat}{A:Option aU}{ls:List (List UInt8)}(h:aax w B A n ls):ls.a=n:=by have:=h.1;simpa using this
theorem aax.fG{w:au}{B n:Nat}{A:Option aU}{ls:List (List UInt8)}(h:aax w B A n ls){k:Nat}(hk:k<n):∃a,A=some a/\a.block<B/\w.b (a.add k)=some (.g (bP (ls.c k []))):=by
 obtain⟨a,u,e,hb,hu,hc⟩:=Rd.pick h hk;refine⟨a,e,hb,?_⟩;rw[hc];have hl:=h.len;rw[jm,aD (by omega)]at hu;simp only[mo,re]at hu;rw[<-hu,av,aD (by omega)];rfl
def xH(ls:List (List UInt8))(s:List UInt8):Bool:=(dS ls.a).any fun i=>ls.c i []==s
theorem alz{ls:List (List UInt8)}{s:List UInt8}{i:Nat}(hi:i<ls.a)(h:ls.c i []=s):xH ls s=true:=by
 unfold xH;rw[List.any_eq_true];exact⟨i,eG.2 hi,by rw[h];simp⟩
theorem alA{ls:List (List UInt8)}{s:List UInt8}(h:∀i,i<ls.a->ls.c i []≠s):xH ls s=false:=by
 unfold xH;rw[List.any_eq_false];intro i hi;simpa using h i (eG.1 hi)
theorem afe(ls:List (List UInt8))(s:List UInt8)(A:Option aU)(c:Nat)(w:au)(hR:aax w w.a.j A ls.a ls)(hn:ls.a<4611686018427387904):
 aQ aj 172 #[.a A ls.a c,.g (bP s)] w fun e w'=>∃r:Int,e=.a (.b .a r)/\decide (0<=r)=xH ls s/\w=w':=by
 have HR:=ah hR;clear hR;obtain⟨n,hnl⟩:=dw ls.a;rw[<-hnl]at HR hn ⊢;have HN:=ah hnl;clear hnl;go_enter Tryz.func172,Tryz.ntmps172;go_wp2;go_loop [8] (fun s8=>∃i:Nat,i<=n/\s8=.b .a i/\∀k,k<i->ls.c k []≠s) (fun s8=>n-(intOf s8).e)
 case atStart=>exact⟨0,by omega,rfl,fun k hk=>by omega⟩
 case round=>
  obtain⟨i,hin,rfl,hno⟩:=hrel;have FW:=ah hno;clear hno;by_cases hlt:i<n
  ·have hi:(i:Int)<n:=by omega
   obtain⟨a,rfl,hbb,hc⟩:=HR.i.fG hlt;clear hbb;obtain⟨pn,hp⟩:=dw (ls.c i []);rw[<-hp]at hc;have HP:=ah hp;clear hp;by_cases hq:pn=s
   ·have hbq:(s==pn)=true:=by rw[hq];simp
    have hpos:xH ls s=true:=alz (i:=i) (by have:=HN.i;omega) (by rw[<-HP.i,hq]);have UJ:=ah hpos;clear hpos hq;go_wp2;go_ret;exact⟨_,rfl,by rw[UJ.i];simp,rfl⟩
   ·have hbq:(s==pn)=false:=by simpa using(fun h:s=pn=>hq h.symm)
    have HQ:=ah hq;clear hq;go_wp2;go_round
    case rel=>exact⟨i+1,by omega,by go_num,fun k hk=>by
     by_cases hki:k=i
     ·rw[hki,<-HP.i];exact HQ.i
     ·exact FW.i k (by omega)⟩
    case measure=>simp[intOf]<;>omega
  ·obtain rfl:i=n:=by omega
   have hpos:xH ls s=false:=alA (fun k hk=>FW.i k (by have:=HN.i;omega));have UJ:=ah hpos;clear hpos;have hd:decide ((i:Int)<i)=false:=by simp
   go_wp2;go_ret;exact⟨_,rfl,by rw[UJ.i];simp,rfl⟩
theorem Nb(ls:List (List UInt8))(s:List UInt8)(A:Option aU)(c:Nat)(w:au)(hR:aax w w.a.j A ls.a ls)(hn:ls.a<4611686018427387904):
 aQ aj 87 #[.a A ls.a c,.g (bP s)] w fun e w'=>e=.a (.e (xH ls s))/\w=w':=by
 have HR:=ah hR;clear hR;go_enter Tryz.func87,Tryz.ntmps87;go_wp2_with (go_at_call 172;refine(afe ls s A c _ HR.i hn).g ?_;rintro e w' ⟨r,rfl,hr,rfl⟩;have HD:=ah hr;clear hr);go_ret;exact⟨by rw[<-HD.i];rfl,rfl⟩
def vG(a b:Nat):Nat:=if a+b>65535 then a+b-65535 else a+b
theorem Gj{a b:Nat}(h:a<=65535)(g:b<=65535):vG a b<=65535:=by unfold vG;split<;>omega
def words:List UInt8->List Nat
 | []=>[]
 | [a]=>[256*a.e]
 | a::b::l=>(256*a.e+b.e)::words l
def Nc(n:Nat)(l:List UInt8):Nat:=(words l).foldl vG n
def wX(l:List UInt8):Nat:=65535-Nc 0 l
def inS(s:Nat×Bool)(c:UInt8):Nat×Bool:=(vG s.1 (if s.2 then c.e else 256*c.e),!s.2)
theorem alB(n a b:Nat)(hn:n<=65535)(ha:a<256)(hb:b<256):vG (vG n (256*a)) b=vG n (256*a+b):=by
 unfold vG;repeat' split
 all_goals omega
theorem Ym:∀(l:List UInt8)(n:Nat),n<=65535->l.foldl inS (n,false)=(Nc n l,decide (l.a%2=1))
 | [],n,_=>rfl
 | [a],n,h=>by simp[inS,Nc,words]
 | a::b::l,n,h=>by
   have ha:=a.a;have hb:=b.a;have:=Ym l (vG n (256*a.e+b.e)) (Gj h (by omega));simp only[jW,inS,if_neg Bool.false_ne_true,Bool.not_false,if_pos,Ak,if_true,bD,alB n _ _ h ha hb,this,Prod.mk.injEq];refine⟨by simp[Nc,words],by congr 1;rw[eq_iff_iff];omega⟩
theorem aay:∀(l:List UInt8)(n:Nat),n<=65535->Nc n l<=65535
 | [],n,h=>h
 | [a],n,h=>by have:=a.a;exact Gj h (by omega)
 | a::b::l,n,h=>by
   have ha:=a.a;have hb:=b.a;exact aay l (vG n (256*a.e+b.e)) (Gj h (by omega))
theorem atq(l:List UInt8):∀s:Nat×Bool,s.1<=65535->(l.foldl inS s).1<=65535:=by
 induction l with
 | nil=>exact fun s h=>h
 | cons c l ih=>
   intro s h;have:=c.a;exact ih _ (Gj h (by split<;>omega))
def Gl(c m n:Nat):Nat:=65535-vG (vG (65535-c) (65535-m)) n
def oF:Nat->List UInt8->List UInt8->Nat
 | c,a::b::l,x::y::m=>oF (Gl c (256*a.e+b.e) (256*x.e+y.e)) l m
 | c,_,_=>c
theorem UK(c m n:Nat):Gl c m n<=65535:=by unfold Gl;omega
theorem axQ(x:Nat)(hx:x<4294967296):bits .and .u32 (x:Int) 65535=((x%65536:Nat):Int):=by
 have h1:(gD 32 (x:Int)).e=x:=by
  rw[mh,nK];exact fP (by omega)
 show IntKind.u32.wrap ((gD 32 (x:Int) &&& gD 32 65535).e:Int)=_;rw[BitVec.toNat_and,h1,show(gD 32 65535).e=2^16-1 by decide,Nat.and_two_pow_sub_one_eq_mod];simp[vK,nY,lZ];omega
theorem ahj(x:Nat)(hx:x<=65535):bits .xor .u16 Dz.max (x:Int)=((65535-x:Nat):Int):=by
 have h1:gD 16 (x:Int)=Ia 16 x:=mh _ _;show Dz.wrap ((gD 16 65535 ^^^ gD 16 (x:Int)).e:Int)=_;rw[h1,show gD 16 65535=BitVec.allOnes 16 by decide,BitVec.allOnes_xor,BitVec.toNat_not,nK,fP (by omega)];simp[vK,nY,lZ];omega
theorem axR(a c:Nat)(ha:a<256)(hc:c<256):bits .or .u16 (256*(a:Int)) (c:Int)=((256*a+c:Nat):Int):=by
 have h1:gD 16 (256*(a:Int))=Ia 16 (256*a):=by rw[show(256*(a:Int))=((256*a:Nat):Int)by omega];exact mh _ _
 have h2:gD 16 (c:Int)=Ia 16 c:=mh _ _;show Dz.wrap ((gD 16 (256*(a:Int)) ||| gD 16 (c:Int)).e:Int)=_;rw[h1,h2,BitVec.toNat_or,nK,nK,fP (by omega),fP (by omega),show 256*a=a <<< 8 by rw[mO];omega,<-Nat.shiftLeft_add_eq_or_of_lt (by omega)];rw[mO];simp[vK,nY,lZ];omega
section
variable (a b c m n:Nat) (W:au)
theorem Nf(ha:a<=65535)(hb:b<=65535):aQ aj 369 #[.b .u32 a,.b .u32 b] W fun e W'=>e=.a (.b .u32 (vG a b:Nat))/\W=W':=by
 have h:=axQ (a+b) (by omega);rw[Int.natCast_add]at h;have H:=ah (show((a:Int)+(b:Int))%65536+((a:Int)+(b:Int))/65536=(vG a b:Nat)by unfold vG;split<;>omega);go_enter Tryz.func369,Tryz.ntmps369;go_wp2;go_ret;exact⟨by rw[<-H.i];rfl,rfl⟩
theorem acZ(ha:a<=65535)(hb:b<=65535):aQ aj 258 #[.b .a a,.b .a b] W fun e W'=>e=.a (.b .a (vG a b:Nat))/\W=W':=by
 go_enter Tryz.func258,Tryz.ntmps258;go_wp2
 all_goals(go_ret;refine⟨?_,rfl⟩;simp_all[vG]<;>(repeat' split)<;>omega)
theorem aff(hc:c<=65535)(hm:m<=65535)(hn:n<=65535):aQ aj 352 #[.b .u16 c,.b .u16 m,.b .u16 n] W fun e W'=>e=.a (.b .u16 (Gl c m n:Nat))/\W=W':=by
 have h1:=ahj c hc;have h2:=ahj m hm;have l1:=Gj (show 65535-c<=65535 by omega) (show 65535-m<=65535 by omega);have l2:=Gj l1 hn;have h3:=ahj _ l2;have C1:=ah (fun W=>Nf (65535-c) (65535-m) W (by omega) (by omega));have C2:=ah (fun W=>Nf (vG (65535-c) (65535-m)) n W l1 hn);have H:=ah (show Gl c m n=65535-vG (vG (65535-c) (65535-m)) n from rfl);generalize vG (vG (65535-c) (65535-m)) n=z at *;generalize vG (65535-c) (65535-m)=y at *;have hz:Dz.wrap (z:Int)=z:=by simp[vK,nY,lZ];omega
 have q1:((65535-c:Nat):Int)%4294967296=((65535-c:Nat):Int):=by omega
 have q2:((65535-m:Nat):Int)%4294967296=((65535-m:Nat):Int):=by omega
 have q3:(n:Int)%4294967296=n:=by omega
 generalize 65535-c=cc at *;generalize 65535-m=mm at *;go_enter Tryz.func352,Tryz.ntmps352;go_wp2_with (first|(go_at_call 369;with_reducible refine(C1.i _).g ?_;rintro e w' ⟨rfl,rfl⟩)|(go_at_call 369;with_reducible refine(C2.i _).g ?_;rintro e w' ⟨rfl,rfl⟩))
 all_goals(go_ret;exact⟨by rw[H.i];rfl,rfl⟩)
end
section
variable (W:au) (A:Option aU) (n c B:Nat) (l:List UInt8)
theorem ac0(i:Nat)(hi:i<9223372036854775807)(hr:fZ W B A n l):aQ aj 353 #[.a A n c,.b .a i] W fun e W'=>e=.a (.b .u16 ((l.c i 0).e:Nat))/\W=W':=by
 by_cases hin:i<n
 ·obtain⟨a,rfl,hab,hcell⟩:=hr.fG hin
  have h1:(i:Int)<n:=by omega
  have h2:=(l.c i 0).a;have h3:((l.c i 0).e:Int)%65536=(l.c i 0).e:=by omega
  unfold bv at hcell;generalize(l.c i 0).e=x at *;clear hr;go_enter Tryz.func353,Tryz.ntmps353;go_wp2;go_ret;exact⟨rfl,rfl⟩
 ·have h1:¬(i:Int)<n:=by omega
  have h2:l.c i 0=0:=by rw[av,aT (by have:=hr.len;omega)];rfl
  rw[h2];clear hr h2;go_enter Tryz.func353,Tryz.ntmps353;go_wp2;go_ret;exact⟨rfl,rfl⟩
end
theorem UL(l:List UInt8)(k:Nat)(h:k+1<l.a):l.f k=l.c k 0::l.c (k+1) 0::l.f (k+2):=by
 rw[kS (show k<l.a by omega),kS h,av,av,aD (show k<l.a by omega),aD h];rfl
theorem aaz(c:Nat)(m:List UInt8):oF c [] m=c:=by cases m<;>rfl
theorem I8(W:au)(A D:Option aU)(n ca cd B E c:Nat)(l m:List UInt8)(hc:c<=65535)(hn:n%2=0)(hnn:n<=1000000)(hr:fZ W B A n l)(ht:fZ W E D n m):
 aQ aj 311 #[.b .u16 c,.a A n ca,.a D n cd] W fun e W'=>e=.a (.b .u16 (oF c l m:Nat))/\W=W':=by
 have CA:=ah (fun i hi=>ac0 W A n ca B l i hi hr);have CD:=ah (fun i hi=>ac0 W D n cd E m i hi ht);have hl:=ah hr.len;have hm:=ah ht.len;clear hr ht;go_enter Tryz.func311,Tryz.ntmps311;go_wp2;go_loop [0,7] (fun s0 s7=>∃(k x:Nat),k<=n/\k%2=0/\x<=65535/\s0=.b .u16 x/\s7=.b .a k/\oF c l m=oF x (l.f k) (m.f k)) (fun _ s7=>n-(intOf s7).e)
 case atStart=>exact⟨0,c,by omega,rfl,hc,rfl,rfl,rfl⟩
 case round=>
  obtain⟨k,x,hk,hk2,hx,rfl,rfl,heq⟩:=hrel;have HE:=ah heq;clear heq;by_cases hlt:k<n
  ·have hlt2:(k:Int)<n:=by omega
   have A0:=ah (CA.i k (by omega));have A1:=ah (CA.i (k+1) (by omega));have D0:=ah (CD.i k (by omega));have D1:=ah (CD.i (k+1) (by omega));rw[show((k+1:Nat):Int)=(k:Int)+1 from rfl]at A1 D1;have HE:=ah (by rw[HE.i,UL l k (by rw[hl.i];omega),UL m k (by rw[hm.i];omega),oF]:oF c l m=oF (Gl x (256*(l.c k 0).e+(l.c (k+1) 0).e) (256*(m.c k 0).e+(m.c (k+1) 0).e)) (l.f (k+2)) (m.f (k+2)));have b1:=(l.c k 0).a;have b2:=(l.c (k+1) 0).a;have b3:=(m.c k 0).a;have b4:=(m.c (k+1) 0).a;generalize(l.c k 0).e=y1 at *;generalize(l.c (k+1) 0).e=y2 at *;generalize(m.c k 0).e=y3 at *;generalize(m.c (k+1) 0).e=y4 at *;have o1:=axR y1 y2 b1 b2;have o2:=axR y3 y4 b3 b4;rw[Int.mul_comm]at o1 o2;have CH:=ah (aff x (256*y1+y2) (256*y3+y4) W hx (by omega) (by omega));have LE:=ah (UK x (256*y1+y2) (256*y3+y4));generalize Gl x (256*y1+y2) (256*y3+y4)=z at *;generalize 256*y1+y2=w1 at *;generalize 256*y3+y4=w2 at *;clear CA CD;go_wp2_with (first|(go_at_call 353;with_reducible refine A0.i.g ?_;rintro e w' ⟨rfl,rfl⟩)|(go_at_call 353;with_reducible refine A1.i.g ?_;rintro e w' ⟨rfl,rfl⟩)|(go_at_call 353;with_reducible refine D0.i.g ?_;rintro e w' ⟨rfl,rfl⟩)|(go_at_call 353;with_reducible refine D1.i.g ?_;rintro e w' ⟨rfl,rfl⟩)|(go_at_call 352;with_reducible refine CH.i.g ?_;rintro e w' ⟨rfl,rfl⟩));go_round
   case rel=>exact⟨k+2,z,by omega,by omega,LE.i,rfl,by go_num,HE.i⟩
   case measure=>simp[intOf]<;>omega
  ·have hlt2:¬(k:Int)<n:=by omega
   have HE:=ah (by rw[HE.i,iY (by rw[hl.i];omega),aaz]:oF c l m=x);clear CA CD;go_wp2;go_ret;exact⟨by rw[HE.i];rfl,rfl⟩
theorem ac1(x:Bool)(w:au):(Op.unary .not (.e x)).J aj w=.ok (.e (!x)) w:=rfl
theorem aiR(W:au)(b:Nat)(A:Option aU)(n c B:Nat)(l:List UInt8)(hnn:n<=1000000000)(hp:W.b ⟨b,0,none⟩=some (.a A n c))(hr:fZ W B A n l):
 aQ aj 350 #[.a (some ⟨b,0,none⟩) 1 1] W fun e W'=>e=.a (.b .u32 (Nc 0 l:Nat))/\W=W':=by
 have HR:=ah hr;have HN:=ac1;clear hr;go_enter Tryz.func350,Tryz.ntmps350;go_wp2;go_loop [3,4,12] (fun s3 s4 s12=>(s3=.b .u32 0/\s4=.e false/\s12=.b .a 0)\/(∃o,s3=.b .u32 (Nc 0 l:Nat)/\s4=.e o/\s12=.b .a 1)) (fun _ _ s12=>1-(intOf s12).e)
 case atStart=>exact .a ⟨rfl,rfl,rfl⟩
 case round=>
  rcases hrel with⟨rfl,rfl,rfl⟩|⟨o,rfl,rfl,rfl⟩
  ·go_wp2
   go_loop [3,4,18] (fun s3 s4 s18=>∃k:Nat,k<=n/\s18=.b .a k/\s3=.b .u32 ((l.d k).foldl inS (0,false)).1/\s4=.e ((l.d k).foldl inS (0,false)).2) (fun _ _ s18=>n-(intOf s18).e)
   case atStart=>exact⟨0,by omega,rfl,rfl,rfl⟩
   case round=>
    obtain⟨k,hk,rfl,rfl,rfl⟩:=hrel;have hlen:=ah HR.i.len;by_cases hlt:k<n
    ·have hlt2:(k:Int)<n:=by omega
     obtain⟨a,rfl,hab,hcell⟩:=HR.i.fG hlt;have HS:=ah (show(l.d (k+1)).foldl inS (0,false)=inS ((l.d k).foldl inS (0,false)) (l.c k 0)by
      rw[dV (by rw[hlen.i];exact hlt),List.foldl_append,av,aD (by rw[hlen.i];exact hlt)];rfl)
     have hle:=atq (l.d k) (0,false) (by decide);have hx:=(l.c k 0).a;generalize(l.d k).foldl inS (0,false)=st at *;obtain⟨s,o⟩:=st;have HS:=ah (show(l.d (k+1)).foldl inS (0,false)=(vG s (if o then(l.c k 0).e else 256*(l.c k 0).e),!o)from HS.i);unfold bv at hcell;simp only at hle ⊢;generalize(l.c k 0).e=x at *;have C1:=ah (fun W=>Nf s x W hle (by omega));have C2:=ah (fun W=>show aQ aj 369 #[.b .u32 s,.b .u32 ((x:Int)*256)] W fun e W'=>e=.a (.b .u32 (vG s (256*x):Nat))/\W=W' by rw[show(x:Int)*256=((256*x:Nat):Int)by omega];exact Nf s (256*x) W hle (by omega));have e1:(x:Int)%4294967296=x:=by omega
     cases o
     ·have HS:=ah (show(l.d (k+1)).foldl inS (0,false)=(vG s (256*x),true)from HS.i)
      go_wp2_with (first|(go_at_call 369;with_reducible refine(C2.i _).g ?_;rintro e w' ⟨rfl,rfl⟩));go_round
      case rel=>exact⟨k+1,by omega,by go_num,by rw[HS.i],by rw[HS.i]⟩
      case measure=>simp[intOf]<;>omega
     ·have HS:=ah (show(l.d (k+1)).foldl inS (0,false)=(vG s x,false)from HS.i)
      go_wp2_with (first|(go_at_call 369;with_reducible refine(C1.i _).g ?_;rintro e w' ⟨rfl,rfl⟩));go_round
      case rel=>exact⟨k+1,by omega,by go_num,by rw[HS.i];rfl,by rw[HS.i];rfl⟩
      case measure=>simp[intOf]<;>omega
    ·have hlt2:¬(k:Int)<n:=by omega
     have HS:=ah (show((l.d k).foldl inS (0,false)).1=Nc 0 l by rw[aL (by rw[hlen.i];omega),Ym _ _ (by decide)]);go_wp2;go_round
     case rel=>exact .b ⟨_,by rw[HS.i],rfl,rfl⟩
     case measure=>simp[intOf]
  ·go_wp2
   go_ret;exact⟨rfl,rfl⟩
section
variable (W:au) (b:Nat) (A:Option aU) (n c B:Nat) (l:List UInt8) (hnn:n<=1000000000) (hp:W.b ⟨b,0,none⟩=some (.a A n c)) (hr:fZ W B A n l)
include hnn hp hr
theorem ahk:aQ aj 305 #[.a (some ⟨b,0,none⟩) 1 1] W fun e W'=>e=.a (.b .u16 (wX l:Nat))/\W=W':=by
 have C:=ah (aiR W b A n c B l hnn hp hr);have hle:=aay l 0 (by omega);have HS:=ah (show wX l=65535-Nc 0 l from rfl);have hx:=ahj (Nc 0 l) hle;generalize Nc 0 l=x at *;have hz:Dz.wrap (x:Int)=x:=by simp[vK,nY,lZ];omega
 clear hr;go_enter Tryz.func305,Tryz.ntmps305;go_wp2_with (go_at_call 350;with_reducible refine C.i.g ?_;rintro e w' ⟨rfl,rfl⟩);go_ret;exact⟨by rw[HS.i];rfl,rfl⟩
theorem ac2:aQ aj 247 #[.a (some ⟨b,0,none⟩) 1 1] W fun e W'=>e=.a (.e (decide (wX l=0)))/\W=W':=by
 have C:=ah (ahk W b A n c B l hnn hp hr);generalize wX l=x at *;clear hr;go_enter Tryz.func247,Tryz.ntmps247;go_wp2_with (go_at_call 305;with_reducible refine C.i.g ?_;rintro e w' ⟨rfl,rfl⟩);go_ret;refine⟨?_,rfl⟩;show Ending.returned (.e ((x:Int)==0))=_;congr 2;rw[cB];simp
end
section
variable {P:eX} {ops:Array je} {md:Region.Mode} {C:au->Prop}
def wqL(P:eX)(md:Region.Mode)(ops:Array je)(C:au->Prop)(n:Nat)(L:Array Bool->qY->Prop):Nat->Array Bool->qY->Prop
 | 0,listed,a=>L listed a
 | f+1,listed,a=>gF md ops listed≠[]/\∀i∈gF md ops listed,i<n/\qOp P ops C i (wqL P md ops C n L f (listed.b i true)) a
theorem ahl{n g:Nat}{L:Array Bool->qY->Prop}{Q':zW->qY->au->Prop}(hL:∀listed a w,C w->L listed a->wpAny P md ops Q' g listed a w):
 ∀(f:Nat)(listed:Array Bool)(a:qY)(w:au),C w->wqL P md ops C n L f listed a->wpAny P md ops Q' (f+g) listed a w
 | 0,listed,a,w,hw,h=>by rw[bl];exact hL _ _ _ hw h
 | f+1,listed,a,w,hw,h=>by
   rw[show f+1+g=(f+g)+1 by omega];exact⟨fun h0=>absurd h0 h.1,fun i hi=>wpOp_of_qOp hw (fun a' w' hw' h'=>ahl hL f _ a' w' hw' h') (h.2 i hi).2⟩
theorem alC{n i:Nat}{oi:je}{v:aC}{L:Array Bool->qY->Prop}(hi:ops[i]? = some oi)(hsel:∀(j:Nat)(o:je) cs b,ops[j]? = some o->o.op≠.select cs b)
 (hs:Region.sinkB md ops n=true) (hc:Region.chainB md ops n=true) (hn:n<ops.j) (hin:i<n) (hdone:∀listed a,L listed a->∀j∈gF md ops listed,n<=j) :
 ∀(f:Nat)(listed:Array Bool)(a:qY),HeadInv md ops n listed ->
  (∀j oj,ops[j]? = some oj->j≠i->listed.c j true=false->(∀e∈oj.after,qJ md e=true->e.on≠i)->oi.apart ops oj=true) ->
  i∈gF md ops listed->YieldsIn P ops C oi v a ->
  wqL P md ops C n L f (listed.b i true) (a.put oi.Y v)->wqL P md ops C n L (f+1) listed a:=by
 intro f
 induction f with
 | zero=>
   intro listed a inv _ hr hy H;have hun:=(kF.1 hr).1;refine⟨fun h=>(by rw[h]at hr;cases hr),fun j hj=>?_⟩;have hjn:j<n:=(aZ j n).resolve_right fun h=>tail_waits hs hc hn inv _ i rfl hin hun j h hj
   refine⟨hjn,?_⟩;by_cases hji:j=i
   ·subst hji;exact hy.qOp hi H
   ·have:=hdone _ _ H j (ready_mono hj hji)
    omega
 | succ f ih=>
   intro listed a inv hfree hr hy H;have hun:=(kF.1 hr).1;refine⟨fun h=>(by rw[h]at hr;cases hr),fun j hj=>?_⟩;have hjn:j<n:=(aZ j n).resolve_right fun h=>tail_waits hs hc hn inv _ i rfl hin hun j h hj
   refine⟨hjn,?_⟩;by_cases hji:j=i
   ·subst hji;exact hy.qOp hi H
   ·have h1:=(H.2 j (ready_mono hj hji)).2
    obtain⟨hjun,oj,hoj,hall⟩:=kF.1 hj;have hnot:∀e∈oj.after,qJ md e=true->e.on≠i:=fun e he hb heq=>by
     have h1:=hall e he hb;rw[heq,getD_both hun]at h1;cases h1
    have h2:=qOp_put hoj (hfree j oj hoj hji hjun hnot) (fun cs b=>hsel i oi cs b hi) (fun cs b=>hsel j oj cs b hoj) hy h1;have hfree':∀k ok,ops[k]? = some ok->k≠i->(listed.b j true).c k true=false->(∀e∈ok.after,qJ md e=true->e.on≠i)->oi.apart ops ok=true:=fun k ok hk hki hun hno=>by
     refine hfree k ok hk hki ?_ hno;by_cases hjk:j=k
     ·subst hjk;exact hjun
     ·rw[getD_set_ne true hjk]at hun;exact hun
    refine qOp_mono (fun a' h3=>ih (listed.b j true) a' (inv.set hj hjn) hfree' (ready_mono hr (jy hji)) h3.1 ?_) h2;rw[Array.setIfInBounds_comm _ _ hji];exact h3.2
theorem aaA{n g:Nat}{Lq:qY->Prop}(hsel:Region.noSelect ops=true)(hs:Region.sinkB md ops n=true)(hc:Region.chainB md ops n=true)(hn:n<ops.j):
 ∀(l:List je)(k:Nat)(listed:Array Bool)(a:qY),(∀j,j<l.a->l[j]? = ops[k+j]?)->k+l.a=n->HeadInv md ops n listed->Region.lexHead md ops g l.a k listed=true->wpQuiet P ops C Lq l a ->
 wqL P md ops C n (fun listed' a'=>Region.seqB md ops g n listed'=true/\Lq a') l.a listed a
 | [],k,listed,a,_,hk,_,hB,h=>by
   have:k=n:=by simpa using hk
   subst this;exact⟨by simpa[Region.lexHead]using hB,h⟩
 | o::l,k,listed,a,hl,hk,inv,hB,h=>by
   have h0:ops[k]? = some o:=by simpa using(hl 0 (by simp)).symm
   simp only[bD,Region.lexHead,bB]at hB;obtain⟨⟨hr,hf⟩,hB'⟩:=hB;have hkn:k<n:=by simp only[bD]at hk;omega
   have hr':k∈gF md ops listed:=by simpa using hr
   have hst:qOp P ops C k (wpQuiet P ops C Lq l) a:=by unfold qOp;simp only[h0];exact h
   obtain⟨v,hy,hK⟩:=yieldsIn_of_qOp h0 hst;exact alC h0 (Region.noSelect_spec hsel) hs hc hn hkn (fun listed' a' hL=>seqB_ready hL.1) l.a listed a inv (Region.free_spec h0 hf) hr' hy
    (aaA hsel hs hc hn l (k+1) _ _ (fun j hj=>by have:=hl (j+1) (by simp;omega);simpa[nG,lV 1 j]using this) (by simp only[bD]at hk;omega) (inv.set hr' hkn) hB' hK)
theorem UM{T:Type}(f:T->au)(n:Nat){id:Nat}{Q:zW->qY->au->Prop}{a:qY}{w:au}{l:List je}(hm:P.follows .mixedOrders=true)(hB:xD .any l.b n=true)(n0:T)(h0:f n0=w.drew)
 (h:wpQuiet P l.b (fun w'=>∃m,w'=f m) (fun a'=>∀w',(∃m,w'=f m)->wpList P l.b Q (l.f n) a' w') (l.d n) a):(Code.region id l.b true).wp P Q a w:=by
 simp only[xD,bB,decide_eq_true_eq]at hB;obtain⟨⟨⟨⟨hsel,hn⟩,hs⟩,hc⟩,hlex⟩:=hB;have hn':n<l.a:=by simpa using hn
 have htl:(l.d n).a=n:=by simp;omega
 have hdl:(l.f n).a=l.b.j-n:=by simp
 have inv0:HeadInv .any l.b n (Array.replicate l.b.j false):=
  ⟨by simp,fun j oj _ hl=>(by rw[mR]at hl;cases hl),fun t _ ht=>getD_in (by simpa using ht) (mR _ _)⟩
 have H:=aaA (md:=.any) (C:=fun w'=>∃m,w'=f m) (g:=l.b.j-n) hsel hs hc hn (l.d n) 0 _ a (fun j hj=>by
  have hj':j<n:=by rw[htl]at hj;exact hj
  simp[hj']) (by simpa using htl) inv0 (by rw[htl];exact hlex) h
 refine wp_region_any hm ?_;have:=ahl (Q':=Q) (g:=l.b.j-n) (fun listed a' w' hw hL=>by
  have:=wpAny_of_seq (md:=.any) (Q':=Q) (l.f n) n listed a' w' (fun j=>by simp[jq]) (by rw[hdl];exact hL.1) (hL.2 w' hw)
  rwa [hdl]at this) _ _ _ {w with drawn:=w.drawn+1} ⟨n0,h0.symm⟩ H
 rw[htl,show n+(l.b.j-n)=l.b.j by omega]at this;exact this
end
section
open Go.RowKit Go.ChangeShapes Go.WideShapes Go.ChangeAt Go.Deep
def ou(l:List Hl):List (List UInt8):=(l.filter (·.down)).map (·.E)
theorem Yn(l:List Hl)(i:Nat)(hi:i<l.a){x:Hl}(hx:x=l.c i kQ)(h:x.down=true):ou (l.d (i+1))=ou (l.d i)++[x.E]:=by
 rw[<-lW kQ l i hi,<-hx];simp[ou,h]
theorem ac3(l:List Hl)(i:Nat)(hi:i<l.a){x:Hl}(hx:x=l.c i kQ)(h:x.down=false):ou (l.d (i+1))=ou (l.d i):=by
 rw[<-lW kQ l i hi,<-hx];simp[ou,h]
theorem alD(l:List Hl)(A:Option aU)(n c:Nat)(w:au)(hR:RdH w w.a.j A n l)(hn:n<=100000):
 aQ aj 130 #[.a A n c] w (TxP w (ou l)):=by
 have HR:=ah hR;have HN:=ah hR.1;obtain⟨i0,hi0,hz0,hz1,hzb⟩:=ZU;have HI0:=ah hi0;have HZ0:=ah hz0;have HZ1:=ah hz1;have HZ2:=ah (show(jl ⟨#[]⟩).D.j=1 from rfl);clear hR hi0 hz0 hz1;go_enter Tryz.func130,Tryz.ntmps130;go_wp2;go_loopw [3,8] (fun s3 s8 wr=>∃(i:Nat)(O:Option aU)(cap k:Nat),i<=n/\s3=.a O k cap/\s8=.b .a i/\k<=i/\(ou (l.d i)).a=k/\wr.c w.a.j 9 1 (.a O k cap) k (vS (ou (l.d i)))/\aM w.a.j w wr) (fun _ s8 _=>n-(intOf s8).e)
 case atStart=>exact⟨0,none,0,0,by omega,rfl,rfl,by omega,by simp[ou],fB _ _ _ _,aH _ _⟩
 case round=>
  obtain⟨i,O,cap,k,hin,rfl,rfl,hki,hlen,ho,hb⟩:=hrel;have HB:=ah hb;have HO:=ah ho;have HLEN:=ah hlen;have hsz:=hb.j;clear hb ho hlen;by_cases hlt:i<n
  ·have hi:(i:Int)<n:=by omega
   obtain⟨b,o,rfl,hbb,hh,hc,hnm,hdw⟩:=(HR.i.S HB.i).hl hlt;obtain⟨x,hx⟩:=dw (l.c i kQ);rw[<-hx]at hc hnm hdw;have HX:=ah hx;have hbs:b<wr.a.j:=by omega
   clear hx hbb;have HNL:=ah (show i<l.a by rw[HN.i];exact hlt);cases hd:x.down
   ·have HD:=ah hd
    rw[hd]at hdw;go_wp2;go_roundw
    case rel=>exact⟨i+1,O,cap,k,by omega,rfl,by go_num,by omega,by rw[ac3 l i HNL.i HX.i HD.i];exact HLEN.i,by rw[ac3 l i HNL.i HX.i HD.i];exact HO.i.alloc _,HB.i.alloc hsz _⟩
    case measure=>simp[intOf]<;>omega
   ·have HD:=ah hd
    rw[hd]at hdw;have ME:=ah (show k+1<=maxLen by unfold maxLen;omega);have Kw:=ah (show(k+1)*i0.bytes<=140737488355328 from aP (gP (show k+1<=100002 by omega) hzb) (by omega));have HKI:=ah hki;have Rj:=ah (fun(ob:Obj) (s:List UInt8)=>show Rd ((wr.alloc ob).alloc (.D #[.g (bP s)] 9)) (wr.a.j+2) 1 (some ⟨wr.a.j+1,0,none⟩) 1 [.g (bP s)]by
     have h:=ZO (wr.alloc ob) (txA s) 1 rfl 9
     rwa [show(wr.alloc ob).a.j=wr.a.j+1 by simp]at h)
    have HBS:=ah (fun ob sO=>show w.a.j<=((wr.alloc ob).alloc sO).a.j by simp;omega);have HGR:=ah (fun ob sO w1 (hg:((wr.alloc ob).alloc sO).d w1 (Value.slice O k cap).f)=>((HB.i.alloc hsz ob).alloc (by simp;omega) sO).grown hg (by simp;omega) (fun k hk=>(HO.i.lt k hk).1));clear hki;go_wp2_with (at_builtin;refine iT _ rfl (.tmp 14) (.tmp 17) _ rfl w.a.j 9 i0 (.g ⟨#[]⟩) 1 i0.bytes Tryz.underlying69 HI0.i HZ0.i HZ1.i rfl HZ2.i (kX _) (.a O k cap) k (vS (ou (l.d i))) rfl ((HO.i.alloc _).alloc _) (wr.a.j+2) (some ⟨wr.a.j+1,0,none⟩) 1 1 [.g (bP x.E)] rfl (Rj.i _ x.E) (by simp[dx]) ME.i Kw.i (HBS.i _ _) ?_;intro v1 w1 hown1 hg1 uN;have O1:=ah hown1;have G1:=ah (HGR.i _ _ _ hg1);clear hown1 hg1 uN);obtain⟨O',cap',rfl,_,_⟩:=jw O1.i;go_roundw
    case rel=>exact⟨i+1,O',cap',k+1,by omega,rfl,by go_num,by have:=HKI.i;omega,by rw[Yn l i HNL.i HX.i HD.i,aS,HLEN.i];rfl,by rw[Yn l i HNL.i HX.i HD.i,<-Qq];exact O1.i,G1.i⟩
    case measure=>simp[intOf]<;>omega
  ·obtain rfl:i=n:=by omega
   have hd:decide ((i:Int)<i)=false:=by simp
   have HL:=ah (show l.d i=l from aL (by rw[HN.i];omega));go_wp2;go_ret;exact⟨O,k,cap,rfl,by rw[<-HL.i];exact HLEN.i,by have:=HO.i;rw[HL.i]at this;exact this,HB.i⟩
end
section
open Go.RowKit Go.ChangeShapes Go.WideShapes Go.ChangeAt Go.Deep
def arV(h:Hl):Prop:=-9223372036854775808<=h.J/\h.J<=9223372036854775807
end
def afg(xs:List aC):Nat->List aC->List aC
 | _,[]=>xs
 | o,v::vs=>afg (xs.set o v) (o+1) vs
theorem alF(vs:List aC):∀(xs:List aC)(o j:Nat),(afg xs o vs)[j]? = if o<=j/\j<o+vs.a/\j<xs.a then vs[j-o]? else xs[j]?:=by
 induction vs with
 | nil=>intro xs o j;rw[afg,if_neg (by simp;omega)]
 | cons v vs ih=>
   intro xs o j;rw[afg,ih,aW,bD];by_cases h1:o+1<=j/\j<o+1+vs.a/\j<xs.a
   ·rw[if_pos h1,if_pos (by omega),show j-o=(j-(o+1))+1 by omega,List.getElem?_cons_succ]
   ·rw[if_neg h1]
    by_cases h2:o=j
    ·subst h2
     by_cases h3:o<xs.a
     ·rw[if_pos ⟨ay _,by omega,h3⟩,List.getElem?_set_self h3];simp
     ·rw[if_neg (by omega),fI];simp[h3]
    ·rw[List.getElem?_set_ne h2,if_neg (by omega)]
theorem Xq{base size n g c:Nat}{e:bF}(vs:List aC):∀(xs:List aC)(W:au)(o:Nat),W.c base e size (.a (some ⟨g,0,none⟩) n c) n xs->o+vs.a<=n*size ->
 (W.setCells g o vs).c base e size (.a (some ⟨g,0,none⟩) n c) n (afg xs o vs):=by
 induction vs with
 | nil=>intro xs W o h _;exact h
 | cons v vs ih=>
   intro xs W o h ho;rw[bD]at ho;rw[Dc,afg];exact ih _ _ _ (SA h o (by omega) v) (by omega)
theorem alG{α:Type}(f:α->Array aC)(s:Nat)(hs:∀x,(f x).j=s)(hp:0<s)(l:List α)(i:Nat)(hi:i<l.a)(x:α):
 afg (l.h fun x=>(f x).a) (i*s) (f x).a=(l.set i x).h fun x=>(f x).a:=by
 apply iN;intro j;rw[alF,bf,hs,tC f s hs];have hl2:=tC f s hs (l.set i x);rw[aW]at hl2;rcases aZ j (l.a*s)with hj|hj
 ·have e1:j=j/s*s+j%s:=by rw[Dh];exact(Nat.div_add_mod j s).symm
  have h2:j/s<l.a:=(zX hp).2 hj;have h3:j%s<s:=fH _ hp;have g1:=uL f s hs l (j/s) (j%s) h2 h3;have g2:=uL f s hs (l.set i x) (j/s) (j%s) (by rw[aW];exact h2) h3;rw[<-e1]at g1 g2;rw[g2];by_cases hij:i=j/s
  ·subst hij
   rw[if_pos ⟨Nat.div_mul_le_self j s,by omega,hj⟩,List.getElem_set_self,dH];congr 1;omega
  ·rw[List.getElem_set_ne hij,if_neg,g1]
   rintro⟨h4,h5,_⟩;apply hij;have h6:i*s<=j:=h4;have h7:j<(i+1)*s:=by rw[Dg];exact h5
   exact(Nat.le_antisymm ((Nat.le_div_iff_mul_le hp).2 h6) (Nat.lt_succ_iff.1 ((zX hp).2 h7)))
 ·rw[if_neg (by omega),aT (by rw[tC f s hs];exact hj),aT (by omega)]
def wY(l:List Hl):List aC:=l.h fun x=>x.aA.a
theorem afh(l:List Hl):∀u∈wY l,u.h=true:=Bu Hl.aA Hl.cO l
theorem ac4(l:List Hl)(x:Hl):wY l++x.aA.a=wY (l++[x]):=aik Hl.aA l x
def ClP(w:au)(n:Nat)(l:List Hl)(e:lu)(w':au):Prop:=
 ∃A c,e=.a (.a A n c)/\w'.c w.a.j 100 3 (.a A n c) n (wY l)/\aM w.a.j w w'
theorem LP(l:List Hl)(A:Option aU)(n c:Nat)(w:au)(hR:RdH w w.a.j A n l)(hn:n<=100000):
 aQ aj 59 #[.a A n c] w (ClP w n l):=by
 have hll:=hR.1;cases A with
 | some a=>
   have hnil:∀W:au,(binOp .eql 33 (.a (some a) n c) (.a none 0 0)).J aj W=.ok (.e false) W:=fun W=>by
    simp only[binOp];simp[jf,rY]
   obtain⟨i0,hi0,hz0,hz1,hzb⟩:=Lu;have hz2:(cK kQ.aA).D.j=3:=by simp[bZ,Hl.I]
   have O1:=ah (show(w.alloc (.D #[] 100)).c w.a.j 100 3 (.a (some ⟨w.a.j,0,none⟩) 0 0) 0 []from lN w #[] 0 (ay _) (by unfold maxLen;omega) rfl);have O2:=ah (hR.alloc (ay _) (.D #[] 100)).2.1;have ME:=ah (show 0+n<=maxLen by unfold maxLen;omega);have Kw:=ah (show(0+n)*i0.bytes<=140737488355328 from aP (gP (show 0+n<=100000 by omega) hzb) (by omega));have O3:=ah (show w.a.j<=(w.alloc (.D #[] 100)).a.j by simp);have ON:=ah (afh l);clear hR hll;go_enter Tryz.func59,Tryz.ntmps59;go_wp2_with (at_builtin;refine iT _ rfl (.tmp 5) (.tmp 6) _ rfl w.a.j 100 i0 (.d kQ.aA) 3 i0.bytes rY hi0 hz0 hz1 rfl hz2 (kX _) (.a (some ⟨w.a.j,0,none⟩) 0 0) 0 [] rfl O1.i w.a.j (some a) n c (wY l) rfl O2.i ON.i ME.i Kw.i O3.i ?_;intro v1 w1 hown1 hg1 uN);obtain⟨A',c',hv,_,_⟩:=jw hown1;subst hv;simp only[bl,dG]at hown1;have hb:=qM ((aH w.a.j w).alloc (ay _) (.D #[] 100)) hg1 (ay _) O3.i;go_wp2;go_ret;exact⟨A',c',by simp,hown1,hb⟩
 | none=>
   have h0:n=0:=by
    rcases eD n with h0|h0
    ·exact h0
    ·obtain⟨a,ha,_⟩:=hR.2.1.2 h0;cases ha
   subst h0;have hl:l=[]:=bG hll;subst hl;have hnil:∀W:au,(binOp .eql 33 (.a none 0 c) (.a none 0 0)).J aj W=.ok (.e true) W:=fun W=>by
    simp only[binOp];simp[jf,rY]
   have FIN:=ah (show ClP w 0 [] (.a (.a none 0 0)) w from⟨none,0,rfl,fB _ _ _ _,aH _ _⟩);clear hR hll;go_enter Tryz.func59,Tryz.ntmps59;go_wp2;go_ret;exact FIN.i
theorem UN(args:Array aC)(w:au):(callFunc 148 args).J aj w=.ok (.enter 148 args) w:=by kernel_rfl
theorem alH(x:Hl)(s:List UInt8)(bn:Nat)(w:au)(hb:bn<w.a.j)(hc:w.b ⟨bn,0,none⟩=some (.g (bP s))):
 aQ aj 148 #[.d x.aA,.c (some ⟨bn,0,none⟩)] w (gy w (.e (x.E==s))):=by
 have HB:=ah (fun ob=>(aH w.a.j w).alloc (ay _) ob);go_enter Tryz.func148,Tryz.ntmps148;go_wp2;go_ret;exact⟨by simp,HB.i _⟩
theorem aiS(l:List Hl)(s:List UInt8)(bn:Nat)(A:Option aU)(n c:Nat)(w:au)(hR:RdH w w.a.j A n l)(hn:n<=100000)(hb:bn<w.a.j)(hc:w.b ⟨bn,0,none⟩=some (.g (bP s))):
 aQ aj 147 #[.a A n c,.func (.func 148) #[] #[.c (some ⟨bn,0,none⟩)]] w (gy w (.b .a (zL l s))):=by
 have hen:=UN;have HR:=ah hR;have HN:=ah hR.1;have PR:=ah (fun x W (h:aM w.a.j w W)=>alH x s bn W (eZ hb h.j) (by rw[h.cell (p:=⟨bn,0,none⟩) hb];exact hc));clear hR hc;go_enter Tryz.func147,Tryz.ntmps147;go_wp2;go_loopw [8] (fun s8 wr=>∃i:Nat,i<=n/\s8=.b .a i/\(∀k,k<i->(l.c k kQ).E≠s)/\aM w.a.j w wr) (fun s8 _=>n-(intOf s8).e)
 case atStart=>exact⟨0,by omega,rfl,fun k hk=>by omega,aH _ _⟩
 case round=>
  obtain⟨i,hin,rfl,hno,hb⟩:=hrel;have FW:=ah hno;have HB:=ah hb;clear hno hb;by_cases hlt:i<n
  ·have hi:(i:Int)<n:=by omega
   obtain⟨b,o,rfl,hbb,hh,hcl,_,_⟩:=(HR.i.S HB.i).hl hlt;obtain⟨x,hx⟩:=dw (l.c i kQ);rw[<-hx]at hcl;have HX:=ah hx;clear hx hbb;by_cases hq:x.E=s
   ·have hbq:(x.E==s)=true:=by rw[hq];simp
    have UJ:=ah (ao2 (by rw[HN.i];exact hlt) (by rw[<-HX.i];exact hq) FW.i);clear hq;go_wp2_with (go_at_call 148;refine(PR.i x _ HB.i).g ?_;rintro e w1 ⟨rfl,hb1⟩;clear hh hcl;have HB1:=ah hb1;clear hb1);go_ret;exact⟨by rw[UJ.i];rfl,iZ HB.i HB1.i⟩
   ·have hbq:(x.E==s)=false:=by simpa using hq
    have HQ:=ah hq;clear hq;go_wp2_with (go_at_call 148;refine(PR.i x _ HB.i).g ?_;rintro e w1 ⟨rfl,hb1⟩;clear hh hcl;have HB1:=ah hb1;clear hb1);go_roundw
    case rel=>exact⟨i+1,by omega,by go_num,fun k hk=>by
     by_cases hki:k=i
     ·rw[hki,<-HX.i];exact HQ.i
     ·exact FW.i k (by omega),iZ HB.i HB1.i⟩
    case measure=>simp[intOf]<;>omega
  ·obtain rfl:i=n:=by omega
   have UJ:=ah (ao3 (l:=l) (s:=s) (fun k hk=>FW.i k (by have:=HN.i;omega)));have hd:decide ((i:Int)<i)=false:=by simp
   go_wp2;go_ret;exact⟨by rw[UJ.i];rfl,HB.i⟩
def KE(l:List Hl)(s:List UInt8)(well:Bool)(kr fall:Int):List Hl×Bool×Int:=
 if zL l s<0 then(l,false,5)else(l.set (zL l s).e (uQ (l.c (zL l s).e kQ) well kr fall).1,(uQ (l.c (zL l s).e kQ) well kr fall).2,0)
theorem apf{l:List Hl}{s:List UInt8}(h:zL l s = -1)(well:Bool)(kr fall:Int):KE l s well kr fall=(l,false,5):=by unfold KE;rw[if_pos (by omega)]
theorem alI{l:List Hl}{s:List UInt8}{k:Nat}(h:zL l s=k){well:Bool}{kr fall:Int}{x:Hl}(hx:x=l.c k kQ){q:Hl×Bool}(hq:uQ x well kr fall=q):KE l s well kr fall=(l.set k q.1,q.2,0):=by
 unfold KE;rw[if_neg (by omega),h,Int.toNat_natCast,<-hx,hq]
def axT(w:au)(n:Nat)(r:List Hl×Bool×Int)(e:lu)(w':au):Prop:=
 ∃A c,e=.a (.K #[.a A n c,.e r.2.1,.b .a r.2.2])/\w'.c w.a.j 100 3 (.a A n c) n (wY r.1)/\aM w.a.j w w'
theorem apg(l:List Hl)(s:List UInt8)(well:Bool)(kr fall:Int)(A:Option aU)(n c:Nat)(w:au)(hR:RdH w w.a.j A n l)(hg:∀x∈l,arV x)(hn:n<=100000):
 aQ aj 74 #[.a A n c,.g (bP s),.e well,.b .a kr,.b .a fall] w (axT w n (KE l s well kr fall)):=by
 have hen:=UN;have HN:=ah hR.1;have HG:=ah hg;have HR1:=ah (fun ob=>hR.up ob);have BN:=ah (dN.new w #[.g (bP s)] 9);have HB:=ah ((aH w.a.j w).alloc (ay _) (.D #[.g (bP s)] 9));clear hR hg;go_enter Tryz.func74,Tryz.ntmps74;go_wp2_with fail;refine(LP l A n c _ (HR1.i _) hn).g ?_;rintro e w1 ⟨A1,c1,rfl,hown,hb1⟩;have HOWN:=ah hown;have BN:=ah (BN.i.go hb1);have HB:=ah (akU HB.i hb1);clear hown hb1;obtain⟨x1,x2,x3,x4⟩:=BN.i.M;have l1:=BN.i.lt;go_wp2_with fail;refine(aiS l s w.a.j A1 n c1 _ (iF.gV HN.i HOWN.i) hn l1 (by rw[x1];rfl)).g ?_;rintro e w2 ⟨rfl,hb2⟩;have HOWN:=ah (iM (fQ HOWN.i hb2) (base':=w.a.j) (by simp));have HB:=ah (akU HB.i hb2);clear hb2 x1 x2 x3 x4 l1;rcases ae7 l s with hp|⟨k,hp,hk⟩
 ·have HS:=ah (apf hp well kr fall)
  rw[hp];clear hp;go_wp2_with fail;go_ret3;exact⟨A1,c1,by rw[HS.i];rfl,by rw[HS.i];exact HOWN.i,HB.i⟩
 ·have hkn:k<n:=by rw[<-HN.i];exact hk
  have hki:(k:Int)<n:=by omega
  have HKL:=ah hk;obtain⟨x,hx⟩:=dw (l.c k kQ);obtain⟨⟨qx,qt⟩,hq⟩:∃q,uQ x well kr fall=q:=⟨_,rfl⟩
  have HS:=ah (alI hp hx hq);have ST:=ah (fun W=>hq ▸ alm x well kr fall W (HG.i x (by rw[hx];exact Eu kQ l k hk)));obtain⟨b,o,hA,hbb,hh,hc,_,_⟩:=(iF.gV HN.i HOWN.i).hl hkn;rw[<-hx]at hc;obtain⟨g,rfl⟩:∃g,A1=some ⟨g,0,none⟩:=by
   rcases HOWN.i.2 with⟨hv,_⟩|⟨g,cap,cur,hv,_⟩
   ·injection hv with e1 _ _;rw[e1]at hA;cases hA
   ·injection hv with e1 _ _;exact⟨g,e1⟩
  injection hA with hA
  injection hA with e1 e2
  subst e1 e2;rw[hp];have hnk:decide ((k:Int)<0)=false:=by simp
  rw[bl]at hh hc;clear hx hq hp hk;go_wp2_with fail;refine(ST.i _).g ?_;rintro e w3 ⟨rfl,hb3⟩;have OW:=ah (fQ HOWN.i hb3);have hth:w3.O g (k*3) 3:=by
   rcases OW.i.2 with⟨hv,_⟩|⟨g',cap,cur,hv,_,h3,h4,_,h6,_⟩
   ·cases hv
   ·injection hv with e1 _ e3
    injection e1 with e1
    injection e1 with e1
    subst e1;refine dN.O (c:=cur) ⟨_,h3⟩ (k*3) 3 ?_;rw[h6];have:(k+1)*3<=cap*3:=bY 3 (by omega);omega
  have Qx:=ah (Qr (akU HB.i hb3) g (k*3) qx (HOWN.i.lt g rfl).1);have OF:=ah (Xq qx.aA.a _ _ (k*3) OW.i (by rw[bf,Hl.I];have:(k+1)*3<=n*3:=bY 3 hkn;omega));clear hh hc hb3 hbb;go_wp2_with fail;go_ret3;refine⟨some ⟨g,0,none⟩,c1,by rw[HS.i];rfl,?_,Qx.i⟩;rw[HS.i];have:=OF.i;unfold wY at this;rw[alG Hl.aA 3 Hl.I (by omega) l k HKL.i qx]at this;exact this
theorem Dl:∀(l m:List UInt8)(c:Nat),c<=65535->oF c l m<=65535
 | [],m,c,h=>by cases m<;>exact h
 | [a],m,c,h=>by cases m<;>exact h
 | a::b::l,[],c,h=>h
 | a::b::l,[x],c,h=>h
 | a::b::l,x::y::m,c,h=>Dl l m _ (UK _ _ _)
end Go.Proofs.YtkjojjopamaoiaaGreat
