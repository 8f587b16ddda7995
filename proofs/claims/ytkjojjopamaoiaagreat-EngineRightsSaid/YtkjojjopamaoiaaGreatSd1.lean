/- Parts. -/
import Derived.WalkSpells
import Derived.WalkLawsBesides
import Derived.Deep.OwnRows
import Derived.Lib.Hide
import Derived.Deep.AppendLies
import Derived.Test.YtkjojjopamaoiaaGreatRows
import Derived.ProofKit
import Derived.OpenShut
import Derived.Lib.ConvBytes
import Derived.Deep.WholeRow
import Derived.Deep.Fields
import Derived.Lib.Bytealg
import Derived.BigQuiet
import Derived.Deep.CutRange
import Derived.Laws.CopyOwn
import Derived.Lib.AppendZerosOnto
import Derived.Lib.Overlaps
import Derived.Deep.RegionHeld3
import Derived.StillTail
set_option linter.all false
set_option maxRecDepth 100000
set_option maxHeartbeats 8000000
open Array renaming getElem?_eq_getElem->fF,ext_getElem?->dZ,getElem?_eq_none->aU,length_toList->aY,getElem?_toList->dG,getElem?_extract->dA,size_extract->jJ,getElem?_modify->zR,getElem?_eq_some_iff->bW,foldl_toList->Dy,range->mF,mapM->iF,all_eq_true_iff_forall_mem->gG,ext'->pQ,size->Array.j,toList->Array.a,getD->Array.b,setIfInBounds->Array.c
open BitVec renaming ofInt->gF,ofInt_natCast->mD,toNat_ofNat->nR,ofNat->IE,toNat->BitVec.g
open Bool renaming eq_iff_iff->bF,and_eq_true->bf,or_eq_true->mJ,not_true->sQ,toNat->Bool.g
open ByteArray renaming size->ByteArray.j,toList->ByteArray.a
open Go renaming Addr->aT,World->ak,Value->aB,TypeId->bE,Program->eD,TypeInfo->nW,run_underlying->dJ,Oper->iM,Act->qG,Exit->yP,Operand->qj,wpList_plain->tL,Calls->aP,DataW->vR,MemPlace->oZ,cell_of_row->tN,heap_alloc_new->Ii,setRow_heap->rY,Field->oh,Sem->xI,Ending->lU,run_storeAt_new->zA,run_storeAt_mid->EO,run_equalIn_struct->zN,results_cell_tmp->LA,run_callFunc_extern->yQ,bodyPost_ret->aN,wpQuiet_nil->eG,run_equal_slice_nil->je,mem_ready->kL,getD_replicate_false->mZ,underlying->Go.k
open Go.Addr renaming add->qQ,add_mid->iJ
open Go.BoundsCode renaming toNat->Go.BoundsCode.g
open Go.Builtin renaming append_->Ao,firstCells->uo,copy_->qR,zeroCells->og
open Go.Calls renaming mono->Go.Calls.e
open Go.DataW renaming trod->kY,slice->Go.DataW.a,agg->Go.DataW.d
open Go.Ending renaming returned->Go.Ending.a
open Go.Field renaming name->Go.Field.E,offset->Go.Field.X,type->Go.Field.p
open Go.FloatKind renaming f64->lC
open Go.Func renaming name->Go.Func.E
open Go.Instr renaming loadAt->cK,buildSlice->bM,fill->fD,build->fQ,storeAt->eU,sureAddr->zi,slice->Go.Instr.a
open Go.IntKind renaming min->Kh,max->Ki,signed->mq,bits->nZ,i64->bU,u64->gB,wrap_u64->jh,wrap->vS,u16->Eh,i64->Go.IntKind.a,u8->Go.IntKind.b,u64->Go.IntKind.c,wrap->Go.IntKind.d
open Go.Lib renaming hid->ab,compareBytes->iD
open Go.Lit renaming int->Go.Lit.b,bool->Go.Lit.e,string->Go.Lit.g
open Go.Obj renaming cells->Go.Obj.D
open Go.Op renaming eqItems->Lg,equalIn->jg,eqFields->wK,bytesLess->bI,slice->Go.Op.a
open Go.Oper renaming wp->nG,dst->Go.Oper.S,type->Go.Oper.p
open Go.Program renaming cellsOf->Aq,fieldsOf->jX,underlying->Go.Program.k,cellsOf->Go.Program.a
open Go.Proofs.Tryz renaming prog->ah,underlying56->cO,underlying4->nX,underlying9->iU,underlying3->gV,underlying100->pU,underlying33->sJ,underlying5->mQ,underlying62->oF,underlying27->fB,func264->ql,ntmps264->oq,func118->Dh,ntmps118->Au,underlying25->FW,underlying22->qH,func125->Dj,ntmps125->Av,underlying30->jm
open Go.Region renaming Mode->Lh,ready->fZ,wanted->fq,noSelect->AV,binds->qU,lexTailB->xK
open Go.Result renaming andThen_ok->gQ,andThen->iK,ok->Go.Result.Y
open Go.RowKit renaming Below->aL
open Go.RowKit.Below renaming heap_setCell->rM,refl->aG,size->Go.RowKit.Below.j,mono->Go.RowKit.Below.e,setCell->Go.RowKit.Below.F
open Go.RowKit.Hid renaming out->Go.RowKit.Hid.i
open Go.Sem renaming run_bind->jP,run_pure->oJ,run->Kk,run->Go.Sem.G
open Go.Tables renaming info?->Go.Tables.l
open Go.TypeDesc renaming slice->Go.TypeDesc.a,int->Go.TypeDesc.b,pointer->Go.TypeDesc.c,bool->Go.TypeDesc.e,tuple->Go.TypeDesc.I,string->Go.TypeDesc.g,struct->Go.TypeDesc.d
open Go.TypeInfo renaming size->Go.TypeInfo.j
open Go.Value renaming int->aI,agg->cB,string->jk,bool->bT,oneCell'->dx,float->Ar,cells->cZ,cells->Go.Value.D,slice->Go.Value.a,int->Go.Value.b,pointer->Go.Value.c,agg->Go.Value.d,bool->Go.Value.e,tuple->Go.Value.I,ownBlock->Go.Value.f,oneCell'->Go.Value.h,string->Go.Value.g
open Go.World renaming cell?_alloc_lt->qo,cell?_setCell_other->wI,setCell->iq,cell?->ER,frozen?->sN,setCells->Dz,ownsRow_nil->fu,ownsRow_lit->nC,heap->Go.World.a,cell?->Go.World.b,setCell->Go.World.F,ownsRow->Go.World.c,there->Go.World.K,drawn->Go.World.Z,grownBy->Go.World.d
open Go.World.grownBy renaming size->Go.World.grownBy.j
open Go.World.ownsRow renaming cells->Go.World.ownsRow.D
open Ieee renaming double->rz
open Int renaming compare_eq_eq->Gn,lt_or_le->wR,natCast_emod->I4,toNat->Int.g
open List renaming getElem?_eq_getElem->aC,getElem?_drop->jq,length_take->bH,getElem?_eq_none->aS,mem_map->iZ,getElem?_map->iy,getD_eq_getElem?_getD->au,eq_nil_of_length_eq_zero->bG,map_map->I6,map_cons->kR,range->bY,foldl_cons->j3,length_cons->bD,take_succ_eq_append_getElem->dF,take_of_length_le->aJ,mem_append_left->AQ,append_nil->uU,getElem?_toArray->dW,map_congr_left->Db,mem_range->dV,zipIdx_cons->IB,length_set->aV,take_append_drop->iN,ext_getElem?->iR,flatMap_cons->jl,getElem?_append_left->o9,getElem?_append_right->vW,length_append->aR,ofFn->IC,drop_eq_getElem_cons->kZ,drop_of_length_le->gq,all_eq_false->FV,getElem_mem->fG,getElem?_append->kW,range_succ->Kl,nil_append->dH,all_eq_true->fM,findIdx?_eq_some_iff_getElem->gZ,append_assoc->cu,take_append_of_le_length->gJ,mem_cons->bB,replicate->dY,getElem?_range->wY,set_cons_succ->bK,getElem?_set->fI,pairwise_cons->gT,length->List.a,getD->List.b,toArray->List.c,take->List.d,drop->List.f,flatMap->List.h,below->List.M
open Nat renaming add_assoc->nP,mul_le_mul_right->dz,lt_or_ge->aZ,eq_zero_or_pos->eu,le_trans->aO,lt_of_lt_of_le->eF,le_refl->av,zero_add->bl,shiftLeft_eq->mU,pow_le_pow_right->kX,min_eq_left->oN,min_eq_right->Ap,lt_succ_self->mV,mul_one->gL,succ_mul->Kj,mul_comm->DF,div_add_mod->Lf,div_lt_iff_lt_mul->Ai,mod_lt->fE,add_zero->mW,add_comm->kM,two_pow_pos->j4,pow_add->mI,ne_of_gt->uP,le_of_lt_succ->Gm,mul_assoc->AU,zero_mul->DI,mod_eq_of_lt->fO,div_le_self->Dc,add_sub_cancel->yR,min->qI,mul_le_mul->gY,succ_pos->mY,below->Nat.M
open Ne renaming symm->jB
open Option renaming map_some->mE,getD_some->jY,getD->Option.b
open Option.some renaming injEq->rJ
open Or renaming inl->Or.a,inr->Or.b
open UInt8 renaming ofNat->aK,toNat_ofNat'->DC,toNat_inj->kJ,lt_iff_toNat_lt->uV,lt_irrefl->kK,lt_trans->tO,toNat->UInt8.g,toNat_lt->UInt8.a
open Vector renaming ofFn->EM,replicate->bJ,toList->Vector.a
namespace Go.Proofs.YtkjojjopamaoiaaGreat
open Go.RowKit
abbrev fT(w:World)(v:Value):Ending->World->Prop:=fun e w'=>e=.returned v/\Below w.heap.size w w'
abbrev aA:Value:=.int .u8 0
abbrev bg:Value:=.int .i64 0
theorem rT{α:Type _}(x:α):∃y,x=y:=⟨_,rfl⟩
theorem bZ{α:Type _}(x:α):∃y,y=x:=⟨_,rfl⟩

theorem aph(a b:Nat):((a:Int)==(b:Int))=(a==b):=by rw[bF];simp;omega
theorem Bv(a:aT)(n:Nat):(a.add n).block=a.block:=by unfold qQ;split<;>rfl
theorem acI(a:aT)(i j:Nat):(a.add i).add j=a.add (i+j):=by
 unfold qQ;by_cases hi:i=0<;>by_cases hj:j=0<;>simp[hi,hj,nP]
theorem Kt(a:aT):a.add 0=a:=by unfold qQ;simp
def Rd(w:ak)(B size:Nat)(A:Option aT)(n:Nat)(xs:List aB):Prop:=
 xs.a=n*size/\(0<n->∃a,A=some a/\a.block<B/\∀j u,xs[j]? = some u->w.b (a.add j)=some u)
section
variable {w w':ak} {B B' size n:Nat} {A:Option aT} {xs:List aB}
theorem Rd.nil:Rd w B size A 0 []:=⟨by simp,fun h=>absurd h (by omega)⟩
theorem Rd.pick{k:Nat}(h:Rd w B 1 A n xs)(hk:k<n):∃a u,A=some a/\a.block<B/\xs[k]? = some u/\w.b (a.add k)=some u:=by
 obtain⟨a,e,hb,hc⟩:=h.2 (by omega);have hl:k<xs.a:=by have:=h.1;omega
 exact⟨a,xs[k],e,hb,aC hl,hc k _ (aC hl)⟩
theorem Rd.keep(h:Rd w B size A n xs)(hk:∀p:aT,p.block<B->w'.b p=w.b p):Rd w' B size A n xs:=
 ⟨h.1,fun hn=>by
  obtain⟨a,e,hb,hc⟩:=h.2 hn;exact⟨a,e,hb,fun j u hu=>(hk _ (by rw[Bv];exact hb)).trans (hc j u hu)⟩⟩
theorem Rd.lN(h:Rd w B size A n xs)(hB:B<=B'):Rd w B' size A n xs:=
 ⟨h.1,fun hn=>by
  obtain⟨a,e,hb,hc⟩:=h.2 hn;exact⟨a,e,by omega,hc⟩⟩
theorem Rd.M(h:Rd w B size A n xs)(hb:aL B w w'):Rd w' B size A n xs:=h.keep fun _ hp=>hb.cell hp
theorem Rd.to{C:Nat}(h:Rd w B size A n xs)(hb:aL C w w')(hC:B<=C):Rd w' B size A n xs:=h.keep fun _ hp=>hb.cell (by omega)
theorem Rd.drewN(h:Rd w B size A n xs)(k:Nat):Rd (w.drewN k) B size A n xs:=h
theorem Rd.alloc(h:Rd w B size A n xs)(hB:B<=w.a.j)(o:Obj):Rd (w.alloc o) B size A n xs:=h.keep fun p hp=>qo w o p (by omega)
theorem Rd.F(h:Rd w B size A n xs){p:aT}(hB:B<=p.block)(u:aB):Rd (w.F p u) B size A n xs:=
 h.keep fun q hq=>wI w p q u (fun e=>by subst e;omega)
theorem Rd.cut(h:Rd w B size A n xs){k cap:Nat}(hk:k<=n)(hc:n<=cap):
 Rd w B size (if cap=k then A else A.map (·.add (k*size))) (n-k) (xs.f (k*size)):=by
 refine⟨by rw[List.length_drop,h.1,Nat.sub_mul],fun hn=>?_⟩;obtain⟨a,rfl,hb,hcell⟩:=h.2 (by omega);rw[if_neg (by omega)];refine⟨a.add (k*size),rfl,by rw[Bv];exact hb,fun j u hu=>?_⟩;rw[acI];exact hcell _ u (by rw[<-hu,jq])
theorem Rd.upto(h:Rd w B size A n xs){k:Nat}(hk:k<=n):Rd w B size A k (xs.d (k*size)):=by
 refine⟨by rw[bH,h.1];have:=dz size hk;omega,fun hn=>?_⟩;obtain⟨a,rfl,hb,hcell⟩:=h.2 (by omega);refine⟨a,rfl,hb,fun j u hu=>?_⟩;rcases aZ j (k*size)with h1|h1
 ·rw[List.getElem?_take_of_lt h1]at hu
  exact hcell j u hu
 ·rw[aS (by rw[bH];omega)]at hu;cases hu
theorem Rd.iG{base:Nat}{e:bE}{c:Nat}(h:w.c base e size (.a A n c) n xs):Rd w w.a.j size A n xs:=by
 refine⟨h.1,fun hn=>?_⟩;rcases h.2 with⟨_,h0⟩|⟨g,cap,cur,hv,_,_,_,_,_,_⟩
 ·omega
 ·injection hv with hA _ _
  have hl:=(h.lt g (by rw[hA];rfl)).2;exact⟨⟨g,0,none⟩,hA,hl,h.D (by rw[hA];rfl)⟩
end
def bv(b:UInt8):aB:=.b .b (b.g:Nat)
theorem Gs(l:List UInt8):∀u∈l.map bv,u.h=true:=by
 intro u hu;obtain⟨b,_,rfl⟩:=iZ.1 hu;rfl
def gu(w:ak)(B:Nat)(A:Option aT)(n:Nat)(l:List UInt8):Prop:=Rd w B 1 A n (l.map bv)
section
variable {w w':ak} {B B' n:Nat} {A:Option aT} {l:List UInt8}
theorem gu.len(h:gu w B A n l):l.a=n:=by have:=h.1;simpa using this
theorem gu.fH(h:gu w B A n l){k:Nat}(hk:k<n):∃a,A=some a/\a.block<B/\w.b (a.add k)=some (bv (l.b k 0)):=by
 obtain⟨a,u,e,hb,hu,hc⟩:=Rd.pick h hk;refine⟨a,e,hb,?_⟩;rw[hc];have hl:=h.len;rw[iy,aC (by omega)]at hu;simp only[mE,rJ]at hu;rw[<-hu,au,aC (by omega)];rfl
theorem gu.M(h:gu w B A n l)(hb:aL B w w'):gu w' B A n l:=Rd.M h hb
theorem gu.to{C:Nat}(h:gu w B A n l)(hb:aL C w w')(hC:B<=C):gu w' B A n l:=Rd.to h hb hC
theorem gu.lN(h:gu w B A n l)(hB:B<=B'):gu w B' A n l:=Rd.lN h hB
theorem gu.alloc(h:gu w B A n l)(hB:B<=w.a.j)(o:Obj):gu (w.alloc o) B A n l:=Rd.alloc h hB o
theorem gu.F(h:gu w B A n l){p:aT}(hB:B<=p.block)(u:aB):gu (w.F p u) B A n l:=Rd.F h hB u
theorem gu.alj{b c:Nat}{t:bE}{N:Nat}{f:Nat->aB}(h:w.rowIs b t N f)(hn:l.a<=N)(hb:b<B)(hf:∀j,j<l.a->f j=bv (l.b j 0)):gu w B (some ⟨b,0,none⟩) l.a l:=by
 refine⟨by simp,fun h0=>⟨⟨b,0,none⟩,rfl,hb,fun j u hu=>?_⟩⟩;have hj:j<l.a:=by
  rcases aZ j l.a with h1|h1
  ·exact h1
  ·rw[aS (by simpa using h1)]at hu;cases hu
 have e:(⟨b,0,none⟩:aT).add j=⟨b,j,none⟩:=by unfold qQ;split<;>simp_all
 rw[e,h.cell (by omega),hf j hj];rw[iy,aC hj]at hu;simp only[mE,rJ]at hu;rw[<-hu,au,aC hj];rfl
end
def bP(l:List UInt8):ByteArray:=⟨l.c⟩
theorem RG(s:ByteArray):bP s.data.a=s:=by cases s;rfl
theorem Je{P:eD}{w:ak}{B:Nat}{A:Option aT}{n:Nat}{l:List UInt8}(h:gu w B A n l)(src e dst:bE)
 (hs:P.k src=some (.a e)) (he:P.k e=some (.b .b)) (hd:P.k dst=some .g) (c:Nat) :
 (convert src dst (.a A n c)).G P w = .Y (.g (bP l)) w:=by
 have hlen:=h.len;cases A with
 | none=>
   have h0:n=0:=by
    rcases eu n with h0|h0
    ·exact h0
    ·obtain⟨a,ha,_⟩:=h.2 h0;cases ha
   have hl:l=[]:=bG (by omega);subst hl;rw[run_convert_bytes_nil w src e hs he n c dst hd];rfl
 | some a=>
   have hld:(loadCells a n).G P w = .Y ((l.map fun b=>(b.g:Int)).map (aI .b)).c w:=by
    have hm:(l.map fun b=>(b.g:Int)).map (aI .b)=l.map bv:=by rw[I6];rfl
    rw[hm];have:=run_loadCells_list (P:=P) w a (l.map bv) (fun j v hj=>by
     have hn:0<n:=by
      rcases eu n with h0|h0
      ·have hl:l=[]:=bG (by omega)
       subst hl;simp at hj
      ·exact h0
     obtain⟨a',ha,_,hc⟩:=h.2 hn;injection ha with ha
     subst ha;exact hc j v hj)
    simpa[hlen]using this
   rw[run_convert_bytes_string w src dst e _ n c hs he hd,run_bytesToString w _ n c _ hld,foldl_push_bytes];simp[bP,ByteArray.empty,ByteArray.emptyWithCapacity,I6,Function.comp_def];rfl
theorem AX{a w:ak}{row:Option Nat}(h:a.d w row):a.d w.drew row:=⟨h.os,h.tape,h.output,h.j,h.block⟩
theorem xZ{a w:ak}{g:Nat}(h:a.d w (some g)){p:aT}(hp:p.block=g\/a.a.j<=p.block)(u:aB):a.d (w.F p u) (some g):=
 ⟨h.os,h.tape,h.output,by simpa[iq]using h.j,fun i hi hne=>(rM w p u i (by
  rintro rfl;rcases hp with hp|hp
  ·exact hne (by rw[hp])
  ·omega)).trans (h.block i hi hne)⟩
theorem Ns{a b c:ak}{row:Option Nat}(h:a.d b row)(k:b.d c row):a.d c row:=
 ⟨k.os.trans h.os,k.tape.trans h.tape,k.output.trans h.output,aO h.j k.j,fun i hi hne=>(k.block i (eF hi h.j) hne).trans (h.block i hi hne)⟩
theorem sS{B:Nat}{a b c:ak}{g:Nat}(h:aL B a b)(k:b.d c (some g))(hg:B<=g)(hB:B<=b.a.j):aL B a c:=
 h.grown k hB (fun x hx=>by injection hx with hx;omega)
theorem eH{B:Nat}{a w:ak}(h:aL B a w)(n:Nat):aL B a (w.drewN n):=⟨h.os,h.tape,h.output,h.j,h.block⟩
theorem fJ{w a b:ak}(h1:aL w.a.j w a)(h2:aL a.a.j a b):aL w.a.j w b:=h1.trans (h2.e h1.j)
theorem apj{w a b:ak}(h1:aL w.drew.a.j w.drew a)(h2:aL a.a.j a b):aL w.a.j w b:=
 have h:aL w.a.j w a:=⟨h1.os,h1.tape,h1.output,h1.j,h1.block⟩
 h.trans (h2.e h1.j)
theorem apk(l r:List UInt8):(l==r)=decide (l=r):=by rw[bF];simp
theorem dig(n:Nat)(h:n<256):(aK n).g=n:=by simp[UInt8.toNat_ofNat];omega
theorem jG{w:ak}{base:Nat}{e:bE}{size:Nat}{v:aB}{n:Nat}{xs:List aB}(h:w.c base e size v n xs):∃A cap,v=.a A n cap/\n<=cap/\cap<=maxLen:=by
 rcases h.2 with⟨rfl,rfl⟩|⟨g,cap,cur,rfl,_,_,h1,h2,_,_⟩
 ·exact⟨_,_,rfl,av _,by unfold maxLen;omega⟩
 ·exact⟨_,_,rfl,h1,h2⟩
section
variable {P:eD} (w:ak)
theorem acJ(base:Nat)(t ty e:bE)(i:nW)(size:Nat)(ht:P.k t=some (.a e))(hi:P.l e=some i)
 (v:aB) (n:Nat) (xs:List aB) (hown:w.c base e size v n xs) (c:Nat):(Ao #[t,t] ty #[v,.a none 0 c]).G P w = .Y v w:=by
 rcases hown.2 with⟨rfl,rfl⟩|⟨g,cap,cur,rfl,_,_,hnc,_⟩
 ·simp[Ao,dJ ht,sizeOf,typeInfo,hi,Builtin.lenOf,uo]
 ·simp[Ao,dJ ht,sizeOf,typeInfo,hi,Builtin.lenOf,uo,hnc,storeCells]
theorem afi(base:Nat)(t ty e:bE)(i:nW)(z:aB)(size bytes:Nat)(ht:P.k t=some (.a e))(hi:P.l e=some i)(hz:i.zero=some z)
 (hsize:i.j=size) (hby:i.bytes=bytes) (hzs:z.D.j=size) (hsz:0<size)
 (v:aB) (n:Nat) (xs:List aB) (hown:w.c base e size v n xs)
 (B:Nat) (A:Option aT) (m c:Nat) (news:List aB) (hr:Rd w B size A m news) (h1:∀u∈news,u.h=true)
 (h63:n+m<=maxLen) (hbytes:(n+m)*bytes<=140737488355328) (hbase:base<=w.a.j) :
 ∃v' w',(Ao #[t,t] ty #[v,.a A m c]).G P w = .Y v' w'/\w'.c base e size v' (n+m) (xs++news)/\w.d w' v.f /\
  (v'.f=v.f\/v'.f=some w.a.j):=by
 rcases A with _|ad
 ·have hm:m=0:=by
   rcases eu m with h0|h0
   ·exact h0
   ·obtain⟨ad,h,_⟩:=hr.2 h0
    cases h
  subst hm;have hn:news=[]:=bG (by simpa using hr.1);subst hn;exact⟨v,w,acJ w base t ty e i size ht hi v n xs hown c,by simpa using hown,World.grownBy.refl w _,.a rfl⟩
 ·have hcells:∀j u,news[j]? = some u->w.b (ad.add j)=some u:=by
   intro j u hu;rcases eu m with h0|h0
   ·subst h0
    have hn:news=[]:=bG (by simpa using hr.1);subst hn;simp at hu
   ·obtain⟨ad',h,_,hc⟩:=hr.2 h0
    injection h with h
    subst h;exact hc j u hu
  obtain⟨v',w',hrun,h2,h3,_,h5⟩:=run_append_own_at (P:=P) w base t ty e i z size bytes ht hi hz hsize hby hzs hsz v n xs hown ad m c news hr.1 hcells h1 h63 hbytes hbase;exact⟨v',w',hrun,h2,h3,h5⟩
theorem Ku{o:iM}{a:qG}{K:qG->ak->Prop}{Q:yP->qG->ak->Prop}(s x:qj)(t:bE)
 (ho:o.op=.call {callee:=.builtin .append,args:=#[s,x],argTypes:=#[t,t]})
 (base:Nat) (e:bE) (i:nW) (z:aB) (size bytes:Nat) (ht:P.k t=some (.a e)) (hi:P.l e=some i) (hz:i.zero=some z)
 (hsize:i.j=size) (hby:i.bytes=bytes) (hzs:z.D.j=size) (hsz:0<size)
 (v:aB) (n:Nat) (xs:List aB) (hs:a.eval s=v) (hown:w.c base e size v n xs)
 (B:Nat) (A:Option aT) (m c:Nat) (news:List aB) (hx:a.eval x=.a A m c) (hr:Rd w B size A m news) (h1:∀u∈news,u.h=true)
 (h63:n+m<=maxLen) (hbytes:(n+m)*bytes<=140737488355328) (hbase:base<=w.a.j)
 (h:∀v' w',w'.c base e size v' (n+m) (xs++news)->w.d w' v.f->(v'.f=v.f\/v'.f=some w.a.j)->K (a.put o.S v') w'):o.wp P a w K Q:=by
 obtain⟨v',w',hrun,h2,h3,h4⟩:=afi (P:=P) w base t o.p e i z size bytes ht hi hz hsize hby hzs hsz v n xs hown B A m c news hr h1 h63 hbytes hbase;unfold nG execOp;simp only[ho,resolve,invoke,builtin,jP,oJ,gQ,List.map_toArray,kR,List.map_nil,hs,hx,hrun];exact h v' w' h2 h3 h4
theorem jC{ops:Array iM}{rest:List iM}{o:iM}{a:qG}{Q:yP->qG->ak->Prop}(hgd:o.guard=none)(s x:qj)(t:bE)
 (ho:o.op=.call {callee:=.builtin .append,args:=#[s,x],argTypes:=#[t,t]})
 (base:Nat) (e:bE) (i:nW) (z:aB) (size bytes:Nat) (ht:P.k t=some (.a e)) (hi:P.l e=some i) (hz:i.zero=some z)
 (hsize:i.j=size) (hby:i.bytes=bytes) (hzs:z.D.j=size) (hsz:0<size)
 (v:aB) (n:Nat) (xs:List aB) (hs:a.eval s=v) (hown:w.c base e size v n xs)
 (B:Nat) (A:Option aT) (m c:Nat) (news:List aB) (hx:a.eval x=.a A m c) (hr:Rd w B size A m news) (h1:∀u∈news,u.h=true)
 (h63:n+m<=maxLen) (hbytes:(n+m)*bytes<=140737488355328) (hbase:base<=w.a.j)
 (h:∀v' w',w'.c base e size v' (n+m) (xs++news)->w.d w' v.f->(v'.f=v.f\/v'.f=some w.a.j)->wpList P ops Q rest (a.put o.S v') w'):wpList P ops Q (o::rest) a w:=
 tL hgd fun _ hK=>Ku w s x t ho base e i z size bytes ht hi hz hsize hby hzs hsz v n xs hs hown B A m c news hx hr h1 h63 hbytes hbase fun v' w' h2 h3 h4=>hK _ _ (h v' w' h2 h3 h4)
end
theorem Jf:(ah.l 5).map (fun i=>(i.zero,i.j,i.bytes))=some (some (.b .b 0),1,1):=by kernel_rfl
def Dq(n i:Nat):UInt8:=aK (n/2^(8*i))
def rR(n k:Nat):List UInt8:=(bY k).map (Dq n)
def gM(n k:Nat)(big:Bool):List UInt8:=if big then(rR n k).reverse else rR n k
theorem alk(f:Nat->Int)(k m n i:Nat)(hm:m+k+1=n)(hkm:k<m)(hi:i<n)(x y:Int)(hx:x=f k)(hy:y=f m):
 (if i=m then aI .b x else if i=k then aI .b y else aI .b (if i<k\/n-k<=i then f (n-1-i)else f i)) =
  aI .b (if i<k+1\/n-(k+1)<=i then f (n-1-i)else f i):=by
 subst hx hy;by_cases h1:i=m
 ·subst h1
  rw[if_pos rfl,if_pos (by omega)];congr 2;omega
 ·rw[if_neg h1]
  by_cases h2:i=k
  ·subst h2
   rw[if_pos rfl,if_pos (by omega)];congr 2;omega
  ·rw[if_neg h2]
   by_cases h3:i<k\/n-k<=i
   ·rw[if_pos h3,if_pos (by omega)]
   ·rw[if_neg h3,if_neg (by omega)]
theorem acL(g n c:Nat)(f:Nat->Int)(w:ak)(hb:w.rowIs g 5 n (fun j=>.b .b (f j)))(hn:n<=4611686018427387904):
 aP ah 255 #[.a (some ⟨g,0,none⟩) n c] w fun e w'=>e=.a (.I #[]) /\
  w'.rowIs g 5 n (fun j=>.b .b (f (n-1-j)))/\w.d w' (some g):=by
 go_enter Tryz.func255,Tryz.ntmps255;go_wp2;go_loopw [2,3] (fun s2 s3 wr=>∃k:Nat,2*k<=n+1/\s2=.b .a k/\s3=.b .a ((n:Int)-1-k)/\wr.rowIs g 5 n (fun j=>.b .b (if j<k\/n-k<=j then f (n-1-j)else f j))/\w.d wr (some g)) (fun _ s3 _=>(intOf s3+1).g)
 case atStart=>exact⟨0,by omega,rfl,by simp,hb.congr (fun i hi=>by rw[if_neg (by omega)]),World.grownBy.refl _ _⟩
 case round=>
  obtain⟨k,hk,rfl,rfl,hrow,hg⟩:=hrel;by_cases hlt:(k:Int)<(n:Int)-1-k
  ·obtain⟨m,hm⟩:∃m:Nat,(n:Int)-1-k=m:=⟨n-1-k,by omega⟩
   have hm1:k<m:=by omega
   have hm2:m+k+1=n:=by omega
   rw[hm]at hlt ⊢;clear hm;have HM:=ab hm2;have c1:=hrow.cell (i:=k) (by omega);have c2:=hrow.cell (i:=m) (by omega);have f1:=hrow.frozen k;have f2:=hrow.frozen m;rw[if_neg (by omega)]at c1 c2;have hb1:(k:Int)<n:=by omega
   have hb2:(m:Int)<n:=by omega
   clear hm2;obtain⟨x,hx⟩:=bZ (f k);obtain⟨y,hy⟩:=bZ (f m);rw[<-hx]at c1;rw[<-hy]at c2;have HX:=ab hx;have HY:=ab hy;clear hx hy;have HR:=ab hrow;clear hrow;go_wp2;go_region
   all_goals go_wp2
   all_goals go_roundw
   case rel=>
    have hm2:=HM.i;refine⟨k+1,by omega,by go_num,by simp<;>omega,?_,?_⟩
    ·refine(((HR.i.drew.set k _).set m _)).congr (fun i hi=>?_)
     exact alk f k m n i hm2 hm1 hi x y HX.i HY.i
    ·exact xZ (xZ (AX hg) (.a rfl) _) (.a rfl) _
   case measure=>simp[intOf]<;>omega
  ·go_wp2
   go_end0;refine⟨rfl,hrow.congr (fun i hi=>?_),hg⟩;by_cases h1:i<k\/n-k<=i
   ·rw[if_pos h1]
   ·rw[if_neg h1]
    have:n-1-i=i:=by omega
    rw[this]
theorem acM(n i:Nat):((Dq n i).g:Int)=(n:Int)/2^(8*i)%256:=by
 unfold Dq;simp[UInt8.toNat_ofNat]
theorem apl(n k:Nat)(hk:k<=8)(hn:n<18446744073709551616)(big:Bool)(w:ak):
 aP ah 184 #[.b .c n,.b .a k,.e big] w fun e w'=>e=.a (.a (some ⟨w.a.j,0,none⟩) k k) /\
  w'.rowIs w.a.j 5 k (fun j=>bv ((gM n k big).b j 0))/\aL w.a.j w w':=by
 have hmk:=run_make_row' (P:=ah) 56 5 (.b .b 0) 1 cO Jf rfl .a .a k (by omega) (by omega);go_enter Tryz.func184,Tryz.ntmps184;go_wp2;go_loopw [15] (fun s15 wr=>∃i:Nat,i<=k/\s15=.b .a i/\wr.rowIs w.a.j 5 k (fun j=>if j<i then bv (Dq n j)else .b .b 0)/\aL w.a.j w wr) (fun s15 _=>k-(intOf s15).g)
 case atStart=>
  refine⟨0,by omega,rfl,?_,(aG _ _).alloc (av _) _⟩;exact(World.rowIs_made w (.b .b 0) k _).congr (fun i hi=>by simp)
 case round=>
  obtain⟨i,hi,rfl,hrow,hb⟩:=hrel;by_cases hlt:i<k
  ·have c1:=hrow.cell hlt
   have f1:=hrow.frozen i;rw[if_neg (by omega)]at c1;have hlb:=acM n i;have HL:=ab hlb;have HR:=ab hrow;have HB:=ab hb;clear hlb hrow hb hmk;go_wp2;go_roundw
   case rel=>
    refine⟨i+1,by omega,by go_num,?_,?_⟩
    ·refine(HR.i.set i _).congr (fun j hj=>?_)
     by_cases e:j=i
     ·subst e
      rw[if_pos rfl,if_pos (by omega)];unfold bv;rw[HL.i]
     ·rw[if_neg e]
      by_cases e2:j<i
      ·rw[if_pos e2,if_pos (by omega)]
      ·rw[if_neg e2,if_neg (by omega)]
    ·exact HB.i.F (av _) _
   case measure=>simp[intOf]<;>omega
  ·obtain rfl:i=k:=by omega
   have HB:=ab hb;clear hb hmk;cases big
   ·have HR:=ab hrow
    clear hrow;go_wp2;go_ret;refine⟨rfl,HR.i.congr (fun j hj=>?_),HB.i⟩;rw[if_pos hj];simp[gM,rR,au,hj]
   ·have hrow2:wr.rowIs w.a.j 5 i (fun j=>.b .b ((Dq n j).g:Nat)):=hrow.congr (fun j hj=>by rw[if_pos hj];rfl)
    have hrev:=fun c=>acL w.a.j i c (fun j=>((Dq n j).g:Nat)) wr hrow2 (by omega)
    clear hrow hrow2;go_wp2_with (go_at_call 255;refine(hrev _).e ?_;rintro e w' ⟨rfl,hr',hg'⟩);go_ret;refine⟨rfl,hr'.congr (fun j hj=>?_),sS HB.i hg' (av _) HB.i.j⟩;simp[gM,rR,au,List.getElem?_reverse,hj,bv]
def oP(l:List UInt8):Nat:=l.foldl (fun a c=>a*256+c.g) 0
theorem Jg(l:List UInt8)(c:UInt8):oP (l++[c])=oP l*256+c.g:=by simp[oP]
theorem Kv(l:List UInt8):oP l<256^l.a:=by
 have key:∀(l:List UInt8)(a k:Nat),a<256^k->l.foldl (fun a c=>a*256+c.g) a<256^(k+l.a):=by
  intro l
  induction l with
  | nil=>intro a k h;simpa using h
  | cons c l ih=>
    intro a k h;have:=ih (a*256+c.g) (k+1) (by rw[Nat.pow_succ];have:=c.a;omega);simp only[j3,bD];rw[show k+(l.a+1)=k+1+l.a by omega];exact this
 have:=key l 0 0 (by simp);rw[bl]at this;exact this
theorem U0(l:List UInt8)(k:Nat)(h:k<l.a):l.d (k+1)=l.d k++[l.b k 0]:=by
 rw[dF h,au,aC h];rfl
theorem ahr(a c:Nat)(ha:a*256<18446744073709551616)(hc:c<256):bits .or .c ((a:Int)*256) (c:Int)=((a*256+c:Nat):Int):=by
 rw[show(a:Int)*256=((a*256:Nat):Int)by omega,bits_or_u64_nat _ _ ha (by omega)];rw[show a*256=a <<< 8 by rw[mU],Nat.shiftLeft_add_eq_or_of_lt (by omega)]
theorem Nu(A:Option aT)(n c:Nat)(l:List UInt8)(w:ak)(hnc:n<=c)(hc:c<=9223372036854775807)(hr:gu w w.a.j A n l):
 aP ah 180 #[.a A n c,.e true] w (fT w (.b .c (oP (l.d 8)))):=by
 have hlen:=hr.len;have hr2:=hr.alloc (av _) (.D #[.b .c 0] 92);obtain⟨m,hm,hm8,hmn⟩:∃m:Nat,(if(8:Int)<(n:Int)then(8:Int)else(n:Int))=m/\m<=8/\m<=n:=⟨min n 8,by split<;>omega,by omega,by omega⟩
 have hmm:m=min n 8:=by split at hm<;>omega
 have HMM:=ab hmm;have hnl:n<=l.a:=by omega
 have HLEN:=ab hlen;clear hlen hmm;go_enter Tryz.func180,Tryz.ntmps180;go_wp2;have HM:=ab hm;clear hm;go_loopw [18] (fun s18 wr=>∃i:Nat,i<=m/\s18=.b .a i/\wr.rowIs w.a.j 92 1 (fun _=>.b .c (oP (l.d i)))/\gu wr w.a.j A n l/\aL w.a.j w wr) (fun s18 _=>m-(intOf s18).g)
 case atStart=>exact⟨0,by omega,rfl,(World.rowIs_alloc w #[.b .c 0] _ _ (fun i hi=>by simp at hi;subst hi;rfl)),hr2,(aG _ _).alloc (av _) _⟩
 case round=>
  obtain⟨i,hi,rfl,hrow,hrd,hb⟩:=hrel;by_cases hlt:i<m
  ·obtain⟨a,rfl,hab,hcell⟩:=hrd.fH (k:=i) (by omega)
   have c1:=hrow.cell (i:=0) (by omega);have f1:=hrow.frozen 0;have hbn:=Kv (l.d i);have hsn:=Jg (l.d i) (l.b i 0);rw[<-U0 l i (by omega)]at hsn;have Yz:oP (l.d i)*256<18446744073709551616:=by
    have h1:(l.d i).a<=7:=by rw[bH];omega
    have h2:256^(l.d i).a<=256^7:=kX (by omega) h1;omega
   have hor:=ahr (oP (l.d i)) (l.b i 0).g Yz (l.b i 0).a;have Et:=ab hsn;have HR:=ab hrow;have HD:=ab hrd;have HB:=ab hb;have aau:=(l.b i 0).a;unfold bv at hcell;generalize(l.b i 0).g=ch at hcell hor aau Et;generalize oP (l.d i)=nn at c1 Yz hor Et HR;clear hrow hrd hb hsn hbn hr hr2;go_wp2;go_roundw
   case rel=>
    refine⟨i+1,by omega,by go_num,?_,?_,?_⟩
    ·refine(HR.i.set 0 _).congr (fun j hj=>?_)
     rw[if_pos (by omega),Et.i];go_num
    ·exact HD.i.F (av _) _
    ·exact HB.i.F (av _) _
   case measure=>simp[intOf]<;>omega
  ·obtain rfl:i=m:=by omega
   have c1:=hrow.cell (i:=0) (by omega);have HB:=ab hb;clear hrow hrd hb hr hr2;go_wp2;go_ret;refine⟨?_,HB.i⟩;have hmm:=HMM.i;have hlen:=HLEN.i;have e:l.d 8=l.d i:=by
    rw[hmm];by_cases h8:n<=8
    ·rw[oN h8,aJ (by omega),aJ (by omega)]
    ·rw[Ap (by omega)]
   rw[e];rfl
section
open Go.ChangeShapes Go.WideShapes Go.ChangeAt Go.RowKit
theorem vL:ownKnob ah.godebug=none:=by kernel_rfl
theorem ahs:laidOutB ah=true:=by kernel_rfl
section
variable {H:Type} {enc:bE×aB->H} {P:eD}
theorem LG(hl:laidOutB P=true){W W':ak}(hb:aL W.a.j W W'):∀{ts:List bE} {vs:List aB} {ds:List (vR H)} {ps:List oZ},
 (ts.all fun t=>P.readableRec t&&decide (t<P.types.j))=true->(∀x∈ps,x.block<W.a.j) ->
 DataW.TrodAll enc P W 0 (fun _=>true) true ts vs ds ps->DataW.TrodAll enc P W' 0 (fun b=>decide (b<W.a.j)) true ts vs ds ps
 | [],vs,ds,ps,_,_,h=>by
   obtain⟨rfl,rfl,rfl⟩:=trodAll_nil h;exact trodAll_mk0
 | t::ts,vs,ds,ps,hr,hlt,h=>by
   obtain⟨v,vs',d,ds',p,q,rfl,rfl,rfl,h1,h2⟩:=trodAll_cons h;simp only[List.all_cons,bf,decide_eq_true_eq]at hr;exact trodAll_cons_mk (Below.trod hl hr.1.1 hr.1.2 h1 hb (fun x hx=>hlt x (AQ _ hx)))
    (LG hl hb hr.2 (fun x hx=>hlt x (List.mem_append_right _ hx)) h2)
theorem alm{f:Func}{s:ChangeSpec}(hl:laidOutB P=true){W W':ak}{args:Array aB}{ds gs:List (vR H)}{before:List oZ}
 (hvars:s.vars=[]) (hr:(f.params.a.all fun t=>P.readableRec t&&decide (t<P.types.j))=true) (T:bE) (hT:P.k T=some .e) (hres:f.resultTypes = #[T])
 (hW:DataW.Whole enc P f.params.a s.vars false W args.a ds gs before)
 (hs:s.fn H ds={results:=[.lit (.e true)],args:=ds})
 (hb:aL W.a.j W W'):s.post enc P f false true false false W args (.e true) W':=by
 have hlt:∀p∈before,p.block<W.a.j:=fun p hp=>hW.lt p hp
 have hW':=hW;obtain⟨p,q,hA,hV,rfl,hfz,hnd⟩:=hW;rw[hvars]at hV;obtain⟨rfl,rfl⟩:=trodVars_none hV;refine⟨ds,[],p++[],[],p,[],hW',?_,?_,?_,?_,fun h=>by cases h⟩
 ·rw[uU,hs,hres]
  exact trodAll_mk1 (shut_bool hT true)
 ·rw[uU,hs]
  exact LG hl hb hr (fun x hx=>hlt x (AQ _ hx)) hA
 ·rw[uU,hs,hvars]
  rfl
 ·exact hb.frame _
end
end
@[go_sem,simp]theorem LH(l:List UInt8):(bP l).a=l:=ByteArray.toList_mk l
@[go_sem,simp]theorem zS(l:List UInt8):(bP l).j=l.a:=by simp[bP,ByteArray.size]
def sU(w:ak)(e:bE)(s:List UInt8):ak:=Lib.bytesWorld w e (bP s)
theorem Ik(w:ak)(e:bE)(s:List UInt8):aL w.a.j w (sU w e s):=
 ⟨rfl,rfl,rfl,by unfold sU;rw[Lib.bytesWorld_size];omega,fun k hk=>Lib.bytesWorld_at_old w e _ k hk⟩
theorem Il(w:ak)(e:bE)(s:List UInt8):gu (sU w e s) (w.a.j+1) (some ⟨w.a.j,0,none⟩) s.a s:=by
 refine⟨by simp,fun _=>⟨_,rfl,mV _,fun j u hu=>?_⟩⟩;have hj:j<s.a:=by
  rcases aZ j s.a with h1|h1
  ·exact h1
  ·rw[aS (by simpa using h1)]at hu;cases hu
 have e1:(⟨w.a.j,0,none⟩:aT).add j=⟨w.a.j,j,none⟩:=by unfold qQ;split<;>simp_all
 rw[e1];unfold sU;rw[Lib.bytesWorld_cell w e _ j (by rw[zS];exact hj)];rw[iy,aC hj]at hu;simp only[mE,rJ]at hu;rw[<-hu];simp[bP,bv,au,hj]
theorem Jh{P:eD}(src dst e:bE)(hs:P.k src=some .g)(hd:P.k dst=some (.a e))(he:P.k e=some (.b .b))(s:List UInt8)(w:ak):
 (convert src dst (.g (bP s))).G P w = .Y (.a (some ⟨w.a.j,0,none⟩) s.a (grownCap w s.a 0 e)) (sU w e s):=by
 have:=Lib.run_convert_string_bytes (P:=P) w src dst e (bP s) hs hd he;rw[zS]at this;exact this
section
open Go.RowKit Go.ChangeShapes Go.WideShapes Go.ChangeAt Go.Deep
def fv(n:Nat):aB:=.float .f64 n
@[go_sem]theorem aGD(n:Nat):fv n=.float .f64 n:=rfl
section
variable {P:eD}
theorem lX(w:ak)(c:Array aB)(t:bE)(j:Nat):(w.alloc (.D c t)).b ⟨w.a.j,j,none⟩=c[j]?:=
 tN _ _ j c t (0,0) (heap_alloc_last w _)
end
def vK(W:ak)(b o n:Nat):Prop:=∀j,j<n->∃v,W.b ⟨b,o+j,none⟩=some v
def dO(W:ak)(b o n:Nat):Array aB:=((bY n).map fun j=>(W.b ⟨b,o+j,none⟩).b undef).c
theorem Gt(W:ak)(b o n:Nat):(dO W b o n).j=n:=by simp[dO]
theorem DJ(W:ak)(b o n j:Nat)(hj:j<n):(dO W b o n)[j]? = some ((W.b ⟨b,o+j,none⟩).b undef):=by
 simp[dO,dW,hj]
theorem uX{W:ak}{b o n:Nat}{c:Array aB}(hn:c.j=n)(h:∀j,j<n->W.b ⟨b,o+j,none⟩=c[j]?):vK W b o n/\dO W b o n=c:=by
 subst hn;constructor
 ·intro j hj
  exact⟨c[j],by rw[h j hj];exact fF hj⟩
 ·apply dZ
  intro j;rcases aZ j c.j with hj|hj
  ·rw[DJ _ _ _ _ _ hj,h j hj,fF hj];rfl
  ·rw[aU (by rw[Gt];exact hj),aU hj]
theorem BM{W W':ak}{b o n:Nat}(h:∀j,j<n->W'.b ⟨b,o+j,none⟩=W.b ⟨b,o+j,none⟩):dO W' b o n=dO W b o n:=by
 unfold dO;congr 1;refine Db (fun j hj=>?_);rw[h j (dV.1 hj)]
@[go_sem]theorem axW(W:ak)(b o n:Nat):vK W.drew b o n=vK W b o n:=by rw[eq_iff_iff];exact Iff.rfl
@[go_sem]theorem apm(W:ak)(b o n:Nat):dO W.drew b o n=dO W b o n:=rfl
@[go_sem]theorem awO(W:ak)(k b o n:Nat):vK (W.drewN k) b o n=vK W b o n:=by rw[eq_iff_iff];exact Iff.rfl
@[go_sem]theorem aoX(W:ak)(k b o n:Nat):dO (W.drewN k) b o n=dO W b o n:=rfl
@[go_sem]theorem aoY(W:ak)(ob:Obj)(b o n:Nat)(hb:b<W.a.j):dO (W.alloc ob) b o n=dO W b o n:=
 BM fun j _=>qo W ob _ hb
@[go_sem]theorem aoZ(W:ak)(ob:Obj)(b o n:Nat)(hb:b<W.a.j):vK (W.alloc ob) b o n=vK W b o n:=by
 have h:∀j,(W.alloc ob).b ⟨b,o+j,none⟩=W.b ⟨b,o+j,none⟩:=fun j=>qo W ob _ hb
 unfold vK;simp only[h]
theorem Ji(w:ak)(c:Array aB)(t:bE)(o n:Nat)(d:Array aB)(hd:d.j=n)(h:∀j,j<n->c[o+j]? = d[j]?):
 vK (w.alloc (.D c t)) w.a.j o n/\dO (w.alloc (.D c t)) w.a.j o n=d:=
 uX hd fun j hj=>by rw[lX];exact h j hj
theorem jZ{P:eD}(W:ak)(b o n:Nat)(ty:bE)(d:TypeDesc)(hu:P.k ty=some d)(hd:d.isRow=true)(hi:(P.l ty).map (·.j)=some n)(h:vK W b o n):
 (cK ty (.c (some ⟨b,o,none⟩))).G P W = .Y (.d (dO W b o n)) W:=by
 have hc:W.rangeAt b o (dO W b o n).a:=fun j v hv=>by
  have hj:j<n:=by
   rcases aZ j n with h1|h1
   ·exact h1
   ·rw[aS (by rw[aY,Gt];exact h1)]at hv;cases hv
  rw[dG,DJ _ _ _ _ _ hj]at hv;obtain⟨u,hu⟩:=h j hj;rw[hu]at hv ⊢;exact hv
 have:=run_loadAt_mid (P:=P) W b o ty (dO W b o n).a d hc hu hd (by rw[hi,aY,Gt]);simpa using this
theorem RJ{w W:ak}{b o n B:Nat}(h:w.K b o n)(hb:aL B w W)(hlt:b<B):W.K b o n:=fun j hj=>by
 obtain⟨h1,h2⟩:=h j hj;exact⟨by rw[hb.cell hlt];exact h1,by rw[hb.frozen hlt];exact h2⟩
theorem Kw{w W:ak}{c:Array aB}{t:bE}(hb:aL (w.alloc (.D c t)).a.j (w.alloc (.D c t)) W):∀k,W.b ⟨w.a.j,k,none⟩=c[k]?:=fun k=>by
 rw[hb.cell (p:=⟨w.a.j,k,none⟩) (by simp)];exact lX w c t k
theorem oz(c:Array aB)(o n j:Nat)(hj:j<n)(h:o+n<=c.j):(c.extract o (o+n))[j]? = c[o+j]?:=by
 rw[dA];simp;omega
def eB(c:Array aB):Nat:=c.j
@[go_sem]theorem aBj(W:ak)(c:Array aB)(t:bE)(b o n:Nat)(hb:b=W.a.j)(h:o+n<=eB c):vK (W.alloc (.D c t)) b o n=True:=by
 subst hb;unfold eB at h;simp only[eq_iff_iff,iff_true];exact(Ji W c t o n (c.extract o (o+n)) (by rw[jJ];omega) (fun j hj=>(oz c o n j hj h).symm)).1
@[go_sem]theorem ar'(W:ak)(c:Array aB)(t:bE)(b o n:Nat)(hb:b=W.a.j)(h:o+n<=eB c):dO (W.alloc (.D c t)) b o n=c.extract o (o+n):=by
 subst hb;unfold eB at h;exact(Ji W c t o n (c.extract o (o+n)) (by rw[jJ];omega) (fun j hj=>(oz c o n j hj h).symm)).2
theorem U1{W w1:ak}(hb:aL W.a.j W w1):
 (∀b o,b<W.a.j->w1.b ⟨b,o,none⟩=W.b ⟨b,o,none⟩)/\(∀b o,b<W.a.j->w1.frozen? ⟨b,o,none⟩=W.frozen? ⟨b,o,none⟩) /\
 (∀b o n,b<W.a.j->vK w1 b o n=vK W b o n)/\(∀b o n,b<W.a.j->dO w1 b o n=dO W b o n)/\W.a.j<=w1.a.j:=by
 refine⟨fun b o h=>hb.cell (p:=⟨b,o,none⟩) h,fun b o h=>hb.frozen (p:=⟨b,o,none⟩) h,fun b o n h=>?_,fun b o n h=>BM fun j _=>hb.cell (p:=⟨b,o+j,none⟩) h,hb.j⟩;unfold vK;have:∀j,w1.b ⟨b,o+j,none⟩=W.b ⟨b,o+j,none⟩:=fun j=>hb.cell (p:=⟨b,o+j,none⟩) h
 simp only[this]
@[go_sem]theorem aBk(W:ak)(p:aT)(v:aB)(b o n:Nat):vK (W.F p v) b o n=vK W b o n:=by
 rw[eq_iff_iff];unfold vK;refine forall_congr' fun j=>forall_congr' fun hj=>?_
 by_cases hp:p=⟨b,o+j,none⟩
 ·subst hp
  cases h:W.b ⟨b,o+j,none⟩with
  | none=>
    have:(W.F ⟨b,o+j,none⟩ v).b ⟨b,o+j,none⟩=none:=by
     cases h2:(W.F ⟨b,o+j,none⟩ v).b ⟨b,o+j,none⟩with
     | none=>rfl
     | some u=>
       exfalso;cases hb:W.a[b]? with
       | none=>simp[ER,iq,zR,hb]at h2
       | some ob=>
         cases ob<;>simp_all[ER,iq,zR]
    simp[this]
  | some u=>simp[World.cell?_setCell_same _ _ _ h]
 ·rw[wI _ _ _ _ hp]
@[go_sem]theorem asa(W:ak)(p:aT)(v:aB)(b o n:Nat)(hp:p.block≠b):dO (W.F p v) b o n=dO W b o n:=
 BM fun j _=>wI _ _ _ _ (fun e=>hp (by rw[e]))
def dM(W:ak)(b:Nat)(c:Array aB):Prop:=∃t,W.a[b]? = some (.D c t (0,0))
theorem dM.lt{W:ak}{b:Nat}{c:Array aB}(h:dM W b c):b<W.a.j:=by
 obtain⟨t,h⟩:=h;exact(bW.1 h).1
theorem dM.new(W:ak)(c:Array aB)(t:bE):dM (W.alloc (.D c t)) W.a.j c:=⟨t,Ii W _⟩
theorem dM.TJ(W:ak)(ob:Obj)(c:Array aB)(t:bE):dM ((W.alloc ob).alloc (.D c t)) (W.a.j+1) c:=by
 have:=dM.new (W.alloc ob) c t
 rwa [show(W.alloc ob).a.j=W.a.j+1 by simp]at this
theorem dM.aiK(W:ak)(ob Im:Obj)(c:Array aB)(t:bE):dM (((W.alloc ob).alloc Im).alloc (.D c t)) (W.a.j+2) c:=by
 have:=dM.TJ (W.alloc ob) Im c t
 rwa [show(W.alloc ob).a.j+1=W.a.j+2 by simp]at this
theorem dM.alloc{W:ak}{b:Nat}{c:Array aB}(h:dM W b c)(ob:Obj):dM (W.alloc ob) b c:=by
 have hl:=h.lt;obtain⟨t,h⟩:=h;exact⟨t,by rw[Below.heap_alloc W ob b hl];exact h⟩
theorem dM.drew{W:ak}{b:Nat}{c:Array aB}(h:dM W b c):dM W.drew b c:=h
theorem dM.drewN{W:ak}{b:Nat}{c:Array aB}(h:dM W b c)(n:Nat):dM (W.drewN n) b c:=h
theorem dM.M{W W':ak}{b B:Nat}{c:Array aB}(h:dM W b c)(hb:aL B W W')(hl:b<B):dM W' b c:=by
 obtain⟨t,h⟩:=h;exact⟨t,by rw[hb.block b hl];exact h⟩
theorem dM.grown{W W':ak}{b:Nat}{c:Array aB}{row:Option Nat}(h:dM W b c)(hg:W.d W' row)(hl:some b≠row):dM W' b c:=by
 have hl2:=h.lt;obtain⟨t,h⟩:=h;exact⟨t,by rw[hg.block b hl2 hl];exact h⟩
theorem dM.dP{W:ak}{b:Nat}{c:Array aB}(h:dM W b c)(p:aT)(v:aB)(hp:p.block≠b):dM (W.F p v) b c:=by
 obtain⟨t,h⟩:=h;exact⟨t,by rw[rM W p v b (fun e=>hp e.symm)];exact h⟩
theorem dM.eX{W:ak}{b:Nat}{c:Array aB}(h:dM W b c)(j:Nat)(v:aB):dM (W.F ⟨b,j,none⟩ v) b (c.c j v):=by
 obtain⟨t,h⟩:=h;exact⟨t,by rw[setCell_eq_setRow W b j c t (0,0) v h];exact rY W b c _ t (0,0) h⟩
theorem dM.J{W:ak}{b:Nat}{c:Array aB}(h:dM W b c):
 (∀j,W.b ⟨b,j,none⟩=c[j]?)/\(∀j,W.frozen? ⟨b,j,none⟩=false)/\(∀o n,o+n<=eB c->vK W b o n=True)/\(∀o n,o+n<=eB c->dO W b o n=c.extract o (o+n)):=by
 obtain⟨t,h⟩:=h;have hc:∀j,W.b ⟨b,j,none⟩=c[j]?:=fun j=>tN W b j c t (0,0) h
 refine⟨hc,fun j=>by simp[sN,h],fun o n hn=>?_,fun o n hn=>?_⟩
 ·unfold eB at hn
  simp only[eq_iff_iff,iff_true];exact(uX (c:=c.extract o (o+n)) (by rw[jJ];omega) (fun j hj=>by rw[hc,oz c o n j hj hn])).1
 ·unfold eB at hn
  exact(uX (c:=c.extract o (o+n)) (by rw[jJ];omega) (fun j hj=>by rw[hc,oz c o n j hj hn])).2
theorem dM.K{W:ak}{b:Nat}{c:Array aB}(h:dM W b c)(o n:Nat)(hn:o+n<=c.j):W.K b o n:=by
 obtain⟨t,h⟩:=h;intro j hj;have hj':o+j<c.j:=by omega
 refine⟨by rw[tN W b (o+j) c t (0,0) h,fF hj'];rfl,by simp[sN,h]⟩
theorem LJ(l:List aB):∀(k off:Nat)(cells:Array aB)(j:Nat),
 ((l.zipIdx k).foldl (fun cs (x:aB×Nat)=>cs.c (off+x.2) x.1) cells)[j]? = if off+k<=j/\j<off+k+l.a/\j<cells.j then l[j-(off+k)]? else cells[j]?:=by
 induction l with
 | nil=>intro k off cells j;simp;omega
 | cons v l ih=>
   intro k off cells j;rw[IB,j3,ih (k+1) off];simp only[Array.size_setIfInBounds,bD,Array.getElem?_setIfInBounds];by_cases h1:off+k<=j/\j<off+k+(l.a+1)/\j<cells.j
   ·by_cases h2:off+k=j
    ·subst h2
     have:¬off+(k+1)<=off+k:=by omega
     simp[this,h1.2.2]
    ·have h3:off+(k+1)<=j/\j<off+(k+1)+l.a/\j<cells.j:=by omega
     rw[if_pos h3,if_pos h1,show j-(off+k)=(j-(off+(k+1)))+1 by omega,List.getElem?_cons_succ]
   ·have h3:¬(off+(k+1)<=j/\j<off+(k+1)+l.a/\j<cells.j):=by omega
    rw[if_neg h3,if_neg h1];by_cases h2:off+k=j
    ·subst h2
     have:¬off+k<cells.j:=by simp at h1;omega
     simp[this]
    ·simp[h2]
theorem U2(v cells:Array aB)(h:v.j=cells.j):Array.foldl (fun cs (x:aB×Nat)=>cs.c (0+x.2) x.1) cells v.zipIdx=v:=by
 apply dZ;intro j;have h1:=LJ v.a 0 0 cells j;rw[<-Dy,Array.toList_zipIdx,h1];by_cases hj:j<cells.j
 ·simp[h,hj]
 ·simp[hj];omega
theorem sD{P:eD}(w:ak)(t e:bE)(i:nW)(z:aB)(size:Nat)(ht:P.k t=some (.a e))(hi:P.l e=some i)(hz:i.zero=some z)(hsize:i.j=size)(hzs:z.D.j=size)(h0:0<size)(h24:size<=16777216)(c:Array aB)(hc:c.j=size):
 (bM t 1 #[(0,.d c)]).G P w = .Y (.a (some ⟨w.a.j,0,none⟩) 1 1) (w.alloc (.D c e)):=by
 have hx:(cB c).D=c:=rfl;have hfw:=U2 c ((mF (1*size)).map (z.D[· % z.D.j]!)) (by simp[hc]);have hne:¬size=0:=by omega
 have aCZ:¬16777216<size:=by omega
 simp only[bl,Nat.one_mul,Array.size_zipIdx,hc]at hfw;simp[bM,dJ ht,sizeOf,typeInfo,zeroValue,hi,hz,hsize,hne,aCZ,fD,hx,hc,newRow,hfw]
theorem dM.go{W w1:ak}{b:Nat}{c:Array aB}(h:dM W b c)(hb:aL W.a.j W w1):dM w1 b c:=h.M hb h.lt
theorem aln{w W w1:ak}(h:aL w.a.j w W)(hb:aL W.a.j W w1):aL w.a.j w w1:=fJ h hb
theorem axX{w W w1:ak}{ob:Obj}(h:aL w.a.j w W)(hb:aL (W.alloc ob).a.j (W.alloc ob) w1):aL w.a.j w w1:=fJ (h.alloc h.j ob) hb
def sV(cells:Array aB)(off:Nat)(v:Array aB):Array aB:=v.zipIdx.foldl (fun cs (x:aB×Nat)=>cs.c (off+x.2) x.1) cells
theorem EU(cells v:Array aB)(off j:Nat):(sV cells off v)[j]? = if off<=j/\j<off+v.j/\j<cells.j then v[j-off]? else cells[j]?:=by
 have h:=LJ v.a 0 off cells j;unfold sV;rw[<-Dy,Array.toList_zipIdx,h];simp
theorem EX(place:Nat->Option (Nat×Nat))(cells:Array aB)(i off size:Nat)(v:aB)(rest:List (Nat×aB))(hp:place i=some (off,size))(hs:v.D.j=size)(hf:off+size<=cells.j):
 fD place cells ((i,v)::rest)=fD place (sV cells off v.D) rest:=by
 have h1:(decide (v.D.j≠size)||decide (off+v.D.j>cells.j))=false:=by
  rw[hs];simp;omega
 rw[fD,hp];simp only[h1,sV];rfl
theorem YA(cells v:Array aB)(off:Nat):(sV cells off v).j=cells.j:=by
 unfold sV;generalize v.zipIdx=l;rw[<-Dy];generalize l.a=l
 induction l generalizing cells with
 | nil=>rfl
 | cons x l ih=>rw[j3,ih];simp
theorem alo(cells:Array aB)(off:Nat)(v:aB):sV cells off #[v]=cells.c off v:=by
 simp[sV]
theorem Qi(c:Array aB):(cB c).D=c:=rfl
theorem Qj{P:eD}(w:ak)(t:bE)(fs:Array oh)(i:nW)(z:Array aB)(ps:Array (Nat×aB))(cells:Array aB)(places:Array (Nat×Nat))(ht:P.k t=some (.d fs))(hi:P.l t=some i)(hz:i.zero=some (.d z))
 (hp:(iF (fun f=>Prod.mk f.X <$> sizeOf f.p) fs:xI (Array (Nat×Nat))).G P w = .Y places w) (hf:fD (places[·]?) z ps.a=some cells):(fQ t ps).G P w = .Y (.d cells) w:=by
 simp only[fQ,zeroValue,typeInfo,jP,gQ,dJ ht];simp[hi,hz,hp,Qi,hf]
theorem jE{w w':ak}{base size n:Nat}{e:bE}{v:aB}{xs:List aB}(h:w.c base e size v n xs)(hb:aL w.a.j w w'):w'.c base e size v n xs:=
 ⟨h.1,h.2.imp id fun⟨g,cap,cur,h1,h2,h3,h4⟩=>⟨g,cap,cur,h1,h2,(hb.block g (bW.1 h3).1).trans h3,h4⟩⟩
theorem jR{w:ak}{base size n:Nat}{e:bE}{v:aB}{xs:List aB}(h:w.c base e size v n xs){p:aT}(hp:p.block<base)(u:aB):(w.F p u).c base e size v n xs:=
 ⟨h.1,h.2.imp id fun⟨g,cap,cur,h1,h2,h3,h4⟩=>⟨g,cap,cur,h1,h2,(rM w p u g (by omega)).trans h3,h4⟩⟩
theorem vM{w:ak}{base size n:Nat}{e:bE}{v:aB}{xs:List aB}(h:w.c base e size v n xs)(ob:Obj):(w.alloc ob).c base e size v n xs:=h.alloc ob
theorem iH{w:ak}{base base' size n:Nat}{e:bE}{v:aB}{xs:List aB}(h:w.c base e size v n xs)(hb:base'<=base):w.c base' e size v n xs:=
 ⟨h.1,h.2.imp id fun⟨g,cap,cur,h1,h2,h3,h4⟩=>⟨g,cap,cur,h1,aO hb h2,h3,h4⟩⟩
theorem Ur{w:ak}{base size n g c:Nat}{e:bE}{xs:List aB}(h:w.c base e size (.a (some ⟨g,0,none⟩) n c) n xs)(j:Nat)(hj:j<n*size)(u:aB):
 (w.F ⟨g,j,none⟩ u).c base e size (.a (some ⟨g,0,none⟩) n c) n (xs.set j u):=by
 refine⟨by rw[aV];exact h.1,?_⟩;rcases h.2 with⟨hv,h0⟩|⟨g',cap,cur,hv,h2,h3,h4,h5,h6,h7⟩
 ·cases hv
 ·injection hv with e1 e2 e3
  injection e1 with e1
  injection e1 with e1
  subst e1 e3;refine .b ⟨g,c,cur.c j u,rfl,h2,?_,h4,h5,by rw[Array.size_setIfInBounds];exact h6,?_⟩
  ·rw[setCell_eq_setRow w g j cur e (0,0) u h3];exact rY w g cur _ e (0,0) h3
  ·rw[Array.toList_setIfInBounds,List.take_set,h7]
theorem LK(b:Nat)(t:bE)(fr:Nat×Nat):∀(vs:List aB)(o:Nat)(c:Array aB)(W:ak),W.a[b]? = some (.D c t fr) ->
 (W.setCells b o vs).a[b]? = some (.D ((vs.zipIdx o).foldl (fun cs (x:aB×Nat)=>cs.c x.2 x.1) c) t fr)
 | [],_,_,_,h=>h
 | v::r,o,c,W,h=>by
   rw[Dz,IB,j3];exact LK b t fr r (o+1) _ _ (by rw[setCell_eq_setRow W b o c t fr v h];exact rY W b c _ t fr h)
section
variable {H:Type} {enc:bE×aB->H} {P:eD} {w:ak} {base:Nat} {spare:Nat->Bool} {held:Bool} {fuel:Nat} {t:bE} {cs:List aB} {x:vR H×List oZ}
theorem U3(ht:P.k t=some .g)(h:kY enc P w base spare held fuel t cs=some x):∃l:List UInt8,cs=[.g (bP l)]/\l.a<=9223372036854775807:=by
 obtain⟨s,rfl,_,hs⟩:=DataW.trod_string ht h;refine⟨s.data.a,by rw[RG],?_⟩;have h2:s.j<=9223372036854775807:=by unfold maxLen at hs;omega
 show s.data.a.a<=_;rw[aY];exact h2
theorem nE(ht:P.k t=some (.b .a))(h:kY enc P w base spare held fuel t cs=some x):∃z:Int,cs=[.b .a z]/\-9223372036854775808<=z/\z<=9223372036854775807:=by
 obtain⟨z,rfl,_,hz⟩:=DataW.trod_int ht h;have : -9223372036854775808<=z/\z<=9223372036854775807:=by simpa[Lit.wf,Kh,Ki,mq,nZ]using hz
 exact⟨z,rfl,this⟩
theorem apn(ht:P.k t=some (.b .b))(h:kY enc P w base spare held fuel t cs=some x):∃b:UInt8,cs=[bv b]:=by
 obtain⟨z,rfl,_,hz⟩:=DataW.trod_int ht h;have h2:0<=z/\z<=255:=by simpa[Lit.wf,Kh,Ki,mq,nZ]using hz
 refine⟨aK z.g,?_⟩;unfold bv;congr 2;rw[DC];omega
theorem alp(ht:P.k t=some (.float .f64))(h:kY enc P w base spare held fuel t cs=some x):∃n:Nat,cs=[fv n]/\n<18446744073709551616:=by
 cases fuel with
 | zero=>simp[kY]at h
 | succ m=>
   unfold kY at h;rw[ht]at h;split at h<;>simp_all;rename_i heq;subst heq;obtain⟨⟨_,hw⟩,_⟩:=h;exact⟨_,rfl,by simpa[Lit.wf]using hw⟩
theorem Dr{fs:Array oh}{n:Nat}{xs:List (vR H×List oZ)}(hl:xs.a=fs.j)(hf:∀(i:Nat)(f:oh),fs[i]? = some f->kY enc P w base spare held n f.p ((cs.f f.X).d (P.a f.p))=xs[i]?)
 (j:Nat) (f:oh) (hj:fs[j]? = some f):∃y,kY enc P w base spare held n f.p ((cs.f f.X).d (P.a f.p))=some y:=by
 have hlt:j<xs.a:=by have:=(bW.1 hj).1;omega
 exact⟨xs[j],(hf j f hj).trans (aC hlt)⟩
theorem rP{α:Type}(l:List α)(o n:Nat):l.f o=(l.f o).d n++l.f (o+n):=by
 rw[<-List.drop_drop];exact(iN n _).symm
theorem Nv{k:Nat}{e:bE}(ht:P.k t=some (.array k e))(he:P.k e=some (.b .b))(hc:P.a e=1)(hk:P.a t=k)(h:kY enc P w base spare held fuel t cs=some x):∃v:Vector UInt8 k,cs=v.a.map bv:=by
 obtain⟨xs,m,_,_,hl,hxl,hf⟩:=DataW.trod_array ht h;rw[hk]at hl;have hg:∀i,i<k->∃b:UInt8,cs[i]? = some (bv b):=fun i hi=>by
  have h1:=hf i hi;rw[hc,gL,aC (by omega)]at h1;obtain⟨b,hb⟩:=apn he h1;refine⟨b,?_⟩;rw[take1_drop cs i undef (by omega)]at hb;simp only[List.cons.injEq,and_true]at hb;rw[aC (by omega),<-hb,au,aC (by omega)];rfl
 obtain⟨f,hf⟩:∃f:Nat->UInt8,∀i,i<k->cs[i]? = some (bv (f i)):=by
  refine⟨fun i=>if hi:i<k then(hg i hi).choose else 0,fun i hi=>?_⟩;simp only[hi,dif_pos];exact(hg i hi).choose_spec
 refine⟨EM fun i:Fin k=>f i,?_⟩;apply iR;intro i;rcases aZ i k with hi|hi
 ·rw[hf i hi]
  simp[hi]
 ·rw[aS (by omega),aS (by simpa using hi)]
end
theorem uY{α:Type}(f:α->Array aB)(size:Nat)(hs:∀x,(f x).j=size)(l:List α)(k j:Nat)(hk:k<l.a)(hj:j<size):(l.h fun x=>(f x).a)[k*size+j]? = (f (l[k]'hk))[j]?:=by
 induction l generalizing k with
 | nil=>simp at hk
 | cons x l ih=>
   rw[jl];rcases k with _|k
   ·rw[o9 (by rw[aY,hs];omega),dG]
    simp
   ·rw[vW (by rw[aY,hs,Kj];omega),aY,hs,show(k+1)*size+j-size=k*size+j by rw[Kj];omega]
    rw[bD]at hk;simpa using ih k (by omega)
theorem tT{α:Type}(f:α->Array aB)(size:Nat)(hs:∀x,(f x).j=size)(l:List α):(l.h fun x=>(f x).a).a=l.a*size:=by
 induction l with
 | nil=>simp
 | cons x l ih=>rw[jl,aR,ih,aY,hs,bD,Kj];omega
section
variable {H:Type} {enc:bE×aB->H} {P:eD} {w:ak} {base:Nat} {held:Bool} {fuel:Nat} {t:bE} {cs:List aB} {x:vR H×List oZ}
theorem Ky{α:Type}(f:α->Array aB)(Nw:α->Prop)(size:Nat)(hfs:∀x,(f x).j=size){e:bE}(ht:P.k t=some (.a e))(hc:P.a e=size)(hpos:0<size)
 (hrd:∀(n:Nat)(cs:List aB)(y:vR H×List oZ),kY enc P w base (fun _=>true) held n e cs=some y->∃a,cs=(f a).a/\Nw a)
 (h:kY enc P w base (fun _=>true) held fuel t cs=some x) :
 ∃(A:Option aT)(n c:Nat)(l:List α),cs=[.a A n c]/\n<=c/\c<=9223372036854775807/\l.a=n/\Rd w w.a.j size A n (l.h fun x=>(f x).a)/\(∀a,A=some a->0<n->a=⟨a.block,a.off,none⟩)/\∀a∈l,Nw a:=by
 rcases open_slice ht h with⟨rfl,_⟩|⟨a,len,cap,m,n,D,Pl,rfl,_,hl,hm,hmm,_,hi⟩
 ·exact⟨none,0,0,[],rfl,av _,by omega,rfl,Rd.nil,(fun a h=>by cases h),by simp⟩
 ·rw[if_pos rfl]at hmm
  have hg:∀i,i<len->∃b:α,Nw b/\∀j,j<size->w.b (a.add (i*size+j))=(f b)[j]?:=fun i hlt=>by
   obtain⟨cs',h1,h2⟩:=hi i (by omega);obtain⟨_,hlen,hcell⟩:=World.cells?_some h1;obtain⟨b,hb,hgd⟩:=hrd _ _ _ h2;rw[hc]at hcell;refine⟨b,hgd,fun j hj=>?_⟩;have:=hcell j hj;rw[acI,hb,dG]at this;exact this
  obtain⟨F,hF⟩:∃F:Fin len->α,∀i:Fin len,Nw (F i)/\∀j,j<size->w.b (a.add (i*size+j))=(f (F i))[j]?:=
   ⟨fun i=>(hg i i.2).choose,fun i=>(hg i i.2).choose_spec⟩
  have hll:(IC F).a=len:=List.length_ofFn;have hcl:∀k (hk:k<len) j,j<size->((IC F).h fun x=>(f x).a)[k*size+j]? = w.b (a.add (k*size+j)):=fun k hk j hj=>by
   rw[uY f size hfs _ k j (by omega) hj,List.getElem_ofFn];exact((hF ⟨k,hk⟩).2 j hj).symm
  refine⟨some a,len,cap,IC F,rfl,hl,by unfold maxLen at hm;omega,hll,⟨by rw[tT f size hfs,hll],fun h0=>⟨a,rfl,?_,fun j u hu=>?_⟩⟩,fun a' ha h0=>?_,fun b hb=>?_⟩
  ·have h1:=hcl 0 h0 0 hpos
   have h2:=uY f size hfs (IC F) 0 0 (by omega) hpos;have h3:w.b (a.add (0*size+0))=some ((f ((IC F)[0]'(by omega)))[0]'(by rw[hfs];exact hpos)):=by rw[<-h1,h2];exact fF _
   have:=World.block_lt_of_cell? _ _ h3
   rwa [Bv]at this
  ·have hj:j<len*size:=by
    rcases aZ j (len*size)with h1|h1
    ·exact h1
    ·rw[aS (by rw[tT f size hfs,hll];exact h1)]at hu;cases hu
   have e1:j=j/size*size+j%size:=by rw[DF];exact(Lf j size).symm
   have:=hcl (j/size) ((Ai hpos).2 hj) (j%size) (fE _ hpos);rw[<-e1]at this;rw[<-this];exact hu
  ·injection ha with ha
   subst ha;have h1:=hcl 0 h0 0 hpos;have h2:=uY f size hfs (IC F) 0 0 (by omega) hpos;have h3:w.b (a.add (0*size+0))=some ((f ((IC F)[0]'(by omega)))[0]'(by rw[hfs];exact hpos)):=by rw[<-h1,h2];exact fF _
   rw[show 0*size+0=0 by omega,Kt]at h3;have hs:=World.cell?_spot h3;obtain⟨b,o,s⟩:=a;simp at hs;rw[hs]
  ·obtain⟨i,rfl⟩:=List.mem_ofFn.1 hb
   exact(hF i).1
end
section
variable {P:eD}
theorem LM(d:Nat){e:bE}(he:P.k e=some (.b .b))(l m:List UInt8)(w:ak)(hlm:l.a=m.a):∀(j k:Nat),j+k=l.a ->
 (Lg (d+1) e 1 (l.map bv).c (m.map bv).c (List.range' k j)).G P w = .Y (l.f k==m.f k) w
 | 0,k,h=>by
   have h1:l.f k=[]:=List.drop_eq_nil_of_le (by omega);have h2:m.f k=[]:=List.drop_eq_nil_of_le (by omega);simp[Lg,h1,h2]
 | j+1,k,h=>by
   have hk:k<l.a:=by omega
   have hk':k<m.a:=by omega
   have hp:P.plainKey e=true:=by simp[Program.plainKey,he]
   have p1:(part e (l.map bv).c (k*1)).G P w = .Y (bv l[k]) w:=run_part_plain w hp (by simp[hk]);have p2:(part e (m.map bv).c (k*1)).G P w = .Y (bv m[k]) w:=run_part_plain w hp (by simp[hk']);have p3:(jg (d+1) e (bv l[k]) (bv m[k])).G P w = .Y (l[k]==m[k]) w:=by
    simp only[bv,jg,jP,dJ he,gQ,if_true,oJ];congr 1;rw[bF];simp only[beq_iff_eq];constructor
    ·intro h;exact kJ.1 (by omega)
    ·intro h;rw[h]
   rw[List.range'_succ];simp only[Lg,jP,p1,p2,p3,gQ];have ih:=LM d he l m w hlm j (k+1) (by omega);have e3:(l.f k==m.f k)=((l[k]==m[k])&&(l.f (k+1)==m.f (k+1))):=by
    rw[kZ hk,kZ hk'];rfl
   rw[e3];cases(l[k]==m[k])
   ·simp
   ·simpa using ih
theorem Io(d:Nat){t e:bE}{n:Nat}(hu:P.k t=some (.array n e))(hsz:(P.l e).map (·.j)=some 1)(he:P.k e=some (.b .b))(l m:List UInt8)(hl:l.a=n)(hm:m.a=n)(w:ak):
 (jg (d+2) t (.d (l.map bv).c) (.d (m.map bv).c)).G P w = .Y (l==m) w:=by
 obtain⟨i,hi,hs⟩:∃i,P.l e=some i/\i.j=1:=by
  cases h:P.l e with
  | none=>simp[h]at hsz
  | some i=>exact⟨i,rfl,by simpa[h]using hsz⟩
 rw[run_equalIn_array w (d+1) _ _ hu hi];have hc:P.a e=1:=by simp[Aq,hi,hs]
 rw[hc,List.range_eq_range',LM d he l m w (by omega) n 0 (by omega)];simp
end
theorem aht{n:Nat}(a b:Vector UInt8 n):(a.a==b.a)=decide (a=b):=by
 rw[bF];simp only[beq_iff_eq,decide_eq_true_eq];constructor
 ·intro h;exact Vector.toList_inj.1 h
 ·intro h;rw[h]
theorem qc{P:eD}{e:bE}(he:(match P.k e with|some (.d _)|some (.array _ _)|none=>false|_=>true)=true){xs:Array aB}{off:Nat}{v:aB}(hx:xs[off]? = some v)(w:ak):(part e xs off).G P w = .Y v w:=by
 cases hu:P.k e with
 | none=>simp[hu]at he
 | some d=>cases d<;>simp[hu]at he<;>simp[part,isAgg,dJ hu,hx]
theorem EZ{P:eD}{e:bE}{n:Nat}(he:(match P.k e with|some (.d _)|some (.array _ _)=>true|_=>false)=true)(hs:(P.l e).map (·.j)=some n)(xs:Array aB)(off:Nat)(w:ak):(part e xs off).G P w = .Y (.d (xs.extract off (off+n))) w:=by
 obtain⟨i,hi,hi2⟩:∃i,P.l e=some i/\i.j=n:=by
  cases h:P.l e with
  | none=>simp[h]at hs
  | some i=>exact⟨i,rfl,by simpa[h]using hs⟩
 have hc:P.a e=n:=by simp[Aq,hi,hi2]
 cases hu:P.k e with
 | none=>simp[hu]at he
 | some d=>cases d<;>simp[hu]at he<;>simp[part,isAgg,dJ hu,run_sizeOf w hi,hc]
theorem aav(a b:Bool)(d:Nat)(W:ak):(jg (d+1) 4 (.e a) (.e b)).G ah W = .Y (a==b) W:=by
 simp only[jg,jP,dJ nX,gQ,oJ]
theorem Qk(a b:List UInt8)(d:Nat)(W:ak):(jg (d+1) 9 (.g (bP a)) (.g (bP b))).G ah W = .Y (a==b) W:=by
 rw[run_equalIn_string W d _ _ _ iU,LH,LH]
theorem Gu(a b:Int)(d:Nat)(W:ak):(jg (d+1) 3 (.b .a a) (.b .a b)).G ah W = .Y (a==b) W:=by
 simp only[jg,jP,dJ gV,gQ,if_true,oJ]
theorem iW{P:eD}(d:Nat)(xs ys:Array aB)(f:oh)(fs:List oh)(h:f.E ≠ "_")(W:ak)(a b:aB)(r r':Bool)
 (p:(part f.p xs f.X).G P W = .Y a W) (q:(part f.p ys f.X).G P W = .Y b W) (e:(jg d f.p a b).G P W = .Y r W)
 (rest:(wK d xs ys fs).G P W = .Y r' W):(wK d xs ys (f::fs)).G P W = .Y (r&&r') W:=by
 simp only[wK,h,ne_eq,not_false_eq_true,if_true,jP,p,q,e,gQ];cases r
 ·simp
 ·simpa using rest
def iE{α:Type}(f:α->Array aB)(s:Nat)(w:ak)(B:Nat)(A:Option aT)(n:Nat)(l:List α):Prop:=
 l.a=n/\Rd w B s A n (l.h fun x=>(f x).a)/\∀a,A=some a->0<n->a=⟨a.block,a.off,none⟩
section
variable {α:Type} {f:α->Array aB} {s:Nat} {w w':ak} {B B' n:Nat} {A:Option aT} {l:List α}
theorem iE.nil(w:ak)(B:Nat):iE f s w B none 0 []:=⟨rfl,Rd.nil,fun a h _=>by cases h⟩
theorem iE.len(h:iE f s w B A n l):l.a=n:=h.1
theorem iE.M(h:iE f s w B A n l)(hb:aL B w w'):iE f s w' B A n l:=⟨h.1,Rd.M h.2.1 hb,h.2.2⟩
theorem iE.to{C:Nat}(h:iE f s w B A n l)(hb:aL C w w')(hC:B<=C):iE f s w' B A n l:=⟨h.1,Rd.to h.2.1 hb hC,h.2.2⟩
theorem iE.lN(h:iE f s w B A n l)(hB:B<=B'):iE f s w B' A n l:=⟨h.1,Rd.lN h.2.1 hB,h.2.2⟩
theorem iE.alloc(h:iE f s w B A n l)(hB:B<=w.a.j)(o:Obj):iE f s (w.alloc o) B A n l:=⟨h.1,Rd.alloc h.2.1 hB o,h.2.2⟩
theorem iE.up(h:iE f s w w.a.j A n l)(ob:Obj):iE f s (w.alloc ob) (w.alloc ob).a.j A n l:=(h.alloc (av _) ob).lN (by simp)
theorem iE.asb(h:iE f s w w.a.j A n l):iE f s w.drew w.drew.a.j A n l:=h
theorem iE.go{W w1:ak}(h:iE f s W W.a.j A n l)(hb:aL W.a.j W w1):iE f s w1 w1.a.j A n l:=(h.M hb).lN hb.j
theorem iE.aC0(h:iE f s w B A n l){p:aT}(u:aB)(hp:∀a,A=some a->p.block≠a.block):iE f s (w.F p u) B A n l:=by
 obtain⟨h1,h2,h3⟩:=h;refine⟨h1,⟨h2.1,fun hn=>?_⟩,h3⟩;obtain⟨a,e,hb,hc⟩:=h2.2 hn;refine⟨a,e,hb,fun j u' hu=>?_⟩;rw[wI _ _ _ _ (fun e2=>by have:=hp a e;rw[e2,Bv]at this;omega)];exact hc j u' hu
theorem iE.cell(hs:∀x,(f x).j=s)(d:α){k:Nat}(h:iE f s w B A n l)(hk:k<n):∃b o,A=some ⟨b,o,none⟩/\b<B/\∀j,j<s->w.b ⟨b,o+k*s+j,none⟩=(f (l.b k d))[j]?:=by
 obtain⟨h1,h2,h3⟩:=h;obtain⟨a,hA,hb,hc⟩:=h2.2 (by omega);have ha:=h3 a hA (by omega);refine⟨a.block,a.off,by rw[hA,<-ha],hb,fun j hj=>?_⟩;have hk':k<l.a:=by omega
 have hg:=uY f s hs l k j hk' hj;have hx:l.b k d=l[k]:=by rw[au,aC hk'];rfl
 have hs1:(f (l[k]'hk'))[j]? = some ((f (l[k]'hk'))[j]'(by rw[hs];exact hj)):=fF _;rw[hs1]at hg;rw[hx,hs1];have:=hc _ _ hg;rw[ha,iJ]at this;rw[<-this,nP]
theorem iE.fH(hs:∀x,(f x).j=s)(d:α){k:Nat}(h:iE f s w B A n l)(hk:k<n):∃b o,A=some ⟨b,o,none⟩/\b<B/\vK w b (o+k*s) s/\dO w b (o+k*s) s=f (l.b k d):=by
 obtain⟨b,o,hA,hb,hc⟩:=h.cell hs d hk;exact⟨b,o,hA,hb,uX (hs _) hc⟩
theorem iE.one(x:α)(hs:∀x,(f x).j=s)(w:ak)(t:bE):iE f s (w.alloc (.D (f x) t)) (w.alloc (.D (f x) t)).a.j (some ⟨w.a.j,0,none⟩) 1 [x]:=
 ⟨rfl,⟨by simp[hs],fun _=>⟨_,rfl,by simp,by
  intro j v hv;rw[iJ,bl];have:=lX w (f x) t j;rw[this];simpa using hv⟩⟩,fun a h _=>by injection h with h;rw[<-h]⟩
end
theorem alq{α:Type}(f:α->Array aB)(s:Nat)(hs:∀x,(f x).j=s)(l:List α):(l.h fun x=>(f x).a).a=l.a*s:=tT f s hs l
theorem aiL{α:Type}(f:α->Array aB)(l:List α)(x:α):(l.h fun x=>(f x).a)++(f x).a=(l++[x]).h fun x=>(f x).a:=by simp
theorem acN{α:Type}(f:α->Array aB)(l m:List α):(l.h fun x=>(f x).a)++(m.h fun x=>(f x).a)=(l++m).h fun x=>(f x).a:=by simp
theorem Fa{α:Type}(f:α->Array aB)(h1:∀x,(f x).all (·.h)=true)(l:List α):∀u∈(l.h fun x=>(f x).a),u.h=true:=by
 intro u hu;obtain⟨x,_,hx⟩:=List.mem_flatMap.1 hu;exact gG.1 (h1 x) u (by simpa using hx)
theorem lY{α:Type}(d:α)(l:List α)(i:Nat)(hi:i<l.a):l.d i++[l.b i d]=l.d (i+1):=by
 rw[dF hi,au,aC hi];rfl
theorem yc{α:Type}(d:α)(l:List α)(i:Nat)(hi:i<l.a):l.b i d∈l:=by
 rw[au,aC hi];simp
theorem iE.iG{α:Type}{f:α->Array aB}{s:Nat}{w:ak}{base n:Nat}{e:bE}{l:List α}{A:Option aT}{c:Nat}(hn:l.a=n)(h:w.c base e s (.a A n c) n (l.h fun x=>(f x).a)):iE f s w w.a.j A n l:=
 ⟨hn,Rd.iG h,fun a ha _=>by
  rcases h.2 with⟨hv,h0⟩|⟨g,cap,cur,hv,_⟩
  ·injection hv with e1 _ _
   rw[e1]at ha;cases ha
  ·injection hv with e1 _ _
   rw[e1]at ha;injection ha with ha
   rw[<-ha]⟩
theorem aaw(w:ak)(c:Array aB)(s:Nat)(hc:c.j=s)(t:bE):Rd (w.alloc (.D c t)) (w.a.j+1) s (some ⟨w.a.j,0,none⟩) 1 c.a:=
 ⟨by rw[aY,hc,Nat.one_mul],fun _=>⟨_,rfl,mV _,fun j v hv=>by
  rw[iJ,bl,lX w c t j];simpa using hv⟩⟩
theorem U4{w:ak}{base size n:Nat}{e:bE}{v:aB}{xs:List aB}(h:w.c base e size v n xs){p:aT}(hp:v.f≠some p.block)(u:aB):(w.F p u).c base e size v n xs:=by
 refine⟨h.1,?_⟩;rcases h.2 with hn|⟨g,cap,cur,rfl,h2,h3,h4⟩
 ·exact .a hn
 ·exact .b ⟨g,cap,cur,rfl,h2,(rM w p u g (fun e=>hp (by rw[<-e];rfl))).trans h3,h4⟩
theorem U6{w:ak}{g:Nat}(vs:List aB):∀(o:Nat)(W:ak),w.d W (some g)->w.d (W.setCells g o vs) (some g):=by
 induction vs with
 | nil=>exact fun _ _ h=>h
 | cons v vs ih=>
   intro o W h;rw[Dz];refine ih (o+1) _ ⟨h.os,h.tape,h.output,by simpa[iq]using h.j,fun k hk hne=>?_⟩;rw[rM W _ v k (fun e=>hne (by rw[e]))];exact h.block k hk hne
theorem yg{w:ak}{B g:Nat}(hg:B<=g)(vs:List aB):∀(o:Nat)(W:ak),aL B w W->aL B w (W.setCells g o vs):=by
 induction vs with
 | nil=>exact fun _ _ h=>h
 | cons v vs ih=>intro o W h;rw[Dz];exact ih (o+1) _ (h.F hg v)
theorem nb{x:Option Nat}{a b c:Nat}(h:x=some a\/x=some b)(h1:c≠a)(h2:c≠b):x≠some c:=by
 rcases h with rfl|rfl<;>(intro e;injection e with e;omega)
theorem U8(b:Nat)(t:bE)(vs:List aB)(o:Nat)(c:Array aB)(W:ak)(h:W.a[b]? = some (.D c t (0,0))):(W.setCells b o vs).a[b]? = some (.D (sV c o vs.c) t (0,0)):=by
 have:=LK b t (0,0) vs o c W h;rw[this];unfold sV;congr 2;rw[<-Dy,Array.toList_zipIdx];have:∀(vs:List aB)(k:Nat)(c:Array aB),(List.foldl (fun cs (x:aB×Nat)=>cs.c x.2 x.1) c (vs.zipIdx (o+k)))=List.foldl (fun cs (x:aB×Nat)=>cs.c (o+x.2) x.1) c (vs.zipIdx k):=by
  intro vs
  induction vs with
  | nil=>intros;rfl
  | cons v vs ih=>intro k c;rw[IB,IB,j3,j3,nP,ih]
 have h2:=this vs 0 c;simpa using h2
theorem dM.alr{W:ak}{b:Nat}{c:Array aB}(h:dM W b c)(d:Array aB)(hc:d.j=c.j):dM (W.setCells b 0 d.a) b d:=by
 obtain⟨t,h⟩:=h;refine⟨t,?_⟩;have h1:=U8 b t d.a 0 c W h;rw[h1];congr 2;exact U2 d c hc
end
section
open Go.RowKit Go.ChangeShapes Go.WideShapes Go.ChangeAt Go.Deep
def txA(s:List UInt8):Array aB:=#[.g (bP s)]
theorem als(s:List UInt8):(txA s).j=1:=rfl
abbrev RdT:=iE txA 1
theorem iE.text{W:ak}{B n:Nat}{A:Option aT}{l:List (List UInt8)}{k:Nat}(h:RdT W B A n l)(hk:k<n):∃b o,A=some ⟨b,o,none⟩/\b<B/\W.b ⟨b,o+k,none⟩=some (.g (bP (l.b k []))):=by
 obtain⟨b,o,hA,hb,hc⟩:=iE.cell als [] h hk;refine⟨b,o,hA,hb,?_⟩;have:=hc 0 (by omega);rw[gL,mW]at this;exact this
def wu(l:List (List UInt8)):List aB:=l.h fun x=>(txA x).a
theorem RL(l:List (List UInt8))(s:List UInt8):wu l++[.g (bP s)]=wu (l++[s]):=by simp[wu,txA]
theorem aax:∃i:nW,ah.l 9=some i/\i.zero=some (.g ⟨#[]⟩)/\i.j=1/\i.bytes<=400:=by
 cases h:ah.l 9 with
 | none=>exact absurd h (by have:(ah.l 9).isSome=true:=by kernel_rfl
                            intro e;rw[e]at this;cases this)
 | some i=>
   have h1:(ah.l 9).map (·.j)=some 1:=by kernel_rfl
   have h2:(ah.l 9).map (fun i=>decide (i.bytes<=400))=some true:=by kernel_rfl
   have h3:(ah.l 9).map (·.zero)=some (some (.g ⟨#[]⟩)):=by kernel_rfl
   rw[h]at h1 h2 h3;simp at h1 h2 h3;exact⟨i,rfl,h3,h1,h2⟩
def TxP(w:ak)(m:List (List UInt8))(e:lU)(w':ak):Prop:=
 ∃A n c,e=.a (.a A n c)/\m.a=n/\w'.c w.a.j 9 1 (.a A n c) n (wu m)/\aL w.a.j w w'
end
section
open Go.RowKit Go.ChangeShapes Go.WideShapes Go.ChangeAt Go.Deep
structure Hl where
 E:List UInt8
 down:Bool
 G:Int
deriving DecidableEq
def Hl.ay(x:Hl):Array aB:=#[jk (bP x.E),bT x.down,aI .a x.G]
theorem Hl.r(x:Hl):x.ay.j=3:=by simp[Hl.ay]
@[go_sem]theorem Hl.eB(x:Hl):eB x.ay=3:=Hl.r x
@[go_sem]theorem Hl.nS(x:Hl):x.ay[0]? = some (.g (bP x.E)):=rfl
@[go_sem]theorem Hl.DK(x:Hl):x.ay[1]? = some (.e x.down):=rfl
@[go_sem]theorem Hl.RV(x:Hl):x.ay[2]? = some (.b .a x.G):=rfl
theorem Hl.dw(x:Hl):x.ay.all (·.h)=true:=by simp[Hl.ay,dx]
@[go_sem]theorem Hl.kD(x:Hl):x.ay.extract 0 3=x.ay:=by
 have:=Hl.r x;rw[<-this];simp
def kQ:Hl:=⟨[],false,0⟩
@[go_sem]theorem axY:cB #[jk {data:=#[]},bT false,aI bU 0]=cB kQ.ay:=rfl
@[go_sem]theorem atA:Obj.cells #[jk {data:=#[]},bT false,aI bU 0] 100=Obj.cells kQ.ay 100:=rfl
def alu(v:aB):xI aB:=cK 100 v
def aay(v x:aB):xI Unit:=eU 100 v x
@[go_sem ↓]theorem awP(v:aB):cK 100 v=alu v:=rfl
@[go_sem ↓]theorem atB(v x:aB):eU 100 v x=aay v x:=rfl
@[go_sem]theorem aBl(W:ak)(b o:Nat)(h:vK W b o 3):(alu (.c (some ⟨b,o,none⟩))).G ah W = .Y (.d (dO W b o 3)) W:=
 jZ W b o 3 _ _ pU rfl (by kernel_rfl) h
@[go_sem]theorem apo(W:ak)(c:Array aB)(x:Hl)(b:Nat)(hb:b=W.a.j)(hc:eB c=3):
 (aay (.c (some ⟨b,0,none⟩)) (.d x.ay)).G ah (W.alloc (.D c 100)) = .Y () (W.alloc (.D x.ay 100)):=by
 subst hb;exact zA W _ c x.ay (by rw[Hl.r];kernel_rfl) (by rw[Hl.r];exact hc) (Hl.dw x)
def U9(W:ak)(b o:Nat)(x:Hl):ak:=W.setCells b o x.ay.a
@[go_sem]theorem axZ(W:ak)(b o:Nat)(x:Hl)(h:W.K b o 3):(aay (.c (some ⟨b,o,none⟩)) (.d x.ay)).G ah W = .Y () (U9 W b o x):=
 EO W b o _ x.ay (by rw[Hl.r];exact h) (by rw[Hl.r];kernel_rfl) (Hl.dw x)
theorem dM.ax0{W:ak}{b:Nat}{c:Array aB}(h:dM W b c)(hc:c.j=3)(x:Hl):dM (U9 W b 0 x) b x.ay:=h.alr x.ay (by rw[Hl.r,hc])
theorem RZ{w W:ak}{B:Nat}(h:aL B w W)(b o:Nat)(x:Hl)(hb:B<=b):aL B w (U9 W b o x):=yg hb _ o W h
def acO(x y:Hl):Bool:=(x.E==y.E)&&((x.down==y.down)&&((x.G==y.G)&&true))
theorem Us(x y:Hl):acO x y=decide (x=y):=by
 rw[bF];cases x;cases y;simp[acO]
theorem aiM:ah.k 100=some (.d (ah.fieldsOf 100)):=by
 simp only[jX,pU]
theorem apq:∃f1 f2 f3:oh,(ah.fieldsOf 100).a=[f1,f2,f3]/\(f1.E ≠ "_" /\ f2.E ≠ "_" /\ f3.E ≠ "_")/\(f1.p=9/\f1.X=0)/\(f2.p=4/\f2.X=1)/\(f3.p=3/\f3.X=2):=by
 refine⟨_,_,_,by simp only[jX,pU];rfl,⟨?_,?_,?_⟩,⟨rfl,rfl⟩,⟨rfl,rfl⟩,⟨rfl,rfl⟩⟩<;>decide
theorem aiN(x y:Hl)(d:Nat)(W:ak):(jg (d+2) 100 (.d x.ay) (.d y.ay)).G ah W = .Y (acO x y) W:=by
 rw[zN W (d+1) _ _ _ aiM Tryz.stoodInHeld100];obtain⟨f1,f2,f3,hl,⟨n1,n2,n3⟩,⟨t1,o1⟩,⟨t2,o2⟩,⟨t3,o3⟩⟩:=apq;rw[hl];have p1:∀z:Hl,(part f1.p z.ay f1.X).G ah W = .Y (.g (bP z.E)) W:=fun z=>by
  rw[t1,o1];exact qc (by simp only[iU]) (Hl.nS z) W
 have p2:∀z:Hl,(part f2.p z.ay f2.X).G ah W = .Y (.e z.down) W:=fun z=>by
  rw[t2,o2];exact qc (by simp only[nX]) (Hl.DK z) W
 have p3:∀z:Hl,(part f3.p z.ay f3.X).G ah W = .Y (.b .a z.G) W:=fun z=>by
  rw[t3,o3];exact qc (by simp only[gV]) (Hl.RV z) W
 exact(iW _ _ _ _ _ n1 W _ _ _ _ (p1 x) (p1 y) (by rw[t1];exact Qk _ _ _ W) (iW _ _ _ _ _ n2 W _ _ _ _ (p2 x) (p2 y) (by rw[t2];exact aav _ _ _ W) (iW _ _ _ _ _ n3 W _ _ _ _ (p3 x) (p3 y) (by rw[t3];exact Gu _ _ _ W) (by simp[wK]))))
@[go_sem ↓]theorem aGF(x y:Hl)(W:ak):(jg 10000 100 (.d x.ay) (.d y.ay)).G ah W = .Y (acO x y) W:=aiN x y 9998 W
theorem Ql:∃i:nW,ah.l 100=some i/\i.zero=some (.d kQ.ay)/\i.j=3/\i.bytes<=400:=by
 cases h:ah.l 100 with
 | none=>exact absurd h (by have:(ah.l 100).isSome=true:=by kernel_rfl
                            intro e;rw[e]at this;cases this)
 | some i=>
   have h1:(ah.l 100).map (·.j)=some 3:=by kernel_rfl
   have h2:(ah.l 100).map (fun i=>decide (i.bytes<=400))=some true:=by kernel_rfl
   have h3:(ah.l 100).map (·.zero)=some (some (.d kQ.ay)):=by kernel_rfl
   rw[h]at h1 h2 h3;simp at h1 h2 h3;exact⟨i,rfl,h3,h1,h2⟩
def ax1(ps:Array (Nat×aB)):xI aB:=fQ 100 ps
@[go_sem ↓]theorem aBm(ps:Array (Nat×aB)):fQ 100 ps=ax1 ps:=rfl
theorem aiO(w:ak)(fs:Array oh)(h:ah.k 100=some (.d fs)):(iF (fun f=>Prod.mk f.X <$> sizeOf f.p) fs:xI (Array (Nat×Nat))).G ah w = .Y #[(0,1),(1,1),(2,1)] w:=by
 have e:=pU;rw[h]at e;cases e;show _=_
 kernel_rfl
@[go_sem]theorem atC(w:ak)(u0:List UInt8):(ax1 #[(0,.g (bP u0))]).G ah w = .Y (.d (Hl.mk u0 false 0).ay) w:=by
 obtain⟨i0,hi0,hz0,_,_⟩:=Ql;exact Qj w _ _ i0 kQ.ay _ _ _ pU hi0 hz0 (aiO w _ pU) rfl
def ahv(n:Nat)(ps:Array (Nat×aB)):xI aB:=bM 33 n ps
@[go_sem ↓]theorem ax2(n:Nat)(ps:Array (Nat×aB)):bM 33 n ps=ahv n ps:=rfl
@[go_sem]theorem awQ(w:ak)(x:Hl):(ahv 1 #[(0,.d x.ay)]).G ah w = .Y (.a (some ⟨w.a.j,0,none⟩) 1 1) (w.alloc (.D x.ay 100)):=by
 obtain⟨i0,hi0,hz0,hz1,hzb⟩:=Ql;exact sD w _ _ i0 (.d kQ.ay) 3 sJ hi0 hz0 hz1 (Hl.r kQ) (by omega) (by omega) x.ay (Hl.r x)
@[go_sem]theorem atD(w:ak):(ahv 0 #[]).G ah w = .Y (.a (some ⟨w.a.j,0,none⟩) 0 0) (w.alloc (.D #[] 100)):=by
 obtain⟨i0,hi0,hz0,hz1,hzb⟩:=Ql;have hne:¬i0.j=0:=by omega
 simp[ahv,bM,dJ sJ,sizeOf,typeInfo,zeroValue,hi0,hz0,hz1,fD,newRow,hne];rw[show(mF 0)=(#[]:Array Nat)by simp[mF],Array.map_empty]
theorem Eu{fn:Func}{p u:Tmp}(h:fn.results = #[.cell p 100,.tmp u])(tmps:Array aB)(W:ak)(b o:Nat)(hp:tmps.b p undef=.c (some ⟨b,o,none⟩))(hh:vK W b o 3):
 (results fn tmps).G ah W = .Y (.I #[.d (dO W b o 3),tmps.b u undef]) W:=by
 have hl:=jZ W b o 3 _ _ pU rfl (by kernel_rfl) hh;simp only[cK,zi,jP,oJ,gQ]at hl;rw[LA h,hp];simp[asAddr,iK,hl]
def Hl.Nw(x:Hl):Prop:=x.E.a<=9223372036854775807/\-9223372036854775808<=x.G/\x.G<=9223372036854775807
section
variable {H:Type} {enc:bE×aB->H} {w:ak} {base:Nat} {spare:Nat->Bool} {held:Bool} {fuel:Nat} {cs:List aB} {x:vR H×List oZ}
theorem apr(h:kY enc ah w base spare held fuel 100 cs=some x):∃x:Hl,cs=x.ay.a/\x.Nw:=by
 obtain⟨xs,n,_,_,hl,hxl,hf⟩:=DataW.trod_struct pU h;rw[show ah.a 100=3 by kernel_rfl]at hl;obtain⟨y0,h0⟩:=Dr hxl hf 0 _ rfl;obtain⟨y1,h1⟩:=Dr hxl hf 1 _ rfl;obtain⟨y2,h2⟩:=Dr hxl hf 2 _ rfl;obtain⟨v0,e0,g0⟩:=U3 (by kernel_rfl) h0;obtain⟨v1,e1,_⟩:=DataW.trod_bool (by kernel_rfl) h1;obtain⟨v2,e2,g2,g2b⟩:=nE (by kernel_rfl) h2;have c0:(cs.f 0).d 1=[.g (bP v0)]:=e0;have c1:(cs.f 1).d 1=[.e v1]:=e1;have c2:(cs.f 2).d 1=[.b .a v2]:=e2;refine⟨⟨v0,v1,v2⟩,?_,g0,g2,g2b⟩;have e:=rP cs 0 1;rw[c0,rP cs (0+1) 1,c1,rP cs (0+1+1) 1,c2,gq (i:=0+1+1+1) (by omega)]at e;simpa[Hl.ay]using e
end
end
def Mr(c:UInt8):Bool:=(decide (97<=c.g)&&decide (c.g<=122))||(decide (48<=c.g)&&decide (c.g<=57))||decide (c.g=45)||decide (c.g=46)
def oI(s:List UInt8):Bool:=s.all Mr&&decide (1<=s.a)&&decide (s.a<=24)
theorem LP(l:List UInt8)(p:UInt8->Bool)(i:Nat)(hi:i<l.a):(l.d (i+1)).all p=((l.d i).all p&&p (l.b i 0)):=by
 rw[dF hi,List.all_append,au,aC hi];simp
theorem Ny(l:List UInt8)(p:UInt8->Bool)(i:Nat)(hi:i<l.a)(h:p (l.b i 0)=false):l.all p=false:=by
 rw[FV];refine⟨l.b i 0,?_,by rw[h];simp⟩;rw[au,aC hi];exact fG hi
theorem Va(s:List UInt8)(w:ak)(hs:s.a<=9223372036854775807):
 aP ah 116 #[.g (bP s)] w (fT w (.e (oI s))):=by
 have hcv:=Jh (P:=ah) 9 56 5 iU cO mQ s;have hb:=Ik w 5 s;have hr:=Il w 5 s;have HB:=ab hb;have HR:=ab hr;clear hb hr;go_enter Tryz.func116,Tryz.ntmps116;go_wp2;clear hcv;generalize sU w 5 s=W at HB HR ⊢;generalize grownCap w s.a 0 5=cp;go_loop [8] (fun s8=>∃i:Nat,i<=s.a/\s8=.b .a i/\(s.d i).all Mr=true) (fun s8=>s.a-(intOf s8).g)
 case atStart=>exact⟨0,by omega,rfl,rfl⟩
 case round=>
  obtain⟨i,hi,rfl,hall⟩:=hrel;have HA:=ab hall;clear hall;by_cases hlt:i<s.a
  ·have hin:(i:Int)<s.a:=by omega
   obtain⟨a,ha,hab,hcell⟩:=HR.i.fH hlt;injection ha with ha
   subst ha;have e1:(⟨w.a.j,0,none⟩:aT).add i=⟨w.a.j,i,none⟩:=by unfold qQ;split<;>simp_all
   rw[e1]at hcell;clear e1;have hsn:=LP s Mr i hlt;have hno:=Ny s Mr i hlt;have HS:=ab hsn;have HN:=ab hno;clear hsn hno;unfold bv at hcell;have hc:Mr (s.b i 0)=Mr (s.b i 0):=rfl;have aau:=(s.b i 0).a;obtain⟨c,hcc⟩:=bZ (s.b i 0);rw[<-hcc]at hcell HS HN aau;clear hcc hc;have hok:Mr c=((decide (97<=c.g)&&decide (c.g<=122))||(decide (48<=c.g)&&decide (c.g<=57))||decide (c.g=45)||decide (c.g=46)):=rfl;have Dt:=ab hok;clear hok;generalize c.g=n at hcell aau Dt;rcases(show n<45\/n=45\/n=46\/n=47\/(48<=n/\n<=57)\/(57<n/\n<97)\/(97<=n/\n<=122)\/122<n by omega)with h|rfl|rfl|rfl|⟨h,h'⟩|⟨h,h'⟩|⟨h,h'⟩|h
   all_goals
    try(have h45:((n:Int) != 45)=true:=by rw[bne_iff_ne];omega)
    try(have h46:((n:Int) != 46)=true:=by rw[bne_iff_ne];omega)
   all_goals
    first
     | (have hk:Mr c=true:=by rw[Dt.i];simp<;>omega
        have HK:=ab hk;clear hk;go_wp2;go_round
        case rel=>exact⟨i+1,by omega,by go_num,by rw[HS.i,HA.i,HK.i];rfl⟩
        case measure=>simp[intOf]<;>omega
        done)
     | (have hk:Mr c=false:=by rw[Dt.i];simp<;>omega
        have HK:=ab hk;clear hk;go_wp2;go_ret;exact⟨by simp[oI,HN.i HK.i],HB.i⟩)
  ·obtain rfl:i=s.a:=by omega
   have hall:=HA.i;rw[aJ (av _)]at hall;have HL:=ab hall;clear hall;have hok:oI s=(decide (1<=s.a)&&decide (s.a<=24)):=by simp[oI,HL.i]
   have HK:=ab hok;clear hok;by_cases h1:1<=s.a
   ·by_cases h2:s.a<=24
    all_goals
     go_wp2;go_ret;exact⟨by rw[HK.i];simp[h1,h2]<;>omega,HB.i⟩
   ·have h1':¬(1:Int)<=s.a:=by omega
    go_wp2;go_ret;exact⟨by rw[HK.i];simp[h1],HB.i⟩
structure fC where
 h:Bool
 b:Vector UInt8 16
deriving DecidableEq
structure Bk where
 E:List UInt8
 h:fC
 S:Int
 Bw:Vector UInt8 6
 w:Nat
 drain:Bool
deriving DecidableEq
def fC.ay(a:fC):Array aB:=(bT a.h::a.b.a.map bv).c
def Bk.ay(x:Bk):Array aB:=(jk (bP x.E)::bT x.h.h::(x.h.b.a.map bv++aI .a x.S::(x.Bw.a.map bv++[fv x.w,bT x.drain]))).c
theorem fC.r(a:fC):a.ay.j=17:=by simp[fC.ay]
theorem Bk.r(x:Bk):x.ay.j=27:=by simp[Bk.ay]
@[go_sem]theorem fC.nS(a:fC):a.ay[0]? = some (.e a.h):=rfl
theorem fC.BR(a:fC)(i:Nat)(hi:i<16):a.ay[i+1]? = some (bv (a.b.a.b i 0)):=by
 simp[fC.ay,dW,hi,au]
@[go_sem]theorem Bk.nS(x:Bk):x.ay[0]? = some (.g (bP x.E)):=rfl
@[go_sem]theorem Bk.DK(x:Bk):x.ay[1]? = some (.e x.h.h):=rfl
theorem Bk.BR(x:Bk)(i:Nat)(hi:i<16):x.ay[i+2]? = some (bv (x.h.b.a.b i 0)):=by
 simp[Bk.ay,dW,kW,hi,au]
@[go_sem]theorem Bk.alv(x:Bk):x.ay[18]? = some (.b .a x.S):=by simp[Bk.ay,dW,kW]
theorem Bk.ase(x:Bk)(i:Nat)(hi:i<6):x.ay[i+19]? = some (bv (x.Bw.a.b i 0)):=by
 simp[Bk.ay,dW,kW,hi,au]
@[go_sem]theorem Bk.aaz(x:Bk):x.ay[25]? = some (fv x.w):=by simp[Bk.ay,dW,kW]
@[go_sem]theorem Bk.afk(x:Bk):x.ay[26]? = some (.e x.drain):=by simp[Bk.ay,dW,kW]
theorem fC.dw(a:fC):a.ay.all (·.h)=true:=by
 rw[gG];intro v hv;simp[fC.ay]at hv;rcases hv with rfl|⟨b,_,rfl⟩<;>rfl
theorem Bk.dw(x:Bk):x.ay.all (·.h)=true:=by
 rw[gG];intro v hv;simp[Bk.ay]at hv;rcases hv with rfl|rfl|⟨b,_,rfl⟩|rfl|⟨b,_,rfl⟩|rfl|rfl<;>rfl
theorem Bk.Nz(x:Bk)(j:Nat)(hj:j<17):x.ay[j+1]? = x.h.ay[j]?:=by
 rcases j with _|j
 ·rfl
 ·rw[show j+1+1=j+2 from rfl,Bk.BR x j (by omega),fC.BR x.h j (by omega)]
@[go_sem]theorem Ms(w:ak)(x:Bk)(t:bE):vK (w.alloc (.D x.ay t)) w.a.j 0 27=True:=by
 simp only[eq_iff_iff,iff_true];exact(Ji w x.ay t 0 27 x.ay (Bk.r x) (fun j _=>by rw[bl])).1
@[go_sem]theorem BU(w:ak)(x:Bk)(t:bE):dO (w.alloc (.D x.ay t)) w.a.j 0 27=x.ay:=
 (Ji w x.ay t 0 27 x.ay (Bk.r x) (fun j _=>by rw[bl])).2
@[go_sem]theorem acP(w:ak)(x:Bk)(t:bE):vK (w.alloc (.D x.ay t)) w.a.j 1 17=True:=by
 simp only[eq_iff_iff,iff_true];exact(Ji w x.ay t 1 17 x.h.ay (fC.r _) (fun j hj=>by rw[kM];exact Bk.Nz x j hj)).1
@[go_sem]theorem TM(w:ak)(x:Bk)(t:bE):dO (w.alloc (.D x.ay t)) w.a.j 1 17=x.h.ay:=
 (Ji w x.ay t 1 17 x.h.ay (fC.r _) (fun j hj=>by rw[kM];exact Bk.Nz x j hj)).2
def rZ(v:aB):xI aB:=cK 27 v
def Jj(v:aB):xI aB:=cK 62 v
def Kz(v x:aB):xI Unit:=eU 62 v x
@[go_sem ↓]theorem atE(v:aB):cK 27 v=rZ v:=rfl
@[go_sem ↓]theorem awR(v:aB):cK 62 v=Jj v:=rfl
@[go_sem ↓]theorem atF(v x:aB):eU 62 v x=Kz v x:=rfl
@[go_sem]theorem aaA(W:ak)(b o:Nat)(h:vK W b o 27):(Jj (.c (some ⟨b,o,none⟩))).G ah W = .Y (.d (dO W b o 27)) W:=
 jZ W b o 27 _ _ oF rfl (by kernel_rfl) h
@[go_sem]theorem NA(W:ak)(b o:Nat)(h:vK W b o 17):(rZ (.c (some ⟨b,o,none⟩))).G ah W = .Y (.d (dO W b o 17)) W:=
 jZ W b o 17 _ _ fB rfl (by kernel_rfl) h
@[go_sem]theorem NC(w:ak)(c:Array aB)(x:Bk)(hc:c.j=27):
 (Kz (.c (some ⟨w.a.j,0,none⟩)) (.d x.ay)).G ah (w.alloc (.D c 62)) = .Y () (w.alloc (.D x.ay 62)):=
 zA w _ c x.ay (by rw[Bk.r];kernel_rfl) (by rw[Bk.r];exact hc) (Bk.dw x)
def iO:Bk:=⟨[],⟨false,bJ 16 0⟩,0,bJ 6 0,0,false⟩
@[go_sem]theorem ax3:cB #[jk {data:=#[]},bT false,aA,aA,aA,aA,aA,aA,aA,aA,aA,aA,aA,aA,aA,aA,aA,aA,bg,aA,aA,aA,aA,aA,aA,Ar lC 0,bT false]=cB iO.ay:=rfl
@[go_sem]theorem atG:Obj.cells #[jk {data:=#[]},bT false,aA,aA,aA,aA,aA,aA,aA,aA,aA,aA,aA,aA,aA,aA,aA,aA,bg,aA,aA,aA,aA,aA,aA,Ar lC 0,bT false] 62=Obj.cells iO.ay 62:=rfl
theorem alx{fn:Func}{p u:Tmp}(h:fn.results = #[.cell p 62,.tmp u])(tmps:Array aB)(W:ak)(b o:Nat)(hp:tmps.b p undef=.c (some ⟨b,o,none⟩))(hh:vK W b o 27):
 (results fn tmps).G ah W = .Y (.I #[.d (dO W b o 27),tmps.b u undef]) W:=by
 have hl:=jZ W b o 27 _ _ oF rfl (by kernel_rfl) hh;simp only[cK,zi,jP,oJ,gQ]at hl;rw[LA h,hp];simp[asAddr,iK,hl]
def Vb(W:ak)(b o:Nat)(x:Bk):ak:=W.setCells b o x.ay.a
@[go_sem]theorem ax4(W:ak)(b o:Nat)(x:Bk)(h:W.K b o 27):(Kz (.c (some ⟨b,o,none⟩)) (.d x.ay)).G ah W = .Y () (Vb W b o x):=
 EO W b o _ x.ay (by rw[Bk.r];exact h) (by rw[Bk.r];kernel_rfl) (Bk.dw x)
theorem afl(W:ak)(b o:Nat)(x:Bk)(h:W.K b o 27):∀j,j<27->(Vb W b o x).b ⟨b,o+j,none⟩=x.ay[j]?:=fun j hj=>by
 have hs:=Bk.r x;have:=World.cell?_setCells_in b x.ay.a o W (fun i hi=>(h i (by simpa[hs]using hi)).1) j (by simpa[hs]using hj);rw[Vb,this,Array.getElem_toList,fF (by rw[hs];exact hj)]
theorem ND(W:ak)(b o:Nat)(x:Bk)(h:W.K b o 27):vK (Vb W b o x) b o 27/\dO (Vb W b o x) b o 27=x.ay:=
 uX (Bk.r x) (afl W b o x h)
theorem Sb{w W:ak}{B:Nat}(h:aL B w W)(b o:Nat)(x:Bk)(hb:B<=b):aL B w (Vb W b o x):=by
 unfold Vb;generalize x.ay.a=l
 induction l generalizing W o with
 | nil=>exact h
 | cons v l ih=>rw[Dz];exact ih (h.F hb v) (o+1)
@[go_sem]theorem XO(w:ak)(x y:Bk):
 (Kz (.c (some ⟨w.a.j,0,none⟩)) (.d x.ay)).G ah (w.alloc (.D y.ay 62)) = .Y () (w.alloc (.D x.ay 62)):=
 NC w y.ay x (Bk.r y)
theorem YB(w:ak)(c:Array aB)(t:bE)(hc:c.j=27):(w.alloc (.D c t)).K w.a.j 0 27:=fun j hj=>by
 have hj':j<c.j:=by omega
 refine⟨by rw[bl,lX,fF hj'];rfl,?_⟩;simp
namespace Fl
open Ieee
theorem Jk:double.binade=4503599627370496:=by decide
theorem aaB:double.signWeight=9223372036854775808:=by decide
theorem acQ:double.infRung=9218868437227405312:=by decide
theorem NG:double.leastPlace = -1074:=by decide
theorem atH:double.fractionBits=52:=rfl
def YC(r:Nat):Nat:=if r<4503599627370496 then r else 4503599627370496+r%4503599627370496
def pl(r:Nat):Nat:=r/4503599627370496-1
def V(r:Nat):Nat:=YC r*2^pl r
theorem atI(r:Nat):YC r<9007199254740992:=by unfold YC;split<;>omega
theorem Jl{x:Nat}(h:x<9218868437227405312):double.read x=.number false (YC x) ((pl x:Int)-1074):=by
 unfold Format.read;simp only[aaB,Jk,acQ,NG];have h1:x/9223372036854775808=0:=by omega
 have h2:x%9223372036854775808=x:=by omega
 rw[h1,h2];simp only[YC,pl];by_cases h3:x<4503599627370496
 ·have:x/4503599627370496=0:=by omega
  simp[this,h3]
 ·rw[if_neg h3,if_pos h,if_neg h3]
  congr 1
theorem aly{x:Nat}(h:x<9218868437227405312):double.read (9223372036854775808+x)=.number true (YC x) ((pl x:Int)-1074):=by
 unfold Format.read;simp only[aaB,Jk,acQ,NG];have h1:(9223372036854775808+x)/9223372036854775808=1:=by omega
 have h2:(9223372036854775808+x)%9223372036854775808=x:=by omega
 rw[h1,h2];simp only[YC,pl];by_cases h3:x<4503599627370496
 ·have:x/4503599627370496=0:=by omega
  simp[this,h3]
 ·rw[if_neg h3,if_pos h,if_neg h3]
  congr 1
theorem acR:double.read 9218868437227405312=.infinity false:=by decide +kernel
theorem YD:double.read 18442240474082181120=.infinity true:=by decide +kernel
theorem alz{x:Nat}(h:9218868437227405312<x)(h':x<9223372036854775808):double.read x=.nan false (x-9218868437227405312):=by
 unfold Format.read;simp only[aaB,Jk,acQ,NG];have h1:x/9223372036854775808=0:=by omega
 have h2:x%9223372036854775808=x:=by omega
 rw[h1,h2,if_neg (by omega),if_neg (by omega),if_neg (by omega)];rfl
theorem aiP{x:Nat}(h:18442240474082181120<x)(h':x<18446744073709551616):double.read x=.nan true (x-18442240474082181120):=by
 unfold Format.read;simp only[aaB,Jk,acQ,NG];have h1:x/9223372036854775808=1:=by omega
 have h2:x%9223372036854775808=x-9223372036854775808:=by omega
 rw[h1,h2,if_neg (by omega),if_neg (by omega),if_neg (by omega)];simp;omega
theorem alA(r:Nat):V (r+1)=V r+2^pl r:=by
 unfold V YC pl;by_cases h:r+1<4503599627370496
 ·have h1:r/4503599627370496=0:=by omega
  have h2:(r+1)/4503599627370496=0:=by omega
  rw[if_pos h,if_pos (by omega),h1,h2];simp
 ·rw[if_neg h]
  by_cases h3:(r+1)%4503599627370496=0
  ·
   have h4:r%4503599627370496=4503599627370495:=by omega
   have h5:(r+1)/4503599627370496=r/4503599627370496+1:=by omega
   rw[h3,h5];by_cases h6:r<4503599627370496
   ·have h7:r/4503599627370496=0:=by omega
    rw[if_pos h6,h7];simp;omega
   ·have h7:r/4503599627370496=(r/4503599627370496-1)+1:=by omega
    rw[if_neg h6,h4];have e:r/4503599627370496+1-1=(r/4503599627370496-1)+1:=by omega
    rw[e,Nat.pow_succ];generalize 2^(r/4503599627370496-1)=z;omega
  ·have h5:(r+1)/4503599627370496=r/4503599627370496:=by omega
   have h6:(r+1)%4503599627370496=r%4503599627370496+1:=by omega
   rw[h5,h6,if_neg (by omega)];generalize 2^(r/4503599627370496-1)=z;rw[show 4503599627370496+(r%4503599627370496+1)=(4503599627370496+r%4503599627370496)+1 from rfl,Kj]
theorem aaC{r s:Nat}(h:r<=s):V r<=V s:=by
 induction h with
 | refl=>exact av _
 | step _ ih=>rw[alA];exact aO ih (Nat.le_add_right _ _)
theorem ax5{r s:Nat}(h:r<s):V r<V s:=by
 have h1:=alA r;have h2:=aaC (show r+1<=s from h);have h3:0<2^pl r:=j4 _;omega
theorem NH{r s:Nat}:V r<=V s↔r<=s:=⟨fun h=>by
 by_cases hc:r<=s
 ·exact hc
 ·have:=ax5 (show s<r by omega);omega,aaC⟩
theorem afm:V 0=0:=by decide
theorem asf{r:Nat}(h:0<r):0<V r:=by have:=ax5 h;omega
theorem acS(a b:Int)(z:Nat)(hz:0<z):compare (a*z) (b*z)=compare a b:=by
 simp only[compare,compareOfLessAndEq];have a1:(a*(z:Int)<b*z)↔a<b:=Int.mul_lt_mul_right (by omega);have a2:(a*(z:Int)=b*z)↔a=b:=Int.mul_eq_mul_right_iff (by omega);simp only[a1,a2]
theorem Vd(s:Bool)(m k d:Nat):signed s m (k+d)=signed s m k*(2^d:Nat):=by
 unfold signed;simp only[mU,mI];cases s
 ·simp[Int.mul_assoc]
 ·simp[Int.mul_assoc,Int.neg_mul]
theorem aiQ(s t:Bool)(m n i j:Nat):Datum.order (.number s m ((i:Int)-1074)) (.number t n ((j:Int)-1074))=some (compare (signed s m i) (signed t n j)):=by
 simp only[Datum.order];congr 1;obtain⟨b,hb⟩:∃b:Nat,b=min i j:=⟨_,rfl⟩
 have e0:min ((i:Int)-1074) ((j:Int)-1074)=(b:Int)-1074:=by omega
 rw[e0];have e1:signed s m i=signed s m ((i:Int)-1074-((b:Int)-1074)).g*(2^b:Nat):=by
  rw[<-Vd];congr 1;omega
 have e2:signed t n j=signed t n ((j:Int)-1074-((b:Int)-1074)).g*(2^b:Nat):=by
  rw[<-Vd];congr 1;omega
 rw[e1,e2];exact(acS _ _ _ (j4 _)).symm
def TN(x:Nat):Prop:=x<9218868437227405312\/(9223372036854775808<=x/\x<18442240474082181120)
def SV(x:Nat):Int:=if x<9223372036854775808 then(V x:Int)else -(V (x-9223372036854775808):Int)
theorem NI{x:Nat}(h:TN x):∃(s:Bool)(m i:Nat),double.read x=.number s m ((i:Int)-1074)/\signed s m i=SV x:=by
 rcases h with h|⟨h,h'⟩
 ·exact⟨_,_,_,Jl h,by unfold SV;rw[if_pos (by omega)];simp[signed,V,mU]⟩
 ·have:=aly (x:=x-9223372036854775808) (by omega)
  rw[show 9223372036854775808+(x-9223372036854775808)=x by omega]at this;exact⟨_,_,_,this,by unfold SV;rw[if_neg (by omega)];simp[signed,V,mU]⟩
theorem NJ{x y:Nat}(hx:TN x)(hy:TN y):double.order x y=some (compare (SV x) (SV y)):=by
 obtain⟨s,m,i,h1,h2⟩:=NI hx;obtain⟨t,n,j,h3,h4⟩:=NI hy;unfold Format.order;rw[h1,h3,aiQ,h2,h4]
theorem aaD{x:Nat}(hx:x<18446744073709551616)(h:¬TN x):x=9218868437227405312\/x=18442240474082181120\/(∃s f,double.read x=.nan s f):=by
 unfold TN at h;by_cases h1:x=9218868437227405312
 ·exact .a h1
 by_cases h2:x=18442240474082181120
 ·exact .b (.a h2)
 by_cases h3:x<9223372036854775808
 ·exact .b (.b ⟨_,_,alz (by omega) h3⟩)
 ·exact .b (.b ⟨_,_,aiP (by omega) hx⟩)
theorem KC{x y:Nat}{s f}(h:double.read x=.nan s f):double.order x y=none:=by
 unfold Format.order;rw[h];rfl
theorem Qm{y:Nat}(hy:TN y):double.order 9218868437227405312 y=some .gt:=by
 obtain⟨t,n,j,h3,h4⟩:=NI hy;unfold Format.order;rw[h3,acR];rfl
theorem Mt{y:Nat}(hy:TN y):double.order 18442240474082181120 y=some .lt:=by
 obtain⟨t,n,j,h3,h4⟩:=NI hy;unfold Format.order;rw[h3,YD];rfl
theorem acT(k t:Nat)(hk:0<k):(k*2^t).log2=k.log2+t:=by
 have h0:k*2^t≠0:=uP (Nat.mul_pos hk (j4 _));have h1:2^k.log2<=k:=Nat.log2_self_le (by omega);have h2:k<2^(k.log2+1):=Nat.lt_log2_self;refine Nat.le_antisymm ?_ ?_
 ·refine Gm ((Nat.log2_lt h0).2 ?_)
  rw[show Nat.succ (k.log2+t)=(k.log2+1)+t by omega,mI];exact(Nat.mul_lt_mul_right (j4 _)).2 h2
 ·refine(Nat.le_log2 h0).2 ?_
  rw[mI];exact dz _ h1
theorem alB(way:Toward)(neg:Bool)(n:Nat):way.cut neg n 0=n:=by
 unfold Toward.cut;cases way<;>simp[Nat.mod_one]
theorem aiR(neg:Bool)(k t:Nat)(hk:0<k):Toward.even.cut neg (k*2^t) t=k:=by
 unfold Toward.cut;have h0:min t ((k*2^t).log2+2)=t:=by rw[acT _ _ hk];omega
 have h1:(1 <<< t)=2^t:=by rw[mU,Nat.one_mul]
 have hp:0<2^t:=j4 _;simp only[h0,h1,Nat.mul_div_cancel _ hp,Nat.mul_mod_left];simp
theorem acU(n t:Nat):Toward.down.cut false n t=n/2^t:=by
 unfold Toward.cut;simp only[Bool.false_and,Bool.toNat_false,mW];have h1:∀d,(1 <<< d)=2^d:=fun d=>by rw[mU,Nat.one_mul]
 rw[h1];by_cases h:t<=n.log2+2
 ·rw[oN h]
 ·rw[Ap (by omega)]
  have h2:n<2^(n.log2+1):=Nat.lt_log2_self;have h3:2^(n.log2+1)<=2^(n.log2+2):=kX (by omega) (by omega);have h4:2^(n.log2+2)<=2^t:=kX (by omega) (by omega);rw[Nat.div_eq_of_lt (by omega),Nat.div_eq_of_lt (by omega)]
theorem aiS(neg:Bool)(n t:Nat):Toward.zero.cut neg n t=n/2^t:=by
 have:=acU n t;unfold Toward.cut at this ⊢;simpa using this
theorem LQ(neg:Bool)(k t s:Nat)(p:Int)(hp:p+t=(s:Int)-1074)(hk0:0<k)(hk:k<9007199254740992)(hs:s+k.log2<=2097):
 ∃r,r<9218868437227405312/\double.nearest neg (k*2^t) p=double.word neg r/\V r=k*2^s:=by
 have ax6:k.log2<=52:=Gm ((Nat.log2_lt (by omega)).2 (by simpa using hk));have h1:2^k.log2<=k:=Nat.log2_self_le (by omega);have h2:k<2^(k.log2+1):=Nat.lt_log2_self;have hne:k*2^t≠0:=uP (Nat.mul_pos hk0 (j4 _));obtain⟨l,hl⟩:∃l:Nat,l=s+k.log2-52:=⟨_,rfl⟩
 have hlast:max (p+((k*2^t).log2:Int)-52) (-1074)=(l:Int)-1074:=by rw[acT _ _ hk0];omega
 have hkept:Toward.even.cut neg ((k*2^t) <<< (p-((l:Int)-1074)).g) (((l:Int)-1074)-p).g=k*2^(s-l):=by
  rw[mU];by_cases hc:(l:Int)-1074<=p
  ·rw[show(((l:Int)-1074)-p).g=0 by omega,alB,AU,<-mI]
   congr 2;omega
  ·rw[show(p-((l:Int)-1074)).g=0 by omega,Nat.pow_zero,gL]
   obtain⟨d,hd⟩:∃d:Nat,d=(((l:Int)-1074)-p).g:=⟨_,rfl⟩
   rw[<-hd,show k*2^t=(k*2^(s-l))*2^d by rw[AU,<-mI];congr 2;omega];exact aiR _ _ _ (Nat.mul_pos hk0 (j4 _))
 have hrun:double.nearest neg (k*2^t) p=double.word neg (min (l*4503599627370496+k*2^(s-l)) 9218868437227405312):=by
  unfold Format.nearest;simp only[if_neg hne,atH,NG,Jk,acQ];rw[show((52:Nat):Int)=52 from rfl,hlast,hkept];congr 4;omega
 by_cases hl0:l=0
 ·subst hl0
  have hb:k*2^s<9007199254740992:=by
   have h5:k*2^s<2^(k.log2+1)*2^s:=(Nat.mul_lt_mul_right (j4 _)).2 h2;rw[<-mI]at h5;have h6:2^(k.log2+1+s)<=2^53:=kX (by omega) (by omega);omega
  refine⟨k*2^s,by omega,?_,?_⟩
  ·rw[hrun,DI,bl,Nat.sub_zero,oN (by omega)]
  ·generalize k*2^s=z at hb
   unfold V YC pl;split
   ·rename_i h7;rw[show z/4503599627370496=0 by omega];simp
   ·rename_i h7;rw[show z/4503599627370496=1 by omega];simp;omega
 ·have hb1:4503599627370496<=k*2^(s-l):=by
   have h5:2^k.log2*2^(s-l)<=k*2^(s-l):=dz _ h1;rw[<-mI,show k.log2+(s-l)=52 by omega]at h5;exact h5
  have hb2:k*2^(s-l)<9007199254740992:=by
   have h5:k*2^(s-l)<2^(k.log2+1)*2^(s-l):=(Nat.mul_lt_mul_right (j4 _)).2 h2;rw[<-mI,show k.log2+1+(s-l)=53 by omega]at h5;exact h5
  have hv:k*2^s=k*2^(s-l)*2^l:=by rw[AU,<-mI];congr 2;omega
  rw[hv];generalize k*2^(s-l)=z at hb1 hb2 hrun;refine⟨l*4503599627370496+z,by omega,?_,?_⟩
  ·rw[hrun,oN (by omega)]
  ·unfold V YC pl
   rw[if_neg (by omega),show(l*4503599627370496+z)/4503599627370496=l+1 by omega,show(l*4503599627370496+z)%4503599627370496=z-4503599627370496 by omega];rw[show 4503599627370496+(z-4503599627370496)=z by omega];rfl
def top:Nat:=1074
theorem afn:top=1074:=rfl
def U:Nat:=2^top
theorem alC{p:Nat}(h:p<=top):U=2^(top-p)*2^p:=by
 have h1:2^(top-p+p)=2^(top-p)*2^p:=mI 2 (top-p) p;rw[Nat.sub_add_cancel h]at h1;exact h1
theorem apt{p:Nat}(h:p<=1074):U=2^(1074-p)*2^p:=by
 have h1:=alC (p:=p) (by rw[afn];exact h);rw[h1,show top-p=1074-p from congrArg (fun z=>z-p) afn]
theorem atJ:∃s:Nat,s=1074/\U=2^s:=⟨top,afn,rfl⟩
theorem alD:0<U:=j4 _
theorem aiT:double.read 4652218415073722368=.number false 4503599627370496 (-42):=by decide +kernel
theorem afo:V 4652007308841189376=1000*U:=by decide +kernel
theorem Gv(r:Nat):double.word false r=r:=rfl
theorem aaE(x t s:Nat)(p:Int)(hp:p+t=(s:Int)-1074)(hs:s<=2045):
 ∃r,r<9218868437227405312/\double.write (.number false (YC x*2^t) p)=r/\V r=YC x*2^s:=by
 unfold Format.write;by_cases h0:YC x=0
 ·rw[h0,DI]
  exact⟨0,by decide,by simp[Format.nearest,Gv],by simp[afm]⟩
 ·have hm:=atI x
  have ax6:(YC x).log2<=52:=Gm ((Nat.log2_lt h0).2 (by simpa using hm));obtain⟨r,a,b,c⟩:=LQ false (YC x) t s p hp (by omega) hm (by omega);exact⟨r,a,b.trans (Gv r),c⟩
theorem alE{x:Nat}(h:x<=4652007308841189376):∃r,r<9218868437227405312/\double.mul x 4652218415073722368=some r/\V r=V x*1024:=by
 unfold Format.mul;rw[Jl (x:=x) (by omega),aiT];obtain⟨r,a,b,c⟩:=aaE x 52 (pl x+10) ((pl x:Int)-1074 + -42) (by omega) (by unfold pl;omega);refine⟨r,a,?_,?_⟩
 ·simp only[Datum.product,Option.map]
  rw[show(4503599627370496:Nat)=2^52 from rfl];exact congrArg some b
 ·rw[c,V,mI,AU]
theorem acV:double.mul 9223372036854775808 4652218415073722368=some 9223372036854775808:=by decide +kernel
theorem Ve{r c:Nat}(h:V r<=V c):pl r<=pl c:=by
 have:=NH.1 h;unfold pl;have:=Nat.div_le_div_right (c:=4503599627370496) this;omega
theorem asg{r:Nat}(h:pl r<=1074):YC r/2^(1074-pl r)=V r/U:=by
 unfold V;rw[apt h,Nat.mul_div_mul_right _ _ (j4 _)]
theorem XP{r:Nat}(hr:r<9218868437227405312)(h:pl r<=1074):(double.read r).integral .down=.number false (V r/U) 0:=by
 rw[Jl hr];simp only[Datum.integral];rw[show((pl r:Int)-1074).g=0 by omega,show(-((pl r:Int)-1074)).g=1074-pl r by omega,Nat.shiftLeft_zero,acU,asg h]
theorem XQ{r:Nat}(hr:r<9218868437227405312)(h:pl r<=1074):(double.read r).integral .zero=.number false (V r/U) 0:=by
 rw[Jl hr];simp only[Datum.integral];rw[show((pl r:Int)-1074).g=0 by omega,show(-((pl r:Int)-1074)).g=1074-pl r by omega,Nat.shiftLeft_zero,aiS,asg h]
theorem acW(q:Nat)(hq:q<9007199254740992):∃r,r<9218868437227405312/\double.write (.number false q 0)=r/\V r=q*U:=by
 unfold Format.write;by_cases h0:q=0
 ·subst h0
  exact⟨0,by decide,by simp[Format.nearest,Gv],by simp[afm]⟩
 ·have ax6:q.log2<=52:=Gm ((Nat.log2_lt h0).2 (by simpa using hq))
  obtain⟨u,hu,hU⟩:=atJ;obtain⟨r,a,b,c⟩:=LQ false q 0 u 0 (by omega) (by omega) hq (by omega);rw[Nat.pow_zero,gL]at b;rw[<-hU]at c;exact⟨r,a,b.trans (Gv r),c⟩
theorem alF:V 4697254411347427328=1048576*U:=by decide +kernel
theorem alG{r q:Nat}(hv:V r=q*U)(hq:q<=1048576):pl r<=1074:=by
 have h1:V r<=V 4697254411347427328:=by rw[hv,alF];exact dz _ hq
 have h2:=Ve h1;have h3:pl 4697254411347427328=1042:=by decide +kernel
 omega
def qY(x:Nat):Nat:=V x*1024/U
theorem Sc{x y:Nat}(h:x<=y):qY x<=qY y:=Nat.div_le_div_right (dz _ (aaC h))
theorem acX:qY 4652007308841189376=1024000:=by
 unfold qY;rw[afo,Nat.mul_right_comm,Nat.mul_div_cancel _ alD]
theorem aiU{x:Nat}(h:x<=4652007308841189376):qY x<=1024000:=acX ▸ Sc h
end Fl
theorem zF(x:Nat)(w:ak):(callFunc 198 #[.float .f64 x]).G ah w = .Y (.value (.b .c x)) w:=by
 rw[yQ Tryz.func198 (by kernel_rfl) (by kernel_rfl) (by kernel_rfl) (e:=Extern.MathFloatBits.float64bits) (by kernel_rfl)];rfl
def ord(x y:Nat):Option Ordering:=lC.format.order x y
def NK(x:Nat):Bool:=ord x x != some .eq
theorem aiW(x:Nat)(w:ak):aP ah 261 #[.float .f64 x] w fun e w'=>e=.a (.e (NK x))/\w=w':=by
 go_enter Tryz.func261,Tryz.ntmps261;go_wp2;go_ret;exact⟨rfl,rfl⟩
def Ip(x:Nat):Nat:=if NK x then 9221120237041090560 else x
theorem alH(x:Nat)(w:ak):aP ah 192 #[.float .f64 x] w fun e w'=>e=.a (.b .c (Ip x))/\w=w':=by
 have h1:=zF x;cases hn:NK x
 all_goals
  go_enter Tryz.func192,Tryz.ntmps192;go_wp2_with (first|(go_at_call 261;refine(aiW _ _).e ?_;rintro e w' ⟨rfl,rfl⟩));go_ret;exact⟨by simp[Ip,hn],rfl⟩
def Fb(x y:Nat):Bool:=Ip x==Ip y
theorem acY(x y:Nat)(w:ak):aP ah 112 #[.float .f64 x,.float .f64 y] w fun e w'=>e=.a (.e (Fb x y))/\w=w':=by
 go_enter Tryz.func112,Tryz.ntmps112;go_wp2_with (first|(go_at_call 192;refine(alH _ _).e ?_;rintro e w' ⟨rfl,rfl⟩));go_ret;exact⟨by simp[Fb,aph],rfl⟩
def Qn(x:Nat):Bool:=(ord x 0==some .gt||ord x 0==some .eq)&&(ord x 4652007308841189376==some .lt||ord x 4652007308841189376==some .eq)
theorem KD(x:Nat)(w:ak):aP ah 170 #[.float .f64 x] w fun e w'=>e=.a (.e (Qn x))/\w=w':=by
 cases h0:(lC.format.order x 0==some .gt||lC.format.order x 0==some .eq)
 all_goals
  go_enter Tryz.func170,Tryz.ntmps170;go_wp2;go_ret;exact⟨by simp[Qn,ord,h0],rfl⟩
def kg(x:Nat):Nat:=if ord x 0==some .eq then 0 else x
theorem zG(x:Nat)(w:ak):aP ah 113 #[.float .f64 x] w fun e w'=>e=.a (.float .f64 (kg x))/\w=w':=by
 cases h0:(lC.format.order x 0==some .eq)
 all_goals
  go_enter Tryz.func113,Tryz.ntmps113;go_wp2;go_ret;exact⟨by simp[kg,ord,h0],rfl⟩
def Gi(x:Nat):Bool:=decide (x<=4652007308841189376)||x==9223372036854775808
theorem KE{x:Nat}(hx:x<18446744073709551616):Qn x=Gi x:=by
 have f0:Fl.TN 0:=by unfold Fl.TN;omega
 have f1:Fl.TN 4652007308841189376:=by unfold Fl.TN;omega
 have s0:Fl.SV 0=0:=by decide +kernel
 have s1:Fl.SV 4652007308841189376=(Fl.V 4652007308841189376:Int):=by unfold Fl.SV;rw[if_pos (by omega)]
 have afp:∀a b,ord a b=rz.order a b:=fun _ _=>rfl
 unfold Qn Gi;rw[bF];simp only[afp];by_cases hf:Fl.TN x
 ·rw[Fl.NJ hf f0,Fl.NJ hf f1,s0,s1]
  have e1:∀a b:Int,(some (compare a b)==some Ordering.gt||some (compare a b)==some Ordering.eq)=decide (b<=a):=by
   intro a b;rw[bF];simp[Int.compare_eq_gt,Gn];omega
  have e2:∀a b:Int,(some (compare a b)==some Ordering.lt||some (compare a b)==some Ordering.eq)=decide (a<=b):=by
   intro a b;rw[bF];simp[Int.compare_eq_lt,Gn];omega
  rw[e1,e2];unfold Fl.SV;split
  ·rename_i h1
   have:=@Fl.NH x 4652007308841189376;simp;omega
  ·rename_i h1
   have:=@Fl.NH (x-9223372036854775808) 0;have hz:=Fl.afm;simp;omega
 ·have hno:¬x<=4652007308841189376:=fun h=>hf (by unfold Fl.TN;omega)
  have hno':¬x=9223372036854775808:=fun h=>hf (by unfold Fl.TN;omega)
  rcases Fl.aaD hx hf with rfl|rfl|⟨s,f,h⟩
  ·rw[Fl.Qm f0,Fl.Qm f1];decide
  ·rw[Fl.Mt f0,Fl.Mt f1];decide
  ·rw[Fl.KC h,Fl.KC h]
   simp;omega
def wQ(x:Nat):Nat:=if Gi x then Fl.qY (x%9223372036854775808)else 0
theorem ash(x:Nat):wQ x<=1024000:=by
 unfold wQ;split
 ·rename_i h
  simp[Gi]at h;refine Fl.aiU ?_;omega
 ·omega
theorem Vf(x:Nat)(d:Ieee.Datum)(h:rz.read x=d)(hn:d.isNaN=false)(w:ak):
 (callFunc 244 #[.float .f64 x]).G ah w = .Y (.value (.float .f64 (rz.write (d.integral .down)))) w:=by
 rw[yQ Tryz.func244 (by kernel_rfl) (by kernel_rfl) (by kernel_rfl) (e:=Extern.MathFloor.toIntegral (Tryz.f244.E) .down) (by kernel_rfl)];have e:lC.decode x=d:=h;have hrun:Kk ah (Extern.MathFloor.toIntegral (Tryz.f244.E) .down #[.float .f64 x]) w = .Y (.float .f64 (rz.write (d.integral .down))) w:=by
  change Kk ah ((match lC.decode x with
   | .nan s t=>
     if lC.format.quiet t=t then pure (Ar .f64 x)else do
     let kept<-choose _
     pure (Ar .f64 (if kept==1 then x else lC.encode (.nan s (lC.format.quiet t))))
   | d=>pure (Ar .f64 (lC.encode (d.integral .down)))):xI aB) w=_
  rw[e];cases d with
  | nan s f=>simp[Ieee.Datum.isNaN]at hn
  | infinity s=>rfl
  | number s m i=>rfl
 rw[hrun];rfl
theorem aiX(x:Nat)(h:Gi x=true)(w:ak):aP ah 86 #[.float .f64 x] w fun e w'=>e=.a (.I #[.b .a (wQ x),.e true])/\w=w':=by
 have hx:x<18446744073709551616:=by simp[Gi]at h;omega
 have hr:Qn x=true:=by rw[KE hx,h]
 obtain⟨r,r2,e1,e2,e3,e4⟩:∃r r2,rz.mul x 4652218415073722368=some r/\(rz.read r).isNaN=false/\rz.write ((rz.read r).integral .down)=r2/\floatToIntVal .f64 r2 .a=some (wQ x:Int):=by
  by_cases hm:x=9223372036854775808
  ·subst hm
   exact⟨_,_,Fl.acV,by decide +kernel,rfl,by decide +kernel⟩
  ·have hle:x<=4652007308841189376:=by simp[Gi]at h;omega
   have hq:wQ x=Fl.qY x:=by unfold wQ;rw[if_pos h,fO (by omega)]
   obtain⟨r,a,b,c⟩:=Fl.alE hle;have aC1:=ash x;have hV:Fl.V r<1048576*Fl.U:=by
    have h1:=Fl.aaC hle;rw[Fl.afo]at h1;have:=Fl.alD;rw[c];generalize Fl.V x=y at h1;generalize Fl.U=u at h1 this;omega
   have hpl:Fl.pl r<=1074:=by
    have h1:Fl.V r<=Fl.V 4697254411347427328:=by rw[Fl.alF];exact Nat.le_of_lt hV
    have h2:=Fl.Ve h1;have h3:Fl.pl 4697254411347427328=1042:=by decide +kernel
    omega
   have hi:=Fl.XP a hpl;have hqq:Fl.V r/Fl.U=wQ x:=by rw[hq,c];rfl
   rw[hqq]at hi;obtain⟨r2,a2,b2,c2⟩:=Fl.acW (wQ x) (by omega);have hz:=Fl.XQ a2 (Fl.alG c2 (by omega));rw[c2,Nat.mul_div_cancel _ Fl.alD]at hz;refine⟨r,r2,b,?_,?_,?_⟩
   ·rw[Fl.Jl a];rfl
   ·rw[hi];exact b2
   ·unfold floatToIntVal
    have:(lC.decode r2).toInt .zero=some (wQ x:Int):=by
     show(rz.read r2).toInt .zero=_;unfold Ieee.Datum.toInt;rw[hz];simp[Ieee.signed]
    rw[this];simp[Kh,Ki,mq,nZ];omega
 have h1:=fun w=>run_float_arith (P:=ah) w .mul 60 .f64 x 4652218415073722368 r e1
 have h2:=Vf r _ rfl e2;rw[e3]at h2;have h3:=fun w=>run_convert_float_int (P:=ah) w 60 3 .f64 .a r2 _ (by kernel_rfl) gV e4
 clear e1 e2 e3 e4;go_enter Tryz.func86,Tryz.ntmps86;go_wp2_with (first|(go_at_call 170;refine(KD _ _).e ?_;rintro e w' ⟨rfl,rfl⟩)|(go_at_call 171;go_in));go_ret2;exact⟨rfl,rfl⟩
theorem aiY(x:Nat)(hx:x<18446744073709551616)(h:Gi x=false)(w:ak):aP ah 86 #[.float .f64 x] w fun e w'=>e=.a (.I #[.b .a (wQ x),.e false])/\w=w':=by
 have hr:Qn x=false:=by rw[KE hx,h]
 have hq:wQ x=0:=by unfold wQ;rw[h];rfl
 go_enter Tryz.func86,Tryz.ntmps86;go_wp2_with (first|(go_at_call 170;refine(KD _ _).e ?_;rintro e w' ⟨rfl,rfl⟩));go_ret2;exact⟨by simp[hq],rfl⟩
theorem afq(x:Nat)(hx:x<18446744073709551616)(w:ak):aP ah 86 #[.float .f64 x] w fun e w'=>e=.a (.I #[.b .a (wQ x),.e (Gi x)])/\w=w':=by
 cases h:Gi x
 ·exact aiY x hx h w
 ·exact aiX x h w
theorem Gw(x m k:Nat)(hx:x<18446744073709551616)(hm:m+1=2^k)(hk:m<18446744073709551616):bits .and .c (x:Int) (m:Int)=((x%2^k:Nat):Int):=by
 rw[bits_and_u64_nat x m hx hk,show m=2^k-1 by omega,Nat.and_two_pow_sub_one_eq_mod]
theorem qV(x:Nat)(hx:x<18446744073709551616)(w:ak):aP ah 265 #[.float .f64 x] w fun e w'=>
 e=.a (.I #[.e (decide (9223372036854775808<=x)),.b .a (x/4503599627370496%2048:Nat),.b .c (x%4503599627370496:Nat)])/\w=w':=by
 have h1:=zF x;have h2:bits .and .c ((x:Int)/4503599627370496) 2047=((x/4503599627370496%2048:Nat):Int):=
  Gw (x/4503599627370496) 2047 11 (by omega) (by omega) (by omega)
 have h3:bits .and .c (x:Int) 4503599627370495=((x%4503599627370496:Nat):Int):=
  Gw x 4503599627370495 52 (by omega) (by omega) (by omega)
 go_enter Tryz.func265,Tryz.ntmps265;go_wp2;go_ret3;refine⟨?_,rfl⟩;have e1:((x:Int)/9223372036854775808==1)=decide (9223372036854775808<=x):=by rw[bF];simp;omega
 have e2:wrap64 ((x/4503599627370496%2048:Nat):Int)=((x/4503599627370496%2048:Nat):Int):=IntWalk.wrap64_in _ (by omega);simp[e1]
theorem acZ(M l:Nat)(hM2:M<4503599627370496)(hl:l<63):
 bits .and .c ((M:Int)+4503599627370496) (gB.d (gB.d (2^l)-1))=(((M+4503599627370496)%2^l:Nat):Int):=by
 have hp:0<2^l:=j4 l;have h2:2^l<18446744073709551616:=eF (Nat.pow_lt_pow_right (by omega) hl) (by decide);have e:gB.d (gB.d (2^l)-1)=((2^l-1:Nat):Int):=by
  rw[jh,jh];have:((2:Int)^l)=((2^l:Nat):Int):=by simp
  rw[this];omega
 rw[e,show((M:Int)+4503599627370496)=((M+4503599627370496:Nat):Int)by omega];exact Gw _ _ l (by omega) (by omega) (by omega)
theorem aiZ(x:Nat)(hx:x<18446744073709551616)(he:x%9223372036854775808=0)(w:ak):aP ah 264 #[.float .f64 x] w fun e w'=>
 e=.a (.I #[.b .a 0,.e true])/\w=w':=by
 have h1:((x/4503599627370496%2048:Nat):Int)=0:=by omega
 have h2:((x%4503599627370496:Nat):Int)=0:=by omega
 go_enter ql,oq;go_wp2_with (first|(go_at_call 265;refine(qV _ hx _).e ?_;rintro e w' ⟨rfl,rfl⟩;rw[h1,h2]));go_ret2;exact⟨rfl,rfl⟩
theorem afr(x:Nat)(hx:x<18446744073709551616)(he:9223372036854775808<x)(w:ak):aP ah 264 #[.float .f64 x] w fun e w'=>
 e=.a (.I #[.b .a 0,.e false])/\w=w':=by
 have h1:decide (9223372036854775808<=x)=true:=by simp;omega
 by_cases hc:x/4503599627370496%2048=0
 ·have h2:(((x/4503599627370496%2048:Nat):Int)==0)=true:=by rw[beq_iff_eq];omega
  have h3:(((x%4503599627370496:Nat):Int)==0)=false:=by rw[beq_eq_false_iff_ne];omega
  clear hc;go_enter ql,oq;go_wp2_with (first|(go_at_call 265;refine(qV _ hx _).e ?_;rintro e w' ⟨rfl,rfl⟩;rw[h1];generalize((x/4503599627370496%2048:Nat):Int)=e at h2⊢;generalize((x%4503599627370496:Nat):Int)=m at h3⊢));go_ret2;exact⟨rfl,rfl⟩
 ·have h2:(((x/4503599627370496%2048:Nat):Int)==0)=false:=by rw[beq_eq_false_iff_ne];omega
  clear hc;go_enter ql,oq;go_wp2_with (first|(go_at_call 265;refine(qV _ hx _).e ?_;rintro e w' ⟨rfl,rfl⟩;rw[h1];generalize((x/4503599627370496%2048:Nat):Int)=e at h2⊢;generalize((x%4503599627370496:Nat):Int)=m));go_ret2;exact⟨rfl,rfl⟩
theorem afs(x:Nat)(hx:x<9223372036854775808)(he:4652218415073722368<=x)(w:ak):aP ah 264 #[.float .f64 x] w fun e w'=>
 e=.a (.I #[.b .a 0,.e false])/\w=w':=by
 have h1:decide (9223372036854775808<=x)=false:=by simp;omega
 have h2:(((x/4503599627370496%2048:Nat):Int)==0)=false:=by rw[beq_eq_false_iff_ne];omega
 have h4:1033<=(((x/4503599627370496%2048:Nat):Int)):=by omega
 by_cases hc:x/4503599627370496%2048=2047
 ·have h3:(((x/4503599627370496%2048:Nat):Int)==2047)=true:=by rw[beq_iff_eq];omega
  clear hc;go_enter ql,oq;go_wp2_with (first|(go_at_call 265;refine(qV _ (by omega) _).e ?_;rintro e w' ⟨rfl,rfl⟩;rw[h1];generalize((x/4503599627370496%2048:Nat):Int)=e at h2 h3 h4⊢;generalize((x%4503599627370496:Nat):Int)=m));go_ret2;exact⟨rfl,rfl⟩
 ·have h3:(((x/4503599627370496%2048:Nat):Int)==2047)=false:=by rw[beq_eq_false_iff_ne];omega
  have h5:0<(((x/4503599627370496%2048:Nat):Int)):=by omega
  clear hc;go_enter ql,oq;go_wp2_with (first|(go_at_call 265;refine(qV _ (by omega) _).e ?_;rintro e w' ⟨rfl,rfl⟩;rw[h1];generalize((x/4503599627370496%2048:Nat):Int)=e at h2 h3 h4 h5⊢;generalize((x%4503599627370496:Nat):Int)=m));go_ret2;exact⟨rfl,rfl⟩
theorem aft(x E M:Nat)(hx:x<4652218415073722368)(hE:E=x/4503599627370496)(hM:M=x%4503599627370496)(h0:0<E)(hl:60<1075-E-10)(w:ak):aP ah 264 #[.float .f64 x] w fun e w'=>
 e=.a (.I #[.b .a 0,.e true])/\w=w':=by
 have h1:decide (9223372036854775808<=x)=false:=by simp;omega
 have e1:((x/4503599627370496%2048:Nat):Int)=(E:Int):=by omega
 have e2:((x%4503599627370496:Nat):Int)=(M:Int):=by omega
 have hE2:E<1033:=by omega
 have hM2:M<4503599627370496:=by omega
 clear hE hM;have h2:((E:Int)==0)=false:=by rw[beq_eq_false_iff_ne];omega
 have h3:((E:Int)==2047)=false:=by rw[beq_eq_false_iff_ne];omega
 go_enter ql,oq;go_wp2_with (first|(go_at_call 265;refine(qV _ (by omega) _).e ?_;rintro e w' ⟨rfl,rfl⟩;rw[h1,e1,e2];clear e1 e2));go_ret2;exact⟨rfl,rfl⟩
theorem alI(x E M:Nat)(hx:x<4652218415073722368)(hE:E=x/4503599627370496)(hM:M=x%4503599627370496)(h0:0<E)(hl:63<=1075-E)(hl2:1075-E-10<=60)(w:ak):aP ah 264 #[.float .f64 x] w fun e w'=>
 e=.a (.I #[.b .a (wrap64 (((M:Int)+4503599627370496)/2^(1075-E-10))),.e true])/\w=w':=by
 have h1:decide (9223372036854775808<=x)=false:=by simp;omega
 have e1:((x/4503599627370496%2048:Nat):Int)=(E:Int):=by omega
 have e2:((x%4503599627370496:Nat):Int)=(M:Int):=by omega
 have hE2:E<1033:=by omega
 have hM2:M<4503599627370496:=by omega
 clear hE hM;have h2:((E:Int)==0)=false:=by rw[beq_eq_false_iff_ne];omega
 have h3:((E:Int)==2047)=false:=by rw[beq_eq_false_iff_ne];omega
 go_enter ql,oq;go_wp2_with (first|(go_at_call 265;refine(qV _ (by omega) _).e ?_;rintro e w' ⟨rfl,rfl⟩;rw[h1,e1,e2];clear e1 e2));go_ret2;exact⟨rfl,rfl⟩
theorem apu(x E M:Nat)(hx:x<4652218415073722368)(hE:E=x/4503599627370496)(hM:M=x%4503599627370496)(h0:0<E)(hl:1075-E<63)(hq:1000<((M:Int)+4503599627370496)/2^(1075-E))(w:ak):aP ah 264 #[.float .f64 x] w fun e w'=>
 e=.a (.I #[.b .a 0,.e false])/\w=w':=by
 have h1:decide (9223372036854775808<=x)=false:=by simp;omega
 have e1:((x/4503599627370496%2048:Nat):Int)=(E:Int):=by omega
 have e2:((x%4503599627370496:Nat):Int)=(M:Int):=by omega
 have hE2:E<1033:=by omega
 have hM2:M<4503599627370496:=by omega
 clear hE hM;have h2:((E:Int)==0)=false:=by rw[beq_eq_false_iff_ne];omega
 have h3:((E:Int)==2047)=false:=by rw[beq_eq_false_iff_ne];omega
 have hq1:decide (1000<((M:Int)+4503599627370496)/2^(1075-E))=true:=by simpa using hq
 go_enter ql,oq;go_wp2_with (first|(go_at_call 265;refine(qV _ (by omega) _).e ?_;rintro e w' ⟨rfl,rfl⟩;rw[h1,e1,e2];clear e1 e2));go_ret2;exact⟨rfl,rfl⟩
theorem apv(x E M:Nat)(hx:x<4652218415073722368)(hE:E=x/4503599627370496)(hM:M=x%4503599627370496)(h0:0<E)(hl:1075-E<63)(hq:((M:Int)+4503599627370496)/2^(1075-E)<1000)(w:ak):aP ah 264 #[.float .f64 x] w fun e w'=>
 e=.a (.I #[.b .a (wrap64 (((M:Int)+4503599627370496)/2^(1075-E-10))),.e true])/\w=w':=by
 have h1:decide (9223372036854775808<=x)=false:=by simp;omega
 have e1:((x/4503599627370496%2048:Nat):Int)=(E:Int):=by omega
 have e2:((x%4503599627370496:Nat):Int)=(M:Int):=by omega
 have hE2:E<1033:=by omega
 have hM2:M<4503599627370496:=by omega
 clear hE hM;have h2:((E:Int)==0)=false:=by rw[beq_eq_false_iff_ne];omega
 have h3:((E:Int)==2047)=false:=by rw[beq_eq_false_iff_ne];omega
 have hq1:decide (1000<((M:Int)+4503599627370496)/2^(1075-E))=false:=by simp;omega
 have hq2:(((M:Int)+4503599627370496)/2^(1075-E)==1000)=false:=by rw[beq_eq_false_iff_ne];omega
 go_enter ql,oq;go_wp2_with (first|(go_at_call 265;refine(qV _ (by omega) _).e ?_;rintro e w' ⟨rfl,rfl⟩;rw[h1,e1,e2];clear e1 e2));go_ret2;exact⟨rfl,rfl⟩
theorem ai0(x E M:Nat)(hx:x<4652218415073722368)(hE:E=x/4503599627370496)(hM:M=x%4503599627370496)(h0:0<E)(hl:1075-E<63)(hq:((M:Int)+4503599627370496)/2^(1075-E)=1000)(hm:(M+4503599627370496)%2^(1075-E)≠0)(w:ak):aP ah 264 #[.float .f64 x] w fun e w'=>
 e=.a (.I #[.b .a 0,.e false])/\w=w':=by
 have h1:decide (9223372036854775808<=x)=false:=by simp;omega
 have e1:((x/4503599627370496%2048:Nat):Int)=(E:Int):=by omega
 have e2:((x%4503599627370496:Nat):Int)=(M:Int):=by omega
 have hE2:E<1033:=by omega
 have hM2:M<4503599627370496:=by omega
 clear hE hM;have h2:((E:Int)==0)=false:=by rw[beq_eq_false_iff_ne];omega
 have h3:((E:Int)==2047)=false:=by rw[beq_eq_false_iff_ne];omega
 have hq1:decide (1000<((M:Int)+4503599627370496)/2^(1075-E))=false:=by simp;omega
 have hq2:(((M:Int)+4503599627370496)/2^(1075-E)==1000)=true:=by rw[beq_iff_eq];omega
 have hmk:bits .and .c ((M:Int)+4503599627370496) (gB.d (gB.d (2^(1075-E))-1))=(((M+4503599627370496)%2^(1075-E):Nat):Int):=acZ M (1075-E) hM2 hl;have hm2:((((M+4503599627370496)%2^(1075-E):Nat):Int) != 0)=true:=by rw[bne_iff_ne];omega
 clear hq hm;generalize(((M+4503599627370496)%2^(1075-E):Nat):Int)=mm at hmk hm2;go_enter ql,oq;go_wp2_with (first|(go_at_call 265;refine(qV _ (by omega) _).e ?_;rintro e w' ⟨rfl,rfl⟩;rw[h1,e1,e2];clear e1 e2));go_ret2;exact⟨rfl,rfl⟩
theorem afu(x E M:Nat)(hx:x<4652218415073722368)(hE:E=x/4503599627370496)(hM:M=x%4503599627370496)(h0:0<E)(hl:1075-E<63)(hq:((M:Int)+4503599627370496)/2^(1075-E)=1000)(hm:(M+4503599627370496)%2^(1075-E)=0)(w:ak):aP ah 264 #[.float .f64 x] w fun e w'=>
 e=.a (.I #[.b .a (wrap64 (((M:Int)+4503599627370496)/2^(1075-E-10))),.e true])/\w=w':=by
 have h1:decide (9223372036854775808<=x)=false:=by simp;omega
 have e1:((x/4503599627370496%2048:Nat):Int)=(E:Int):=by omega
 have e2:((x%4503599627370496:Nat):Int)=(M:Int):=by omega
 have hE2:E<1033:=by omega
 have hM2:M<4503599627370496:=by omega
 clear hE hM;have h2:((E:Int)==0)=false:=by rw[beq_eq_false_iff_ne];omega
 have h3:((E:Int)==2047)=false:=by rw[beq_eq_false_iff_ne];omega
 have hq1:decide (1000<((M:Int)+4503599627370496)/2^(1075-E))=false:=by simp;omega
 have hq2:(((M:Int)+4503599627370496)/2^(1075-E)==1000)=true:=by rw[beq_iff_eq];omega
 have hmk:bits .and .c ((M:Int)+4503599627370496) (gB.d (gB.d (2^(1075-E))-1))=(((M+4503599627370496)%2^(1075-E):Nat):Int):=acZ M (1075-E) hM2 hl;have hm2:((((M+4503599627370496)%2^(1075-E):Nat):Int) != 0)=false:=by rw[hm];rfl
 clear hq hm;generalize(((M+4503599627370496)%2^(1075-E):Nat):Int)=mm at hmk hm2;go_enter ql,oq;go_wp2_with (first|(go_at_call 265;refine(qV _ (by omega) _).e ?_;rintro e w' ⟨rfl,rfl⟩;rw[h1,e1,e2];clear e1 e2));go_ret2;exact⟨rfl,rfl⟩
theorem alJ(x:Nat)(h0:0<x)(hx:x<4503599627370496)(w:ak):aP ah 264 #[.float .f64 x] w fun e w'=>
 e=.a (.I #[.b .a 0,.e true])/\w=w':=by
 have h1:decide (9223372036854775808<=x)=false:=by simp;omega
 have e1:((x/4503599627370496%2048:Nat):Int)=0:=by omega
 have e2:((x%4503599627370496:Nat):Int)=(x:Int):=by omega
 have h2:((x:Int)==0)=false:=by rw[beq_eq_false_iff_ne];omega
 go_enter ql,oq;go_wp2_with (first|(go_at_call 265;refine(qV _ (by omega) _).e ?_;rintro e w' ⟨rfl,rfl⟩;rw[h1,e1,e2];clear e1 e2));go_ret2;exact⟨rfl,rfl⟩
theorem aaF{x E M:Nat}(hE:E=x/4503599627370496)(hM:M=x%4503599627370496)(h0:0<E)(h1:E<1033):Fl.qY x=(M+4503599627370496)/2^(1075-E-10):=by
 unfold Fl.qY Fl.V;have e1:Fl.YC x=M+4503599627370496:=by unfold Fl.YC;rw[if_neg (by omega)];omega
 have e2:Fl.pl x=E-1:=by unfold Fl.pl;omega
 rw[e1,e2];obtain⟨u,hu,hU⟩:=Fl.atJ;have e3:Fl.U=2^(1075-E-10)*(2^(E-1)*1024):=by
  rw[hU,show(1024:Nat)=2^10 from rfl,<-mI,<-mI,show 1075-E-10+(E-1+10)=u by omega]
 rw[e3,AU,Nat.mul_div_mul_right _ _ (Nat.mul_pos (j4 _) (by omega))]
theorem alK{x E M:Nat}(hE:E=x/4503599627370496)(hM:M=x%4503599627370496)(h0:0<E)(h1:E<1033):x<=4652007308841189376↔M+4503599627370496<=1000*2^(1075-E):=by
 rw[<-Fl.NH,Fl.afo];unfold Fl.V;have e1:Fl.YC x=M+4503599627370496:=by unfold Fl.YC;rw[if_neg (by omega)];omega
 have e2:Fl.pl x=E-1:=by unfold Fl.pl;omega
 rw[e1,e2];obtain⟨u,hu,hU⟩:=Fl.atJ;have e3:1000*Fl.U=1000*2^(1075-E)*2^(E-1):=by
  rw[hU,AU,<-mI,show 1075-E+(E-1)=u by omega]
 rw[e3];exact Nat.mul_le_mul_right_iff (j4 _)
theorem DL{x:Nat}(h:x<9223372036854775808):Gi x=decide (x<=4652007308841189376):=by
 unfold Gi;have:(x==9223372036854775808)=false:=by rw[beq_eq_false_iff_ne];omega
 rw[this,Bool.or_false]
theorem aaG{x:Nat}(h:x<=4652007308841189376):wQ x=Fl.qY x:=by
 unfold wQ;rw[DL (by omega),if_pos (by simpa using h),fO (by omega)]
theorem ahw{x:Nat}(h:Gi x=false):wQ x=0:=by unfold wQ;rw[h];rfl
theorem NM(M d:Nat):((M:Int)+4503599627370496)/2^d=(((M+4503599627370496)/2^d:Nat):Int):=by simp
theorem alL(x:Nat)(hx:x<18446744073709551616)(w:ak):aP ah 264 #[.float .f64 x] w fun e w'=>
 e=.a (.I #[.b .a (wQ x),.e (Gi x)])/\w=w':=by
 by_cases c1:x%9223372036854775808=0
 ·have h1:Gi x=true:=by unfold Gi;simp;omega
  have h2:wQ x=0:=by unfold wQ;rw[if_pos h1,c1];decide +kernel
  refine(aiZ x hx c1 w).e ?_;rintro e w' ⟨rfl,rfl⟩;rw[h1,h2];exact⟨rfl,rfl⟩
 by_cases c2:9223372036854775808<x
 ·have h1:Gi x=false:=by unfold Gi;simp;omega
  refine(afr x hx c2 w).e ?_;rintro e w' ⟨rfl,rfl⟩;rw[h1,ahw h1];exact⟨rfl,rfl⟩
 have hx3:x<9223372036854775808:=by omega
 by_cases c3:4652218415073722368<=x
 ·have h1:Gi x=false:=by rw[DL hx3];simp;omega
  refine(afs x hx3 c3 w).e ?_;rintro e w' ⟨rfl,rfl⟩;rw[h1,ahw h1];exact⟨rfl,rfl⟩
 have hx4:x<4652218415073722368:=by omega
 obtain⟨E,hE⟩:=bZ (x/4503599627370496);obtain⟨M,hM⟩:=bZ (x%4503599627370496);by_cases c4:E=0
 ·
  have h1:Gi x=true:=by rw[DL hx3];simp;omega
  have h2:wQ x=0:=by
   rw[aaG (by omega)];have a:Fl.qY x<=Fl.qY 4503599627370496:=Fl.Sc (by omega);have b:Fl.qY 4503599627370496=0:=by decide +kernel
   omega
  refine(alJ x (by omega) (by omega) w).e ?_;rintro e w' ⟨rfl,rfl⟩;rw[h1,h2];exact⟨rfl,rfl⟩
 have h0:0<E:=by omega
 have hE2:E<1033:=by omega
 have hM2:M<4503599627370496:=by omega
 have hok:=alK hE hM h0 hE2;have hqs:=aaF hE hM h0 hE2;have aC1:(M+4503599627370496)/2^(1075-E-10)<=9007199254740992:=aO (Dc _ _) (by omega);have hwr:wrap64 (((M:Int)+4503599627370496)/2^(1075-E-10))=(((M+4503599627370496)/2^(1075-E-10):Nat):Int):=by
  rw[NM];exact IntWalk.wrap64_in _ (by omega)
 by_cases c5:63<=1075-E
 ·have hbig:M+4503599627370496<=1000*2^(1075-E):=by
   have:2^63<=2^(1075-E):=kX (by omega) c5;omega
  have h1:Gi x=true:=by rw[DL hx3];simpa using hok.2 hbig
  have h2:=aaG (hok.2 hbig);rw[hqs]at h2;by_cases c6:60<1075-E-10
  ·have h3:(M+4503599627370496)/2^(1075-E-10)=0:=by
    have:2^61<=2^(1075-E-10):=kX (by omega) c6;exact Nat.div_eq_of_lt (by omega)
   refine(aft x E M hx4 hE hM h0 c6 w).e ?_;rintro e w' ⟨rfl,rfl⟩;rw[h1,h2,h3];exact⟨rfl,rfl⟩
  ·refine(alI x E M hx4 hE hM h0 c5 (by omega) w).e ?_
   rintro e w' ⟨rfl,rfl⟩;rw[h1,h2,hwr];exact⟨rfl,rfl⟩
 ·have hp:0<2^(1075-E):=j4 _
  by_cases c7:1000<(M+4503599627370496)/2^(1075-E)
  ·have h1:Gi x=false:=by
    rw[DL hx3];have:¬M+4503599627370496<=1000*2^(1075-E):=fun hc=>by
     have:=Nat.div_le_of_le_mul (show M+4503599627370496<=2^(1075-E)*1000 by omega);omega
    simpa using fun hc=>this (hok.1 hc)
   refine(apu x E M hx4 hE hM h0 (by omega) (by rw[NM];omega) w).e ?_;rintro e w' ⟨rfl,rfl⟩;rw[h1,ahw h1];exact⟨rfl,rfl⟩
  have hdm:=Lf (M+4503599627370496) (2^(1075-E));have hml:=fE (M+4503599627370496) hp;by_cases c8:(M+4503599627370496)/2^(1075-E)=1000
  ·rw[c8]at hdm
   by_cases c9:(M+4503599627370496)%2^(1075-E)=0
   ·have hb:M+4503599627370496<=1000*2^(1075-E):=by omega
    have h1:Gi x=true:=by rw[DL hx3];simpa using hok.2 hb
    have h2:=aaG (hok.2 hb);rw[hqs]at h2;refine(afu x E M hx4 hE hM h0 (by omega) (by rw[NM];omega) c9 w).e ?_;rintro e w' ⟨rfl,rfl⟩;rw[h1,h2,hwr];exact⟨rfl,rfl⟩
   ·have h1:Gi x=false:=by
     rw[DL hx3];have:¬M+4503599627370496<=1000*2^(1075-E):=by omega
     simpa using fun hc=>this (hok.1 hc)
    refine(ai0 x E M hx4 hE hM h0 (by omega) (by rw[NM];omega) c9 w).e ?_;rintro e w' ⟨rfl,rfl⟩;rw[h1,ahw h1];exact⟨rfl,rfl⟩
  ·have hb:M+4503599627370496<=1000*2^(1075-E):=by
    have:(M+4503599627370496)/2^(1075-E)<=999:=by omega
    have h5:=Nat.mul_le_mul_left (2^(1075-E)) this;omega
   have h1:Gi x=true:=by rw[DL hx3];simpa using hok.2 hb
   have h2:=aaG (hok.2 hb);rw[hqs]at h2;refine(apv x E M hx4 hE hM h0 (by omega) (by rw[NM];omega) w).e ?_;rintro e w' ⟨rfl,rfl⟩;rw[h1,h2,hwr];exact⟨rfl,rfl⟩
theorem ac0(n i:Nat):rR n (i+1)=rR n i++[Dq n i]:=by
 unfold rR;rw[Kl,List.map_append];rfl
theorem ac1(n k:Nat)(hk:k<=8)(hn:n<18446744073709551616)(w:ak):
 aP ah 197 #[.b .c n,.b .a k,.e true] w fun e w'=>∃v,e=.a v /\
  w'.c w.a.j 5 1 v k ((gM n k true).map bv)/\aL w.a.j w w':=by
 obtain⟨i0,hi0,hz0,hz1,hz2⟩:=info_parts Jf;go_enter Tryz.func197,Tryz.ntmps197;go_wp2;go_loopw [0,7,8] (fun s0 s7 s8 wr=>∃(i:Nat)(A:Option aT)(cap:Nat),i<=k/\s0=.b .c (n/2^(8*i):Nat)/\s7=.a A i cap/\s8=.b .a i/\wr.c w.a.j 5 1 (.a A i cap) i ((rR n i).reverse.map bv)/\aL w.a.j w wr) (fun _ _ s8 _=>k-(intOf s8).g)
 case atStart=>exact⟨0,none,0,by omega,by simp,rfl,rfl,fu _ _ _ _,aG _ _⟩
 case round=>
  obtain⟨i,A,cap,hi,rfl,rfl,rfl,hown,hb⟩:=hrel;by_cases hlt:i<k
  ·have hlt2:(i:Int)<k:=by omega
   have hlt3:(i:Int)<8:=by omega
   have hlo:=ac0 n i;have hbyte:=acM n i;have hq:n/2^(8*i)<18446744073709551616:=Nat.lt_of_le_of_lt (Dc _ _) hn;have hn2:n/2^(8*(i+1))=n/2^(8*i)/256:=by
    rw[Nat.div_div_eq_div_mul,show 8*(i+1)=8*i+8 by omega,mI]
   have alM:((Dq n i).g:Int)=((n/2^(8*i):Nat):Int)%256:=by rw[hbyte];simp
   have HN:=ab hn2;have HLO:=ab hlo;have Qo:=ab alM;clear hn2 hlo hbyte alM;generalize n/2^(8*i)=q at hq HN Qo ⊢;have hrd:=Rd.iG hown;have HO:=ab hown;clear hown;have o1:(wr.alloc (.D #[.b .b ((q:Int)%256)] 5)).c w.a.j 5 1 (.a (some ⟨wr.a.j,0,none⟩) 1 1) 1 [.b .b ((q:Int)%256)]:=
    nC wr #[.b .b ((q:Int)%256)] 1 hb.j (by unfold maxLen;omega) rfl
   have o2:=hrd.alloc (av _) (.D #[.b .b ((q:Int)%256)] 5);have o3:w.a.j<=(wr.alloc (.D #[.b .b ((q:Int)%256)] 5)).a.j:=by have:=hb.j;simp;omega
   have O1:=ab o1;have O2:=ab o2;have O3:=ab o3;have HB:=ab hb;clear o1 o2 o3 hrd hb;go_wp2_with (at_builtin;refine jC _ rfl (.tmp 26) (.tmp 27) _ rfl w.a.j 5 i0 (.b .b 0) 1 1 cO hi0 hz0 hz1 hz2 rfl (av 1) (.a (some ⟨wr.a.j,0,none⟩) 1 1) 1 [.b .b ((q:Int)%256)] rfl O1.i wr.a.j A i cap ((rR n i).reverse.map bv) rfl O2.i (Gs _) (by unfold maxLen;omega) (by omega) O3.i ?_;intro v1 w1 hown1 hg1 xu);go_roundw
   case rel=>
    obtain⟨A',cap',hv,_,_⟩:=jG hown1;refine⟨i+1,A',cap',by omega,by rw[HN.i];go_num,by rw[hv,kM],by go_num,?_,?_⟩
    ·rw[kM i 1,<-hv,kM 1 i,HLO.i]
     rw[kM 1 i]at hown1;simpa[bv,Qo.i]using hown1
    ·exact sS (HB.i.alloc HB.i.j _) hg1 HB.i.j O3.i
   case measure=>simp[intOf]<;>omega
  ·obtain rfl:i=k:=by omega
   have hd:decide ((i:Int)<(i:Int))=false:=by simp
   go_wp2;go_ret;exact⟨_,rfl,hown,hb⟩
theorem alN{x:Nat}(hx:x<18446744073709551616):NK x=((((x/4503599627370496%2048:Nat):Int)==2047)&&(((x%4503599627370496:Nat):Int) != 0)):=by
 have afp:ord x x=rz.order x x:=rfl;unfold NK;rw[afp,bF];by_cases hf:Fl.TN x
 ·rw[Fl.NJ hf hf]
  have:compare (Fl.SV x) (Fl.SV x)=.eq:=Gn.2 rfl;rw[this];unfold Fl.TN at hf;simp;omega
 ·rcases Fl.aaD hx hf with rfl|rfl|⟨s,f,h⟩
  ·decide +kernel
  ·decide +kernel
  ·rw[Fl.KC h]
   have h1:x≠9218868437227405312:=by rintro rfl;rw[Fl.acR]at h;cases h
   have h2:x≠18442240474082181120:=by rintro rfl;rw[Fl.YD]at h;cases h
   unfold Fl.TN at hf;simp;omega
theorem Vg(x:Nat)(hx:x<18446744073709551616)(w:ak):aP ah 196 #[.float .f64 x] w fun e w'=>e=.a (.e (NK x))/\w=w':=by
 have hn:=alN hx;obtain⟨E,hE⟩:∃E:Int,E=((x/4503599627370496%2048:Nat):Int):=⟨_,rfl⟩
 obtain⟨M,hM⟩:∃M:Int,M=((x%4503599627370496:Nat):Int):=⟨_,rfl⟩
 rw[<-hE,<-hM]at hn;have HN:=ab hn;have HE:=ab hE;have HM:=ab hM;clear hn hE hM;cases hc:(E==2047)
 all_goals
  go_enter Tryz.func196,Tryz.ntmps196;go_wp2_with (first|(go_at_call 265;refine(qV _ hx _).e ?_;rintro e w' ⟨rfl,rfl⟩;rw[<-HE.i,<-HM.i]));go_ret;refine⟨?_,rfl⟩;rw[HN.i,hc];simp
theorem ac2{x:Nat}(hx:x<18446744073709551616):Ip x<18446744073709551616:=by unfold Ip;split<;>omega
def BZ(x:Nat):List UInt8:=gM (Ip x) 8 true
theorem Ca(x:Nat)(hx:x<18446744073709551616)(w:ak):aP ah 119 #[.float .f64 x] w fun e w'=>
 ∃A c,e=.a (.a A 8 c)/\gu w' w'.a.j A 8 (BZ x)/\aL w.a.j w w':=by
 have h1:=zF x;cases hn:NK x
 ·have e1:Ip x=x:=by unfold Ip;rw[hn];rfl
  have HE:=ab e1;clear e1;go_enter Tryz.func119,Tryz.ntmps119;go_wp2_with (first|(go_at_call 196;refine(Vg _ hx _).e ?_;rintro e w' ⟨rfl,rfl⟩)|(go_at_call 197;refine(ac1 _ 8 (by omega) hx _).e ?_;rintro e w' ⟨v,rfl,hown,hbl⟩));obtain⟨A,cap,hv,_,_⟩:=jG hown;go_ret;refine⟨A,cap,by simp[hv],?_,hbl⟩;rw[hv]at hown;have:=Rd.iG hown;unfold gu BZ;rw[HE.i];exact this
 ·have e1:BZ x=[127,248,0,0,0,0,0,0]:=by unfold BZ Ip;rw[hn,if_pos rfl];decide +kernel
  have HE:=ab e1;clear e1;go_enter Tryz.func119,Tryz.ntmps119;go_wp2_with (first|(go_at_call 196;refine(Vg _ hx _).e ?_;rintro e w' ⟨rfl,rfl⟩));go_ret;refine⟨_,_,rfl,?_,(aG _ _).alloc (av _) _⟩;rw[HE.i];refine gu.alj (c:=0) (l:=[127,248,0,0,0,0,0,0]) (World.rowIs_alloc w _ _ (fun j=>bv (([127,248,0,0,0,0,0,0]:List UInt8).b j 0)) (fun i hi=>?_)) (by simp) (by simp) (fun j hj=>rfl);simp at hi;have:i=0\/i=1\/i=2\/i=3\/i=4\/i=5\/i=6\/i=7:=by omega
  rcases this with rfl|rfl|rfl|rfl|rfl|rfl|rfl|rfl<;>rfl
theorem Mv{w:ak}{A:Option aT}{n:Nat}{l:List UInt8}(h:gu w w.a.j A n l)(c:Nat):
 (∀W,aL w.a.j w W->(convert 56 9 (.a A n c)).G ah W = .Y (.g (bP l)) W) /\
  (convert 56 9 (.a A n c)).G ah w = .Y (.g (bP l)) w:=
 ⟨fun W hW=>Je (P:=ah) (h.M hW) _ _ _ cO mQ iU c,
  Je (P:=ah) h _ _ _ cO mQ iU c⟩
theorem ac3(l:List UInt8):(bP l).a=l:=ByteArray.toList_mk l
theorem ac4{n m:Nat}(k:Nat)(h:∀i,i<k->Dq n i=Dq m i):n%2^(8*k)=m%2^(8*k):=by
 induction k with
 | zero=>simp[Nat.mod_one]
 | succ k ih=>
   have h1:=ih (fun i hi=>h i (by omega));have h2:=congrArg UInt8.toNat (h k (by omega));simp only[Dq,DC]at h2;have e:2^(8*(k+1))=2^(8*k)*256:=by rw[show 8*(k+1)=8*k+8 by omega,mI]
   rw[e,Nat.mod_mul,Nat.mod_mul,h1,h2]
theorem afv{n m:Nat}(hn:n<18446744073709551616)(hm:m<18446744073709551616)(h:gM n 8 true=gM m 8 true):n=m:=by
 have h1:rR n 8=rR m 8:=by
  have:=congrArg List.reverse h;simpa[gM]using this
 have h2:∀i,i<8->Dq n i=Dq m i:=fun i hi=>by
  have:=congrArg (fun l:List UInt8=>l[i]?) h1;simpa[rR,hi]using this
 have h3:=ac4 8 h2;rw[fO (by omega),fO (by omega)]at h3;exact h3
theorem TP(l:List UInt8):rR (oP l) l.a=l.reverse:=by
 have key:∀(k:Nat)(l:List UInt8),l.a=k->rR (oP l) k=l.reverse:=by
  intro k
  induction k with
  | zero=>intro l hl;rw[bG hl];rfl
  | succ k ih=>
    intro l hl;obtain⟨r,c,rfl⟩:∃r c,l=r++[c]:=⟨l.dropLast,l.getLast (by intro h;simp[h]at hl),(List.dropLast_concat_getLast _).symm⟩
    have hr:r.a=k:=by simpa using hl
    have:=ih r hr;rw[Jg];unfold rR at this ⊢;rw[List.range_succ_eq_map,kR,I6,List.reverse_append];simp only[List.reverse_cons,List.reverse_nil,dH,List.singleton_append,List.cons.injEq];constructor
    ·unfold Dq
     apply kJ.1;have:=c.a;simp[DC]
    ·rw[<-this]
     refine Db (fun i hi=>?_);simp only[Function.comp,Dq];have e:(oP r*256+c.g)/2^(8*(i+1))=oP r/2^(8*i):=by
      rw[show 8*(i+1)=8+8*i by omega,mI,<-Nat.div_div_eq_div_mul];congr 1;have:=c.a;omega
     rw[show Nat.succ i=i+1 from rfl,e]
 exact key _ l rfl
theorem ac5(x y:Nat)(hx:x<18446744073709551616)(hy:y<18446744073709551616)(w:ak):aP ah 199 #[.float .f64 x,.float .f64 y] w fun e w'=>
 e=.a (.e (decide (BZ x=BZ y)))/\aL w.a.j w w':=by
 have ht:=ac3;go_enter Tryz.func199,Tryz.ntmps199;go_wp2_with fail;go_region_with (first|(go_at_call 119;refine(Ca _ (by assumption) _).e ?_;rintro e w' ⟨A,c,rfl,hr,hb⟩;obtain⟨k1,k2⟩:=Mv hr c))
 all_goals go_wp2
 all_goals go_ret
 all_goals exact⟨by simp[apk,eq_comm,Act.put],apj (by assumption) hb⟩
theorem ax7(s:List UInt8)(i:Nat)(h:i<(bP s).j):(bP s)[i]'h=s.b i 0:=by
 have hi:i<s.a:=by rw[zS]at h;exact h
 rw[au,aC hi];rfl
theorem uZ(s:List UInt8)(w:ak)(hs:s.a<=9223372036854775807):
 aP ah 121 #[.g (bP s)] w fun e w'=>e=.a (.e (oI s))/\w=w':=by
 by_cases h1:1<=s.a;rotate_left
 ·have hk:oI s=false:=by simp[oI];omega
  have HK:=ab hk;clear hk;go_enter Tryz.func121,Tryz.ntmps121;go_wp2;go_ret;exact⟨by rw[HK.i];rfl,rfl⟩
 by_cases h2:s.a<=24;rotate_left
 ·have hk:oI s=false:=by simp[oI];omega
  have HK:=ab hk;clear hk;go_enter Tryz.func121,Tryz.ntmps121;go_wp2;go_ret;exact⟨by rw[HK.i];rfl,rfl⟩
 go_enter Tryz.func121,Tryz.ntmps121;go_wp2;go_loop [3] (fun s3=>∃i:Nat,i<=s.a/\s3=.b .a i/\(s.d i).all Mr=true) (fun s3=>s.a-(intOf s3).g)
 case atStart=>exact⟨0,by omega,rfl,rfl⟩
 case round=>
  obtain⟨i,hi,rfl,hall⟩:=hrel;have HA:=ab hall;clear hall;by_cases hlt:i<s.a
  ·have hin:(i:Int)<s.a:=by omega
   have hsn:=LP s Mr i hlt;have hno:=Ny s Mr i hlt;have HS:=ab hsn;have HN:=ab hno;clear hsn hno;have hcell:∀h:i<(bP s).j,((bP s)[i]'h).g=(s.b i 0).g:=fun h=>by rw[ax7]
   have aau:=(s.b i 0).a;obtain⟨c,hcc⟩:=bZ (s.b i 0);rw[<-hcc]at hcell HS HN aau;clear hcc;have hok:Mr c=((decide (97<=c.g)&&decide (c.g<=122))||(decide (48<=c.g)&&decide (c.g<=57))||decide (c.g=45)||decide (c.g=46)):=rfl;have Dt:=ab hok;clear hok;generalize c.g=n at hcell aau Dt;rcases(show n<45\/n=45\/n=46\/n=47\/(48<=n/\n<=57)\/(57<n/\n<97)\/(97<=n/\n<=122)\/122<n by omega)with h|rfl|rfl|rfl|⟨h,h'⟩|⟨h,h'⟩|⟨h,h'⟩|h
   all_goals
    try(have h45:((n:Int)==45)=false:=by rw[beq_eq_false_iff_ne];omega)
    try(have h46:((n:Int)==46)=false:=by rw[beq_eq_false_iff_ne];omega)
    first|(have:decide ((n:Int)<=57)=true:=by simp<;>omega)|(have:decide ((n:Int)<=57)=false:=by simp<;>omega)|skip
    first|(have:decide ((n:Int)<=122)=true:=by simp<;>omega)|(have:decide ((n:Int)<=122)=false:=by simp<;>omega)|skip
   all_goals
    first
     | (have hk:Mr c=true:=by rw[Dt.i];simp<;>omega
        have HK:=ab hk;clear hk;go_wp2;go_round
        case rel=>exact⟨i+1,by omega,by go_num,by rw[HS.i,HA.i,HK.i];rfl⟩
        case measure=>simp[intOf]<;>omega
        done)
     | (have hk:Mr c=false:=by rw[Dt.i];simp<;>omega
        have HK:=ab hk;clear hk;go_wp2;go_ret;exact⟨by simp[oI,HN.i HK.i],rfl⟩)
  ·obtain rfl:i=s.a:=by omega
   have hall:=HA.i;rw[aJ (av _)]at hall;have hok:oI s=true:=by simp[oI,hall,h1,h2]
   have HK:=ab hok;clear hok hall;have hd:decide ((s.a:Int)<(s.a:Int))=false:=by simp
   go_wp2;go_ret;exact⟨by rw[HK.i];rfl,rfl⟩
def fC.lG(a:fC):Bool:=(a.b.a.f 4).all (fun c=>c==0)
theorem fC.ax8(a:fC):a.b.a.a=16:=a.b.size_toArray
def Bk.yh(x:Bk):Bool:=(x.h.h||x.h.lG)&&oI x.E&&decide (1<=x.S)&&decide (x.S<=65535)&&Gi x.w
def fC.fH(a:fC)(i:Nat):UInt8:=a.b.a.b i 0
theorem fC.KI(a:fC):a.lG=true↔∀i,4<=i->i<16->a.fH i=0:=by
 unfold fC.lG fC.fH;rw[fM];have hl:=a.ax8;constructor
 ·intro h i h4 h16
  have:a.b.a.b i 0∈a.b.a.f 4:=by
   rw[au,aC (by omega)];exact List.mem_drop_iff_getElem.2 ⟨i-4,by omega,by simp[show 4+(i-4)=i by omega]⟩
  simpa using h _ this
 ·intro h x hx
  obtain⟨j,hj,rfl⟩:=List.mem_drop_iff_getElem.1 hx;have:=h (4+j) (by omega) (by omega);rw[au,aC (by omega)]at this;simpa using this
theorem fC.Vh{a:fC}{i:Nat}(h4:4<=i)(h16:i<16)(h:a.fH i≠0):a.lG=false:=by
 cases hs:a.lG
 ·rfl
 ·exact absurd (a.KI.1 hs i h4 h16) h
theorem By(a:fC)(w:ak):aP ah 133 #[.d a.ay] w (fT w (.e (a.lG && !a.h))):=by
 go_enter Tryz.func133,Tryz.ntmps133;go_wp2;have hb:aL w.a.j w (w.alloc (.D a.ay 27)):=(aG _ _).alloc (av _) _;have HB:=ab hb;clear hb;go_loop [3] (fun s3=>∃i:Nat,i<=16/\4<=i/\s3=.b .a i/\∀j,4<=j->j<i->a.fH j=0) (fun s3=>16-(intOf s3).g)
 case atStart=>exact⟨4,by omega,by omega,rfl,fun j h1 h2=>by omega⟩
 case round=>
  obtain⟨i,hi,hi4,rfl,hall⟩:=hrel;have HA:=ab hall;clear hall;by_cases hlt:i<16
  ·have hin:(i:Int)<16:=by omega
   have hcell:(w.alloc (.D a.ay 27)).b ⟨w.a.j,1+i,none⟩=some (.b .b ((a.fH i).g:Nat)):=by
    rw[lX,kM];exact fC.BR a i hlt
   have hz:((a.fH i).g:Int)=0↔a.fH i=0:=by
    constructor
    ·intro h;apply kJ.1;have:(0:UInt8).g=0:=rfl;omega
    ·intro h;rw[h];rfl
   have HZ:=ab hz;clear hz;obtain⟨n,hn⟩:∃n:Nat,n=(a.fH i).g:=⟨_,rfl⟩
   rw[<-hn]at hcell HZ;clear hn;by_cases h0:n=0
   ·have h1:((n:Int) != 0)=false:=by rw[h0];rfl
    have hz0:a.fH i=0:=HZ.i.1 (by omega);have HZ0:=ab hz0;clear hz0 h0;go_wp2;go_round
    case rel=>exact⟨i+1,by omega,by omega,by go_num,fun j h1 h2=>by
     by_cases hji:j=i
     ·rw[hji];exact HZ0.i
     ·exact HA.i j h1 (by omega)⟩
    case measure=>simp[intOf]<;>omega
   ·have h1:((n:Int) != 0)=true:=by rw[bne_iff_ne];omega
    have hno:a.lG=false:=fC.Vh hi4 hlt (fun h=>h0 (by have:=HZ.i.2 h;omega));have Gy:=ab hno;clear hno h0;go_wp2;go_ret;exact⟨by rw[Gy.i];rfl,HB.i⟩
  ·obtain rfl:i=16:=by omega
   have hs:a.lG=true:=a.KI.2 HA.i;have HS:=ab hs;clear hs;go_wp2;go_ret;exact⟨by rw[HS.i];rfl,HB.i⟩
theorem Sd(c:Nat)(w:ak):aP ah 191 #[.b .b c] w fun e w'=>e=.a (.e ((c:Int) != 0))/\w=w':=by
 go_enter Tryz.func191,Tryz.ntmps191;go_wp2;go_ret;exact⟨rfl,rfl⟩
theorem XT(args:Array aB)(w:ak):(callFunc 191 args).G ah w = .Y (.enter 191 args) w:=by kernel_rfl
theorem ac6(a:fC)(b o c:Nat)(w:ak)(hc:∀j,j<12->w.b ⟨b,o+j,none⟩=some (.b .b ((a.fH (4+j)).g:Nat))):
 aP ah 260 #[.a (some ⟨b,o,none⟩) 12 c,.func (.func 191) #[] #[]] w fun e w'=>∃r:Int,e=.a (.b .a r)/\(decide (0<=r) = !a.lG)/\w=w':=by
 have hen:=XT;have HC:=ab hc;clear hc;go_enter Tryz.func260,Tryz.ntmps260;go_wp2;go_loop [8] (fun s8=>∃i:Nat,i<=12/\s8=.b .a i/\∀j,4<=j->j<4+i->a.fH j=0) (fun s8=>12-(intOf s8).g)
 case atStart=>exact⟨0,by omega,rfl,fun j h1 h2=>by omega⟩
 case round=>
  obtain⟨i,hi,rfl,hall⟩:=hrel;have HA:=ab hall;clear hall;by_cases hlt:i<12
  ·have hin:(i:Int)<12:=by omega
   have hcell:=HC.i i hlt;have hz:((a.fH (4+i)).g:Int)=0↔a.fH (4+i)=0:=by
    constructor
    ·intro h;apply kJ.1;have:(0:UInt8).g=0:=rfl;omega
    ·intro h;rw[h];rfl
   have HZ:=ab hz;clear hz;obtain⟨n,hn⟩:∃n:Nat,n=(a.fH (4+i)).g:=⟨_,rfl⟩
   rw[<-hn]at hcell HZ;clear hn;by_cases h0:n=0
   ·have h1:((n:Int) != 0)=false:=by rw[h0];rfl
    have hz0:a.fH (4+i)=0:=HZ.i.1 (by omega);have HZ0:=ab hz0;clear hz0 h0;go_wp2_with (go_at_call 191;refine(Sd n _).e ?_;rintro e w' ⟨rfl,rfl⟩);go_round
    case rel=>exact⟨i+1,by omega,by go_num,fun j h1 h2=>by
     by_cases hji:j=4+i
     ·rw[hji];exact HZ0.i
     ·exact HA.i j h1 (by omega)⟩
    case measure=>simp[intOf]<;>omega
   ·have h1:((n:Int) != 0)=true:=by rw[bne_iff_ne];omega
    have hno:a.lG=false:=fC.Vh (i:=4+i) (by omega) (by omega) (fun h=>h0 (by have:=HZ.i.2 h;omega));have Gy:=ab hno;clear hno h0;go_wp2_with (go_at_call 191;refine(Sd n _).e ?_;rintro e w' ⟨rfl,rfl⟩);go_ret;exact⟨_,rfl,by rw[Gy.i];simp,rfl⟩
  ·obtain rfl:i=12:=by omega
   have hs:a.lG=true:=a.KI.2 HA.i;have HS:=ab hs;clear hs;go_wp2;go_ret;exact⟨_,rfl,by rw[HS.i];simp,rfl⟩
theorem Sg(a:fC)(b o c:Nat)(w:ak)(hc:∀j,j<12->w.b ⟨b,o+j,none⟩=some (.b .b ((a.fH (4+j)).g:Nat))):
 aP ah 189 #[.a (some ⟨b,o,none⟩) 12 c,.func (.func 191) #[] #[]] w fun e w'=>e=.a (.e (!a.lG))/\w=w':=by
 have HC:=ab hc;clear hc;go_enter Tryz.func189,Tryz.ntmps189;go_wp2_with (go_at_call 260;refine(ac6 a b o c _ HC.i).e ?_;rintro e w' ⟨r,rfl,hr,rfl⟩);go_ret;exact⟨by simp,rfl⟩
theorem afw(w:ak)(x:Bk)(t:bE):∀j,j<12->(w.alloc (.D x.ay t)).b ⟨w.a.j,6+j,none⟩=some (.b .b ((x.h.fH (4+j)).g:Nat)):=fun j hj=>by
 rw[lX,show 6+j=(4+j)+2 by omega];exact Bk.BR x (4+j) (by omega)
theorem ac7(x:Bk)(w:ak)(hn:x.E.a<=9223372036854775807)(hw:x.w<18446744073709551616):
 aP ah 111 #[.d x.ay] w (fT w (.e x.yh)):=by
 have ht:=afw w x 62;have HT:=ab ht;clear ht;have hr:=KE hw;have HR:=ab hr;clear hr;have hf:x.yh=((x.h.h||x.h.lG)&&oI x.E&&decide (1<=x.S)&&decide (x.S<=65535)&&Gi x.w):=rfl;have HF:=ab hf;clear hf;have hb0:aL w.a.j w (w.alloc (.D x.ay 62)):=(aG _ _).alloc (av _) _;have HB0:=ab hb0;clear hb0;cases hs:(x.h.h||x.h.lG)
 ·have h6:x.h.h=false:=by cases h:x.h.h<;>simp_all
  have hsh:x.h.lG=false:=by cases h:x.h.lG<;>simp_all
  have HS:=ab hs;clear hs;go_enter Tryz.func111,Tryz.ntmps111;go_wp2_with fail;refine(Sg x.h _ 6 _ _ HT.i).e ?_;rintro e w' ⟨rfl,rfl⟩;rw[hsh];go_wp2_with fail;go_ret;exact⟨by rw[HF.i,HS.i];rfl,HB0.i⟩
 ·have HS:=ab hs
  have hk:oI x.E=true\/oI x.E=false:=by cases oI x.E<;>simp
  clear hs;have main:∀(K:Bool),oI x.E=K->x.h.h=true\/(x.h.h=false/\x.h.lG=true) ->
   aP ah 111 #[.d x.ay] w fun e w'=>e=.a (.e x.yh)/\aL w.a.j w w':=by
   intro K hK h6;have HK:=ab hK;clear hK hk;rcases h6 with h6|⟨h6,hsh⟩
   all_goals
    go_enter Tryz.func111,Tryz.ntmps111;go_wp2_with fail
    try(refine(Sg x.h _ 6 _ _ HT.i).e ?_;rintro e w' ⟨rfl,rfl⟩;rw[hsh];go_wp2_with fail)
    refine(Va _ _ hn).e ?_;rintro e w1 ⟨rfl,hb1⟩;rw[HK.i];have hcl:=Kw hb1;have hB1:aL w.a.j w w1:=HB0.i.trans (hb1.e (by simp));have HB1:=ab hB1;clear hb1 hB1;cases K
    ·go_wp2_with fail
     go_ret;exact⟨by rw[HF.i,HS.i,HK.i];rfl,HB1.i⟩
    ·by_cases p1:1<=x.S
     ·by_cases p2:x.S<=65535
      ·go_wp2_with fail
       refine(KD _ _).e ?_;rintro e w' ⟨rfl,rfl⟩;rw[HR.i];go_wp2_with fail;go_ret;exact⟨by rw[HF.i,HS.i,HK.i];simp[p1,p2]<;>intros<;>omega,HB1.i⟩
      ·go_wp2_with fail
       go_ret;exact⟨by rw[HF.i,HS.i,HK.i];simp[p1,p2]<;>intros<;>omega,HB1.i⟩
     ·go_wp2_with fail
      go_ret;exact⟨by rw[HF.i,HS.i,HK.i];simp[p1]<;>intros<;>omega,HB1.i⟩
  refine main _ rfl ?_;have:=HS.i;cases h:x.h.h
  ·right;rw[h]at this;exact⟨rfl,by simpa using this⟩
  ·left;rfl
theorem Jm(x:Nat)(hx:x<18446744073709551616)(w:ak):aP ah 195 #[.float .f64 x] w fun e w'=>e=.a (.e (Gi x))/\w=w':=by
 go_enter Tryz.func195,Tryz.ntmps195;go_wp2_with (first|(go_at_call 264;refine(alL _ hx _).e ?_;rintro e w' ⟨rfl,rfl⟩));go_ret;exact⟨rfl,rfl⟩
theorem apw(x:Bk)(w:ak)(hn:x.E.a<=9223372036854775807)(hw:x.w<18446744073709551616):
 aP ah 118 #[.d x.ay] w (fT w (.e x.yh)):=by
 have hf:x.yh=((x.h.h||x.h.lG)&&oI x.E&&decide (1<=x.S)&&decide (x.S<=65535)&&Gi x.w):=rfl;have HF:=ab hf;clear hf;have hb0:aL w.a.j w (w.alloc (.D x.ay 62)):=(aG _ _).alloc (av _) _;have HB0:=ab hb0;clear hb0;obtain⟨K,hK⟩:=rT (oI x.E);have HK:=ab hK;clear hK;obtain⟨S,hS⟩:=rT x.h.lG;have HS:=ab hS;clear hS;cases K
 ·go_enter Dh,Au
  go_wp2_with fail;refine(uZ _ _ hn).e ?_;rintro e w' ⟨rfl,rfl⟩;rw[HK.i];go_wp2_with fail;go_ret;exact⟨by rw[HF.i,HK.i];simp,HB0.i⟩
 ·have tail:∀(w1:ak),aL w.a.j w w1->(∀k,w1.b ⟨w.a.j,k,none⟩=x.ay[k]?)->True:=fun _ _ _=>trivial
  clear tail;cases h6:x.h.h
  ·cases S
   ·go_enter Dh,Au
    go_wp2_with fail;refine(uZ _ _ hn).e ?_;rintro e w' ⟨rfl,rfl⟩;rw[HK.i];go_wp2_with fail;refine(By _ _).e ?_;rintro e w1 ⟨rfl,hb1⟩;rw[HS.i,h6];have hcl:=Kw hb1;have hB1:aL w.a.j w w1:=HB0.i.trans (hb1.e (by simp));have HB1:=ab hB1;clear hb1 hB1;go_wp2_with fail;go_ret;exact⟨by rw[HF.i,HS.i,h6];rfl,HB1.i⟩
   ·by_cases p1:1<=x.S
    ·by_cases p2:x.S<=65535
     all_goals
      go_enter Dh,Au;go_wp2_with fail;refine(uZ _ _ hn).e ?_;rintro e w' ⟨rfl,rfl⟩;rw[HK.i];go_wp2_with fail;refine(By _ _).e ?_;rintro e w1 ⟨rfl,hb1⟩;rw[HS.i,h6];have hcl:=Kw hb1;have hB1:aL w.a.j w w1:=HB0.i.trans (hb1.e (by simp));have HB1:=ab hB1;clear hb1 hB1;go_wp2_with (first|(go_at_call 195;refine(Jm _ hw _).e ?_;rintro e w' ⟨rfl,rfl⟩));go_ret;exact⟨by rw[HF.i,HS.i,HK.i,h6];simp[p1,p2]<;>intros<;>omega,HB1.i⟩
    ·go_enter Dh,Au
     go_wp2_with fail;refine(uZ _ _ hn).e ?_;rintro e w' ⟨rfl,rfl⟩;rw[HK.i];go_wp2_with fail;refine(By _ _).e ?_;rintro e w1 ⟨rfl,hb1⟩;rw[HS.i,h6];have hcl:=Kw hb1;have hB1:aL w.a.j w w1:=HB0.i.trans (hb1.e (by simp));have HB1:=ab hB1;clear hb1 hB1;go_wp2_with fail;go_ret;exact⟨by rw[HF.i,HS.i,HK.i,h6];simp[p1]<;>intros<;>omega,HB1.i⟩
  ·by_cases p1:1<=x.S
   ·by_cases p2:x.S<=65535
    all_goals
     go_enter Dh,Au;go_wp2_with fail;refine(uZ _ _ hn).e ?_;rintro e w' ⟨rfl,rfl⟩;rw[HK.i];go_wp2_with (first|(go_at_call 195;refine(Jm _ hw _).e ?_;rintro e w' ⟨rfl,rfl⟩));go_ret;exact⟨by rw[HF.i,HK.i,h6];simp[p1,p2]<;>intros<;>omega,HB0.i⟩
   ·go_enter Dh,Au
    go_wp2_with fail;refine(uZ _ _ hn).e ?_;rintro e w' ⟨rfl,rfl⟩;rw[HK.i];go_wp2_with fail;go_ret;exact⟨by rw[HF.i,HK.i,h6];simp[p1]<;>intros<;>omega,HB0.i⟩
def dK(l:List Bk):List aB:=l.h (·.ay.a)
theorem jH(l:List Bk):(dK l).a=l.a*27:=by
 induction l with
 | nil=>rfl
 | cons x l ih=>
   have hx:=Bk.r x;rw[dK,jl,aR,aY,hx,bD];rw[dK]at ih;rw[ih];omega
theorem Jo(l:List Bk)(k j:Nat)(hk:k<l.a)(hj:j<27):(dK l)[k*27+j]? = (l.b k iO).ay[j]?:=by
 induction l generalizing k with
 | nil=>simp at hk
 | cons x l ih=>
   have hx:=Bk.r x;rw[dK,jl];rcases k with _|k
   ·rw[o9 (by rw[aY,hx];omega),dG]
    simp
   ·rw[vW (by rw[aY,hx];omega),aY,hx,show(k+1)*27+j-27=k*27+j by omega]
    rw[bD]at hk;rw[List.getD_cons_succ];exact ih k (by omega)
def Dg(w:ak)(B:Nat)(A:Option aT)(n:Nat)(l:List Bk):Prop:=
 l.a=n/\Rd w B 27 A n (dK l)/\∀a,A=some a->0<n->a=⟨a.block,a.off,none⟩
section
variable {w w':ak} {B B' n:Nat} {A:Option aT} {l:List Bk}
theorem Dg.M(h:Dg w B A n l)(hb:aL B w w'):Dg w' B A n l:=⟨h.1,Rd.M h.2.1 hb,h.2.2⟩
theorem Dg.lN(h:Dg w B A n l)(hB:B<=B'):Dg w B' A n l:=⟨h.1,Rd.lN h.2.1 hB,h.2.2⟩
theorem Dg.alloc(h:Dg w B A n l)(hB:B<=w.a.j)(o:Obj):Dg (w.alloc o) B A n l:=⟨h.1,Rd.alloc h.2.1 hB o,h.2.2⟩
theorem Dg.cell{k:Nat}(h:Dg w B A n l)(hk:k<n):∃b o,A=some ⟨b,o,none⟩/\b<B/\∀j,j<27->w.b ⟨b,o+k*27+j,none⟩=(l.b k iO).ay[j]?:=by
 obtain⟨h1,h2,h3⟩:=h;obtain⟨a,hA,hb,hc⟩:=h2.2 (by omega);have:=h3 a hA (by omega);refine⟨a.block,a.off,by rw[hA,<-this],hb,fun j hj=>?_⟩;have hg:=Jo l k j (by omega) hj;have hs:((l.b k iO).ay)[j]? = some ((l.b k iO).ay[j]'(by rw[Bk.r];exact hj)):=fF _;rw[hs]at hg ⊢;have:=hc _ _ hg;rw[h3 a hA (by omega),iJ]at this;rw[<-this,nP]
theorem Dg.fH{k:Nat}(h:Dg w B A n l)(hk:k<n):∃b o,A=some ⟨b,o,none⟩/\b<B/\vK w b (o+k*27) 27/\dO w b (o+k*27) 27=(l.b k iO).ay:=by
 obtain⟨b,o,hA,hb,hc⟩:=h.cell hk;exact⟨b,o,hA,hb,uX (Bk.r _) hc⟩
end
def mg(a b:List UInt8):Int:=iD a b
theorem afx(a b:List UInt8):mg a b = -1\/mg a b=0\/mg a b=1:=by
 unfold mg
 induction a generalizing b with
 | nil=>cases b<;>simp[iD]
 | cons x a ih=>
   cases b with
   | nil=>simp[iD]
   | cons y b=>
     unfold iD;split
     ·simp
     ·split
      ·simp
      ·exact ih b
theorem Qp(x y:UInt8):x<y\/x=y\/y<x:=by
 rcases Nat.lt_trichotomy x.g y.g with h|h|h
 ·exact Or.inl (uV.2 h)
 ·exact Or.inr (Or.inl (kJ.1 h))
 ·exact Or.inr (Or.inr (uV.2 h))
theorem KJ{a b:List UInt8}:mg a b=0↔a=b:=by
 unfold mg
 induction a generalizing b with
 | nil=>cases b<;>simp[iD]
 | cons x a ih=>
   cases b with
   | nil=>simp[iD]
   | cons y b=>
     unfold iD;rcases Qp x y with h|rfl|h
     ·have:x≠y:=fun e=>by subst e;exact kK x h
      simp[h,this]
     ·have:=kK x
      simp[this,ih]
     ·have h1:¬x<y:=fun h2=>kK x (tO h2 h)
      have:x≠y:=fun e=>by subst e;exact kK x h
      simp[h,h1,this]
theorem ai1(a b:List UInt8):mg b a = - mg a b:=by
 unfold mg
 induction a generalizing b with
 | nil=>cases b<;>simp[iD]
 | cons x a ih=>
   cases b with
   | nil=>simp[iD]
   | cons y b=>
     unfold iD;rcases Qp x y with h|rfl|h
     ·have h1:¬y<x:=fun h2=>kK x (tO h h2)
      simp[h,h1]
     ·have:=kK x
      simp[this,ih]
     ·have h1:¬x<y:=fun h2=>kK x (tO h2 h)
      simp[h,h1]
theorem Gz{a b c:List UInt8}(h1:mg a b<0)(h2:mg b c<0):mg a c<0:=by
 unfold mg at *
 induction a generalizing b c with
 | nil=>
   cases c with
   | nil=>cases b<;>simp[iD]at h1 h2
   | cons z c=>simp[iD]
 | cons x a ih=>
   cases b with
   | nil=>simp[iD]at h1
   | cons y b=>
     cases c with
     | nil=>simp[iD]at h2
     | cons z c=>
       unfold iD at h1 h2 ⊢;rcases Qp x y with h|rfl|h
       ·rcases Qp y z with k|rfl|k
        ·have:=tO h k
         simp[this]
        ·simp[h]
        ·have k1:¬y<z:=fun k2=>kK z (tO k k2)
         simp[k,k1]at h2
       ·have hx:=kK x
        rcases Qp x z with k|rfl|k
        ·simp[k]
        ·simp[hx]at h1 h2 ⊢
         exact ih h1 h2
        ·have k1:¬x<z:=fun k2=>kK z (tO k k2)
         simp[k,k1]at h2
       ·have h3:¬x<y:=fun k2=>kK y (tO h k2)
        simp[h,h3]at h1
theorem vN(a b:List UInt8):bI a b=decide (mg a b<0):=by
 unfold mg
 induction a generalizing b with
 | nil=>cases b<;>simp[iD,bI]
 | cons x a ih=>
   cases b with
   | nil=>simp[iD,bI]
   | cons y b=>
     unfold iD bI;rcases Qp x y with h|rfl|h
     ·simp[h]
     ·have:=kK x
      simp[this,ih]
     ·have h1:¬x<y:=fun h2=>kK x (tO h2 h)
      have:x≠y:=fun e=>by subst e;exact kK x h
      simp[h,h1,this]
def GA(l:List Bk):Prop:=l.Pairwise fun x y=>mg x.E y.E<0
def nm(l:List Bk)(i:Nat):List UInt8:=(l.b i iO).E
theorem GA.lt{l:List Bk}(h:GA l){i j:Nat}(hij:i<j)(hj:j<l.a):mg (nm l i) (nm l j)<0:=by
 have:=List.pairwise_iff_getElem.1 h i j (by omega) hj hij;unfold nm;rw[au,au,aC hj,aC (by omega:i<l.a)];exact this
theorem GA.down{l:List Bk}(h:GA l){i j:Nat}(s:List UInt8)(hij:i<=j)(hj:j<l.a)(hs:mg (nm l j) s<0):mg (nm l i) s<0:=by
 rcases aZ i j with h1|h1
 ·exact Gz (h.lt h1 hj) hs
 ·obtain rfl:i=j:=by omega
  exact hs
theorem GA.up{l:List Bk}(h:GA l){i j:Nat}(s:List UInt8)(hij:i<=j)(hj:j<l.a)(hs:¬mg (nm l i) s<0):¬mg (nm l j) s<0:=fun h1=>hs (h.down s hij hj h1)
def kN(l:List Bk)(s:List UInt8):Nat:=(l.takeWhile fun x=>decide (mg x.E s<0)).a
theorem ahx{l:List Bk}{s:List UInt8}{k:Nat}(hk:k<=l.a)(h1:∀i,i<k->mg (nm l i) s<0)(h2:k<l.a->¬mg (nm l k) s<0):kN l s=k:=by
 unfold kN
 induction l generalizing k with
 | nil=>simp at hk⊢;omega
 | cons x l ih=>
   rcases k with _|k
   ·have:¬mg x.E s<0:=h2 (by simp)
    simp[this]
   ·have h0:mg x.E s<0:=h1 0 (by omega)
    rw[List.takeWhile_cons];simp only[h0,decide_true,if_true,bD];rw[ih (k:=k) (by simpa using hk) (fun i hi=>h1 (i+1) (by omega)) (fun hi=>h2 (by simpa using hi))]
theorem Vi(a b:List UInt8)(w:ak):(callFunc 302 #[.g (bP a),.g (bP b)]).G ah w = .Y (.value (.b .a (mg a b))) w:=by
 rw[yQ Tryz.func302 (by kernel_rfl) (by kernel_rfl) (by kernel_rfl) (e:=Extern.BytealgCompare.compare) (by kernel_rfl),Lib.run_compareString];rfl
theorem NQ(a b:List UInt8)(w:ak):aP ah 240 #[.g (bP a),.g (bP b)] w fun e w'=>e=.a (.b .a (mg a b))/\w=w':=by
 have h:=Vi a b;go_enter Tryz.func240,Tryz.ntmps240;go_wp2;go_ret;exact⟨rfl,rfl⟩
theorem Si(a b:List UInt8)(w:ak):aP ah 166 #[.g (bP a),.g (bP b)] w fun e w'=>e=.a (.b .a (mg a b))/\w=w':=by
 go_enter Tryz.func166,Tryz.ntmps166;go_wp2_with (go_at_call 240;refine(NQ _ _ _).e ?_;rintro e w' ⟨rfl,rfl⟩);go_ret;exact⟨rfl,rfl⟩
theorem Ut(x:Bk)(s:List UInt8)(w:ak):aP ah 179 #[.d x.ay,.g (bP s)] w (fT w (.b .a (mg x.E s))):=by
 have hb0:aL w.a.j w (w.alloc (.D x.ay 62)):=(aG _ _).alloc (av _) _;have HB0:=ab hb0;clear hb0;go_enter Tryz.func179,Tryz.ntmps179;go_wp2_with (go_at_call 166;refine(Si _ _ _).e ?_;rintro e w' ⟨rfl,rfl⟩);go_ret;exact⟨rfl,HB0.i⟩
def tJ(l:List Bk)(s:List UInt8):Bool:=decide (kN l s<l.a)&&decide (mg (nm l (kN l s)) s=0)
def qD(l:List Bk)(s:List UInt8):Bk:=if tJ l s then l.b (kN l s) iO else iO
theorem apx{l:List Bk}{s:List UInt8}(h:tJ l s=false):qD l s=iO:=by simp[qD,h]
theorem Fe{l:List Bk}{s:List UInt8}(h:tJ l s=true):qD l s=l.b (kN l s) iO:=by simp[qD,h]
theorem ai2(args:Array aB)(w:ak):(callFunc 179 args).G ah w = .Y (.enter 179 args) w:=by kernel_rfl
theorem afy(l:List Bk)(hs:GA l)(s:List UInt8)(A:Option aT)(c:Nat)(w:ak)(hR:Dg w w.a.j A l.a l)(hn:l.a<4611686018427387904):
 aP ah 178 #[.a A l.a c,.g (bP s),.func (.func 179) #[] #[]] w
  (fT w (.I #[.b .a (kN l s),.e (tJ l s)])):=by
 have hen:=ai2;have HR:=ab hR;clear hR;have HS:=ab hs;clear hs;obtain⟨n,hnl⟩:=bZ l.a;rw[<-hnl]at HR hn ⊢;have HN:=ab hnl;clear hnl;go_enter Tryz.func178,Tryz.ntmps178;go_wp2;go_loopw [9,10] (fun s9 s10 wr=>∃i j:Nat,i<=j/\j<=n/\s9=.b .a i/\s10=.b .a j/\(∀k,k<i->mg (nm l k) s<0)/\(∀k,j<=k->k<n->¬mg (nm l k) s<0)/\aL w.a.j w wr) (fun s9 s10 _=>(intOf s10-intOf s9).g)
 case atStart=>exact⟨0,n,by omega,av _,rfl,rfl,fun k hk=>by omega,fun k h1 h2=>by omega,aG _ _⟩
 case round=>
  obtain⟨i,j,hij,hjn,rfl,rfl,hlo,hhi,hb⟩:=hrel;have HLO:=ab hlo;have HHI:=ab hhi;have HB:=ab hb;clear hlo hhi hb;by_cases hlt:i<j
  ·have hin:(i:Int)<j:=by omega
   have hmn:(i+j)/2<n:=by omega
   have hR1:=HR.i.M HB.i;obtain⟨b,o,rfl,hbb,hh,hc⟩:=hR1.fH hmn;have IK:=ab hbb;clear hR1 hbb;have hdn:∀k,k<=(i+j)/2->mg (nm l ((i+j)/2)) s<0->mg (nm l k) s<0:=fun k hk h=>HS.i.down s hk (by have:=HN.i;omega) h
   have hup:∀k,(i+j)/2<=k->k<n->¬mg (nm l ((i+j)/2)) s<0->¬mg (nm l k) s<0:=fun k hk hkn h=>HS.i.up s hk (by have:=HN.i;omega) h
   have HDN:=ab hdn;have HUP:=ab hup;clear hdn hup;unfold nm at HDN HUP;obtain⟨x,hx⟩:=bZ (l.b ((i+j)/2) iO);rw[<-hx]at hc HDN HUP;clear hx;by_cases ht:mg x.E s<0
   ·have hd:decide (mg x.E s<0)=true:=by simpa using ht
    go_wp2_with (go_at_call 179;refine(Ut x s _).e ?_;rintro e w1 ⟨rfl,hb1⟩;clear hh hc;have HB1:=ab hb1;clear hb1);go_roundw
    case rel=>exact⟨(i+j)/2+1,j,by omega,by omega,by go_num,by go_num,fun k hk=>HDN.i k (by omega) ht,fun k h1 h2=>by have:=HHI.i k h1 h2;omega,fJ HB.i HB1.i⟩
    case measure=>simp[intOf]<;>omega
   ·have hd:decide (mg x.E s<0)=false:=by simpa using ht
    go_wp2_with (go_at_call 179;refine(Ut x s _).e ?_;rintro e w1 ⟨rfl,hb1⟩;clear hh hc;have HB1:=ab hb1;clear hb1);go_roundw
    case rel=>exact⟨i,(i+j)/2,by omega,by omega,by go_num,by go_num,HLO.i,fun k h1 h2=>by have:=HUP.i k h1 h2 ht;unfold nm;omega,fJ HB.i HB1.i⟩
    case measure=>simp[intOf]<;>omega
  ·obtain rfl:i=j:=by omega
   have hlo:kN l s=i:=ahx (by have:=HN.i;omega) HLO.i (fun h=>by have:=HHI.i i (av _) (by have:=HN.i;omega);omega);have alO:=ab hlo;clear hlo;by_cases hlt2:i<n
   ·have hin:(i:Int)<n:=by omega
    have hR1:=HR.i.M HB.i;obtain⟨b,o,rfl,hbb,hh,hc⟩:=hR1.fH hlt2;clear hR1 hbb;have hf:tJ l s=decide (mg (l.b i iO).E s=0):=by
     have h1:=alO.i;have h2:=HN.i;unfold tJ nm;rw[h1];simp[show i<l.a by omega]
    have HF:=ab hf;clear hf;obtain⟨x,hx⟩:=bZ (l.b i iO);rw[<-hx]at hc HF;clear hx;by_cases ht:mg x.E s=0
    ·have hd:(mg x.E s==0)=true:=by simpa using ht
     go_wp2_with (go_at_call 179;refine(Ut x s _).e ?_;rintro e w1 ⟨rfl,hb1⟩;clear hh hc;have HB1:=ab hb1;clear hb1);go_ret2;exact⟨by rw[alO.i,HF.i];simp[ht],fJ HB.i HB1.i⟩
    ·have hd:(mg x.E s==0)=false:=by simpa using ht
     go_wp2_with (go_at_call 179;refine(Ut x s _).e ?_;rintro e w1 ⟨rfl,hb1⟩;clear hh hc;have HB1:=ab hb1;clear hb1);go_ret2;exact⟨by rw[alO.i,HF.i];simp[ht],fJ HB.i HB1.i⟩
   ·have hf:tJ l s=false:=by
     have h1:=alO.i;have h2:=HN.i;unfold tJ;rw[h1];simp[show¬i<l.a by omega]
    have HF:=ab hf;clear hf;have hd:decide ((i:Int)<n)=false:=by simpa using hlt2
    go_wp2;go_ret2;exact⟨by rw[alO.i,HF.i];rfl,HB.i⟩
theorem Mw(l:List Bk)(hs:GA l)(s:List UInt8)(v:Int)(A:Option aT)(c:Nat)(w:ak)(hR:Dg w w.a.j A l.a l)(hn:l.a<4611686018427387904):
 aP ah 96 #[.d #[.b .a v,.a A l.a c],.g (bP s)] w (fT w (.I #[.b .a (kN l s),.e (tJ l s)])):=by
 have hb0:∀ob,aL w.a.j w (w.alloc ob):=fun ob=>(aG _ _).alloc (av _) _
 have HB0:=ab hb0;clear hb0;have HR1:=ab (fun ob=>(hR.alloc (av _) ob).lN (B':=(w.alloc ob).a.j) (by simp));clear hR;go_enter Tryz.func96,Tryz.ntmps96;go_wp2_with (go_at_call 178;refine(afy l hs s A c _ (HR1.i _) hn).e ?_;rintro e w1 ⟨rfl,hb1⟩;have HB1:=ab hb1;clear hb1);go_ret2;exact⟨rfl,fJ (HB0.i _) HB1.i⟩
theorem Cb(l:List Bk)(hs:GA l)(s:List UInt8)(v:Int)(A:Option aT)(c:Nat)(w:ak)(hR:Dg w w.a.j A l.a l)(hn:l.a<4611686018427387904):
 aP ah 33 #[.d #[.b .a v,.a A l.a c],.g (bP s)] w (fT w (.I #[.d (qD l s).ay,.e (tJ l s)])):=by
 have hb0:∀ob tH,aL w.a.j w ((w.alloc ob).alloc tH):=fun ob tH=>((aG _ _).alloc (av _) _).alloc (by simp) _
 have HB0:=ab hb0;clear hb0;have HR1:=ab (fun ob tH=>((hR.alloc (av _) ob).alloc (by simp) tH).lN (B':=((w.alloc ob).alloc tH).a.j) (by simp;omega));have HRB:=ab hR;clear hR;obtain⟨K,hK⟩:=rT (tJ l s);have HK:=ab hK;clear hK;cases K
 ·go_enter Tryz.func33,Tryz.ntmps33
  go_wp2_with fail;refine(Mw l hs s v A c _ (HR1.i _ _) hn).e ?_;rintro e w1 ⟨rfl,hb1⟩;rw[HK.i];have hth:=RJ (YB (w.alloc (.D #[.b .a v,.a A l.a c] 32)) iO.ay 62 (Bk.r _)) hb1 (by simp);rw[show∀ob,(w.alloc ob).a.j=w.a.j+1 from fun ob=>by simp]at hth;have hB:=HB0.i (.D #[.b .a v,.a A l.a c] 32) (.D iO.ay 62);have HB1:=ab (hB.trans (hb1.e (by simp;omega)));have HT:=ab hth;clear hb1 hB;go_wp2_with fail
  (try simp only[Exit.inBlock,Exit.then])
  refine aN (alx rfl _ _ _ _ rfl (ND _ _ _ _ HT.i).1) rfl ⟨?_,Sb HB1.i _ _ _ (by omega)⟩;rw[(ND _ _ _ _ HT.i).2,apx HK.i]
  try rw[HK.i]
  rfl
 ·have hlt:kN l s<l.a:=by
   have:=HK.i;unfold tJ at this;simp at this;exact this.1
  have hin:((kN l s:Nat):Int)<(l.a:Nat):=by omega
  go_enter Tryz.func33,Tryz.ntmps33;go_wp2_with fail;refine(Mw l hs s v A c _ (HR1.i _ _) hn).e ?_;rintro e w1 ⟨rfl,hb1⟩;rw[HK.i];have hcl:w1.b ⟨w.a.j,1,none⟩=some (.a A l.a c):=by
   rw[hb1.cell (by simp;omega)];go_simp
  have hth:=RJ (YB (w.alloc (.D #[.b .a v,.a A l.a c] 32)) iO.ay 62 (Bk.r _)) hb1 (by simp);rw[show∀ob,(w.alloc ob).a.j=w.a.j+1 from fun ob=>by simp]at hth;have hB:=HB0.i (.D #[.b .a v,.a A l.a c] 32) (.D iO.ay 62);have hB1:=hB.trans (hb1.e (by simp;omega));have HB1:=ab hB1;have hR1:=HRB.i.M hB1;have HT:=ab hth;clear hb1 hB hB1;obtain⟨b,o,rfl,hbb,hh,hc⟩:=hR1.fH hlt;clear hbb hR1;obtain⟨x,hx⟩:=bZ (l.b (kN l s) iO);rw[<-hx]at hc;have HX:=ab hx;clear hx;go_wp2_with fail
  (try simp only[Exit.inBlock,Exit.then])
  refine aN (alx rfl _ _ _ _ rfl (ND _ _ _ _ HT.i).1) rfl ⟨?_,Sb HB1.i _ _ _ (by omega)⟩;rw[(ND _ _ _ _ HT.i).2,Fe HK.i,<-HX.i]
  try rw[HK.i]
  rfl
theorem lQ{P:eD}{T:Type}(f:T->ak){id:Nat}{Q:yP->qG->ak->Prop}{a:qG}{w:ak}{l:List iM}(hm:P.follows .mixedOrders=true)(hB:Region.lexB .any l.c=true)
 (n0:T) (h0:f n0=w.drew)
 (h:wpQuiet P l.c (fun w'=>∃n,w'=f n) (fun a'=>∀w',(∃n,w'=f n)->Q .normal a' w') l a):(Code.region id l.c true).wp P Q a w:=
 wp_region_quiet (C:=fun w'=>∃n,w'=f n) hm hB ⟨n0,h0.symm⟩ (by simpa using h)
theorem Cc(S:ak->Prop)(w:ak)(h:S w.drew):∃(T:Type)(f:T->ak)(n0:T),f n0=w.drew/\(∀n,S (f n))/\(∀W,S W->∃n,W=f n):=
 ⟨{W // S W},Subtype.val,⟨w.drew,h⟩,rfl,fun n=>n.2,fun W hW=>⟨⟨W,hW⟩,rfl⟩⟩
theorem kr{P:eD}{md:Lh}{ops:Array iM}{Q:yP->qG->ak->Prop}{fuel:Nat}{listed:Array Bool}{a:qG}{w:ak}(i:Nat){o:iM}(hr:fZ md ops listed=[i])(ho:ops[i]? = some o)
 (h:∀K':qG->ak->Prop,(∀a w,wpAny P md ops Q fuel (listed.c i true) a w->K' a w)->if fq o (yielded ops a.tmps)=true then nG P o a w K' Q else K' (a.put o.S undef) w) :
 wpAny P md ops Q (fuel+1) listed a w:=
 wpAny_ready hr (by simp) (AllReady.cons ho h AllReady.nil)
theorem ai3{P:eD}{T:Type}(f:T->ak){Q:yP->qG->ak->Prop}{a:qG}{w:ak}{ops:Array iM}{listed:Array Bool}{fuel:Nat}(k:Nat)(l:List iM)
 (hs:AV ops=true) (hl:∀j,l[j]? = ops[k+j]?) (hB:Region.lexFrom .any ops l.a k listed=true) (hf:fuel=l.a) (n0:T) (h0:f n0=w)
 (h:wpQuiet P ops (fun w'=>∃n,w'=f n) (fun a'=>∀w',(∃n,w'=f n)->Q .normal a' w') l a):wpAny P .any ops Q fuel listed a w:=by
 subst hf;exact wpAny_of_quiet (C:=fun w'=>∃n,w'=f n) (Q:=fun a'=>∀w',(∃n,w'=f n)->Q .normal a' w') (fun _ w' hw' h=>h w' hw') _ _ _ _ ⟨n0,h0.symm⟩ (wpAnyQ_lex hs l k listed a hl hB h)
theorem GD{P:eD}{T:Type}(f:T->ak){Q:yP->qG->ak->Prop}{a:qG}{w:ak}{o0 o1 o2 o3 o4 o5 o6:iM}{l:List iM}{listed:Array Bool}{fuel:Nat}
 (hs:AV (o0::o1::o2::o3::o4::o5::o6::l).c=true) (hB:Region.lexFrom .any (o0::o1::o2::o3::o4::o5::o6::l).c l.a 7 listed=true) (hf:fuel=l.a) (n0:T) (h0:f n0=w)
 (h:wpQuiet P (o0::o1::o2::o3::o4::o5::o6::l).c (fun w'=>∃n,w'=f n) (fun a'=>∀w',(∃n,w'=f n)->Q .normal a' w') l a) :
 wpAny P .any (o0::o1::o2::o3::o4::o5::o6::l).c Q fuel listed a w:=
 ai3 f 7 l hs (fun j=>by rw[kM];simp) hB hf n0 h0 h
theorem alP(S:ak->Prop)(w:ak)(h:S w):∃(T:Type)(f:T->ak)(n0:T),f n0=w/\(∀n,S (f n))/\(∀W,S W->∃n,W=f n):=
 ⟨{W // S W},Subtype.val,⟨w,h⟩,rfl,fun n=>n.2,fun W hW=>⟨⟨W,hW⟩,rfl⟩⟩
theorem YE(x:Nat):Fb x x=true:=by simp[Fb]
theorem afz(u:Nat)(hu:u<18446744073709551616)(h:¬u%9223372036854775808=0):kg u=u:=by
 unfold kg;have afp:ord u 0=rz.order u 0:=rfl;rw[afp];have f0:Fl.TN 0:=by unfold Fl.TN;omega
 have s0:Fl.SV 0=0:=by decide +kernel
 by_cases hf:Fl.TN u
 ·rw[Fl.NJ hf f0,s0]
  have:compare (Fl.SV u) 0≠.eq:=by
   intro hc;have hz:=Gn.1 hc;unfold Fl.SV at hz;split at hz
   ·have:=Fl.asf (r:=u) (by omega)
    omega
   ·have:=Fl.asf (r:=u-9223372036854775808) (by omega)
    omega
  rw[if_neg];simpa using this
 ·rcases Fl.aaD hu hf with rfl|rfl|⟨s,f,h⟩
  ·rw[Fl.Qm f0];rfl
  ·rw[Fl.Mt f0];rfl
  ·rw[Fl.KC h];rfl
def Li(x:Nat):Bool:=Fb x (kg x)
theorem ai4{x:Nat}(h:Gi x=true):decide (128<=((BZ x).b 0 0).g) = !Li x:=by
 unfold Gi at h;simp only[mJ,decide_eq_true_eq,beq_iff_eq]at h;rcases h with h|rfl
 ·have hx:x<18446744073709551616:=by omega
  have hn:NK x=false:=by
   have hf:Fl.TN x:=by unfold Fl.TN;omega
   have afp:ord x x=rz.order x x:=rfl;unfold NK;rw[afp,Fl.NJ hf hf];simp
  have hp:kg x=x:=by
   by_cases hz:x%9223372036854775808=0
   ·obtain rfl:x=0:=by omega
    decide +kernel
   ·exact afz x hx hz
  have hb:Ip x=x:=by simp[Ip,hn]
  have hg:(BZ x).b 0 0=Dq x 7:=by
   unfold BZ;rw[hb];rfl
  rw[hg,Li,hp,YE];simp[Dq];omega
 ·decide +kernel
def Bk.oQ(x:Bk):Prop:=x.E.a<=9223372036854775807/\x.w<18446744073709551616
def xV(l:List Bk)(i:Nat):Bool:=(l.b i iO).yh&&Li (l.b i iO).w&&(decide (i=0)||decide (mg (nm l (i-1)) (nm l i)<0))
def rU(v:Int)(l:List Bk):Bool:=decide (0<=v)&&decide (v<=1099511627776)&&decide (l.a<=1024)&&(bY l.a).all (xV l)
theorem yj(p:Nat->Bool)(i:Nat):(bY (i+1)).all p=((bY i).all p&&p i):=by
 rw[Kl,List.all_append];simp
theorem ji(p:Nat->Bool)(i n:Nat)(h:i<n)(hp:p i=false):(bY n).all p=false:=by
 rw[FV];exact⟨i,dV.2 h,by rw[hp];simp⟩
def SR(n4:Nat)(x:Bk)(hp:Nat)(sl:aB)(b o:Nat)(pn:List UInt8)(W:ak):Prop:=
 n4<W.a.j/\hp<W.a.j/\b<W.a.j/\vK W n4 0 27/\dO W n4 0 27=x.ay/\W.b ⟨n4,0,none⟩=some (.g (bP x.E))/\W.b ⟨n4,25,none⟩=some (fv x.w)/\W.b ⟨hp,1,none⟩=some sl/\W.b ⟨b,o,none⟩=some (.g (bP pn))
theorem SR.M{n4 hp b o:Nat}{x:Bk}{sl:aB}{pn:List UInt8}{W W1:ak}(h:SR n4 x hp sl b o pn W)(hb:aL W.a.j W W1):SR n4 x hp sl b o pn W1:=by
 obtain⟨h1,h2,h3,h4,h5,h6,h7,h8,h9⟩:=h;have hz:=hb.j;refine⟨by omega,by omega,by omega,fun j hj=>?_,?_,by rw[hb.cell h1];exact h6,by rw[hb.cell h1];exact h7,by rw[hb.cell h2];exact h8,by rw[hb.cell h3];exact h9⟩
 ·obtain⟨v,hv⟩:=h4 j hj
  exact⟨v,by rw[hb.cell h1];exact hv⟩
 ·rw[<-h5];exact BM fun j _=>hb.cell h1
theorem SR.load{n4 hp b o:Nat}{x:Bk}{sl:aB}{pn:List UInt8}{W:ak}(h:SR n4 x hp sl b o pn W):(Jj (.c (some ⟨n4,0,none⟩))).G ah W = .Y (.d x.ay) W:=by
 rw[aaA W n4 0 h.2.2.2.1,h.2.2.2.2.1]
theorem XU(l:List Bk)(hf:∀x∈l,x.oQ)(v:Int)(A:Option aT)(c:Nat)(w:ak)(hR:Dg w w.a.j A l.a l)(hn:l.a<4611686018427387904):
 aP ah 45 #[.d #[.b .a v,.a A l.a c]] w (fT w (.e (rU v l))):=by
 have hb0:∀ob,aL w.a.j w (w.alloc ob):=fun ob=>(aG _ _).alloc (av _) _
 have HB0:=ab hb0;clear hb0;have HR:=ab hR;have HF:=ab hf;clear hR hf;have hp:rU v l=(decide (0<=v)&&decide (v<=1099511627776)&&decide (l.a<=1024)&&(bY l.a).all (xV l)):=rfl;have HP:=ab hp;clear hp;by_cases h1:0<=v;rotate_left
 ·have h1':v<0:=by omega
  go_enter Tryz.func45,Tryz.ntmps45;go_wp2;go_ret;exact⟨by rw[HP.i];simp<;>intros<;>omega,HB0.i _⟩
 by_cases h2:v<=1099511627776;rotate_left
 ·go_enter Tryz.func45,Tryz.ntmps45
  go_wp2;go_ret;exact⟨by rw[HP.i];simp<;>intros<;>omega,HB0.i _⟩
 by_cases h3:l.a<=1024;rotate_left
 ·go_enter Tryz.func45,Tryz.ntmps45
  go_wp2;go_ret;exact⟨by rw[HP.i];simp<;>intros<;>omega,HB0.i _⟩
 obtain⟨n,hnl⟩:=bZ l.a;rw[<-hnl]at HR hn h3 ⊢;have HN:=ab hnl;clear hnl;go_enter Tryz.func45,Tryz.ntmps45;go_wp2;go_loopw [22] (fun s22 wr=>∃i:Nat,i<=n/\s22=.b .a i/\(bY i).all (xV l)=true/\aL (w.a.j+1) (w.alloc (.D #[.b .a v,.a A n c] 32)) wr) (fun s22 _=>n-(intOf s22).g)
 case atStart=>exact⟨0,by omega,rfl,rfl,by simpa using aG _ _⟩
 case round=>
  obtain⟨i,hin,rfl,hall,hb⟩:=hrel;have HA:=ab hall;have hB:=(HB0.i (.D #[.b .a v,.a A n c] 32)).trans (hb.e (by simp));have hcl:wr.b ⟨w.a.j,1,none⟩=some (.a A n c):=by
   rw[hb.cell (by simp)];go_simp
  have HB:=ab hb;have HBW:=ab hB;have hsz:=hb.j;clear hall hb hB;by_cases hlt:i<n
  ·have hi:(i:Int)<n:=by omega
   have hR1:=HR.i.M HBW.i;obtain⟨b,o,rfl,hbb,hh,hc⟩:=hR1.fH hlt;have hbs:b<wr.a.j:=by simp at hsz;omega
   have hmem:l.b i iO∈l:=by
    have:=HN.i;rw[au,aC (by omega)];simp
   obtain⟨hx1,hx2⟩:=HF.i _ hmem;have hok:xV l i=((l.b i iO).yh&&Li (l.b i iO).w&&(decide (i=0)||decide (mg (nm l (i-1)) (nm l i)<0))):=rfl;have hnm:nm l i=(l.b i iO).E:=rfl;rw[hnm]at hok;obtain⟨x,hx⟩:=bZ (l.b i iO);rw[<-hx]at hc hx1 hx2 hok;have Dt:=ab hok;clear hx hok hnm hmem;obtain⟨K1,hK1⟩:∃K,x.yh=K:=⟨_,rfl⟩
   obtain⟨K2,hK2⟩:∃K,Fb x.w (kg x.w)=K:=⟨_,rfl⟩
   have hn4:wr.a.j<(wr.alloc (.D x.ay 62)).a.j:=by simp
   have hS:∀b' o' pn,b'<wr.a.j->wr.b ⟨b',o',none⟩=some (.g (bP pn))->SR wr.a.j x w.a.j (.a (some ⟨b,o,none⟩) n c) b' o' pn (wr.alloc (.D x.ay 62)):=by
    intro b' o' pn h1 h2;refine⟨by simp,by simp at hsz⊢;omega,by simp;omega,?_,?_,?_,?_,?_,?_⟩
    ·rw[Ms];trivial
    ·exact BU _ _ _
    ·rw[lX];exact Bk.nS x
    ·rw[lX];exact Bk.aaz x
    ·rw[qo _ _ _ (by simp at hsz⊢;omega)];exact hcl
    ·rw[qo _ _ _ (by simpa using h1)];exact h2
   have hpn:∃pn,(0<i->wr.b ⟨b,o+(i-1)*27,none⟩=some (.g (bP pn))/\nm l (i-1)=pn):=by
    refine⟨nm l (i-1),fun h0=>⟨?_,rfl⟩⟩;obtain⟨b',o',Vj,_,hcc⟩:=hR1.cell (k:=i-1) (by omega);injection Vj with Vj
    injection Vj with e1 e2
    subst e1 e2;have:=hcc 0 (by omega);rw[Bk.nS]at this;simpa[nm]using this
   have hn0:wr.b ⟨b,o+i*27,none⟩=some (.g (bP x.E)):=by
    have:=hh 0 (by omega);obtain⟨u,hu⟩:=this;have hg:=DJ wr b (o+i*27) 27 0 (by omega);rw[hc,Bk.nS]at hg;rw[hu]at hg;simp at hg hu;rw[hu,<-hg]
   have Jp:∀b' o' pn,b'<wr.a.j->wr.b ⟨b',o',none⟩=some (.g (bP pn))->∃(T:Type)(f:T->ak)(n0:T),f n0=(wr.alloc (.D x.ay 62)).drew/\(∀m W1,aL (f m).a.j (f m) W1->∃m',W1=f m')/\(∀m,aL (w.a.j+1) (w.alloc (.D #[.b .a v,.a (some ⟨b,o,none⟩) n c] 32)) (f m)) /\
    (∀m,(Jj (.c (some ⟨wr.a.j,0,none⟩))).G ah (f m) = .Y (.d x.ay) (f m))/\(∀m,(f m).b ⟨wr.a.j,0,none⟩=some (.g (bP x.E)))/\(∀m,(f m).b ⟨wr.a.j,25,none⟩=some (.float .f64 x.w)) /\
     (∀m,(f m).b ⟨w.a.j,1,none⟩=some (.a (some ⟨b,o,none⟩) n c))/\(∀m,(f m).b ⟨b',o',none⟩=some (.g (bP pn))):=by
    intro b' o' pn h1 h2;obtain⟨T,f,n0,e0,eS,eT⟩:=Cc (fun W=>SR wr.a.j x w.a.j (.a (some ⟨b,o,none⟩) n c) b' o' pn W/\aL (w.a.j+1) (w.alloc (.D #[.b .a v,.a (some ⟨b,o,none⟩) n c] 32)) W)
     (wr.alloc (.D x.ay 62)) ⟨hS _ _ _ h1 h2,(HB.i.alloc (by simp at hsz;omega) _).drew⟩
    refine⟨T,f,n0,e0,?_,fun m=>(eS m).2,fun m=>(eS m).1.load,fun m=>(eS m).1.2.2.2.2.2.1,fun m=>(eS m).1.2.2.2.2.2.2.1,fun m=>(eS m).1.2.2.2.2.2.2.2.1,fun m=>(eS m).1.2.2.2.2.2.2.2.2⟩;intro m W1 hb;have:=(eS m).2.j;exact eT _ ⟨(eS m).1.M hb,(eS m).2.trans (hb.e (by simpa using this))⟩
   have pJ:∀K,x.yh=K->∀W,aP ah 111 #[.d x.ay] W fun e w'=>e=.a (.e K)/\aL W.a.j W w':=fun K h W=>by
    have:=ac7 x W hx1 hx2;rw[h]at this;exact this
   have qy:∀K,Fb x.w (kg x.w)=K->∀W,aP ah 112 #[.float .f64 x.w,.float .f64 (kg x.w)] W fun e w'=>e=.a (.e K)/\W=w':=fun K h W=>by
    have:=acY x.w (kg x.w) W;rw[h]at this;exact this
   cases K1
   ·have hno:xV l i=false:=by rw[Dt.i,hK1];rfl
    have Jq:=ji (xV l) i n hlt hno;have hPF:rU v l=false:=by rw[HP.i,<-HN.i,Jq];simp
    have HPF:=ab hPF;have XV:=ab (pJ _ hK1);have Uu:=ab (qy _ hK2);clear hK1 hK2 hpn hno Jq hPF pJ qy;obtain⟨T,f,n0,e0,es,ew,r1,r2,r3,r4,r5⟩:=Jp _ _ _ hbs hn0;have hne:Nonempty T:=⟨n0⟩
    have E0:=ab e0;have ES:=ab es;have EW:=ab ew;clear hS Jp e0 es ew;go_upto_region 6 with fail
    refine lQ f (by kernel_rfl) (by kernel_rfl) n0 E0.i ?_
    repeat(go_big_quiet_step ((first
     | (go_at_call 111;refine(XV.i _).e ?_;rintro e w1 ⟨rfl,hb1⟩;exact⟨rfl,ES.i _ _ hb1⟩)
     | (go_at_call 113;refine(zG _ _).e ?_;rintro e w1 ⟨rfl,rfl⟩;exact⟨rfl,_,rfl⟩)
     | (go_at_call 112;refine(Uu.i _).e ?_;rintro e w1 ⟨rfl,rfl⟩;exact⟨rfl,_,rfl⟩))))
    refine eG ?_;rintro _ ⟨m,rfl⟩;go_wp2;go_ret;exact⟨by rw[HPF.i];rfl,(HB0.i _).trans ((EW.i _).e (by simp))⟩
   ·cases K2
    ·have hno:xV l i=false:=by rw[Dt.i];unfold Li;rw[hK2];simp
     have Jq:=ji (xV l) i n hlt hno;have hPF:rU v l=false:=by rw[HP.i,<-HN.i,Jq];simp
     have HPF:=ab hPF;have XV:=ab (pJ _ hK1);have Uu:=ab (qy _ hK2);clear hK1 hK2 hpn hno Jq hPF pJ qy;obtain⟨T,f,n0,e0,es,ew,r1,r2,r3,r4,r5⟩:=Jp _ _ _ hbs hn0;have hne:Nonempty T:=⟨n0⟩
     have E0:=ab e0;have ES:=ab es;have EW:=ab ew;clear hS Jp e0 es ew;go_upto_region 6 with fail
     refine lQ f (by kernel_rfl) (by kernel_rfl) n0 E0.i ?_
     repeat(go_big_quiet_step ((first
      | (go_at_call 111;refine(XV.i _).e ?_;rintro e w1 ⟨rfl,hb1⟩;exact⟨rfl,ES.i _ _ hb1⟩)
      | (go_at_call 113;refine(zG _ _).e ?_;rintro e w1 ⟨rfl,rfl⟩;exact⟨rfl,_,rfl⟩)
      | (go_at_call 112;refine(Uu.i _).e ?_;rintro e w1 ⟨rfl,rfl⟩;exact⟨rfl,_,rfl⟩))))
     refine eG ?_;rintro _ ⟨m,rfl⟩;go_wp2;go_ret;exact⟨by rw[HPF.i];rfl,(HB0.i _).trans ((EW.i _).e (by simp))⟩
    ·rcases i with _|i
     ·simp only[DI,mW]at hh hc hn0
      have hyes:(bY (0+1)).all (xV l)=(bY 0).all (xV l):=by
       rw[yj,Dt.i];unfold Li;rw[hK1,hK2];simp
      have HY:=ab hyes;have XV:=ab (pJ _ hK1);have Uu:=ab (qy _ hK2);clear hK1 hK2 hpn hyes pJ qy;obtain⟨T,f,n0,e0,es,ew,r1,r2,r3,r4,r5⟩:=Jp _ _ _ hbs hn0;have hne:Nonempty T:=⟨n0⟩
      have E0:=ab e0;have ES:=ab es;have EW:=ab ew;clear hS Jp e0 es ew;go_upto_region 6 with fail
      refine lQ f (by kernel_rfl) (by kernel_rfl) n0 E0.i ?_
      repeat(go_big_quiet_step ((first
       | (go_at_call 111;refine(XV.i _).e ?_;rintro e w1 ⟨rfl,hb1⟩;exact⟨rfl,ES.i _ _ hb1⟩)
       | (go_at_call 113;refine(zG _ _).e ?_;rintro e w1 ⟨rfl,rfl⟩;exact⟨rfl,_,rfl⟩)
       | (go_at_call 112;refine(Uu.i _).e ?_;rintro e w1 ⟨rfl,rfl⟩;exact⟨rfl,_,rfl⟩))))
      refine eG ?_;rintro _ ⟨m,rfl⟩;go_wp2;go_roundw
      case rel=>exact⟨0+1,by omega,by go_num,by rw[HY.i];exact HA.i,EW.i _⟩
      case measure=>simp[intOf]<;>omega
     ·obtain⟨pn,hpn⟩:=hpn
      obtain⟨hp1,hp2⟩:=hpn (by omega);clear hpn;simp only[yR]at hp1 hp2;have hok2:xV l (i+1)=(x.yh&&Li x.w&&(decide (i+1=0)||decide (mg pn x.E<0))):=by rw[Dt.i,yR,hp2]
      have hbl:=vN pn x.E;by_cases ht:mg pn x.E<0
      ·have hbt:bI pn x.E=true:=by rw[hbl];simpa using ht
       have hyes:(bY (i+1+1)).all (xV l)=(bY (i+1)).all (xV l):=by
        rw[yj,hok2];unfold Li;rw[hK1,hK2];simp[ht]
       have HY:=ab hyes;have XV:=ab (pJ _ hK1);have Uu:=ab (qy _ hK2);clear hK1 hK2 hyes pJ qy hok2 hbl hp2 ht;obtain⟨T,f,n0,e0,es,ew,r1,r2,r3,r4,r5⟩:=Jp _ _ _ hbs hp1;have hne:Nonempty T:=⟨n0⟩
       have E0:=ab e0;have ES:=ab es;have EW:=ab ew;clear hS Jp e0 es ew;go_upto_region 6 with fail
       refine lQ f (by kernel_rfl) (by kernel_rfl) n0 E0.i ?_
       repeat(go_big_quiet_step ((first
        | (go_at_call 111;refine(XV.i _).e ?_;rintro e w1 ⟨rfl,hb1⟩;exact⟨rfl,ES.i _ _ hb1⟩)
        | (go_at_call 113;refine(zG _ _).e ?_;rintro e w1 ⟨rfl,rfl⟩;exact⟨rfl,_,rfl⟩)
        | (go_at_call 112;refine(Uu.i _).e ?_;rintro e w1 ⟨rfl,rfl⟩;exact⟨rfl,_,rfl⟩))))
       refine eG ?_;rintro _ ⟨m,rfl⟩;go_wp2;go_roundw
       case rel=>exact⟨i+1+1,by omega,by go_num,by rw[HY.i];exact HA.i,EW.i _⟩
       case measure=>simp[intOf]<;>omega
      ·have hbt:bI pn x.E=false:=by rw[hbl];simpa using ht
       have hno:xV l (i+1)=false:=by rw[hok2];simp[ht]
       have Jq:=ji (xV l) (i+1) n hlt hno;have hPF:rU v l=false:=by rw[HP.i,<-HN.i,Jq];simp
       have HPF:=ab hPF;have XV:=ab (pJ _ hK1);have Uu:=ab (qy _ hK2);clear hK1 hK2 hno Jq hPF pJ qy hok2 hbl hp2 ht;obtain⟨T,f,n0,e0,es,ew,r1,r2,r3,r4,r5⟩:=Jp _ _ _ hbs hp1;have hne:Nonempty T:=⟨n0⟩
       have E0:=ab e0;have ES:=ab es;have EW:=ab ew;clear hS Jp e0 es ew;go_upto_region 6 with fail
       refine lQ f (by kernel_rfl) (by kernel_rfl) n0 E0.i ?_
       repeat(go_big_quiet_step ((first
        | (go_at_call 111;refine(XV.i _).e ?_;rintro e w1 ⟨rfl,hb1⟩;exact⟨rfl,ES.i _ _ hb1⟩)
        | (go_at_call 113;refine(zG _ _).e ?_;rintro e w1 ⟨rfl,rfl⟩;exact⟨rfl,_,rfl⟩)
        | (go_at_call 112;refine(Uu.i _).e ?_;rintro e w1 ⟨rfl,rfl⟩;exact⟨rfl,_,rfl⟩))))
       refine eG ?_;rintro _ ⟨m,rfl⟩;go_wp2;go_ret;exact⟨by rw[HPF.i];rfl,(HB0.i _).trans ((EW.i _).e (by simp))⟩
  ·obtain rfl:i=n:=by omega
   have hPT:rU v l=true:=by rw[HP.i,<-HN.i,HA.i];simp[h1,h2,h3]<;>omega
   have HPT:=ab hPT;clear hPT;have hd:decide ((i:Int)<i)=false:=by simp
   go_wp2;go_ret;exact⟨by rw[HPT.i];rfl,HBW.i⟩
structure Tu where
 h:fC
 S:fC
 aQ:Int
 jv:Int
 iQ:Int
deriving DecidableEq
structure Fw where
 key:Tu
 E:List UInt8
 vV:Int
 seen:Int
 no:Int
deriving DecidableEq
structure rE where
 lD:Int
 qO:List Bk
 r:List Hl
 h:List Fw
 fK:Int
 no:Int
 S:Vector Int 11
deriving DecidableEq
def nM:fC:=⟨false,bJ 16 0⟩
def afA:Tu:=⟨nM,nM,0,0,0⟩
def jw:Fw:=⟨afA,[],0,0,0⟩
def zq:rE:=⟨0,[],[],[],0,0,bJ 11 0⟩
abbrev RS:=Option (List UInt8)
def Iq(k:Nat):RS->List UInt8×RS
 | some l=>if k<=l.a then(l.d k,some (l.f k))else([],none)
 | none=>([],none)
def ac'(k:Nat)(s:RS):Nat×RS:=(oP (Iq k s).1,(Iq k s).2)
def qE(n:Nat)(l:List UInt8):Vector UInt8 n:=EM fun i=>l.b i 0
def tuO(s:RS):(Tu×Bool)×RS:=
 let a1:=ac' 1 s
 let a2:=Iq 16 a1.2
 let a3:=Iq 16 a2.2
 let a4:=ac' 1 a3.2
 let a5:=ac' 2 a4.2
 let a6:=ac' 2 a5.2
 ((⟨⟨a1.1==6,qE 16 a2.1⟩,⟨a1.1==6,qE 16 a3.1⟩,a4.1,a5.1,a6.1⟩,(a1.1==6)||(a1.1==4)),a6.2)
def GH(t:Tu):List UInt8:=[if t.h.h then 6 else 4]++(t.h.b.a++(t.S.b.a++([aK t.aQ.g]++(gM t.jv.g 2 true++gM t.iQ.g 2 true))))
def XW(n m:Int):Bool:=decide (0<=n)&&decide (n<=m)
def qg(a:fC):Bool:=a.h||(a.b.a.f 4).all (· == 0)
def Ev(t:Tu):Bool:=decide (t.h.h=t.S.h)&&qg t.h&&qg t.S&&XW t.aQ 255&&XW t.jv 65535&&XW t.iQ 65535
def AY(x:Fw):Bool:=Ev x.key&&oI x.E&&decide (1<=x.vV)&&decide (x.vV<=5)&&XW x.seen 1099511627776&&XW x.no 1152921504606846976
theorem Vk(a b:Vector UInt8 6)(d:Nat)(W:ak):(jg (d+2) 25 (.d (a.a.map bv).c) (.d (b.a.map bv).c)).G ah W = .Y (decide (a=b)) W:=by
 rw[Io d FW (by kernel_rfl) mQ _ _ (by simp) (by simp),aht]
theorem ai5(a b:Vector UInt8 16)(d:Nat)(W:ak):(jg (d+2) 22 (.d (a.a.map bv).c) (.d (b.a.map bv).c)).G ah W = .Y (decide (a=b)) W:=by
 rw[Io d qH (by kernel_rfl) mQ _ _ (by simp) (by simp),aht]
theorem fC.ai6(a:fC):a.ay.extract 1 (1+16)=(a.b.a.map bv).c:=by
 apply pQ;simp[fC.ay];exact aJ (by simp)
theorem afB:ah.k 27=some (.d (ah.fieldsOf 27)):=by
 simp only[jX,fB]
theorem YF(c:fC)(W:ak):(part 4 c.ay 0).G ah W = .Y (.e c.h) W:=
 qc (P:=ah) (e:=4) (by simp only[nX]) (fC.nS c) W
theorem ahy(c:fC)(W:ak):(part 22 c.ay 1).G ah W = .Y (.d (c.b.a.map bv).c) W:=by
 rw[EZ (P:=ah) (e:=22) (n:=16) (by simp only[qH]) (by kernel_rfl) c.ay 1 W,fC.ai6]
theorem alQ:∃f1 f2:oh,(ah.fieldsOf 27).a=[f1,f2]/\f1.E ≠ "_" /\ f2.E ≠ "_" /\ f1.p=4/\f1.X=0/\f2.p=22/\f2.X=1:=by
 refine⟨_,_,by simp only[jX,fB];rfl,?_,?_,rfl,rfl,rfl,rfl⟩<;>decide
theorem aaH{P:eD}(d:Nat)(xs ys:Array aB)(f1 f2:oh)(h1:f1.E ≠ "_")(h2:f2.E ≠ "_")(W:ak)(a1 b1 a2 b2:aB)(r1 r2:Bool)
 (p1:(part f1.p xs f1.X).G P W = .Y a1 W) (q1:(part f1.p ys f1.X).G P W = .Y b1 W) (e1:(jg d f1.p a1 b1).G P W = .Y r1 W)
 (p2:(part f2.p xs f2.X).G P W = .Y a2 W) (q2:(part f2.p ys f2.X).G P W = .Y b2 W) (e2:(jg d f2.p a2 b2).G P W = .Y r2 W) :
 (wK d xs ys [f1,f2]).G P W = .Y (r1&&r2) W:=by
 simp only[wK,h1,h2,ne_eq,not_false_eq_true,if_true,jP,p1,q1,e1,gQ];cases r1
 ·simp
 ·simp only[sQ,Bool.false_eq_true,if_false,jP,p2,q2,e2,gQ]
  cases r2<;>simp
theorem GI(a b:fC)(d:Nat)(W:ak):(jg (d+3) 27 (.d a.ay) (.d b.ay)).G ah W = .Y (decide (a=b)) W:=by
 rw[zN W (d+2) _ _ _ afB Tryz.stoodInHeld27];obtain⟨f1,f2,hl,n1,n2,t1,o1,t2,o2⟩:=alQ;rw[hl,aaH (d+2) a.ay b.ay f1 f2 n1 n2 W _ _ _ _ _ _ (by rw[t1,o1];exact YF a W) (by rw[t1,o1];exact YF b W) (by rw[t1];exact aav _ _ _ W)
  (by rw[t2,o2];exact ahy a W) (by rw[t2,o2];exact ahy b W) (by rw[t2];exact ai5 _ _ d W)]
 obtain⟨s1,v1⟩:=a;obtain⟨s2,v2⟩:=b;congr 1;rw[bF];simp
@[go_sem ↓]theorem aC5(a b:fC)(W:ak):(jg 10000 27 (.d a.ay) (.d b.ay)).G ah W = .Y (decide (a=b)) W:=GI a b 9997 W
theorem Bk.apy(x:Bk):x.ay.extract 1 (1+17)=x.h.ay:=by
 apply dZ;intro j;have hs:=Bk.r x;have ha:=fC.r x.h;rw[dA];by_cases hj:j<17
 ·rw[if_pos (by rw[hs];omega),kM]
  exact Bk.Nz x j hj
 ·rw[if_neg (by rw[hs];omega),aU (by rw[ha];omega)]
theorem Bk.ahz(x:Bk):x.ay.extract 19 (19+6)=(x.Bw.a.map bv).c:=by
 apply dZ;intro j;have hs:=Bk.r x;have hm:x.Bw.a.a=6:=by simp
 rw[dA];by_cases hj:j<6
 ·rw[if_pos (by rw[hs];omega),kM,Bk.ase x j hj]
  simp[hj,dW]
 ·rw[if_neg (by rw[hs];omega),aU (by simp;omega)]
theorem alR(a b:Nat)(d:Nat)(W:ak):(jg (d+1) 60 (fv a) (fv b)).G ah W = .Y (Op.floatEq .f64 a b) W:=by
 simp only[fv,jg,jP,dJ Tryz.underlying60,gQ,if_true,oJ]
theorem ai7:ah.k 62=some (.d (ah.fieldsOf 62)):=by
 simp only[jX,oF]
theorem apz:∃f1 f2 f3 f4 f5 f6:oh,(ah.fieldsOf 62).a=[f1,f2,f3,f4,f5,f6]/\(f1.E ≠ "_" /\ f2.E ≠ "_" /\ f3.E ≠ "_" /\ f4.E ≠ "_" /\ f5.E ≠ "_" /\ f6.E ≠ "_") /\
 (f1.p=9/\f1.X=0)/\(f2.p=27/\f2.X=1)/\(f3.p=3/\f3.X=18)/\(f4.p=25/\f4.X=19)/\(f5.p=60/\f5.X=25)/\(f6.p=4/\f6.X=26):=by
 refine⟨_,_,_,_,_,_,by simp only[jX,oF];rfl,⟨?_,?_,?_,?_,?_,?_⟩,⟨rfl,rfl⟩,⟨rfl,rfl⟩,⟨rfl,rfl⟩,⟨rfl,rfl⟩,⟨rfl,rfl⟩,⟨rfl,rfl⟩⟩<;>decide
def alS(x y:Bk):Bool:=(x.E==y.E)&&(decide (x.h=y.h)&&((x.S==y.S)&&(decide (x.Bw=y.Bw)&&(Op.floatEq .f64 x.w y.w&&((x.drain==y.drain)&&true)))))
theorem ai8(x y:Bk)(d:Nat)(W:ak):(jg (d+4) 62 (.d x.ay) (.d y.ay)).G ah W = .Y (alS x y) W:=by
 rw[zN W (d+3) _ _ _ ai7 Tryz.stoodInHeld62];obtain⟨f1,f2,f3,f4,f5,f6,hl,⟨n1,n2,n3,n4,n5,n6⟩,⟨t1,o1⟩,⟨t2,o2⟩,⟨t3,o3⟩,⟨t4,o4⟩,⟨t5,o5⟩,⟨t6,o6⟩⟩:=apz;rw[hl];have p1:∀z:Bk,(part f1.p z.ay f1.X).G ah W = .Y (.g (bP z.E)) W:=fun z=>by
  rw[t1,o1];exact qc (by simp only[iU]) (Bk.nS z) W
 have p2:∀z:Bk,(part f2.p z.ay f2.X).G ah W = .Y (.d z.h.ay) W:=fun z=>by
  rw[t2,o2,EZ (n:=17) (by simp only[fB]) (by kernel_rfl) z.ay 1 W,Bk.apy]
 have p3:∀z:Bk,(part f3.p z.ay f3.X).G ah W = .Y (.b .a z.S) W:=fun z=>by
  rw[t3,o3];exact qc (by simp only[gV]) (Bk.alv z) W
 have p4:∀z:Bk,(part f4.p z.ay f4.X).G ah W = .Y (.d (z.Bw.a.map bv).c) W:=fun z=>by
  rw[t4,o4,EZ (n:=6) (by simp only[FW]) (by kernel_rfl) z.ay 19 W,Bk.ahz]
 have p5:∀z:Bk,(part f5.p z.ay f5.X).G ah W = .Y (fv z.w) W:=fun z=>by
  rw[t5,o5];exact qc (by simp only[Tryz.underlying60]) (Bk.aaz z) W
 have p6:∀z:Bk,(part f6.p z.ay f6.X).G ah W = .Y (.e z.drain) W:=fun z=>by
  rw[t6,o6];exact qc (by simp only[nX]) (Bk.afk z) W
 exact iW _ _ _ _ _ n1 W _ _ _ _ (p1 x) (p1 y) (by rw[t1];exact Qk _ _ _ W)
  (iW _ _ _ _ _ n2 W _ _ _ _ (p2 x) (p2 y) (by rw[t2];exact GI _ _ d W)
  (iW _ _ _ _ _ n3 W _ _ _ _ (p3 x) (p3 y) (by rw[t3];exact Gu _ _ _ W)
  (iW _ _ _ _ _ n4 W _ _ _ _ (p4 x) (p4 y) (by rw[t4];exact Vk _ _ _ W)
  (iW _ _ _ _ _ n5 W _ _ _ _ (p5 x) (p5 y) (by rw[t5];exact alR _ _ _ W)
  (iW _ _ _ _ _ n6 W _ _ _ _ (p6 x) (p6 y) (by rw[t6];exact aav _ _ _ W) (by simp[wK]))))))
@[go_sem ↓]theorem aGH(x y:Bk)(W:ak):(jg 10000 62 (.d x.ay) (.d y.ay)).G ah W = .Y (alS x y) W:=ai8 x y 9996 W
def XZ(m:Vector UInt8 6):Array aB:=(m.a.map bv).c
theorem YG(m:Vector UInt8 6):(XZ m).j=6:=by simp[XZ]
def AZ(v:aB):xI aB:=cK 25 v
@[go_sem ↓]theorem atL(v:aB):cK 25 v=AZ v:=rfl
@[go_sem]theorem aya(W:ak)(b o:Nat)(h:vK W b o 6):(AZ (.c (some ⟨b,o,none⟩))).G ah W = .Y (.d (dO W b o 6)) W:=
 jZ W b o 6 _ _ FW rfl (by kernel_rfl) h
theorem Bk.ada(x:Bk)(j:Nat)(hj:j<6):x.ay[19+j]? = (XZ x.Bw)[j]?:=by
 rw[kM,Bk.ase x j hj];simp[XZ,hj,dW]
@[go_sem]theorem afC(w:ak)(x:Bk)(t:bE):vK (w.alloc (.D x.ay t)) w.a.j 19 6=True:=by
 simp only[eq_iff_iff,iff_true];exact(Ji w x.ay t 19 6 (XZ x.Bw) (YG _) (fun j hj=>Bk.ada x j hj)).1
@[go_sem]theorem Vl(w:ak)(x:Bk)(t:bE):dO (w.alloc (.D x.ay t)) w.a.j 19 6=XZ x.Bw:=
 (Ji w x.ay t 19 6 (XZ x.Bw) (YG _) (fun j hj=>Bk.ada x j hj)).2
@[go_sem ↓]theorem aC6(a b:Vector UInt8 6)(W:ak):(jg 10000 25 (.d (XZ a)) (.d (XZ b))).G ah W = .Y (decide (a=b)) W:=Vk a b 9998 W
@[go_sem]theorem aBo(w:ak)(ob:Obj)(x:Bk)(t:bE):vK ((w.alloc ob).alloc (.D x.ay t)) (w.a.j+1) 0 27=True:=by
 have:=Ms (w.alloc ob) x t
 rwa [show(w.alloc ob).a.j=w.a.j+1 by simp]at this
@[go_sem]theorem asj(w:ak)(ob:Obj)(x:Bk)(t:bE):dO ((w.alloc ob).alloc (.D x.ay t)) (w.a.j+1) 0 27=x.ay:=by
 have:=BU (w.alloc ob) x t
 rwa [show(w.alloc ob).a.j=w.a.j+1 by simp]at this
@[go_sem]theorem awT(w:ak)(ob:Obj)(x:Bk)(t:bE):vK ((w.alloc ob).alloc (.D x.ay t)) (w.a.j+1) 1 17=True:=by
 have:=acP (w.alloc ob) x t
 rwa [show(w.alloc ob).a.j=w.a.j+1 by simp]at this
@[go_sem]theorem ao0(w:ak)(ob:Obj)(x:Bk)(t:bE):dO ((w.alloc ob).alloc (.D x.ay t)) (w.a.j+1) 1 17=x.h.ay:=by
 have:=TM (w.alloc ob) x t
 rwa [show(w.alloc ob).a.j=w.a.j+1 by simp]at this
@[go_sem]theorem ayb(w:ak)(ob:Obj)(x:Bk)(t:bE):vK ((w.alloc ob).alloc (.D x.ay t)) (w.a.j+1) 19 6=True:=by
 have:=afC (w.alloc ob) x t
 rwa [show(w.alloc ob).a.j=w.a.j+1 by simp]at this
@[go_sem]theorem apA(w:ak)(ob:Obj)(x:Bk)(t:bE):dO ((w.alloc ob).alloc (.D x.ay t)) (w.a.j+1) 19 6=XZ x.Bw:=by
 have:=Vl (w.alloc ob) x t
 rwa [show(w.alloc ob).a.j=w.a.j+1 by simp]at this
def Bf(x y:Bk):Bool:=(x.E==y.E)&&decide (x.h=y.h)&&(x.S==y.S)&&decide (x.Bw=y.Bw)&&(x.drain==y.drain)&&decide (BZ x.w=BZ y.w)
theorem adb(x y:Bk)(hx:x.w<18446744073709551616)(hy:y.w<18446744073709551616)(w:ak):
 aP ah 125 #[.d x.ay,.d y.ay] w (fT w (.e (Bf x y))):=by
 have hb0:∀ob tH,aL w.a.j w ((w.alloc ob).alloc tH):=fun ob tH=>((aG _ _).alloc (av _) _).alloc (by simp) _
 have HB0:=ab hb0;clear hb0;have hs:Bf x y=((x.E==y.E)&&decide (x.h=y.h)&&(x.S==y.S)&&decide (x.Bw=y.Bw)&&(x.drain==y.drain)&&decide (BZ x.w=BZ y.w)):=rfl;have HS:=ab hs;clear hs;cases k1:x.E==y.E
 ·go_enter Dj,Av
  go_wp2;go_ret;exact⟨by rw[HS.i,k1];rfl,HB0.i _ _⟩
 cases k2:decide (x.h=y.h)
 ·go_enter Dj,Av
  go_wp2;go_ret;exact⟨by rw[HS.i,k1,k2];rfl,HB0.i _ _⟩
 cases k3:x.S==y.S
 ·go_enter Dj,Av
  go_wp2;go_ret;exact⟨by rw[HS.i,k1,k2,k3];rfl,HB0.i _ _⟩
 cases k4:decide (x.Bw=y.Bw)
 ·go_enter Dj,Av
  go_wp2;go_ret;exact⟨by rw[HS.i,k1,k2,k3,k4];rfl,HB0.i _ _⟩
 cases k5:x.drain==y.drain
 ·go_enter Dj,Av
  go_wp2;go_ret;exact⟨by rw[HS.i,k1,k2,k3,k4,k5];rfl,HB0.i _ _⟩
 go_enter Dj,Av;go_wp2_with (go_at_call 199;refine(ac5 _ _ hx hy _).e ?_;rintro e w' ⟨rfl,hb1⟩;have HB1:=ab hb1;clear hb1);go_ret;exact⟨by rw[HS.i,k1,k2,k3,k4,k5];rfl,(HB0.i _ _).trans (HB1.i.e (by simp;omega))⟩
def Bk.Qd(x:Bk)(v:Nat):Bk:={x with w:=v}
def Bk.toD(x:Bk)(d:Bool):Bk:={x with drain:=d}
@[go_sem]theorem Bk.ayc(x:Bk)(v:Nat):x.ay.c 25 (.float .f64 v)=(x.Qd v).ay:=by
 apply pQ;simp[Bk.ay,Bk.Qd,List.set_append,fv]
@[go_sem]theorem Bk.asl(x:Bk)(d:Bool):x.ay.c 26 (.e d)=(x.toD d).ay:=by
 apply pQ;simp[Bk.ay,Bk.toD,List.set_append]
@[go_sem]theorem asn{P:eD}{w:ak}{a:aT}{m:Mode}(k:FloatKind)(n:Nat):(store a (.float k n) m).G P w=stored P w a (.float k n) m:=run_store P w a _ m rfl
def Sj(x y:Bk):Bool:=Fb x.w y.w&&alS (x.Qd 0) (y.Qd 0)
theorem ai9(x y:Bk)(w:ak):
 aP ah 124 #[.d x.ay,.d y.ay] w (fT w (.e (Sj x y))):=by
 have hb0:∀ob tH,aL w.a.j w ((w.alloc ob).alloc tH):=fun ob tH=>((aG _ _).alloc (av _) _).alloc (by simp) _
 have HB0:=ab hb0;clear hb0;have hs:Sj x y=(Fb x.w y.w&&alS (x.Qd 0) (y.Qd 0)):=rfl;have HS:=ab hs;clear hs;have qy:∀K,Fb x.w y.w=K->∀W,aP ah 112 #[.float .f64 x.w,.float .f64 y.w] W fun e w'=>e=.a (.e K)/\W=w':=fun K h W=>by
  have:=acY x.w y.w W;rw[h]at this;exact this
 cases k:Fb x.w y.w
 ·have HK:=ab k
  have Uu:=ab (qy _ k);clear k qy;go_enter Tryz.func124,Tryz.ntmps124;go_wp2_with (go_at_call 112;refine(Uu.i _).e ?_;rintro e w' ⟨rfl,rfl⟩);go_ret;exact⟨by rw[HS.i,HK.i];rfl,HB0.i _ _⟩
 ·have HK:=ab k
  have Uu:=ab (qy _ k);clear k qy;go_enter Tryz.func124,Tryz.ntmps124;go_wp2_with (go_at_call 112;refine(Uu.i _).e ?_;rintro e w' ⟨rfl,rfl⟩);go_ret;exact⟨by rw[HS.i,HK.i];rfl,HB0.i _ _⟩
theorem DN(l:List Bk):∀u∈dK l,u.h=true:=by
 intro u hu;obtain⟨x,_,hx⟩:=List.mem_flatMap.1 hu;exact gG.1 (Bk.dw x) u (by simpa using hx)
theorem Qq:∃i:nW,ah.l 62=some i/\i.zero=some (.d iO.ay)/\i.j=27/\i.bytes<=200:=by
 cases h:ah.l 62 with
 | none=>exact absurd h (by have:(ah.l 62).isSome=true:=by kernel_rfl
                            intro e;rw[e]at this;cases this)
 | some i=>
   have h1:(ah.l 62).map (·.j)=some 27:=by kernel_rfl
   have h2:(ah.l 62).map (fun i=>decide (i.bytes<=200))=some true:=by kernel_rfl
   have h3:(ah.l 62).map (·.zero)=some (some (.d iO.ay)):=by kernel_rfl
   rw[h]at h1 h2 h3;simp at h1 h2 h3;exact⟨i,rfl,h3,h1,h2⟩
def vg(n:Int):Int:=if n<1 then 1 else if 100<n then 100 else n
theorem YH(n:Int):1<=vg n/\vg n<=100:=by unfold vg;split<;>(try split)<;>omega
theorem YI(n:Int)(w:ak):aP ah 216 #[.b .a n] w fun e w'=>e=.a (.b .a (vg n))/\w=w':=by
 rcases(show n<1\/(1<=n/\n<=100)\/100<n by omega)with h|⟨h1,h2⟩|h
 ·have hb:=ab (show vg n=1 by simp[vg,h])
  go_enter Tryz.func216,Tryz.ntmps216;go_wp2;go_ret;exact⟨by rw[hb.i];rfl,rfl⟩
 ·have hb:=ab (show vg n=n by unfold vg;rw[if_neg (by omega),if_neg (by omega)])
  go_enter Tryz.func216,Tryz.ntmps216;go_wp2;go_ret;exact⟨by rw[hb.i];rfl,rfl⟩
 ·have hb:=ab (show vg n=100 by unfold vg;rw[if_neg (by omega),if_pos h])
  go_enter Tryz.func216,Tryz.ntmps216;go_wp2;go_ret;exact⟨by rw[hb.i];rfl,rfl⟩
def vk(h:Hl)(well:Bool)(kF fall:Int):Hl×Bool:=
 if well != h.down then({h with G:=0},false)
 else if vg (if h.down then kF else fall)-1<=max h.G 0 then(⟨h.E,!h.down,0⟩,true)
 else({h with G:=max h.G 0+1},false)
def aso(w:ak)(r:Hl×Bool)(e:lU)(w':ak):Prop:=e=.a (.I #[.d r.1.ay,.e r.2])/\aL w.a.j w w'
theorem wL{w W:ak}{x:Hl}{r:Bool}{h:Hl}{well:Bool}{kF fall:Int}(hs:vk h well kF fall=(x,r))(hb:aL w.a.j w W):
 aso w (vk h well kF fall) (.a (.I #[.d x.ay,.e r])) W:=by rw[hs];exact⟨rfl,hb⟩
theorem Uv{h:Hl}{well:Bool}{kF fall k m:Int}(hw:well=h.down)(hk:vg (if h.down then kF else fall)=k)(hm:max h.G 0=m)(hle:k-1<=m):vk h well kF fall=(⟨h.E,!h.down,0⟩,true):=by
 unfold vk;rw[if_neg (by simp[hw]),hk,hm,if_pos hle]
theorem Uw{h:Hl}{well:Bool}{kF fall k m:Int}(hw:well=h.down)(hk:vg (if h.down then kF else fall)=k)(hm:max h.G 0=m)(hlt:m<k-1):vk h well kF fall=(⟨h.E,h.down,m+1⟩,false):=by
 unfold vk;rw[if_neg (by simp[hw]),hk,hm,if_neg (by omega)]
theorem Mx{w W1:ak}{nm:List UInt8}{dn:Bool}{rn:Int}(b1:dM W1 w.a.j (Hl.mk nm dn rn).ay)(b2:dM W1 (w.a.j+1) kQ.ay)(hb:aL w.a.j w W1)(v:Int):
 dM (W1.F ⟨w.a.j,2,none⟩ (.b .a v)) w.a.j (Hl.mk nm dn v).ay/\dM (W1.F ⟨w.a.j,2,none⟩ (.b .a v)) (w.a.j+1) kQ.ay/\Hid (aL w.a.j w (U9 (W1.F ⟨w.a.j,2,none⟩ (.b .a v)) (w.a.j+1) 0 (Hl.mk nm dn v)))/\Hid (dM (U9 (W1.F ⟨w.a.j,2,none⟩ (.b .a v)) (w.a.j+1) 0 (Hl.mk nm dn v)) (w.a.j+1) (Hl.mk nm dn v).ay):=by
 have c2:dM (W1.F ⟨w.a.j,2,none⟩ (.b .a v)) (w.a.j+1) kQ.ay:=b2.dP ⟨w.a.j,2,none⟩ (.b .a v) (by simp);exact⟨b1.eX 2 (.b .a v),c2,RZ (hb.F (p:=⟨w.a.j,2,none⟩) (av _) (.b .a v)) (w.a.j+1) 0 (Hl.mk nm dn v) (by omega),c2.ax0 (Hl.r _) (Hl.mk nm dn v)⟩
theorem Ux{w W1:ak}{nm:List UInt8}{dn:Bool}{rn:Int}(b1:dM W1 w.a.j (Hl.mk nm dn rn).ay)(b2:dM W1 (w.a.j+1) kQ.ay)(hb:aL w.a.j w W1)(d:Bool):
 dM ((W1.F ⟨w.a.j,1,none⟩ (.e d)).F ⟨w.a.j,2,none⟩ (.b .a 0)) w.a.j (Hl.mk nm d 0).ay/\dM ((W1.F ⟨w.a.j,1,none⟩ (.e d)).F ⟨w.a.j,2,none⟩ (.b .a 0)) (w.a.j+1) kQ.ay/\Hid (aL w.a.j w (U9 ((W1.F ⟨w.a.j,1,none⟩ (.e d)).F ⟨w.a.j,2,none⟩ (.b .a 0)) (w.a.j+1) 0 (Hl.mk nm d 0)))/\Hid (dM (U9 ((W1.F ⟨w.a.j,1,none⟩ (.e d)).F ⟨w.a.j,2,none⟩ (.b .a 0)) (w.a.j+1) 0 (Hl.mk nm d 0)) (w.a.j+1) (Hl.mk nm d 0).ay):=
 Mx (b1.eX 1 (.e d)) (b2.dP ⟨w.a.j,1,none⟩ (.e d) (by simp)) (hb.F (p:=⟨w.a.j,1,none⟩) (av _) (.e d)) 0
theorem alT(h:Hl)(well:Bool)(kF fall:Int)(w:ak)(hh : -9223372036854775808<=h.G/\h.G<=9223372036854775807):
 aP ah 149 #[.d h.ay,.e well,.b .a kF,.b .a fall] w (aso w (vk h well kF fall)):=by
 obtain⟨nm,dn,rn⟩:=h;obtain⟨hh1,hh2⟩:=hh;have B1:=ab (fun(ob:Obj)=>(dM.new w (Hl.mk nm dn rn).ay 100).alloc ob);have B2:=ab (fun(ob:Obj)=>dM.TJ w ob kQ.ay 100);have HB:=ab (fun(ob tH:Obj)=>((aG w.a.j w).alloc (av _) ob).alloc (by simp) tH);go_enter Tryz.func149,Tryz.ntmps149;go_wp2_with fail;refine(YI _ _).e ?_;rintro e wz ⟨rfl,rfl⟩;have B1:=ab (B1.i (.D kQ.ay 100));have B2:=ab (B2.i (.D (Hl.mk nm dn rn).ay 100));have HB:=ab (HB.i (.D (Hl.mk nm dn rn).ay 100) (.D kQ.ay 100));obtain⟨W1,hW1⟩:=bZ ((w.alloc (.D (Hl.mk nm dn rn).ay 100)).alloc (.D kQ.ay 100));rw[<-hW1]at B1 B2 HB ⊢;clear hW1;obtain⟨x1,x2,x3,x4⟩:=B1.i.J;have l1:=B1.i.lt;have l2:=B2.i.lt;cases dn
 ·have kb:=YH fall
  obtain⟨k,hk⟩:=rT (vg fall);rw[hk]at kb ⊢;have HK:=ab hk;clear hk;obtain⟨kb1,kb2⟩:=kb;cases well
  ·rcases wR rn 0 with hrn|hrn
   ·have HM:=ab (show max rn 0=0 by omega)
    rcases wR (0:Int) (k-1)with hlt|hle
    ·have hne:decide (k-1<=0)=false:=by simp;omega
     obtain⟨c1,c2,Sk,CF⟩:=Mx B1.i B2.i HB.i (1);obtain⟨y1,y2,y3,y4⟩:=c1.J;have th:=c2.K 0 3 (by rw[Hl.r];omega);clear c1 c2;have hs:=ab (Uw (h:=⟨nm,false,rn⟩) (well:=false) (kF:=kF) (fall:=fall) rfl HK.i HM.i hlt);go_wp2_with fail;refine aN (Eu rfl _ _ _ _ rfl (by rw[CF.i.J.2.2.1 0 3 (av _)];trivial)) rfl ?_;rw[CF.i.J.2.2.2 0 3 (av _),Hl.kD];exact wL hs.i Sk.i
    ·have hye:decide (k-1<=0)=true:=by simp;omega
     obtain⟨c1,c2,Sk,CF⟩:=Ux B1.i B2.i HB.i true;obtain⟨y1,y2,y3,y4⟩:=c1.J;have th:=c2.K 0 3 (by rw[Hl.r];omega);obtain⟨z1,z2,z3,z4⟩:=(B1.i.eX 1 (.e true)).J;clear c1 c2;have hs:=ab (Uv (h:=⟨nm,false,rn⟩) (well:=false) (kF:=kF) (fall:=fall) rfl HK.i HM.i hle);go_wp2_with fail;refine aN (Eu rfl _ _ _ _ rfl (by rw[CF.i.J.2.2.1 0 3 (av _)];trivial)) rfl ?_;rw[CF.i.J.2.2.2 0 3 (av _),Hl.kD];exact wL hs.i Sk.i
   ·have HM:=ab (show max rn 0=rn by omega)
    rcases wR rn (k-1)with hlt|hle
    ·have hne:decide (k-1<=rn)=false:=by simp;omega
     obtain⟨c1,c2,Sk,CF⟩:=Mx B1.i B2.i HB.i (rn+1);obtain⟨y1,y2,y3,y4⟩:=c1.J;have th:=c2.K 0 3 (by rw[Hl.r];omega);clear c1 c2;have hs:=ab (Uw (h:=⟨nm,false,rn⟩) (well:=false) (kF:=kF) (fall:=fall) rfl HK.i HM.i hlt);go_wp2_with fail;refine aN (Eu rfl _ _ _ _ rfl (by rw[CF.i.J.2.2.1 0 3 (av _)];trivial)) rfl ?_;rw[CF.i.J.2.2.2 0 3 (av _),Hl.kD];exact wL hs.i Sk.i
    ·have hye:decide (k-1<=rn)=true:=by simp;omega
     obtain⟨c1,c2,Sk,CF⟩:=Ux B1.i B2.i HB.i true;obtain⟨y1,y2,y3,y4⟩:=c1.J;have th:=c2.K 0 3 (by rw[Hl.r];omega);obtain⟨z1,z2,z3,z4⟩:=(B1.i.eX 1 (.e true)).J;clear c1 c2;have hs:=ab (Uv (h:=⟨nm,false,rn⟩) (well:=false) (kF:=kF) (fall:=fall) rfl HK.i HM.i hle);go_wp2_with fail;refine aN (Eu rfl _ _ _ _ rfl (by rw[CF.i.J.2.2.1 0 3 (av _)];trivial)) rfl ?_;rw[CF.i.J.2.2.2 0 3 (av _),Hl.kD];exact wL hs.i Sk.i
  ·have hbn:((true:Bool) != false)=true:=rfl
   rcases wR rn 0 with hrn|hrn
   all_goals
    skip;obtain⟨c1,c2,Sk,CF⟩:=Mx B1.i B2.i HB.i 0;obtain⟨y1,y2,y3,y4⟩:=c1.J;have th:=c2.K 0 3 (by rw[Hl.r];omega);clear c1 c2;have hs:=ab (show vk ⟨nm,false,rn⟩ true kF fall=(⟨nm,false,0⟩,false)from rfl);go_wp2_with fail;refine aN (Eu rfl _ _ _ _ rfl (by rw[CF.i.J.2.2.1 0 3 (av _)];trivial)) rfl ?_;rw[CF.i.J.2.2.2 0 3 (av _),Hl.kD];exact wL hs.i Sk.i
 ·have kb:=YH kF
  obtain⟨k,hk⟩:=rT (vg kF);go_wp2_with fail;refine(YI _ _).e ?_;rintro e wz ⟨rfl,rfl⟩;rw[hk]at kb ⊢;have HK:=ab hk;clear hk;obtain⟨kb1,kb2⟩:=kb;cases well
  ·have hbn:((false:Bool) != true)=true:=rfl
   rcases wR rn 0 with hrn|hrn
   all_goals
    skip;obtain⟨c1,c2,Sk,CF⟩:=Mx B1.i B2.i HB.i 0;obtain⟨y1,y2,y3,y4⟩:=c1.J;have th:=c2.K 0 3 (by rw[Hl.r];omega);clear c1 c2;have hs:=ab (show vk ⟨nm,true,rn⟩ false kF fall=(⟨nm,true,0⟩,false)from rfl);go_wp2_with fail;refine aN (Eu rfl _ _ _ _ rfl (by rw[CF.i.J.2.2.1 0 3 (av _)];trivial)) rfl ?_;rw[CF.i.J.2.2.2 0 3 (av _),Hl.kD];exact wL hs.i Sk.i
  ·rcases wR rn 0 with hrn|hrn
   ·have HM:=ab (show max rn 0=0 by omega)
    rcases wR (0:Int) (k-1)with hlt|hle
    ·have hne:decide (k-1<=0)=false:=by simp;omega
     obtain⟨c1,c2,Sk,CF⟩:=Mx B1.i B2.i HB.i (1);obtain⟨y1,y2,y3,y4⟩:=c1.J;have th:=c2.K 0 3 (by rw[Hl.r];omega);clear c1 c2;have hs:=ab (Uw (h:=⟨nm,true,rn⟩) (well:=true) (kF:=kF) (fall:=fall) rfl HK.i HM.i hlt);go_wp2_with fail;refine aN (Eu rfl _ _ _ _ rfl (by rw[CF.i.J.2.2.1 0 3 (av _)];trivial)) rfl ?_;rw[CF.i.J.2.2.2 0 3 (av _),Hl.kD];exact wL hs.i Sk.i
    ·have hye:decide (k-1<=0)=true:=by simp;omega
     obtain⟨c1,c2,Sk,CF⟩:=Ux B1.i B2.i HB.i false;obtain⟨y1,y2,y3,y4⟩:=c1.J;have th:=c2.K 0 3 (by rw[Hl.r];omega);obtain⟨z1,z2,z3,z4⟩:=(B1.i.eX 1 (.e false)).J;clear c1 c2;have hs:=ab (Uv (h:=⟨nm,true,rn⟩) (well:=true) (kF:=kF) (fall:=fall) rfl HK.i HM.i hle);go_wp2_with fail;refine aN (Eu rfl _ _ _ _ rfl (by rw[CF.i.J.2.2.1 0 3 (av _)];trivial)) rfl ?_;rw[CF.i.J.2.2.2 0 3 (av _),Hl.kD];exact wL hs.i Sk.i
   ·have HM:=ab (show max rn 0=rn by omega)
    rcases wR rn (k-1)with hlt|hle
    ·have hne:decide (k-1<=rn)=false:=by simp;omega
     obtain⟨c1,c2,Sk,CF⟩:=Mx B1.i B2.i HB.i (rn+1);obtain⟨y1,y2,y3,y4⟩:=c1.J;have th:=c2.K 0 3 (by rw[Hl.r];omega);clear c1 c2;have hs:=ab (Uw (h:=⟨nm,true,rn⟩) (well:=true) (kF:=kF) (fall:=fall) rfl HK.i HM.i hlt);go_wp2_with fail;refine aN (Eu rfl _ _ _ _ rfl (by rw[CF.i.J.2.2.1 0 3 (av _)];trivial)) rfl ?_;rw[CF.i.J.2.2.2 0 3 (av _),Hl.kD];exact wL hs.i Sk.i
    ·have hye:decide (k-1<=rn)=true:=by simp;omega
     obtain⟨c1,c2,Sk,CF⟩:=Ux B1.i B2.i HB.i false;obtain⟨y1,y2,y3,y4⟩:=c1.J;have th:=c2.K 0 3 (by rw[Hl.r];omega);obtain⟨z1,z2,z3,z4⟩:=(B1.i.eX 1 (.e false)).J;clear c1 c2;have hs:=ab (Uv (h:=⟨nm,true,rn⟩) (well:=true) (kF:=kF) (fall:=fall) rfl HK.i HM.i hle);go_wp2_with fail;refine aN (Eu rfl _ _ _ _ rfl (by rw[CF.i.J.2.2.1 0 3 (av _)];trivial)) rfl ?_;rw[CF.i.J.2.2.2 0 3 (av _),Hl.kD];exact wL hs.i Sk.i
abbrev RdH:=iE Hl.ay 3
theorem iE.hl{W:ak}{B n:Nat}{A:Option aT}{l:List Hl}{k:Nat}(h:RdH W B A n l)(hk:k<n):∃b o,A=some ⟨b,o,none⟩/\b<B/\vK W b (o+k*3) 3/\dO W b (o+k*3) 3=(l.b k kQ).ay /\
 W.b ⟨b,o+k*3,none⟩=some (.g (bP (l.b k kQ).E))/\W.b ⟨b,o+k*3+1,none⟩=some (.e (l.b k kQ).down):=by
 obtain⟨b,o,hA,hb,hc⟩:=iE.cell Hl.r kQ h hk;obtain⟨h1,h2⟩:=uX (Hl.r _) hc;exact⟨b,o,hA,hb,h1,h2,by have:=hc 0 (by omega);rw[mW]at this;exact this,hc 1 (by omega)⟩
theorem vK.M{w W:ak}{b o k B:Nat}(h:vK w b o k)(hb:aL B w W)(hlt:b<B):vK W b o k:=fun j hj=>by
 obtain⟨u,hu⟩:=h j hj;exact⟨u,by rw[hb.cell hlt];exact hu⟩
theorem LU{w W:ak}{b o k B:Nat}(hb:aL B w W)(hlt:b<B):dO W b o k=dO w b o k:=BM fun j _=>hb.cell hlt
def Ya(ls:List (List UInt8)):Bool:=decide (ls.a<=50)&&(bY ls.a).all (fun i=>decide ((ls.b i []).a<=60))
theorem apB{ls:List (List UInt8)}(h:Ya ls=true):ls.a<=50:=by unfold Ya at h;simp at h;exact h.1
def yt(l:List Hl):List (List UInt8):=l.map (·.E)
theorem Vm(l:List Hl):(yt l).a=l.a:=by simp[yt]
theorem afE(l:List Hl)(i:Nat):(yt l).b i []=(l.b i kQ).E:=by
 unfold yt;rw[au,au,iy];cases l[i]? <;> rfl
theorem apC(l:List Hl)(A:Option aT)(n c:Nat)(w:ak)(hR:RdH w w.a.j A n l)(hn:n<=9223372036854775807):
 aP ah 42 #[.a A n c] w fun e w'=>e=.a (.e (Ya (yt l)))/\w=w':=by
 have HR:=ab hR;have HN:=ab hR.1;clear hR;have HFW:=ab (show Ya (yt l)=(decide (n<=50)&&(bY n).all (fun i=>decide (((yt l).b i []).a<=60)))by unfold Ya;rw[Vm,HN.i]);go_enter Tryz.func42,Tryz.ntmps42;go_wp2;go_loop [3] (fun s3=>∃i:Nat,i<=n/\i<=60/\s3=.b .a i/\∀k,k<i->((yt l).b k []).a<=60) (fun s3=>n-(intOf s3).g)
 case atStart=>exact⟨0,by omega,by omega,rfl,fun k hk=>by omega⟩
 case round=>
  obtain⟨i,hin,ayd,rfl,hall⟩:=hrel;have HA:=ab hall;clear hall;by_cases hlt:i<n
  ·have hi:(i:Int)<n:=by omega
   by_cases h6:i<60
   ·have hi6:(i:Int)<60:=by omega
    obtain⟨b,o,rfl,hbb,hh,hcl,hc,_⟩:=HR.i.hl hlt;clear hbb;obtain⟨pn,hp⟩:=bZ ((yt l).b i []);rw[<-afE,<-hp]at hc;have HP:=ab hp;clear hp;by_cases hq:pn.a<=60
    ·have hq1:(pn.a:Int)<=60:=by omega
     go_wp2;go_round
     case rel=>exact⟨i+1,by omega,by omega,by go_num,fun k hk=>by
      by_cases hki:k=i
      ·rw[hki,<-HP.i];exact hq
      ·exact HA.i k (by omega)⟩
     case measure=>simp[intOf]<;>omega
    ·have hq1:¬(pn.a:Int)<=60:=by omega
     have hq2:(60:Int)<pn.a:=by omega
     have HF:=ab (show Ya (yt l)=false by rw[HFW.i,ji _ i _ hlt (by rw[<-HP.i];simpa using hq)];simp);go_wp2;go_ret;exact⟨by rw[HF.i];rfl,rfl⟩
   ·have hd:decide ((i:Int)<60)=false:=by simp;omega
    have HF:=ab (show Ya (yt l)=decide ((n:Int)<=50)by
     rw[HFW.i,show decide (n<=50)=false from decide_eq_false (by omega),show decide ((n:Int)<=50)=false from decide_eq_false (by omega)];rfl)
    go_wp2;go_ret;exact⟨by rw[HF.i];rfl,rfl⟩
  ·obtain rfl:i=n:=by omega
   have hd:decide ((i:Int)<i)=false:=by simp
   have HF:=ab (show Ya (yt l)=decide ((i:Int)<=50)by
    rw[HFW.i,fM.2 (fun k hk=>decide_eq_true (HA.i k (dV.1 hk))),Bool.and_true];rw[decide_eq_decide];omega)
   go_wp2;go_ret;exact⟨by rw[HF.i];rfl,rfl⟩
def zT(l:List Hl)(s:List UInt8):Int:=match l.findIdx? (fun x=>x.E==s)with|some i=>(i:Nat)|none=>-1
theorem apD{l:List Hl}{s:List UInt8}{i:Nat}(hi:i<l.a)(h:(l.b i kQ).E=s)(hno:∀k,k<i->(l.b k kQ).E≠s):zT l s=i:=by
 have:l.findIdx? (fun x=>x.E==s)=some i:=by
  rw[gZ];refine⟨hi,?_,fun j hj=>?_⟩
  ·rw[au,aC hi]at h
   simpa using h
  ·have:=hno j hj
   rw[au,aC (by omega)]at this;simpa using this
 unfold zT;rw[this]
theorem apE{l:List Hl}{s:List UInt8}(hno:∀k,k<l.a->(l.b k kQ).E≠s):zT l s = -1:=by
 have:l.findIdx? (fun x=>x.E==s)=none:=by
  rw[List.findIdx?_eq_none_iff];intro x hx;obtain⟨k,hk,rfl⟩:=List.getElem_of_mem hx;have:=hno k hk;rw[au,aC hk]at this;simpa using this
 unfold zT;rw[this]
theorem apF(l:List Hl)(s:List UInt8):zT l s<l.a:=by
 unfold zT;split
 ·rename_i i h
  have:=(gZ.1 h).1;omega
 ·omega
theorem afG(l:List Hl)(s:List UInt8):zT l s = -1\/∃i:Nat,zT l s=i/\i<l.a:=by
 have:=apF l s;unfold zT at this ⊢;split
 ·rename_i i h;rw[h]at this;exact .b ⟨i,rfl,by simpa using this⟩
 ·exact .a rfl
theorem ai'(l m:List Hl)(A B:Option aT)(n k c d:Nat)(w:ak)(hR:RdH w w.a.j A n l)(hT:RdH w w.a.j B k m)(hn:n<=4611686018427387904)(hk:k<=4611686018427387904):
 aP ah 57 #[.a A n c,.a B k d] w (fT w (.e (decide (l=m)))):=by
 have HR:=ab hR;have HT:=ab hT;have HN:=ab hR.1;have HK:=ab hT.1;clear hR hT;by_cases hlm:n=k;rotate_left
 ·have hne:((n:Int) != (k:Int))=true:=by rw[bne_iff_ne];omega
  have HF:=ab (show decide (l=m)=false from decide_eq_false (fun e=>hlm (by rw[<-HN.i,<-HK.i,e])));clear hlm;go_enter Tryz.func57,Tryz.ntmps57;go_wp2;go_ret;exact⟨by rw[HF.i];rfl,aG _ _⟩
 subst hlm;have hbn:((n:Int) != (n:Int))=false:=by simp
 go_enter Tryz.func57,Tryz.ntmps57;go_wp2;go_loopw [5] (fun s5 wr=>∃i:Nat,i<=n/\s5=.b .a i/\l.d i=m.d i/\aL w.a.j w wr) (fun s5 _=>n-(intOf s5).g)
 case atStart=>exact⟨0,by omega,rfl,rfl,aG _ _⟩
 case round=>
  obtain⟨i,hin,rfl,hall,hb⟩:=hrel;have HA:=ab hall;have HB:=ab hb;clear hall hb;by_cases hlt:i<n
  ·have hi:(i:Int)<n:=by omega
   obtain⟨b,o,rfl,hbb,hh,hc,_,_⟩:=(HR.i.M HB.i).hl hlt;obtain⟨b2,o2,rfl,NR,hh2,hc2,_,_⟩:=(HT.i.M HB.i).hl hlt;obtain⟨x,hx⟩:=bZ (l.b i kQ);obtain⟨y,hy⟩:=bZ (m.b i kQ);rw[<-hx]at hc;rw[<-hy]at hc2;have HX:=ab hx;have HY:=ab hy;clear hx hy hbb NR;by_cases hq:x=y
   ·have he:acO x y=true:=by rw[Us];simpa using hq
    have HS:=ab (show l.d (i+1)=m.d (i+1)by
     rw[<-lY kQ l i (by rw[HN.i];exact hlt),<-lY kQ m i (by rw[HK.i];exact hlt),HA.i,<-HX.i,<-HY.i,hq])
    clear hq;go_wp2;go_quiet (fail);go_wp2;go_roundw
    case rel=>exact⟨i+1,by omega,by go_num,HS.i,eH HB.i _⟩
    case measure=>simp[intOf]<;>omega
   ·have he:acO x y=false:=by rw[Us];simpa using hq
    have HF:=ab (show decide (l=m)=false from decide_eq_false (fun e=>hq (by rw[HX.i,HY.i,e])));clear hq;go_wp2;go_quiet (fail);go_wp2;go_ret;exact⟨by rw[HF.i];rfl,eH HB.i _⟩
  ·obtain rfl:i=n:=by omega
   have hd:decide ((i:Int)<i)=false:=by simp
   have HT2:=ab (show decide (l=m)=true from decide_eq_true (by
    have:=HA.i
    rwa [aJ (by rw[HN.i];omega),aJ (by rw[HK.i];omega)]at this))
   go_wp2;go_ret;exact⟨by rw[HT2.i];rfl,HB.i⟩
section
variable {P:eD}
theorem LV(w:ak)(dT sT ty elem:bE)(size g o dLen dCap:Nat)(a:aT)(sLen sCap:Nat)(cur:Array aB)(t:bE)(cs:List aB)(m:Nat)
 (hu:P.k dT=some (.a elem)) (hs:(P.l elem).map (·.j)=some size)
 (hg:w.a[g]? = some (.D cur t (0,0))) (hm:m=qI sLen dLen) (hn:cs.a=m*size)
 (hsrc:∀j v,cs[j]? = some v->w.b (a.add j)=some v) (hfit:o+cs.a<=cur.j) (h1:∀v∈cs,v.h=true) :
 (qR #[dT,sT] ty #[.a (some ⟨g,o,none⟩) dLen dCap,.a (some a) sLen sCap]).G P w =
  .Y (goInt m) (w.setRow g (splice cur.a o cs).c):=by
 have hl:=run_loadCells_list (P:=P) w a cs hsrc;have hst:=run_storeCells_at P g o t cs 0 cur w hg (by simpa using hfit) h1;cases hq:P.l elem with
 | none=>simp[hq]at hs
 | some i=>
   have hi:i.j=size:=by simpa[hq]using hs
   subst hm;simp[qR,dJ hu,Builtin.lenOf,uo,sizeOf,typeInfo,hq,hi,<-hn,hl,hst,splice]
theorem Fg{w:ak}{ops:Array iM}{rest:List iM}{o:iM}{a:qG}{Q:yP->qG->ak->Prop}(hgd:o.guard=none)(d s:qj)(dT sT:bE)
 (ho:o.op=.call {callee:=.builtin .copy,args:=#[d,s],argTypes:=#[dT,sT]}) (elem:bE) (size:Nat) (hu:P.k dT=some (.a elem)) (hsz:(P.l elem).map (·.j)=some size)
 (g off dLen dCap:Nat) (ad:aT) (sLen sCap:Nat) (hd:a.eval d=.a (some ⟨g,off,none⟩) dLen dCap) (hs:a.eval s=.a (some ad) sLen sCap)
 (cur:Array aB) (t:bE) (hg:w.a[g]? = some (.D cur t (0,0))) (cs:List aB) (m:Nat) (hm:m=qI sLen dLen) (hn:cs.a=m*size)
 (hsrc:∀j v,cs[j]? = some v->w.b (ad.add j)=some v) (hfit:off+cs.a<=cur.j) (h1:∀v∈cs,v.h=true)
 (h:∀w',w'=w.setRow g (splice cur.a off cs).c->wpList P ops Q rest (a.put o.S (goInt m)) w'):wpList P ops Q (o::rest) a w:=by
 refine tL hgd fun K hK=>?_
 have hrun:=LV (P:=P) w dT sT o.p elem size g off dLen dCap ad sLen sCap cur t cs m hu hsz hg hm hn hsrc hfit h1;unfold nG;simp[execOp,ho,resolve,invoke,builtin,hd,hs,hrun,iK];exact hK _ _ (h _ rfl)
theorem Jr{ops:Array iM}{o:iM}{a:qG}{w:ak}{K:qG->ak->Prop}{Q:yP->qG->ak->Prop}{E:Prop}(hgd:o.guard=none)(d s:qj)(dT sT:bE)
 (ho:o.op=.call {callee:=.builtin .copy,args:=#[d,s],argTypes:=#[dT,sT]}) (elem:bE) (size:Nat) (hu:P.k dT=some (.a elem)) (hsz:(P.l elem).map (·.j)=some size)
 (g off dLen dCap:Nat) (ad:aT) (sLen sCap:Nat) (hd:a.eval d=.a (some ⟨g,off,none⟩) dLen dCap) (hs:a.eval s=.a (some ad) sLen sCap)
 (cur:Array aB) (t:bE) (hg:w.a[g]? = some (.D cur t (0,0))) (cs:List aB) (m:Nat) (hm:m=qI sLen dLen) (hn:cs.a=m*size)
 (hsrc:∀j v,cs[j]? = some v->w.b (ad.add j)=some v) (hfit:off+cs.a<=cur.j) (h1:∀v∈cs,v.h=true)
 (h:∀w',w'=w.setRow g (splice cur.a off cs).c->K (a.put o.S (goInt m)) w') :
 if fq o (yielded ops a.tmps)=true then nG P o a w K Q else E:=by
 have hw:fq o (yielded ops a.tmps)=true:=by simp[fq,hgd]
 rw[if_pos hw];have hrun:=LV (P:=P) w dT sT o.p elem size g off dLen dCap ad sLen sCap cur t cs m hu hsz hg hm hn hsrc hfit h1;unfold nG;simp[execOp,ho,resolve,invoke,builtin,hd,hs,hrun,iK];exact h _ rfl
theorem Qr{w:ak}{ops:Array iM}{rest:List iM}{o:iM}{a:qG}{Q:yP->qG->ak->Prop}(hgd:o.guard=none)(s x:qj)(t tn:bE)
 (ho:o.op=.call {callee:=.builtin .append,args:=#[s,x],argTypes:=#[t,tn]}) (e:bE) (i:nW) (z:aB) (size:Nat) (kq kn:IntKind) (ht:P.k t=some (.a e)) (htn:P.k tn=some (.b kn)) (hi:P.l e=some i) (hz:i.zero=some z)
 (hsize:i.j=size) (hzs:z.D.j=size)
 (ad:aT) (sLen sCap:Nat) (hs:a.eval s=.a (some ad) sLen sCap) (k:Nat) (hx:a.eval x=.b kq k)
 (olds:List aB) (hlo:olds.a=sLen*size) (hold:∀j u,olds[j]? = some u->w.b (ad.add j)=some u)
 (h0:0<k) (hsz:0<size) (hg:sCap<sLen+k) (h63:sLen+k<=maxLen) (hb:(sLen+k)*i.bytes<=140737488355328)
 (h:∀c' cur w',sLen+k<=c'->c'<=maxLen->cur.j=c'*size->cur.a.d (sLen*size)=olds->w'.a[w.a.j]? = some (.D cur e (0,0))->aL w.a.j w w' ->
  wpList P ops Q rest (a.put o.S (.a (some ⟨w.a.j,0,none⟩) (sLen+k) c')) w'):wpList P ops Q (o::rest) a w:=by
 subst hsize;refine tL hgd fun K hK=>?_
 have hl:(uo i.j sLen (.a (some ad) sLen sCap)).G P w.drew = .Y olds.c w.drew:=by
  have:=run_loadCells_list (P:=P) w.drew ad olds (fun j v hj=>by simpa using hold j v hj);rw[hlo]at this;simpa[uo]using this
 have h63':((sLen+k:Nat):Int)<=9223372036854775807:=by unfold maxLen at h63;omega
 have h48:k*i.bytes<=281474976710656:=aO (dz _ (by omega:k<=sLen+k)) (by omega);have hrun:=Lib.run_append_grow_zeros (P:=P) w t tn o.p e i z kq kn ht htn hi hz (some ad) sLen sCap olds hl k h0 hsz hg h63' h48 (growslice_fits hg hb);have hge:=grownCap_ge w (sLen+k) sCap e;have:=h (grownCap w (sLen+k) sCap e) _ _ hge (grownCap_le_maxLen w (sLen+k) sCap e h63)
  (by simp only[Array.size_append,List.size_toArray,size_zeroCells,hzs,hlo,<-Nat.add_mul];congr 1;omega)
  (by simp only[Array.toList_append,cu];rw[<-hlo];exact List.take_left)
  (Ii w.drew (.D (olds.c++og z.D k++og z.D (grownCap w (sLen+k) sCap e-(sLen+k))) e))
  (((aG w.a.j w).drew).alloc (av _) _)
 unfold nG;simp[execOp,ho,resolve,invoke,builtin,hs,hx,hrun,iK];exact hK _ _ (by simpa using this)
theorem LW{ops:Array iM}{o:iM}{a:qG}{w:ak}{K:qG->ak->Prop}{Q:yP->qG->ak->Prop}{E:Prop}(hgd:o.guard=none)(s x:qj)(t:bE)
 (ho:o.op=.call {callee:=.builtin .append,args:=#[s,x],argTypes:=#[t,t]}) (e:bE) (i:nW) (size:Nat) (ht:P.k t=some (.a e)) (hi:P.l e=some i) (hsize:i.j=size)
 (g sLen sCap:Nat) (ad:aT) (m c:Nat) (hs:a.eval s=.a (some ⟨g,0,none⟩) sLen sCap) (hx:a.eval x=.a (some ad) m c)
 (cur:Array aB) (hg:w.a[g]? = some (.D cur e (0,0))) (news:List aB) (hl:news.a=m*size) (hnews:∀j u,news[j]? = some u->w.b (ad.add j)=some u) (h1:∀u∈news,u.h=true)
 (hroom:sLen+m<=sCap) (hfit:sLen*size+news.a<=cur.j)
 (h:∀w',w'=w.setRow g (splice cur.a (sLen*size) news).c->K (a.put o.S (.a (some ⟨g,0,none⟩) (sLen+m) sCap)) w') :
 if fq o (yielded ops a.tmps)=true then nG P o a w K Q else E:=by
 subst hsize;have hw:fq o (yielded ops a.tmps)=true:=by simp[fq,hgd]
 rw[if_pos hw];have hrun:=run_append_room (P:=P) w t o.p e i ht hi g sLen sCap cur hg ad m c news hl hnews h1 hroom hfit;unfold nG;simp[execOp,ho,resolve,invoke,builtin,hs,hx,hrun,iK];exact h _ (by simp[splice])
theorem Fh{w:ak}{ops:Array iM}{rest:List iM}{o:iM}{a:qG}{Q:yP->qG->ak->Prop}(hgd:o.guard=none)(s:qj)(t:bE)
 (ho:o.op=.call {callee:=.builtin .clear,args:=#[s],argTypes:=#[t]}) (e:bE) (i:nW) (z:aB) (size:Nat) (ht:P.k t=some (.a e)) (hi:P.l e=some i) (hz:i.zero=some z) (hzs:z.D.j=size) (h1:z.D.all (·.h)=true)
 (g off n c:Nat) (hs:a.eval s=.a (some ⟨g,off,none⟩) n c) (h0:0<n) (cur:Array aB) (tt:bE) (hg:w.a[g]? = some (.D cur tt (0,0))) (hfit:off+n*size<=cur.j)
 (h:∀w' zs,zs.a=n*size->w'=w.setRow g (splice cur.a off zs).c->wpList P ops Q rest (a.put o.S (.I #[])) w'):wpList P ops Q (o::rest) a w:=by
 refine tL hgd fun K hK=>?_
 have hzl:(og z.D n).a.a=n*size:=by rw[aY,size_zeroCells,hzs]
 have hst:=run_storeCells_at P g off tt (og z.D n).a 0 cur w hg (by rw[hzl];omega) (fun v hv=>by
  have hv':v∈og z.D n:=by simpa using hv
  unfold og at hv';obtain⟨j,hj,rfl⟩:=Array.mem_map.1 hv';have hj':j<n*z.D.j:=by simpa using hj
  have hpos:0<z.D.j:=by
   rcases eu z.D.j with h2|h2
   ·rw[h2]at hj';omega
   ·exact h2
  have hm:j%z.D.j<z.D.j:=fE _ hpos;rw[getElem!_pos z.D _ hm];exact gG.1 h1 _ (Array.getElem_mem hm))
 have hrun:(Builtin.clear_ #[t] o.p #[.a (some ⟨g,off,none⟩) n c]).G P w = .Y (.I #[]) (w.setRow g (splice cur.a off (og z.D n).a).c):=by
  obtain⟨n',rfl⟩:∃n',n=n'+1:=⟨n-1,by omega⟩
  simp[Builtin.clear_,dJ ht,zeroValue,typeInfo,hi,hz,hst,splice]
 unfold nG;simp[execOp,ho,resolve,invoke,builtin,hs,hrun,iK];exact hK _ _ (h _ _ hzl rfl)
end
theorem aja{α:Type}(cur xs ys:List α)(k s:Nat)(hx:cur.d xs.a=xs)(hk:k<=xs.a)(hy:ys.a=s)(hfit:xs.a+s<=cur.a):
 (splice (splice cur (k+s) (xs.f k)) k ys).d (xs.a+s)=xs.d k++ys++xs.f k:=by
 have hc:cur=xs++cur.f xs.a:=by
  conv=>lhs;rw[<-iN xs.a cur]
  rw[hx]
 generalize cur.f xs.a=r at hc;subst hc;have hr:s<=r.a:=by simp at hfit;omega
 unfold splice;have e1:((xs++r).d (k+s)++(xs.f k++(xs++r).f (k+s+(xs.f k).a))).d k=xs.d k:=by
  rw[gJ (by simp;omega),List.take_take,oN (by omega),gJ hk]
 have e2:((xs++r).d (k+s)++(xs.f k++(xs++r).f (k+s+(xs.f k).a))).f (k+ys.a)=xs.f k++(xs++r).f (k+s+(xs.f k).a):=by
  rw[hy];have:(List.take (k+s) (xs++r)).a=k+s:=by simp;omega
  rw[List.drop_append_of_le_length (by omega),gq (by omega),dH]
 rw[e1,e2,<-cu,<-cu,gJ (by simp;omega)];exact aJ (by simp;omega)
theorem apG{α:Type}(cur xs ys:List α)(k s:Nat)(hx:cur.d k=xs.d k)(hk:k<=xs.a)(hy:ys.a=s)(hfit:xs.a+s<=cur.a):
 (splice (splice cur k ys) (k+s) (xs.f k)).d (xs.a+s)=xs.d k++ys++xs.f k:=by
 unfold splice;rw[hx];have e1:(xs.d k++(ys++cur.f (k+ys.a))).d (k+s)=xs.d k++ys:=by
  rw[<-cu,gJ (by simp;omega)];exact aJ (by simp;omega)
 rw[e1,<-cu,gJ (by simp;omega)];exact aJ (by simp;omega)
theorem YJ{α:Type}(cur xs:List α)(k s:Nat)(hx:cur.d xs.a=xs)(hk:k+s<=xs.a):
 (splice cur k (xs.f (k+s))).d (xs.a-s)=xs.d k++xs.f (k+s):=by
 have hc:cur=xs++cur.f xs.a:=by
  conv=>lhs;rw[<-iN xs.a cur]
  rw[hx]
 generalize cur.f xs.a=r at hc;subst hc;unfold splice;have e1:(xs++r).d k=xs.d k:=gJ (by omega);rw[e1,<-cu,gJ (by simp;omega)];exact aJ (by simp;omega)
@[go_sem]theorem alU(w:ak)(ob:Obj)(x y:Bk):
 (Kz (.c (some ⟨w.a.j+1,0,none⟩)) (.d x.ay)).G ah ((w.alloc ob).alloc (.D y.ay 62)) = .Y () ((w.alloc ob).alloc (.D x.ay 62)):=by
 have:=XO (w.alloc ob) x y
 rwa [show(w.alloc ob).a.j=w.a.j+1 by simp]at this
def Js(l m:List Bk)(i:Nat):Bool:=Sj (l.b i iO) (m.b i iO)
def Jt(l m:List Bk):Bool:=decide (l.a=m.a)&&(bY l.a).all (Js l m)
theorem ade(args:Array aB)(w:ak):(callFunc 124 args).G ah w = .Y (.enter 124 args) w:=by kernel_rfl
theorem LX(p:Nat->Bool)(i:Nat):(bY (i+1)).all p=((bY i).all p&&p i):=by
 rw[Kl,List.all_append];simp
theorem Sm(p:Nat->Bool)(i n:Nat)(h:i<n)(hp:p i=false):(bY n).all p=false:=by
 rw[FV];exact⟨i,dV.2 h,by rw[hp];simp⟩
theorem Yb(l m:List Bk)(A B:Option aT)(c d:Nat)(w:ak)(hR:Dg w w.a.j A l.a l)(hT:Dg w w.a.j B m.a m)(hn:l.a<4611686018427387904)(hm:m.a<4611686018427387904):
 aP ah 123 #[.a A l.a c,.a B m.a d,.func (.func 124) #[] #[]] w
  (fT w (.e (Jt l m))):=by
 have hen:=ade;have HR:=ab hR;have HT:=ab hT;clear hR hT;have he:Jt l m=(decide (l.a=m.a)&&(bY l.a).all (Js l m)):=rfl;have HE:=ab he;clear he;by_cases hlm:l.a=m.a;rotate_left
 ·have aC7:((l.a:Int) != (m.a:Int))=true:=by rw[bne_iff_ne];omega
  have hf:Jt l m=false:=by rw[HE.i];simp[hlm]
  have HF:=ab hf;clear hf hlm;go_enter Tryz.func123,Tryz.ntmps123;go_wp2;go_ret;exact⟨by rw[HF.i];rfl,aG _ _⟩
 have HLM:=ab hlm;rw[<-hlm]at HT hm ⊢;clear hlm;obtain⟨n,hnl⟩:=bZ l.a;rw[<-hnl]at HR HT hn ⊢;have HN:=ab hnl;clear hnl hm;have hbn:((n:Int) != (n:Int))=false:=by simp
 go_enter Tryz.func123,Tryz.ntmps123;go_wp2;go_loopw [17] (fun s17 wr=>∃i:Nat,i<=n/\s17=.b .a i/\(bY i).all (Js l m)=true/\aL w.a.j w wr) (fun s17 _=>n-(intOf s17).g)
 case atStart=>exact⟨0,by omega,rfl,rfl,aG _ _⟩
 case round=>
  obtain⟨i,hin,rfl,hall,hb⟩:=hrel;have HA:=ab hall;have HB:=ab hb;have hsz:=hb.j;clear hall hb;by_cases hlt:i<n
  ·have hi:(i:Int)<n:=by omega
   obtain⟨b,o,rfl,hbb,hh,hc⟩:=(HR.i.M HB.i).fH hlt;obtain⟨b2,o2,rfl,NR,hh2,hc2⟩:=(HT.i.M HB.i).fH hlt;have hbs:b<wr.a.j:=by omega
   have Ce:b2<wr.a.j:=by omega
   have hp:Js l m i=Sj (l.b i iO) (m.b i iO):=rfl;obtain⟨x,hx⟩:=bZ (l.b i iO);obtain⟨y,hy⟩:=bZ (m.b i iO);rw[<-hx]at hc hp;rw[<-hy]at hc2 hp;have HP:=ab hp;clear hx hy hp hbb NR;have qy:∀K,Sj x y=K->∀W,aP ah 124 #[.d x.ay,.d y.ay] W fun e w'=>e=.a (.e K)/\aL W.a.j W w':=fun K h W=>by
    have:=ai9 x y W;rw[h]at this;exact this
   have hb2:∀ob tH,aL wr.a.j wr ((wr.alloc ob).alloc tH):=fun ob tH=>((aG _ _).alloc (av _) _).alloc (by simp) _
   have HB2:=ab hb2;clear hb2;cases k:Sj x y
   ·have hf:Jt l m=false:=by
     rw[HE.i,<-HN.i,Sm (Js l m) i n hlt (by rw[HP.i,k])];simp
    have HF:=ab hf;have Uu:=ab (qy _ k);clear k qy hf;go_wp2_with (go_at_call 124;refine(Uu.i _).e ?_;rintro e w1 ⟨rfl,hb1⟩;clear hh hc hh2 hc2;have HB1:=ab hb1;clear hb1);go_ret;exact⟨by rw[HF.i];rfl,fJ HB.i ((HB2.i _ _).trans (HB1.i.e (by simp;omega)))⟩
   ·have hy':(bY (i+1)).all (Js l m)=true:=by rw[LX,HA.i,HP.i,k];rfl
    have HY:=ab hy';have Uu:=ab (qy _ k);clear k qy hy';go_wp2_with (go_at_call 124;refine(Uu.i _).e ?_;rintro e w1 ⟨rfl,hb1⟩;clear hh hc hh2 hc2;have HB1:=ab hb1;clear hb1);go_roundw
    case rel=>exact⟨i+1,by omega,by go_num,HY.i,fJ HB.i ((HB2.i _ _).trans (HB1.i.e (by simp;omega)))⟩
    case measure=>simp[intOf]<;>omega
  ·obtain rfl:i=n:=by omega
   have ht:Jt l m=true:=by rw[HE.i,<-HN.i,HA.i];have:=HLM.i;have:=HN.i;simp;omega
   have HTR:=ab ht;clear ht;have hd:decide ((i:Int)<i)=false:=by simp
   go_wp2;go_ret;exact⟨by rw[HTR.i];rfl,HB.i⟩
def aaI(v:Int)(l:List Bk)(v':Int)(m:List Bk):Bool:=(v==v')&&Jt l m
theorem aaJ(l m:List Bk)(v v':Int)(A B:Option aT)(c d:Nat)(w:ak)(hR:Dg w w.a.j A l.a l)(hT:Dg w w.a.j B m.a m)(hn:l.a<4611686018427387904)(hm:m.a<4611686018427387904):
 aP ah 53 #[.d #[.b .a v,.a A l.a c],.d #[.b .a v',.a B m.a d]] w
  (fT w (.e (aaI v l v' m))):=by
 have hb0:∀ob tH,aL w.a.j w ((w.alloc ob).alloc tH):=fun ob tH=>((aG _ _).alloc (av _) _).alloc (by simp) _
 have HB0:=ab hb0;clear hb0;have HR:=ab (fun ob tH=>((hR.alloc (av _) ob).alloc (by simp) tH).lN (B':=((w.alloc ob).alloc tH).a.j) (by simp;omega));have HT:=ab (fun ob tH=>((hT.alloc (av _) ob).alloc (by simp) tH).lN (B':=((w.alloc ob).alloc tH).a.j) (by simp;omega));clear hR hT;have he:aaI v l v' m=((v==v')&&Jt l m):=rfl;have HE:=ab he;clear he;cases k:v==v'
 ·have HK:=ab k
  go_enter Tryz.func53,Tryz.ntmps53;go_wp2;go_ret;exact⟨by rw[HE.i,HK.i];rfl,HB0.i _ _⟩
 ·have HK:=ab k
  go_enter Tryz.func53,Tryz.ntmps53;go_wp2_with (go_at_call 123;refine(Yb l m A B c d _ (HR.i _ _) (HT.i _ _) hn hm).e ?_;rintro e w1 ⟨rfl,hb1⟩;have HB1:=ab hb1;clear hb1);go_ret;exact⟨by rw[HE.i,HK.i];rfl,(HB0.i _ _).trans (HB1.i.e (by simp;omega))⟩
theorem adf(l:List Bk)(a:aT)(c:Nat)(w:ak)(hR:Dg w w.a.j (some a) l.a l)(hn:l.a<=100000000000):
 aP ah 61 #[.a (some a) l.a c] w fun e w'=>∃A' c',e=.a (.a A' l.a c')/\w'.c w.a.j 62 27 (.a A' l.a c') l.a (dK l)/\aL w.a.j w w':=by
 have hnil:∀W:ak,(binOp .eql 30 (.a (some a) l.a c) (.a none 0 0)).G ah W = .Y (.e false) W:=fun W=>by
  simp only[binOp];simp[je,jm]
 obtain⟨i0,hi0,hz0,hz1,hzb⟩:=Qq;have hz2:(cB iO.ay).D.j=27:=by simp[cZ,Bk.r]
 have o1:(w.alloc (.D #[] 62)).c w.a.j 62 27 (.a (some ⟨w.a.j,0,none⟩) 0 0) 0 []:=
  nC w #[] 0 (av _) (by unfold maxLen;omega) rfl
 have O1:=ab o1;have O2:=ab (hR.alloc (av _) (.D #[] 62)).2.1;have Uy:=ab (show 0+l.a<=maxLen by unfold maxLen;omega);have Qo:=ab (show(0+l.a)*i0.bytes<=140737488355328 from aO (gY (show 0+l.a<=100000000000 by omega) hzb) (by omega));have O3:=ab (show w.a.j<=(w.alloc (.D #[] 62)).a.j by simp);clear o1 hR;go_enter Tryz.func61,Tryz.ntmps61;go_wp2_with (at_builtin;refine jC _ rfl (.tmp 5) (.tmp 6) _ rfl w.a.j 62 i0 (.d iO.ay) 27 i0.bytes jm hi0 hz0 hz1 rfl hz2 (mY _) (.a (some ⟨w.a.j,0,none⟩) 0 0) 0 [] rfl O1.i w.a.j (some a) l.a c (dK l) rfl O2.i (DN l) Uy.i Qo.i O3.i ?_;intro v1 w1 hown1 hg1 xu);obtain⟨A',c',hv,_,_⟩:=jG hown1;subst hv;simp only[bl,dH]at hown1;have hb:=sS ((aG w.a.j w).alloc (av _) (.D #[] 62)) hg1 (av _) O3.i;go_wp2;go_ret;exact⟨A',c',by simp,hown1,hb⟩
theorem Dg.E{w:ak}{B n:Nat}{A:Option aT}{l:List Bk}{k:Nat}(h:Dg w B A n l)(hk:k<n):∃b o,A=some ⟨b,o,none⟩/\b<B/\w.b ⟨b,o+k*27,none⟩=some (.g (bP (nm l k))):=by
 obtain⟨b,o,hA,hb,hc⟩:=h.cell hk;refine⟨b,o,hA,hb,?_⟩;have:=hc 0 (by omega);rw[Bk.nS]at this;simpa[nm]using this
theorem apH{l:List Bk}(hs:GA l){s:List UInt8}{i:Nat}(hi:i<l.a)(h:nm l i=s):kN l s=i/\tJ l s=true:=by
 have h0:mg (nm l i) s=0:=KJ.2 h;have hl:kN l s=i:=ahx (by omega) (fun k hk=>by rw[<-h];exact hs.lt hk hi) (fun _=>by omega);refine⟨hl,?_⟩;unfold tJ;rw[hl];simp[hi,h0]
theorem Qs(p:Nat->Bool)(i n:Nat)(h:i<n)(hp:p i=false):(bY n).all p=false:=by
 rw[FV];exact⟨i,dV.2 h,by rw[hp];simp⟩
def Uz(l:List Bk):Bool:=(bY (min l.a 60)).all (fun i=>decide ((nm l i).a<=60))&&decide (l.a<=40)
theorem ajb(l:List Bk)(v:Int)(A:Option aT)(c:Nat)(w:ak)(hR:Dg w w.a.j A l.a l)(hn:l.a<=9223372036854775807):
 aP ah 41 #[.d #[.b .a v,.a A l.a c]] w (fT w (.e (Uz l))):=by
 have hb0:∀ob,aL w.a.j w (w.alloc ob):=fun ob=>(aG _ _).alloc (av _) _
 have HB0:=ab hb0;clear hb0;have HR:=ab (fun ob=>hR.alloc (av _) ob);clear hR;have aaK:Uz l=((bY (min l.a 60)).all (fun i=>decide ((nm l i).a<=60))&&decide (l.a<=40)):=rfl;have HFW:=ab aaK;clear aaK;obtain⟨n,hnl⟩:=bZ l.a;rw[<-hnl]at HR hn HFW ⊢;clear hnl;go_enter Tryz.func41,Tryz.ntmps41;go_wp2;go_loop [3] (fun s3=>∃i:Nat,i<=n/\i<=60/\s3=.b .a i/\∀k,k<i->(nm l k).a<=60) (fun s3=>n-(intOf s3).g)
 case atStart=>exact⟨0,by omega,by omega,rfl,fun k hk=>by omega⟩
 case round=>
  obtain⟨i,hin,ayd,rfl,hall⟩:=hrel;have HA:=ab hall;clear hall;by_cases hlt:i<n
  ·have hi:(i:Int)<n:=by omega
   by_cases h6:i<60
   ·have hi6:(i:Int)<60:=by omega
    obtain⟨b,o,rfl,hbb,hc⟩:=(HR.i (.D #[.b .a v,.a A n c] 32)).E hlt;clear hbb;obtain⟨pn,hp⟩:=bZ (nm l i);rw[<-hp]at hc;have HP:=ab hp;clear hp;by_cases hq:pn.a<=60
    ·have hq1:(pn.a:Int)<=60:=by omega
     go_wp2;go_round
     case rel=>exact⟨i+1,by omega,by omega,by go_num,fun k hk=>by
      by_cases hki:k=i
      ·rw[hki,<-HP.i];exact hq
      ·exact HA.i k (by omega)⟩
     case measure=>simp[intOf]<;>omega
    ·have hq1:¬(pn.a:Int)<=60:=by omega
     have hq2:(60:Int)<pn.a:=by omega
     have hfw:Uz l=false:=by
      rw[HFW.i,Qs _ i _ (by omega) (by rw[<-HP.i];simpa using hq)];rfl
     have HF:=ab hfw;clear hfw;go_wp2;go_ret;exact⟨by rw[HF.i];rfl,HB0.i _⟩
   ·have hd:decide ((i:Int)<60)=false:=by simp;omega
    have hfw:Uz l=decide ((n:Int)<=40):=by
     have h40:¬n<=40:=by omega
     rw[HFW.i];simp[h40];omega
    have HF:=ab hfw;clear hfw;go_wp2;go_ret;exact⟨by rw[HF.i];rfl,HB0.i _⟩
  ·obtain rfl:i=n:=by omega
   have hd:decide ((i:Int)<i)=false:=by simp
   have hfw:Uz l=decide ((i:Int)<=40):=by
    rw[HFW.i];have:(bY (min i 60)).all (fun i=>decide ((nm l i).a<=60))=true:=by
     rw[fM];intro k hk;have:=dV.1 hk;simpa using HA.i k (by omega)
    rw[this,Bool.true_and,decide_eq_decide];omega
   have HF:=ab hfw;clear hfw;go_wp2;go_ret;exact⟨by rw[HF.i];rfl,HB0.i _⟩
def GJ(l m:List Bk)(i:Nat):Bool:=Bf (l.b i iO) (m.b i iO)
def Cg(v:Int)(l:List Bk)(v':Int)(m:List Bk):Bool:=(v==v')&&decide (l.a=m.a)&&(bY l.a).all (GJ l m)
theorem TQ(l m:List Bk)(hf:∀x∈l,x.oQ)(hg:∀x∈m,x.oQ)(v v':Int)(A B:Option aT)(c d:Nat)(w:ak)(hR:Dg w w.a.j A l.a l)(hT:Dg w w.a.j B m.a m)(hn:l.a<4611686018427387904)(hm:m.a<4611686018427387904):
 aP ah 56 #[.d #[.b .a v,.a A l.a c],.d #[.b .a v',.a B m.a d]] w
  (fT w (.e (Cg v l v' m))):=by
 have hb0:∀ob tH,aL w.a.j w ((w.alloc ob).alloc tH):=fun ob tH=>((aG _ _).alloc (av _) _).alloc (by simp) _
 have HB0:=ab hb0;clear hb0;have HR:=ab hR;have HT:=ab hT;have HF:=ab hf;have HG:=ab hg;clear hR hT hf hg;have he:Cg v l v' m=((v==v')&&decide (l.a=m.a)&&(bY l.a).all (GJ l m)):=rfl;have HE:=ab he;clear he;by_cases hv:v=v';rotate_left
 ·have hv1:(v != v')=true:=by rw[bne_iff_ne];exact hv
  have hff:Cg v l v' m=false:=by rw[HE.i];simp[hv]
  have Gj:=ab hff;clear hff hv;go_enter Tryz.func56,Tryz.ntmps56;go_wp2;go_ret;exact⟨by rw[Gj.i];rfl,HB0.i _ _⟩
 have hv1:(v != v')=false:=by simpa using hv
 by_cases hlm:l.a=m.a;rotate_left
 ·have aC7:((l.a:Int) != (m.a:Int))=true:=by rw[bne_iff_ne];omega
  have hff:Cg v l v' m=false:=by rw[HE.i];simp[hlm]
  have Gj:=ab hff;clear hff hlm hv;go_enter Tryz.func56,Tryz.ntmps56;go_wp2;go_ret;exact⟨by rw[Gj.i];rfl,HB0.i _ _⟩
 have HLM:=ab hlm;have HV:=ab hv;rw[<-hlm]at HT hm ⊢;clear hlm hv;obtain⟨n,hnl⟩:=bZ l.a;rw[<-hnl]at HR HT hn ⊢;have HN:=ab hnl;clear hnl hm;have hbn:((n:Int) != (n:Int))=false:=by simp
 go_enter Tryz.func56,Tryz.ntmps56;go_wp2;go_loopw [5] (fun s5 wr=>∃i:Nat,i<=n/\s5=.b .a i/\(bY i).all (GJ l m)=true/\aL (w.a.j+2) ((w.alloc (.D #[.b .a v,.a A n c] 32)).alloc (.D #[.b .a v',.a B n d] 32)) wr) (fun s5 _=>n-(intOf s5).g)
 case atStart=>exact⟨0,by omega,rfl,rfl,aG _ _⟩
 case round=>
  obtain⟨i,hin,rfl,hall,hb⟩:=hrel;have HA:=ab hall;have HB:=ab hb;have hcl:wr.b ⟨w.a.j,1,none⟩=some (.a A n c):=by
   rw[hb.cell (by simp)];go_simp
  have hBW:=(HB0.i (.D #[.b .a v,.a A n c] 32) (.D #[.b .a v',.a B n d] 32)).trans (hb.e (by simp));have HBW:=ab hBW;clear hall hb hBW;by_cases hlt:i<n
  ·have hsz:=HB.i.j
   have hi:(i:Int)<n:=by omega
   have aC9:wr.b ⟨w.a.j+1,1,none⟩=some (.a B n d):=by
    rw[HB.i.cell (by simp)];go_simp
   obtain⟨b,o,rfl,hbb,hh,hc⟩:=(HR.i.M HBW.i).fH hlt;obtain⟨b2,o2,rfl,NR,hh2,hc2⟩:=(HT.i.M HBW.i).fH hlt;have hws:w.a.j+2<=wr.a.j:=by simpa using hsz
   have hbs:b<wr.a.j:=by omega
   have Ce:b2<wr.a.j:=by omega
   have hmem:l.b i iO∈l:=by
    have:=HN.i;rw[au,aC (by omega)];simp
   have asr:m.b i iO∈m:=by
    have:=HN.i;have:=HLM.i;rw[au,aC (by omega)];simp
   obtain⟨hx1,hx2⟩:=HF.i _ hmem;obtain⟨hy1,hy2⟩:=HG.i _ asr;have hp:GJ l m i=Bf (l.b i iO) (m.b i iO):=rfl;obtain⟨x,hx⟩:=bZ (l.b i iO);obtain⟨y,hy⟩:=bZ (m.b i iO);rw[<-hx]at hc hp hx2;rw[<-hy]at hc2 hp hy2;have HP:=ab hp;clear hx hy hp hbb NR hmem asr hx1 hy1;have qy:∀K,Bf x y=K->∀W,aP ah 125 #[.d x.ay,.d y.ay] W fun e w'=>e=.a (.e K)/\aL W.a.j W w':=fun K h W=>by
    have:=adb x y hx2 hy2 W;rw[h]at this;exact this
   obtain⟨T,f,n0,e0,eS,eT⟩:=Cc (fun W=>aL wr.a.j wr W) wr (aG _ _).drew;have es:∀q W1,aL (f q).a.j (f q) W1->∃q',W1=f q':=fun q W1 hb=>eT _ ((eS q).trans (hb.e (eS q).j))
   have r1:∀q,(Jj (.c (some ⟨b,o+i*27,none⟩))).G ah (f q) = .Y (.d x.ay) (f q):=fun q=>by
    rw[aaA _ _ _ (hh.M (eS q) hbs),LU (eS q) hbs,hc]
   have r2:∀q,(Jj (.c (some ⟨b2,o2+i*27,none⟩))).G ah (f q) = .Y (.d y.ay) (f q):=fun q=>by
    rw[aaA _ _ _ (hh2.M (eS q) Ce),LU (eS q) Ce,hc2]
   have r3:∀q,(f q).b ⟨w.a.j,1,none⟩=some (.a (some ⟨b,o,none⟩) n c):=fun q=>by rw[(eS q).cell (by simp;omega)];exact hcl
   have r4:∀q,(f q).b ⟨w.a.j+1,1,none⟩=some (.a (some ⟨b2,o2,none⟩) n d):=fun q=>by rw[(eS q).cell (by simp;omega)];exact aC9
   have hne:Nonempty T:=⟨n0⟩
   have E0:=ab e0;have ES:=ab es;have EB:=ab (fun q=>HB.i.trans ((eS q).e hws));have EW:=ab (fun q=>HBW.i.trans ((eS q).e (by omega)));clear e0 es eS eT hh hc hh2 hc2;cases k:Bf x y
   ·have hff:Cg v l v' m=false:=by
     rw[HE.i,<-HN.i,Sm (GJ l m) i n hlt (by rw[HP.i,k])];simp
    have Gj:=ab hff;have Uu:=ab (qy _ k);clear k qy hff;go_upto_region 6 with fail
    refine lQ f (by kernel_rfl) (by kernel_rfl) n0 E0.i ?_
    repeat(go_big_quiet_step ((first
     | (go_at_call 125;refine(Uu.i _).e ?_;rintro e w1 ⟨rfl,hb1⟩;exact⟨rfl,ES.i _ _ hb1⟩))))
    refine eG ?_;rintro _ ⟨q,rfl⟩;go_wp2;go_ret;exact⟨by rw[Gj.i];rfl,EW.i _⟩
   ·have hy':(bY (i+1)).all (GJ l m)=true:=by rw[LX,HA.i,HP.i,k];rfl
    have HY:=ab hy';have Uu:=ab (qy _ k);clear k qy hy';go_upto_region 6 with fail
    refine lQ f (by kernel_rfl) (by kernel_rfl) n0 E0.i ?_
    repeat(go_big_quiet_step ((first
     | (go_at_call 125;refine(Uu.i _).e ?_;rintro e w1 ⟨rfl,hb1⟩;exact⟨rfl,ES.i _ _ hb1⟩))))
    refine eG ?_;rintro _ ⟨q,rfl⟩;go_wp2;go_roundw
    case rel=>exact⟨i+1,by omega,by go_num,HY.i,EB.i _⟩
    case measure=>simp[intOf]<;>omega
  ·obtain rfl:i=n:=by omega
   have ht:Cg v l v' m=true:=by rw[HE.i,<-HN.i,HA.i];have:=HLM.i;have:=HN.i;have:=HV.i;simp;omega
   have HTR:=ab ht;clear ht;have hd:decide ((i:Int)<i)=false:=by simp
   go_wp2;go_ret;exact⟨by rw[HTR.i];rfl,HBW.i⟩
theorem ajc{x y:Nat}(hx:x<18446744073709551616)(hy:y<18446744073709551616):Fb x y=decide (BZ x=BZ y):=by
 rw[bF];simp only[Fb,beq_iff_eq,decide_eq_true_eq];constructor
 ·intro h;simp only[BZ,h]
 ·intro h;exact afv (ac2 hx) (ac2 hy) h
theorem afH:Op.floatEq .f64 0 0=true:=by decide +kernel
theorem alV{x y:Bk}(hx:x.w<18446744073709551616)(hy:y.w<18446744073709551616):Sj x y=Bf x y:=by
 unfold Sj Bf alS Bk.Qd;rw[afH,ajc hx hy];cases(decide (BZ x.w=BZ y.w))<;>cases(x.E==y.E)<;>cases(decide (x.h=y.h))<;>cases(x.S==y.S)<;>cases(decide (x.Bw=y.Bw))<;>cases(x.drain==y.drain)<;>rfl
theorem ajd{l m:List Bk}(v v':Int)(hf:∀x∈l,x.oQ)(hg:∀x∈m,x.oQ):aaI v l v' m=Cg v l v' m:=by
 unfold aaI Cg Jt;rw[Bool.and_assoc];congr 1;by_cases hlm:l.a=m.a
 ·congr 1
  rw[bF,fM,fM];have key:∀i,i∈bY l.a->Js l m i=GJ l m i:=fun i hi=>by
   have hi:=dV.1 hi;unfold Js GJ;have h1:l.b i iO∈l:=by rw[au,aC hi];simp
   have h2:m.b i iO∈m:=by rw[au,aC (by omega)];simp
   exact alV (hf _ h1).2 (hg _ h2).2
  constructor
  ·intro h i hi;rw[<-key i hi];exact h i hi
  ·intro h i hi;rw[key i hi];exact h i hi
 ·simp[hlm]
theorem afI(v:Int)(l:List Bk):Cg v l v l=true:=by
 unfold Cg GJ Bf;simp
def Vn(f w:Nat):Bool:=decide (f/w%2=1)
theorem alW(f w:Nat)(hf:f<64)(hw:w∈[1,2,4,16]):(bits .and .a (f:Int) (w:Int) != 0)=Vn f w:=
 (by decide +kernel:∀f:Fin 64,∀w∈([1,2,4,16]:List Nat),(bits .and .a ((f.val:Nat):Int) (w:Int) != 0)=Vn f.val w) ⟨f,hf⟩ w hw
def aaL(f:Nat):Bool:=Vn f 2 && !Vn f 16
def aaM(p:Int)(f:Nat):Int:=if p=17 then 5 else if p=6 then(if Vn f 4 then 4 else if Vn f 1 then 3 else if aaL f then 1 else 2)else 0
def ahA(s:Int)(f:Nat):Int:=if s=5 then 5 else if s<1\/5<s then 0 else if Vn f 4 then 4 else if s=4 then(if aaL f then 1 else 4)else if Vn f 1 then 3 else if s=1/\(Vn f 16 && !Vn f 2)=true then 2 else s
def Ju(n:Int):Int:=if n<0 then 0 else if 1099511627776<n then 1099511627776 else n
section
variable (f w:Nat) (p s n:Int) (W:ak)
theorem aaN(hf:f<64)(hw:w∈[1,2,4,16]):aP ah 208 #[.b .a f,.b .a w] W fun e W'=>e=.a (.e (Vn f w))/\W=W':=by
 have h:=alW f w hf hw;go_enter Tryz.func208,Tryz.ntmps208;go_wp2;go_ret;exact⟨by rw[<-h];rfl,rfl⟩
theorem YK(hf:f<64):aP ah 209 #[.b .a f] W fun e W'=>e=.a (.e (aaL f))/\W=W':=by
 go_enter Tryz.func209,Tryz.ntmps209;go_wp2_with (go_at_call 208;refine(aaN f _ _ hf (by simp)).e ?_;rintro e w' ⟨rfl,rfl⟩)
 all_goals(go_ret;refine⟨?_,rfl⟩;simp_all[aaL])
theorem aje(hf:f<64):aP ah 138 #[.b .a p,.b .a f] W fun e W'=>e=.a (.b .a (aaM p f))/\W=W':=by
 go_enter Tryz.func138,Tryz.ntmps138;go_wp2_with (first|(go_at_call 208;refine(aaN f _ _ hf (by simp)).e ?_;rintro e w' ⟨rfl,rfl⟩)|(go_at_call 209;refine(YK f _ hf).e ?_;rintro e w' ⟨rfl,rfl⟩))
 all_goals(go_ret;refine⟨?_,rfl⟩;simp_all[aaM])
theorem alX(hf:f<64):aP ah 139 #[.b .a s,.b .a f] W fun e W'=>e=.a (.b .a (ahA s f))/\W=W':=by
 go_enter Tryz.func139,Tryz.ntmps139;go_wp2_with (first|(go_at_call 208;refine(aaN f _ _ hf (by simp)).e ?_;rintro e w' ⟨rfl,rfl⟩)|(go_at_call 209;refine(YK f _ hf).e ?_;rintro e w' ⟨rfl,rfl⟩))
 all_goals(go_ret;refine⟨?_,rfl⟩;simp_all[ahA]<;>omega)
theorem adg:aP ah 217 #[.b .a n] W fun e W'=>e=.a (.b .a (Ju n))/\W=W':=by
 go_enter Tryz.func217,Tryz.ntmps217;go_wp2
 all_goals(go_ret;refine⟨?_,rfl⟩;simp_all[Ju]<;>(repeat' split)<;>omega)
end
def lT(n:Nat):Bool:=decide (2<=n)&&(bY n).all fun d=>decide (d<2)||decide (n<d*d)||decide (n%d≠0)
theorem KL{n:Nat}(h:lT n=true){d:Nat}(h2:2<=d)(hd:d*d<=n):n%d≠0:=by
 unfold lT at h;simp only[bf,fM,dV,mJ,decide_eq_true_eq]at h;have hlt:d<n:=by have:=dz d h2;omega
 rcases h.2 d hlt with(h|h)|h<;>omega
theorem xw{n:Nat}(h:lT n=true):2<=n:=by
 unfold lT at h;simp at h;exact h.1
theorem afJ{n g:Nat}(h:lT n=true)(hg:g∣n)(h2:2<=g):g=n:=by
 obtain⟨q,rfl⟩:=hg;rcases aZ q 2 with hq|hq
 ·rcases q with _|_|q
  ·have:=xw h;omega
  ·omega
  ·omega
 ·exfalso
  rcases Nat.le_total g q with hle|hle
  ·exact KL h h2 (Nat.mul_le_mul_left g hle) (Nat.mul_mod_right g q)
  ·exact KL h hq (dz q hle) (Nat.mul_mod_left g q)
theorem Vo{n s:Nat}(h:lT n=true)(h1:1<=s)(h2:s<n):Nat.Coprime n s:=by
 have hg:=Nat.gcd_dvd_left n s;have hs:=Nat.gcd_dvd_right n s;have hpos:0<Nat.gcd n s:=Nat.gcd_pos_of_pos_right n h1;rcases aZ (Nat.gcd n s) 2 with hc|hc
 ·show Nat.gcd n s=1;omega
 ·have:=afJ h hg hc
  have:=Nat.le_of_dvd h1 hs;omega
def rV(o s n i:Nat):Nat:=(o+i*s)%n
theorem afK{o s n i j:Nat}(h:lT n=true)(h1:1<=s)(h2:s<n)(hi:i<j)(hj:j<n)(e:rV o s n i=rV o s n j):False:=by
 unfold rV at e;have hd:n∣(j-i)*s:=by
  have:n∣(o+j*s)-(o+i*s):=Nat.dvd_of_mod_eq_zero (Nat.sub_mod_eq_zero_of_mod_eq e.symm)
  rwa [Nat.add_sub_add_left,<-Nat.mul_sub_right_distrib]at this
 have:=(Vo h h1 h2).dvd_of_dvd_mul_right hd;have:=Nat.le_of_dvd (by omega) this;omega
theorem adh:∀(l m:List Nat),l.Nodup->(∀x∈l,x∈m)->l.a<=m.a
 | [],m,_,_=>Nat.zero_le _
 | x::l,m,hn,hs=>by
   have hx:=hs x (by simp);rw[List.nodup_cons]at hn;have:=adh l (m.erase x) hn.2 (fun y hy=>(List.mem_erase_of_ne (fun e=>hn.1 (by rw[<-e];exact hy))).2 (hs y (by simp[hy])));rw[List.length_erase_of_mem hx]at this;have:=List.length_pos_of_mem hx;simp;omega
theorem Vq{o s n:Nat}(h:lT n=true)(h1:1<=s)(h2:s<n){j:Nat}(hj:j<n):∃i,i<n/\rV o s n i=j:=by
 have hn:0<n:=by omega
 by_cases hc:j∈(bY n).map (rV o s n)
 ·obtain⟨i,hi,e⟩:=iZ.1 hc
  exact⟨i,dV.1 hi,e⟩
 ·exfalso
  have hnd:((bY n).map (rV o s n)).Nodup:=by
   rw[List.Nodup,List.pairwise_map];refine List.Pairwise.imp_of_mem ?_ (List.pairwise_lt_range (n:=n));intro a b ha hb hab e;exact afK h h1 h2 hab (dV.1 hb) e
  have:=adh (j::(bY n).map (rV o s n)) (bY n) (List.nodup_cons.2 ⟨hc,hnd⟩) (by
   intro x hx;rcases bB.1 hx with rfl|hx
   ·exact dV.2 hj
   ·obtain⟨i,_,rfl⟩:=iZ.1 hx
    exact dV.2 (fE _ hn))
  simp at this;omega
theorem Qt{o s n i:Nat}(h:0<n):rV o s n i<n:=fE _ h
structure Mg where
 cr:List Nat
 sl:List Int
 left:Nat
def sF(sl:List Int)(j:Nat):Bool:=decide (sl.b j 0 = -1)
def ff(sl:List Int)(ch:Nat->Nat)(n:Nat):Nat:=((bY n).find? fun k=>sF sl (ch k)).b 0
def sW(g n:Nat)(q:List Nat)(ch:Nat->Nat->Nat)(m:Mg)(i:Nat):Mg:=
 if m.cr.b i 0+q.b i 0<g then{m with cr:=m.cr.set i (m.cr.b i 0+q.b i 0)}
 else⟨m.cr.set i (m.cr.b i 0+q.b i 0-g),m.sl.set (ch i (ff m.sl (ch i) n)) i,m.left-1⟩
def jT(g n:Nat)(q:List Nat)(ch:Nat->Nat->Nat):Nat->Mg
 | 0=>⟨q.map fun _=>0,dY n (-1),n⟩
 | j+1=>sW g n q ch (jT g n q ch j) (j%q.a)
def Jv(sl:List Int):Nat:=sl.countP fun x=>decide (x = -1)
theorem asu{sl:List Int}{ch:Nat->Nat}{n:Nat}(h:∃k,k<n/\sF sl (ch k)=true):ff sl ch n<n/\sF sl (ch (ff sl ch n))=true/\∀k,k<ff sl ch n->sF sl (ch k)=false:=by
 unfold ff;cases hf:(bY n).find? fun k=>sF sl (ch k)with
 | none=>
   obtain⟨k,hk,hk2⟩:=h;rw[List.find?_eq_none]at hf;exact absurd hk2 (hf k (dV.2 hk))
 | some k=>
   obtain⟨h1,u1,bs,h2,h3⟩:=List.find?_eq_some_iff_append.1 hf;have hk:u1.a=k/\k<n:=by
    have e1:(bY n)[u1.a]? = some k:=by rw[h2];simp
    rw[wY]at e1
    ·have hl:u1.a<n:=by have:=congrArg List.length h2;simp at this;omega
     simp at e1;omega
    ·have:=congrArg List.length h2;simp at this;omega
   refine⟨hk.2,h1,fun j hj=>?_⟩;simp only[jY]at hj;have e1:(bY n)[j]? = some j:=by rw[wY (by omega)]
   rw[h2,o9 (by omega)]at e1;have:=h3 j (List.mem_of_getElem? e1);simpa using this
theorem Qu:∀(sl:List Int)(j:Nat)(v:Int),sF sl j=true->j<sl.a->v≠-1->Jv (sl.set j v)+1=Jv sl
 | [],j,v,_,h,_=>by simp at h
 | a::sl,0,v,h,_,hv=>by
   have:a = -1:=by simpa[sF]using h
   subst this;simp[Jv,hv]
 | a::sl,j+1,v,h,hj,hv=>by
   have:=Qu sl j v (by simpa[sF]using h) (by simpa using hj) hv;simp only[Jv,bK,List.countP_cons]at this ⊢;omega
theorem YM:∀(sl:List Int),0<Jv sl->∃j,j<sl.a/\sF sl j=true
 | [],h=>by simp[Jv]at h
 | a::sl,h=>by
   by_cases ha:a = -1
   ·exact⟨0,by simp,by simp[sF,ha]⟩
   ·obtain⟨j,h1,h2⟩:=YM sl (by simpa[Jv,List.countP_cons,ha]using h)
    exact⟨j+1,by simpa using h1,by simpa[sF]using h2⟩
structure afL(n:Nat)(q:List Nat)(m:Mg):Prop where
 crl:m.cr.a=q.a
 sll:m.sl.a=n
 fr:Jv m.sl=m.left
 rng:∀j,j<n->m.sl.b j 0 = -1\/∃i,i<q.a/\m.sl.b j 0=(i:Int)
def adi(n k:Nat)(ch:Nat->Nat->Nat):Prop:=∀i,i<k->(∀t,ch i t<n)/\∀j,j<n->∃t,t<n/\ch i t=j
theorem afL.free{n:Nat}{q:List Nat}{ch:Nat->Nat->Nat}{m:Mg}(h:afL n q m)(hf:adi n q.a ch)(hl:m.left≠0){i:Nat}(hi:i<q.a):∃k,k<n/\sF m.sl (ch i k)=true:=by
 obtain⟨j,hj,hj2⟩:=YM m.sl (by rw[h.fr];omega);obtain⟨t,ht,e⟩:=(hf i hi).2 j (by rw[<-h.sll];exact hj);exact⟨t,ht,by rw[e];exact hj2⟩
theorem afL.ajf{g n:Nat}{q:List Nat}{ch:Nat->Nat->Nat}{m:Mg}(h:afL n q m)(hf:adi n q.a ch)(hl:m.left≠0){i:Nat}(hi:i<q.a):afL n q (sW g n q ch m i):=by
 unfold sW;split
 ·exact⟨by simpa using h.crl,h.sll,h.fr,h.rng⟩
 ·obtain⟨h1,h2,h3⟩:=asu (h.free hf hl hi)
  have hlt:=(hf i hi).1 (ff m.sl (ch i) n);have hll:=h.sll;refine⟨by simpa using h.crl,by simpa using h.sll,?_,fun j hj=>?_⟩
  ·have:=Qu m.sl _ (i:Int) h2 (by omega) (by omega)
   have:=h.fr;show Jv (m.sl.set _ _)=m.left-1;omega
  ·simp only[au,fI]
   split
   ·rename_i e
    rw[if_pos (by omega)];exact .b ⟨i,hi,rfl⟩
   ·have:=h.rng j hj
    simpa[au]using this
theorem adj{g n:Nat}{q:List Nat}{ch:Nat->Nat->Nat}(m:Mg)(i:Nat):(sW g n q ch m i).left<=m.left:=by
 unfold sW;split
 ·exact av _
 ·exact Nat.sub_le _ _
theorem aaO{g n:Nat}{q:List Nat}{ch:Nat->Nat->Nat}(j:Nat):∀d,(jT g n q ch (j+d)).left<=(jT g n q ch j).left
 | 0=>av _
 | d+1=>aO (adj _ _) (aaO j d)
theorem aaP{g n:Nat}{q:List Nat}{ch:Nat->Nat->Nat}{i0:Nat}(hi:i0<q.a)(hg:q.b i0 0=g)(m:Nat):(jT g n q ch ((m+1)*q.a)).left<=(jT g n q ch (m*q.a)).left-1:=by
 have h1:(jT g n q ch (m*q.a+i0+1)).left<=(jT g n q ch (m*q.a+i0)).left-1:=by
  have e:(m*q.a+i0)%q.a=i0:=by rw[DF,Nat.mul_add_mod,fO hi]
  show(sW g n q ch _ ((m*q.a+i0)%q.a)).left<=_;rw[e];unfold sW;rw[if_neg (by omega)];exact av _
 have h2:=aaO (g:=g) (n:=n) (q:=q) (ch:=ch) (m*q.a) i0;have h3:=aaO (g:=g) (n:=n) (q:=q) (ch:=ch) (m*q.a+i0+1) (q.a-i0-1);rw[show m*q.a+i0+1+(q.a-i0-1)=(m+1)*q.a by rw[Nat.add_mul];omega]at h3;omega
theorem apI{g n:Nat}{q:List Nat}{ch:Nat->Nat->Nat}{i0:Nat}(hi:i0<q.a)(hg:q.b i0 0=g):∃K,(jT g n q ch K).left=0/\∀j,j<K->(jT g n q ch j).left≠0:=by
 have h:∀m,(jT g n q ch (m*q.a)).left<=n-m:=by
  intro m
  induction m with
  | zero=>simp[jT]
  | succ m ih=>have:=aaP (n:=n) (ch:=ch) hi hg m;omega
 have hk:(jT g n q ch (n*q.a)).left=0:=by have:=h n;omega
 have:∀k,(∃j,j<=k/\(jT g n q ch j).left=0)->∃K,(jT g n q ch K).left=0/\∀j,j<K->(jT g n q ch j).left≠0:=by
  intro k
  induction k with
  | zero=>rintro⟨j,hj,h0⟩;obtain rfl:j=0:=by omega
          exact⟨0,h0,fun j h=>by omega⟩
  | succ k ih=>
    rintro⟨j,hj,h0⟩;by_cases hc:∃j,j<=k/\(jT g n q ch j).left=0
    ·exact ih hc
    ·exact⟨j,h0,fun t ht e=>hc ⟨t,by omega,e⟩⟩
 exact this _ ⟨_,av _,hk⟩
theorem alY{g n:Nat}{q:List Nat}{ch:Nat->Nat->Nat}(hq:0<q.a)(hf:adi n q.a ch):∀j,(∀t,t<j->(jT g n q ch t).left≠0)->afL n q (jT g n q ch j)
 | 0,_=>⟨by simp[jT],by simp[jT],by simp[jT,Jv,List.countP_replicate],fun j hj=>.a (by simp[jT,au,hj])⟩
 | j+1,h=>(alY hq hf j fun t ht=>h t (by omega)).ajf hf (h j (by omega)) (fE _ hq)
theorem adk(n:Int):0<=Ju n/\Ju n<=1099511627776:=by unfold Ju;(repeat' split)<;>omega
theorem alZ{P:eD}{f:FuncId}{args:Array aB}{w:ak}{n:Nat}{v:aB}(h:aP P f args (w.drewN n) fun e w'=>e=.a v/\w.drewN n=w'):aP P f args (w.drewN n) fun e w''=>e=.a v/\∃m,w''=w.drewN m:=
 h.e fun _ _ ⟨he,hm⟩=>⟨he,n,hm.symm⟩
def Lj(v:Vector Int 6):Array aB:=(v.a.map fun n=>.b .a n).c
def Ew(s seen now:Int)(v:Vector Int 6):Bool:=decide (s<1\/5<s\/v.a.b s.g 0<Ju now-Ju seen)
theorem aaQ(v:Vector Int 6)(k:Nat)(hk:k<6):(Lj v)[k]? = some (.b .a (v.a.b k 0)):=by
 simp[Lj,au,hk]
theorem aDa(a b:Nat)(ha:a<9223372036854775808):wrap64 ((a:Int)/(b:Int))=((a/b:Nat):Int):=by
 have:=Dc a b;rw[<-Int.natCast_ediv];generalize a/b=q at *;unfold wrap64;omega
section
variable (s seen now:Int) (v:Vector Int 6) (W:ak)
theorem ajg:aP ah 150 #[.b .a s,.b .a seen,.b .a now,.d (Lj v)] W (fT W (.e (Ew s seen now v))):=by
 have HB:=ab ((aG W.a.j W).alloc (av _) (.D (Lj v) 24));have t1:=ab (adk now);have t2:=ab (adk seen);have C1:=fun W=>adg now W
 have C2:=fun W=>adg seen W
 by_cases hs:s<1\/5<s
 ·have H:=ab (show Ew s seen now v=true by simp[Ew];omega)
  go_enter Tryz.func150,Tryz.ntmps150;go_wp2
  all_goals first|(go_ret;exact⟨by rw[H.i];rfl,HB.i⟩)|(exfalso;simp_all)
 ·obtain⟨k,rfl⟩:∃k:Nat,s=k:=⟨s.g,by omega⟩
  have h1:¬(k:Int)<1:=by omega
  have h2:¬(5:Int)<k:=by omega
  have hg:=aaQ v k (by omega);have hk:(k:Int)<6:=by omega
  have H:=ab (show Ew k seen now v=decide (v.a.b k 0<Ju now-Ju seen)from decide_eq_decide.2 ⟨fun h=>(h.resolve_left h1).resolve_left h2,fun h=>.b (.b h)⟩);generalize Ju now=p at *;generalize Ju seen=q at *;generalize v.a.b k 0=z at *;have hpq:wrap64 (p-q)=p-q:=by have:=t1.i;have:=t2.i;unfold wrap64;omega
  clear hs;go_enter Tryz.func150,Tryz.ntmps150;go_wp2_with fail;go_quiet (first|(go_at_call 217;with_reducible refine alZ (C1 _))|(go_at_call 217;with_reducible refine alZ (C2 _)));go_wp2;go_ret;exact⟨by rw[H.i];rfl,eH HB.i _⟩
theorem Vr{n:Nat}(h:2<=n)(hall:∀e,2<=e->e*e<=n->n%e≠0):lT n=true:=by
 unfold lT;simp only[bf,fM,dV,mJ,decide_eq_true_eq];refine⟨h,fun d _=>?_⟩;by_cases h1:d<2
 ·exact .a (.a h1)
 ·by_cases h2:n<d*d
  ·exact .a (.b h2)
  ·exact .b (hall d (by omega) (by omega))
theorem YN(n:Nat)(hn:n<=65537):aP ah 81 #[.b .a n] W fun e W'=>e=.a (.e (lT n))/\W=W':=by
 go_enter Tryz.func81,Tryz.ntmps81;by_cases h2:n<2
 ·have h2':(n:Int)<2:=by omega
  have hp:=ab (show lT n=false by simp[lT];omega);go_wp2;go_ret;exact⟨by rw[hp.i];rfl,rfl⟩
 have h2':¬(n:Int)<2:=by omega
 go_wp2;go_loop [3] (fun s3=>∃d:Nat,2<=d/\d<=n+1/\s3=.b .a d/\∀e,2<=e->e<d->n%e≠0) (fun s3=>n+1-(intOf s3).g)
 case atStart=>exact⟨2,by omega,by omega,rfl,fun e h1 h2=>by omega⟩
 case round=>
  obtain⟨d,hd,hdn,rfl,hall⟩:=hrel;have HA:=ab hall;clear hall;have hd0:¬(d:Int)=0:=by omega
  have hq:=aDa n d (by omega);by_cases hle:d*d<=n
  ·have hle2:(d:Int)<=((n/d:Nat):Int):=by have:=(Nat.le_div_iff_mul_le (show 0<d by omega)).2 hle;omega
   by_cases hm:n%d=0
   ·have hm2:((n:Int)%(d:Int)==0)=true:=by rw[<-I4,hm];rfl
    have H:=ab (show lT n=false by cases hp:lT n with
     | false=>rfl
     | true=>exact absurd hm (KL hp hd hle))
    clear hle hm;go_wp2;go_ret;exact⟨by rw[H.i];rfl,rfl⟩
   ·have hm2:((n:Int)%(d:Int)==0)=false:=by rw[<-I4,beq_eq_false_iff_ne];omega
    have HL:=ab (show d<n+1 by have:=Nat.le_mul_self d;omega);have HM:=ab hm;clear hle hm;go_wp2;go_round
    case rel=>exact⟨d+1,by omega,by have:=HL.i;omega,by go_num,fun e h1 h2=>by
     rcases aZ e d with h|h
     ·exact HA.i e h1 h
     ·rw[show e=d by omega];exact HM.i⟩
    case measure=>have:=HL.i;simp[intOf]<;>omega
  ·have hle2:¬(d:Int)<=((n/d:Nat):Int):=by have:=mt (Nat.le_div_iff_mul_le (show 0<d by omega)).1 hle;omega
   have H:=ab (show lT n=true from Vr (by omega) fun e h1 h2=>HA.i e h1 (by
    rcases aZ e d with h|h
    ·exact h
    ·have:=gY h h;omega))
   clear hle;go_wp2;go_ret;exact⟨by rw[H.i];rfl,rfl⟩
theorem aaR(n:Nat)(hn:n<=65537):aP ah 69 #[.b .a n] W fun e W'=>e=.a (.e (lT n))/\W=W':=by
 go_enter Tryz.func69,Tryz.ntmps69;by_cases h2:n<2
 ·have h2':(n:Int)<2:=by omega
  have hp:=ab (show lT n=false by simp[lT];omega);go_wp2;go_ret;exact⟨by rw[hp.i];rfl,rfl⟩
 have h2':¬(n:Int)<2:=by omega
 go_wp2;go_loop [3] (fun s3=>∃d:Nat,2<=d/\d<=n+1/\s3=.b .a d/\∀e,2<=e->e<d->n%e≠0) (fun s3=>n+1-(intOf s3).g)
 case atStart=>exact⟨2,by omega,by omega,rfl,fun e h1 h2=>by omega⟩
 case round=>
  obtain⟨d,hd,hdn,rfl,hall⟩:=hrel;have HA:=ab hall;clear hall;have hd0:¬(d:Int)=0:=by omega
  have hq:wrap64 ((d:Int)*(d:Int))=((d*d:Nat):Int):=by
   have h1:d*d<=4295229444:=aO (gY (show d<=65538 by omega) (show d<=65538 by omega)) (by decide);rw[<-Int.natCast_mul];generalize d*d=q at h1 ⊢;unfold wrap64;omega
  by_cases hle:d*d<=n
  ·have hle2:((d*d:Nat):Int)<=(n:Int):=by omega
   by_cases hm:n%d=0
   ·have hm2:((n:Int)%(d:Int)==0)=true:=by rw[<-I4,hm];rfl
    have H:=ab (show lT n=false by cases hp:lT n with
     | false=>rfl
     | true=>exact absurd hm (KL hp hd hle))
    clear hle hm;go_wp2;go_ret;exact⟨by rw[H.i];rfl,rfl⟩
   ·have hm2:((n:Int)%(d:Int)==0)=false:=by rw[<-I4,beq_eq_false_iff_ne];omega
    have HL:=ab (show d<n+1 by have:=Nat.le_mul_self d;omega);have HM:=ab hm;clear hle hm;go_wp2;go_round
    case rel=>exact⟨d+1,by omega,by have:=HL.i;omega,by go_num,fun e h1 h2=>by
     rcases aZ e d with h|h
     ·exact HA.i e h1 h
     ·rw[show e=d by omega];exact HM.i⟩
    case measure=>have:=HL.i;simp[intOf]<;>omega
  ·have hle2:¬((d*d:Nat):Int)<=(n:Int):=by omega
   have H:=ab (show lT n=true from Vr (by omega) fun e h1 h2=>HA.i e h1 (by
    rcases aZ e d with h|h
    ·exact h
    ·have:=gY h h;omega))
   clear hle;go_wp2;go_ret;exact⟨by rw[H.i];rfl,rfl⟩
end
section
variable {α κ:Type} [DecidableEq κ] (kf:α->κ) (hm:κ->Nat)
def yT(N z c:Nat):Nat:=(z+c)%N
theorem Ch{N z c:Nat}(h:0<N):yT N z c<N:=fE _ h
theorem wT{N a:Nat}(h:a<2*N):a%N=if a<N then a else a-N:=by
 split
 ·exact fO ‹_›
 ·rw[Nat.mod_eq_sub_mod (by omega),fO (by omega)]
theorem MB{N z c:Nat}(hz:z<N)(hc:c<N):yT N z c=if z+c<N then z+c else z+c-N:=wT (by omega)
def yU(N z i:Nat):Nat:=if z<=i then i-z else i+N-z
theorem Ci{N z i:Nat}(hz:z<N)(hi:i<N):yU N z i<N:=by unfold yU;split<;>omega
theorem wU{N z i:Nat}(hz:z<N)(hi:i<N):yT N z (yU N z i)=i:=by
 rw[MB hz (Ci hz hi)];unfold yU;split<;>split<;>omega
theorem NT{N z c:Nat}(hz:z<N)(hc:c<N):yU N z (yT N z c)=c:=by
 rw[MB hz hc];unfold yU;split<;>split<;>omega
theorem KO{N z c d:Nat}(hz:z<N)(hc:c<N)(hd:d<N)(h:yT N z c=yT N z d):c=d:=by
 rw[<-NT hz hc,<-NT hz hd,h]
def fH(s:List (Option α))(i:Nat):Option α:=s.b i none
theorem GK(s:List (Option α))(i j:Nat)(v:Option α)(hi:i<s.a):fH (s.set i v) j=if i=j then v else fH s j:=by
 unfold fH;rw[au,au,fI];by_cases h:i=j
 ·subst h;simp[hi]
 ·simp[h]
def Lin(s:List (Option α))(z:Nat):Prop:=∀c x,c<s.a->fH s (yT s.a z c)=some x ->
 yU s.a z (hm (kf x))<=c/\∀q,yU s.a z (hm (kf x))<=q->q<c->fH s (yT s.a z q)≠none
structure Tab(s:List (Option α)):Prop where
 hom:∀k,hm k<s.a
 lin:∃z,z<s.a/\fH s z=none/\Lin kf hm s z
 uni:∀i j x y,i<s.a->j<s.a->fH s i=some x->fH s j=some y->kf x=kf y->i=j
def stops(s:List (Option α))(k:κ)(i:Nat):Bool:=match fH s i with|none=>true|some x=>decide (kf x=k)
variable {kf hm} {s:List (Option α)}
theorem Lin.atM(h0:∀k,hm k<s.a){z z':Nat}(hz:z<s.a)(hf:fH s z=none)(h:Lin kf hm s z)(hz':z'<s.a)(hf':fH s z'=none):Lin kf hm s z':=by
 intro c x hc hx;have hi:=Ch (N:=s.a) (z:=z') (c:=c) (by omega);generalize hI:yT s.a z' c=i at hx hi;have hc2:c=yU s.a z' i:=by rw[<-hI,NT hz' hc]
 subst hc2;have hh:=h0 (kf x);obtain⟨h1,h2⟩:=h (yU s.a z i) x (Ci hz hi) (by rw[wU hz hi];exact hx);have hne:i≠z':=by rintro rfl;rw[hf']at hx;cases hx
 have hno:¬(yU s.a z (hm (kf x))<=yU s.a z z'/\yU s.a z z'<yU s.a z i):=fun⟨a,b⟩=>
  h2 _ a b (by rw[wU hz hz'];exact hf')
 have hne2:i≠z:=by rintro rfl;rw[hf]at hx;cases hx
 generalize hm (kf x)=y at *;have e1:yU s.a z' y<=yU s.a z' i:=by
  revert hno h1
  unfold yU
  repeat' split
  all_goals omega
 refine⟨e1,fun q hq1 hq2=>?_⟩;have hqN:q<s.a:=Nat.lt_trans hq2 (Ci hz' hi);have hj:=Ch (N:=s.a) (z:=z') (c:=q) (by omega);generalize hJ:yT s.a z' q=j at hj;have hq3:q=yU s.a z' j:=by rw[<-hJ,NT hz' hqN]
 subst hq3
 have:=h2 (yU s.a z j) (by revert hno h1 hq1 hq2;unfold yU;repeat' split
                           all_goals omega) (by revert hno h1 hq1 hq2;unfold yU;repeat' split
                                                all_goals omega)
 rwa [wU hz hj]at this
def Found(hm:κ->Nat)(kf:α->κ)(s:List (Option α))(k:κ)(d:Nat):Prop:=d<s.a/\stops (kf:=kf) s k ((hm k+d)%s.a)=true/\∀t,t<d->stops (kf:=kf) s k ((hm k+t)%s.a)=false
theorem NU{N z y q:Nat}(hz:z<N)(hy:y<N)(h1:yU N z y<=q)(hq:q<N):yT N z q=(y+(q-yU N z y))%N:=by
 rw[MB hz hq,wT (by unfold yU at *;split at h1<;>omega)];unfold yU at *
 repeat' split
 all_goals(try split at h1)
 all_goals omega
theorem Tab.aaS(h:Tab kf hm s){k:κ}{j:Nat}{x:α}(hj:j<s.a)(hx:fH s j=some x)(hk:kf x=k):∃d,Found hm kf s k d/\(hm k+d)%s.a=j:=by
 obtain⟨z,hz,hf,hl⟩:=h.lin;obtain⟨h1,h2⟩:=hl (yU s.a z j) x (Ci hz hj) (by rw[wU hz hj];exact hx);rw[hk]at h1 h2;have hy:=h.hom k;have hcj:=Ci hz hj;have ej:(hm k+(yU s.a z j-yU s.a z (hm k)))%s.a=j:=by rw[<-NU hz hy h1 hcj,wU hz hj]
 refine⟨yU s.a z j-yU s.a z (hm k),⟨by omega,?_,fun t ht=>?_⟩,ej⟩
 ·rw[ej];simp[stops,hx,hk]
 ·have hq:yU s.a z (hm k)+t<yU s.a z j:=by omega
  have:=h2 (yU s.a z (hm k)+t) (by omega) hq;have e:=NU hz hy (q:=yU s.a z (hm k)+t) (by omega) (by omega);rw[show yU s.a z (hm k)+t-yU s.a z (hm k)=t by omega]at e;rw[e]at this;cases hw:fH s ((hm k+t)%s.a)with
  | none=>exact absurd hw this
  | some y=>
    simp only[stops,hw,decide_eq_false_iff_not];intro hky;have hlt:(hm k+t)%s.a<s.a:=fE _ (by omega);have:=h.uni _ _ _ _ hlt hj hw hx (by rw[hky,hk]);rw[<-e,<-wU hz hj]at this;have:=KO hz (by omega) hcj this;omega
theorem Tab.ahB(h:Tab kf hm s){k:κ}(hno:∀j x,j<s.a->fH s j=some x->kf x≠k):∃d,Found hm kf s k d/\fH s ((hm k+d)%s.a)=none:=by
 obtain⟨z,hz,hf,hl⟩:=h.lin;have hy:=h.hom k;have hN:0<s.a:=by omega
 have st:∀i,i<s.a->(stops (kf:=kf) s k i=true↔fH s i=none):=by
  intro i hi;unfold stops;cases hw:fH s i with
  | none=>simp
  | some x=>simpa using hno i x hi hw
 have ex:∃d,d<s.a/\stops (kf:=kf) s k ((hm k+d)%s.a)=true:=by
  have hd:(hm k+(if hm k<=z then z-hm k else z+s.a-hm k))%s.a=z:=by
   rw[wT (by split<;>omega)];repeat' split
   all_goals omega
  refine⟨if hm k<=z then z-hm k else z+s.a-hm k,by split<;>omega,?_⟩;rw[hd,st z hz];exact hf
 have least:∀n,(∃d,d<n/\d<s.a/\stops (kf:=kf) s k ((hm k+d)%s.a)=true)->∃d,d<s.a/\stops (kf:=kf) s k ((hm k+d)%s.a)=true/\∀t,t<d->stops (kf:=kf) s k ((hm k+t)%s.a)=false:=by
  intro n
  induction n with
  | zero=>rintro⟨d,hd,_⟩;omega
  | succ n ih=>
    rintro⟨d,hd,hd2,hd3⟩;by_cases hc:∃d,d<n/\d<s.a/\stops (kf:=kf) s k ((hm k+d)%s.a)=true
    ·exact ih hc
    ·refine⟨d,hd2,hd3,fun t ht=>?_⟩
     cases hs:stops (kf:=kf) s k ((hm k+t)%s.a)with
     | false=>rfl
     | true=>exact absurd ⟨t,by omega,by omega,hs⟩ hc
 obtain⟨d,hd⟩:=ex;obtain⟨e,e1,e2,e3⟩:=least s.a ⟨d,hd.1,hd.1,hd.2⟩;exact⟨e,⟨e1,e2,e3⟩,(st _ (fE _ hN)).1 e2⟩
theorem Found.IL{k:κ}{d e:Nat}(h:Found hm kf s k d)(g:Found hm kf s k e):d=e:=by
 rcases Nat.lt_trichotomy d e with h1|h1|h1
 ·have:=g.2.2 d h1;rw[h.2.1]at this;cases this
 ·exact h1
 ·have:=h.2.2 e h1;rw[g.2.1]at this;cases this
theorem Tab.found(h:Tab kf hm s)(k:κ):∃d,Found hm kf s k d:=by
 by_cases hc:∃j x,j<s.a/\fH s j=some x/\kf x=k
 ·obtain⟨j,x,h1,h2,h3⟩:=hc
  obtain⟨d,hd,_⟩:=h.aaS h1 h2 h3;exact⟨d,hd⟩
 ·obtain⟨d,hd,_⟩:=h.ahB (k:=k) (fun j x h1 h2 h3=>hc ⟨j,x,h1,h2,h3⟩)
  exact⟨d,hd⟩
theorem Tab.put(h:Tab kf hm s){x:α}{d:Nat}(hd:Found hm kf s (kf x) d){z':Nat}(hz':z'<s.a)(hfree:fH s z'=none)(hne:z'≠(hm (kf x)+d)%s.a):
 Tab kf hm (s.set ((hm (kf x)+d)%s.a) (some x)):=by
 obtain⟨z,hz,hf,hl⟩:=h.lin;have hl:=hl.atM h.hom hz hf hz' hfree;have hy:=h.hom (kf x);have hN:0<s.a:=by omega
 have hj:(hm (kf x)+d)%s.a<s.a:=fE _ hN;have hstop:=hd.2.1;have hbef:=hd.2.2;have hdl:=hd.1;generalize hJ:(hm (kf x)+d)%s.a=j at *;refine⟨by simpa using h.hom,⟨z',by simpa using hz',by rw[GK _ _ _ _ hj,if_neg (jB hne)];exact hfree,?_⟩,?_⟩
 ·intro c y hc hyc
  simp only[aV]at hc hyc ⊢;have hkeep:∀q,fH s (yT s.a z' q)≠none->fH (s.set j (some x)) (yT s.a z' q)≠none:=by
   intro q hq;rw[GK _ _ _ _ hj];split
   ·simp
   ·exact hq
  rw[GK _ _ _ _ hj]at hyc;split at hyc
  ·rename_i hjc
   injection hyc with hyc;subst hyc
   have hcj:c=yU s.a z' j:=by rw[hjc,NT hz' hc]
   have asw:∀t,t<d->fH s ((hm (kf x)+t)%s.a)≠none:=by
    intro t ht hn;have:=hbef t ht;simp[stops,hn]at this
   have hzd:∀t,t<=d->(hm (kf x)+t)%s.a≠z':=by
    intro t ht e;rcases aZ t d with h1|h1
    ·exact asw t h1 (by rw[e];exact hfree)
    ·have:t=d:=by omega
     subst this;rw[hJ]at e;exact hne e.symm
   have hle:yU s.a z' (hm (kf x))+d<s.a:=by
    rcases aZ (yU s.a z' (hm (kf x))+d) s.a with h1|h1
    ·exact h1
    ·exfalso
     have hlt:=Ci hz' hy;refine hzd (s.a-yU s.a z' (hm (kf x))) (by omega) ?_;rw[wT (by omega)];unfold yU at *
     repeat' split
     all_goals(repeat' split at *)
     all_goals omega
   have e1:yT s.a z' (yU s.a z' (hm (kf x))+d)=j:=by
    rw[NU hz' hy (by omega) hle,<-hJ];congr 2;omega
   have e2:c=yU s.a z' (hm (kf x))+d:=KO hz' hc hle (by rw[e1,<-hjc]);refine⟨by omega,fun q h1 h2=>hkeep q ?_⟩;rw[NU hz' hy h1 (by omega)];exact asw _ (by omega)
  ·obtain⟨a,b⟩:=hl c y hc hyc
   exact⟨a,fun q h1 h2=>hkeep q (b q h1 h2)⟩
 ·intro i k y w hi hk hyi hwk he
  simp only[aV]at hi hk;rw[GK _ _ _ _ hj]at hyi hwk;have key:∀k w,k<s.a->fH s k=some w->kf w=kf x->k=j:=by
   intro k w hk hw he;obtain⟨e,he1,he2⟩:=h.aaS hk hw he;have:=he1.IL hd;subst this;rw[<-he2,hJ]
  split at hyi<;>split at hwk
  ·omega
  ·injection hyi with hyi;subst hyi
   have:=key k w hk hwk he.symm;omega
  ·injection hwk with hwk;subst hwk
   have:=key i y hi hyi he;omega
  ·exact h.uni i k y w hi hk hyi hwk he
def iA(s:List (Option α)):List α:=s.filterMap id
theorem zH(s:List (Option α)):∀(i:Nat)(x:α),i<s.a->(iA (s.set i (some x))).Perm (x::iA (s.set i none)):=by
 induction s with
 | nil=>intro i x h;simp at h
 | cons a s ih=>
   intro i x h;cases i with
   | zero=>simp[iA]
   | succ i=>
     have:=ih i x (by simpa using h);cases a with
     | none=>simpa[iA]using this
     | some a=>
       simp only[iA,bK,List.filterMap_cons,id]at this ⊢;exact(this.cons a).trans (List.Perm.swap x a _)
theorem adl(s:List (Option α))(i:Nat)(hi:i<s.a):s.set i (fH s i)=s:=by
 apply iR;intro j;rw[fI];split
 ·rename_i h;subst h;simp[hi,fH]
 ·rfl
theorem Qv(s:List (Option α))(i:Nat)(x:α)(hi:i<s.a)(hx:fH s i=some x):(iA s).Perm (x::iA (s.set i none)):=by
 have:=zH s i x hi
 rwa [<-hx,adl s i hi]at this
theorem MC(s:List (Option α))(i:Nat)(x:α)(hi:i<s.a)(hx:fH s i=none):(iA (s.set i (some x))).Perm (x::iA s):=by
 have:=zH s i x hi
 rwa [<-hx,adl s i hi]at this
theorem Qw{s:List (Option α)}{x:α}:x∈iA s↔∃i,i<s.a/\fH s i=some x:=by
 simp only[iA,List.mem_filterMap,id];constructor
 ·rintro⟨a,h1,rfl⟩
  obtain⟨i,hi,he⟩:=List.mem_iff_getElem.1 h1;exact⟨i,hi,by simp[fH,au,hi,he]⟩
 ·rintro⟨i,hi,he⟩
  refine⟨some x,?_,rfl⟩;rw[<-he];simp only[fH,au,aC hi,jY];exact fG hi
theorem al0(s:List (Option α)):(iA s).a<=s.a:=List.length_filterMap_le _ _
theorem ME(s:List (Option α)):(iA s).a<s.a↔∃i,i<s.a/\fH s i=none:=by
 induction s with
 | nil=>simp[iA]
 | cons a s ih=>
   cases a with
   | none=>exact⟨fun _=>⟨0,by simp,by simp[fH]⟩,fun _=>by have:=al0 s;simp[iA]at this⊢;omega⟩
   | some a=>
     have:(iA (some a::s)).a=(iA s).a+1:=by simp[iA]
     rw[this,bD];constructor
     ·intro h
      obtain⟨i,h1,h2⟩:=ih.1 (by omega);exact⟨i+1,by omega,by simpa[fH]using h2⟩
     ·rintro⟨i,h1,h2⟩
      cases i with
      | zero=>simp[fH]at h2
      | succ i=>
        have:=ih.2 ⟨i,by omega,by simpa[fH]using h2⟩;omega
structure Yc(kf:α->κ)(hm:κ->Nat)(z:Nat)(s:List (Option α))(a c:Nat)(L:List α):Prop where
 hom:∀k,hm k<s.a
 hz:z<s.a
 free:fH s z=none
 a0:0<a
 ac:a<c
 cN:c<=s.a
 lin:∀e x,e<s.a->e≠a->fH s (yT s.a z e)=some x->yU s.a z (hm (kf x))<=e/\∀q,yU s.a z (hm (kf x))<=q->q<e->(q≠a->fH s (yT s.a z q)≠none)/\(q=a->c<=e)
 adn:∀q,a<q->q<c->fH s (yT s.a z q)≠none
 uni:∀d e x y,d<s.a->e<s.a->d≠a->e≠a->fH s (yT s.a z d)=some x->fH s (yT s.a z e)=some y->kf x=kf y->d=e
 Qx:(iA (s.set (yT s.a z a) none)).Perm L
theorem Tab.aDb(h:Tab kf hm s){j:Nat}{x:α}(hj:j<s.a)(hx:fH s j=some x):∃z a,Yc kf hm z s a (a+1) (iA (s.set j none))/\yT s.a z a=j:=by
 obtain⟨z,hz,hf,hl⟩:=h.lin;have hne:j≠z:=by rintro rfl;rw[hf]at hx;cases hx
 have hlt:=Ci hz hj;have ej:=wU hz hj;refine⟨z,yU s.a z j,⟨h.hom,hz,hf,?_,by omega,by omega,?_,fun q h1 h2=>absurd h1 (by omega),?_,?_⟩,ej⟩
 ·unfold yU;split<;>omega
 ·intro e y he hea hy
  obtain⟨h1,h2⟩:=hl e y he hy;exact⟨h1,fun q h3 h4=>⟨fun _=>h2 q h3 h4,fun h5=>by omega⟩⟩
 ·intro d e y w hd he hda hea hy hw hk
  exact KO hz hd he (h.uni _ _ y w (Ch (by omega)) (Ch (by omega)) hy hw hk)
 ·rw[ej]
theorem Vs{s:List (Option α)}{z a e:Nat}(hz:z<s.a)(ha:a<s.a)(he:e<s.a)(v:Option α):fH (s.set (yT s.a z a) v) (yT s.a z e)=if a=e then v else fH s (yT s.a z e):=by
 rw[GK _ _ _ _ (Ch (by omega))];by_cases h:a=e
 ·subst h;simp
 ·rw[if_neg h,if_neg (fun e2=>h (KO hz ha he e2))]
theorem Yc.aDc{z a c:Nat}{L:List α}{x:α}(h:Yc kf hm z s a c L)(hc:c<s.a)(hx:fH s (yT s.a z c)=some x)(hlt:a<yU s.a z (hm (kf x))):Yc kf hm z s a (c+1) L:=by
 refine⟨h.hom,h.hz,h.free,h.a0,by have:=h.ac;omega,by omega,?_,?_,h.uni,h.Qx⟩
 ·intro e y he hea hy
  obtain⟨h1,h2⟩:=h.lin e y he hea hy;refine⟨h1,fun q h3 h4=>⟨(h2 q h3 h4).1,fun h5=>?_⟩⟩;have:=(h2 q h3 h4).2 h5;rcases aZ c e with h6|h6
  ·omega
  ·have:e=c:=by omega
   subst this;rw[hx]at hy;injection hy with hy;subst hy
   omega
 ·intro q h1 h2
  rcases aZ q c with h3|h3
  ·exact h.adn q h1 h3
  ·have:q=c:=by omega
   subst this;rw[hx];simp
theorem Yc.move{z a c:Nat}{L:List α}{x:α}(h:Yc kf hm z s a c L)(hc:c<s.a)(hx:fH s (yT s.a z c)=some x)(hle:yU s.a z (hm (kf x))<=a):Yc kf hm z (s.set (yT s.a z a) (some x)) c (c+1) L:=by
 have ha:a<s.a:=by have:=h.ac;omega
 have hac:=h.ac;have hz:=h.hz;have ca:∀e,e<s.a->∀v:Option α,fH (s.set (yT s.a z a) v) (yT s.a z e)=if a=e then v else fH s (yT s.a z e):=fun e he v=>Vs hz ha he v
 have z0:yT s.a z 0=z:=by rw[MB hz (by omega)];split<;>omega
 refine⟨by simpa using h.hom,by simpa using hz,?_,by omega,by omega,by simp;omega,?_,?_,?_,?_⟩
 ·have:=ca 0 (by omega) (some x)
  rw[z0,if_neg (by have:=h.a0;omega)]at this;rw[this];exact h.free
 ·intro e y he hec hy
  simp only[aV]at he hy ⊢;rw[ca e he]at hy;split at hy
  ·rename_i hae
   injection hy with hy;subst hy;subst hae
   refine⟨hle,fun q h3 h4=>⟨fun h5=>?_,fun h5=>by omega⟩⟩;rw[ca q (by omega),if_neg (by omega)];exact((h.lin c x hc (by omega) hx).2 q h3 (by omega)).1 (by omega)
  ·rename_i hae
   obtain⟨h1,h2⟩:=h.lin e y he (jB hae) hy;refine⟨h1,fun q h3 h4=>⟨fun h5=>?_,fun h5=>by omega⟩⟩;rw[ca q (by omega)];split
   ·simp
   ·exact(h2 q h3 h4).1 (by omega)
 ·intro q h1 h2;omega
 ·intro d e y w hd he hda hea hy hw hk
  simp only[aV]at hd he hy hw;rw[ca d hd]at hy;rw[ca e he]at hw;split at hy<;>split at hw
  ·omega
  ·injection hy with hy;subst hy
   have:=h.uni c e x w hc he (by omega) (by omega) hx hw hk;omega
  ·injection hw with hw;subst hw
   have:=h.uni d c y x hd hc (by omega) (by omega) hy hx hk;omega
  ·exact h.uni d e y w hd he (by omega) (by omega) hy hw hk
 ·have h1:=h.Qx
  have hci:=Ch (N:=s.a) (z:=z) (c:=c) (by omega);have hai:=Ch (N:=s.a) (z:=z) (c:=a) (by omega);have hne:yT s.a z a≠yT s.a z c:=fun e=>by have:=KO hz ha hc e;omega
  simp only[aV];rw[List.set_comm _ _ hne];refine List.Perm.trans (zH _ _ x (by simpa using hai)) ?_;rw[List.set_comm _ _ (jB hne)];refine List.Perm.trans (List.Perm.symm (Qv (s.set (yT s.a z a) none) _ x (by simpa using hci) ?_)) h1;rw[ca c hc,if_neg (by omega)];exact hx
theorem Yc.done{z a c:Nat}{L:List α}(h:Yc kf hm z s a c L)(hc:fH s (yT s.a z c)=none):Tab kf hm (s.set (yT s.a z a) none)/\(iA (s.set (yT s.a z a) none)).Perm L:=by
 have hcN:=h.cN;have hac:=h.ac;have ha:a<s.a:=by omega
 have hz:=h.hz;have ca:∀e,e<s.a->∀v:Option α,fH (s.set (yT s.a z a) v) (yT s.a z e)=if a=e then v else fH s (yT s.a z e):=fun e he v=>Vs hz ha he v
 have z0:yT s.a z 0=z:=by rw[MB hz (by omega)];split<;>omega
 refine⟨⟨by simpa using h.hom,⟨z,by simpa using hz,?_,?_⟩,?_⟩,h.Qx⟩
 ·have:=ca 0 (by omega) none
  rw[z0]at this;rw[this];split
  ·rfl
  ·exact h.free
 ·intro e y he hy
  simp only[aV]at he hy ⊢;rw[ca e he]at hy;split at hy
  ·cases hy
  ·rename_i hae
   obtain⟨h1,h2⟩:=h.lin e y he (jB hae) hy;refine⟨h1,fun q h3 h4=>?_⟩;rw[ca q (by omega)];have hqa:a≠q:=by
    intro hq;have h5:=(h2 q h3 h4).2 hq.symm;rcases aZ c e with h6|h6
    ·exact(h2 c (by omega) h6).1 (by omega) hc
    ·have:e=c:=by omega
     subst this;rw[hc]at hy;cases hy
   rw[if_neg hqa];exact(h2 q h3 h4).1 (jB hqa)
 ·intro i k y w hi hk hy hw he
  simp only[aV]at hi hk;rw[<-wU hz hi,ca _ (Ci hz hi)]at hy;rw[<-wU hz hk,ca _ (Ci hz hk)]at hw;split at hy
  ·cases hy
  ·split at hw
   ·cases hw
   ·have:=h.uni _ _ y w (Ci hz hi) (Ci hz hk) (by omega) (by omega) hy hw he
    rw[<-wU hz hi,<-wU hz hk,this]
theorem ado{N z c d:Nat}(hz:z<N)(hd:d<=c)(hc:c<N):(yT N z c+N-yT N z d)%N=c-d:=by
 have h1:=Ch (N:=N) (z:=z) (c:=c) (by omega);have h2:=Ch (N:=N) (z:=z) (c:=d) (by omega);rw[wT (by omega)];rw[MB hz hc,MB hz (by omega)]
 repeat' split
 all_goals omega
theorem ajh{N z c y:Nat}(hz:z<N)(hy:y<N)(hd:yU N z y<=c)(hc:c<N):(yT N z c+N-y)%N=c-yU N z y:=by
 have:=ado hz hd hc
 rwa [wU hz hy]at this
theorem adp{N z c:Nat}(hz:z<N)(hc:c<N):(yT N z c+1)%N=yT N z (c+1):=by unfold yT;rw[Nat.mod_add_mod,nP]
theorem Tab.new{N:Nat}(hN:0<N)(h:∀k,hm k<N):Tab kf hm (dY N (none:Option α)):=by
 have e:∀i,fH (dY N (none:Option α)) i=none:=by
  intro i;unfold fH;rw[au,List.getElem?_replicate];split<;>rfl
 refine⟨by simpa using h,⟨0,by simpa using hN,e 0,fun c x _ hx=>?_⟩,fun i j x y _ _ hx=>?_⟩<;>(rw[e]at hx;cases hx)
theorem Vt(N:Nat):iA (dY N (none:Option α))=[]:=by induction N<;>simp_all[iA,List.replicate_succ]
end
section
variable {α:Type} (lt:α->α->Bool)
def Asc(l:List α):Prop:=l.Pairwise fun x y=>lt x y=true
structure Jw:Prop where
 irr:∀x,lt x x=false
 tr:∀x y z,lt x y=true->lt y z=true->lt x z=true
variable {lt}
theorem Jw.asy(h:Jw lt){x y:α}(h1:lt x y=true):lt y x=false:=by
 cases h2:lt y x with
 | false=>rfl
 | true=>have:=h.tr _ _ _ h1 h2;rw[h.irr]at this;cases this
theorem Asc.eq(h:Jw lt):∀{l m:List α},Asc lt l->Asc lt m->l.Perm m->l=m
 | [],m,_,_,p=>(List.Perm.nil_eq p)
 | x::l,[],_,_,p=>by simp at p
 | x::l,y::m,hl,hm,p=>by
   obtain⟨a1,a2⟩:=gT.1 hl;obtain⟨b1,b2⟩:=gT.1 hm;have hx:x∈y::m:=p.subset (by simp);have hy:y∈x::l:=p.symm.subset (by simp);have e:x=y:=by
    rcases bB.1 hx with hx|hx
    ·exact hx
    ·rcases bB.1 hy with hy|hy
     ·exact hy.symm
     ·have:=h.asy (a1 y hy);rw[b1 x hx]at this;cases this
   subst e;rw[Asc.eq h a2 b2 (List.Perm.cons_inv p)]
def ins(lt:α->α->Bool)(f:α):List α->List α
 | []=>[f]
 | x::l=>if lt f x then f::x::l else x::ins lt f l
theorem Cj(f:α):∀l:List α,(ins lt f l).Perm (f::l)
 | []=>.refl _
 | x::l=>by
   unfold ins;split
   ·exact .refl _
   ·exact((Cj f l).cons x).trans (.swap f x l)
theorem ahC(h:Jw lt){f:α}:∀{l:List α},Asc lt l->(∀x∈l,lt f x=true\/lt x f=true)->Asc lt (ins lt f l)
 | [],_,_=>by simp[ins,Asc]
 | x::l,hl,ht=>by
   obtain⟨a1,a2⟩:=gT.1 hl;unfold ins;split
   ·rename_i hfx
    exact gT.2 ⟨fun y hy=>by
     rcases bB.1 hy with rfl|hy
     ·exact hfx
     ·exact h.tr _ _ _ hfx (a1 y hy),hl⟩
   ·rename_i hfx
    have hxf:lt x f=true:=(ht x (by simp)).resolve_left hfx;refine gT.2 ⟨fun y hy=>?_,ahC h a2 fun y hy=>ht y (by simp[hy])⟩;rcases bB.1 ((Cj f l).subset hy)with rfl|hy
    ·exact hxf
    ·exact a1 y hy
theorem adq{f:α}:∀{l:List α},(∀x∈l,lt f x=false)->ins lt f l=l++[f]
 | [],_=>rfl
 | x::l,h=>by
   unfold ins;rw[if_neg (by rw[h x (by simp)];exact Bool.false_ne_true),adq fun y hy=>h y (by simp[hy])];rfl
theorem Asc.sub{l m:List α}(h:Asc lt l)(hs:m.Sublist l):Asc lt m:=List.Pairwise.sublist hs h
theorem Asc.apK{x:α}{l:List α}(h:Asc lt (x::l)){y:α}(hy:y∈l):lt x y=true:=(gT.1 h).1 y hy
def least(lt:α->α->Bool)(b:Option α)(x:α):Option α:=match b with|none=>some x|some y=>if lt x y then some x else some y
theorem adr(h:Jw lt){m:α}:∀(l:List α)(b:Option α),(m∈l\/b=some m)->(∀x∈l,x=m\/lt m x=true)->(∀y,b=some y->y=m\/lt m y=true)->l.foldl (least lt) b=some m
 | [],b,h1,_,_=>by simpa using h1
 | x::l,b,h1,h2,h3=>by
   rw[j3];refine adr h l _ ?_ (fun y hy=>h2 y (by simp[hy])) ?_
   ·rcases h1 with h1|rfl
    ·rcases bB.1 h1 with rfl|h1
     ·right
      cases b with
      | none=>rfl
      | some y=>
        unfold least;rcases h3 y rfl with rfl|h4
        ·simp
        ·simp[h4]
     ·exact .a h1
    ·right
     unfold least;rcases h2 x (by simp)with rfl|h4
     ·simp
     ·simp[h.asy h4]
   ·intro y hy
    cases b with
    | none=>injection hy with hy;subst hy;exact h2 x (by simp)
    | some z=>
      simp only[least]at hy;split at hy<;>(injection hy with hy;subst hy)
      ·exact h2 x (by simp)
      ·exact h3 z rfl
end
def MF(x k:Nat):Nat:=x*2^k%18446744073709551616 ||| x/2^(64-k)
theorem ayh(a b:Nat)(ha:a<18446744073709551616)(hb:b<18446744073709551616):a ||| b<18446744073709551616:=Nat.or_lt_two_pow (n:=64) ha hb
theorem yu(a b:Nat)(ha:a<18446744073709551616)(hb:b<18446744073709551616):a ^^^ b<18446744073709551616:=Nat.xor_lt_two_pow (n:=64) ha hb
theorem apL(x k:Nat)(hx:x<18446744073709551616):MF x k<18446744073709551616:=ayh _ _ (fE _ (by decide)) (Nat.lt_of_le_of_lt (Dc _ _) hx)
theorem ads(n:Nat):gB.d (n:Int)=((n%18446744073709551616:Nat):Int):=by
 rw[jh];omega
theorem aji(x k:Nat)(hx:x<18446744073709551616):bits .or .c (gB.d ((x:Int)*2^k)) ((x:Int)/2^(64-k))=((MF x k:Nat):Int):=by
 have h1:(x:Int)*2^k=((x*2^k:Nat):Int):=by simp
 have h2:(x:Int)/2^(64-k)=((x/2^(64-k):Nat):Int):=by simp
 rw[h1,h2,ads,bits_or_u64_nat _ _ (fE _ (by decide)) (Nat.lt_of_le_of_lt (Dc _ _) hx)];rfl
theorem Fj(x k:Nat)(hx:x<18446744073709551616)(hk:k∈[13,16,17,21,32])(W:ak):aP ah 254 #[.b .c x,.b .a k] W fun e W'=>e=.a (.b .c (MF x k:Nat))/\W=W':=by
 have h:=aji x k hx;have H1:bits .and .c (k:Int) 63=(k:Int):=(by decide +kernel:∀k∈([13,16,17,21,32]:List Nat),bits .and .c (k:Int) 63=(k:Int)) k hk;have H2:gB.d (64-(k:Int))=((64-k:Nat):Int):=(by decide +kernel:∀k∈([13,16,17,21,32]:List Nat),gB.d (64-(k:Int))=((64-k:Nat):Int)) k hk;have hk1:(k:Int)<64:=by simp at hk;omega
 have hk2:0<k:=by simp at hk;omega
 go_enter Tryz.func254,Tryz.ntmps254;go_wp2;go_ret;exact⟨by rw[<-h];rfl,rfl⟩
structure S4 where
 a:Nat
 b:Nat
 c:Nat
 d:Nat
def S4.ay(s:S4):Array aB:=#[.b .c s.a,.b .c s.b,.b .c s.c,.b .c s.d]
@[go_sem]theorem S4.nS(s:S4):s.ay[0]? = some (.b .c s.a):=rfl
@[go_sem]theorem S4.DK(s:S4):s.ay[1]? = some (.b .c s.b):=rfl
@[go_sem]theorem S4.RV(s:S4):s.ay[2]? = some (.b .c s.c):=rfl
@[go_sem]theorem S4.adt(s:S4):s.ay[3]? = some (.b .c s.d):=rfl
def S4.Y(s:S4):Prop:=s.a<18446744073709551616/\s.b<18446744073709551616/\s.c<18446744073709551616/\s.d<18446744073709551616
def addN(a b:Nat):Nat:=(a+b)%18446744073709551616
def Ll(s:S4):S4:=
 let a:=addN s.a s.b
 let b:=MF s.b 13 ^^^ a
 let a:=MF a 32
 let c:=addN s.c s.d
 let d:=MF s.d 16 ^^^ c
 let a:=addN a d
 let d:=MF d 21 ^^^ a
 let c:=addN c b
 let b:=MF b 17 ^^^ c
 ⟨a,b,MF c 32,d⟩
theorem apM(a b:Nat):addN a b<18446744073709551616:=fE _ (by decide)
theorem GL(a b:Nat):gB.d ((a:Int)+(b:Int))=((addN a b:Nat):Int):=by rw[<-Int.natCast_add,ads];rfl
theorem qp(a b:Nat)(ha:a<18446744073709551616)(hb:b<18446744073709551616):bits .xor .c (a:Int) (b:Int)=((a ^^^ b:Nat):Int):=bits_xor_u64_nat _ _ ha hb
theorem YO(s:S4)(h:s.Y):∃a1 b1 a2 c1 d1 a3 d2 c2 b2 c3 r13 r16 r21 r17:Nat,Ll s=⟨a3,b2,c3,d2⟩ /\
 gB.d ((s.a:Int)+(s.b:Int))=(a1:Int)/\a1<18446744073709551616/\MF s.b 13=r13/\bits .xor .c (r13:Int) (a1:Int)=(b1:Int)/\b1<18446744073709551616/\MF a1 32=a2/\a2<18446744073709551616 /\
 gB.d ((s.c:Int)+(s.d:Int))=(c1:Int)/\c1<18446744073709551616/\MF s.d 16=r16/\bits .xor .c (r16:Int) (c1:Int)=(d1:Int)/\d1<18446744073709551616 /\
 gB.d ((a2:Int)+(d1:Int))=(a3:Int)/\a3<18446744073709551616/\MF d1 21=r21/\bits .xor .c (r21:Int) (a3:Int)=(d2:Int)/\d2<18446744073709551616 /\
 gB.d ((c1:Int)+(b1:Int))=(c2:Int)/\c2<18446744073709551616/\MF b1 17=r17/\bits .xor .c (r17:Int) (c2:Int)=(b2:Int)/\b2<18446744073709551616/\MF c2 32=c3/\c3<18446744073709551616:=by
 obtain⟨h1,h2,h3,h4⟩:=h;have R:=apL;have A:=apM;have X:=yu;refine⟨_,_,_,_,_,_,_,_,_,_,_,_,_,_,rfl,GL _ _,A _ _,rfl,qp _ _ (R _ _ h2) (A _ _),X _ _ (R _ _ h2) (A _ _),rfl,R _ _ (A _ _),GL _ _,A _ _,rfl,qp _ _ (R _ _ h4) (A _ _),X _ _ (R _ _ h4) (A _ _),GL _ _,A _ _,rfl,
  qp _ _ (R _ _ (X _ _ (R _ _ h4) (A _ _))) (A _ _),X _ _ (R _ _ (X _ _ (R _ _ h4) (A _ _))) (A _ _),GL _ _,A _ _,rfl,qp _ _ (R _ _ (X _ _ (R _ _ h2) (A _ _))) (A _ _),X _ _ (R _ _ (X _ _ (R _ _ h2) (A _ _))) (A _ _),rfl,R _ _ (A _ _)⟩
theorem dM.num{W:ak}{p:Nat}{s:S4}(h:dM W p s.ay):W.b ⟨p,0,none⟩=some (.b .c s.a)/\W.b ⟨p,1,none⟩=some (.b .c s.b)/\W.b ⟨p,2,none⟩=some (.b .c s.c)/\W.b ⟨p,3,none⟩=some (.b .c s.d)/\(∀j,W.frozen? ⟨p,j,none⟩=false):=by
 obtain⟨h1,h2,_⟩:=h.J;exact⟨h1 0,h1 1,h1 2,h1 3,h2⟩
def zU{α:Type}(f:α->α):Nat->α->α
 | 0,s=>s
 | n+1,s=>zU f n (f s)
theorem ahD{α:Type}(f:α->α)(n:Nat)(s:α):zU f (n+1) s=zU f n (f s):=rfl
theorem ahE{α:Type}(f:α->α)(s:α):zU f 0 s=s:=rfl
theorem ahF(s:S4)(h:s.Y):(Ll s).Y:=by
 obtain⟨a1,b1,a2,c1,d1,a3,d2,c2,b2,c3,r13,r16,r21,r17,h0,e1,l1,e2,e3,l3,e4,l4,e5,l5,e6,e7,l7,e8,l8,e9,e10,l10,e11,l11,e12,e13,l13,e14,l14⟩:=YO s h;rw[h0];exact⟨l8,l13,l14,l10⟩
theorem ahG(w:ak)(row:Option Nat):w.d w row:=⟨rfl,rfl,rfl,av _,fun _ _ _=>rfl⟩
theorem dM.p0{W:ak}{p a b c d:Nat}(h:dM W p (S4.mk a b c d).ay)(x:Nat):dM (W.F ⟨p,0,none⟩ (.b .c x)) p (S4.mk x b c d).ay:=h.eX 0 _
theorem dM.p1{W:ak}{p a b c d:Nat}(h:dM W p (S4.mk a b c d).ay)(x:Nat):dM (W.F ⟨p,1,none⟩ (.b .c x)) p (S4.mk a x c d).ay:=h.eX 1 _
theorem dM.p2{W:ak}{p a b c d:Nat}(h:dM W p (S4.mk a b c d).ay)(x:Nat):dM (W.F ⟨p,2,none⟩ (.b .c x)) p (S4.mk a b x d).ay:=h.eX 2 _
theorem dM.p3{W:ak}{p a b c d:Nat}(h:dM W p (S4.mk a b c d).ay)(x:Nat):dM (W.F ⟨p,3,none⟩ (.b .c x)) p (S4.mk a b c x).ay:=h.eX 3 _
theorem afM(n:Nat)(hn:n<=4)(p:Nat)(s:S4)(hs:s.Y)(W:ak)(hb:dM W p s.ay):aP ah 183 #[.c (some ⟨p,0,none⟩),.b .a n] W fun e W'=>e=.a (.I #[])/\dM W' p (zU Ll n s).ay/\W.d W' (some p):=by
 have HB:=ab hb;clear hb;go_enter Tryz.func183,Tryz.ntmps183;go_wp2;go_loopw [5] (fun s5 wr=>∃(k:Nat)(x:S4),k<=n/\s5=.b .a k/\x.Y/\dM wr p x.ay/\W.d wr (some p)/\zU Ll n s=zU Ll (n-k) x) (fun s5 _=>n-(intOf s5).g)
 case atStart=>exact⟨0,s,by omega,rfl,hs,HB.i,ahG _ _,by rw[Nat.sub_zero]⟩
 case round=>
  obtain⟨k,x,hk,rfl,hx,hbx,hg,GN⟩:=hrel;have HI:=ab GN;have HG:=ab hg;have HX:=ab hbx;clear hg GN hbx;by_cases hlt:k<n
  ·obtain⟨a1,b1,a2,c1,d1,a3,d2,c2,b2,c3,r13,r16,r21,r17,h0,e1,l1,e2,e3,l3,e4,l4,e5,l5,e6,e7,l7,e8,l8,e9,e10,l10,e11,l11,e12,e13,l13,e14,l14⟩:=YO x hx
   have HE:=ab (show zU Ll n s=zU Ll (n-(k+1)) (Ll x)by rw[HI.i,show n-k=n-(k+1)+1 by omega,ahD]);rw[h0]at HE;have OK:=ab (show(S4.mk a3 b2 c3 d2).Y by rw[<-h0];exact ahF x hx);obtain⟨a,b,c,d⟩:=x;obtain⟨y1,y2,y3,y4,y5⟩:=HX.i.num;obtain⟨k1,k2,k3,k4⟩:=hx;simp only at e1 e2 e3 e4 e5 e6 e7 e8 e9 e10 e11 e12 e13 e14 y1 y2 y3 y4 k1 k2 k3 k4;have hlt2:(k:Int)<n:=by omega
   clear h0 HI;go_wp2_with fail;go_region;have X0:=ab ((HX.i.p0 a1).drew);have G0:=ab (AX (xZ HG.i (p:=⟨p,0,none⟩) (.a rfl) (.b .c (a1:Nat))));generalize(wr.F ⟨p,0,none⟩ (.b .c (a1:Nat))).drew=w0 at X0 G0 ⊢;clear y1 y2 y3 y4 y5 HX HG;obtain⟨y1,y2,y3,y4,y5⟩:=X0.i.num;simp only at y1 y2 y3 y4;have C:=ab (fun W=>e2 ▸ Fj b 13 k2 (by simp) W);go_wp2_with fail;go_cut []from 18 to 30 (fun wx=>dM wx p (S4.mk a1 b1 c d).ay/\W.d wx (some p))
   case first=>
    go_region_law (first|(go_simp;(go_at_call 254;refine(C.i _).e ?_;rintro e w' ⟨rfl,rfl⟩)))
    all_goals
     go_wp2_with fail;go_meet
     case rel=>exact⟨(X0.i.p1 b1).drew,AX (xZ G0.i (p:=⟨p,1,none⟩) (.a rfl) (.b .c (b1:Nat)))⟩
   obtain⟨X1,G1⟩:=hcut;have X1:=ab X1;have G1:=ab G1;generalize wc=w1 at X1 G1 ⊢;clear y1 y2 y3 y4 y5 X0 G0;obtain⟨y1,y2,y3,y4,y5⟩:=X1.i.num;simp only at y1 y2 y3 y4;have C:=ab (fun W=>e4 ▸ Fj a1 32 l1 (by simp) W);go_wp2_with (go_at_call 254;refine(C.i _).e ?_;rintro e w' ⟨rfl,rfl⟩);have X2:=ab ((X1.i.p0 a2));have G2:=ab ((xZ G1.i (p:=⟨p,0,none⟩) (.a rfl) (.b .c (a2:Nat))));generalize(w1.F ⟨p,0,none⟩ (.b .c (a2:Nat)))=w2 at X2 G2 ⊢;clear y1 y2 y3 y4 y5 X1 G1;obtain⟨y1,y2,y3,y4,y5⟩:=X2.i.num;simp only at y1 y2 y3 y4;go_wp2_with fail;go_region;have X3:=ab ((X2.i.p2 c1).drew);have G3:=ab (AX (xZ G2.i (p:=⟨p,2,none⟩) (.a rfl) (.b .c (c1:Nat))));generalize(w2.F ⟨p,2,none⟩ (.b .c (c1:Nat))).drew=w3 at X3 G3 ⊢;clear y1 y2 y3 y4 y5 X2 G2;obtain⟨y1,y2,y3,y4,y5⟩:=X3.i.num;simp only at y1 y2 y3 y4;have C:=ab (fun W=>e6 ▸ Fj d 16 k4 (by simp) W);go_wp2_with fail;go_cut []from 50 to 62 (fun wx=>dM wx p (S4.mk a2 b1 c1 d1).ay/\W.d wx (some p))
   case first=>
    go_region_law (first|(go_simp;(go_at_call 254;refine(C.i _).e ?_;rintro e w' ⟨rfl,rfl⟩)))
    all_goals
     go_wp2_with fail;go_meet
     case rel=>exact⟨(X3.i.p3 d1).drew,AX (xZ G3.i (p:=⟨p,3,none⟩) (.a rfl) (.b .c (d1:Nat)))⟩
   obtain⟨X4,G4⟩:=hcut;have X4:=ab X4;have G4:=ab G4;generalize wc=w4 at X4 G4 ⊢;clear y1 y2 y3 y4 y5 X3 G3;obtain⟨y1,y2,y3,y4,y5⟩:=X4.i.num;simp only at y1 y2 y3 y4;go_wp2_with fail;go_region;have X5:=ab ((X4.i.p0 a3).drew);have G5:=ab (AX (xZ G4.i (p:=⟨p,0,none⟩) (.a rfl) (.b .c (a3:Nat))));generalize(w4.F ⟨p,0,none⟩ (.b .c (a3:Nat))).drew=w5 at X5 G5 ⊢;clear y1 y2 y3 y4 y5 X4 G4;obtain⟨y1,y2,y3,y4,y5⟩:=X5.i.num;simp only at y1 y2 y3 y4;have C:=ab (fun W=>e9 ▸ Fj d1 21 l7 (by simp) W);go_wp2_with fail;go_cut []from 74 to 86 (fun wx=>dM wx p (S4.mk a3 b1 c1 d2).ay/\W.d wx (some p))
   case first=>
    go_region_law (first|(go_simp;(go_at_call 254;refine(C.i _).e ?_;rintro e w' ⟨rfl,rfl⟩)))
    all_goals
     go_wp2_with fail;go_meet
     case rel=>exact⟨(X5.i.p3 d2).drew,AX (xZ G5.i (p:=⟨p,3,none⟩) (.a rfl) (.b .c (d2:Nat)))⟩
   obtain⟨X6,G6⟩:=hcut;have X6:=ab X6;have G6:=ab G6;generalize wc=w6 at X6 G6 ⊢;clear y1 y2 y3 y4 y5 X5 G5;obtain⟨y1,y2,y3,y4,y5⟩:=X6.i.num;simp only at y1 y2 y3 y4;go_wp2_with fail;go_region;have X7:=ab ((X6.i.p2 c2).drew);have G7:=ab (AX (xZ G6.i (p:=⟨p,2,none⟩) (.a rfl) (.b .c (c2:Nat))));generalize(w6.F ⟨p,2,none⟩ (.b .c (c2:Nat))).drew=w7 at X7 G7 ⊢;clear y1 y2 y3 y4 y5 X6 G6;obtain⟨y1,y2,y3,y4,y5⟩:=X7.i.num;simp only at y1 y2 y3 y4;have C:=ab (fun W=>e12 ▸ Fj b1 17 l3 (by simp) W);go_wp2_with fail;go_cut []from 98 to 110 (fun wx=>dM wx p (S4.mk a3 b2 c2 d2).ay/\W.d wx (some p))
   case first=>
    go_region_law (first|(go_simp;(go_at_call 254;refine(C.i _).e ?_;rintro e w' ⟨rfl,rfl⟩)))
    all_goals
     go_wp2_with fail;go_meet
     case rel=>exact⟨(X7.i.p1 b2).drew,AX (xZ G7.i (p:=⟨p,1,none⟩) (.a rfl) (.b .c (b2:Nat)))⟩
   obtain⟨X8,G8⟩:=hcut;have X8:=ab X8;have G8:=ab G8;generalize wc=w8 at X8 G8 ⊢;clear y1 y2 y3 y4 y5 X7 G7;obtain⟨y1,y2,y3,y4,y5⟩:=X8.i.num;simp only at y1 y2 y3 y4;have C:=ab (fun W=>e14 ▸ Fj c2 32 l11 (by simp) W);go_wp2_with (go_at_call 254;refine(C.i _).e ?_;rintro e w' ⟨rfl,rfl⟩);have X9:=ab ((X8.i.p2 c3));have G9:=ab ((xZ G8.i (p:=⟨p,2,none⟩) (.a rfl) (.b .c (c3:Nat))));generalize(w8.F ⟨p,2,none⟩ (.b .c (c3:Nat)))=w9 at X9 G9 ⊢;clear y1 y2 y3 y4 y5 X8 G8;go_wp2;go_roundw
   case rel=>exact⟨k+1,_,by omega,by go_num,OK.i,X9.i,G9.i,HE.i⟩
   case measure=>simp[intOf]<;>omega
  ·have hlt2:¬(k:Int)<n:=by omega
   obtain rfl:k=n:=by omega
   have HI:=ab (show zU Ll k s=x by rw[HI.i,Nat.sub_self,ahE]);go_wp2;go_end0;exact⟨rfl,by rw[HI.i];exact HX.i,HG.i⟩
def leN(l:List UInt8):Nat:=oP l.reverse
theorem afN(l:List UInt8):leN l<256^l.a:=by have:=Kv l.reverse;rwa [List.length_reverse]at this
theorem KQ(l:List UInt8)(h:l.a<=8):leN l<18446744073709551616:=eF (afN l) (kX (by decide) h:256^l.a<=256^8)
def Qy:Nat->List UInt8->Nat->List Nat
 | 0,l,e=>[leN l+e*72057594037927936]
 | k+1,l,e=>leN (l.d 8)::Qy k (l.f 8) e
def atO(s:S4)(n:Nat):S4:=⟨s.a ^^^ n,s.b,s.c,s.d⟩
def al1(s:S4)(n:Nat):S4:=⟨s.a,s.b,s.c,s.d ^^^ n⟩
def al2(s:S4)(n:Nat):S4:=⟨s.a,s.b,s.c ^^^ n,s.d⟩
def atP(s:S4):Nat:=s.a ^^^ s.b ^^^ s.c ^^^ s.d
def Vu(s:S4)(n:Nat):S4:=atO (zU Ll 2 (al1 s n)) n
def apN(k:Vector UInt8 16):S4:=⟨leN (k.a.d 8) ^^^ 8317987319222330741,leN (k.a.f 8) ^^^ 7237128888997146477,leN (k.a.d 8) ^^^ 7816392313619706465,leN (k.a.f 8) ^^^ 8387220255154660723⟩
def al3(s:S4):Nat:=atP (zU Ll 4 (al2 s 255))
def yw(k:Vector UInt8 16)(l:List UInt8):Nat:=al3 ((Qy (l.a/8) l (l.a%256)).foldl Vu (apN k))
theorem NV(n:Nat):∀s:S4,s.Y->(zU Ll n s).Y:=by
 induction n with
 | zero=>intro s h;rw[ahE];exact h
 | succ n ih=>intro s h;rw[ahD];exact ih _ (ahF s h)
theorem apO{s:S4}(h:s.Y){n:Nat}(hn:n<18446744073709551616):(atO s n).Y:=⟨yu _ _ h.1 hn,h.2.1,h.2.2.1,h.2.2.2⟩
theorem ahH{s:S4}(h:s.Y){n:Nat}(hn:n<18446744073709551616):(al1 s n).Y:=⟨h.1,h.2.1,h.2.2.1,yu _ _ h.2.2.2 hn⟩
theorem aaU{s:S4}(h:s.Y){n:Nat}(hn:n<18446744073709551616):(al2 s n).Y:=⟨h.1,h.2.1,yu _ _ h.2.2.1 hn,h.2.2.2⟩
theorem apP{s:S4}(h:s.Y):atP s<18446744073709551616:=yu _ _ (yu _ _ (yu _ _ h.1 h.2.1) h.2.2.1) h.2.2.2
theorem aaV{s:S4}(h:s.Y){n:Nat}(hn:n<18446744073709551616):(Vu s n).Y:=apO (NV 2 _ (ahH h hn)) hn
theorem ahI(k:Vector UInt8 16):(apN k).Y:=by
 have h1:=KQ (k.a.d 8) (by simp);have h2:=KQ (k.a.f 8) (by simp);exact⟨yu _ _ h1 (by decide),yu _ _ h2 (by decide),yu _ _ h1 (by decide),yu _ _ h2 (by decide)⟩
theorem YP:∀(k:Nat)(l:List UInt8)(e:Nat),l.a/8=k->e<256->∀n∈Qy k l e,n<18446744073709551616
 | 0,l,e,h,he,n,hn=>by
   have h1:=afN l;have h2:256^l.a<=256^7:=kX (by decide) (by omega);simp only[Qy,List.mem_singleton]at hn;omega
 | k+1,l,e,h,he,n,hn=>by
   rcases bB.1 hn with rfl|hn
   ·exact KQ _ (by simp;omega)
   ·exact YP k (l.f 8) e (by simp;omega) he n hn
def aaW(w:ak)(B:Nat)(A:Option aT)(n:Nat)(ls:List (List UInt8)):Prop:=Rd w B 1 A n (ls.map fun s=>.g (bP s))
theorem aaW.len{w:ak}{B n:Nat}{A:Option aT}{ls:List (List UInt8)}(h:aaW w B A n ls):ls.a=n:=by have:=h.1;simpa using this
theorem aaW.fH{w:ak}{B n:Nat}{A:Option aT}{ls:List (List UInt8)}(h:aaW w B A n ls){k:Nat}(hk:k<n):∃a,A=some a/\a.block<B/\w.b (a.add k)=some (.g (bP (ls.b k []))):=by
 obtain⟨a,u,e,hb,hu,hc⟩:=Rd.pick h hk;refine⟨a,e,hb,?_⟩;rw[hc];have hl:=h.len;rw[iy,aC (by omega)]at hu;simp only[mE,rJ]at hu;rw[<-hu,au,aC (by omega)];rfl
def xM(ls:List (List UInt8))(s:List UInt8):Bool:=(bY ls.a).any fun i=>ls.b i []==s
theorem al4{ls:List (List UInt8)}{s:List UInt8}{i:Nat}(hi:i<ls.a)(h:ls.b i []=s):xM ls s=true:=by
 unfold xM;rw[List.any_eq_true];exact⟨i,dV.2 hi,by rw[h];simp⟩
theorem al5{ls:List (List UInt8)}{s:List UInt8}(h:∀i,i<ls.a->ls.b i []≠s):xM ls s=false:=by
 unfold xM;rw[List.any_eq_false];intro i hi;simpa using h i (dV.1 hi)
theorem afO(ls:List (List UInt8))(s:List UInt8)(A:Option aT)(c:Nat)(w:ak)(hR:aaW w w.a.j A ls.a ls)(hn:ls.a<4611686018427387904):
 aP ah 172 #[.a A ls.a c,.g (bP s)] w fun e w'=>∃r:Int,e=.a (.b .a r)/\decide (0<=r)=xM ls s/\w=w':=by
 have HR:=ab hR;clear hR;obtain⟨n,hnl⟩:=bZ ls.a;rw[<-hnl]at HR hn ⊢;have HN:=ab hnl;clear hnl;go_enter Tryz.func172,Tryz.ntmps172;go_wp2;go_loop [8] (fun s8=>∃i:Nat,i<=n/\s8=.b .a i/\∀k,k<i->ls.b k []≠s) (fun s8=>n-(intOf s8).g)
 case atStart=>exact⟨0,by omega,rfl,fun k hk=>by omega⟩
 case round=>
  obtain⟨i,hin,rfl,hno⟩:=hrel;have Gy:=ab hno;clear hno;by_cases hlt:i<n
  ·have hi:(i:Int)<n:=by omega
   obtain⟨a,rfl,hbb,hc⟩:=HR.i.fH hlt;clear hbb;obtain⟨pn,hp⟩:=bZ (ls.b i []);rw[<-hp]at hc;have HP:=ab hp;clear hp;by_cases hq:pn=s
   ·have hbq:(s==pn)=true:=by rw[hq];simp
    have hpos:xM ls s=true:=al4 (i:=i) (by have:=HN.i;omega) (by rw[<-HP.i,hq]);have Vv:=ab hpos;clear hpos hq;go_wp2;go_ret;exact⟨_,rfl,by rw[Vv.i];simp,rfl⟩
   ·have hbq:(s==pn)=false:=by simpa using(fun h:s=pn=>hq h.symm)
    have HQ:=ab hq;clear hq;go_wp2;go_round
    case rel=>exact⟨i+1,by omega,by go_num,fun k hk=>by
     by_cases hki:k=i
     ·rw[hki,<-HP.i];exact HQ.i
     ·exact Gy.i k (by omega)⟩
    case measure=>simp[intOf]<;>omega
  ·obtain rfl:i=n:=by omega
   have hpos:xM ls s=false:=al5 (fun k hk=>Gy.i k (by have:=HN.i;omega));have Vv:=ab hpos;clear hpos;have hd:decide ((i:Int)<i)=false:=by simp
   go_wp2;go_ret;exact⟨_,rfl,by rw[Vv.i];simp,rfl⟩
theorem NW(ls:List (List UInt8))(s:List UInt8)(A:Option aT)(c:Nat)(w:ak)(hR:aaW w w.a.j A ls.a ls)(hn:ls.a<4611686018427387904):
 aP ah 87 #[.a A ls.a c,.g (bP s)] w fun e w'=>e=.a (.e (xM ls s))/\w=w':=by
 have HR:=ab hR;clear hR;go_enter Tryz.func87,Tryz.ntmps87;go_wp2_with (go_at_call 172;refine(afO ls s A c _ HR.i hn).e ?_;rintro e w' ⟨r,rfl,hr,rfl⟩;have HD:=ab hr;clear hr);go_ret;exact⟨by rw[<-HD.i];rfl,rfl⟩
def vO(a b:Nat):Nat:=if a+b>65535 then a+b-65535 else a+b
theorem GQ{a b:Nat}(h:a<=65535)(g:b<=65535):vO a b<=65535:=by unfold vO;split<;>omega
def words:List UInt8->List Nat
 | []=>[]
 | [a]=>[256*a.g]
 | a::b::l=>(256*a.g+b.g)::words l
def NY(n:Nat)(l:List UInt8):Nat:=(words l).foldl vO n
def xA(l:List UInt8):Nat:=65535-NY 0 l
def inS(s:Nat×Bool)(c:UInt8):Nat×Bool:=(vO s.1 (if s.2 then c.g else 256*c.g),!s.2)
theorem al6(n a b:Nat)(hn:n<=65535)(ha:a<256)(hb:b<256):vO (vO n (256*a)) b=vO n (256*a+b):=by
 unfold vO;repeat' split
 all_goals omega
theorem YQ:∀(l:List UInt8)(n:Nat),n<=65535->l.foldl inS (n,false)=(NY n l,decide (l.a%2=1))
 | [],n,_=>rfl
 | [a],n,h=>by simp[inS,NY,words]
 | a::b::l,n,h=>by
   have ha:=a.a;have hb:=b.a;have:=YQ l (vO n (256*a.g+b.g)) (GQ h (by omega));simp only[j3,inS,if_neg Bool.false_ne_true,Bool.not_false,if_pos,sQ,if_true,bD,al6 n _ _ h ha hb,this,Prod.mk.injEq];refine⟨by simp[NY,words],by congr 1;rw[eq_iff_iff];omega⟩
theorem aaX:∀(l:List UInt8)(n:Nat),n<=65535->NY n l<=65535
 | [],n,h=>h
 | [a],n,h=>by have:=a.a;exact GQ h (by omega)
 | a::b::l,n,h=>by
   have ha:=a.a;have hb:=b.a;exact aaX l (vO n (256*a.g+b.g)) (GQ h (by omega))
theorem atQ(l:List UInt8):∀s:Nat×Bool,s.1<=65535->(l.foldl inS s).1<=65535:=by
 induction l with
 | nil=>exact fun s h=>h
 | cons c l ih=>
   intro s h;have:=c.a;exact ih _ (GQ h (by split<;>omega))
def GU(c m n:Nat):Nat:=65535-vO (vO (65535-c) (65535-m)) n
def oK:Nat->List UInt8->List UInt8->Nat
 | c,a::b::l,x::y::m=>oK (GU c (256*a.g+b.g) (256*x.g+y.g)) l m
 | c,_,_=>c
theorem Vw(c m n:Nat):GU c m n<=65535:=by unfold GU;omega
theorem ayi(x:Nat)(hx:x<4294967296):bits .and .u32 (x:Int) 65535=((x%65536:Nat):Int):=by
 have h1:(gF 32 (x:Int)).g=x:=by
  rw[mD,nR];exact fO (by omega)
 show IntKind.u32.d ((gF 32 (x:Int) &&& gF 32 65535).g:Int)=_;rw[BitVec.toNat_and,h1,show(gF 32 65535).g=2^16-1 by decide,Nat.and_two_pow_sub_one_eq_mod];simp[vS,nZ,mq];omega
theorem ahK(x:Nat)(hx:x<=65535):bits .xor .u16 Eh.max (x:Int)=((65535-x:Nat):Int):=by
 have h1:gF 16 (x:Int)=IE 16 x:=mD _ _;show Eh.d ((gF 16 65535 ^^^ gF 16 (x:Int)).g:Int)=_;rw[h1,show gF 16 65535=BitVec.allOnes 16 by decide,BitVec.allOnes_xor,BitVec.toNat_not,nR,fO (by omega)];simp[vS,nZ,mq];omega
theorem ayj(a c:Nat)(ha:a<256)(hc:c<256):bits .or .u16 (256*(a:Int)) (c:Int)=((256*a+c:Nat):Int):=by
 have h1:gF 16 (256*(a:Int))=IE 16 (256*a):=by rw[show(256*(a:Int))=((256*a:Nat):Int)by omega];exact mD _ _
 have h2:gF 16 (c:Int)=IE 16 c:=mD _ _;show Eh.d ((gF 16 (256*(a:Int)) ||| gF 16 (c:Int)).g:Int)=_;rw[h1,h2,BitVec.toNat_or,nR,nR,fO (by omega),fO (by omega),show 256*a=a <<< 8 by rw[mU];omega,<-Nat.shiftLeft_add_eq_or_of_lt (by omega)];rw[mU];simp[vS,nZ,mq];omega
section
variable (a b c m n:Nat) (W:ak)
theorem NZ(ha:a<=65535)(hb:b<=65535):aP ah 369 #[.b .u32 a,.b .u32 b] W fun e W'=>e=.a (.b .u32 (vO a b:Nat))/\W=W':=by
 have h:=ayi (a+b) (by omega);rw[Int.natCast_add]at h;have H:=ab (show((a:Int)+(b:Int))%65536+((a:Int)+(b:Int))/65536=(vO a b:Nat)by unfold vO;split<;>omega);go_enter Tryz.func369,Tryz.ntmps369;go_wp2;go_ret;exact⟨by rw[<-H.i];rfl,rfl⟩
theorem adu(ha:a<=65535)(hb:b<=65535):aP ah 258 #[.b .a a,.b .a b] W fun e W'=>e=.a (.b .a (vO a b:Nat))/\W=W':=by
 go_enter Tryz.func258,Tryz.ntmps258;go_wp2
 all_goals(go_ret;refine⟨?_,rfl⟩;simp_all[vO]<;>(repeat' split)<;>omega)
theorem afP(hc:c<=65535)(hm:m<=65535)(hn:n<=65535):aP ah 352 #[.b .u16 c,.b .u16 m,.b .u16 n] W fun e W'=>e=.a (.b .u16 (GU c m n:Nat))/\W=W':=by
 have h1:=ahK c hc;have h2:=ahK m hm;have l1:=GQ (show 65535-c<=65535 by omega) (show 65535-m<=65535 by omega);have l2:=GQ l1 hn;have h3:=ahK _ l2;have C1:=ab (fun W=>NZ (65535-c) (65535-m) W (by omega) (by omega));have C2:=ab (fun W=>NZ (vO (65535-c) (65535-m)) n W l1 hn);have H:=ab (show GU c m n=65535-vO (vO (65535-c) (65535-m)) n from rfl);generalize vO (vO (65535-c) (65535-m)) n=z at *;generalize vO (65535-c) (65535-m)=y at *;have hz:Eh.d (z:Int)=z:=by simp[vS,nZ,mq];omega
 have q1:((65535-c:Nat):Int)%4294967296=((65535-c:Nat):Int):=by omega
 have q2:((65535-m:Nat):Int)%4294967296=((65535-m:Nat):Int):=by omega
 have q3:(n:Int)%4294967296=n:=by omega
 generalize 65535-c=cc at *;generalize 65535-m=mm at *;go_enter Tryz.func352,Tryz.ntmps352;go_wp2_with (first|(go_at_call 369;with_reducible refine(C1.i _).e ?_;rintro e w' ⟨rfl,rfl⟩)|(go_at_call 369;with_reducible refine(C2.i _).e ?_;rintro e w' ⟨rfl,rfl⟩))
 all_goals(go_ret;exact⟨by rw[H.i];rfl,rfl⟩)
end
section
variable (W:ak) (A:Option aT) (n c B:Nat) (l:List UInt8)
theorem adv(i:Nat)(hi:i<9223372036854775807)(hr:gu W B A n l):aP ah 353 #[.a A n c,.b .a i] W fun e W'=>e=.a (.b .u16 ((l.b i 0).g:Nat))/\W=W':=by
 by_cases hin:i<n
 ·obtain⟨a,rfl,hab,hcell⟩:=hr.fH hin
  have h1:(i:Int)<n:=by omega
  have h2:=(l.b i 0).a;have h3:((l.b i 0).g:Int)%65536=(l.b i 0).g:=by omega
  unfold bv at hcell;generalize(l.b i 0).g=x at *;clear hr;go_enter Tryz.func353,Tryz.ntmps353;go_wp2;go_ret;exact⟨rfl,rfl⟩
 ·have h1:¬(i:Int)<n:=by omega
  have h2:l.b i 0=0:=by rw[au,aS (by have:=hr.len;omega)];rfl
  rw[h2];clear hr h2;go_enter Tryz.func353,Tryz.ntmps353;go_wp2;go_ret;exact⟨rfl,rfl⟩
end
theorem Vx(l:List UInt8)(k:Nat)(h:k+1<l.a):l.f k=l.b k 0::l.b (k+1) 0::l.f (k+2):=by
 rw[kZ (show k<l.a by omega),kZ h,au,au,aC (show k<l.a by omega),aC h];rfl
theorem aaY(c:Nat)(m:List UInt8):oK c [] m=c:=by cases m<;>rfl
theorem Jy(W:ak)(A D:Option aT)(n ca cd B E c:Nat)(l m:List UInt8)(hc:c<=65535)(hn:n%2=0)(hnn:n<=1000000)(hr:gu W B A n l)(ht:gu W E D n m):
 aP ah 311 #[.b .u16 c,.a A n ca,.a D n cd] W fun e W'=>e=.a (.b .u16 (oK c l m:Nat))/\W=W':=by
 have CA:=ab (fun i hi=>adv W A n ca B l i hi hr);have CD:=ab (fun i hi=>adv W D n cd E m i hi ht);have hl:=ab hr.len;have hm:=ab ht.len;clear hr ht;go_enter Tryz.func311,Tryz.ntmps311;go_wp2;go_loop [0,7] (fun s0 s7=>∃(k x:Nat),k<=n/\k%2=0/\x<=65535/\s0=.b .u16 x/\s7=.b .a k/\oK c l m=oK x (l.f k) (m.f k)) (fun _ s7=>n-(intOf s7).g)
 case atStart=>exact⟨0,c,by omega,rfl,hc,rfl,rfl,rfl⟩
 case round=>
  obtain⟨k,x,hk,hk2,hx,rfl,rfl,heq⟩:=hrel;have HE:=ab heq;clear heq;by_cases hlt:k<n
  ·have hlt2:(k:Int)<n:=by omega
   have A0:=ab (CA.i k (by omega));have A1:=ab (CA.i (k+1) (by omega));have D0:=ab (CD.i k (by omega));have D1:=ab (CD.i (k+1) (by omega));rw[show((k+1:Nat):Int)=(k:Int)+1 from rfl]at A1 D1;have HE:=ab (by rw[HE.i,Vx l k (by rw[hl.i];omega),Vx m k (by rw[hm.i];omega),oK]:oK c l m=oK (GU x (256*(l.b k 0).g+(l.b (k+1) 0).g) (256*(m.b k 0).g+(m.b (k+1) 0).g)) (l.f (k+2)) (m.f (k+2)));have b1:=(l.b k 0).a;have b2:=(l.b (k+1) 0).a;have b3:=(m.b k 0).a;have b4:=(m.b (k+1) 0).a;generalize(l.b k 0).g=y1 at *;generalize(l.b (k+1) 0).g=y2 at *;generalize(m.b k 0).g=y3 at *;generalize(m.b (k+1) 0).g=y4 at *;have o1:=ayj y1 y2 b1 b2;have o2:=ayj y3 y4 b3 b4;rw[Int.mul_comm]at o1 o2;have CH:=ab (afP x (256*y1+y2) (256*y3+y4) W hx (by omega) (by omega));have LE:=ab (Vw x (256*y1+y2) (256*y3+y4));generalize GU x (256*y1+y2) (256*y3+y4)=z at *;generalize 256*y1+y2=w1 at *;generalize 256*y3+y4=w2 at *;clear CA CD;go_wp2_with (first|(go_at_call 353;with_reducible refine A0.i.e ?_;rintro e w' ⟨rfl,rfl⟩)|(go_at_call 353;with_reducible refine A1.i.e ?_;rintro e w' ⟨rfl,rfl⟩)|(go_at_call 353;with_reducible refine D0.i.e ?_;rintro e w' ⟨rfl,rfl⟩)|(go_at_call 353;with_reducible refine D1.i.e ?_;rintro e w' ⟨rfl,rfl⟩)|(go_at_call 352;with_reducible refine CH.i.e ?_;rintro e w' ⟨rfl,rfl⟩));go_round
   case rel=>exact⟨k+2,z,by omega,by omega,LE.i,rfl,by go_num,HE.i⟩
   case measure=>simp[intOf]<;>omega
  ·have hlt2:¬(k:Int)<n:=by omega
   have HE:=ab (by rw[HE.i,gq (by rw[hl.i];omega),aaY]:oK c l m=x);clear CA CD;go_wp2;go_ret;exact⟨by rw[HE.i];rfl,rfl⟩
theorem adw(x:Bool)(w:ak):(Op.unary .not (.e x)).G ah w = .Y (.e (!x)) w:=rfl
theorem ajj(W:ak)(b:Nat)(A:Option aT)(n c B:Nat)(l:List UInt8)(hnn:n<=1000000000)(hp:W.b ⟨b,0,none⟩=some (.a A n c))(hr:gu W B A n l):
 aP ah 350 #[.a (some ⟨b,0,none⟩) 1 1] W fun e W'=>e=.a (.b .u32 (NY 0 l:Nat))/\W=W':=by
 have HR:=ab hr;have HN:=adw;clear hr;go_enter Tryz.func350,Tryz.ntmps350;go_wp2;go_loop [3,4,12] (fun s3 s4 s12=>(s3=.b .u32 0/\s4=.e false/\s12=.b .a 0)\/(∃o,s3=.b .u32 (NY 0 l:Nat)/\s4=.e o/\s12=.b .a 1)) (fun _ _ s12=>1-(intOf s12).g)
 case atStart=>exact .a ⟨rfl,rfl,rfl⟩
 case round=>
  rcases hrel with⟨rfl,rfl,rfl⟩|⟨o,rfl,rfl,rfl⟩
  ·go_wp2
   go_loop [3,4,18] (fun s3 s4 s18=>∃k:Nat,k<=n/\s18=.b .a k/\s3=.b .u32 ((l.d k).foldl inS (0,false)).1/\s4=.e ((l.d k).foldl inS (0,false)).2) (fun _ _ s18=>n-(intOf s18).g)
   case atStart=>exact⟨0,by omega,rfl,rfl,rfl⟩
   case round=>
    obtain⟨k,hk,rfl,rfl,rfl⟩:=hrel;have hlen:=ab HR.i.len;by_cases hlt:k<n
    ·have hlt2:(k:Int)<n:=by omega
     obtain⟨a,rfl,hab,hcell⟩:=HR.i.fH hlt;have HS:=ab (show(l.d (k+1)).foldl inS (0,false)=inS ((l.d k).foldl inS (0,false)) (l.b k 0)by
      rw[dF (by rw[hlen.i];exact hlt),List.foldl_append,au,aC (by rw[hlen.i];exact hlt)];rfl)
     have hle:=atQ (l.d k) (0,false) (by decide);have hx:=(l.b k 0).a;generalize(l.d k).foldl inS (0,false)=st at *;obtain⟨s,o⟩:=st;have HS:=ab (show(l.d (k+1)).foldl inS (0,false)=(vO s (if o then(l.b k 0).g else 256*(l.b k 0).g),!o)from HS.i);unfold bv at hcell;simp only at hle ⊢;generalize(l.b k 0).g=x at *;have C1:=ab (fun W=>NZ s x W hle (by omega));have C2:=ab (fun W=>show aP ah 369 #[.b .u32 s,.b .u32 ((x:Int)*256)] W fun e W'=>e=.a (.b .u32 (vO s (256*x):Nat))/\W=W' by rw[show(x:Int)*256=((256*x:Nat):Int)by omega];exact NZ s (256*x) W hle (by omega));have e1:(x:Int)%4294967296=x:=by omega
     cases o
     ·have HS:=ab (show(l.d (k+1)).foldl inS (0,false)=(vO s (256*x),true)from HS.i)
      go_wp2_with (first|(go_at_call 369;with_reducible refine(C2.i _).e ?_;rintro e w' ⟨rfl,rfl⟩));go_round
      case rel=>exact⟨k+1,by omega,by go_num,by rw[HS.i],by rw[HS.i]⟩
      case measure=>simp[intOf]<;>omega
     ·have HS:=ab (show(l.d (k+1)).foldl inS (0,false)=(vO s x,false)from HS.i)
      go_wp2_with (first|(go_at_call 369;with_reducible refine(C1.i _).e ?_;rintro e w' ⟨rfl,rfl⟩));go_round
      case rel=>exact⟨k+1,by omega,by go_num,by rw[HS.i];rfl,by rw[HS.i];rfl⟩
      case measure=>simp[intOf]<;>omega
    ·have hlt2:¬(k:Int)<n:=by omega
     have HS:=ab (show((l.d k).foldl inS (0,false)).1=NY 0 l by rw[aJ (by rw[hlen.i];omega),YQ _ _ (by decide)]);go_wp2;go_round
     case rel=>exact .b ⟨_,by rw[HS.i],rfl,rfl⟩
     case measure=>simp[intOf]
  ·go_wp2
   go_ret;exact⟨rfl,rfl⟩
section
variable (W:ak) (b:Nat) (A:Option aT) (n c B:Nat) (l:List UInt8) (hnn:n<=1000000000) (hp:W.b ⟨b,0,none⟩=some (.a A n c)) (hr:gu W B A n l)
include hnn hp hr
theorem ahL:aP ah 305 #[.a (some ⟨b,0,none⟩) 1 1] W fun e W'=>e=.a (.b .u16 (xA l:Nat))/\W=W':=by
 have C:=ab (ajj W b A n c B l hnn hp hr);have hle:=aaX l 0 (by omega);have HS:=ab (show xA l=65535-NY 0 l from rfl);have hx:=ahK (NY 0 l) hle;generalize NY 0 l=x at *;have hz:Eh.d (x:Int)=x:=by simp[vS,nZ,mq];omega
 clear hr;go_enter Tryz.func305,Tryz.ntmps305;go_wp2_with (go_at_call 350;with_reducible refine C.i.e ?_;rintro e w' ⟨rfl,rfl⟩);go_ret;exact⟨by rw[HS.i];rfl,rfl⟩
theorem adx:aP ah 247 #[.a (some ⟨b,0,none⟩) 1 1] W fun e W'=>e=.a (.e (decide (xA l=0)))/\W=W':=by
 have C:=ab (ahL W b A n c B l hnn hp hr);generalize xA l=x at *;clear hr;go_enter Tryz.func247,Tryz.ntmps247;go_wp2_with (go_at_call 305;with_reducible refine C.i.e ?_;rintro e w' ⟨rfl,rfl⟩);go_ret;refine⟨?_,rfl⟩;show Ending.returned (.e ((x:Int)==0))=_;congr 2;rw[bF];simp
end
section
variable {P:eD} {ops:Array iM} {md:Lh} {C:ak->Prop}
def wqL(P:eD)(md:Lh)(ops:Array iM)(C:ak->Prop)(n:Nat)(L:Array Bool->qG->Prop):Nat->Array Bool->qG->Prop
 | 0,listed,a=>L listed a
 | f+1,listed,a=>fZ md ops listed≠[]/\∀i∈fZ md ops listed,i<n/\qOp P ops C i (wqL P md ops C n L f (listed.c i true)) a
theorem ahM{n g:Nat}{L:Array Bool->qG->Prop}{Q':yP->qG->ak->Prop}(hL:∀listed a w,C w->L listed a->wpAny P md ops Q' g listed a w):
 ∀(f:Nat)(listed:Array Bool)(a:qG)(w:ak),C w->wqL P md ops C n L f listed a->wpAny P md ops Q' (f+g) listed a w
 | 0,listed,a,w,hw,h=>by rw[bl];exact hL _ _ _ hw h
 | f+1,listed,a,w,hw,h=>by
   rw[show f+1+g=(f+g)+1 by omega];exact⟨fun h0=>absurd h0 h.1,fun i hi=>wpOp_of_qOp hw (fun a' w' hw' h'=>ahM hL f _ a' w' hw' h') (h.2 i hi).2⟩
theorem al7{n i:Nat}{oi:iM}{v:aB}{L:Array Bool->qG->Prop}(hi:ops[i]? = some oi)(hsel:∀(j:Nat)(o:iM) cs b,ops[j]? = some o->o.op≠.select cs b)
 (hs:Region.sinkB md ops n=true) (hc:Region.chainB md ops n=true) (hn:n<ops.j) (hin:i<n) (hdone:∀listed a,L listed a->∀j∈fZ md ops listed,n<=j) :
 ∀(f:Nat)(listed:Array Bool)(a:qG),HeadInv md ops n listed ->
  (∀j oj,ops[j]? = some oj->j≠i->listed.b j true=false->(∀e∈oj.after,qU md e=true->e.on≠i)->oi.apart ops oj=true) ->
  i∈fZ md ops listed->YieldsIn P ops C oi v a ->
  wqL P md ops C n L f (listed.c i true) (a.put oi.S v)->wqL P md ops C n L (f+1) listed a:=by
 intro f
 induction f with
 | zero=>
   intro listed a inv _ hr hy H;have hun:=(kL.1 hr).1;refine⟨fun h=>(by rw[h]at hr;cases hr),fun j hj=>?_⟩;have hjn:j<n:=(aZ j n).resolve_right fun h=>tail_waits hs hc hn inv _ i rfl hin hun j h hj
   refine⟨hjn,?_⟩;by_cases hji:j=i
   ·subst hji;exact hy.qOp hi H
   ·have:=hdone _ _ H j (ready_mono hj hji)
    omega
 | succ f ih=>
   intro listed a inv hfree hr hy H;have hun:=(kL.1 hr).1;refine⟨fun h=>(by rw[h]at hr;cases hr),fun j hj=>?_⟩;have hjn:j<n:=(aZ j n).resolve_right fun h=>tail_waits hs hc hn inv _ i rfl hin hun j h hj
   refine⟨hjn,?_⟩;by_cases hji:j=i
   ·subst hji;exact hy.qOp hi H
   ·have h1:=(H.2 j (ready_mono hj hji)).2
    obtain⟨hjun,oj,hoj,hall⟩:=kL.1 hj;have hnot:∀e∈oj.after,qU md e=true->e.on≠i:=fun e he hb heq=>by
     have h1:=hall e he hb;rw[heq,getD_both hun]at h1;cases h1
    have h2:=qOp_put hoj (hfree j oj hoj hji hjun hnot) (fun cs b=>hsel i oi cs b hi) (fun cs b=>hsel j oj cs b hoj) hy h1;have hfree':∀k ok,ops[k]? = some ok->k≠i->(listed.c j true).b k true=false->(∀e∈ok.after,qU md e=true->e.on≠i)->oi.apart ops ok=true:=fun k ok hk hki hun hno=>by
     refine hfree k ok hk hki ?_ hno;by_cases hjk:j=k
     ·subst hjk;exact hjun
     ·rw[getD_set_ne true hjk]at hun;exact hun
    refine qOp_mono (fun a' h3=>ih (listed.c j true) a' (inv.set hj hjn) hfree' (ready_mono hr (jB hji)) h3.1 ?_) h2;rw[Array.setIfInBounds_comm _ _ hji];exact h3.2
theorem aaZ{n g:Nat}{Lq:qG->Prop}(hsel:AV ops=true)(hs:Region.sinkB md ops n=true)(hc:Region.chainB md ops n=true)(hn:n<ops.j):
 ∀(l:List iM)(k:Nat)(listed:Array Bool)(a:qG),(∀j,j<l.a->l[j]? = ops[k+j]?)->k+l.a=n->HeadInv md ops n listed->Region.lexHead md ops g l.a k listed=true->wpQuiet P ops C Lq l a ->
 wqL P md ops C n (fun listed' a'=>Region.seqB md ops g n listed'=true/\Lq a') l.a listed a
 | [],k,listed,a,_,hk,_,hB,h=>by
   have:k=n:=by simpa using hk
   subst this;exact⟨by simpa[Region.lexHead]using hB,h⟩
 | o::l,k,listed,a,hl,hk,inv,hB,h=>by
   have h0:ops[k]? = some o:=by simpa using(hl 0 (by simp)).symm
   simp only[bD,Region.lexHead,bf]at hB;obtain⟨⟨hr,hf⟩,hB'⟩:=hB;have hkn:k<n:=by simp only[bD]at hk;omega
   have hr':k∈fZ md ops listed:=by simpa using hr
   have hst:qOp P ops C k (wpQuiet P ops C Lq l) a:=by unfold qOp;simp only[h0];exact h
   obtain⟨v,hy,hK⟩:=yieldsIn_of_qOp h0 hst;exact al7 h0 (Region.noSelect_spec hsel) hs hc hn hkn (fun listed' a' hL=>seqB_ready hL.1) l.a listed a inv (Region.free_spec h0 hf) hr' hy
    (aaZ hsel hs hc hn l (k+1) _ _ (fun j hj=>by have:=hl (j+1) (by simp;omega);simpa[nP,kM 1 j]using this) (by simp only[bD]at hk;omega) (inv.set hr' hkn) hB' hK)
theorem Vy{T:Type}(f:T->ak)(n:Nat){id:Nat}{Q:yP->qG->ak->Prop}{a:qG}{w:ak}{l:List iM}(hm:P.follows .mixedOrders=true)(hB:xK .any l.c n=true)(n0:T)(h0:f n0=w.drew)
 (h:wpQuiet P l.c (fun w'=>∃m,w'=f m) (fun a'=>∀w',(∃m,w'=f m)->wpList P l.c Q (l.f n) a' w') (l.d n) a):(Code.region id l.c true).wp P Q a w:=by
 simp only[xK,bf,decide_eq_true_eq]at hB;obtain⟨⟨⟨⟨hsel,hn⟩,hs⟩,hc⟩,hlex⟩:=hB;have hn':n<l.a:=by simpa using hn
 have htl:(l.d n).a=n:=by simp;omega
 have hdl:(l.f n).a=l.c.j-n:=by simp
 have inv0:HeadInv .any l.c n (Array.replicate l.c.j false):=
  ⟨by simp,fun j oj _ hl=>(by rw[mZ]at hl;cases hl),fun t _ ht=>getD_in (by simpa using ht) (mZ _ _)⟩
 have H:=aaZ (md:=.any) (C:=fun w'=>∃m,w'=f m) (g:=l.c.j-n) hsel hs hc hn (l.d n) 0 _ a (fun j hj=>by
  have hj':j<n:=by rw[htl]at hj;exact hj
  simp[hj']) (by simpa using htl) inv0 (by rw[htl];exact hlex) h
 refine wp_region_any hm ?_;have:=ahM (Q':=Q) (g:=l.c.j-n) (fun listed a' w' hw hL=>by
  have:=wpAny_of_seq (md:=.any) (Q':=Q) (l.f n) n listed a' w' (fun j=>by simp[jq]) (by rw[hdl];exact hL.1) (hL.2 w' hw)
  rwa [hdl]at this) _ _ _ {w with drawn:=w.Z+1} ⟨n0,h0.symm⟩ H
 rw[htl,show n+(l.c.j-n)=l.c.j by omega]at this;exact this
end
section
open Go.RowKit Go.ChangeShapes Go.WideShapes Go.ChangeAt Go.Deep
def oC(l:List Hl):List (List UInt8):=(l.filter (·.down)).map (·.E)
theorem YR(l:List Hl)(i:Nat)(hi:i<l.a){x:Hl}(hx:x=l.b i kQ)(h:x.down=true):oC (l.d (i+1))=oC (l.d i)++[x.E]:=by
 rw[<-lY kQ l i hi,<-hx];simp[oC,h]
theorem ady(l:List Hl)(i:Nat)(hi:i<l.a){x:Hl}(hx:x=l.b i kQ)(h:x.down=false):oC (l.d (i+1))=oC (l.d i):=by
 rw[<-lY kQ l i hi,<-hx];simp[oC,h]
theorem al8(l:List Hl)(A:Option aT)(n c:Nat)(w:ak)(hR:RdH w w.a.j A n l)(hn:n<=100000):
 aP ah 130 #[.a A n c] w (TxP w (oC l)):=by
 have HR:=ab hR;have HN:=ab hR.1;obtain⟨i0,hi0,hz0,hz1,hzb⟩:=aax;have HI0:=ab hi0;have HZ0:=ab hz0;have HZ1:=ab hz1;have HZ2:=ab (show(jk ⟨#[]⟩).D.j=1 from rfl);clear hR hi0 hz0 hz1;go_enter Tryz.func130,Tryz.ntmps130;go_wp2;go_loopw [3,8] (fun s3 s8 wr=>∃(i:Nat)(O:Option aT)(cap k:Nat),i<=n/\s3=.a O k cap/\s8=.b .a i/\k<=i/\(oC (l.d i)).a=k/\wr.c w.a.j 9 1 (.a O k cap) k (wu (oC (l.d i)))/\aL w.a.j w wr) (fun _ s8 _=>n-(intOf s8).g)
 case atStart=>exact⟨0,none,0,0,by omega,rfl,rfl,by omega,by simp[oC],fu _ _ _ _,aG _ _⟩
 case round=>
  obtain⟨i,O,cap,k,hin,rfl,rfl,hki,hlen,ho,hb⟩:=hrel;have HB:=ab hb;have HO:=ab ho;have HLEN:=ab hlen;have hsz:=hb.j;clear hb ho hlen;by_cases hlt:i<n
  ·have hi:(i:Int)<n:=by omega
   obtain⟨b,o,rfl,hbb,hh,hc,hnm,hdw⟩:=(HR.i.M HB.i).hl hlt;obtain⟨x,hx⟩:=bZ (l.b i kQ);rw[<-hx]at hc hnm hdw;have HX:=ab hx;have hbs:b<wr.a.j:=by omega
   clear hx hbb;have HNL:=ab (show i<l.a by rw[HN.i];exact hlt);cases hd:x.down
   ·have HD:=ab hd
    rw[hd]at hdw;go_wp2;go_roundw
    case rel=>exact⟨i+1,O,cap,k,by omega,rfl,by go_num,by omega,by rw[ady l i HNL.i HX.i HD.i];exact HLEN.i,by rw[ady l i HNL.i HX.i HD.i];exact HO.i.alloc _,HB.i.alloc hsz _⟩
    case measure=>simp[intOf]<;>omega
   ·have HD:=ab hd
    rw[hd]at hdw;have Uy:=ab (show k+1<=maxLen by unfold maxLen;omega);have Qo:=ab (show(k+1)*i0.bytes<=140737488355328 from aO (gY (show k+1<=100002 by omega) hzb) (by omega));have HKI:=ab hki;have TS:=ab (fun(ob:Obj) (s:List UInt8)=>show Rd ((wr.alloc ob).alloc (.D #[.g (bP s)] 9)) (wr.a.j+2) 1 (some ⟨wr.a.j+1,0,none⟩) 1 [.g (bP s)]by
     have h:=aaw (wr.alloc ob) (txA s) 1 rfl 9
     rwa [show(wr.alloc ob).a.j=wr.a.j+1 by simp]at h)
    have HBS:=ab (fun ob tH=>show w.a.j<=((wr.alloc ob).alloc tH).a.j by simp;omega);have HGR:=ab (fun ob tH w1 (hg:((wr.alloc ob).alloc tH).d w1 (Value.slice O k cap).f)=>((HB.i.alloc hsz ob).alloc (by simp;omega) tH).grown hg (by simp;omega) (fun k hk=>(HO.i.lt k hk).1));clear hki;go_wp2_with (at_builtin;refine jC _ rfl (.tmp 14) (.tmp 17) _ rfl w.a.j 9 i0 (.g ⟨#[]⟩) 1 i0.bytes Tryz.underlying69 HI0.i HZ0.i HZ1.i rfl HZ2.i (mY _) (.a O k cap) k (wu (oC (l.d i))) rfl ((HO.i.alloc _).alloc _) (wr.a.j+2) (some ⟨wr.a.j+1,0,none⟩) 1 1 [.g (bP x.E)] rfl (TS.i _ x.E) (by simp[dx]) Uy.i Qo.i (HBS.i _ _) ?_;intro v1 w1 hown1 hg1 xu;have O1:=ab hown1;have G1:=ab (HGR.i _ _ _ hg1);clear hown1 hg1 xu);obtain⟨O',cap',rfl,_,_⟩:=jG O1.i;go_roundw
    case rel=>exact⟨i+1,O',cap',k+1,by omega,rfl,by go_num,by have:=HKI.i;omega,by rw[YR l i HNL.i HX.i HD.i,aR,HLEN.i];rfl,by rw[YR l i HNL.i HX.i HD.i,<-RL];exact O1.i,G1.i⟩
    case measure=>simp[intOf]<;>omega
  ·obtain rfl:i=n:=by omega
   have hd:decide ((i:Int)<i)=false:=by simp
   have HL:=ab (show l.d i=l from aJ (by rw[HN.i];omega));go_wp2;go_ret;exact⟨O,k,cap,rfl,by rw[<-HL.i];exact HLEN.i,by have:=HO.i;rw[HL.i]at this;exact this,HB.i⟩
end
section
open Go.RowKit Go.ChangeShapes Go.WideShapes Go.ChangeAt Go.Deep
def asx(h:Hl):Prop:=-9223372036854775808<=h.G/\h.G<=9223372036854775807
end
def afQ(xs:List aB):Nat->List aB->List aB
 | _,[]=>xs
 | o,v::vs=>afQ (xs.set o v) (o+1) vs
theorem al9(vs:List aB):∀(xs:List aB)(o j:Nat),(afQ xs o vs)[j]? = if o<=j/\j<o+vs.a/\j<xs.a then vs[j-o]? else xs[j]?:=by
 induction vs with
 | nil=>intro xs o j;rw[afQ,if_neg (by simp;omega)]
 | cons v vs ih=>
   intro xs o j;rw[afQ,ih,aV,bD];by_cases h1:o+1<=j/\j<o+1+vs.a/\j<xs.a
   ·rw[if_pos h1,if_pos (by omega),show j-o=(j-(o+1))+1 by omega,List.getElem?_cons_succ]
   ·rw[if_neg h1]
    by_cases h2:o=j
    ·subst h2
     by_cases h3:o<xs.a
     ·rw[if_pos ⟨av _,by omega,h3⟩,List.getElem?_set_self h3];simp
     ·rw[if_neg (by omega),fI];simp[h3]
    ·rw[List.getElem?_set_ne h2,if_neg (by omega)]
theorem Yd{base size n g c:Nat}{e:bE}(vs:List aB):∀(xs:List aB)(W:ak)(o:Nat),W.c base e size (.a (some ⟨g,0,none⟩) n c) n xs->o+vs.a<=n*size ->
 (W.setCells g o vs).c base e size (.a (some ⟨g,0,none⟩) n c) n (afQ xs o vs):=by
 induction vs with
 | nil=>intro xs W o h _;exact h
 | cons v vs ih=>
   intro xs W o h ho;rw[bD]at ho;rw[Dz,afQ];exact ih _ _ _ (Ur h o (by omega) v) (by omega)
theorem ama{α:Type}(f:α->Array aB)(s:Nat)(hs:∀x,(f x).j=s)(hp:0<s)(l:List α)(i:Nat)(hi:i<l.a)(x:α):
 afQ (l.h fun x=>(f x).a) (i*s) (f x).a=(l.set i x).h fun x=>(f x).a:=by
 apply iR;intro j;rw[al9,aY,hs,tT f s hs];have hl2:=tT f s hs (l.set i x);rw[aV]at hl2;rcases aZ j (l.a*s)with hj|hj
 ·have e1:j=j/s*s+j%s:=by rw[DF];exact(Lf j s).symm
  have h2:j/s<l.a:=(Ai hp).2 hj;have h3:j%s<s:=fE _ hp;have g1:=uY f s hs l (j/s) (j%s) h2 h3;have g2:=uY f s hs (l.set i x) (j/s) (j%s) (by rw[aV];exact h2) h3;rw[<-e1]at g1 g2;rw[g2];by_cases hij:i=j/s
  ·subst hij
   rw[if_pos ⟨Nat.div_mul_le_self j s,by omega,hj⟩,List.getElem_set_self,dG];congr 1;omega
  ·rw[List.getElem_set_ne hij,if_neg,g1]
   rintro⟨h4,h5,_⟩;apply hij;have h6:i*s<=j:=h4;have h7:j<(i+1)*s:=by rw[Kj];exact h5
   exact(Nat.le_antisymm ((Nat.le_div_iff_mul_le hp).2 h6) (Nat.lt_succ_iff.1 ((Ai hp).2 h7)))
 ·rw[if_neg (by omega),aS (by rw[tT f s hs];exact hj),aS (by omega)]
def xB(l:List Hl):List aB:=l.h fun x=>x.ay.a
theorem afR(l:List Hl):∀u∈xB l,u.h=true:=Fa Hl.ay Hl.dw l
theorem adz(l:List Hl)(x:Hl):xB l++x.ay.a=xB (l++[x]):=aiL Hl.ay l x
def ClP(w:ak)(n:Nat)(l:List Hl)(e:lU)(w':ak):Prop:=
 ∃A c,e=.a (.a A n c)/\w'.c w.a.j 100 3 (.a A n c) n (xB l)/\aL w.a.j w w'
theorem MG(l:List Hl)(A:Option aT)(n c:Nat)(w:ak)(hR:RdH w w.a.j A n l)(hn:n<=100000):
 aP ah 59 #[.a A n c] w (ClP w n l):=by
 have hll:=hR.1;cases A with
 | some a=>
   have hnil:∀W:ak,(binOp .eql 33 (.a (some a) n c) (.a none 0 0)).G ah W = .Y (.e false) W:=fun W=>by
    simp only[binOp];simp[je,sJ]
   obtain⟨i0,hi0,hz0,hz1,hzb⟩:=Ql;have hz2:(cB kQ.ay).D.j=3:=by simp[cZ,Hl.r]
   have O1:=ab (show(w.alloc (.D #[] 100)).c w.a.j 100 3 (.a (some ⟨w.a.j,0,none⟩) 0 0) 0 []from nC w #[] 0 (av _) (by unfold maxLen;omega) rfl);have O2:=ab (hR.alloc (av _) (.D #[] 100)).2.1;have Uy:=ab (show 0+n<=maxLen by unfold maxLen;omega);have Qo:=ab (show(0+n)*i0.bytes<=140737488355328 from aO (gY (show 0+n<=100000 by omega) hzb) (by omega));have O3:=ab (show w.a.j<=(w.alloc (.D #[] 100)).a.j by simp);have ON:=ab (afR l);clear hR hll;go_enter Tryz.func59,Tryz.ntmps59;go_wp2_with (at_builtin;refine jC _ rfl (.tmp 5) (.tmp 6) _ rfl w.a.j 100 i0 (.d kQ.ay) 3 i0.bytes sJ hi0 hz0 hz1 rfl hz2 (mY _) (.a (some ⟨w.a.j,0,none⟩) 0 0) 0 [] rfl O1.i w.a.j (some a) n c (xB l) rfl O2.i ON.i Uy.i Qo.i O3.i ?_;intro v1 w1 hown1 hg1 xu);obtain⟨A',c',hv,_,_⟩:=jG hown1;subst hv;simp only[bl,dH]at hown1;have hb:=sS ((aG w.a.j w).alloc (av _) (.D #[] 100)) hg1 (av _) O3.i;go_wp2;go_ret;exact⟨A',c',by simp,hown1,hb⟩
 | none=>
   have h0:n=0:=by
    rcases eu n with h0|h0
    ·exact h0
    ·obtain⟨a,ha,_⟩:=hR.2.1.2 h0;cases ha
   subst h0;have hl:l=[]:=bG hll;subst hl;have hnil:∀W:ak,(binOp .eql 33 (.a none 0 c) (.a none 0 0)).G ah W = .Y (.e true) W:=fun W=>by
    simp only[binOp];simp[je,sJ]
   have FIN:=ab (show ClP w 0 [] (.a (.a none 0 0)) w from⟨none,0,rfl,fu _ _ _ _,aG _ _⟩);clear hR hll;go_enter Tryz.func59,Tryz.ntmps59;go_wp2;go_ret;exact FIN.i
theorem Vz(args:Array aB)(w:ak):(callFunc 148 args).G ah w = .Y (.enter 148 args) w:=by kernel_rfl
theorem amb(x:Hl)(s:List UInt8)(bn:Nat)(w:ak)(hb:bn<w.a.j)(hc:w.b ⟨bn,0,none⟩=some (.g (bP s))):
 aP ah 148 #[.d x.ay,.c (some ⟨bn,0,none⟩)] w (fT w (.e (x.E==s))):=by
 have HB:=ab (fun ob=>(aG w.a.j w).alloc (av _) ob);go_enter Tryz.func148,Tryz.ntmps148;go_wp2;go_ret;exact⟨by simp,HB.i _⟩
theorem ajk(l:List Hl)(s:List UInt8)(bn:Nat)(A:Option aT)(n c:Nat)(w:ak)(hR:RdH w w.a.j A n l)(hn:n<=100000)(hb:bn<w.a.j)(hc:w.b ⟨bn,0,none⟩=some (.g (bP s))):
 aP ah 147 #[.a A n c,.func (.func 148) #[] #[.c (some ⟨bn,0,none⟩)]] w (fT w (.b .a (zT l s))):=by
 have hen:=Vz;have HR:=ab hR;have HN:=ab hR.1;have PR:=ab (fun x W (h:aL w.a.j w W)=>amb x s bn W (eF hb h.j) (by rw[h.cell (p:=⟨bn,0,none⟩) hb];exact hc));clear hR hc;go_enter Tryz.func147,Tryz.ntmps147;go_wp2;go_loopw [8] (fun s8 wr=>∃i:Nat,i<=n/\s8=.b .a i/\(∀k,k<i->(l.b k kQ).E≠s)/\aL w.a.j w wr) (fun s8 _=>n-(intOf s8).g)
 case atStart=>exact⟨0,by omega,rfl,fun k hk=>by omega,aG _ _⟩
 case round=>
  obtain⟨i,hin,rfl,hno,hb⟩:=hrel;have Gy:=ab hno;have HB:=ab hb;clear hno hb;by_cases hlt:i<n
  ·have hi:(i:Int)<n:=by omega
   obtain⟨b,o,rfl,hbb,hh,hcl,_,_⟩:=(HR.i.M HB.i).hl hlt;obtain⟨x,hx⟩:=bZ (l.b i kQ);rw[<-hx]at hcl;have HX:=ab hx;clear hx hbb;by_cases hq:x.E=s
   ·have hbq:(x.E==s)=true:=by rw[hq];simp
    have Vv:=ab (apD (by rw[HN.i];exact hlt) (by rw[<-HX.i];exact hq) Gy.i);clear hq;go_wp2_with (go_at_call 148;refine(PR.i x _ HB.i).e ?_;rintro e w1 ⟨rfl,hb1⟩;clear hh hcl;have HB1:=ab hb1;clear hb1);go_ret;exact⟨by rw[Vv.i];rfl,fJ HB.i HB1.i⟩
   ·have hbq:(x.E==s)=false:=by simpa using hq
    have HQ:=ab hq;clear hq;go_wp2_with (go_at_call 148;refine(PR.i x _ HB.i).e ?_;rintro e w1 ⟨rfl,hb1⟩;clear hh hcl;have HB1:=ab hb1;clear hb1);go_roundw
    case rel=>exact⟨i+1,by omega,by go_num,fun k hk=>by
     by_cases hki:k=i
     ·rw[hki,<-HX.i];exact HQ.i
     ·exact Gy.i k (by omega),fJ HB.i HB1.i⟩
    case measure=>simp[intOf]<;>omega
  ·obtain rfl:i=n:=by omega
   have Vv:=ab (apE (l:=l) (s:=s) (fun k hk=>Gy.i k (by have:=HN.i;omega)));have hd:decide ((i:Int)<i)=false:=by simp
   go_wp2;go_ret;exact⟨by rw[Vv.i];rfl,HB.i⟩
def Lm(l:List Hl)(s:List UInt8)(well:Bool)(kF fall:Int):List Hl×Bool×Int:=
 if zT l s<0 then(l,false,5)else(l.set (zT l s).g (vk (l.b (zT l s).g kQ) well kF fall).1,(vk (l.b (zT l s).g kQ) well kF fall).2,0)
theorem apR{l:List Hl}{s:List UInt8}(h:zT l s = -1)(well:Bool)(kF fall:Int):Lm l s well kF fall=(l,false,5):=by unfold Lm;rw[if_pos (by omega)]
theorem amc{l:List Hl}{s:List UInt8}{k:Nat}(h:zT l s=k){well:Bool}{kF fall:Int}{x:Hl}(hx:x=l.b k kQ){q:Hl×Bool}(hq:vk x well kF fall=q):Lm l s well kF fall=(l.set k q.1,q.2,0):=by
 unfold Lm;rw[if_neg (by omega),h,Int.toNat_natCast,<-hx,hq]
def ayl(w:ak)(n:Nat)(r:List Hl×Bool×Int)(e:lU)(w':ak):Prop:=
 ∃A c,e=.a (.I #[.a A n c,.e r.2.1,.b .a r.2.2])/\w'.c w.a.j 100 3 (.a A n c) n (xB r.1)/\aL w.a.j w w'
theorem apS(l:List Hl)(s:List UInt8)(well:Bool)(kF fall:Int)(A:Option aT)(n c:Nat)(w:ak)(hR:RdH w w.a.j A n l)(hg:∀x∈l,asx x)(hn:n<=100000):
 aP ah 74 #[.a A n c,.g (bP s),.e well,.b .a kF,.b .a fall] w (ayl w n (Lm l s well kF fall)):=by
 have hen:=Vz;have HN:=ab hR.1;have HG:=ab hg;have HR1:=ab (fun ob=>hR.up ob);have BN:=ab (dM.new w #[.g (bP s)] 9);have HB:=ab ((aG w.a.j w).alloc (av _) (.D #[.g (bP s)] 9));clear hR hg;go_enter Tryz.func74,Tryz.ntmps74;go_wp2_with fail;refine(MG l A n c _ (HR1.i _) hn).e ?_;rintro e w1 ⟨A1,c1,rfl,hown,hb1⟩;have HOWN:=ab hown;have BN:=ab (BN.i.go hb1);have HB:=ab (aln HB.i hb1);clear hown hb1;obtain⟨x1,x2,x3,x4⟩:=BN.i.J;have l1:=BN.i.lt;go_wp2_with fail;refine(ajk l s w.a.j A1 n c1 _ (iE.iG HN.i HOWN.i) hn l1 (by rw[x1];rfl)).e ?_;rintro e w2 ⟨rfl,hb2⟩;have HOWN:=ab (iH (jE HOWN.i hb2) (base':=w.a.j) (by simp));have HB:=ab (aln HB.i hb2);clear hb2 x1 x2 x3 x4 l1;rcases afG l s with hp|⟨k,hp,hk⟩
 ·have HS:=ab (apR hp well kF fall)
  rw[hp];clear hp;go_wp2_with fail;go_ret3;exact⟨A1,c1,by rw[HS.i];rfl,by rw[HS.i];exact HOWN.i,HB.i⟩
 ·have hkn:k<n:=by rw[<-HN.i];exact hk
  have hki:(k:Int)<n:=by omega
  have HKL:=ab hk;obtain⟨x,hx⟩:=bZ (l.b k kQ);obtain⟨⟨qx,qt⟩,hq⟩:∃q,vk x well kF fall=q:=⟨_,rfl⟩
  have HS:=ab (amc hp hx hq);have ST:=ab (fun W=>hq ▸ alT x well kF fall W (HG.i x (by rw[hx];exact yc kQ l k hk)));obtain⟨b,o,hA,hbb,hh,hc,_,_⟩:=(iE.iG HN.i HOWN.i).hl hkn;rw[<-hx]at hc;obtain⟨g,rfl⟩:∃g,A1=some ⟨g,0,none⟩:=by
   rcases HOWN.i.2 with⟨hv,_⟩|⟨g,cap,cur,hv,_⟩
   ·injection hv with e1 _ _;rw[e1]at hA;cases hA
   ·injection hv with e1 _ _;exact⟨g,e1⟩
  injection hA with hA
  injection hA with e1 e2
  subst e1 e2;rw[hp];have hnk:decide ((k:Int)<0)=false:=by simp
  rw[bl]at hh hc;clear hx hq hp hk;go_wp2_with fail;refine(ST.i _).e ?_;rintro e w3 ⟨rfl,hb3⟩;have OW:=ab (jE HOWN.i hb3);have hth:w3.K g (k*3) 3:=by
   rcases OW.i.2 with⟨hv,_⟩|⟨g',cap,cur,hv,_,h3,h4,_,h6,_⟩
   ·cases hv
   ·injection hv with e1 _ e3
    injection e1 with e1
    injection e1 with e1
    subst e1;refine dM.K (c:=cur) ⟨_,h3⟩ (k*3) 3 ?_;rw[h6];have:(k+1)*3<=cap*3:=dz 3 (by omega);omega
  have Sk:=ab (RZ (aln HB.i hb3) g (k*3) qx (HOWN.i.lt g rfl).1);have OF:=ab (Yd qx.ay.a _ _ (k*3) OW.i (by rw[aY,Hl.r];have:(k+1)*3<=n*3:=dz 3 hkn;omega));clear hh hc hb3 hbb;go_wp2_with fail;go_ret3;refine⟨some ⟨g,0,none⟩,c1,by rw[HS.i];rfl,?_,Sk.i⟩;rw[HS.i];have:=OF.i;unfold xB at this;rw[ama Hl.ay 3 Hl.r (by omega) l k HKL.i qx]at this;exact this
theorem DR:∀(l m:List UInt8)(c:Nat),c<=65535->oK c l m<=65535
 | [],m,c,h=>by cases m<;>exact h
 | [a],m,c,h=>by cases m<;>exact h
 | a::b::l,[],c,h=>h
 | a::b::l,[x],c,h=>h
 | a::b::l,x::y::m,c,h=>DR l m _ (Vw _ _ _)
end Go.Proofs.YtkjojjopamaoiaaGreat
