/- Parts. -/
import Derived.Test.YtkjojjopamaoiaaGreatSc5
import Derived.Shelf.Bits.Mul64
set_option linter.unusedSimpArgs false
set_option linter.unusedVariables false
set_option linter.unusedSectionVars false
set_option maxRecDepth 100000
set_option maxHeartbeats 8000000
open Array renaming getElem?_append->aD,setIfInBounds_append->aL,mapM->iI,getElem?_setIfInBounds->dS,getElem?_eq_none->aW,getElem?_eq_some_iff->bY,ext_getElem?->dZ,getElem?_extract->cu,replicate_succ->gL,replicate_zero->gM,append_assoc->gD,extract_append->bZ,replicate->nU,size->Array.j,toList->Array.a,getD->Array.b,setIfInBounds->Array.c,extract->Array.m
open Bool renaming and_eq_true->bf,true_and->BF,false_and->Ej,eq_iff_iff->dG
open ByteArray renaming size->ByteArray.j,toList->ByteArray.a,extract->ByteArray.m
open Exists renaming intro->sJ
open Go renaming Value->aB,World->ak,Field->oz,Sem->yA,Calls->aR,Addr->aV,info_parts->DC,Oper->ji,Act->rO,Operand->ql,wpList_plain->uq,TypeId->bL,wpQuiet_nil->iw,bodyPost_ret->aO,Ending->lJ,Fence->Ll,callsIn_of_wp->DL,results_none->wI,run_underlying->dK,SeqStopsK->wZ,callsIn_wide->nL,callsIn_of_wp_marks->rR,wpIn_rangeFunc_ownH->zO,belowK_b->wR,ownFrom_below->zW,run_takeDeferred->vC,run_equal_slice_nil->jk,wpS_seq->I6,wpS_region->DF,underlying->Go.k
open Go.BoundsCode renaming toNat->Go.BoundsCode.e
open Go.Calls renaming mono->Go.Calls.g
open Go.CallsD renaming mono->Go.CallsD.g
open Go.CallsIn renaming inRound->IB,mono->Go.CallsIn.g
open Go.Ending renaming returned->Go.Ending.a
open Go.Exit renaming thenS->xg
open Go.Fence renaming wide->nY
open Go.FrameMode renaming run->Go.FrameMode.O
open Go.Instr renaming loadAt->dw,storeAt->eY,build->fU,makeSlice->yM,fill->fJ,buildSlice->bJ,typeAssert->Ib,slice->Go.Instr.a,extract->Go.Instr.m
open Go.IntKind renaming u64->jG,i64->bT,u16->El,wrap->wP,bits->oH,signed->mH,wrap_u64->jZ,i64->Go.IntKind.a,u64->Go.IntKind.c
open Go.Lib renaming hid->ab
open Go.Obj renaming cells->eX,cells->Go.Obj.D
open Go.Op renaming bytesLess->bU,slice->Go.Op.a,extract->Go.Op.m
open Go.Oper renaming wp->nV,semAt_some->qQ
open Go.Operand renaming tmp->Go.Operand.a
open Go.Program renaming underlying->Go.Program.k
open Go.Proofs.Mul64 renaming wrapN->wS
open Go.Proofs.Tryz renaming underlying155->Et,prog->ah,underlying70->oP,underlying86->nM,underlying207->Er,underlying29->nO,underlying69->mq,underlying72->Gl,underlying123->Eu,underlying376->Ev,underlying56->dD,underlying58->kW,ntmps134->BM
open Go.Result renaming andThen->iM,andThen_ok->gW
open Go.ResultVar renaming tmp->Go.ResultVar.a
open Go.RoundIn renaming mono->Go.RoundIn.g
open Go.RowKit renaming Below->aM
open Go.RowKit.Below renaming refl->aG,size->Go.RowKit.Below.j,mono->Go.RowKit.Below.g
open Go.RowKit.Hid renaming out->Go.RowKit.Hid.i
open Go.Sem renaming run_bind->jS,run_pure->oU,run->Go.Sem.O
open Go.Shut renaming out->Go.Shut.i
open Go.Tables renaming info?->Go.Tables.l
open Go.TypeDesc renaming slice->Go.TypeDesc.a,int->Go.TypeDesc.b,bool->Go.TypeDesc.e,struct->Go.TypeDesc.d
open Go.TypeInfo renaming size->Go.TypeInfo.j
open Go.Value renaming oneCell'->dA,agg->cO,int->aI,slice->bB,cells->dz,ownBlock->j6,string->iK,pointer->tJ,bool->bP,cells->Go.Value.D,slice->Go.Value.a,int->Go.Value.b,pointer->Go.Value.c,agg->Go.Value.d,tuple->Go.Value.K,bool->Go.Value.e,ownBlock->Go.Value.f,oneCell'->Go.Value.h,string->Go.Value.g
open Go.World renaming size_alloc->pV,ownsRow_nil->fQ,heap->Go.World.a,cell?->Go.World.b,setCell->Go.World.I,ownsRow->Go.World.c,there->Go.World.S
open Go.World.grownBy renaming refl->dR
open Int renaming toNat_natCast->cK,tmod->MW,tmod_eq_emod_of_nonneg->mZ,toNat_of_nonneg->mg,toNat->Int.e
open List renaming length_set->aS,getD_eq_getElem?_getD->au,getElem?_set->fu,take_succ_eq_append_getElem->dU,foldl_append->Af,getElem?_eq_getElem->aC,foldl_cons->j4,replicate->dY,take_length->Bt,getElem_mem->eZ,getElem?_replicate->uG,length_replicate->pO,mem_singleton->fO,set_cons_succ->bH,set_cons_zero->bQ,take_succ_cons->jV,take_zero->kC,setIfInBounds_toArray->bI,drop_succ_cons->jW,drop_zero->lN,take_append_drop->iQ,size_toArray->dN,length_cons->bl,length_nil->gU,push_toArray->iX,append_toArray->gZ,nil_append->dJ,cons_append->gQ,length_take->bE,mem_cons_of_mem->kr,mem_cons_self->mU,flatMap_cons->iW,length_map->bW,pairwise_map->Ae,map_append->jC,mem_map->jf,getElem?_eq_none->aT,filter_eq_self->xY,findIdx?_eq_some_iff_getElem->fT,findIdx?_eq_none_iff->sI,getElem_of_mem->kM,mem_cons->bD,not_mem_nil->gu,any_eq_false->qL,any_eq_true->uH,flatMap_append->uD,filter_congr->Gj,mem_filter->mY,length_filter_le->pK,map_cons->kV,map_nil->qm,length_append->aQ,take_of_length_le->aK,drop_take->oQ,length->List.a,take->List.E,getD->List.b,drop->List.G,flatMap->List.d,below->List.Y,extract->List.m
open List.Perm renaming length_eq->List.Perm.t
open Nat renaming lt_or_ge->aZ,add_zero->kQ,le_refl->av,le_trans->aP,zero_le->jo,eq_zero_or_pos->eB,mod_eq_of_lt->gy,mul_le_mul->iq,mul_one->gP,min->qO,ne_of_lt->iO,le_of_eq->aU,mod_lt->fP,add_assoc->kY,reduceAdd->kZ,reduceSub->lg,mul_le_mul_right->dB,zero_add->bC,lt_succ_self->nD,add_sub_cancel_left->cZ
open Ne renaming symm->jE
open Option renaming getD_some->jJ,map_some->nS,toList->Option.a,getD->Option.b
open Or renaming inr->Or.a,inl->Or.b
open UInt8 renaming toNat->UInt8.e
open Vector renaming replicate->bG,length_toList->nZ,toList->Vector.a
namespace Go.Proofs.YtkjojjopamaoiaaGreat
open Go.RowKit
section
structure Tr where
 vP:Int
 vg:Int
 offset:Int
 skip:Int
 next:Int
def Tr.ay(x:Tr):Array aB:=#[.b .a x.vP,.b .a x.vg,.b .a x.offset,.b .a x.skip,.b .a x.next]
theorem Tr.J(x:Tr):x.ay.j=5:=by simp[Tr.ay]
theorem Tr.dx(x:Tr):x.ay.all (·.h)=true:=by simp[Tr.ay,dA]
@[go_sem]theorem Tr.Zg(x:Tr):x.ay[0]? = some (.b .a x.vP):=by simp[Tr.ay,aD]
@[go_sem]theorem Tr.akh(x:Tr):x.ay[1]? = some (.b .a x.vg):=by simp[Tr.ay,aD]
@[go_sem]theorem Tr.aki(x:Tr):x.ay[2]? = some (.b .a x.offset):=by simp[Tr.ay,aD]
@[go_sem]theorem Tr.aq3(x:Tr):x.ay[3]? = some (.b .a x.skip):=by simp[Tr.ay,aD]
@[go_sem]theorem Tr.aq4(x:Tr):x.ay[4]? = some (.b .a x.next):=by simp[Tr.ay,aD]
theorem Tr.WL(x:Tr)(v:Int):x.ay.c 1 (.b .a v)=({x with vg:=v}:Tr).ay:=by simp[Tr.ay,aL]
theorem Tr.anK(x:Tr)(v:Int):x.ay.c 4 (.b .a v)=({x with next:=v}:Tr).ay:=by simp[Tr.ay,aL]
def Aq:Tr:=⟨0,0,0,0,0⟩
@[go_sem]theorem azA:cO #[bg,bg,bg,bg,bg]=cO Aq.ay:=rfl
@[go_sem]theorem avz:eX #[bg,bg,bg,bg,bg] 155=eX Aq.ay 155:=rfl
theorem kTr:pQ 155 5 Aq.ay:=⟨⟨_,Et,rfl⟩,by kernel_rfl,by kernel_rfl,Tr.J _⟩
@[go_sem ↓]theorem aKQ(v:aB):dw 155 v=yU 155 v:=rfl
@[go_sem ↓]theorem aKR(v x:aB):eY 155 v x=zX 155 v x:=rfl
@[go_sem]theorem aHD(W:ak)(b o:Nat)(h:yE W b o 5):(yU 155 (.c (some ⟨b,o,none⟩))).O ah W=.ok (.d (eH W b o 5)) W:=kTr.ld W b o h
@[go_sem]theorem aEB(W:ak)(c:Array aB)(x:Tr)(b:Nat)(hb:b=W.a.j)(hc:eU c=5):(zX 155 (.c (some ⟨b,0,none⟩)) (.d x.ay)).O ah (W.alloc (.D c 155))=.ok () (W.alloc (.D x.ay 155)):=kTr.stN W c x.ay b hb hc (Tr.J x) (Tr.dx x)
@[go_sem ↓]theorem aKS(ps:Array (Nat×aB)):fU 155 ps=vK 155 ps:=rfl
theorem aEC(w:ak)(fs:Array oz)(h:ah.k 155=some (.d fs)):(iI (fun f=>Prod.mk f.offset <$> sizeOf f.type) fs:yA (Array (Nat×Nat))).O ah w=.ok #[(0,1),(1,1),(2,1),(3,1),(4,1)] w:=by
 have e:=Et;rw[h]at e;cases e;show _=_
 kernel_rfl
theorem Tr.D(x:Tr)(j:Nat)(hj:j<5):∃v,x.ay[j]? = some v:=⟨x.ay[j]'(by rw[Tr.J];exact hj),by simp[Tr.J,hj]⟩
def TrA(c:Array aB)(l:List Tr):Prop:=∀i,i<l.a->∀j,j<5->c[i*5+j]? = (l.b i Aq).ay[j]?
theorem TrA.put{c:Array aB}{l:List Tr}(h:TrA c l){i j:Nat}(hi:i<l.a)(hj:j<5)(v:aB)(y:Tr)(hy:(l.b i Aq).ay.c j v=y.ay):TrA (c.c (i*5+j) v) (l.set i y):=by
 intro i2 hi2 j2 hj2;rw[aS]at hi2;have h0:=h i2 hi2 j2 hj2;rw[dS,au,fu];by_cases e:i=i2
 ·subst e
  rw[if_pos rfl,if_pos hi,jJ,<-hy,dS];by_cases e2:j=j2
  ·subst e2
   have hlt:i*5+j<c.j:=by
    rcases aZ (i*5+j) c.j with h1|h1
    ·exact h1
    ·obtain⟨u,hu⟩:=Tr.D (l.b i Aq) j hj
     rw[aW h1,hu]at h0;cases h0
   rw[if_pos rfl,if_pos rfl,if_pos hlt,if_pos (by rw[Tr.J];exact hj)]
  ·rw[if_neg (by omega),if_neg e2,h0]
 ·rw[if_neg (by omega),if_neg e,<-au,h0]
theorem TrA.dW{W:ak}{b:Nat}{c:Array aB}{l:List Tr}(h:TrA c l)(hb:dP W b c){i:Nat}(hi:i<l.a):yE W b (i*5) 5/\eH W b (i*5) 5=(l.b i Aq).ay/\W.b ⟨b,i*5,none⟩=some (.b .a (l.b i Aq).vP)/\W.b ⟨b,i*5+1,none⟩=some (.b .a (l.b i Aq).vg)/\W.frozen? ⟨b,i*5+1,none⟩=false:=by
 obtain⟨h1,h2,h3,h4⟩:=hb.R;have hs:i*5+5<=c.j:=by
  obtain⟨u,hu⟩:=Tr.D (l.b i Aq) 4 (by omega);have:=h i hi 4 (by omega);rw[hu]at this;have:=(bY.1 this).1;omega
 refine⟨by rw[h3 _ _ (by unfold eU;omega)];trivial,?_,?_,?_,h2 _⟩
 ·rw[h4 _ _ (by unfold eU;omega)]
  apply dZ;intro j;rw[cu];by_cases hj:j<5
  ·rw[if_pos (by omega),h i hi j hj]
  ·rw[if_neg (by omega),aW (by rw[Tr.J];omega)]
 ·rw[h1];have:=h i hi 0 (by omega);rw[kQ]at this;rw[this];exact Tr.Zg _
 ·rw[h1,h i hi 1 (by omega)];exact Tr.akh _
theorem XL(q:List Nat)(i:Nat)(hi:i<q.a):mF (q.E (i+1))=max (mF (q.E i)) (q.b i 0):=by
 unfold mF;rw[dU hi,Af,au,aC hi];rfl
structure FiL(g n:Nat)(q o s:List Nat)(m:Mg)(l:List Tr):Prop where
 len:l.a=q.a
 crl:m.cr.a=q.a
 all:∀i,i<q.a->(l.b i Aq).vP=q.b i 0/\(l.b i Aq).offset=o.b i 0/\(l.b i Aq).skip=s.b i 0/\(l.b i Aq).vg=m.cr.b i 0/\m.cr.b i 0<g/\∃x:Nat,(l.b i Aq).next=x/\x<=n/\∀t,t<x->sN m.sl (rY (o.b i 0) (s.b i 0) n t)=false
theorem Dv{α:Type}(l:List α)(i j:Nat)(v d:α)(hi:i<l.a):(l.set i v).b j d=if i=j then v else l.b j d:=by
 rw[au,fu];by_cases h:i=j
 ·subst h;simp[hi]
 ·simp[h,au]
theorem aeh{sl:List Int}{k j:Nat}{v:Int}(hv:v≠-1)(h:sN sl j=false):sN (sl.set k v) j=false:=by
 unfold sN at h ⊢;rw[au,fu];split
 ·split
  ·simpa using hv
  ·simp
 ·rwa [<-au]
def IK(o s:List Nat)(n i t:Nat):Nat:=rY (o.b i 0) (s.b i 0) n t
variable {g n:Nat} {q o s:List Nat} {m:Mg} {l:List Tr}
theorem FiL.low(h:FiL g n q o s m l){i:Nat}(hi:i<q.a)(hlt:m.cr.b i 0+q.b i 0<g):FiL g n q o s (tT g n q (IK o s n) m i) (l.set i {l.b i Aq with vg:=(m.cr.b i 0+q.b i 0:Nat)}):=by
 have hl:=h.len;have hcl:=h.crl;unfold tT;rw[if_pos hlt];refine⟨by simpa using hl,by simpa using hcl,fun j hj=>?_⟩;rw[Dv _ _ _ _ _ (by omega),Dv _ _ _ _ _ (by omega)];by_cases e:i=j
 ·subst e
  simp only[if_true];obtain⟨a1,a2,a3,a4,a5,a6⟩:=h.all i hi;exact⟨a1,a2,a3,trivial,hlt,a6⟩
 ·rw[if_neg e,if_neg e]
  exact h.all j hj
theorem FiL.high(h:FiL g n q o s m l){i:Nat}(hi:i<q.a)(hge:¬m.cr.b i 0+q.b i 0<g)(hq:q.b i 0<=g){f:Nat}(hf:f=ff m.sl (IK o s n i) n)(hfn:f<n)(hno:∀t,t<f->sN m.sl (IK o s n i t)=false):
 FiL g n q o s (tT g n q (IK o s n) m i) ((l.set i {l.b i Aq with vg:=(m.cr.b i 0+q.b i 0-g:Nat)}).set i {l.b i Aq with vg:=(m.cr.b i 0+q.b i 0-g:Nat),next:=(f+1:Nat)}):=by
 have hl:=h.len;have hcl:=h.crl;unfold tT;rw[if_neg hge,<-hf,List.set_set];refine⟨by simpa using hl,by simpa using hcl,fun j hj=>?_⟩;rw[Dv _ _ _ _ _ (by omega),Dv _ _ _ _ _ (by omega)];by_cases e:i=j
 ·subst e
  simp only[if_true];obtain⟨a1,a2,a3,a4,a5,a6⟩:=h.all i hi;refine⟨a1,a2,a3,trivial,by omega,f+1,rfl,by omega,fun t ht=>?_⟩;rcases aZ t f with h1|h1
  ·exact aeh (by omega) (hno t h1)
  ·have:t=f:=by omega
   subst this;unfold sN;rw[au,fu];have e2:IK o s n i t=rY (o.b i 0) (s.b i 0) n t:=rfl;rw[e2,if_pos rfl];split
   ·simp
   ·simp
 ·rw[if_neg e,if_neg e]
  obtain⟨a1,a2,a3,a4,a5,x,a6,a7,a8⟩:=h.all j hj;exact⟨a1,a2,a3,a4,a5,x,a6,a7,fun t ht=>aeh (by omega) (a8 t ht)⟩
theorem FiL.first(h:FiL g n q o s m l){i:Nat}(hi:i<q.a){f x:Nat}(hx:(l.b i Aq).next=x)(hfree:sN m.sl (IK o s n i f)=true):x<=f:=by
 obtain⟨_,_,_,_,_,y,b1,b2,b3⟩:=h.all i hi;have:y=x:=by omega
 subst this;rcases aZ f y with h1|h1
 ·have:=b3 f h1
  have e2:IK o s n i f=rY (o.b i 0) (s.b i 0) n f:=rfl;rw[e2,this]at hfree;cases hfree
 ·exact h1
theorem aei(q:List Nat){i:Nat}(hi:i<q.a):q.b i 0<=mF q:=by
 have h1:∀(t:List Nat)(b:Nat),b<=t.foldl max b:=by
  intro t
  induction t with
  | nil=>intro b;exact av _
  | cons y t ih=>intro b;rw[j4];exact aP (Nat.le_max_left _ _) (ih _)
 have h2:∀(t:List Nat)(b i:Nat),i<t.a->t.b i 0<=t.foldl max b:=by
  intro t
  induction t with
  | nil=>intro b i hi;simp at hi
  | cons y t ih=>
    intro b i hi;rw[j4];cases i with
    | zero=>exact aP (Nat.le_max_right b y) (h1 t _)
    | succ i=>exact ih _ i (by simpa using hi)
 exact h2 q 0 i hi
variable (g n:Nat) (q o s:List Nat)
def FiS(g n:Nat)(q o s:List Nat)(tb sb:Nat)(W:ak)(J:Nat)(wr:ak):Prop:=∃(l:List Tr)(c d:Array aB),FiL g n q o s (jU g n q (IK o s n) J) l/\TrA c l/\SlA d (jU g n q (IK o s n) J).sl/\dP wr tb c/\dP wr sb d/\jP [tb,sb] W wr
theorem agC(tb sb k ck n cn g:Nat)(q o s:List Nat)(c d:Array aB)(l0:List Tr)(W:ak)(hg:mF q=g)(hc:dP W tb c)(hd:dP W sb d)(hne:tb≠sb)(hk:q.a=k)(hT:TrA c l0)(hS:SlA d (dY n (-1)))(hL:FiL g n q o s ⟨q.map fun _=>0,dY n (-1),n⟩ l0)
 (hk1:1<=k) (hk2:k<=100000) (hck:k<=ck) (hn:1<=n) (hn2:n<=100000) (hcn:n<=cn) (hq0:∀x∈q,0<x) (hg2:g<=100000000) (ho:∀i,i<k->o.b i 0<=100000) (hs:∀i,i<k->s.b i 0<=100000) (hf:acU n k (IK o s n)) :
 aR ah 85 #[.a (some ⟨tb,0,none⟩) k ck,.a (some ⟨sb,0,none⟩) n cn] W fun e W'=>e=.a (.K #[])/\(∃d',dP W' sb d'/\SlA d' (Fz n q (IK o s n)))/\jP [tb,sb] W W':=by
 have hqn:q≠[]:=by intro e;rw[e]at hk;simp at hk;omega
 obtain⟨K,_,hK1,hK2,hK3⟩:=YA (n:=n) (ch:=IK o s n) hqn hq0;rw[hg]at hK1 hK2 hK3;have OK:=ab (fun J (hJ:J<=K)=>alR (g:=g) (n:=n) (q:=q) (ch:=IK o s n) (by omega) (by rw[hk];exact hf) J (fun t ht=>hK2 t (by omega)));have HK1:=ab hK1;have HK2:=ab hK2;have HK3:=ab hK3;have HG:=ab hg;have HF:=ab (show acU n q.a (IK o s n)by rw[hk];exact hf);have HKQ:=ab hk;have ST0:=ab (show FiS g n q o s tb sb W 0 W from⟨l0,c,d,hL,hT,hS,hc,hd,jP.refl _ _⟩);have HT:=ab hT;have MZ:=ab (hL.len.trans hk);have HQ0:=ab (fun i (hi:i<k)=>(hL.all i (by omega)).1);have HO:=ab ho;have HS':=ab hs;have HNE:=ab hne;have HC:=ab hc;have Zh:=ab (fun i (hi:i<k)=>(by have:=aei q (i:=i) (by omega);omega:q.b i 0<=g));have HQP:=ab hq0;clear hK1 hK2 hK3 hg hf hk hL hT hS hc hd ho hs hne hqn hq0;go_enter Tryz.func85,Tryz.ntmps85;go_wp2;go_step3;go_wp2;go_loopw [4,12] (fun s4 s12 wr=>∃i:Nat,i<=k/\s12=.b .a i/\s4=.b .a (mF (q.E i):Nat)/\dP wr tb c/\FiS g n q o s tb sb W 0 wr) (fun _ s12 _=>k-(intOf s12).e)
 case atStart=>exact⟨0,jo _,rfl,rfl,HC.i,ST0.i⟩
 case round=>
  obtain⟨i,hi,rfl,rfl,hbc,hst⟩:=hrel;have HB:=ab hbc;have HST:=ab hst;clear hst;by_cases hlt:i<k
  ·have hli:(i:Int)<k:=by omega
   obtain⟨a1,a2,_,_,_⟩:=HT.i.dW hbc (i:=i) (by rw[MZ.i];exact hlt);obtain⟨x,hx⟩:=cB (l0.b i Aq);have hxq:x.vP=(q.b i 0:Nat):=by rw[hx];exact HQ0.i i hlt
   rw[<-hx]at a2;have hg1:=XL q i (by rw[HKQ.i];exact hlt);obtain⟨u,hu⟩:=cB (mF (q.E i));obtain⟨v,hv⟩:=cB (q.b i 0);obtain⟨z,hz⟩:=cB (mF (q.E (i+1)));rw[<-hu,<-hv,<-hz]at hg1;rw[<-hv]at hxq;have m1:max (u:Int) (v:Int)=z:=by omega
   have m2:(if(u:Int)<(v:Int)then(v:Int)else(u:Int))=z:=by split<;>omega
   have X1:=ab (dP.new wr x.ay 155);have b0:=X1.i.R.1 0;rw[Tr.Zg]at b0;have HZ:=ab hz;rw[<-hu];clear hx hu hv hg1 hz hbc;go_wp2;go_roundw
   case rel=>exact⟨i+1,by omega,by go_num,by rw[<-HZ.i],HB.i.alloc _,by obtain⟨l,c1,d1,y1,y2,y3,y4,y5,y6⟩:=HST.i;exact⟨l,c1,d1,y1,y2,y3,y4.alloc _,y5.alloc _,y6.alloc _⟩⟩
   case measure=>simp[intOf]<;>omega
  ·have hik:i=k:=by omega
   have hd:decide ((i:Int)<k)=false:=by simp;omega
   have HGI:=ab (show mF (q.E i)=g by rw[hik,<-HKQ.i,Bt,HG.i]);rw[HGI.i];clear hik;go_wp2;go_step3;go_wp2;have HKP:=ab (show 0<K by
    rcases eB K with h0|h0
    ·have:=HK1.i;rw[h0]at this;simp[jU]at this;omega
    ·exact h0)
   go_loopw [7] (fun s7 wr=>∃(J r:Nat),J=r*k/\J<K/\s7=.b .a ((jU g n q (IK o s n) J).left:Nat)/\FiS g n q o s tb sb W J wr) (fun s7 _=>(intOf s7).e)
   case atStart=>exact⟨0,0,by omega,HKP.i,rfl,HST.i⟩
   case round=>
    obtain⟨J,r,hJ,hJK,rfl,azD⟩:=hrel;have HJ:=ab hJ;have aED:=ab azD;obtain⟨lf,hlf⟩:=cB ((jU g n q (IK o s n) J).left);have HLF:=ab hlf;rw[<-hlf];clear hJ azD hlf hd;go_wp2;go_loopw [7,25] (fun s7 s25 wr=>∃(i J2:Nat),i<=k/\s25=.b .a i/\J2=J+i/\J2<K/\s7=.b .a ((jU g n q (IK o s n) J2).left:Nat)/\FiS g n q o s tb sb W J2 wr) (fun _ s25 _=>k-(intOf s25).e)
    case atStart=>exact⟨0,J,jo _,rfl,rfl,hJK,by rw[HLF.i],aED.i⟩
    case round=>
     obtain⟨i2,J2,hi2,rfl,hJ2,azE,rfl,l,c1,d1,hL,hT,hS,hb1,hb2,hfr⟩:=hrel;have HJ2:=ab hJ2;obtain⟨m,hm⟩:=cB (jU g n q (IK o s n) J2);have HM:=ab hm;rw[<-hm]at hL hS;rw[<-hm];clear hJ2 hm;by_cases hlt:i2<k
     ·have hli:(i2:Int)<k:=by omega
      have hiq:i2<q.a:=by rw[HKQ.i];exact hlt
      have MOK:=ab (show afj n q m by rw[HM.i];exact OK.i J2 (by omega));have hl0:m.left≠0:=by rw[HM.i];exact HK2.i J2 azE
      have HNX:=ab (show jU g n q (IK o s n) (J2+1)=tT g n q (IK o s n) m i2 by
       rw[HM.i];show tT g n q (IK o s n) _ (J2%q.a)=_;rw[HKQ.i,HJ2.i,HJ.i,Nat.mul_comm,Nat.mul_add_mod,gy hlt])
      obtain⟨e1,e2,e3,e4,e5,x,e6,e7,e8⟩:=hL.all i2 hiq;have hll:i2<l.a:=by rw[hL.len];exact hiq
      obtain⟨_,_,k1,k2,k3⟩:=hT.dW hb1 hll;obtain⟨y,hy⟩:=cB (l.b i2 Aq);rw[<-hy]at e1 e2 e3 e4 e6 k1 k2;obtain⟨ci,hci⟩:=cB (m.cr.b i2 0);obtain⟨qi,hqi⟩:=cB (q.b i2 0);rw[<-hci]at e4 e5;rw[<-hqi]at e1;rw[e1]at k1;rw[e4]at k2;have hqg:qi<=g:=by rw[hqi];exact Zh.i i2 hlt
      obtain⟨cs,hcs⟩:=cB (ci+qi);have s1:(ci:Int)+(qi:Int)=cs:=by omega
      have hcs2:cs<=200000000:=by omega
      have s2:=jY (cs:Int) (by omega);have X1:=ab (show dP ((wr.I ⟨tb,i2*5+1,none⟩ (.b .a cs)).drew) tb (c1.c (i2*5+1) (.b .a (cs:Nat)))from hb1.fC (i2*5+1) (.b .a cs));have X2:=ab (show dP ((wr.I ⟨tb,i2*5+1,none⟩ (.b .a cs)).drew) sb d1 from hb2.dQ ⟨tb,i2*5+1,none⟩ (.b .a cs) HNE.i);have F1:=ab (show jP [tb,sb] W ((wr.I ⟨tb,i2*5+1,none⟩ (.b .a cs)).drew)from(hfr.set ⟨tb,i2*5+1,none⟩ (.b .a cs) (.b (by simp))).drewN 1);have T1:=ab (hT.put (j:=1) hll (by omega) (.b .a (cs:Nat)) {y with vg:=(cs:Nat)} (by rw[<-hy];exact Tr.WL y cs));have HL:=ab hL;have HS:=ab hS;have HCI:=ab hci;have HQI:=ab hqi;have HCS:=ab hcs;have HYL:=ab hy;have E2:=ab e2;have E3:=ab e3;have E6:=ab e6;clear hL hT hS hb1 hb2 hfr e1 e2 e3 e4 e6 e7 e8 hy hci hqi hcs;go_upto_region 11 with fail
      go_region;clear k1 k2 k3 s1 s2;generalize(wr.I ⟨tb,i2*5+1,none⟩ (.b .a cs)).drew=w1 at X1 X2 F1 ⊢;obtain⟨_,_,_,k2,k3⟩:=T1.i.dW X1.i (i:=i2) (by rw[aS];exact hll);rw[Dv _ _ _ _ _ hll,if_pos rfl]at k2;simp only at k2;by_cases hlow:cs<g
      ·have hlo:(cs:Int)<g:=by omega
       have HL2:=ab (show FiL g n q o s (jU g n q (IK o s n) (J2+1)) (l.set i2 {y with vg:=(cs:Nat)})by
        have:=HL.i.low hiq (by rw[<-HCI.i,<-HQI.i,<-HCS.i];exact hlow);rw[<-HCI.i,<-HQI.i,<-HCS.i,<-HYL.i]at this;rw[HNX.i];exact this)
       have HM2:=ab (show(jU g n q (IK o s n) (J2+1)).sl=m.sl/\(jU g n q (IK o s n) (J2+1)).left=m.left by
        rw[HNX.i];unfold tT;rw[if_pos (by rw[<-HCI.i,<-HQI.i,<-HCS.i];exact hlow)];exact⟨rfl,rfl⟩)
       have aEH:=ab (show J2+1<K by
        rcases aZ (J2+1) K with h1|h1
        ·exact h1
        ·exfalso
         have:J2+1=K:=by omega
         have h2:=HM2.i.2;rw[this,HK1.i]at h2;omega)
       clear hlow;go_wp2;go_roundw
       case rel=>exact⟨i2+1,J2+1,by omega,by go_num,by rw[HJ2.i];omega,aEH.i,by rw[HM2.i.2],_,_,_,HL2.i,T1.i,by rw[HM2.i.1];exact HS.i,X1.i,X2.i,F1.i⟩
       case measure=>simp[intOf]<;>omega
      ·have hge:¬(cs:Int)<g:=by omega
       obtain⟨dh,hdh⟩:=cB (cs-g);have s3:(cs:Int)-(g:Int)=dh:=by omega
       have s4:=jY (dh:Int) (by omega);have HDH:=ab hdh;have X3:=ab (show dP (w1.I ⟨tb,i2*5+1,none⟩ (.b .a dh)) tb ((c1.c (i2*5+1) (.b .a (cs:Nat))).c (i2*5+1) (.b .a (dh:Nat)))from X1.i.fC (i2*5+1) (.b .a dh));have X4:=ab (show dP (w1.I ⟨tb,i2*5+1,none⟩ (.b .a dh)) sb d1 from X2.i.dQ ⟨tb,i2*5+1,none⟩ (.b .a dh) HNE.i);have F3:=ab (show jP [tb,sb] W (w1.I ⟨tb,i2*5+1,none⟩ (.b .a dh))from F1.i.set ⟨tb,i2*5+1,none⟩ (.b .a dh) (.b (by simp)));have T3:=ab (show TrA ((c1.c (i2*5+1) (.b .a (cs:Nat))).c (i2*5+1) (.b .a (dh:Nat))) (l.set i2 {y with vg:=(dh:Nat)})by
        have:=T1.i.put (j:=1) (i:=i2) (by rw[aS];exact hll) (by omega) (.b .a (dh:Nat)) {y with vg:=(dh:Nat)} (by rw[Dv _ _ _ _ _ hll,if_pos rfl,Tr.WL])
        rwa [List.set_set]at this)
       clear X1 X2 T1 hdh;generalize(c1.c (i2*5+1) (.b .a (cs:Nat))).c (i2*5+1) (.b .a (dh:Nat))=c3 at X3 T3;obtain⟨f,hf⟩:=cB (ff m.sl (IK o s n i2) n);obtain⟨ff1,ff2,ff3⟩:=asb (MOK.i.free HF.i hl0 hiq);rw[<-hf]at ff1 ff2 ff3;have hlen3:i2<(l.set i2 {y with vg:=(dh:Nat)}).a:=by rw[aS];exact hll
       have hget:(l.set i2 {y with vg:=(dh:Nat)}).b i2 Aq={y with vg:=(dh:Nat)}:=by rw[Dv _ _ _ _ _ hll,if_pos rfl]
       have q2:=T3.i i2 hlen3 2 (by omega);have q3:=T3.i i2 hlen3 3 (by omega);have q4:=T3.i i2 hlen3 4 (by omega);rw[hget]at q2 q3 q4;rw[Tr.aki]at q2;rw[Tr.aq3]at q3;rw[Tr.aq4]at q4;simp only[E2.i,E3.i,E6.i]at q2 q3 q4;have CT:=ab (fun(w2:ak) (hb1:dP w2 tb c3) (hb2:dP w2 sb d1)=>agB tb sb (i2*5) i2 n cn (o.b i2 0) (s.b i2 0) x f c3 d1 m.sl w2 hb1 hb2 HNE.i q2 q3 q4 HS.i MOK.i.sll hn hn2 hcn (HO.i i2 hlt) (HS'.i i2 hlt) (HL.i.first hiq (by rw[<-HYL.i];exact E6.i) ff2) ff1
        (fun t _ ht=>of_decide_eq_false (ff3 t ht)) (of_decide_eq_true ff2))
       have HL3:=ab (show FiL g n q o s (jU g n q (IK o s n) (J2+1)) ((l.set i2 {y with vg:=(dh:Nat)}).set i2 {y with vg:=(dh:Nat),next:=(f+1:Nat)})by
        have:=HL.i.high hiq (by rw[<-HCI.i,<-HQI.i,<-HCS.i];exact hlow) (by rw[<-HQI.i];exact hqg) hf ff1 ff3;rw[<-HCI.i,<-HQI.i,<-HCS.i,<-HYL.i,<-HDH.i]at this;rw[HNX.i];exact this)
       have HM3:=ab (show(jU g n q (IK o s n) (J2+1)).sl=m.sl.set (rY (o.b i2 0) (s.b i2 0) n f) i2/\(jU g n q (IK o s n) (J2+1)).left=m.left-1 by
        rw[HNX.i];unfold tT;rw[if_neg (by rw[<-HCI.i,<-HQI.i,<-HCS.i];exact hlow),<-hf];exact⟨rfl,rfl⟩)
       have T4:=ab (T3.i.put (j:=4) hlen3 (by omega) (.b .a (f+1:Nat)) {y with vg:=(dh:Nat),next:=(f+1:Nat)} (by rw[hget];exact Tr.anK _ _));obtain⟨lf2,azF⟩:=cB (m.left-1);have hmn:m.left<=n:=by
        have:=MOK.i.fr;have h1:=MOK.i.sll;have h2:=List.countP_le_length (p:=fun x:Int=>decide (x = -1)) (l:=m.sl);unfold Jo at this;omega
       have s5:(m.left:Int)-1=lf2:=by omega
       have s6:=jY (lf2:Int) (by omega);rw[<-azF]at HM3;clear hlow ff1 ff2 ff3 hf hget q2 q3 q4 hlen3 azF hmn;by_cases hz:lf2=0
       ·have aEI:=ab (show Fz n q (IK o s n)=m.sl.set (rY (o.b i2 0) (s.b i2 0) n f) i2 by
         have hK:K=J2+1:=by
          rcases aZ (J2+1) K with h1|h1
          ·have:=HK2.i _ h1
           rw[HM3.i.2]at this;exact absurd hz this
          ·omega
         rw[HK3.i,hK,HM3.i.1])
        subst hz;go_wp2_with (go_at_call 169;(with_reducible refine(CT.i _ X3.i X4.i).g ?_);rintro e w3 ⟨rfl,ht1,ht2,ht3⟩;have X5:=ab ht2;have F5:=ab (F3.i.qy ht3);clear ht1 ht2 ht3)
        try rw[Exit.noGoto_normal]
        go_end0;exact⟨rfl,⟨_,X5.i,by rw[aEI.i];exact HS.i.set _⟩,F5.i⟩
       ·have hz2:¬(lf2:Int)=0:=by omega
        have aEJ:=ab (show J2+1<K by
         rcases aZ (J2+1) K with h1|h1
         ·exact h1
         ·exfalso
          have:J2+1=K:=by omega
          have h2:=HM3.i.2;rw[this,HK1.i]at h2;omega)
        go_wp2_with (go_at_call 169;(with_reducible refine(CT.i _ X3.i X4.i).g ?_);rintro e w3 ⟨rfl,ht1,ht2,ht3⟩;have X5:=ab ht1;have X6:=ab ht2;have F5:=ab (F3.i.qy ht3);clear ht1 ht2 ht3);go_roundw
        case rel=>exact⟨i2+1,J2+1,by omega,by go_num,by rw[HJ2.i];omega,aEJ.i,by rw[HM3.i.2],_,_,_,HL3.i,T4.i,by rw[HM3.i.1];exact HS.i.set _,X5.i,X6.i,F5.i⟩
        case measure=>simp[intOf]<;>omega
     ·have azG:i2=k:=by omega
      have hd2:decide ((i2:Int)<k)=false:=by simp;omega
      have HJR:=ab (show J2=(r+1)*k by rw[HJ2.i,HJ.i,azG,Nat.add_mul];omega);have HLS:=ab (show m.left<lf by
       obtain⟨i0,hi0,hgi⟩:=Ea (q:=q) (by intro e;have:=HKQ.i;rw[e]at this;simp at this;omega) HQP.i;rw[HG.i]at hgi;have hp:=aar (g:=g) (n:=n) (q:=q) (ch:=IK o s n) hi0 hgi r;rw[HKQ.i,<-HJR.i,<-HJ.i,<-HLF.i,<-HM.i]at hp;have h1:=HK2.i J hJK;rw[<-HLF.i]at h1;omega)
      have aEK:=ab (show FiS g n q o s tb sb W J2 wr from⟨l,c1,d1,by rw[<-HM.i];exact hL,hT,by rw[<-HM.i];exact hS,hb1,hb2,hfr⟩);clear hL hT hS hb1 hb2 hfr azG;go_wp2;go_roundw
      case rel=>exact⟨J2,r+1,HJR.i,azE,by rw[HM.i],aEK.i⟩
      case measure=>have:=HLS.i;simp[intOf]<;>omega
end
def aq6(l:List pW):Prop:=WI l/\(∀x∈l,0<=x.q/\x.q<=1024000)/\l.a<=1024
theorem WI.ne{l:List pW}(h:WI l){j:Nat}(hj:j+1<l.a):(l.b j lT).F≠(l.b (j+1) lT).F:=by
 have:=List.pairwise_iff_getElem.1 h j (j+1) (by omega) hj (by omega);rw[au,au,aC (by omega),aC hj,jJ,jJ];intro e;rw[e,tY]at this;cases this
theorem Zi{B:Nat}{w W:ak}(h:aM B w W)(q:Nat):aM B w (W.drewN q):=⟨h.os,h.tape,h.output,h.j,h.block⟩
theorem akk(l:List pW)(hk:aq6 l)(A:Option aV)(n c:Nat)(w:ak)(hR:iT pW.ay 2 w w.a.j A n l):
 aR ah 82 #[.a A n c] w (gY w (.e true)):=by
 have hl:=hR.1;have hn:n<=1024:=by have:=hk.2.2;omega
 have HK:=ab hk;have HR:=ab hR;have HL:=ab hl;clear hk hl;go_enter Tryz.func82,Tryz.ntmps82;go_wp2;go_loopw [7] (fun i wr=>∃k:Nat,k<=n/\i=.b .a k/\aM w.a.j w wr)
  (fun i _=>n-(intOf i).e)
 case atStart=>exact⟨0,jo _,rfl,aG _ _⟩
 case round=>
  obtain⟨k,hkn,rfl,hnx⟩:=hrel;have HN:=ab hnx;by_cases hlt:k<n
  ·have hki:(k:Int)<n:=by omega
   have R1:=ab (HR.i.Y HN.i);obtain⟨b,o,hA,hbb,hh,hc⟩:=iT.dW pW.Cv lT R1.i hlt;subst hA;obtain⟨x,hx⟩:=cB (l.b k lT);rw[<-hx]at hc;have hxm:x∈l:=by rw[hx,au,aC (by rw[HL.i];omega),jJ];exact eZ _
   obtain⟨q1,q2⟩:=HK.i.2.1 x hxm;have t1:decide (x.q<0)=false:=by simp;omega
   have t2:decide (x.q>1024000)=false:=by simp;omega
   have t3:decide (1024000<x.q)=false:=by simp;omega
   have HX:=ab hx;have hsz:=hnx.j;have HB1:=ab (hnx.alloc (by omega) (.D x.ay 151));have bx:=ab (dP.new wr x.ay 151);have f0:∀i,(wr.alloc (.D x.ay 151)).b ⟨wr.a.j,i,none⟩=x.ay[i]?:=bx.i.R.1;have s0:=(f0 0).trans (pW.zJ x);have s1:=(f0 1).trans (pW.aqY x);have i3:=jY ((k:Int)+1) (by omega);clear hx hbb hnx hxm f0 q1 q2 hsz;by_cases h0:0<k
   ·obtain⟨j,hj⟩:∃j,k=j+1:=⟨k-1,by omega⟩
    obtain⟨b2,o2,hA2,acQ,hcj⟩:=iT.cell pW.Cv lT ((HR.i.Y HN.i).alloc (by have:=HN.i.j;omega) (.D x.ay 151)) (show j<n by omega);obtain⟨y,hy⟩:=cB (l.b j lT);have hne:y.F≠x.F:=by
     rw[hy,HX.i,hj];exact HK.i.1.ne (by rw[HL.i];omega)
    rw[<-hy]at hcj;cases hA2;have c0:=(hcj 0 (by omega)).trans (pW.zJ y);rw[kQ]at c0;have t4:decide ((k:Int)>0)=true:=by simp;omega
    have t5:decide (0<k)=true:=by simp;omega
    have t6:(y.F==x.F)=false:=by simpa using hne
    have i1:(k:Int)-1=(j:Int):=by omega
    have i2:=jY (j:Int) (by omega);have i4:(j:Int)<n:=by omega
    clear hcj hy hne hj h0 acQ;go_wp2_with fail;go_quiet (fail);go_wp2;go_roundw
    case rel=>exact⟨k+1,by omega,by simp,Zi HB1.i _⟩
    case measure=>simp[intOf];omega
   ·have t4:decide ((k:Int)>0)=false:=by simp;omega
    have t5:decide (0<k)=false:=by simp;omega
    clear h0;go_wp2_with fail;go_quiet (fail);go_wp2;go_roundw
    case rel=>exact⟨k+1,by omega,by simp,Zi HB1.i _⟩
    case measure=>simp[intOf];omega
  ·obtain rfl:k=n:=by omega
   have hd:decide ((k:Int)<k)=false:=by simp
   have t1:decide ((k:Int)<=1024)=true:=by simp;omega
   go_wp2;go_ret;exact⟨rfl,HN.i⟩
theorem akl(x y:Nat)(hx:x<18446744073709551616)(hy:y<18446744073709551616)(w:ak):
 aR ah 242 #[.b .c x,.b .c y] w fun e w'=>e=.a (.K #[.b .c ((x*y/18446744073709551616:Nat):Int),.b .c ((x*y%18446744073709551616:Nat):Int)])/\w=w':=by
 obtain⟨bd,bt,bw,hhi⟩:=Lib.mul64_hi x y hx hy;have ba:=Lib.half_mul_le (a:=x/4294967296) (b:=y/4294967296) (by omega) (by omega);have bb:=Lib.half_mul_le (a:=x/4294967296) (b:=y%4294967296) (by omega) (by omega);have bc:=Lib.half_mul_le (a:=x%4294967296) (b:=y/4294967296) (by omega) (by omega);have ba':x/4294967296*(y/4294967296)<18446744073709551616:=by omega
 have bb':x/4294967296*(y%4294967296)<18446744073709551616:=by omega
 have bc':x%4294967296*(y/4294967296)<18446744073709551616:=by omega
 have bh1:x/4294967296*(y/4294967296)+(x/4294967296*(y%4294967296)+x%4294967296*(y%4294967296)/4294967296)/4294967296<18446744073709551616:=by omega
 have bh:x/4294967296*(y/4294967296)+(x/4294967296*(y%4294967296)+x%4294967296*(y%4294967296)/4294967296)/4294967296+((x/4294967296*(y%4294967296)+x%4294967296*(y%4294967296)/4294967296)%4294967296+x%4294967296*(y/4294967296))/4294967296<18446744073709551616:=by
  rw[hhi];have:=iq (show x<=18446744073709551615 by omega) (show y<=18446744073709551615 by omega);omega
 go_enter Tryz.func242,Tryz.ntmps242;go_wp2;simp only[Mul64.maskN x hx,Mul64.maskN y hy,Mul64.divN,Mul64.mulN,Mul64.addN,wS _ bd,wS _ bb',wS _ bt,Mul64.maskN _ bt,wS _ bc',wS _ bw,wS _ ba',wS _ bh1,wS _ bh,Mul64.wrapM];rw[hhi];go_ret2;exact⟨rfl,rfl⟩
theorem aq7(x y:Nat)(hx:x<18446744073709551616)(hy:y<18446744073709551616)(w:ak):
 aR ah 168 #[.b .c x,.b .c y] w fun e w'=>e=.a (.K #[.b .c ((x*y/18446744073709551616:Nat):Int),.b .c ((x*y%18446744073709551616:Nat):Int)])/\w=w':=by
 have C:=ab (akl x y hx hy w);go_enter Tryz.func168,Tryz.ntmps168;go_wp2_with (go_at_call 242;(with_reducible refine C.i.g ?_);rintro e w1 ⟨rfl,rfl⟩);go_ret2;exact⟨rfl,rfl⟩
theorem mul_one(n:Nat)(hn:n<=1000000)(w:ak):
 aR ah 168 #[.b .c 1,.b .c n] w fun e w'=>e=.a (.K #[.b .c 0,.b .c n])/\w=w':=by
 refine(aq7 1 n (by decide) (by omega) w).g ?_;rintro e w1 ⟨rfl,rfl⟩;have e1:1*n/18446744073709551616=0:=by omega
 have e2:1*n%18446744073709551616=n:=by omega
 rw[e1,e2];exact⟨rfl,rfl⟩
theorem aij(w:ak)(n:Nat)(hn:n<=1000000):(yM 70 (.b .a n) (.b .a n)).O ah w=.ok (.a (some ⟨w.a.j,0,none⟩) n n) (w.alloc (.D (madeCells #[.b .a 0] n) 3)):=by
 obtain⟨i,h1,h2,h3,h4⟩:=DC (P:=ah) (e:=3) (z:=.b .a 0) (size:=1) (bytes:=8) (by kernel_rfl);have:=run_make w 70 3 i _ oP h1 h2 .a .a (n:Int) (n:Int) (by omega) (by omega) (by rw[h4];omega) (by omega);rw[cK,h3,gP]at this;exact this
theorem agD{w:ak}{ops:Array ji}{rest:List ji}{o:ji}{a:rO}{Q:Exit->rO->ak->Prop}(hg:o.guard=none)(l c:ql)(II:o.op=Op.makeSlice 70 l c)
 (n:Nat) (hl:a.eval l=.b .a n) (hc:a.eval c=.b .a n) (hn:n<=1000000)
 (hK:wpList ah ops Q rest (a.put o.dst (.a (some ⟨w.a.j,0,none⟩) n n)) (w.alloc (.D (madeCells #[.b .a 0] n) 3))):wpList ah ops Q (o::rest) a w:=by
 refine uq hg fun K hK'=>?_
 unfold nV;simp[execOp,II,hl,hc,aij w n hn,iM];exact hK' _ _ hK
theorem aik(W:ak){y z m dl dc sl sc:Nat}{a:aV}{vs:List aB}(hm:vs.a=m)(hm2:m=qO sl dl)(hsrc:∀j v,vs[j]? = some v->W.b (a.add j)=some v)(hth:W.S y z m)(h1:∀v∈vs,v.h=true)(ty:bL):
 (Builtin.copy_ #[70,70] ty #[.a (some ⟨y,z,none⟩) dl dc,.a (some a) sl sc]).O ah W=.ok (goInt m) (W.setCells y z vs):=by
 have:=run_copy_cells (P:=ah) W 70 70 ty 3 y z dl dc a sl sc vs oP (by kernel_rfl) (by rw[hm,hm2]) hsrc (fun j hj=>(hth j (by rw[<-hm];exact hj)).1) (fun j hj=>(hth j (by rw[<-hm];exact hj)).2) h1;rw[hm]at this;exact this
theorem agE{w:ak}{ops:Array ji}{rest:List ji}{o:ji}{a:rO}{Q:Exit->rO->ak->Prop}(hgd:o.guard=none)(d s:ql)
 (ho:o.op=.call {callee:=.builtin .copy,args:=#[d,s],argTypes:=#[70,70]}) {y z m dl dc sl sc:Nat} {dp:Option aV} {b:aV} {vs:List aB} (hdp:dp=some ⟨y,z,none⟩) (hd:a.eval d=.a dp dl dc) (hs:a.eval s=.a (some b) sl sc)
 (hm:vs.a=m) (hm2:m=qO sl dl) (hsrc:∀j v,vs[j]? = some v->w.b (b.add j)=some v) (hth:w.S y z m) (h1:∀v∈vs,v.h=true)
 (h:wpList ah ops Q rest (a.put o.dst (goInt m)) (w.setCells y z vs)):wpList ah ops Q (o::rest) a w:=by
 subst hdp;refine uq hgd fun K hK=>?_
 unfold nV;simp[execOp,ho,resolve,invoke,builtin,hd,hs,aik w hm hm2 hsrc hth h1,iM];exact hK _ _ h
theorem anL{w:ak}{ops:Array ji}{o:ji}{a:rO}{K:rO->ak->Prop}{Q:Exit->rO->ak->Prop}{E:Prop}(hgd:o.guard=none)(d s:ql)
 (ho:o.op=.call {callee:=.builtin .copy,args:=#[d,s],argTypes:=#[70,70]}) {y z m dl dc sl sc:Nat} (dp:Option aV) {b:aV} {vs:List aB} (hdp:dp=some ⟨y,z,none⟩) (hd:a.eval d=.a dp dl dc) (hs:a.eval s=.a (some b) sl sc)
 (hm:vs.a=m) (hm2:m=qO sl dl) (hsrc:∀j v,vs[j]? = some v->w.b (b.add j)=some v) (hth:w.S y z m) (h1:∀v∈vs,v.h=true)
 (h:K (a.put o.dst (goInt m)) (w.setCells y z vs)):if Region.wanted o (yielded ops a.tmps)=true then nV ah o a w K Q else E:=by
 subst hdp;have hw:Region.wanted o (yielded ops a.tmps)=true:=by simp[Region.wanted,hgd]
 rw[if_pos hw];unfold nV;simp[execOp,ho,resolve,invoke,builtin,hd,hs,aik w hm hm2 hsrc hth h1,iM];exact h
section
attribute [local go_sem high] iR jI
theorem anM(n:Nat)(h:n<18446744073709551616):jG.wrap (n:Int)=(n:Int):=wS n h
theorem agF(n:Nat)(hn:1<=n)(hn2:n<=100000)(b cx:Nat)(v:Int)(w:ak)(hx:dP w b #[.b .a v]):
 aR ah 84 #[.a (some ⟨b,0,none⟩) 1 cx,.b .a n] w fun e w'=>∃g d,w.a.j<=g/\e=.a (.a (some ⟨g,0,none⟩) n n)/\dP w' g d/\d.j=n/\SlA d (dY n v)/\aM w.a.j w w':=by
 have MU:=ab (fun w=>mul_one n (by omega) w);have hnI:(1:Int)<=n:=by omega
 have t1:decide ((n:Int)<0)=false:=by simp
 have t2:decide ((n:Int)>9223372036854775807)=false:=by simp;omega
 have t3:decide ((9223372036854775807:Int)<n)=false:=by simp;omega
 have t4:decide (9223372036854775807<n)=false:=by simp;omega
 have u1:=anM n (by omega);have i1:=jY (n:Int) (by omega);obtain⟨d0,hd0⟩:=cB (madeCells #[.b .a 0] n);have D0:=ab (show d0.j=n by rw[hd0];exact size_madeCells _ _);have HD0:=ab hd0;obtain⟨g,hg⟩:=cB w.a.j;have BG:=ab (show dP (w.alloc (.D d0 3)) g d0 by rw[hg];exact dP.new w d0 3);have BX:=ab (hx.alloc (.D d0 3));have HG:=ab hg;have HLT:=ab (show b≠g by rw[hg];exact iO hx.lt);have BL:=ab ((aG w.a.j w).alloc (av _) (.D d0 3));have SRC:=ab (show∀j u,[(.b .a v:aB)][j]? = some u->(w.alloc (.D d0 3)).b ((⟨b,0,none⟩:aV).add j)=some u by
  intro j u hu;have:=BX.i.R.1 j;cases j with
  | zero=>simpa[Addr.add]using this.trans hu
  | succ j=>simp at hu)
 have TH:=ab (BG.i.S 0 1 (by rw[D0.i];omega));have MK:=ab (aij w n (by omega));clear hd0 hg;go_enter Tryz.func84,Tryz.ntmps84;go_wp2_with (first|(go_at_call 168;(with_reducible refine(MU.i _).g ?_);rintro e w1 ⟨rfl,rfl⟩)|(refine agD rfl (.a 29) (.a 29) rfl n rfl rfl (by omega) ?_;rw[<-HD0.i,<-HG.i];generalize hww:w.alloc (.D d0 3)=w1 at BG BX BL SRC TH⊢;clear hww)|(refine agE rfl (.a 31) (.a 32) rfl (y:=g) (z:=0) (m:=1) (vs:=[.b .a v]) rfl rfl rfl rfl (by show 1=min 1 n;omega) SRC.i TH.i (by simp[dA]) ?_));have B1:=ab (BG.i.setCells 0 [.b .a v]);have L1:=ab (yZ (B:=w.a.j) (aU HG.i.symm) [.b .a v] 0 _ BL.i);clear SRC TH MU;go_loopw [8] (fun i wr=>∃(k:Nat)(d:Array aB),1<=k/\k<=n/\i=.b .a k/\dP wr g d/\d.j=n/\(∀j,j<k->d[j]? = some (.b .a v))/\aM w.a.j w wr)
  (fun i _=>n-(intOf i).e)
 case atStart=>
  refine⟨1,_,av _,hn,rfl,B1.i,by rw[XZ,D0.i],fun j hj=>?_,L1.i⟩;obtain rfl:j=0:=by omega
  rw[EX,if_pos ⟨by omega,by simp,by rw[D0.i];omega⟩];rfl
 case round=>
  obtain⟨k,d,hk1,hkn,rfl,hb,hds,hall,hbel⟩:=hrel;by_cases hlt:k<n
  ·have hki:(k:Int)<n:=by omega
   have aK2:(k:Int)<=n:=by omega
   obtain⟨m,hm⟩:=cB (qO k (n-k));have hm2:m<=k/\0<m/\k+m<=n:=by have e:qO k (n-k)=min k (n-k):=rfl;rw[e]at hm;omega
   obtain⟨k2,hk2⟩:=cB (k+m);have i2:(k:Int)+(m:Int)=(k2:Int):=by omega
   have i3:=jY (k2:Int) (by omega);have SRC:=ab (show∀j u,(dY m (.b .a v:aB))[j]? = some u->wr.b ((⟨g,0,none⟩:aV).add j)=some u by
    intro j u hu;have h1:=hb.R.1 j;rw[uG]at hu;split at hu
    ·rename_i hj
     rw[hall j (by omega)]at h1;injection hu with hu
     subst hu;by_cases h0:j=0
     ·subst h0;simpa[Addr.add]using h1
     ·simpa[Addr.add,h0]using h1
    ·cases hu)
   have TH:=ab (hb.S k m (by rw[hds];omega));have HM:=ab (show m=qO k (n-k)from hm);have HC:=ab (show sH (some ⟨g,0,none⟩) k n 1=some ⟨g,k,none⟩from Qr (n:=0) hlt);have HR:=ab (show(dY m (.b .a v:aB)).a=m by simp);have HO:=ab (show∀u∈dY m (.b .a v:aB),u.h=true from fun u hu=>by rw[List.eq_of_mem_replicate hu];rfl);have HB:=ab hb;have HDS:=ab hds;have aEL:=ab hall;have aEM:=ab hbel;have HK2:=ab hk2;have HM2:=ab hm2;clear hm hb hds hall hbel hk2 hm2;go_wp2_with fail;go_region_held_law (fun _=>True) (trivial)
    (first|(refine anL (o:=⟨some 45,_,_,_,_,_⟩) rfl (.a 41) (.a 44) rfl (y:=g) (z:=k) (m:=m) (vs:=dY m (.b .a v)) (sH (some ⟨g,0,none⟩) k n 1) HC.i rfl rfl HR.i HM.i SRC.i TH.i HO.i ?_))
   go_wp2;go_roundw
   case rel=>
    refine⟨k2,_,by have:=HM2.i;have:=HK2.i;omega,by have:=HM2.i;have:=HK2.i;omega,rfl,HB.i.drew.setCells k _,by rw[XZ,HDS.i],fun j hj=>?_,yZ (aU HG.i.symm) _ _ _ aEM.i.drew⟩;have h1:=HK2.i;have h2:=HM2.i;rw[EX];split
    ·rename_i h3
     simp at h3;have:j-k<m:=by omega
     simp[this]
    ·rename_i h3
     simp at h3;refine aEL.i j ?_;rcases aZ j k with h4|h4
     ·exact h4
     ·have h6:=h3 h4 (by omega)
      have h7:=HDS.i;omega
   case measure=>
    have h1:=HK2.i;have h2:=HM2.i;simp only[intOf,cK];omega
  ·obtain rfl:k=n:=by omega
   have hd:decide ((k:Int)<k)=false:=by simp
   have HB:=ab hb;go_wp2;go_ret;exact⟨g,d,aU HG.i.symm,rfl,HB.i,hds,fun j hj=>by
    rw[pO]at hj;rw[hall j hj,au,uG,if_pos hj];rfl,hbel⟩
end
section
variable {W W':ak} {q g:Nat} {key:Vector UInt8 16} {dV:Int} {s:List (Option Fw)}
theorem Gp.azI(h:Gp W q g key dV s):(yU 22 (.c (some ⟨q,0,none⟩))).O ah W=.ok (.d (jl key)) W:=by
 obtain⟨_,_,_,_,h5,h6⟩:=h.R;rw[WE.ld W q 0 h6,h5]
theorem Gp.lt(h:Gp W q g key dV s):q<W.a.j/\g<W.a.j:=⟨h.tb.lt,h.sl.lt⟩
theorem WM(T:Gp W q g key dV s)(k:Tu)(hk:yj k):
 aR ah 200 #[.c (some ⟨q,0,none⟩),.d k.ay] W (gY W (.b .a (hmK key s.a k:Nat))):=by
 have T0:=ab (T.alloc (.D k.ay 81));have X0:=ab (dP.new W k.ay 81);have B0:=ab ((aG W.a.j W).alloc (av _) (.D k.ay 81));obtain⟨N,hN⟩:=cB s.a;obtain⟨h,hh⟩:=cB (zi key (MX k));have HM:=ab (show hmK key s.a k=h%N by unfold hmK;rw[hN,hh]);have hsz:=T.sz;rw[<-hN]at hsz;have C0:=ab (fun W=>Rl key k hk W);rw[<-hh]at C0;have HN:=ab hN;clear hN hh T;obtain⟨r,hr⟩:=cB (h%N);have hrl:r<N:=by rw[hr];exact fP _ (by omega)
 have e1:(h:Int)%(N:Int)=(r:Int):=by rw[hr];omega
 have e2:MW (h:Int) (N:Int)=(r:Int):=by rw[mZ (by omega)];exact e1
 have u1:=anM N (by omega);have u2:=anM r (by omega);have i1:=jY (N:Int) (by omega);have i2:=jY (r:Int) (by omega);have z1:¬(N:Int)=0:=by omega
 have z2:¬N=0:=by omega
 rw[<-hr]at HM;clear hr;rw[HM.i];go_enter Tryz.func200,Tryz.ntmps200;go_upto_region 1 with fail
 generalize W.alloc (.D k.ay 81)=w1 at T0 X0 B0 ⊢;obtain⟨T,f,n0,E0,es,ew⟩:=yL (w1);have hT:Nonempty T:=⟨n0⟩
 have ES:=ab es;have EW:=ab ew;have l1:=fun m=>(T0.i.go (es m)).azI
 have l2:=fun m=>qj (X0.i.go (es m))
 have l3:∀m,(f m).b ⟨q,18,none⟩=some (.a (some ⟨g,0,none⟩) N N):=fun m=>by rw[HN.i];exact(T0.i.go (es m)).R.1
 clear es ew;refine qh f (by kernel_rfl) (by kernel_rfl) n0 E0 ?_
 repeat(go_big_quiet_step ((first|(go_at_call 36;(with_reducible refine(C0.i _).g ?_);rintro e w2 ⟨rfl,hb⟩;exact⟨rfl,EW.i _ ((ES.i _).trans (hb.g (ES.i _).j))⟩))))
 refine iw ?_;rintro _ ⟨m',rfl⟩;have HB:=ab (ES.i m');generalize f m'=wN at *;clear ES EW E0 hT n0;clear l1 l2 l3;go_wp2;go_ret;exact⟨rfl,jD B0.i HB.i⟩
theorem Dw(T:Gp W q g key dV s)(k:Tu)(hk:yj k)(d:Nat)(hd:Found (hmK key s.a) Fw.key s k d):
 aR ah 129 #[.c (some ⟨q,0,none⟩),.d k.ay] W (gY W (.b .a ((hmK key s.a k+d)%s.a:Nat))):=by
 have T0:=ab (T.alloc (.D k.ay 81));have X0:=ab (dP.new W k.ay 81);have B0:=ab ((aG W.a.j W).alloc (av _) (.D k.ay 81));have hsz:=T.sz;have HD:=ab hd;obtain⟨h,hh⟩:=cB (hmK key s.a k);have hhl:h<s.a:=by rw[hh];exact fP _ (by omega)
 have C0:=ab (fun(W:ak) (T:Gp W q g key dV s)=>WM T k hk);rw[<-hh]at C0;have HH:=ab hh;obtain⟨N,hN⟩:=cB s.a;rw[<-hN]at hsz hhl;have HN:=ab hN;clear T hd hh hN;go_enter Tryz.func129,Tryz.ntmps129;go_upto_region 1 with fail
 generalize W.alloc (.D k.ay 81)=w1 at T0 X0 B0 ⊢;have l0:=qj X0.i;go_wp2_with (go_at_call 200;(with_reducible refine(C0.i _ T0.i).g ?_);rintro e w2 ⟨rfl,hb⟩;have T2:=ab (T0.i.go hb);have X2:=ab (X0.i.go hb);have B2:=ab (jD B0.i hb);clear hb l0);go_loopw [5] (fun v wr=>∃j:Nat,j<=d/\v=.b .a ((h+j)%N:Nat)/\aM w2.a.j w2 wr)
  (fun v wr=>((h+d)%N+N-(intOf v).e)%N)
 case atStart=>exact⟨0,jo _,by rw[kQ,gy hhl],aG _ _⟩
 case round=>
  obtain⟨j,hj,rfl,hbw⟩:=hrel;have HB:=ab hbw;have hdN:d<N:=by rw[HN.i];exact HD.i.1
  obtain⟨i,hi⟩:=cB ((h+j)%N);have hil:i<N:=by rw[hi];exact fP _ (by omega)
  have TR:=ab (T2.i.go hbw);have b1:yE wr W.a.j 0 37:=of_eq_true ((X2.i.go hbw).R.2.2.1 0 37 (by rw[Tu.eU];omega));have b2:eH wr W.a.j 0 37=k.ay:=by rw[(X2.i.go hbw).R.2.2.2 0 37 (by rw[Tu.eU];omega)];exact Tu.kG k
  have l2:wr.b ⟨q,18,none⟩=some (.a (some ⟨g,0,none⟩) N N):=by rw[HN.i];exact TR.i.R.1
  obtain⟨a1,a2,a3,a4,a5,a6,a7⟩:=TR.i.Wx (show i<s.a by rw[<-HN.i];exact hil);rw[<-hi];have hii:(i:Int)<N:=by omega
  obtain⟨i1,hi1⟩:=cB (i+1);have e0:(i:Int)+1=(i1:Int):=by omega
  have w0:=jY (i1:Int) (by omega);obtain⟨i2,hi2⟩:=cB (i1%N);have aK3:i2<N:=by rw[hi2];exact fP _ (by omega)
  have e1:(i1:Int)%(N:Int)=(i2:Int):=by rw[hi2];omega
  have e2:MW (i1:Int) (N:Int)=(i2:Int):=by rw[mZ (by omega)];exact e1
  have w2':=jY (i2:Int) (by omega);have z1:¬(N:Int)=0:=by omega
  have z2:¬N=0:=by omega
  have HI:=ab hi;have HI2:=ab (show i2=(h+(j+1))%N by rw[hi2,hi1,hi,Nat.mod_add_mod,kY]);clear a2 a3 a5 a6 hi hi1 hi2 hbw;have HST:=ab (show stops (kf:=Fw.key) s k i=true->j=d from fun h1=>by
   rcases aZ j d with h2|h2
   ·have h3:=HD.i.2.2 j h2
    rw[<-HH.i,<-HN.i,<-HI.i,h1]at h3;cases h3
   ·omega)
  have Ew:=ab (show stops (kf:=Fw.key) s k i=false->j<d from fun h1=>by
   rcases aZ j d with h2|h2
   ·exact h2
   ·have h3:=HD.i.2.1
    obtain rfl:j=d:=by omega
    rw[<-HH.i,<-HN.i,<-HI.i,h1]at h3;cases h3)
  cases hat:dW s i with
  | none=>
    rw[hat]at a1 a4;have HE:=ab (HST.i (by unfold stops;rw[hat]));clear a4 a7 hat
    replace a1:wr.b ⟨g,i*42,none⟩=some (.e false):=a1
    go_wp2_with fail;go_quiet (fail);go_wp2;go_ret;refine⟨?_,?_⟩
    ·rw[<-HH.i,<-HN.i,<-HE.i,<-HI.i];rfl
    ·exact eD (jD B2.i HB.i) _
  | some x=>
    rw[hat]at a1 a4
    replace a1:wr.b ⟨g,i*42,none⟩=some (.e true):=a1
    replace a4:eH wr g (i*42+1) 37=x.key.ay:=a4
    by_cases hxk:x.key=k
    ·have HE:=ab (HST.i (by unfold stops;rw[hat];simp[hxk]))
     have t1:decide (x.key=k)=true:=by simp[hxk]
     clear hxk hat;go_wp2_with fail;go_quiet (fail);go_wp2;go_ret;refine⟨?_,?_⟩
     ·rw[<-HH.i,<-HN.i,<-HE.i,<-HI.i];rfl
     ·exact eD (jD B2.i HB.i) _
    ·have HE:=ab (Ew.i (by unfold stops;rw[hat];simp[hxk]))
     have t1:decide (x.key=k)=false:=by simp[hxk]
     clear hxk hat;go_wp2_with fail;go_quiet (fail);go_wp2;go_roundw
     case rel=>exact⟨j+1,HE.i,by rw[HI2.i],eD HB.i _⟩
     case measure=>
      have h1:=HE.i;have e3:=xR (N:=N) (a:=h+d) (by omega);have e4:=HI.i;rw[xR (N:=N) (a:=h+j) (by omega)]at e4;have e5:=HI2.i;rw[xR (N:=N) (a:=h+(j+1)) (by omega)]at e5;simp only[intOf,cK];rw[e3];generalize hM:(if h+d<N then h+d else h+d-N)=M;have hM2:M<N:=by rw[<-hM];split<;>omega
      rw[xR (N:=N) (a:=M+N-i2) (by omega),xR (N:=N) (a:=M+N-i) (by omega)];rw[e4,e5,<-hM]
      repeat' split
      all_goals omega
end
section
variable {W W':ak} {q g:Nat} {key:Vector UInt8 16} {dV:Int} {s:List (Option Fw)} {l:List Fw}
theorem kFw:pQ 86 41 lu.ay:=⟨⟨_,nM,rfl⟩,by kernel_rfl,by kernel_rfl,Fw.J _⟩
theorem azJ(w:ak)(fs:Array oz)(h:ah.k 86=some (.d fs)):(iI (fun f=>Prod.mk f.offset <$> sizeOf f.type) fs:yA (Array (Nat×Nat))).O ah w=.ok #[(0,37),(37,1),(38,1),(39,1),(40,1)] w:=by
 have e:=nM;rw[h]at e;cases e;show _=_
 kernel_rfl
@[go_sem]theorem axo(W:ak):(aub #[]).O ah W=.ok (.d lu.ay) W:=kFw.bd0 W _ nM ⟨_,azJ W _ nM⟩
structure Lf(W:ak)(q g:Nat)(key:Vector UInt8 16)(dV:Int)(s:List (Option Fw))(l:List Fw):Prop where
 w:Gp W q g key dV s
 r:TbR (hmK key s.a) s l
 ok:xI dV l
theorem Lf.go(h:Lf W q g key dV s l)(hb:aM W.a.j W W'):Lf W' q g key dV s l:=⟨h.w.go hb,h.r,h.ok⟩
theorem Cw{t:Tu}(h:Gz t=true):yj t:=by
 unfold Gz Yf at h;simp only[bf,decide_eq_true_eq]at h;unfold yj;omega
theorem Lf.VI(h:Lf W q g key dV s l)(k:Tu):∃d,Found (hmK key s.a) Fw.key s k d/\dW s ((hmK key s.a k+d)%s.a)=qp l k:=by
 obtain⟨d,hd⟩:=h.r.tab.found k;exact⟨d,hd,h.r.stop h.ok hd⟩
theorem xI.none{dV:Int}(h:xI dV l){k:Tu}(hk:Gz k=false):qp l k=none:=by
 cases hf:qp l k with
 | none=>rfl
 | some x=>
   obtain⟨h1,h2⟩:=yI hf;have:=xV (h.ok x h1);rw[h2,hk]at this;cases this
def anN(o:Option Fw):aB:=.K #[.d (xB o).rP.ay,.e o.isSome]
theorem KU(T:Lf W q g key dV s l)(k:Tu):
 aR ah 126 #[.c (some ⟨q,0,none⟩),.d k.ay] W (gY W (anN (qp l k))):=by
 have Z0:=ab (((Bx.start W).new k.ay 81).new lu.ay 86);rw[show(W.alloc (.D k.ay 81)).a.j=W.a.j+1 by simp]at Z0;have CK:=ab (fun w=>Ky k w);obtain⟨ok,hok⟩:=cB (Gz k);rw[<-hok]at CK;have HT:=ab T;have Kl:=ab hok;have HLT:=ab T.w.lt;obtain⟨o,ho⟩:=cB (qp l k);rw[<-ho];have HO:=ab ho.symm;clear T hok ho;go_enter Tryz.func126,Tryz.ntmps126;go_upto_region 1 with fail
 generalize(W.alloc (.D k.ay 81)).alloc (.D lu.ay 86)=w1 at Z0 ⊢;have l1:=qj Z0.i.b1;have HE:=ab (fun(w':ak) (x:Fw) (h:Bx [(W.a.j+1,lu.ay),(W.a.j,k.ay)] W w')=>show dP (BU w' (W.a.j+1) 0 x) (W.a.j+1) x.ay/\aM W.a.j W (BU w' (W.a.j+1) 0 x)from
  have k2:=h.put (fun p hp=>by rw[fO.1 hp];simp) x.ay (by rw[Fw.J,Fw.J])
  ⟨k2.Z,k2.X⟩)
 cases ok
 ·have HN:=ab (HT.i.ok.none Kl.i.symm)
  rw[HO.i]at HN;go_wp2_with (go_at_call 115;(with_reducible refine(CK.i _).g ?_);rintro e w2 ⟨rfl,hb⟩;have Z2:=ab (Z0.i.go hb);clear hb l1;have zS:=Z2.i.Z.S 0 41 (aU (Fw.J _).symm));refine aO (kFw.rb rfl _ rfl (HE.i _ lu Z2.i).1 (Fw.J _)) rfl ?_;exact⟨by rw[HN.i];rfl,(HE.i _ lu Z2.i).2⟩
 ·go_wp2_with (go_at_call 115;(with_reducible refine(CK.i _).g ?_);rintro e w2 ⟨rfl,hb⟩;have Z2:=ab (Z0.i.go hb);clear hb l1)
  obtain⟨d,hd,hat⟩:=HT.i.VI k;have hsz:=HT.i.w.sz;obtain⟨i,hi⟩:=cB ((hmK key s.a k+d)%s.a);have hil:i<s.a:=by rw[hi];exact fP _ (by omega)
  have CF:=ab (fun(w:ak) (h:Bx [(W.a.j+1,lu.ay),(W.a.j,k.ay)] W w)=>Dw (HT.i.w.go h.X) k (Cw Kl.i.symm) d hd);rw[<-hi]at CF hat;have HAT:=ab hat;have HIL:=ab hil;obtain⟨N,hN⟩:=cB s.a;have HN:=ab hN;have hii:(i:Int)<N:=by omega
  rw[HO.i]at HAT;clear hd hat hi hil hN hsz;refine Qn (Bx.abg ([(W.a.j+1,lu.ay),(W.a.j,k.ay)]) W) 9 10 6 213 Hu.ay (by kernel_rfl) rfl (by kernel_rfl) (by decide) (by decide) (by kernel_rfl) (by kernel_rfl) (by kernel_rfl) rfl rfl rfl (fun a w=>by simp[go_sem]) Z2.i.drew ?_;apply sJ;refine⟨fun T f hT es ew=>?_,?_⟩
  ·have EW:=ab ew
   have ES:=ab es;have l1:=fun m=>qj (ES.i m).b1
   have l2:∀m,(f m).b ⟨q,18,none⟩=some (.a (some ⟨g,0,none⟩) N N):=fun m=>by rw[HN.i];exact(HT.i.w.go (ES.i m).X).R.1
   have l3:∀m,yE (f m) g (i*42) 42:=fun m=>((HT.i.w.go (ES.i m).X).Wx HIL.i).2.2.2.2.1
   have l4:∀m,eH (f m) g (i*42) 42=(xB o).ay:=fun m=>by rw[((HT.i.w.go (ES.i m).X).Wx HIL.i).2.1,HAT.i]
   have CG:=ab (fun m=>CF.i (f m) (ES.i m));clear es ew;simp only[lI,bH,bQ,jV,kC]
   repeat(go_big_quiet_step ((first|(go_at_call 129;(with_reducible refine(CG.i _).g ?_);rintro e w2 ⟨rfl,hb⟩;exact⟨rfl,EW.i _ _ hb⟩))))
   exact iw rfl
  ·intro w9 w8 Bg _ hb
   have ZN:=(Bg.new Hu.ay 213).go hb;have hy:=Bg.X.j;have hyW:W.a.j+1<w9.a.j:=Bg.Z.lt;have ZN:=ab ZN;generalize w9.a.j=y at *;clear Bg hb;simp only[Act.put,bI,bH,bQ,jW,lN];have hne:=ab (show∀p∈[(W.a.j+1,lu.ay),(W.a.j,k.ay)],p.1≠y from fun p hp=>by simp at hp;rcases hp with rfl|rfl<;>simp<;>omega);have HYW:=ab hyW;clear hyW hy;have zS:=ZN.i.Z.S 0 42 (aU (Sl.J Hu).symm);have Z5:=ab (ZN.i.put hne.i (xB o).ay (by rw[Sl.J,Sl.J]));go_step;go_simp;go_step;go_step;clear zS ZN;generalize gV w8 y 0 (xB o).ay=w6 at Z5 ⊢;have b0:=Z5.i.Z;have f1:w6.b ⟨y,0,none⟩=some (.e o.isSome):=by rw[b0.R.1 0,Sl.OB,JQ]
   have f2:yE w6 y 1 41:=of_eq_true (b0.R.2.2.1 1 41 (by rw[Sl.eU];omega));have f3:eH w6 y 1 41=(xB o).rP.ay:=by rw[b0.R.2.2.2 1 41 (by rw[Sl.eU];omega)];exact Sl.Ug _
   have zS:=Z5.i.b1.S 0 41 (aU (Fw.J _).symm);have Z7:=ab (show Bx [(W.a.j+1,(xB o).rP.ay),(y,(xB o).ay),(W.a.j,k.ay)] W (BU w6.drew (W.a.j+1) 0 (xB o).rP)from Z5.i.drew.swap.put (fun p hp=>by have:=HYW.i;simp at hp;rcases hp with rfl|rfl<;>simp<;>omega) (xB o).rP.ay (by rw[Fw.J,Fw.J]));have f4:(BU w6.drew (W.a.j+1) 0 (xB o).rP).b ⟨y,0,none⟩=some (.e o.isSome):=by rw[Z7.i.b1.R.1 0,Sl.OB,JQ]
   clear b0;go_wp2_with fail;go_region;go_wp2;refine aO (kFw.rb rfl _ rfl Z7.i.Z (Fw.J _)) rfl ?_;exact⟨rfl,Z7.i.X⟩
end
theorem anO(N:Nat):madeCells Hu.ay (N*42)=Wv (dY N none):=by
 apply dZ;intro j;by_cases hj:j<N*42
 ·have e:j=j/42*42+j%42:=by omega
  have h1:(Wv (dY N none))[j]? = (slC (dW (dY N none) (j/42)))[j%42]?:=by
   conv=>lhs;rw[e]
   exact KT _ _ _ (by rw[pO];omega) (by omega)
  have h2:dW (dY N (none:Option Fw)) (j/42)=none:=by unfold dW;rw[au,uG];split<;>rfl
  rw[h1,h2];have h3:Hu.ay.j=42:=Sl.J _;have h4:j%42<Hu.ay.j:=by omega
  simp only[madeCells,Array.getElem?_map,Array.getElem?_range,h3,hj,if_true,nS];show some Hu.ay[j%42]! = (xB none).ay[j%42]?;show some Hu.ay[j%42]! = Hu.ay[j%42]?;rw[Array.getElem?_eq_getElem h4];congr 1;exact getElem!_pos Hu.ay (j%42) h4
 ·rw[aW (by rw[size_madeCells];omega),aW (by rw[wD,pO];omega)]
theorem anP(w:ak)(N:Nat)(hN:N<=100000):(yM 205 (.b .a N) (.b .a N)).O ah w=.ok (.a (some ⟨w.a.j,0,none⟩) N N) (w.alloc (.D (Wv (dY N none)) 213)):=by
 obtain⟨i,h1,h2,h3⟩:=kSl.af3;have hb:i.bytes<=1000:=by
  have:(ah.l 213).map (fun i=>decide (i.bytes<=1000))=some true:=by kernel_rfl
  rw[h1]at this;simpa using this
 have:=run_make w 205 213 i _ Tryz.underlying205 h1 h3 .a .a (N:Int) (N:Int) (by omega) (by omega) (by have h5:=iq hb hN;rw[<-Int.natCast_mul];omega) (by omega);rw[cK,h2]at this;rw[this];show _=Result.ok _ (w.alloc (.D _ _));rw[<-anO];rfl
theorem aq8(key:Vector UInt8 16):tC aj'.ay 0 (jl key)=jl key ++ #[aI .a 0,.b .a 0,.a none 0 0]:=by
 show tC (jl (bG 16 0) ++ #[aI .a 0,.b .a 0,.a none 0 0]) 0 (jl key)=_;exact GZ (by rw[dO,dO])
@[go_sem]theorem azK(W:ak)(key:Vector UInt8 16)(dV:Int)(A:Option aV)(n c:Nat):(vK 207 #[(0,.d (jl key)),(1,.b .a dV),(3,.a A n c)]).O ah W=.ok (.d (Tk.mk key dV 0 A n c).ay) W:=
 kTk.bd W _ _ _ _ Er (aEs W _ Er) (by
  show fJ _ aj'.ay [(0,.d (jl key)),(1,.b .a dV),(3,.a A n c)]=_;rw[EZ _ _ 0 0 16 _ _ rfl (by show(jl key).j=16;rw[dO]) (by rw[Tk.J];omega)];show fJ _ (tC aj'.ay 0 (jl key)) _=_;rw[aq8,<-Array.append_empty (xs:=jl key ++ #[aI .a 0,.b .a 0,.a none 0 0])];rw[pI 1 16 _ _ _ _ rfl rfl (by simp[dO]),pI 3 18 _ _ _ _ rfl rfl (by simp[dO])];simp[fJ,Tk.ay,aL,dO])
def azL(l c:aB):yA aB:=yM 205 l c
@[go_sem ↓]theorem aBO(l c:aB):yM 205 l c=azL l c:=rfl
def asZ(w:ak)(key:Vector UInt8 16)(dV:Int)(e:lJ)(w':ak):Prop:=
 ∃q g s,e=.a (.K #[.c (some ⟨q,0,none⟩),.b .a 0])/\Lf w' q g key dV s []/\dV*2<=s.a/\w.a.j<=q/\w.a.j<=g/\aM w.a.j w w'
theorem akm(key:Vector UInt8 16)(r:Nat)(h1:1<=r)(h2:r<=4096)(w:ak):
 aR ah 62 #[.d (jl key),.b .a r] w (asZ w key r):=by
 have Z0:=ab ((Bx.start w).new (jl key) 22);have t1:decide ((r:Int)<1)=false:=by simp;omega
 have t2:decide ((r:Int)>4096)=false:=by simp;omega
 have t3:decide ((4096:Int)<r)=false:=by simp;omega
 have t4:decide (4096<r)=false:=by simp;omega
 have t5:decide (r<1)=false:=by simp;omega
 have t6:decide (r=0)=false:=by simp;omega
 obtain⟨r2,hr2⟩:=cB (2*r);have e1:(2:Int)*(r:Int)=(r2:Int):=by omega
 have i1:=jY (r2:Int) (by omega);have HR2:=ab hr2;clear hr2;go_enter Tryz.func62,Tryz.ntmps62;go_upto_region 1 with fail
 generalize w.alloc (.D (jl key) 22)=w1 at Z0 ⊢;go_wp2;go_loopw [6] (fun v wr=>∃N:Nat,1<=N/\N<=2*r2/\v=.b .a N/\wr=w1) (fun v _=>2*r2-(intOf v).e)
 case atStart=>exact⟨1,av _,by have:=HR2.i;omega,rfl,by first|rfl|trivial⟩
 case round=>
  obtain⟨N,hN1,hN2,rfl,rfl⟩:=hrel;have hr:=HR2.i;by_cases hlt:N<r2
  ·have hki:(N:Int)<r2:=by omega
   obtain⟨N2,azM⟩:=cB (N*2);have e2:(N:Int)*2=(N2:Int):=by omega
   have i2:=jY (N2:Int) (by omega);have Qx:=ab azM;clear azM hr;go_wp2;go_roundw
   case rel=>exact⟨N2,by have:=Qx.i;omega,by have:=Qx.i;omega,rfl,by first|rfl|trivial⟩
   case measure=>have:=Qx.i;simp only[intOf,cK];omega
  ·have hki:¬(N:Int)<r2:=by omega
   have hd:decide ((N:Int)<r2)=false:=by simpa using hki
   have hd2:decide (N<r2)=false:=by simpa using hlt
   have mk:=fun w=>anP w N (by omega)
   have Z1:=ab Z0.i.drew;have l1:=WE.nR Z1.i.Z (dO _);have l2:=WE.nR ((Z0.i.alloc (.D (Wv (dY N none)) 213)).drew).Z (dO _);have l3:=WE.nR (Z1.i.alloc (.D (Wv (dY N none)) 213)).Z (dO _);clear hr hlt;go_wp2_with fail
   replace mk:∀w,(azL (.b .a N) (.b .a N)).O ah w=.ok (.a (some ⟨w.a.j,0,none⟩) N N) (w.alloc (.D (Wv (dY N none)) 213)):=mk
   go_region;go_wp2;go_ret2;have hr:=HR2.i;have hsz:=Z0.i.X.j;have hlt:¬N<r2:=by omega
   refine⟨wr.a.j+1,wr.a.j,dY N none,rfl,⟨⟨?_,?_,by omega,by rw[pO];omega⟩,?_,xI.nil (by omega)⟩,by rw[pO];omega,by omega,by omega,?_⟩
   ·rw[UY,pO]
    exact(dP.Us wr _ _ _).drew
   ·exact((dP.new wr _ _).alloc _).drew
   ·exact TbR.new (by omega) (fun k=>by rw[pO];exact fP _ (by omega))
   ·exact(((Z0.i.X.alloc hsz _).alloc (by simp;omega) _)).drew
section
open Go.RowKit Go.Shelf
attribute [local go_sem] qQ
theorem Zj{α:Type}(a b:List (Option α)):iD (a++b)=iD a++iD b:=by simp[iD]
theorem WO{α:Type}(s:List (Option α))(k:Nat)(hk:k<s.a):iD (s.E (k+1))=iD (s.E k)++(dW s k).a:=by
 rw[dU hk,Zj];congr 1;unfold dW;rw[au,aC hk,jJ];cases s[k]<;>rfl
theorem Zk{α:Type}(s:List (Option α))(k:Nat):iD (s.E k) <+: iD s:=by
 have:iD s=iD (s.E k)++iD (s.G k):=by rw[<-Zj,iQ]
 rw[this];exact List.prefix_append _ _
theorem FZ{α:Type}(s:List (Option α)):(iD s).a<=s.a:=List.length_filterMap_le _ _
theorem Gp.anQ{W W':ak}{q g n₀:Nat}{key:Vector UInt8 16}{dV:Int}{s:List (Option Fw)}(h:Gp W q g key dV s)(hb:aM n₀ W W')(hq:q<n₀/\g<n₀):Gp W' q g key dV s:=⟨h.tb.Y hb hq.1,h.sl.Y hb hq.2,h.ne,h.sz⟩
theorem akn(F:Ll)(n:Nat)(hf:F.fn 202)(hro:F.round=none)(hn:1<=n)(l Bs n₀ B0:Nat)(q g:Nat)(key:Vector UInt8 16)(dV:Int)(s:List (Option Fw))(J Jx:List Fw->ak->Prop)(hJ:AbidesFrom B0 J)
 (hY:∀pre x W,J pre W->pre.a<s.a->YieldAt F (n-1) ah l #[.d x.ay] W fun e W'=>
  (e=.a (.e true)/\J (pre++[x]) W'/\aM n₀ W W')\/(e=.a (.e false)/\Jx (pre++[x]) W'))
 (W:ak) (hn₀:n₀<=W.a.j) (hB0:B0<=W.a.j) (Qb:W.b ⟨Bs,0,none⟩=some (.c (some ⟨q,0,none⟩))) (T:Gp W q g key dV s) (hqg:q<n₀/\g<n₀) (h0:J [] W) :
 CallsIn F n ah 202 #[.func (.yield l) #[] #[],.c (some ⟨Bs,0,none⟩)] W fun e W'=>(∃v,e=.a v) /\
  ((∃ys,ys=iD s/\J ys W')\/(∃pre,pre <+: iD s/\Jx pre W')):=by
 have hsz:=T.sz;obtain⟨N,hN⟩:=cB s.a;have l2:W.b ⟨q,18,none⟩=some (.a (some ⟨g,0,none⟩) N N):=by rw[hN];exact T.R.1
 have HT:=ab T;have HN:=ab hN;rw[<-hN]at hsz;clear hN T;refine DL Tryz.func202 rfl hf ?_ hro;simp only[Tryz.ntmps202,dN,bl,gU,kZ,lg,gL,gM,iX,gZ,dJ,gQ];gi_wp2;gi_loopw [10] (fun i wr=>∃k:Nat,k<=N/\i=.b .a k/\J (iD (s.E k)) wr/\aM n₀ W wr)
  (fun i _=>N-(intOf i).e)
 case atStart=>exact⟨0,jo _,rfl,h0,aG _ _⟩
 case round=>
  obtain⟨k,hk,rfl,hJs,hnx⟩:=hrel;by_cases hlt:k<N
  ·have hki:(k:Int)<N:=by omega
   have TR:=ab (HT.i.anQ hnx hqg);have hks:k<s.a:=by rw[<-HN.i];exact hlt
   obtain⟨_,a2,_,_,a5,_,_⟩:=TR.i.Wx hks;have hET:=WO s k hks;have bx:=dP.new wr (xB (dW s k)).ay 213;have f1:=(bx.R.1 0).trans (Sl.OB _);rw[JQ]at f1;have f2:yE (wr.alloc (.D (xB (dW s k)).ay 213)) wr.a.j 1 41:=of_eq_true (bx.R.2.2.1 1 41 (by rw[Sl.eU];omega));have f3:eH (wr.alloc (.D (xB (dW s k)).ay 213)) wr.a.j 1 41=(xB (dW s k)).rP.ay:=by rw[bx.R.2.2.2 1 41 (by rw[Sl.eU];omega)];exact Sl.Ug _
   have hsz2:=hnx.j;have Qx:=ab (hnx.alloc (by omega) (.D (xB (dW s k)).ay 213));have HJA:=ab (Hw hJ hJs (.D (xB (dW s k)).ay 213));clear bx hsz2;cases hat:dW s k with
   | none=>
     rw[hat]at a2 f1 f2 f3 Qx HJA hET
     replace f1:(wr.alloc (.D (xB none).ay 213)).b ⟨wr.a.j,0,none⟩=some (.e false):=f1
     have Ew:=ab (show iD (s.E (k+1))=iD (s.E k)by rw[hET];simp);clear hET hat f2 f3;gi_wp2;refine⟨fun f h=>(by cases h),?_⟩;gi_wp2;go_roundw
     case rel=>exact⟨k+1,by omega,by simp,by rw[Ew.i];exact HJA.i,Qx.i⟩
     case measure=>simp[intOf];omega
   | some x=>
     rw[hat]at a2 f1 f2 f3 Qx HJA hET
     replace f1:(wr.alloc (.D (xB (some x)).ay 213)).b ⟨wr.a.j,0,none⟩=some (.e true):=f1
     replace f3:eH (wr.alloc (.D (xB (some x)).ay 213)) wr.a.j 1 41=x.ay:=f3
     have Ew:=ab (show iD (s.E k)++[x]=iD (s.E (k+1))by rw[hET];simp);clear hET hat;obtain⟨fn,tmps,assign,body,hy,hRd⟩:=hY _ x _ HJA.i (by have:=FZ (s.E k);rw[bE]at this;omega);gi_wp2;refine hRd.g ?_;rintro e W3 (⟨rfl,hJ3,hk3⟩|⟨rfl,hJx3⟩)
     ·gi_wp2
      go_roundw
      case rel=>exact⟨k+1,by omega,by simp,by rw[<-Ew.i];exact hJ3,Qx.i.trans hk3⟩
      case measure=>simp[intOf];omega
     ·gi_wp2
      refine aO (wI rfl _ _ _) rfl ?_;exact⟨⟨_,rfl⟩,.a ⟨_,by rw[Ew.i];exact Zk _ _,hJx3⟩⟩
  ·obtain rfl:k=N:=by omega
   have hd:decide ((k:Int)<k)=false:=by simp
   gi_wp2;go_end0;exact⟨⟨_,rfl⟩,.b ⟨_,by rw[HN.i,Bt],hJs⟩⟩
end
section
open Go.RowKit Go.Shelf
abbrev OkF:={x:Fw // EA x=true}
instance:Inhabited OkF:=⟨⟨⟨afb,[97],1,0,0⟩,by kernel_rfl⟩⟩
theorem anR:∀(ys:List Fw),(∀x∈ys,EA x=true)->∃zs:List OkF,zs.map (·.1)=ys
 | [],_=>⟨[],rfl⟩
 | y::ys,h=>by
   obtain⟨zs,hz⟩:=anR ys (fun x hx=>h x (kr _ hx));exact⟨⟨y,h y (mU ..)⟩::zs,by simp[hz]⟩
theorem Zl(zs:List OkF):(zs.d fun x=>x.1.ay.a)=(zs.map (·.1)).d fun x=>x.ay.a:=by
 induction zs with
 | nil=>rfl
 | cons z zs ih=>simp[iW]
theorem akp{a b c:List UInt8}(h1:bU a b=false)(h2:bU b c=false):bU a c=false:=by
 cases h3:bU a c with
 | false=>rfl
 | true=>
   exfalso;cases h4:bU b a with
   | true=>rw[zu _ _ _ h4 h3]at h2;cases h2
   | false=>
     have:=AZ _ _ h1 h4;subst this;rw[h3]at h2;cases h2
theorem abP{a b c:Fw}(h1:mo a b=false)(h2:mo b c=false):mo a c=false:=by
 unfold mo at *;by_cases e1:a.no=b.no
 ·rw[if_pos e1]at h1
  by_cases e2:b.no=c.no
  ·rw[if_pos e2]at h2
   rw[if_pos (e1.trans e2)];exact akp h1 h2
  ·rw[if_neg e2]at h2
   rw[if_neg (by omega)];simp at h2 ⊢;omega
 ·rw[if_neg e1]at h1
  simp at h1;by_cases e2:b.no=c.no
  ·rw[if_neg (by omega)]
   simp;omega
  ·rw[if_neg e2]at h2
   simp at h2;rw[if_neg (by omega)];simp;omega
def ara(x y:OkF):Int:=abK x.1 y.1
theorem anS:Sort.SWO (ltOf ara):=by
 have e:∀x y,ltOf ara x y=mo x.1 y.1:=fun x y=>abL x.1 y.1
 refine⟨fun x=>?_,fun x y z h1 h2=>?_,fun x y z h1 h2=>?_⟩
 ·rw[e];exact uK.irr _
 ·rw[e]at *;exact uK.tr _ _ _ h1 h2
 ·rw[e]at *;exact abP h1 h2
theorem KV{x:Fw}(h:EA x=true):yj x.key/\0<=x.no/\x.no<=1152921504606846976:=by
 refine⟨Cw (xV h),?_⟩;unfold EA Yf at h;simp only[bf,decide_eq_true_eq]at h;omega
theorem arb(w:ak):(isAgg 86).O ah w=.ok true w:=by simp[isAgg,dK nM]
theorem avD(w:ak):(Go.sizeOf 86).O ah w=.ok 41 w:=by
 obtain⟨i,hi,hi2,_⟩:=kFw.af3;rw[run_sizeOf w hi];have hc:ah.cellsOf 86=41:=by simp[Program.cellsOf,hi,hi2]
 rw[hc]
theorem akq(x y:OkF)(w:ak):aR ah 117 #[.d x.1.ay,.d y.1.ay] w (gY w (.b .a (ara x y))):=by
 obtain⟨h1,h2⟩:=KV x.2;obtain⟨h3,h4⟩:=KV y.2;exact Rm x.1 y.1 h1 h3 h2 h4 w
theorem LK(l ys:List Fw)(dV:Int)(hl:xI dV l)(hp:ys.Perm l)(hn:ys.a<=1000000)(W:ak)(base:Nat)(A:Option aV)(c:Nat)(h:W.c base 86 41 (.a A ys.a c) ys.a (ys.d fun x=>x.ay.a)):
 aR ah 151 #[.a A ys.a c,.func (.func 117) #[] #[]] W fun e w'=>e=.a (.K #[])/\w'.c base 86 41 (.a A ys.a c) ys.a (l.d fun x=>x.ay.a)/\W.grownBy w' (bB A ys.a c).f:=by
 obtain⟨zs,hz⟩:=anR ys (fun x hx=>hl.ok x (hp.mem_iff.1 hx));have hlen:zs.a=ys.a:=by rw[<-hz,bW]
 have hc:=Zl zs;rw[hz]at hc;rw[<-hc]at h;refine(Ze avx 41 arb avD (fun x:OkF=>x.1.ay) (fun x=>Fw.J x.1) (fun x=>Fw.dx x.1) ara anS 117 (fun args w=>rfl) base 86 A ys.a c zs W hlen hn h akq).g ?_;rintro e w' ⟨rfl,l',h1,h2,h3,h4⟩;refine⟨rfl,?_,h4⟩;rw[Zl]at h3;have hp2:(l'.map (·.1)).Perm l:=((h1.map _).trans (by rw[hz])).trans hp;have hone:(l'.map (·.1)).Pairwise fun x y=>x.key≠y.key:=(hp2.pairwise_iff (fun{a b} (hab:a.key≠b.key)=>jE hab)).2 hl.one
 have hasc:Asc mo (l'.map (·.1)):=by
  have h5:(l'.map (·.1)).Pairwise fun x y=>mo y x=false:=by
   rw[Ae];exact h2.imp (fun{a b} hab=>by rw[<-hab];exact(abL b.1 a.1).symm)
  refine List.Pairwise.imp_of_mem ?_ (h5.and hone);rintro a b ha hb ⟨h6,h7⟩;rcases QY (NV (xV (hl.ok a (hp2.mem_iff.1 ha)))) (NV (xV (hl.ok b (hp2.mem_iff.1 hb)))) h7 with h8|h8
  ·exact h8
  ·rw[h6]at h8;cases h8
 rw[<-Asc.eq uK hasc hl.asc hp2];exact h3
end
section
open Go.RowKit Go.Shelf
variable {W W':ak} {q g:Nat} {key:Vector UInt8 16} {dV:Int} {s:List (Option Fw)} {l:List Fw}
theorem Qy(q:Nat)(w:ak):
 aR ah 132 #[.c (some ⟨q,0,none⟩)] w fun e w'=>e=.a (.func (.func 202) #[] #[.c (some ⟨w.a.j,0,none⟩)])/\w.alloc (.D #[.c (some ⟨q,0,none⟩)] 121)=w':=by
 go_enter Tryz.func132,Tryz.ntmps132;go_wp2;go_ret;exact⟨rfl,rfl⟩
theorem aej(F:Ll)(n:Nat)(hf:F.fn 202)(hro:F.round=none)(hn:1<=n)(Bs n₀:Nat)(w:ak)(Qb:Bs<w.a.j)(hn₀:n₀<=w.a.j)
 (hc:w.b ⟨Bs,0,none⟩=some (.c (some ⟨q,0,none⟩))) (T:Gp w q g key dV s) (hqg:q<n₀/\g<n₀) :
 wZ F n ah 202 #[.c (some ⟨Bs,0,none⟩)] (fun x:Fw=>#[cO x.ay]) (aM n₀) (fun ys=>ys=iD s) (fun pre=>pre <+: iD s) s.a w:=fun l J Jx W hW hJ _ hY h0=>by
 have hc':=(hW.cell (p:=⟨Bs,0,none⟩) Qb).trans hc;exact akn F n hf hro hn l Bs n₀ W.a.j q g key dV s J Jx hJ hY W (aP hn₀ hW.j) (av _) hc' (T.go hW) hqg h0
theorem abQ(gf:Nat)(lb:Array aB)(eg:∀args w,(callFunc gf args).O ah w=.ok (.enter gf args) w)(l ys:List Fw)(dV:Int)(hl:xI dV l)(hp:ys.Perm l)(N:Nat)(hN:N<=100000)(hyN:ys.a<=100000)(w:ak)(hseq:wZ nY 5 ah gf lb (fun x:Fw=>#[cO x.ay]) (aM w.a.j) (fun zs=>zs=ys) (fun pre=>pre <+: ys) N w):
 aR ah 131 #[.func (.func gf) #[] lb,.func (.func 117) #[] #[]] w fun e W'=>
  ∃A' c',e=.a (.a A' l.a c')/\W'.c w.a.j 86 41 (.a A' l.a c') l.a (l.d fun x=>x.ay.a)/\aM w.a.j w W':=by
 have CO:=ab (XJ gf lb eg (fun zs=>zs=ys) (fun pre=>pre <+: ys) N hN w hseq);have SO:=ab (fun(W:ak) (A:Option aV) (c:Nat) h=>LK l ys dV hl hp (by omega) W w.a.j A c h);have HP:=ab hp.t;clear hseq hl hp;go_enter Tryz.func131,Tryz.ntmps131;go_wp2_with fail;refine CO.i.g ?_;rintro e w1 ⟨zs,hzs,A1,c1,rfl,ho,hb⟩;rw[hzs]at ho ⊢;have SO1:=ab (SO.i w1 A1 c1 ho);have HB:=ab hb;have HO:=ab ho;clear hb ho SO CO hzs;obtain⟨m,hm⟩:=cB ys.a;rw[<-hm]at HO SO1 HP ⊢;clear hm;go_wp2_with fail;refine SO1.i.g ?_;rintro e w2 ⟨rfl,ho2,hg⟩;have H2:=ab ho2;have HG:=ab hg;clear ho2 hg;go_wp2;go_ret;have h1:=H2.i;have h2:=HP.i;exact⟨A1,c1,by rw[<-h2];rfl,by rw[<-h2];exact h1,WJ HB.i HO.i (av _) (av _) HG.i⟩
theorem agH(T:Lf W q g key dV s l):
 aR ah 65 #[.c (some ⟨q,0,none⟩)] W fun e w'=>∃A' c',e=.a (.a A' l.a c')/\w'.c W.a.j 86 41 (.a A' l.a c') l.a (l.d fun x=>x.ay.a)/\aM W.a.j W w':=by
 have w1s:=(dP.new W #[.c (some ⟨q,0,none⟩)] 121)
 have hB1:aM W.a.j W (W.alloc (.D #[.c (some ⟨q,0,none⟩)] 121)):=(aG _ _).alloc (av _) _;have T1:=T.w.go hB1;have hs:=T.w.sz;have hlt:=T.w.lt;have hsz:(W.alloc (.D #[.c (some ⟨q,0,none⟩)] 121)).a.j=W.a.j+1:=by simp
 have SQ:=ab (aej nY 5 trivial rfl (by omega) W.a.j (W.alloc (.D #[.c (some ⟨q,0,none⟩)] 121)).a.j (W.alloc (.D #[.c (some ⟨q,0,none⟩)] 121)) w1s.lt (av _) (w1s.R.1 0) T1 (by rw[hsz];omega));have VA:=ab (Qy q W);generalize hw:W.alloc (.D #[.c (some ⟨q,0,none⟩)] 121)=w1 at *;have SF:=ab (abQ 202 #[.c (some ⟨W.a.j,0,none⟩)] (fun args w=>rfl) l (iD s) dV T.ok T.r.PW s.a hs.2 (by have:=FZ s;omega) w1 SQ.i);have HB1:=ab hB1;clear hw w1s hB1 SQ T T1 hs hlt hsz;go_enter Tryz.func65,Tryz.ntmps65;go_wp2_with fail;refine VA.i.g ?_;rintro e w2 ⟨rfl,rfl⟩;go_wp2_with fail;refine SF.i.g ?_;rintro e w2 ⟨A1,c1,rfl,ho,hb⟩;have HO:=ab ho;have HB:=ab hb;clear ho hb;obtain⟨m,hm⟩:=cB l.a;rw[<-hm]at HO ⊢;have HM:=ab hm;clear hm;go_wp2;go_ret;obtain rfl:=HM.i;have h1:=HB1.i;have h2:=HB.i;exact⟨A1,c1,rfl,iU HO.i h1.j,⟨h2.os.trans h1.os,h2.tape.trans h1.tape,h2.output.trans h1.output,aP h1.j h2.j,fun k hk=>(h2.block k (Nat.lt_of_lt_of_le hk h1.j)).trans (h1.block k hk)⟩⟩
end
section
open Go.RowKit Go.Shelf
attribute [local go_sem] qQ
variable {W W':ak} {q g:Nat} {key:Vector UInt8 16} {dV:Int} {s:List (Option Fw)} {l:List Fw}
theorem agI{β:Type}(val:β->Fw)(F:Ll)(n:Nat)(hf:F.fn 202)(hro:F.round=none)(hn:1<=n)(l Bs n₀ B0:Nat)(q g:Nat)(key:Vector UInt8 16)(dV:Int)(s:List (Option Fw))(hval:∀x∈iD s,∃z,val z=x)(J Jx:List β->ak->Prop)(hJ:AbidesFrom B0 J)
 (hY:∀pre x W,J pre W->pre.a<s.a->YieldAt F (n-1) ah l #[.d (val x).ay] W fun e W'=>
  (e=.a (.e true)/\J (pre++[x]) W'/\aM n₀ W W')\/(e=.a (.e false)/\Jx (pre++[x]) W'))
 (W:ak) (hn₀:n₀<=W.a.j) (hB0:B0<=W.a.j) (Qb:W.b ⟨Bs,0,none⟩=some (.c (some ⟨q,0,none⟩))) (T:Gp W q g key dV s) (hqg:q<n₀/\g<n₀) (h0:J [] W) :
 CallsIn F n ah 202 #[.func (.yield l) #[] #[],.c (some ⟨Bs,0,none⟩)] W fun e W'=>(∃v,e=.a v) /\
  ((∃ys:List β,ys.map val=iD s/\J ys W')\/(∃pre:List β,pre.map val <+: iD s/\Jx pre W')):=by
 have hsz:=T.sz;obtain⟨N,hN⟩:=cB s.a;have l2:W.b ⟨q,18,none⟩=some (.a (some ⟨g,0,none⟩) N N):=by rw[hN];exact T.R.1
 have HT:=ab T;have HN:=ab hN;rw[<-hN]at hsz;clear hN T;refine DL Tryz.func202 rfl hf ?_ hro;simp only[Tryz.ntmps202,dN,bl,gU,kZ,lg,gL,gM,iX,gZ,dJ,gQ];gi_wp2;gi_loopw [10] (fun i wr=>∃(k:Nat)(zs:List β),k<=N/\i=.b .a k/\zs.map val=iD (s.E k)/\J zs wr/\aM n₀ W wr)
  (fun i _=>N-(intOf i).e)
 case atStart=>exact⟨0,[],jo _,rfl,rfl,h0,aG _ _⟩
 case round=>
  obtain⟨k,zs,hk,rfl,hzs,hJs,hnx⟩:=hrel;have HZ:=ab hzs;clear hzs;by_cases hlt:k<N
  ·have hki:(k:Int)<N:=by omega
   have TR:=ab (HT.i.anQ hnx hqg);have hks:k<s.a:=by rw[<-HN.i];exact hlt
   obtain⟨_,a2,_,_,a5,_,_⟩:=TR.i.Wx hks;have hET:=WO s k hks;have bx:=dP.new wr (xB (dW s k)).ay 213;have f1:=(bx.R.1 0).trans (Sl.OB _);rw[JQ]at f1;have f2:yE (wr.alloc (.D (xB (dW s k)).ay 213)) wr.a.j 1 41:=of_eq_true (bx.R.2.2.1 1 41 (by rw[Sl.eU];omega));have f3:eH (wr.alloc (.D (xB (dW s k)).ay 213)) wr.a.j 1 41=(xB (dW s k)).rP.ay:=by rw[bx.R.2.2.2 1 41 (by rw[Sl.eU];omega)];exact Sl.Ug _
   have hsz2:=hnx.j;have Qx:=ab (hnx.alloc (by omega) (.D (xB (dW s k)).ay 213));have HJA:=ab (Hw hJ hJs (.D (xB (dW s k)).ay 213));clear bx hsz2;cases hat:dW s k with
   | none=>
     rw[hat]at a2 f1 f2 f3 Qx HJA hET
     replace f1:(wr.alloc (.D (xB none).ay 213)).b ⟨wr.a.j,0,none⟩=some (.e false):=f1
     have Ew:=ab (show iD (s.E (k+1))=iD (s.E k)by rw[hET];simp);clear hET hat f2 f3;gi_wp2;refine⟨fun f h=>(by cases h),?_⟩;gi_wp2;go_roundw
     case rel=>exact⟨k+1,zs,by omega,by simp,by rw[Ew.i];exact HZ.i,HJA.i,Qx.i⟩
     case measure=>simp[intOf];omega
   | some x=>
     rw[hat]at a2 f1 f2 f3 Qx HJA hET
     replace f1:(wr.alloc (.D (xB (some x)).ay 213)).b ⟨wr.a.j,0,none⟩=some (.e true):=f1
     replace f3:eH (wr.alloc (.D (xB (some x)).ay 213)) wr.a.j 1 41=x.ay:=f3
     have hxm:x∈iD s:=PN.2 ⟨k,hks,hat⟩;have hZL:zs.a<=k:=by have h1:=FZ (s.E k);rw[<-HZ.i,bW,bE]at h1;omega
     have azN:=show iD (s.E k)++[x]=iD (s.E (k+1))by rw[hET];simp
     clear hET hat;obtain⟨z,rfl⟩:=hval x hxm;have Ew:=ab (show(zs++[z]).map val=iD (s.E (k+1))by rw[<-azN,jC,HZ.i];rfl);clear azN hxm;obtain⟨fn,tmps,assign,body,hy,hRd⟩:=hY zs z _ HJA.i (by omega);gi_wp2;refine hRd.g ?_;rintro e W3 (⟨rfl,hJ3,hk3⟩|⟨rfl,hJx3⟩)
     ·gi_wp2
      go_roundw
      case rel=>exact⟨k+1,zs++[z],by omega,by simp,Ew.i,hJ3,Qx.i.trans hk3⟩
      case measure=>simp[intOf];omega
     ·gi_wp2
      refine aO (wI rfl _ _ _) rfl ?_;exact⟨⟨_,rfl⟩,.a ⟨zs++[z],by rw[Ew.i];exact Zk _ _,hJx3⟩⟩
  ·obtain rfl:k=N:=by omega
   have hd:decide ((k:Int)<k)=false:=by simp
   gi_wp2;go_end0;exact⟨⟨_,rfl⟩,.b ⟨zs,by rw[HZ.i,HN.i,Bt],hJs⟩⟩
theorem LM(F:Ll)(n:Nat)(hf:F.fn 202)(hro:F.round=none)(hn:1<=n)(Bs n₀:Nat)(w:ak)(Qb:Bs<w.a.j)(hn₀:n₀<=w.a.j)
 (hc:w.b ⟨Bs,0,none⟩=some (.c (some ⟨q,0,none⟩))) (T:Lf w q g key dV s l) (hqg:q<n₀/\g<n₀) :
 wZ F n ah 202 #[.c (some ⟨Bs,0,none⟩)] (fun x:OkF=>#[cO x.1.ay]) (aM n₀) (fun ys=>ys.map (·.1)=iD s) (fun pre=>pre.map (·.1) <+: iD s) s.a w:=fun l' J Jx W hW hJ _ hY h0=>by
 have hc':=(hW.cell (p:=⟨Bs,0,none⟩) Qb).trans hc;exact agI (fun x:OkF=>x.1) F n hf hro hn l' Bs n₀ W.a.j q g key dV s (fun x hx=>⟨⟨x,T.ok.ok x (T.r.PW.mem_iff.1 hx)⟩,rfl⟩) J Jx hJ hY W (aP hn₀ hW.j) (av _) hc' (T.w.go hW) hqg h0
def ard(pre:List Fw):Option Fw:=pre.foldl (least mo) none
def OH(pre:List OkF):Option Fw:=ard (pre.map (·.1))
theorem akr{l:List Fw}:∀(b:Option Fw)(y:Fw),l.foldl (least mo) b=some y->y∈l\/b=some y:=by
 induction l with
 | nil=>intro b y h;exact .a h
 | cons x l ih=>
   intro b y h;rw[j4]at h;rcases ih _ _ h with h1|h1
   ·exact .b (kr _ h1)
   ·unfold least at h1
    split at h1
    ·injection h1 with h1;subst h1;exact .b (mU ..)
    ·split at h1
     ·injection h1 with h1;subst h1;exact .b (mU ..)
     ·exact .a h1
theorem arf(pre:List OkF)(y:Fw)(h:ard (pre.map (·.1))=some y):EA y=true:=by
 rcases akr _ _ h with h1|h1
 ·obtain⟨z,_,rfl⟩:=jf.1 h1
  exact z.2
 ·cases h1
theorem WQ{W:ak}{b D:Nat}{c:Array aB}{x:Option (List Deferred)}(h:dP W b c)(hD:W.a[D]? = some (.deferred x))(o:Obj):dP (W.putObj D o) b c:=by
 obtain⟨t,ht⟩:=h;refine⟨t,(World.putObj_heap_other (fun e=>?_)).trans ht⟩;rw[e,hD]at ht;cases ht
theorem Ga{F:List Nat}{B:Nat}{W W':ak}(h:jP F W W')(hF:∀k∈F,k<B):KeepsFrom B W W':=
 ⟨h.j,fun k o hB hk _=>(h.block k (bY.1 hk).1 (fun hm=>by have:=hF k hm;omega)).trans hk⟩
theorem abR(w:ak)(T:Lf w q g key dV s l):
 aR ah 127 #[.c (some ⟨q,0,none⟩)] w (gY w (.d (l.head?.b lu).ay)):=by
 refine(nL (n:=8)).1 ?_;have hs:=T.w.sz;have hlt:=T.w.lt;have hold:=ajx T.r T.ok;have HT:=ab T;clear T;refine rR Tryz.func127 rfl trivial ?_ rfl;have hfn:∀f,nY.fn f:=fun _=>trivial
 simp only[Tryz.ntmps127,dN,bl,gU,kZ,lg,gL,gM,iX,gZ,dJ,gQ];gi_wp2_with (gi_at_call 132;refine(nL.2 (Qy q _)).g ?_;rintro e w' ⟨rfl,rfl⟩);have Z4:=ab (((((Bx.start w).new lu.ay 86).new lu.ay 86).new #[.e true] 4).new #[.c (some ⟨q,0,none⟩)] 121);have e1:(w.alloc (.D lu.ay 86)).a.j=w.a.j+1:=by simp
 have e2:((w.alloc (.D lu.ay 86)).alloc (.D lu.ay 86)).a.j=w.a.j+1+1:=by simp
 have e3:(((w.alloc (.D lu.ay 86)).alloc (.D lu.ay 86)).alloc (.D #[.e true] 4)).a.j=w.a.j+1+1+1:=by simp
 rw[e3,e2,e1]at Z4;have hs4:((((w.alloc (.D lu.ay 86)).alloc (.D lu.ay 86)).alloc (.D #[.e true] 4)).alloc (.D #[.c (some ⟨q,0,none⟩)] 121)).a.j=w.a.j+1+1+1+1:=by simp
 generalize(((w.alloc (.D lu.ay 86)).alloc (.D lu.ay 86)).alloc (.D #[.e true] 4)).alloc (.D #[.c (some ⟨q,0,none⟩)] 121)=W4 at Z4 hs4 ⊢;clear e1 e2 e3;refine zO rfl (by omega) (gf:=202) (lb:=#[.c (some ⟨w.a.j+1+1+1,0,none⟩)]) rfl trivial (fun args w=>rfl)
  (LM nY 7 trivial rfl (by omega) (w.a.j+1+1+1) w.a.j W4 (by omega) (by omega) (Z4.i.Z.R.1 0) (HT.i.go Z4.i.X) hlt) (fun h k=>Below.trans h k) (wR (by omega)) (aG _ _) (fun _=>rfl)
  (fun(pre:List OkF) W=>(dP W (w.a.j+1) ((OH pre).b lu).ay/\dP W (w.a.j+1+1) #[.e (OH pre).isNone]/\dP W w.a.j lu.ay)/\aM w.a.j w W)
  (fun _ _ _=>False)
  (OwnFrom.and (fun s X Y row hs hg hr=>⟨Au _ _ () X Y row hs.1 hg (fun r e=>(hr r e).2),Au _ _ () X Y row hs.2.1 hg (fun r e=>(hr r e).2),Au _ _ () X Y row hs.2.2 hg (fun r e=>(hr r e).2)⟩) (zW (av _) (by omega)))
  (fun _ _ _ _ _ hs _ _=>hs)
  ⟨⟨Z4.i.b2,Z4.i.b1,Z4.i.b3⟩,Z4.i.X⟩
  (fun x a' W=>∃Bq,w.a.j+1+1<Bq/\dP W Bq x.1.ay/\a'={tmps:=#[.c (some ⟨q,0,none⟩),undef,.c (some ⟨w.a.j,0,none⟩),.c (some ⟨w.a.j+1,0,none⟩),.c (some ⟨w.a.j+1+1,0,none⟩),.c (some ⟨Bq,0,none⟩),.c (some ⟨q,0,none⟩),.func (.func 202) #[] #[.c (some ⟨w.a.j+1+1+1,0,none⟩)],.d x.1.ay,undef,undef,undef,undef,undef,undef,undef,undef],defers:=[]})
  (fun x a' _ X Y row hs hg hr=>by obtain⟨Bq,h1,h2,h3⟩:=hs;exact⟨Bq,h1,Au Bq x.1.ay () X Y row h2 hg (fun r e=>(hr r e).2),h3⟩)
  ?assign ?body ?done ?stop
 case assign=>
  rintro q' pre x W K ⟨⟨h1,h2,h3⟩,hB⟩ hK;gi_wp2;refine hK _ _ ((KeepsOthers.alloc _ _).from _) ((aG _ W).alloc hB.j _) ⟨⟨h1.alloc _,h2.alloc _,h3.alloc _⟩,hB.alloc hB.j _⟩ ⟨W.a.j,h2.lt,dP.new W _ _,rfl⟩
 case body=>
  rintro q' pre x a' W hq ⟨r,hr⟩ ⟨⟨h1,h2,h3⟩,hB⟩ ⟨Bq,hBq,bX,rfl⟩ hlt';have hd1:(1:Nat)<=8-1-1:=by omega
  have l1:=kU bX;have f1:=h2.R.1 0;have f2:=h2.R.2.1 0;have th:=h1.S 0 41 (aU (Fw.J _).symm);have HB:=ab hB;have H1:=ab h1;have H2:=ab h2;have H3:=ab h3;have HX:=ab bX;have HA:=ab (show OH (pre++[x])=least mo (OH pre) x.1 by unfold OH ard;rw[jC,Af];rfl);have HM:=ab (show∀y,OH pre=some y->EA y=true from fun y e=>arf pre y e);clear hB h1 h2 h3 bX;cases ha:OH pre with
  | none=>
    rw[ha]at HA H1 H2 f1;have f3:(BU W (w.a.j+1) 0 x.1).b ⟨w.a.j+1+1,0,none⟩=some (.e true):=((H2.i.gN (by simp)).R.1 0:_)
    have f4:(BU W (w.a.j+1) 0 x.1).frozen? ⟨w.a.j+1+1,0,none⟩=false:=((H2.i.gN (by simp)).R.2.1 0:_)
    clear ha;gi_wp2;have F:=(jP.Vq (F:=[w.a.j+1,w.a.j+1+1]) (mG (dR W (some (w.a.j+1))) 0 x.1.ay) (fun g e=>.b (by injection e with e;simp[e]))).set ⟨w.a.j+1+1,0,none⟩ (.e false) (.b (by simp));refine⟨Ga F (by intro k hk;simp at hk;omega),F.tX (by intro k hk;simp at hk;omega) HB.i.j,⟨?_,?_,?_⟩,HB.i.trans (F.tX (by intro k hk;simp at hk;omega) HB.i.j)⟩
    ·rw[HA.i];exact(H1.i.put x.1.ay (by rw[Fw.J,Fw.J])).dQ _ _ (by simp)
    ·rw[HA.i];exact(H2.i.gN (by simp)).fC 0 (.e false)
    ·exact(H3.i.gN (by omega)).dQ _ _ (by simp;omega)
  | some y=>
    rw[ha]at HA H1 H2 f1;have hy:=HM.i y ha;obtain⟨y1,y2⟩:=KV hy;obtain⟨x1,x2⟩:=KV x.2
    replace H1:Hid (dP W (w.a.j+1) y.ay):=H1
    replace f1:W.b ⟨w.a.j+1+1,0,none⟩=some (.e false):=f1
    have l2:=kU H1.i;have OC:=ab (Rn x.1 y x1 y1 x2 y2 W);obtain⟨o,ho⟩:=cB (mo x.1 y);rw[<-ho]at OC;have HE:=ab (show OH (pre++[x])=if o=true then some x.1 else some y by rw[HA.i,ho];rfl);clear ha hy y1 y2 x1 x2 ho f2 th;cases o
    ·gi_wp2_with (gi_at_call 49;refine(IB q' (nL.2 OC.i)).g ?_;rintro e w1 ⟨rfl,hb⟩;have IC:=ab hb;clear hb)
     have F:=jP.jF (F:=[w.a.j+1,w.a.j+1+1]) IC.i;refine⟨Ga F (by intro k hk;simp at hk;omega),F.tX (by intro k hk;simp at hk;omega) HB.i.j,⟨?_,?_,?_⟩,HB.i.trans (F.tX (by intro k hk;simp at hk;omega) HB.i.j)⟩
     ·rw[show OH (pre++[x])=some y from HE.i];exact H1.i.go IC.i
     ·rw[show OH (pre++[x])=some y from HE.i];exact H2.i.go IC.i
     ·exact H3.i.go IC.i
    ·gi_wp2_with (gi_at_call 49;refine(IB q' (nL.2 OC.i)).g ?_;rintro e w1 ⟨rfl,hb⟩;have IC:=ab hb;have G1:=ab (H1.i.go hb);have G2:=ab (H2.i.go hb);have G3:=ab (H3.i.go hb);have l3:=kU (HX.i.go hb);clear hb l1 l2 f1;have th:=G1.i.S 0 41 (aU (Fw.J _).symm);have f3:(BU w1 (w.a.j+1) 0 x.1).b ⟨w.a.j+1+1,0,none⟩=some (.e false):=((G2.i.gN (by simp)).R.1 0:_);have f4:(BU w1 (w.a.j+1) 0 x.1).frozen? ⟨w.a.j+1+1,0,none⟩=false:=((G2.i.gN (by simp)).R.2.1 0:_))
     have F:=((jP.jF (F:=[w.a.j+1,w.a.j+1+1]) IC.i).grown (mG (dR w1 (some (w.a.j+1))) 0 x.1.ay) (fun g e=>.b (by injection e with e;simp[e]))).set ⟨w.a.j+1+1,0,none⟩ (.e false) (.b (by simp));refine⟨Ga F (by intro k hk;simp at hk;omega),F.tX (by intro k hk;simp at hk;omega) HB.i.j,⟨?_,?_,?_⟩,HB.i.trans (F.tX (by intro k hk;simp at hk;omega) HB.i.j)⟩
     ·rw[show OH (pre++[x])=some x.1 from HE.i];exact(G1.i.put x.1.ay (by rw[Fw.J,Fw.J])).dQ _ _ (by simp)
     ·rw[show OH (pre++[x])=some x.1 from HE.i];exact(G2.i.gN (by simp)).fC 0 (.e false)
     ·exact(G3.i.gN (by omega)).dQ _ _ (by simp;omega)
 case done=>
  rintro D ys W hD hS ⟨⟨h1,h2,h3⟩,hB⟩ hK;have hacc:OH ys=l.head?:=by unfold OH ard;rw[hS];exact hold
  rw[hacc]at h1;have ld:=kU h1;have th:=h3.S 0 41 (aU (Fw.J _).symm);obtain⟨y,hy⟩:=cB (l.head?.b lu);rw[<-hy]at ld h1;have HY:=ab hy;have H3:=ab h3;have HB:=ab hB;clear hy h3 hB h1 h2 hacc hS;gi_wp2;have hG:=mG (dR W (some w.a.j)) 0 y.ay;have hDW:D<W.a.j:=(bY.1 hK).1;have hK2:(BU W w.a.j 0 y).a[D]? = some (.deferred (some [])):=(hG.block D hDW (fun e=>by injection e with e;omega)).trans hK;refine⟨by simp,.b ⟨_,_,rfl,vC hK2,?_⟩⟩;refine⟨_,kFw.Aj rfl _ rfl (WQ (H3.i.put y.ay (by rw[Fw.J,Fw.J])) hK2 _) (Fw.J _),by rw[HY.i],?_⟩;exact((lQ HB.i w.a.j 0 y.ay (av _)).trans (wR (w:=w) (av _) _ D _ _ (by omega) hK2 rfl rfl))
 case stop=>
  rintro D c pre W _ _ h _;exact h.elim
end
section
theorem aks{α:Type}(s:List (Option α))(i:Nat)(x:α)(h:dW s i=some x):s.set i (some x)=s:=by
 apply List.ext_getElem?;intro j;rw[fu];split
 ·rename_i e
  subst e;unfold dW at h;rw[au]at h;split
  ·rename_i hl
   rw[aC hl]at h ⊢;rw[jJ]at h;rw[h]
  ·rename_i hl
   rw[aT (by omega)]
 ·rfl
theorem KW{α:Type}(s:List (Option α))(i:Nat)(x:α)(hi:i<s.a)(h:dW s i=some x):(iD s).Perm (x::iD (s.set i none)):=by
 have:=Ah s i x hi
 rwa [aks s i x h]at this
theorem Zm{N z c:Nat}(hz:z<N)(h1:1<=c)(h2:c<=N):zQ N ((z+1)%N) (zP N z c)=c-1:=by
 have e1:zP N z c=(z+c)%N:=rfl;rw[e1,xR (N:=N) (a:=z+1) (by omega),xR (N:=N) (a:=z+c) (by omega)];unfold zQ
 repeat' split
 all_goals omega
variable {W W':ak} {q g:Nat} {key:Vector UInt8 16} {dV:Int} {s:List (Option Fw)} {l:List Fw}
theorem Gp.ail(h:Gp W q g key dV s){i:Nat}(hi:i<s.a)(o:Option Fw)(n:Nat)(hn:(iD (s.set i o)).a=n)(hc:n=(iD s).a):Gp (gV W g (i*42) (slC o)) q g key dV (s.set i o):=by
 have hb:=h.sl.setCells (i*42) (slC o).a;refine⟨?_,?_,h.ne,by rw[aS];exact h.sz⟩
 ·rw[hn,hc,aS]
  exact h.tb.gN h.ne
 ·rw[<-Uh s i o hi]
  simpa[gV]using hb
theorem WR{l:List Fw}{k:Tu}(h:qp l k=none):yt l k=l:=by
 unfold yt;refine xY.2 fun x hx=>?_
 have:=Ct h x hx;simp[uQ,this]
theorem WS(T:Lf W q g key dV s l)(k:Tu):
 aR ah 128 #[.c (some ⟨q,0,none⟩),.d k.ay] W fun e w'=>e=.a (.e (qp l k).isSome)/\(∃s',Lf w' q g key dV s' (yt l k)/\s'.a=s.a)/\jP [q,g] W w':=by
 have X0:=ab (dP.new W k.ay 81);have B0:=ab ((aG W.a.j W).alloc (av _) (.D k.ay 81));have T0:=ab (T.go B0.i);have HT:=ab T;have HLT:=ab T.w.lt;have CG:=ab (fun(w:ak) (T:Lf w q g key dV s l)=>KU T k);obtain⟨o,ho⟩:=cB (qp l k);rw[<-ho]at CG ⊢;have HO:=ab ho.symm;have hcg:∀o,anN o = .K #[.d (xB o).rP.ay,.e o.isSome]:=fun _=>rfl
 simp only[hcg]at CG;clear T ho hcg;go_enter Tryz.func128,Tryz.ntmps128;go_upto_region 1 with fail
 generalize W.alloc (.D k.ay 81)=w1 at X0 B0 T0 ⊢;have l1:=qj X0.i;cases o with
 | none=>
   go_wp2_with (go_at_call 126;(with_reducible refine(CG.i _ T0.i).g ?_);rintro e w2 ⟨rfl,hb⟩;have B2:=ab (jD B0.i hb);clear hb l1);go_ret;have HB:=(B2.i.alloc B2.i.j (.D (xB none).rP.ay 86))
   refine⟨rfl,⟨s,?_,rfl⟩,jP.jF HB⟩;rw[WR HO.i];exact HT.i.go HB
 | some x=>
   obtain⟨hxl,hxk⟩:=yI HO.i;have hok:=HT.i.ok.ok x hxl;have hkn:yj k:=by rw[<-hxk];exact Cw (xV hok)
   obtain⟨d,hd,hat⟩:=HT.i.VI k;rw[HO.i]at hat;have hsz:=HT.i.w.sz;obtain⟨j,hj⟩:=cB ((hmK key s.a k+d)%s.a);have hjl:j<s.a:=by rw[hj];exact fP _ (by omega)
   have CF:=ab (fun(w:ak) (T:Gp w q g key dV s)=>Dw T k hkn d hd);rw[<-hj]at CF hat;obtain⟨z,a0,Zn,arh⟩:=HT.i.r.tab.aCQ hjl hat;obtain⟨N,hN⟩:=cB s.a;rw[<-hN]at arh hjl hsz;have hz:z<N:=by rw[hN];exact Zn.hz
   have ha0:1<=a0/\a0+1<=N:=⟨Zn.a0,by rw[hN];exact Zn.cN⟩
   have HL:=ab (KW s j x (by rw[<-hN];exact hjl) hat);obtain⟨L,hL⟩:=cB (iD (s.set j none));rw[<-hL]at Zn HL;have H0:=ab Zn;have HN:=ab hN;have HJ:=ab arh;have HAT:=ab hat;have HX:=ab (show x.key=k from hxk);obtain⟨j1,hj1⟩:=cB (j+1);have e1:(j:Int)+1=(j1:Int):=by omega
   have i1:=jY (j1:Int) (by omega);obtain⟨j2,hj2⟩:=cB (j1%N);have aK5:j2<N:=by rw[hj2];exact fP _ (by omega)
   have e2:(j1:Int)%(N:Int)=(j2:Int):=by rw[hj2];omega
   have e3:MW (j1:Int) (N:Int)=(j2:Int):=by rw[mZ (by omega)];exact e2
   have i2:=jY (j2:Int) (by omega);have z1:¬(N:Int)=0:=by omega
   have z2:¬N=0:=by omega
   have HJ2:=ab (show j2=zP N z (a0+1)by rw[hj2,hj1,<-arh];exact ac1 hz (by omega));clear hxl hxk hok hkn hd hat hj Zn arh hN hL hj1 hj2;go_wp2_with (first|(go_at_call 126;(with_reducible refine(CG.i _ T0.i).g ?_);rintro e w2 ⟨rfl,hb⟩;have T2:=ab ((T0.i.go hb).go ((aG _ _).alloc (av _) (.D (xB (some x)).rP.ay 86)));have B2:=ab ((jD B0.i hb).alloc ((jD B0.i hb).j) (.D (xB (some x)).rP.ay 86));have l2:=qj ((X0.i.go hb).alloc (.D (xB (some x)).rP.ay 86));have f2:(w2.alloc (.D (xB (some x)).rP.ay 86)).b ⟨q,18,none⟩=some (.a (some ⟨g,0,none⟩) N N):=(by rw[HN.i];exact T2.i.w.R.1);clear hb l1)|(go_at_call 129;(with_reducible refine(CF.i _ T2.i.w).g ?_);rintro e w3 ⟨rfl,hb⟩;have T3:=ab (T2.i.go hb);have B3:=ab (jD B2.i hb);clear hb l2 f2));go_loopw [8,9] (fun v8 v9 wr=>∃(s':List (Option Fw))(a c:Nat)(y:Fw),s'.a=N/\Xu Fw.key (hmK key N) z s' a c L/\dW s' (zP N z a)=some y/\Gp wr q g key dV s'/\v8=.b .a (zP N z a:Nat)/\v9=.b .a (zP N z c:Nat)/\jP [g] w3 wr)
    (fun _ v9 wr=>N-zQ N ((z+1)%N) (intOf v9).e)
   case atStart=>exact⟨s,a0,a0+1,x,HN.i.symm,by rw[HN.i];exact H0.i,by rw[HJ.i];exact HAT.i,T3.i.w,by rw[HJ.i],by rw[<-HJ2.i],jP.refl _ _⟩
   case round=>
    obtain⟨s',a,c,y,hlen,hol,hay,hTb,rfl,rfl,hfr⟩:=hrel;have hcN:c<=N:=by rw[<-hlen];exact hol.cN
    have hac:=hol.ac;have ha1:=hol.a0;obtain⟨i,hi⟩:=cB (zP N z c);obtain⟨b,hb⟩:=cB (zP N z a);have hil:i<N:=by rw[hi];exact C9 (by omega)
    have hbl:b<N:=by rw[hb];exact C9 (by omega)
    have HOL:=ab hol;have HLEN:=ab hlen;have HTB:=ab hTb;have HFR:=ab hfr;have f18:wr.b ⟨q,18,none⟩=some (.a (some ⟨g,0,none⟩) N N):=by rw[<-hlen];exact hTb.R.1
    have hai:=(hTb.Wx (show i<s'.a by rw[hlen];exact hil))
    rw[<-hi,<-hb];rw[<-hb]at hay;have HI:=ab hi;have IC:=ab hb;have HAY:=ab hay;have hii:(i:Int)<N:=by omega
    have hbi:(b:Int)<N:=by omega
    have HCT:=ab (show(iD s').a=L.a+1 by
     have h1:=(KW s' b y (by rw[hlen];exact hbl) hay).t;rw[bl]at h1;have h2:=hol.PW;rw[hlen,<-hb]at h2;rw[h1,h2.t])
    have thb:=hTb.sl.S (b*42) 42 (by rw[wD,hlen];have:=dB 42 (show b+1<=N from hbl);omega);clear hol hlen hTb hfr hi hb hay;cases hat:dW s' i with
    | none=>
      rw[hat]at hai;have a1:wr.b ⟨g,i*42,none⟩=some (.e false):=hai.1;have aEP:=ab hat;have PQ:=ab (HTB.i.tb.gN (b2:=g) (o:=b*42) (x:=Hu.ay) HTB.i.ne);have f17:=(PQ.i.R.1 17).trans (Tk.aea _);have g17:=PQ.i.R.2.1 17;have aK7:=(PQ.i.R.1 18).trans (Tk.zI _);rw[HCT.i]at f17;obtain⟨m,hm⟩:=cB L.a;rw[<-hm]at f17;obtain⟨m1,hm1⟩:=cB (m+1);rw[<-hm1]at f17;have e5:(m1:Int)-1=(m:Int):=by omega
      have hmb:m1<=100000:=by have h1:=FZ s';have h2:=HTB.i.sz;have h3:=HCT.i;omega
      have i5:=jY (m:Int) (by omega);have HM:=ab hm;clear hai hat hm hm1 hmb;go_wp2;go_ret;obtain⟨hd1,hd2⟩:=HOL.i.done (by rw[HLEN.i,<-HI.i];exact aEP.i);rw[HLEN.i,<-IC.i]at hd1 hd2;have hxl:=yI HO.i;have hlp:l.Perm (x::L):=(HT.i.r.PW.symm).trans HL.i;have hcut:=VJ HT.i.ok hxl.1 hlp;rw[hxl.2]at hcut;have hbs:b<s'.a:=by rw[HLEN.i];exact hbl
      have hel:(iD (s'.set b none)).a=m:=by rw[hd2.t,HM.i]
      have hW:Gp ((gV wr g (b*42) Hu.ay).I ⟨q,17,none⟩ (.b .a m)) q g key dV (s'.set b none):=by
       refine⟨?_,?_,HTB.i.ne,by rw[aS];exact HTB.i.sz⟩
       ·have:=PQ.i.fC 17 (.b .a m)
        rw[Tk.Qu]at this;rw[hel,aS];exact this
       ·have h1:=HTB.i.sl.setCells (b*42) Hu.ay.a
        have h2:=Uh s' b none hbs;refine dP.dQ ?_ _ _ HTB.i.ne;rw[<-h2];simpa[gV,slC,xB]using h1
      refine⟨rfl,⟨s'.set b none,⟨hW,⟨?_,?_⟩,HT.i.ok.sub (aaY l k)⟩,by rw[aS,HLEN.i,HN.i]⟩,?_⟩
      ·rw[aS,HLEN.i];exact hd1
      ·exact hd2.trans hcut
      ·refine jP.set ?_ _ _ (.b (by simp))
       refine jP.grown ?_ (mG (dR wr (some g)) (b*42) Hu.ay) (fun j e=>.b (by injection e with e;simp[e]));exact(jP.jF B3.i).trans HFR.i (fun j hj=>.b (by simp at hj;simp[hj]))
    | some v=>
      rw[hat]at hai;obtain⟨a1,a2,_,a4,a5,_,a7⟩:=hai
      replace a1:wr.b ⟨g,i*42,none⟩=some (.e true):=a1
      replace a4:eH wr g (i*42+1) 37=v.key.ay:=a4
      have hcl:c<N:=by
       rcases aZ c N with h1|h1
       ·exact h1
       ·exfalso
        have h2:c=N:=by omega
        have h3:=HOL.i.free;have h4:i=z:=by rw[HI.i,h2];show(z+N)%N=z;rw[Nat.add_mod_right,gy hz]
        rw[h4,h3]at hat;cases hat
      have hib:i≠b:=fun e=>by
       have:=Kt hz hcl (show a<N by omega) (by rw[<-HI.i,<-IC.i];exact e);omega
      have hvl:v∈l:=by
       have h1:v∈iD (s'.set b none):=PN.2 ⟨i,by rw[aS,HLEN.i];exact hil,by rw[GH _ _ _ _ (by rw[HLEN.i];exact hbl),if_neg (jE hib)];exact hat⟩;have h2:=HOL.i.PW;rw[HLEN.i,<-IC.i]at h2;exact HT.i.r.PW.mem_iff.1 (HL.i.mem_iff.2 (kr _ (h2.mem_iff.1 h1)))
      have hvn:=Cw (xV (HT.i.ok.ok v hvl));obtain⟨hv,hhv⟩:=cB (hmK key N v.key);have hvN:hv<N:=by rw[hhv];exact fP _ (by omega)
      have CH:=ab (fun(w:ak) (T:Gp w q g key dV s')=>WM T v.key hvn);rw[HLEN.i,<-hhv]at CH;have hat':dW s' (zP s'.a z c)=some v:=by rw[HLEN.i,<-HI.i];exact hat
      have hlin:=(HOL.i.lin c v (by rw[HLEN.i];exact hcl) (by omega) hat').1;rw[HLEN.i,<-hhv]at hlin;have azQ:=ab (show hmK key N v.key=hv from hhv.symm);obtain⟨p1,hp1⟩:=cB (i+N-hv);obtain⟨p2,hp2⟩:=cB (i+N-b);obtain⟨d1,hd1⟩:=cB (p1%N);obtain⟨d2,hd2⟩:=cB (p2%N);have aK9:d1<N:=by rw[hd1];exact fP _ (by omega)
      have aK':d2<N:=by rw[hd2];exact fP _ (by omega)
      have g1:=jY ((i:Int)-(hv:Int)) (by omega);have g2:=jY ((i:Int)-(b:Int)) (by omega);have g3:(i:Int)-(hv:Int)+(N:Int)=(p1:Int):=by omega
      have g4:(i:Int)-(b:Int)+(N:Int)=(p2:Int):=by omega
      have g5:=jY (p1:Int) (by omega);have g6:=jY (p2:Int) (by omega);have g7:(p1:Int)%(N:Int)=(d1:Int):=by rw[hd1];omega
      have g8:(p2:Int)%(N:Int)=(d2:Int):=by rw[hd2];omega
      have g9:MW (p1:Int) (N:Int)=(d1:Int):=by rw[mZ (by omega)];exact g7
      have g10:MW (p2:Int) (N:Int)=(d2:Int):=by rw[mZ (by omega)];exact g8
      have g11:=jY (d1:Int) (by omega);have g12:=jY (d2:Int) (by omega);have D1:=ab (show d1=c-zQ N z hv by rw[hd1,hp1,HI.i];exact ai7 hz hvN hlin hcl);have D2:=ab (show d2=c-a by rw[hd2,hp2,HI.i,IC.i];exact ac0 hz (by omega) hcl);obtain⟨n1,hn1⟩:=cB (i+1);have k1:(i:Int)+1=(n1:Int):=by omega
      have k2:=jY (n1:Int) (by omega);obtain⟨n2,hn2⟩:=cB (n1%N);have aLa:n2<N:=by rw[hn2];exact fP _ (by omega)
      have k3:(n1:Int)%(N:Int)=(n2:Int):=by rw[hn2];omega
      have k4:MW (n1:Int) (N:Int)=(n2:Int):=by rw[mZ (by omega)];exact k3
      have k5:=jY (n2:Int) (by omega);have Qx:=ab (show n2=zP N z (c+1)by rw[hn2,hn1,HI.i];exact ac1 hz hcl);have ari:=ab hat';have azR:=ab hlin;have HIB:=ab hib;have as0:=ab (show N-zQ N ((z+1)%N) n2<N-zQ N ((z+1)%N) i by
       rw[Qx.i,HI.i,Zm hz (by omega) (by omega),Zm hz (by omega) (by omega)];omega)
      have HC:=ab (show c<N/\a<c/\0<a from⟨hcl,hac,ha1⟩);clear hvl hvn hhv hat' hlin hp1 hp2 hd1 hd2 hn1 hn2 hib hat a2 a5 hcl;by_cases hle:d2<=d1
      ·have t1:decide ((d1:Int)>=(d2:Int))=true:=by simp;omega
       have t2:decide ((d2:Int)<=(d1:Int))=true:=by simp;omega
       have t3:decide (d2<=d1)=true:=by simp;omega
       have HLE:=ab hle;clear hle thb;go_wp2_with (go_at_call 200;(with_reducible refine(CH.i _ HTB.i).g ?_);rintro e w5 ⟨rfl,hb5⟩;have HB5:=ab hb5;have T5:=ab (HTB.i.go hb5);clear hb5 a1 a4 a7 f18;have f18:w5.b ⟨q,18,none⟩=some (.a (some ⟨g,0,none⟩) N N):=(by rw[<-HLEN.i];exact T5.i.R.1);have a5:yE w5 g (i*42) 42:=(T5.i.Wx (by rw[HLEN.i];exact hil)).2.2.2.2.1;have a2:eH w5 g (i*42) 42=(xB (some v)).ay:=(by rw[(T5.i.Wx (by rw[HLEN.i];exact hil)).2.1,show dW s' i=some v from(by have:=ari.i;rw[HLEN.i,<-HI.i]at this;exact this)]);have thb:w5.S g (b*42) 42:=T5.i.sl.S (b*42) 42 (by rw[wD,HLEN.i];have:=dB 42 (show b+1<=N from hbl);omega));go_region;go_wp2;go_roundw
       case rel=>
        have h1:=HC.i;have h2:=HLE.i;rw[D1.i,D2.i]at h2;have h3:=azR.i;have hmv:=HOL.i.move (by rw[HLEN.i];exact h1.1) ari.i (by rw[HLEN.i,azQ.i];omega);rw[HLEN.i,<-IC.i]at hmv;have hbs:b<s'.a:=by rw[HLEN.i];exact hbl
        have hai2:dW (s'.set b (some v)) i=some v:=by
         rw[GH _ _ _ _ hbs,if_neg (jE HIB.i)];have:=ari.i;rw[HLEN.i,<-HI.i]at this;exact this
        have hel:(iD (s'.set b (some v))).a=L.a+1:=by
         have h4:=(KW (s'.set b (some v)) i v (by rw[aS,HLEN.i];exact hil) hai2).t;rw[bl]at h4;have h5:=hmv.PW;rw[aS,HLEN.i,<-HI.i]at h5;rw[h4,h5.t]
        refine⟨s'.set b (some v),c,c+1,v,by rw[aS,HLEN.i],hmv,by rw[<-HI.i];exact hai2,?_,by rw[HI.i],by rw[Qx.i],?_⟩
        ·exact T5.i.drew.ail hbs (some v) (L.a+1) hel (HCT.i.symm)
        ·exact jP.grown (HFR.i.Y HB5.i.drew HFR.i.j) (mG (dR w5.drew (some g)) (b*42) (xB (some v)).ay) (fun j e=>.b (by injection e with e;simp[e]))
       case measure=>
        simp only[intOf,cK];exact as0.i
      ·have t1:decide ((d1:Int)>=(d2:Int))=false:=by simp;omega
       have t2:decide ((d2:Int)<=(d1:Int))=false:=by simp;omega
       have t3:decide (d2<=d1)=false:=by simp;omega
       have HLE:=ab hle;clear hle thb;go_wp2_with (go_at_call 200;(with_reducible refine(CH.i _ HTB.i).g ?_);rintro e w5 ⟨rfl,hb5⟩;have HB5:=ab hb5;clear hb5 a1 a4 a7 f18);go_roundw
       case rel=>
        have h1:=HC.i;have h2:=HLE.i;rw[D1.i,D2.i]at h2;have h3:=azR.i;refine⟨s',a,c+1,y,HLEN.i,HOL.i.aCR (by rw[HLEN.i];exact h1.1) ari.i (by rw[HLEN.i,azQ.i];omega),by rw[<-IC.i];exact HAY.i,HTB.i.go HB5.i,by rw[IC.i],by rw[Qx.i],HFR.i.Y HB5.i HFR.i.j⟩
       case measure=>
        simp only[intOf,cK];exact as0.i
end
section
variable {W W':ak} {q g:Nat} {key:Vector UInt8 16} {dV:Int} {s:List (Option Fw)} {l:List Fw}
theorem TbR.ED{hm:Tu->Nat}(h:TbR hm s l)(ho:xI dV l){f x:Fw}{d:Nat}(hd:Found hm Fw.key s f.key d)(hf:qp l f.key=some x)(hl:l.a<s.a)(m:List Fw)(hm':m.Perm (f::yt l f.key)):TbR hm (s.set ((hm f.key+d)%s.a) (some f)) m:=by
 have hN:0<s.a:=by omega
 have hj:(hm f.key+d)%s.a<s.a:=fP _ hN;have hst:=h.stop ho hd;have hel:=h.PW.t;rw[hf]at hst;obtain⟨h1,h2⟩:=yI hf;obtain⟨z,hz1,hz2⟩:=(Mf s).1 (by omega);refine⟨h.tab.put hd hz1 hz2 (fun e=>by rw[e,hst]at hz2;cases hz2),?_⟩;have e1:=Ah s _ f hj;have e2:=PL s _ x hj hst;have e3:=VJ ho h1 (h.PW.symm.trans e2);rw[h2]at e3;exact e1.trans ((e3.cons f).trans hm'.symm)
theorem OJ{fn:Func}{p u v:Tmp}{ty:bL}(h:fn.results = #[.cell p ty,.a u,.a v])(tmps:Array aB)(P:Program)(w:ak):
 (results fn tmps).O P w=((asAddr (tmps.b p undef)).O P w).andThen fun a w₁=>((loadVar ty a).O P w₁).andThen fun x w₂=>.ok (.K #[x,tmps.b u undef,tmps.b v undef]) w₂:=by
 simp only[results,h];simp[jS,iM]
theorem pQ.arj{T:bL}{n:Nat}{z:Array aB}{fn:Func}{p u v b:Nat}{W:ak}{c:Array aB}(K:pQ T n z)(h:fn.results = #[.cell p T,.a u,.a v])(tmps:Array aB)(hp:tmps.b p undef=.c (some ⟨b,0,none⟩))(hb:dP W b c)(hc:c.j=n):(results fn tmps).O ah W=.ok (.K #[.d c,tmps.b u undef,tmps.b v undef]) W:=by
 obtain⟨_,_,h3,h4⟩:=hb.R;have hl:=K.ld W b 0 (by rw[h3 0 n (by unfold eU;omega)];trivial);rw[h4 0 n (by unfold eU;omega),bC,<-hc,Array.extract_size]at hl;unfold yU at hl;simp only[dw,Instr.sureAddr,jS,oU,gW]at hl;rw[OJ h,hp];simp[asAddr,iM,hl]
def akt(dV:Int)(l:List Fw)(f:Fw):aB:=
 if EA f then(if(qp l f.key).isNone&&decide (dV<=l.a)then .K #[.d (l.head?.b lu).ay,.e true,.b .a 0]else .K #[.d lu.ay,.e false,.b .a 0])else .K #[.d lu.ay,.e false,.b .a 1]
def agJ(W:ak)(q g:Nat)(key:Vector UInt8 16)(dV:Int)(s:List (Option Fw))(l:List Fw)(f:Fw)(e:lJ)(w':ak):Prop:=
 e=.a (akt dV l f)/\(∃s',Lf w' q g key dV s' (ED dV l f)/\s'.a=s.a)/\jP [q,g] W w'
theorem Zo(T:Lf W q g key dV s l)(h1:1<=dV)(h2:dV*2<=s.a)(f:Fw)(hfn:f.F.a<=1000000):
 aR ah 63 #[.c (some ⟨q,0,none⟩),.d f.ay] W (agJ W q g key dV s l f):=by
 have Z0:=ab (((Bx.start W).new f.ay 86).new lu.ay 86);rw[show(W.alloc (.D f.ay 86)).a.j=W.a.j+1 by simp]at Z0;have CR:=ab (fun w=>LG f w (by omega));have HT:=ab T;have HLT:=ab T.w.lt;obtain⟨ok,hok⟩:=cB (EA f);rw[<-hok]at CR;have Kl:=ab hok;clear hok T;go_enter Tryz.func63,Tryz.ntmps63;go_upto_region 1 with fail
 generalize(W.alloc (.D f.ay 86)).alloc (.D lu.ay 86)=w1 at Z0 ⊢;have l1:=kU Z0.i.b1;cases ok
 ·go_wp2_with (go_at_call 48;(with_reducible refine(CR.i _).g ?_);rintro e w2 ⟨rfl,hb⟩;have Z2:=ab (Z0.i.go hb);clear hb l1;have zS:=Z2.i.Z.S 0 41 (aU (Fw.J _).symm))
  have k2:=Z2.i.put (fun p hp=>by rw[fO.1 hp];simp) lu.ay rfl;refine aO (kFw.arj rfl _ rfl (show dP (BU w2 (W.a.j+1) 0 lu) (W.a.j+1) lu.ay from k2.Z) (Fw.J _)) rfl ?_;refine⟨by unfold akt;rw[if_neg (by rw[<-Kl.i];simp)];rfl,⟨s,?_,rfl⟩,jP.jF k2.X⟩;unfold ED;rw[if_neg (by rw[<-Kl.i];simp)];exact HT.i.go k2.X
 ·have hkn:yj f.key:=Cw (xV Kl.i.symm)
  have CG:=ab (fun(w:ak) (T:Lf w q g key dV s l)=>KU T f.key);obtain⟨o,ho⟩:=cB (qp l f.key);rw[<-ho]at CG;have HO:=ab ho.symm;have hcg:∀o,anN o = .K #[.d (xB o).rP.ay,.e o.isSome]:=fun _=>rfl
  simp only[hcg]at CG;clear ho hcg;have hcnt:(iD s).a=l.a:=HT.i.r.PW.t;have hsz:=HT.i.w.sz;obtain⟨n,hn⟩:=cB l.a;have HNL:=ab hn;have HF:=ab (fun(w':ak) (T:Lf w' q g key dV s l)=>show w'.b ⟨q,17,none⟩=some (.b .a n)/\w'.b ⟨q,16,none⟩=some (.b .a dV)from⟨by rw[T.w.R.2.1,T.r.PW.t,hn],T.w.R.2.2.1⟩);clear hcnt hn;go_upto_region 6 with(first|(go_at_call 48;(with_reducible refine(CR.i _).g ?_);rintro e w2 ⟨rfl,hb⟩;have HW3:=ab (show W.a.j+1<w2.a.j from(Z0.i.go hb).Z.lt);have Z2:=ab ((Z0.i.go hb).new lu.ay 86);clear hb l1;have l2:=pR Z2.i.b2)|(go_at_call 126;(with_reducible refine(CG.i _ (HT.i.go Z2.i.X)).g ?_);rintro e w3 ⟨rfl,hb⟩;have Z3:=ab ((Z2.i.go hb).new (xB o).rP.ay 86);clear hb l2))
  have TA:=ab (HT.i.go Z3.i.X);obtain⟨f17,f16⟩:=HF.i _ TA.i;cases o with
  | some x=>
    go_wp2_with fail;go_quiet (fail);have T1:=ab (show Lf ((w3.alloc (.D (xB (some x)).rP.ay 86)).drewN nq) q g key dV s l from⟨TA.i.w.drewN nq,TA.i.r,TA.i.ok⟩);have XF:=ab (Z3.i.b3.drewN nq);have XR:=ab (Z3.i.b2.drewN nq);have XY:=ab (Z3.i.b1.drewN nq);have FR:=ab (jP.jF (F:=[q,g]) (eD Z3.i.X nq));have HF1:=ab HO.i;generalize(w3.alloc (.D (xB (some x)).rP.ay 86)).drewN nq=wA at T1 XF XR XY FR ⊢;clear f17 f16;go_wp2_with fail;obtain⟨d,hd,hat⟩:=T1.i.VI f.key;rw[HF1.i]at hat;have hsz1:=T1.i.w.sz;obtain⟨j,hj⟩:=cB ((hmK key s.a f.key+d)%s.a);have hjl:j<s.a:=by rw[hj];exact fP _ (by omega)
    have CF:=ab (fun(w:ak) (T:Gp w q g key dV s)=>Dw T f.key hkn d hd);rw[<-hj]at CF hat;have HD:=ab hd;have HJ:=ab hj;have HAT:=ab hat;obtain⟨N,hN⟩:=cB s.a;have HN:=ab hN;have hji:(j:Int)<N:=by omega
    have HJL:=ab hjl;clear hd hj hat hN hjl hsz1;obtain⟨T,ff,n0,E0,es,ew⟩:=yL (wA);have hT:Nonempty T:=⟨n0⟩
    have ES:=ab es;have EW:=ab ew;have l18:∀m,(ff m).b ⟨q,18,none⟩=some (.a (some ⟨g,0,none⟩) N N):=fun m=>by rw[HN.i];exact(T1.i.w.go (es m)).R.1
    have lk:=fun m=>pR (XF.i.go (es m))
    have CG2:=ab (fun m=>CF.i _ (T1.i.w.go (es m)));clear es ew;refine qh ff (by kernel_rfl) (by kernel_rfl) n0 E0 ?_
    repeat(go_big_quiet_step ((first|(go_at_call 129;(with_reducible refine(CG2.i _).g ?_);rintro e w2 ⟨rfl,hb⟩;exact⟨rfl,EW.i _ ((ES.i _).trans (hb.g (ES.i _).j))⟩))))
    refine iw ?_;rintro _ ⟨m',rfl⟩;have HB:=ab (ES.i m');generalize ff m'=wN at *;clear ES EW E0 hT n0;clear l18 lk;have T2:=ab (T1.i.go HB.i);have F2:=ab (XF.i.go HB.i);have R2:=ab (XR.i.go HB.i);have Y2:=ab (XY.i.go HB.i);have FR2:=ab (FR.i.Y HB.i FR.i.j);obtain⟨a1,_,_,_,a5,_,_⟩:=T2.i.w.Wx HJL.i;rw[HAT.i]at a1
    replace a1:wN.b ⟨g,j*42,none⟩=some (.e true):=a1
    have lf:=kU F2.i;have thj:=T2.i.w.sl.S (j*42) 42 (by rw[wD];have:=dB 42 (show j+1<=s.a from HJL.i);omega);have Zh:=ab (show q≠W.a.j+1/\g≠W.a.j+1/\g≠w2.a.j/\w2.a.j≠W.a.j+1 from⟨by have:=HLT.i;omega,by have:=HLT.i;omega,by have:=HLT.i;have:=HW3.i;omega,by have:=HW3.i;omega⟩);have Y3:=ab (Y2.i.gN (o:=j*42) (x:=(Sl.mk true f).ay) (jE Zh.i.2.2.1));have R3:=ab (R2.i.gN (o:=j*42) (x:=(Sl.mk true f).ay) (jE Zh.i.2.1));have ly:=kU Y3.i;have zS:=R3.i.S 0 41 (aU (Fw.J _).symm);clear a5;go_wp2;refine aO (kFw.arj rfl _ rfl (R3.i.put lu.ay rfl) (Fw.J _)) rfl ?_;have hpf:ED dV l f=ins mo f (yt l f.key):=by unfold ED;rw[if_pos Kl.i.symm,if_pos (by rw[HO.i];rfl)]
    have e1:=KW s j x HJL.i HAT.i;have e2:=Ah s j f HJL.i;have hW:=T2.i.w.ail HJL.i (some f) (iD s).a (by rw[e2.t,e1.t,bl,bl]) rfl;have hR:=T2.i.r.ED T2.i.ok HD.i HO.i (by have:=T2.i.ok.len;omega) (ins mo f (yt l f.key)) (Db _ _);rw[<-HJ.i]at hR;refine⟨by unfold akt;rw[if_pos Kl.i.symm,HO.i];rfl,⟨s.set j (some f),⟨⟨hW.tb.gN Zh.i.1,hW.sl.gN Zh.i.2.1,hW.ne,hW.sz⟩,?_,T2.i.ok.put h1 f⟩,by rw[aS]⟩,?_⟩
    ·rw[aS,hpf];exact hR
    ·refine jP.grown ?_ (mG (dR _ (some (W.a.j+1))) 0 lu.ay) (fun k e=>.a (by injection e with e;omega))
     exact jP.grown FR2.i (mG (dR _ (some g)) (j*42) (Sl.mk true f).ay) (fun k e=>.b (by injection e with e;simp[e]))
  | none=>
   by_cases hfull:dV<=(n:Int)
   ·have t1:decide ((n:Int)>=dV)=true:=by simp;omega
    have t2:decide (dV<=(n:Int))=true:=by simp;omega
    obtain⟨x0,tl,hl0⟩:∃x0 tl,l=x0::tl:=by
     have:=HNL.i;cases l with
     | nil=>simp at this;omega
     | cons x t=>exact⟨x,t,rfl⟩
    have hhd:l.head?.b lu=x0:=by rw[hl0];rfl
    have hct:yt l x0.key=tl:=by have:=HT.i.ok;rw[hl0]at this⊢;exact amQ this
    have CO:=ab (fun w (T:Lf w q g key dV s l)=>abR w T);rw[hhd]at CO;have CD:=ab (fun w (T:Lf w q g key dV s l)=>WS T x0.key);rw[hct]at CD;have hfl:dV<=(l.a:Int):=by rw[<-HNL.i];exact hfull
    have HPF:=ab (show ED dV l f=ins mo f tl by unfold ED;rw[if_pos Kl.i.symm,if_neg (by rw[HO.i];simp),if_pos hfl,hl0];rfl);have HPC:=ab (show akt dV l f = .K #[.d x0.ay,.e true,.b .a 0]by unfold akt;rw[if_pos Kl.i.symm,HO.i,if_pos (by simpa using hfl),hhd]);have HFT:=ab (show qp tl f.key=none by
     unfold qp;rw[List.find?_eq_none];intro z hz;have:=Ct HO.i z (by rw[hl0];exact kr _ hz);simp[uQ,this])
    have HPT:=ab (show ED dV tl f=ins mo f tl by
     unfold ED;rw[if_pos Kl.i.symm,if_neg (by rw[HFT.i];simp),if_neg (by have:=HT.i.ok.len;rw[hl0,bl]at this;omega)])
    have HBD:=ab (show((tl.a:Nat):Int)+1<=dV by have:=HT.i.ok.len;rw[hl0,bl]at this;omega);clear hfull hl0 hhd hct hfl;go_wp2_with fail;go_quiet (fail);have TB:=ab (show Lf ((w3.alloc (.D (xB none).rP.ay 86)).drewN nq) q g key dV s l from⟨TA.i.w.drewN nq,TA.i.r,TA.i.ok⟩);have XF0:=ab (Z3.i.b3.drewN nq);have XR0:=ab (Z3.i.b2.drewN nq);have XY0:=ab (Z3.i.b1.drewN nq);have FR0:=ab (jP.jF (F:=[q,g]) (eD Z3.i.X nq));generalize(w3.alloc (.D (xB none).rP.ay 86)).drewN nq=wB at TB XF0 XR0 XY0 FR0 ⊢;clear f17 f16;have HQK:=ab (show w2.a.j≠q/\w2.a.j≠g/\w2.a.j≠W.a.j/\w2.a.j≠W.a.j+1/\W.a.j≠q/\W.a.j≠g/\W.a.j+1≠q/\W.a.j+1≠g by have:=HLT.i;have:=HW3.i;omega);go_upto_region 9 with(first
     | (go_at_call 127;(with_reducible refine(CO.i _ TB.i).g ?_);rintro e w4 ⟨rfl,hb4⟩;have Y4:=ab (XY0.i.go hb4);have th4:=Y4.i.S 0 41 (aU (Fw.J _).symm);have T5:=ab (show Lf (BU w4 w2.a.j 0 x0) q g key dV s l from⟨⟨(TB.i.w.go hb4).tb.gN (jE HQK.i.1),(TB.i.w.go hb4).sl.gN (jE HQK.i.2.1),TB.i.w.ne,TB.i.w.sz⟩,TB.i.r,TB.i.ok⟩);have Y5:=ab (show dP (BU w4 w2.a.j 0 x0) w2.a.j x0.ay from Y4.i.put x0.ay (by rw[Fw.J,Fw.J]));have F5:=ab (show dP (BU w4 w2.a.j 0 x0) W.a.j f.ay from(XF0.i.go hb4).gN (b2:=w2.a.j) (o:=0) (x:=x0.ay) (jE HQK.i.2.2.1));have R5:=ab (show dP (BU w4 w2.a.j 0 x0) (W.a.j+1) lu.ay from(XR0.i.go hb4).gN (b2:=w2.a.j) (o:=0) (x:=x0.ay) (jE HQK.i.2.2.2.1));have lk5:=pR Y5.i;have FR5:=ab (show jP [q,g] W (BU w4 w2.a.j 0 x0)from(FR0.i.Y hb4 FR0.i.j).grown (mG (dR w4 (some w2.a.j)) 0 x0.ay) (fun k e=>.a (by injection e with e;have:=HW3.i;omega)));clear hb4)
     | (go_at_call 128;(with_reducible refine(CD.i _ T5.i).g ?_);rintro e wA ⟨rfl,⟨s',T6,hs6⟩,F6⟩;have T1:=ab T6;have HS6:=ab hs6;have XF:=ab (F6.box F5.i (by have:=HQK.i;simp;omega));have XR:=ab (F6.box R5.i (by have:=HQK.i;simp;omega));have XY:=ab (F6.box Y5.i (by have:=HQK.i;simp;omega));have FR:=ab (FR5.i.qy F6);clear lk5 th4 T6 hs6 F6))
    have HF1:=ab HFT.i;obtain⟨n',hn'⟩:=cB tl.a;have HNP:=ab hn';clear hn';obtain⟨d,hd,hat⟩:=T1.i.VI f.key;rw[HF1.i]at hat;have hsz1:=T1.i.w.sz;obtain⟨j,hj⟩:=cB ((hmK key s'.a f.key+d)%s'.a);have hjl:j<s'.a:=by rw[hj];exact fP _ (by omega)
    have CF:=ab (fun(w:ak) (T:Gp w q g key dV s')=>Dw T f.key hkn d hd);rw[<-hj]at CF hat;have HD:=ab hd;have HJ:=ab hj;have HAT:=ab hat;obtain⟨N,hN⟩:=cB s'.a;have HN:=ab hN;have hji:(j:Int)<N:=by omega
    have HJL:=ab hjl;clear hd hj hat hN hjl hsz1;obtain⟨T,ff,n0,E0,es,ew⟩:=yL (wA);have hT:Nonempty T:=⟨n0⟩
    have ES:=ab es;have EW:=ab ew;have l18:∀m,(ff m).b ⟨q,18,none⟩=some (.a (some ⟨g,0,none⟩) N N):=fun m=>by rw[HN.i];exact(T1.i.w.go (es m)).R.1
    have lk:=fun m=>pR (XF.i.go (es m))
    have CG2:=ab (fun m=>CF.i _ (T1.i.w.go (es m)));clear es ew;refine qh ff (by kernel_rfl) (by kernel_rfl) n0 E0 ?_
    repeat(go_big_quiet_step ((first|(go_at_call 129;(with_reducible refine(CG2.i _).g ?_);rintro e w2 ⟨rfl,hb⟩;exact⟨rfl,EW.i _ ((ES.i _).trans (hb.g (ES.i _).j))⟩))))
    refine iw ?_;rintro _ ⟨m',rfl⟩;have HB:=ab (ES.i m');generalize ff m'=wN at *;clear ES EW E0 hT n0;clear l18 lk;have T2:=ab (T1.i.go HB.i);have F2:=ab (XF.i.go HB.i);have R2:=ab (XR.i.go HB.i);have Y2:=ab (XY.i.go HB.i);have FR2:=ab (FR.i.Y HB.i FR.i.j);obtain⟨a1,_,_,_,a5,_,_⟩:=T2.i.w.Wx HJL.i;rw[HAT.i]at a1
    replace a1:wN.b ⟨g,j*42,none⟩=some (.e false):=a1
    have c17:wN.b ⟨q,17,none⟩=some (.b .a n'):=by rw[T2.i.w.R.2.1,T2.i.r.PW.t,HNP.i]
    have g17:=T2.i.w.R.2.2.2.1 17;obtain⟨n1,hn1⟩:=cB (n'+1);have e5:(n':Int)+1=(n1:Int):=by omega
    have hnb:=T2.i.ok.len;have hnl:=HNP.i;have i5:=jY (n1:Int) (by omega);have HN1:=ab hn1;have F3:=ab (F2.i.dQ ⟨q,17,none⟩ (.b .a n1) (by have:=HLT.i;show q≠W.a.j;omega));have lf:=kU F3.i;have SL:=ab (T2.i.w.sl.dQ ⟨q,17,none⟩ (.b .a n1) T2.i.w.ne);have thj:=SL.i.S (j*42) 42 (by rw[wD];have:=dB 42 (show j+1<=s'.a from HJL.i);omega);have Zh:=ab (show q≠W.a.j+1/\g≠W.a.j+1/\g≠w2.a.j/\w2.a.j≠W.a.j+1/\q≠w2.a.j from⟨by have:=HLT.i;omega,by have:=HLT.i;omega,by have:=HLT.i;have:=HW3.i;omega,by have:=HW3.i;omega,by have:=HLT.i;have:=HW3.i;omega⟩);have Y3:=ab ((Y2.i.dQ ⟨q,17,none⟩ (.b .a n1) Zh.i.2.2.2.2).gN (o:=j*42) (x:=(Sl.mk true f).ay) (jE Zh.i.2.2.1));have R3:=ab ((R2.i.dQ ⟨q,17,none⟩ (.b .a n1) Zh.i.1).gN (o:=j*42) (x:=(Sl.mk true f).ay) (jE Zh.i.2.1));have ly:=kU Y3.i;have zS:=R3.i.S 0 41 (aU (Fw.J _).symm);clear a5 hn1 hnb hnl;go_wp2;refine aO (kFw.arj rfl _ rfl (R3.i.put x0.ay (by rw[Fw.J,Fw.J])) (Fw.J _)) rfl ?_;have hnl:=HNP.i;have hhs:=HS6.i;have hbd:=HBD.i;have hpf:ED dV l f=ins mo f tl:=HPF.i;have hcu:=WR HF1.i;have e2:=Me s' j f HJL.i HAT.i;have hel:(iD (s'.set j (some f))).a=n1:=by rw[e2.t,bl,T2.i.r.PW.t,HN1.i,hnl]
    have hR:=T2.i.r.put T2.i.ok HD.i (by omega) (ins mo f tl) (by rw[hcu];exact Db _ _);rw[<-HJ.i]at hR;have hT1:dP (wN.I ⟨q,17,none⟩ (.b .a n1)) q (Tk.mk key dV (iD (s'.set j (some f))).a (some ⟨g,0,none⟩) s'.a s'.a).ay:=by
     have:=T2.i.w.tb.fC 17 (.b .a n1);rw[Tk.Qu]at this;rw[hel];exact this
    have hT2:dP (gV (wN.I ⟨q,17,none⟩ (.b .a n1)) g (j*42) (Sl.mk true f).ay) g (Wv (s'.set j (some f))):=by
     have h5:=SL.i.setCells (j*42) (Sl.mk true f).ay.a;rw[<-Uh s' j (some f) HJL.i];simpa[gV,slC,xB]using h5
    refine⟨by rw[HPC.i];rfl,⟨s'.set j (some f),⟨⟨?_,hT2.gN Zh.i.2.1,T2.i.w.ne,by rw[aS];exact T2.i.w.sz⟩,?_,by rw[hpf,<-HPT.i];exact T2.i.ok.put h1 f⟩,by rw[aS,HS6.i]⟩,?_⟩
    ·rw[aS];exact(hT1.gN T2.i.w.ne).gN Zh.i.1
    ·rw[aS,hpf];exact hR
    ·refine jP.grown ?_ (mG (dR _ (some (W.a.j+1))) 0 x0.ay) (fun k e=>.a (by injection e with e;omega))
     refine jP.grown ?_ (mG (dR _ (some g)) (j*42) (Sl.mk true f).ay) (fun k e=>.b (by injection e with e;simp[e]));exact FR2.i.set ⟨q,17,none⟩ (.b .a n1) (.b (by simp))
   ·have t1:decide ((n:Int)>=dV)=false:=by simp;omega
    have t2:decide (dV<=(n:Int))=false:=by simp;omega
    have azV:=ab hfull;clear hfull;go_wp2_with fail;go_quiet (fail);have T1:=ab (show Lf ((w3.alloc (.D (xB none).rP.ay 86)).drewN nq) q g key dV s l from⟨TA.i.w.drewN nq,TA.i.r,TA.i.ok⟩);have XF:=ab (Z3.i.b3.drewN nq);have XR:=ab (Z3.i.b2.drewN nq);have XY:=ab (Z3.i.b1.drewN nq);have FR:=ab (jP.jF (F:=[q,g]) (eD Z3.i.X nq));have HF1:=ab HO.i;generalize(w3.alloc (.D (xB none).rP.ay 86)).drewN nq=wA at T1 XF XR XY FR ⊢;clear f17 f16;go_wp2_with fail;obtain⟨d,hd,hat⟩:=T1.i.VI f.key;rw[HF1.i]at hat;have hsz1:=T1.i.w.sz;obtain⟨j,hj⟩:=cB ((hmK key s.a f.key+d)%s.a);have hjl:j<s.a:=by rw[hj];exact fP _ (by omega)
    have CF:=ab (fun(w:ak) (T:Gp w q g key dV s)=>Dw T f.key hkn d hd);rw[<-hj]at CF hat;have HD:=ab hd;have HJ:=ab hj;have HAT:=ab hat;obtain⟨N,hN⟩:=cB s.a;have HN:=ab hN;have hji:(j:Int)<N:=by omega
    have HJL:=ab hjl;clear hd hj hat hN hjl hsz1;obtain⟨T,ff,n0,E0,es,ew⟩:=yL (wA);have hT:Nonempty T:=⟨n0⟩
    have ES:=ab es;have EW:=ab ew;have l18:∀m,(ff m).b ⟨q,18,none⟩=some (.a (some ⟨g,0,none⟩) N N):=fun m=>by rw[HN.i];exact(T1.i.w.go (es m)).R.1
    have lk:=fun m=>pR (XF.i.go (es m))
    have CG2:=ab (fun m=>CF.i _ (T1.i.w.go (es m)));clear es ew;refine qh ff (by kernel_rfl) (by kernel_rfl) n0 E0 ?_
    repeat(go_big_quiet_step ((first|(go_at_call 129;(with_reducible refine(CG2.i _).g ?_);rintro e w2 ⟨rfl,hb⟩;exact⟨rfl,EW.i _ ((ES.i _).trans (hb.g (ES.i _).j))⟩))))
    refine iw ?_;rintro _ ⟨m',rfl⟩;have HB:=ab (ES.i m');generalize ff m'=wN at *;clear ES EW E0 hT n0;clear l18 lk;have T2:=ab (T1.i.go HB.i);have F2:=ab (XF.i.go HB.i);have R2:=ab (XR.i.go HB.i);have Y2:=ab (XY.i.go HB.i);have FR2:=ab (FR.i.Y HB.i FR.i.j);obtain⟨a1,_,_,_,a5,_,_⟩:=T2.i.w.Wx HJL.i;rw[HAT.i]at a1
    replace a1:wN.b ⟨g,j*42,none⟩=some (.e false):=a1
    have c17:=(HF.i _ T2.i).1;have g17:=T2.i.w.R.2.2.2.1 17;obtain⟨n1,hn1⟩:=cB (n+1);have e5:(n:Int)+1=(n1:Int):=by omega
    have hnb:=T2.i.ok.len;have hnl:=HNL.i;have i5:=jY (n1:Int) (by omega);have HN1:=ab hn1;have F3:=ab (F2.i.dQ ⟨q,17,none⟩ (.b .a n1) (by have:=HLT.i;show q≠W.a.j;omega));have lf:=kU F3.i;have SL:=ab (T2.i.w.sl.dQ ⟨q,17,none⟩ (.b .a n1) T2.i.w.ne);have thj:=SL.i.S (j*42) 42 (by rw[wD];have:=dB 42 (show j+1<=s.a from HJL.i);omega);have Zh:=ab (show q≠W.a.j+1/\g≠W.a.j+1/\g≠w2.a.j/\w2.a.j≠W.a.j+1/\q≠w2.a.j from⟨by have:=HLT.i;omega,by have:=HLT.i;omega,by have:=HLT.i;have:=HW3.i;omega,by have:=HW3.i;omega,by have:=HLT.i;have:=HW3.i;omega⟩);have Y3:=ab ((Y2.i.dQ ⟨q,17,none⟩ (.b .a n1) Zh.i.2.2.2.2).gN (o:=j*42) (x:=(Sl.mk true f).ay) (jE Zh.i.2.2.1));have R3:=ab ((R2.i.dQ ⟨q,17,none⟩ (.b .a n1) Zh.i.1).gN (o:=j*42) (x:=(Sl.mk true f).ay) (jE Zh.i.2.1));have ly:=kU Y3.i;have zS:=R3.i.S 0 41 (aU (Fw.J _).symm);clear a5 hn1 hnb hnl;go_wp2;refine aO (kFw.arj rfl _ rfl (R3.i.put lu.ay rfl) (Fw.J _)) rfl ?_;have hnl:=HNL.i;have hfu:=azV.i;have hrl:¬dV<=(l.a:Int):=by omega
    have hpf:ED dV l f=ins mo f l:=by unfold ED;rw[if_pos Kl.i.symm,if_neg (by rw[HO.i];simp),if_neg hrl]
    have hcu:=WR HO.i;have e2:=Me s j f HJL.i HAT.i;have hel:(iD (s.set j (some f))).a=n1:=by rw[e2.t,bl,T2.i.r.PW.t,HN1.i,hnl]
    have hR:=T2.i.r.put T2.i.ok HD.i (by omega) (ins mo f l) (by rw[hcu];exact Db _ _);rw[<-HJ.i]at hR;have hT1:dP (wN.I ⟨q,17,none⟩ (.b .a n1)) q (Tk.mk key dV (iD (s.set j (some f))).a (some ⟨g,0,none⟩) s.a s.a).ay:=by
     have:=T2.i.w.tb.fC 17 (.b .a n1);rw[Tk.Qu]at this;rw[hel];exact this
    have hT2:dP (gV (wN.I ⟨q,17,none⟩ (.b .a n1)) g (j*42) (Sl.mk true f).ay) g (Wv (s.set j (some f))):=by
     have h5:=SL.i.setCells (j*42) (Sl.mk true f).ay.a;rw[<-Uh s j (some f) HJL.i];simpa[gV,slC,xB]using h5
    refine⟨by unfold akt;rw[if_pos Kl.i.symm,HO.i,if_neg (by simp;omega)];rfl,⟨s.set j (some f),⟨⟨?_,hT2.gN Zh.i.2.1,T2.i.w.ne,by rw[aS];exact T2.i.w.sz⟩,?_,T2.i.ok.put h1 f⟩,by rw[aS]⟩,?_⟩
    ·rw[aS];exact(hT1.gN T2.i.w.ne).gN Zh.i.1
    ·rw[aS,hpf];exact hR
    ·refine jP.grown ?_ (mG (dR _ (some (W.a.j+1))) 0 lu.ay) (fun k e=>.a (by injection e with e;omega))
     refine jP.grown ?_ (mG (dR _ (some g)) (j*42) (Sl.mk true f).ay) (fun k e=>.b (by injection e with e;simp[e]));exact FR2.i.set ⟨q,17,none⟩ (.b .a n1) (.b (by simp))
end
section
attribute [local go_sem high] iR jI
theorem avG:ajC 190:=⟨fun c w=>by
 go_enter Tryz.func190,Tryz.ntmps190;go_wp2;go_ret;exact⟨rfl,rfl⟩,fun args w=>by kernel_rfl⟩
theorem anT(a:fD):rz a=(a.h || !nzB (a.b.a.G 4)):=by rw[KE];cases h:a.h<;>simp[rz,fD.mO,h]
theorem LP(a:fD)(w:ak):aR ah 110 #[.d a.ay] w (gY w (.e (rz a))):=by
 have HB:=ab ((aG w.a.j w).alloc (av _) (.D a.ay 27));have x0:=dP.new w a.ay 27;have C:=ab (ahS _ avG _ 12 12 _ _ _ (by omega) (gG.tail (B:=w.a.j+1) (nD _) x0));have HS:=ab (anT a);obtain⟨z,hz⟩:=cB (nzB (a.b.a.G 4));rw[<-hz]at C HS;clear hz;cases h6:a.h
 ·rw[h6]at HS
  go_enter Tryz.func110,Tryz.ntmps110;go_wp2_with fail;refine C.i.g ?_;rintro e w' ⟨rfl,rfl⟩;cases z
  all_goals
   go_wp2;go_ret;exact⟨by rw[HS.i];rfl,HB.i⟩
 ·rw[h6]at HS
  go_enter Tryz.func110,Tryz.ntmps110;go_wp2;go_ret;exact⟨by rw[HS.i];rfl,HB.i⟩
def JV(n a b:Int):Bool:=decide (a<=n)&&decide (n<=b)
theorem zK(n a b:Int)(w:ak):aR ah 109 #[.b .a n,.b .a a,.b .a b] w fun e w'=>e=.a (.e (JV n a b))/\w=w':=by
 go_enter Tryz.func109,Tryz.ntmps109;by_cases h1:a<=n<;>by_cases h2:n<=b
 all_goals
  go_wp2;go_ret;exact⟨by simp[JV,h1,h2],rfl⟩
theorem aku(args:Array aB)(w:ak):(callFunc 204 args).O ah w=.ok (.enter 204 args) w:=by kernel_rfl
theorem agL(x:Vp)(a:fD)(p q:Int)(ba bp bq:Nat)(w:ak)(ha:dP w ba a.ay)(hp:dP w bp #[.b .a p])(hq:dP w bq #[.b .a q]):
 aR ah 204 #[.d x.ay,.c (some ⟨ba,0,none⟩),.c (some ⟨bp,0,none⟩),.c (some ⟨bq,0,none⟩)] w (gY w (.e (vW a p q x))):=by
 have HB:=ab (fun ob=>(aG w.a.j w).alloc (av _) ob);have na:=ha.lt;have np:=hp.lt;have nq:=hq.lt;obtain⟨a1,a2,a3,a4⟩:=ha.R;obtain⟨p1,p2,p3,p4⟩:=hp.R;obtain⟨q1,q2,q3,q4⟩:=hq.R;clear ha hp hq;go_enter Tryz.func204,Tryz.ntmps204;go_wp2
 all_goals
  go_ret;refine⟨?_,HB.i _⟩;clear HB;simp_all[vW]
def LQ(l:List Vp)(a:fD)(p q:Int):Int:=match sQ l a p q with|some i=>(i:Nat)|none=>-1
theorem akv(l:List Vp)(a:fD)(p q:Int)(ba bp bq:Nat)(A:Option aV)(n c:Nat)(w:ak)(hR:RdV w w.a.j A n l)(hn:n<=100000)(ha:dP w ba a.ay)(hp:dP w bp #[.b .a p])(hq:dP w bq #[.b .a q]):
 aR ah 203 #[.a A n c,.func (.func 204) #[] #[.c (some ⟨ba,0,none⟩),.c (some ⟨bp,0,none⟩),.c (some ⟨bq,0,none⟩)]] w (gY w (.b .a (LQ l a p q))):=by
 have hen:=aku;have HR:=ab hR;have HN:=ab hR.1;have PR:=ab (fun x W (h:aM w.a.j w W)=>agL x a p q ba bp bq W (ha.go h) (hp.go h) (hq.go h));clear hR ha hp hq;go_enter Tryz.func203,Tryz.ntmps203;go_wp2;go_loopw [8] (fun s8 wr=>∃i:Nat,i<=n/\s8=.b .a i/\(∀k,k<i->vW a p q (l.b k mJ)=false)/\aM w.a.j w wr) (fun s8 _=>n-(intOf s8).e)
 case atStart=>exact⟨0,by omega,rfl,fun k hk=>by omega,aG _ _⟩
 case round=>
  obtain⟨i,hin,rfl,hno,hb⟩:=hrel;have Ez:=ab hno;have HB:=ab hb;clear hno hb;by_cases hlt:i<n
  ·have hi:(i:Int)<n:=by omega
   obtain⟨b,o,rfl,hbb,hh,hcl⟩:=iT.dW Vp.J mJ ((HR.i.Y HB.i).lD HB.i.j) hlt;obtain⟨x,hx⟩:=cB (l.b i mJ);rw[<-hx]at hcl;have HX:=ab hx;have CP:=ab (PR.i x _ HB.i);clear hx hbb;cases hq:vW a p q x
   ·have HQ:=ab hq
    rw[hq]at CP;clear hq;go_wp2_with (go_at_call 204;(with_reducible refine CP.i.g ?_);rintro e w1 ⟨rfl,hb1⟩;clear hh hcl;have HB1:=ab hb1;clear hb1);go_roundw
    case rel=>exact⟨i+1,by omega,by go_num,fun k hk=>by
     by_cases hki:k=i
     ·rw[hki,<-HX.i];exact HQ.i
     ·exact Ez.i k (by omega),jD HB.i HB1.i⟩
    case measure=>simp[intOf]<;>omega
   ·have Mi:=ab (show sQ l a p q=some i from fT.2 ⟨by rw[HN.i];exact hlt,by
      have:=hq;rw[HX.i,au,aC (by rw[HN.i];exact hlt)]at this;exact this,fun j hj=>by
      have:=Ez.i j hj;rw[au,aC (by rw[HN.i];omega)]at this;simpa using this⟩)
    rw[hq]at CP;clear hq;go_wp2_with (go_at_call 204;(with_reducible refine CP.i.g ?_);rintro e w1 ⟨rfl,hb1⟩;clear hh hcl;have HB1:=ab hb1;clear hb1);go_ret;exact⟨by unfold LQ;rw[Mi.i];rfl,jD HB.i HB1.i⟩
  ·obtain rfl:i=n:=by omega
   have Mi:=ab (show sQ l a p q=none from sI.2 fun x hx=>by
    obtain⟨j,hj,rfl⟩:=kM hx;have:=Ez.i j (by rw[<-HN.i];exact hj);rw[au,aC hj]at this;exact this)
   have hd:decide ((i:Int)<i)=false:=by simp
   go_wp2;go_ret;exact⟨by unfold LQ;rw[Mi.i];rfl,HB.i⟩
def XM(l:List Vp)(a:fD)(p q:Int):Vp×Bool:=match sQ l a p q with|some i=>(l.b i mJ,true)|none=>(mJ,false)
theorem akw{l:List Vp}{a:fD}{p q:Int}{i:Nat}(h:sQ l a p q=some i):i<l.a:=(fT.1 h).1
theorem Ro(x:Cn)(l:List Vp)(a:fD)(p q:Int)(w:ak)(hR:RdV w w.a.j x.qF x.gT l)(hn:x.gT<=100000):
 aR ah 135 #[.d x.ay,.d a.ay,.b .a p,.b .a q] w (gY w (.K #[.d (XM l a p q).1.ay,.e (XM l a p q).2])):=by
 have h0:=((((Bx.start w).new x.ay 29).new a.ay 27).new #[.b .a p] 3).new #[.b .a q] 3;have h1:=h0.new mJ.ay 98;simp only[pV]at h1;have Z:=ab h1;have HR:=ab (h1.rdR hR);have HN:=ab hR.1;clear h0 h1 hR;go_enter Tryz.func135,Tryz.ntmps135;go_upto_region 1 with fail
 generalize(((((w.alloc (.D x.ay 29)).alloc (.D a.ay 27)).alloc (.D #[.b .a p] 3)).alloc (.D #[.b .a q] 3)).alloc (.D mJ.ay 98))=w5 at Z HR ⊢;obtain⟨y1,y2,y3,y4⟩:=Z.i.TS.b3.R;have CI:=ab (akv l a p q _ _ _ x.qF x.gT x.qX w5 HR.i hn Z.i.b3 Z.i.b2 Z.i.b1);have MZ:=ab (show∀r∈[(w.a.j+1+1+1,#[aI .a q]),(w.a.j+1+1,#[aI .a p]),(w.a.j+1,a.ay),(w.a.j,x.ay)],r.1≠w.a.j+1+1+1+1 from fun r hr=>by
  simp only[bD,gu,or_false]at hr;rcases hr with rfl|rfl|rfl|rfl<;>simp only[]<;>omega)
 have HP:=ab (show LQ l a p q=match sQ l a p q with|some i=>(i:Nat)|none=>-1 from rfl);have HV:=ab (show XM l a p q=match sQ l a p q with|some i=>(l.b i mJ,true)|none=>(mJ,false)from rfl);cases hf:sQ l a p q with
 | none=>
   rw[hf]at HP HV;rw[HP.i]at CI;simp only at CI;clear hf;go_wp2_with (go_at_call 203;(with_reducible refine CI.i.g ?_);rintro e w6 ⟨rfl,hb⟩;have Z6:=ab (Z.i.go hb);have zS:=Z6.i.Z.S 0 20 (aU (Vp.J mJ).symm);clear hb);refine aO (kVp.rb rfl _ rfl (b:=w.a.j+1+1+1+1) (c:=mJ.ay) (Z6.i.put MZ.i mJ.ay rfl).Z (Vp.J _)) rfl ?_;rw[HV.i];exact⟨rfl,(Z6.i.put MZ.i mJ.ay rfl).X⟩
 | some i=>
   have hi:=akw hf;rw[HN.i]at hi;rw[hf]at HP HV;rw[HP.i]at CI;simp only at CI;clear hf;have hi2:(i:Int)<x.gT:=by omega
   obtain⟨b,o,hA,hbb,hh,hcl⟩:=iT.dW Vp.J mJ HR.i hi;rw[hA]at HR CI;go_wp2_with (go_at_call 203;(with_reducible refine CI.i.g ?_);rintro e w6 ⟨rfl,hb⟩;have Z6:=ab (Z.i.go hb);have zS:=Z6.i.Z.S 0 20 (aU (Vp.J mJ).symm);have HR6:=ab (HR.i.go hb);clear hb;clear y1 y2 y3 y4 hh hcl;obtain⟨y1,y2,y3,y4⟩:=Z6.i.TS.b3.R;obtain⟨b',o',hA',aLf,hh,hcl⟩:=iT.dW Vp.J mJ HR6.i hi;cases hA');refine aO (kVp.rb rfl _ rfl (b:=w.a.j+1+1+1+1) (c:=(l.b i mJ).ay) (Z6.i.put MZ.i (l.b i mJ).ay (by rw[Vp.J,Vp.J])).Z (Vp.J _)) rfl ?_;rw[HV.i];exact⟨rfl,(Z6.i.put MZ.i (l.b i mJ).ay (by rw[Vp.J,Vp.J])).X⟩
theorem ark{l:List Vp}{a:fD}{p q:Int}:(XM l a p q).2=l.any (vW a p q):=by
 unfold XM sQ;cases h:l.findIdx? (vW a p q)with
 | none=>
   simp only;symm;rw[qL];exact fun x hx=>by simpa using sI.1 h x hx
 | some i=>
   simp only;symm;obtain⟨h1,h2,_⟩:=fT.1 h;exact uH.2 ⟨_,eZ h1,h2⟩
def WT(A:Option aV)(n c:Nat):Cn:=⟨A,n,c,0,0,bG 6 0,0,0,bG 6 0,nQ,nQ,0,0,0⟩
@[go_sem]theorem axp(W:ak)(A:Option aV)(n c:Nat):(vK 29 #[(0,.a A n c)]).O ah W=.ok (.d (WT A n c).ay) W:=
 VO.bd W _ _ _ _ nO (aut W _ nO) (by
  unfold Qk Cn.ay;rw[pI 0 0 _ _ _ _ rfl rfl (by simp)];simp[fJ,WT])
theorem iT.azW{α:Type}{f:α->Array aB}{s:Nat}(hs:∀x,(f x).j=s){w:ak}{B n:Nat}{A:Option aV}{l:List α}(h:iT f s w B A n l){i:Nat}(hi:i<=n):iT f s w B A i (l.E i):=by
 obtain⟨h1,h2,h3⟩:=h;refine⟨by simp;omega,⟨?_,fun hp=>?_⟩,fun a ha h0=>h3 a ha (by omega)⟩
 ·rw[alk f s hs,bE,h1,Nat.min_eq_left hi]
 ·obtain⟨a,ha,hb,hc⟩:=h2.2 (by omega)
  refine⟨a,ha,hb,fun j v hv=>hc j v ?_⟩;rw[<-iQ i l,uD];rw[List.getElem?_append_left (by
   rcases aZ j ((l.E i).d fun x=>(f x).a).a with h|h
   ·exact h
   ·rw[aT h]at hv;cases hv)]
  exact hv
theorem akx{x:Vp}{W:ak}{b:Nat}(h:dP W b x.ay):(sw (.c (some ⟨b,0,none⟩))).O ah W=.ok (.d x.h.ay) W:=by
 have hs:eU x.ay=20:=Vp.J x;rw[Nc W b 0 (of_eq_true (h.R.2.2.1 0 17 (by omega))),h.R.2.2.2 0 17 (by omega),Vp.Cg]
theorem Zp(l:List Vp)(n:Nat)(hl:l.a=n):(zY l=true↔n<=64/\∀i,i<n->EF l i=true):=by
 unfold zY;subst hl;simp
theorem anU(l:List Vp)(A:Option aV)(n c:Nat)(w:ak)(hR:RdV w w.a.j A n l)(hnc:n<=c)(hn:n<=100000):
 aR ah 108 #[.a A n c] w (gY w (.e (zY l))):=by
 have HR:=ab hR;have HN:=ab hR.1;have HS:=ab (Zp l n hR.1);clear hR;go_enter Tryz.func108,Tryz.ntmps108;by_cases h64:64<n
 ·have q:decide ((64:Int)<n)=true:=by simp;omega
  have HF:=ab (show zY l=false by cases h:zY l;rfl;have:=(HS.i.1 h).1;omega);go_wp2;go_ret;exact⟨by rw[HF.i];rfl,aG _ _⟩
 have q:decide ((64:Int)<n)=false:=by simp;omega
 go_wp2;go_loopw [12] (fun s12 wr=>∃i:Nat,i<=n/\s12=.b .a i/\(∀k,k<i->EF l k=true)/\aM w.a.j w wr) (fun s12 _=>n-(intOf s12).e)
 case atStart=>exact⟨0,by omega,rfl,fun k hk=>by omega,aG _ _⟩
 case round=>
  obtain⟨i,hin,rfl,hok,hb⟩:=hrel;have Ez:=ab hok;have HB:=ab hb;clear hok hb;by_cases hlt:i<n
  ·have hi:(i:Int)<n:=by omega
   have hic:(i:Int)<=c:=by omega
   obtain⟨b,o,hA,hbb,hh,hcl⟩:=iT.dW Vp.J mJ ((HR.i.Y HB.i).lD HB.i.j) hlt;subst hA;obtain⟨x,hx⟩:=cB (l.b i mJ);rw[<-hx]at hcl;have HX:=ab (show EF l i=(adG x && !(XM (l.E i) x.h x.aN x.ni).2)by unfold EF;rw[<-hx,ark]);clear hx;have Z1:=ab ((Bx.start wr).new x.ay 98);have HPC:=ab (HR.i.go HB.i);go_upto_region 6 with fail
   clear hh hcl;generalize wr.alloc (.D x.ay 98)=w2 at Z1 ⊢;obtain⟨y1,y2,y3,y4⟩:=Z1.i.Z.R;have CS:=ab (LP x.h w2);have ZG:=ab (fun w' (hb:aM w2.a.j w2 w')=>Z1.i.go hb);have HV:=ab (show adG x=(rz x.h&&(x.aN==6||x.aN==17)&&JV x.ni 1 65535)from rfl);cases hv:adG x
   ·
    have KX:=ab (show zY l=false by
     cases h:zY l;rfl;have:=(HS.i.1 h).2 i hlt;rw[HX.i,hv]at this;simp at this)
    rw[hv]at HV;have HZ:=ab HV.i.symm;clear hv HV HX;cases h1:rz x.h
    ·rw[h1]at CS
     go_upto_if 36 with(first|(go_at_call 110;(with_reducible refine CS.i.g ?_);rintro e w3 ⟨rfl,hb⟩;have Z3:=ab (ZG.i _ hb);clear y1 y2 y3 y4;obtain⟨y1,y2,y3,y4⟩:=Z3.i.Z.R;clear hb)|(go_at_call 109;(with_reducible refine(zK _ _ _ _).g ?_);rintro e w4 ⟨rfl,rfl⟩))
     go_wp2;go_ret;exact⟨by rw[KX.i];rfl,jD HB.i Z3.i.X⟩
    ·rw[h1]at CS HZ
     have HZ2:=ab (show((x.aN==6||x.aN==17)&&JV x.ni 1 65535)=false by have:=HZ.i;simpa using this);cases h2:(x.aN==6)<;>cases h3:(x.aN==17)<;>cases h4:JV x.ni 1 65535
     all_goals
      rw[h2,h3,h4]at HZ2
      first
       | (exact absurd HZ2.i (by decide))
       | (have h2':(x.aN != 6) = !(x.aN==6):=rfl
          have h3':(x.aN != 17) = !(x.aN==17):=rfl;rw[h2]at h2';rw[h3]at h3';have CW:=ab (fun W=>zK x.ni 1 65535 W);rw[h4]at CW;go_wp2_with (first|(go_at_call 110;(with_reducible refine CS.i.g ?_);rintro e w3 ⟨rfl,hb⟩;have Z3:=ab (ZG.i _ hb);clear y1 y2 y3 y4;obtain⟨y1,y2,y3,y4⟩:=Z3.i.Z.R;clear hb)|(go_at_call 109;(with_reducible refine(CW.i _).g ?_);rintro e w4 ⟨rfl,rfl⟩));go_ret;exact⟨by rw[KX.i];rfl,jD HB.i Z3.i.X⟩)
   ·rw[hv]at HV HX
    have HZ:=ab HV.i.symm;have HXX:=ab HX.i;clear hv HV HX;have h1:rz x.h=true:=by have:=HZ.i;simp at this;exact this.1.1
    have h4:JV x.ni 1 65535=true:=by have:=HZ.i;simp at this;exact this.2
    have h23:(x.aN==6||x.aN==17)=true:=by have:=HZ.i;simp at this;simpa using this.1.2
    have CW:=ab (fun W=>zK x.ni 1 65535 W);rw[h4]at CW;rw[h1]at CS;clear h1 h4;cases h2:(x.aN==6)<;>cases h3:(x.aN==17)
    all_goals
     rw[h2,h3]at h23
     first
      | (exact absurd h23 (by decide))
      | skip
    all_goals
     clear h23;have h2':(x.aN != 6) = !(x.aN==6):=rfl;have h3':(x.aN != 17) = !(x.aN==17):=rfl;rw[h2]at h2';rw[h3]at h3';go_upto_region 8 with(first|(go_at_call 110;(with_reducible refine CS.i.g ?_);rintro e w3 ⟨rfl,hb⟩;have Z3:=ab (ZG.i _ hb);clear y1 y2 y3 y4;obtain⟨y1,y2,y3,y4⟩:=Z3.i.Z.R;clear hb)|(go_at_call 109;(with_reducible refine(CW.i _).g ?_);rintro e w4 ⟨rfl,rfl⟩))
     clear h2 h3 h2' h3' y1 y2 y3 y4;have F4:=ab (fun(w':ak) (h:Bx [(wr.a.j,x.ay)] wr w')=>show w'.b ⟨wr.a.j,17,none⟩=some (.b .a x.aN)/\w'.b ⟨wr.a.j,18,none⟩=some (.b .a x.ni)/\(sw (.c (some ⟨wr.a.j,0,none⟩))).O ah w'=.ok (.d x.h.ay) w' from⟨(h.Z.R.1 17).trans (Vp.xJ _),(h.Z.R.1 18).trans (Vp.GX _),akx h.Z⟩);have CV:=ab (fun(w':ak) (h:Bx [(wr.a.j,x.ay)] wr w')=>Ro (WT (some ⟨b,o,none⟩) i c) (l.E i) x.h x.aN x.ni w' ((HPC.i.go h.X).azW Vp.J (by show i<=n;omega)) (by show i<=100000;omega));obtain⟨r,hr⟩:=cB (XM (l.E i) x.h x.aN x.ni);rw[<-hr]at CV HXX;clear hr;refine yw (Bx.abg ([(wr.a.j,x.ay)]) wr) 14 15 13 5 50 98 mJ.ay (by kernel_rfl) rfl rfl rfl rfl rfl (by kernel_rfl) (by kernel_rfl) (by kernel_rfl) (by kernel_rfl) (by kernel_rfl) rfl rfl rfl (fun a w=>by simp[go_sem]) (uL rfl) Z3.i.drew ?_;apply sJ;refine⟨fun T f hT es ew=>?_,?_⟩
     ·have EW:=ab ew
      have ES:=ab es;have k1:=fun m=>(F4.i _ (ES.i m)).1
      have k2:=fun m=>(F4.i _ (ES.i m)).2.1
      have k3:=fun m=>(F4.i _ (ES.i m)).2.2
      have CF:=ab (fun m=>CV.i _ (ES.i m));clear es ew;simp only[nI,zC,lI,bH,bQ,jV,kC]
      repeat(go_big_quiet_step ((first|(go_at_call 135;(with_reducible refine(CF.i _).g ?_);rintro e w2 ⟨rfl,hb⟩;exact⟨rfl,EW.i _ _ hb⟩))))
      exact iw rfl
     ·intro w9 w8 Bg _ hb
      have ZN:=ab ((Bg.new mJ.ay 98).go hb);have hyy:=ab Bg;have hy:=Bg.X.j;have hyv:=ab (fun p (hp:p∈[(wr.a.j,x.ay)])=>((Bg.2 p hp).2.lt:p.1<w9.a.j));generalize w9.a.j=y at *;clear hb Bg;have zS:=ZN.i.Z.S 0 20 (aU (Vp.J mJ).symm);refine⟨gV w8 y 0 r.1.ay,?_,?_⟩
      ·simp[go_sem,zS]
      simp only[Act.put,bI,bH,bQ,jW,lN];have Z5:=ab (ZN.i.put (fun p hp=>iO (hyv.i p hp)) r.1.ay (by rw[Vp.J,Vp.J]));clear zS ZN hyy hyv;generalize gV w8 y 0 r.1.ay=w9 at Z5 ⊢;go_step;go_step;go_step;cases hq:r.2
      ·rw[hq]at HXX
       have HYY:=ab (show EF l i=true by rw[HXX.i];rfl);go_wp2;go_roundw
       case rel=>exact⟨i+1,by omega,by go_num,fun k hk=>by
   by_cases hki:k=i
   ·rw[hki];exact HYY.i
   ·exact Ez.i k (by omega),jD HB.i Z5.i.X⟩
       case measure=>simp[intOf]<;>omega
      ·rw[hq]at HXX
       have KX:=ab (show zY l=false by
   cases h:zY l;rfl;have:=(HS.i.1 h).2 i hlt;rw[HXX.i]at this;simp at this)
       go_wp2;go_ret;exact⟨by rw[KX.i];rfl,jD HB.i Z5.i.X⟩
  ·obtain rfl:i=n:=by omega
   have hd:decide ((i:Int)<i)=false:=by simp
   have HF:=ab (HS.i.2 ⟨by omega,Ez.i⟩);go_wp2;go_ret;exact⟨by rw[HF.i];rfl,HB.i⟩
end
def Dx(v:Vector Int 6)(k:Nat):Bool:=JV (v.a.b k 0) 0 1000000 && !(k==0&&v.a.b k 0 != 0)
theorem WU(v:Vector Int 6):Dm v=true↔∀k,k<6->Dx v k=true:=by
 unfold Dm Dx JV;simp only[bf,List.all_eq_true,List.mem_range,beq_iff_eq,decide_eq_true_eq,Bool.not_eq_true',Bool.and_eq_false_imp,bne_eq_false_iff_eq];constructor
 ·intro h k hk
  exact⟨h.2 k hk,fun e=>by rw[e];exact h.1⟩
 ·intro h
  exact⟨(h 0 (by omega)).2 rfl,fun k hk=>(h k hk).1⟩
def WV(v:aB):yA aB:=dw 24 v
@[go_sem ↓]theorem axr(v:aB):dw 24 v=WV v:=rfl
@[go_sem]theorem arl(W:ak)(b o:Nat)(h:yE W b o 6):(WV (.c (some ⟨b,o,none⟩))).O ah W=.ok (.d (eH W b o 6)) W:=
 kH W b o 6 _ _ Tryz.underlying24 rfl (by kernel_rfl) h
def avH(v i:aB):yA aB:=Instr.index 24 v i
@[go_sem ↓]theorem aBQ(v i:aB):Instr.index 24 v i=avH v i:=rfl
theorem WX(v:Vector Int 6)(i:Nat)(hi:i<6)(W:ak):(avH (.d (K9 v)) (.b .a (i:Nat))).O ah W=.ok (.b .a (v.a.b i 0)) W:=by
 have hp:=ng (P:=ah) (e:=3) (by simp only[Tryz.underlying3]) (aas v i hi) W;obtain⟨i0,hi0,hs⟩:∃i0,ah.l 3=some i0/\i0.j=1:=by
  cases h:ah.l 3 with
  | none=>exact absurd h (by have:(ah.l 3).isSome=true:=by kernel_rfl
                             intro e;rw[e]at this;cases this)
  | some i0=>
    have h1:(ah.l 3).map (·.j)=some 1:=by kernel_rfl
    rw[h]at h1;exact⟨i0,rfl,by simpa using h1⟩
 have h1:(0:Int)<=(i:Int)/\(i:Int)<((6:Nat):Int):=by omega
 have hsz:=run_sizeOf (P:=ah) W hi0;have hc1:ah.cellsOf 3=1:=by simp[Program.cellsOf,hi0,hs]
 rw[hc1]at hsz;simp only[avH,Instr.index,asIntOf,jS,oU,gW,dK Tryz.underlying24,h1,and_self,if_true,hsz,cK,gP,hp]
theorem anV{n:Int}{i:Nat}(h:n<0\/1000000<n\/(i=0/\n≠0)):(JV n 0 1000000 && !(i==0&&n != 0))=false:=by
 rcases h with h|h|⟨rfl,h⟩
 ·have:JV n 0 1000000=false:=by unfold JV;rw[decide_eq_false (by omega)];rfl
  rw[this];rfl
 ·have:JV n 0 1000000=false:=by unfold JV;rw[decide_eq_false (p:=n<=1000000) (by omega)];simp
  rw[this];rfl
 ·simp[h]
theorem ain(x:Cn)(l:List Vp):zA x l=(Dm x.kK&&zY l&&(JV x.j 2 65537&&mh x.j.e)&&JV x.dV 1 4096&&JV x.kI 1 100&&JV x.fall 1 100&&(!x.Dl.h&&rz x.Dl)&&x.h.h&&JV x.aa1 1000 1048576&&JV x.keep 1 100&&JV x.VL 1 1000):=by
 unfold zA JV;rfl
@[go_sem]theorem Cn.aHQ(x:Cn):x.ay[17]? = some (.e x.Dl.h):=by simp[Cn.ay,aD,fD.J,gH,jR];rfl
@[go_sem]theorem Cn.aHR(x:Cn):x.ay[34]? = some (.e x.h.h):=by simp[Cn.ay,aD,fD.J,gH,jR];rfl
theorem XO(x:Cn)(l:List Vp)(w:ak)(hR:RdV w w.a.j x.qF x.gT l)(hnc:x.gT<=x.qX)(hn:x.gT<=100000):
 aR ah 44 #[.d x.ay] w (gY w (.e (zA x l))):=by
 have Z:=ab ((Bx.start w).new x.ay 29);have HR:=ab (Z.i.rdR hR);have HO:=ab (ain x l);have HI:=ab (WU x.kK);have RI:=ab (WX x.kK);clear hR;go_enter Tryz.func44,Tryz.ntmps44;go_upto_region 1 with fail
 generalize w.alloc (.D x.ay 29)=w2 at *;obtain⟨y1,y2,y3,y4⟩:=Z.i.Z.R;go_wp2;go_loop [7] (fun s7=>∃i:Nat,i<=6/\s7=.b .a i/\(∀k,k<i->Dx x.kK k=true)) (fun s7=>6-(intOf s7).e)
 case atStart=>exact⟨0,by omega,rfl,fun k hk=>by omega⟩
 case round=>
  obtain⟨i,hi,rfl,hok⟩:=hrel;have Ez:=ab hok;clear hok;by_cases hlt:i<6
  ·have hi2:(i:Int)<6:=by omega
   have ri:=RI.i i hlt;obtain⟨n,hnn⟩:=cB (x.kK.a.b i 0);have HA:=ab (show Dx x.kK i=(JV n 0 1000000 && !(i==0&&n != 0))by unfold Dx;rw[<-hnn]);rw[<-hnn]at ri;clear hnn;have NOI:=ab (show Dx x.kK i=false->zA x l=false from fun h=>by
    have h2:Dm x.kK=false:=by
     cases hh:Dm x.kK;rfl;have:=HI.i.1 hh i hlt;rw[h]at this;cases this
    rw[HO.i,h2];rfl)
   clear y1 y2 y3 y4 HI RI HO HR;go_wp2
   all_goals
    first
    | (go_ret
       refine⟨?_,Z.i.X⟩;rw[NOI.i (HA.i.trans (anV ?_))]
       ·rfl
       ·by_cases g1:n<0
        ·exact .b g1
        ·by_cases g2:1000000<n
         ·exact .a (.b g2)
         ·refine .a (.a ⟨by omega,?_⟩)
          intro e;simp_all)
    | (go_round
       case rel=>exact⟨i+1,by omega,by go_num,fun k hk=>by
        by_cases hki:k=i
        ·rw[hki,HA.i];simp[JV];simp_all
        ·exact Ez.i k (by omega)⟩
       case measure=>simp[intOf]<;>omega)
  ·obtain rfl:i=6:=by omega
   have HID:=ab (show Dm x.kK=true from HI.i.2 Ez.i);rw[HID.i,BF]at HO;have VP:=ab (anU l x.qF x.gT x.qX w2 HR.i hnc hn);have ZG:=ab (fun w' (hb:aM w2.a.j w2 w')=>Z.i.go hb);have CW:=ab zK;have CS:=ab (fun W=>LP x.Dl W);obtain⟨vl,hvl⟩:∃b,zY l=b:=⟨_,rfl⟩
   obtain⟨sf,hsf⟩:∃b,rz x.Dl=b:=⟨_,rfl⟩
   rw[hvl]at VP HO;rw[hsf]at CS HO;clear hvl hsf hi hlt HI RI Ez HID HR;cases hsz:JV x.j 2 65537
   ·rw[hsz,Ej,Bool.and_false]at HO
    simp only[Ej]at HO;go_wp2_with (first|(go_at_call 108;(with_reducible refine VP.i.g ?_);rintro e w3 ⟨rfl,hb⟩;have Z3:=ab (ZG.i _ hb);clear y1 y2 y3 y4;obtain⟨y1,y2,y3,y4⟩:=Z3.i.Z.R;clear hb)|(go_at_call 109;(with_reducible refine(CW.i _ _ _ _).g ?_);rintro e w4 ⟨rfl,rfl⟩))
    all_goals
     go_ret;exact⟨by rw[HO.i];rfl,Z3.i.X⟩
   ·have PR:=ab (show∀W,aR ah 81 #[.b .a x.j] W fun e W'=>e=.a (.e (mh x.j.e))/\W=W' from fun W=>by
     have h1:2<=x.j/\x.j<=65537:=by unfold JV at hsz;simpa using hsz
     have:=Ym (W:=W) x.j.e (by omega)
     rwa [mg (by omega)]at this)
    obtain⟨pn,hpn⟩:∃b,mh x.j.e=b:=⟨_,rfl⟩
    rw[hsz,BF]at HO;simp only[hpn]at HO PR;clear hpn;go_wp2_with (first|(go_at_call 108;(with_reducible refine VP.i.g ?_);rintro e w3 ⟨rfl,hb⟩;have Z3:=ab (ZG.i _ hb);clear y1 y2 y3 y4;obtain⟨y1,y2,y3,y4⟩:=Z3.i.Z.R;clear hb)|(go_at_call 109;(with_reducible refine(CW.i _ _ _ _).g ?_);rintro e w4 ⟨rfl,rfl⟩)|(go_at_call 81;(with_reducible refine(PR.i _).g ?_);rintro e w5 ⟨rfl,rfl⟩)|(go_at_call 110;(with_reducible refine(CS.i _).g ?_);rintro e w6 ⟨rfl,hb⟩;have Z4:=ab (Z3.i.go hb);clear y1 y2 y3 y4;obtain⟨y1,y2,y3,y4⟩:=Z4.i.Z.R;clear hb))
    all_goals
     go_ret;refine⟨?_,by first|exact Z4.i.X|exact Z3.i.X⟩;rw[HO.i];clear HO VP PR CW CS ZG y1 y2 y3 y4;simp_all
section
open Go.RowKit Go.Shelf
attribute [local go_sem] qQ
variable {W W':ak} {q g:Nat} {key:Vector UInt8 16} {dV:Int} {s:List (Option Fw)} {l:List Fw}
def EK(now:Int)(kK:Vector Int 6)(l:List Fw):List Fw:=l.filter fun x=>EC x.yF x.seen now kK
def Hy(l:List Fw)(o:List Fw):List Fw:=o.foldl (fun l x=>yt l x.key) l
theorem Zq:∀(o l:List Fw),Hy l o=l.filter fun x=>!(o.any fun y=>uQ y.key x)
 | [],l=>by show l=_;exact(xY.2 (fun _ _=>rfl)).symm
 | y::o,l=>by
   have h:Hy l (y::o)=Hy (yt l y.key) o:=rfl;rw[h,Zq o,yt,List.filter_filter];apply Gj;intro x _;simp[List.any_cons,Bool.and_comm]
theorem abS{now:Int}{kK:Vector Int 6}{l o:List Fw}(hl:xI dV l)(ho:o.Perm (EK now kK l)):Hy l o=Mt now kK l:=by
 rw[Zq];unfold Mt;apply Gj;intro x hx;congr 1;have hm:∀y,y∈o↔y∈l/\EC y.yF y.seen now kK=true:=fun y=>by rw[ho.mem_iff];unfold EK;exact mY
 cases hc:EC x.yF x.seen now kK with
 | true=>rw[uH];exact⟨x,(hm x).2 ⟨hx,hc⟩,by simp[uQ]⟩
 | false=>
   rw[qL];intro y hy hk;obtain⟨h1,h2⟩:=(hm y).1 hy;have hk:x.key=y.key:=by simpa[uQ]using hk
   have e1:=hl.VI h1;have e2:=hl.VI hx;rw[hk]at e2;rw[e1]at e2;injection e2 with e2
   rw[e2,hc]at h2;cases h2
theorem Ci{F:List Nat}{base n size:Nat}{e:bL}{v:aB}{xs:List aB}(h:W.c base e size v n xs)(hf:jP F W W')(hn:∀k,v.f=some k->k∉F):W'.c base e size v n xs:=by
 refine⟨h.1,?_⟩;rcases h.2 with h0|⟨g,cap,cur,hv,hb,hg,hr⟩
 ·exact .b h0
 ·exact .a ⟨g,cap,cur,hv,hb,by rw[hf.block g (bY.1 hg).1 (hn g (by rw[hv];rfl))];exact hg,hr⟩
theorem anW{W:ak}{b:Nat}{v:Vector Int 6}(h:dP W b (K9 v)):(WV (.c (some ⟨b,0,none⟩))).O ah W=.ok (.d (K9 v)) W:=by
 have hs:eU (K9 v)=6:=jR v;rw[arl W b 0 (of_eq_true (h.R.2.2.1 0 6 (by omega))),h.R.2.2.2 0 6 (by omega)];have:(K9 v).m 0 6=K9 v:=by have:=jR v;rw[<-this];simp
 rw[bC,this]
def Zr(now:Int)(kK:Vector Int 6)(pre:List OkF):List Fw:=EK now kK (pre.map (·.1))
theorem ael(T:Lf W q g key dV s l)(now:Int)(kK:Vector Int 6):
 aR ah 75 #[.c (some ⟨q,0,none⟩),.b .a now,.d (K9 kK)] W fun e w'=>(∃A c,e=.a (.a A (EK now kK l).a c))/\(∃s',Lf w' q g key dV s' (Mt now kK l)/\s'.a=s.a)/\jP [q,g] W w':=by
 refine(nL (n:=8)).1 ?_;have hs:=T.w.sz;have hlt:=T.w.lt;obtain⟨i0,hi,hz0,hz1,hzb⟩:=afR;have HT:=ab T;clear T;refine rR Tryz.func75 rfl trivial ?_ rfl;have hfn:∀f,nY.fn f:=fun _=>trivial
 simp only[Tryz.ntmps75,dN,bl,gU,kZ,lg,gL,gM,iX,gZ,dJ,gQ];gi_wp2_with (gi_at_call 132;refine(nL.2 (Qy q _)).g ?_;rintro e w' ⟨rfl,rfl⟩);have hw1:(W.alloc (.D #[.b .a now] 3)).a.j=W.a.j+1:=by simp
 have hw2:((W.alloc (.D #[.b .a now] 3)).alloc (.D (K9 kK) 24)).a.j=W.a.j+1+1:=by simp
 have hw3:(((W.alloc (.D #[.b .a now] 3)).alloc (.D (K9 kK) 24)).alloc (.D #[.a none 0 0] 34)).a.j=W.a.j+1+1+1:=by simp
 have Z4:=ab (((((Bx.start W).new #[.b .a now] 3).new (K9 kK) 24).new #[.a none 0 0] 34).new #[.c (some ⟨q,0,none⟩)] 121);have bO:=(Boxed.new ((W.alloc (.D #[.b .a now] 3)).alloc (.D (K9 kK) 24)) 34 (.a none 0 0)).alloc (.D #[.c (some ⟨q,0,none⟩)] 121);rw[hw3,hw2,hw1]at Z4;rw[hw2]at bO;have hs4:((((W.alloc (.D #[.b .a now] 3)).alloc (.D (K9 kK) 24)).alloc (.D #[.a none 0 0] 34)).alloc (.D #[.c (some ⟨q,0,none⟩)] 121)).a.j=W.a.j+1+1+1+1:=by simp
 generalize(((W.alloc (.D #[.b .a now] 3)).alloc (.D (K9 kK) 24)).alloc (.D #[.a none 0 0] 34)).alloc (.D #[.c (some ⟨q,0,none⟩)] 121)=W4 at Z4 hs4 bO ⊢;clear hw1 hw2 hw3;refine zO rfl (by omega) (gf:=202) (lb:=#[.c (some ⟨W.a.j+1+1+1,0,none⟩)]) rfl trivial (fun args w=>rfl)
  (LM nY 7 trivial rfl (by omega) (W.a.j+1+1+1) W.a.j W4 (by omega) (by omega) (Z4.i.Z.R.1 0) (HT.i.go Z4.i.X) hlt) (fun h k=>Below.trans h k) (wR (by omega)) (aG _ _) (fun _=>rfl)
  (fun(pre:List OkF) X=>((∃v,Boxed X (W.a.j+1+1) 34 v/\X.c (W.a.j+1+1) 86 41 v (Zr now kK pre).a ((Zr now kK pre).d fun x=>x.ay.a)/\True)/\dP X W.a.j #[.b .a now]/\dP X (W.a.j+1) (K9 kK))/\aM W.a.j W X)
  (fun _ _ _=>False)
  (OwnFrom.and (OwnFrom.and (Own.from (holdsRow_own (W.a.j+1+1) (W.a.j+1+1) 34 86 41 (fun pre:List OkF=>(Zr now kK pre).a) (fun pre:List OkF=>(Zr now kK pre).d fun x=>x.ay.a) (fun _ _=>True)) _) (fun s X Y row hs hg hr=>⟨Au _ _ () X Y row hs.1 hg (fun r e=>(hr r e).2),Au _ _ () X Y row hs.2 hg (fun r e=>(hr r e).2)⟩)) (zW (av _) (by omega)))
  (fun _ _ _ _ _ hs _ _=>hs)
  ⟨⟨⟨_,bO,fQ _ _ _ _,trivial⟩,Z4.i.b3,Z4.i.b2⟩,Z4.i.X⟩
  (fun x a' X=>∃Bq,W.a.j+1+1<Bq/\dP X Bq x.1.ay/\a'={tmps:=#[.c (some ⟨q,0,none⟩),.b .a now,.d (K9 kK),undef,.c (some ⟨W.a.j,0,none⟩),.c (some ⟨W.a.j+1,0,none⟩),.a none 0 0,.c (some ⟨W.a.j+1+1,0,none⟩),.c (some ⟨Bq,0,none⟩),undef,undef,.c (some ⟨q,0,none⟩),.func (.func 202) #[] #[.c (some ⟨W.a.j+1+1+1,0,none⟩)],.d x.1.ay,undef,undef,undef,undef,undef,undef,undef,undef,undef,undef,undef,undef,undef,undef,undef,undef,undef,undef,undef,undef,undef,undef,undef,undef,undef],defers:=[]})
  (fun x a' _ X Y row hs hg hr=>by obtain⟨Bq,h1,h2,h3⟩:=hs;exact⟨Bq,h1,Au Bq x.1.ay () X Y row h2 hg (fun r e=>(hr r e).2),h3⟩)
  ?assign ?body ?done ?stop
 case assign=>
  rintro q' pre x X K ⟨⟨⟨v,hv,hrow,_⟩,h1,h2⟩,hB⟩ hK;gi_wp2;refine hK _ _ ((KeepsOthers.alloc _ _).from _) ((aG _ X).alloc hB.j _) ⟨⟨⟨v,hv.alloc _,hrow.alloc _,trivial⟩,h1.alloc _,h2.alloc _⟩,hB.alloc hB.j _⟩ ⟨X.a.j,hv.lt,dP.new X _ _,rfl⟩
 case body=>
  rintro q' pre x a' X hq ⟨r,hr⟩ ⟨⟨⟨v,hv,hrow,_⟩,h1,h2⟩,hB⟩ ⟨Bq,hBq,bX,rfl⟩ hlt';have HSL:=ab (show(Zr now kK pre).a<=100000 by
   have e1:(Zr now kK pre).a<=pre.a:=by unfold Zr EK;exact aP (pK _ _) (by simp)
   omega)
  have Ew:=ab (show Zr now kK (pre++[x])=if EC x.1.yF x.1.seen now kK then Zr now kK pre++[x.1]else Zr now kK pre by
   unfold Zr EK;rw[jC,List.filter_append];simp only[kV,qm,List.filter_cons,List.filter_nil];split<;>simp)
  obtain⟨st,hst⟩:=cB (EC x.1.yF x.1.seen now kK);have CS:=ab (ai6 (s:=x.1.yF) (seen:=x.1.seen) (now:=now) (v:=kK) (W:=X));rw[<-hst]at CS Ew;have f38:=(bX.R.1 38).trans (Fw.afP x.1);have f39:=(bX.R.1 39).trans (Fw.afQ x.1);have f0:=h1.R.1 0;have l6:=anW h2;have HB:=ab hB;have H1:=ab h1;have H2:=ab h2;have HX:=ab bX;have HV:=ab hv;have HR:=ab hrow;clear hst hB h1 h2 bX hv hrow;cases st
  ·gi_wp2_with (gi_at_call 150;refine(IB q' (nL.2 CS.i)).g ?_;rintro e w1 ⟨rfl,hb⟩;have IC:=ab hb;clear hb)
   refine⟨Ga (jP.jF (F:=[]) IC.i) (by intro k hk;cases hk),(IC.i.g HB.i.j),⟨⟨v,Boxed.amB HV.i IC.i HV.i.lt,?_,trivial⟩,H1.i.go IC.i,H2.i.go IC.i⟩,HB.i.trans (IC.i.g HB.i.j)⟩;rw[show Zr now kK (pre++[x])=Zr now kK pre from Ew.i];exact jH HR.i IC.i
  ·have hby:((Zr now kK pre).a+1)*i0.bytes<=140737488355328:=aP (iq (show(Zr now kK pre).a+1<=100002 by have:=HSL.i;omega) hzb) (by omega)
   have HN1:=ab (show x.1.ay.a.a=1*41 by simp[Fw.J]);have HNC:=ab (fun(W:ak) (j:Nat) (u:aB) (hu:x.1.ay.a[j]? = some u)=>show(W.alloc (.D x.1.ay 86)).b ((⟨W.a.j,0,none⟩:aV).add j)=some u by
    rw[Addr.add_mid,bC,nK,<-Array.getElem?_toList];exact hu)
   have Ez:=ab (show∀u∈x.1.ay.a,u.h=true from fun u hu=>by have:=Fw.dx x.1;rw[Array.all_eq_true']at this;exact this u (by simpa using hu));gi_wp2_with (first
    | (gi_at_call 150;refine(IB q' (nL.2 CS.i)).g ?_;rintro e w1 ⟨rfl,hb⟩;have IC:=ab hb;have HV1:=ab (Boxed.amB HV.i hb HV.i.lt);have HR1:=ab (jH HR.i hb);have l1:=kU (HX.i.go hb);have c1:=HV1.i.cell;clear hb l6 f0 f38 f39)
    | (gi_at_builtin;go_loud (refine wpListIn_append_own _ rfl _ _ 34 rfl (W.a.j+1+1) 86 i0 (.d lu.ay) 41 i0.bytes Tryz.underlying34 hi hz0 hz1 rfl (by simp[dz,Fw.J]) (by decide) _ _ _ rfl (HR1.i.alloc _) ⟨w1.a.j,0,none⟩ 1 1 x.1.ay.a rfl HN1.i (HNC.i w1) Ez.i (by have:=HSL.i;unfold maxLen;omega) hby (by have:=HV1.i.lt;simp;omega) ?_;intro v' w2 hown' hgrow _;obtain⟨g',cap',rfl⟩:=ownsRow_succ hown';obtain⟨hv1,hv2,hr2,hk2,hb2⟩:=HV1.i.appended (by decide) HR1.i (by have:=HV1.i.lt;omega) (av _) hown' hgrow;have hc1:=hv1.cell;have hf1:=hv1.frozen)))
   refine⟨(Ga (jP.jF (F:=[]) IC.i) (by intro k hk;cases hk)).trans (hk2.from _),(IC.i.g HB.i.j).trans (hb2.g (by omega)),⟨⟨_,hv2,?_,trivial⟩,(H1.i.go IC.i).Y hb2 (by omega),(H2.i.go IC.i).Y hb2 (by omega)⟩,(HB.i.trans (IC.i.g HB.i.j)).trans (hb2.g (by omega))⟩;rw[show Zr now kK (pre++[x])=Zr now kK pre++[x.1]from Ew.i,aQ,uD];simpa using hr2
 case done=>
  rintro D ys X hD hS ⟨⟨⟨v,hv,hrow,_⟩,h1,h2⟩,hB⟩ hK;rename_i K0 KA TT;refine KA _ _ (wpIn_wide.2 ?_);have hO:(Zr now kK ys).Perm (EK now kK l):=by
   unfold Zr;rw[hS];exact HT.i.r.PW.filter _
  obtain⟨o,ho⟩:=cB (Zr now kK ys);rw[<-ho]at hO hrow;obtain⟨A,c,rfl,_⟩:=j3 hrow;have hB2:=hB;have T0:=ab (HT.i.go hB);have cV:=hv.cell;have HO:=ab hO;have HB:=ab hB;have HD:=ab hD;have HK:=ab hK;have HV:=ab hv;have Rx:=ab hrow;have HLO:=ab (show o.a<=100000 by
   have e1:=hO.t;have e2:(EK now kK l).a<=l.a:=pK _ _;have e3:=HT.i.r.PW.t;have e4:=FZ s;omega)
  obtain⟨m,hm⟩:=cB o.a;rw[<-hm]at Rx HV cV HLO;have HM:=ab hm;clear hO ho hD hK hv hrow hB hB2 h1 h2 hS hm KA K0 TT;have HOF:=ab (fun w2 (hf:jP [q,g] X w2)=>Ci Rx.i hf (fun b e=>by have:=(Rx.i.lt b e).1;simp;omega));have HVF:=ab (fun w2 (hf:jP [q,g] X w2)=>show Boxed w2 (W.a.j+1+1) 34 (.a A m c)from(hf.block _ HV.i.lt (by simp;omega)).trans HV.i);go_wp2_with fail;go_loopw [27] (fun v wr=>∃k:Nat,k<=m/\v=.b .a k/\(∃s',Lf wr q g key dV s' (Hy l (o.E k))/\s'.a=s.a)/\jP [q,g] X wr) (fun v _=>m-(intOf v).e)
  case atStart=>exact⟨0,jo _,rfl,⟨s,T0.i,rfl⟩,jP.refl _ _⟩
  case round=>
   obtain⟨k,hk,rfl,⟨s',hT,hsl⟩,hfr⟩:=hrel;by_cases hlt3:k<m
   ·have hki:(k:Int)<m:=by omega
    have i1:=jY ((k:Int)+1) (by have:=HLO.i;omega);have hR:=iT.jh (f:=Fw.ay) HM.i.symm (HOF.i wr hfr);obtain⟨b,o0,rfl,hbl,a1,a2⟩:=hR.dW Fw.J lu hlt3;obtain⟨y,hy⟩:=cB (o.b k lu);rw[<-hy]at a2;have hcut:Hy l (o.E (k+1))=yt (Hy l (o.E k)) y.key:=by
     rw[dU (by rw[<-HM.i];exact hlt3)];unfold Hy;rw[Af,hy,au,aC (by rw[<-HM.i];exact hlt3)];rfl
    have aET:=ab hcut;have BY:=dP.new wr y.ay 86;have lk:=pR BY;have hba:=(aG wr.a.j wr).alloc (av _) (.D y.ay 86);have CD:=ab (WS (hT.go hba) y.key);have HFR:=ab (hfr.Y hba hfr.j);have HSL:=ab hsl;clear hy hcut BY hba hT hfr hsl hR hbl;go_wp2_with (go_at_call 128;(with_reducible refine CD.i.g ?_);rintro e w2 ⟨rfl,⟨s2,T2,hs2⟩,F2⟩;have T3:=ab T2;have S3:=ab hs2;have F3:=ab F2;clear T2 hs2 F2 lk a1 a2);go_roundw
    case rel=>exact⟨k+1,by omega,by simp,⟨s2,by rw[aET.i];exact T3.i,by rw[S3.i,HSL.i]⟩,HFR.i.qy F3.i⟩
    case measure=>simp[intOf];omega
   ·obtain rfl:k=m:=by omega
    have hd:decide ((k:Int)<k)=false:=by simp
    have hfull:Hy l (o.E k)=Mt now kK l:=by
     rw[aK (by rw[<-HM.i];exact av _)];exact abS HT.i.ok HO.i
    rw[hfull]at hT;have cV2:=(HVF.i wr hfr).cell;have HBX:=ab (HVF.i wr hfr);have HOW:=ab (HOF.i wr hfr);have SF:=ab (LK (EK now kK l) o dV (HT.i.ok.sub List.filter_sublist) HO.i (by have:=HLO.i;have:=HM.i;omega) wr (W.a.j+1+1) A c (by rw[<-HM.i];exact HOW.i));rw[<-HM.i]at SF;have HTT:=ab hT;have HSS:=ab hsl;have HFR:=ab hfr;have HLS:=ab (show k=(EK now kK l).a by rw[HM.i];exact HO.i.t);clear hT hsl hfr hfull cV;go_wp2_with (go_at_call 151;(with_reducible refine SF.i.g ?_);rintro e w2 ⟨rfl,ho2,hg2⟩;have HG2:=ab hg2;have cV3:=(HBX.i.kept hg2 (HBX.i.not_row (by decide) HOW.i)).cell;clear ho2 hg2 cV2);have HDB:some D≠(bB A k c).f:=fun e=>by
     rcases Rx.i.2 with⟨h0,_⟩|⟨g',cap,cur,hv,_,hg,_⟩
     ·rw[h0]at e;cases e
     ·rw[hv]at e
      have e2:D=g':=by simpa[j6]using e
      rw[<-e2,HK.i]at hg;cases hg
    have hDX:D<X.a.j:=(bY.1 HK.i).1;have hXW:=HB.i.j;have hfs:=HFR.i.j;have hDq:D≠q/\D≠g:=by have:=HD.i;omega
    have HDK:=ab (show w2.a[D]? = some (.deferred (some []))from(HG2.i.block D (by omega) HDB).trans ((HFR.i.block D hDX (by simp;omega)).trans HK.i));have hbx:∀b c',dP wr b c'->b<W.a.j->dP w2 b c':=fun b c' h hb=>by
     obtain⟨t,ht⟩:=h;exact⟨t,(HG2.i.block b (by omega) (fun e=>by have:=(Rx.i.lt b e.symm).1;omega)).trans ht⟩
    have hPB:=wR (w:=W) (av _) w2 D;refine⟨by simp,.b ⟨_,_,rfl,vC HDK.i,?_⟩⟩;refine⟨_,results_tmp rfl _ _ _,⟨A,c,by rw[<-HLS.i];rfl⟩,⟨s',⟨⟨WQ (hbx _ _ HTT.i.w.tb hlt.1) HDK.i _,WQ (hbx _ _ HTT.i.w.sl hlt.2) HDK.i _,HTT.i.w.ne,HTT.i.w.sz⟩,HTT.i.r,HTT.i.ok⟩,HSS.i⟩,?_⟩;have F1:jP [q,g] W wr:=(jP.jF HB.i).qy HFR.i;have F2:jP [q,g] W w2:=F1.grown HG2.i (fun b e=>.a (by have:=(Rx.i.lt b e).1;omega));exact F2.Y (hPB _ _ (by have:=HD.i;omega) HDK.i rfl rfl) (av _)
 case stop=>
  rintro D c pre X _ _ h _;exact h.elim
end
theorem abT{g n:Nat}{q:List Nat}{ch ch':Nat->Nat->Nat}{m:Mg}{i:Nat}(h:ch i=ch' i):tT g n q ch m i=tT g n q ch' m i:=by
 unfold tT;rw[h]
theorem aem{n:Nat}{q:List Nat}{ch ch':Nat->Nat->Nat}(hq:q≠[])(h:∀i,i<q.a->ch i=ch' i):Fz n q ch=Fz n q ch':=by
 have:∀j,xA (mF q) n q ch j=xA (mF q) n q ch' j:=by
  intro j
  induction j with
  | zero=>rfl
  | succ j ih=>
    unfold xA;rw[ih,abT (h _ (fP _ (List.length_pos_iff.2 hq)))]
 unfold Fz;rw[this]
def aky(key:Vector UInt8 16)(n:Nat)(x:pW):Tr:=⟨x.q,0,(D8 key x.F n:Nat),(BR key x.F n:Nat),0⟩
theorem qv{α β:Type}(f:α->β)(l:List α)(i:Nat)(d:β)(e:α)(hi:i<l.a):(l.map f).b i d=f (l.b i e):=by
 rw[au,au,List.getElem?_map,aC hi];rfl
theorem akz(key:Vector UInt8 16)(n:Nat)(r:List pW)(hr:r≠[])(h0:∀x∈r,0<x.q):
 FiL (mF (r.map fun x=>x.q.e)) n (r.map fun x=>x.q.e) (r.map fun x=>D8 key x.F n) (r.map fun x=>BR key x.F n) ⟨(r.map fun x=>x.q.e).map fun _=>0,dY n (-1),n⟩ (r.map (aky key n)):=by
 refine⟨by simp,by simp,fun i hi=>?_⟩;rw[bW]at hi;have hm:r.b i lT∈r:=by rw[au,aC hi];exact eZ _
 have hx:=h0 _ hm;rw[qv (aky key n) r i Aq lT hi,qv _ r i 0 lT hi,qv _ r i 0 lT hi,qv _ r i 0 lT hi];have hz:((r.map fun x=>x.q.e).map fun _=>0).b i 0=0:=by
  rw[qv _ _ i 0 0 (by simpa using hi)]
 refine⟨?_,rfl,rfl,?_,?_,0,rfl,jo _,fun t ht=>absurd ht (Nat.not_lt_zero _)⟩
 ·show(r.b i lT).q=_
  omega
 ·show(0:Int)=_
  rw[hz];rfl
 ·show((r.map fun x=>x.q.e).map fun _=>0).b i 0<_
  rw[hz];obtain⟨j,hj,e⟩:=Ea (q:=r.map fun x=>x.q.e) (by simpa using hr) (by
   intro y hy;obtain⟨x,hx2,rfl⟩:=jf.1 hy;have:=h0 x hx2;omega)
  rw[<-e];rw[bW]at hj;rw[qv _ r j 0 lT hj];have hm2:r.b j lT∈r:=by rw[au,aC hj];exact eZ _
  have:=h0 _ hm2;omega
def zL(l:List pW):List pW:=l.filter fun x=>decide (x.q≠0)
theorem agM{l:List pW}{k:Nat}{x:pW}(hx:x=l.b k lT)(hk:k<l.a):zL (l.E (k+1))=zL (l.E k)++(if x.q=0 then []else [x]):=by
 have e:l.E (k+1)=l.E k++[x]:=by rw[hx];exact(pE lT l k hk).symm
 rw[e];unfold zL;rw[List.filter_append];congr 1;by_cases h:x.q=0
 ·rw[if_pos h,List.filter_cons_of_neg (by simp[h])];rfl
 ·rw[if_neg h,List.filter_cons_of_pos (by simp[h])];rfl
theorem aen(key:Vector UInt8 16)(n:Nat)(l:List pW)(h:zL l≠[]):uZ key n l=⟨(zL l).map (·.F),Fz n ((zL l).map fun x=>x.q.e) (IK ((zL l).map fun x=>D8 key x.F n) ((zL l).map fun x=>BR key x.F n) n)⟩:=by
 unfold uZ;simp only;rw[if_neg (show¬(l.filter fun x=>decide (x.q≠0))=[]from h)];congr 1;refine aem (fun e=>h (List.map_eq_nil_iff.1 e)) fun i hi=>?_
 rw[bW]at hi;funext t;have hi2:i<(zL l).a:=hi;unfold chF IK;rw[qv (fun x=>D8 key x.F n) _ i 0 lT hi2,qv (fun x=>BR key x.F n) _ i 0 lT hi2];have e:((l.filter fun x=>decide (x.q≠0)).map (·.F)).b i []=((zL l).b i lT).F:=qv _ _ i _ lT hi2;rw[e]
theorem Rp(key:Vector UInt8 16)(n:Nat)(l:List pW)(h:zL l=[]):uZ key n l=⟨[],[]⟩:=by
 unfold uZ;simp only;rw[if_pos (show(l.filter fun x=>decide (x.q≠0))=[]from h)]
def nmC(s:List UInt8):Array aB:=#[.g (bK s)]
theorem OL(s:List UInt8):(nmC s).j=1:=rfl
theorem anX:∃i:TypeInfo,ah.l 9=some i/\i.zero=some (.g {data:=#[]})/\i.j=1/\i.bytes<=400:=by
 cases h:ah.l 9 with
 | none=>exact absurd h (by have:(ah.l 9).isSome=true:=by kernel_rfl
                            intro e;rw[e]at this;cases this)
 | some i=>
   have h1:(ah.l 9).map (·.j)=some 1:=by kernel_rfl
   have h2:(ah.l 9).map (fun i=>decide (i.bytes<=400))=some true:=by kernel_rfl
   have h3:(ah.l 9).map (·.zero)=some (some (.g {data:=#[]})):=by kernel_rfl
   rw[h]at h1 h2 h3;simp at h1 h2 h3;exact⟨i,rfl,h3,h1,h2⟩
theorem aio:aaX 69 9 nmC 1:=by
 obtain⟨i0,hi0,hz0,hz1,hzb⟩:=anX;exact⟨i0,_,mq,hi0,hz0,hz1,rfl,by omega,by omega,OL,fun s=>by simp[nmC,dA]⟩
theorem anY:∃i:TypeInfo,ah.l 155=some i/\i.zero=some (.d Aq.ay)/\i.j=5/\i.bytes<=400:=by
 cases h:ah.l 155 with
 | none=>exact absurd h (by have:(ah.l 155).isSome=true:=by kernel_rfl
                            intro e;rw[e]at this;cases this)
 | some i=>
   have h1:(ah.l 155).map (·.j)=some 5:=by kernel_rfl
   have h2:(ah.l 155).map (fun i=>decide (i.bytes<=400))=some true:=by kernel_rfl
   have h3:(ah.l 155).map (·.zero)=some (some (.d Aq.ay)):=by kernel_rfl
   rw[h]at h1 h2 h3;simp at h1 h2 h3;exact⟨i,rfl,h3,h1,h2⟩
theorem arn:aaX 149 155 Tr.ay 5:=by
 obtain⟨i0,hi0,hz0,hz1,hzb⟩:=anY;exact⟨i0,_,Tryz.underlying149,hi0,hz0,hz1,Tr.J Aq,by omega,by omega,Tr.J,Tr.dx⟩
def aeo(n:Nat)(ps:Array (Nat×aB)):yA aB:=bJ 69 n ps
@[go_sem ↓]theorem az0(n:Nat)(ps:Array (Nat×aB)):bJ 69 n ps=aeo n ps:=rfl
@[go_sem]theorem avI(w:ak)(s:List UInt8):(aeo 1 #[(0,.g (bK s))]).O ah w=.ok (.a (some ⟨w.a.j,0,none⟩) 1 1) (w.alloc (.D (nmC s) 9)):=by
 obtain⟨i0,hi0,hz0,hz1,hzb⟩:=anX;simp[aeo,bJ,dK mq,zeroValue,sizeOf,typeInfo,hi0,hz0,hz1,fJ,newRow,dz,afU,nmC]
def as1(n:Nat)(ps:Array (Nat×aB)):yA aB:=bJ 149 n ps
@[go_sem ↓]theorem az1(n:Nat)(ps:Array (Nat×aB)):bJ 149 n ps=as1 n ps:=rfl
@[go_sem]theorem avJ(w:ak)(x:Tr):(as1 1 #[(0,.d x.ay)]).O ah w=.ok (.a (some ⟨w.a.j,0,none⟩) 1 1) (w.alloc (.D x.ay 155)):=by
 obtain⟨i0,hi0,hz0,hz1,hzb⟩:=anY;exact sM w _ _ i0 _ 5 Tryz.underlying149 hi0 hz0 hz1 (Tr.J _) (by omega) (by omega) _ (Tr.J x)
@[go_sem]theorem az2(W:ak)(vP offset skip:Int):(vK 155 #[(0,.b .a vP),(2,.b .a offset),(3,.b .a skip)]).O ah W=.ok (.d (Tr.mk vP 0 offset skip 0).ay) W:=
 kTr.bd W _ _ _ _ Et (aEC W _ Et) (by
  show fJ _ (#[aI .a 0,.b .a 0,.b .a 0,.b .a 0,.b .a 0] ++ #[]) [(0,.b .a vP),(2,.b .a offset),(3,.b .a skip)]=_;rw[pI 0 0 _ _ _ _ rfl rfl (by simp),pI 2 2 _ _ _ _ rfl rfl (by simp),pI 3 3 _ _ _ _ rfl rfl (by simp)];simp[fJ,Tr.ay])
theorem WY{α:Type}{f:α->Array aB}{sz:Nat}{e t:bL}{L:List (Nat×Array aB)}{w0 W:ak}{v:aB}{l ys:List α}(T:aaX t e f sz){ops:Array ji}{rest:List ji}{o:ji}{a:rO}{Q:Exit->rO->ak->Prop}(hgd:o.guard=none)(s x:ql)
 (ho:o.op=.call {callee:=.builtin .append,args:=#[s,x],argTypes:=#[t,t]}) (hs:a.eval s=v) (H:Rz f sz e L w0 W v l) {C:Nat} {A:Option aV} {m c:Nat} (hx:a.eval x=.a A m c) (hr:iT f sz W C A m ys)
 (hlen:l.a+m<=1000000)
 (h:∀A' n' c' w',Rz f sz e L w0 w' (.a A' n' c') (l++ys)->W.grownBy w' v.f->((bB A' n' c').f=v.f\/(bB A' n' c').f=some W.a.j)->wpList ah ops Q rest (a.put o.dst (.a A' n' c')) w'):wpList ah ops Q (o::rest) a W:=by
 refine uq hgd fun K hK=>?_
 obtain⟨i,z,ht,hi,hz,h1,h2,h3,h4,h5,h6⟩:=T;have hm:=hr.1;refine Kj W s x t ho w0.a.j e i z sz i.bytes ht hi hz h1 rfl h2 h3 v l.a _ hs H.vM C A m c _ hx hr.2.1 (Fa f h6 ys) (by unfold maxLen;omega) (aP (iq hlen h4) (by omega)) H.X.j ?_;intro v1 w1 k1 k2 k3;rw[acr,<-hm,<-aQ]at k1;have hk:=H.grown k2 k1 k3;obtain⟨A',c',rfl⟩:=hk.DT;exact hK _ _ (h A' _ c' w1 hk k2 k3)
def JW(v1 v2:aB):Prop:=∀g,v1.f=some g->v2.f≠some g
theorem JW.symm{v1 v2:aB}(h:JW v1 v2):JW v2 v1:=fun g h1 h2=>h g h2 h1
theorem Rq{w w':ak}{base size n:Nat}{e:bL}{v1 v1' v2:aB}{xs:List aB}(h2:w.c base e size v2 n xs)(ha:JW v1 v2)(hg:w.grownBy w' v1.f)(hat:v1'.f=v1.f\/v1'.f=some w.a.j):
 w'.c base e size v2 n xs/\JW v1' v2:=by
 refine⟨h2.kept hg ?_,fun g h1 hh=>?_⟩
 ·cases hv:v2.f with
  | none=>exact .b rfl
  | some g=>exact .a (fun e'=>ha g e'.symm hv)
 ·rcases hat with h|h
  ·exact ha g (h ▸ h1) hh
  ·rw[h]at h1
   injection h1 with h1
   have:=(h2.lt g hh).2;omega
theorem Rz.anZ{α:Type}{f:α->Array aB}{sz:Nat}{e:bL}{L:List (Nat×Array aB)}{w0 W W':ak}{v v1 v1':aB}{l:List α}(h:Rz f sz e L w0 W v l)(ha:JW v1 v)(hg:W.grownBy W' v1.f)(hat:v1'.f=v1.f\/v1'.f=some W.a.j)
 (hb:aM w0.a.j w0 W') (hL:∀p∈L,dP W' p.1 p.2):Rz f sz e L w0 W' v l/\JW v1' v:=
 ⟨⟨(Rq h.vM ha hg hat).1,hb,fun p hp=>⟨hL p hp,(h.J p hp).2⟩⟩,(Rq h.vM ha hg hat).2⟩
structure Tc where
 um:Option aV
 r9:Nat
 Dy:Nat
 rG:Option aV
 qB:Nat
 zH:Nat
def Tc.ay(x:Tc):Array aB:=#[.a x.um x.r9 x.Dy,.a x.rG x.qB x.zH]
theorem Tc.J(x:Tc):x.ay.j=2:=by simp[Tc.ay]
theorem Tc.dx(x:Tc):x.ay.all (·.h)=true:=by simp[Tc.ay,dA]
@[go_sem]theorem Tc.Gb(x:Tc):x.ay[0]? = some (.a x.um x.r9 x.Dy):=by simp[Tc.ay,aD]
@[go_sem]theorem Tc.zI(x:Tc):x.ay[1]? = some (.a x.rG x.qB x.zH):=by simp[Tc.ay,aD]
def DV:Tc:=⟨none,0,0,none,0,0⟩
@[go_sem]theorem az3:cO #[bB none 0 0,bB none 0 0]=cO DV.ay:=rfl
@[go_sem]theorem avL:eX #[bB none 0 0,bB none 0 0] 72=eX DV.ay 72:=rfl
theorem kTc:pQ 72 2 DV.ay:=⟨⟨_,Gl,rfl⟩,by kernel_rfl,by kernel_rfl,Tc.J _⟩
@[go_sem ↓]theorem aLj(v:aB):dw 72 v=yU 72 v:=rfl
@[go_sem ↓]theorem aLk(v x:aB):eY 72 v x=zX 72 v x:=rfl
@[go_sem]theorem aHT(W:ak)(b o:Nat)(x:Tc)(h:W.S b o 2):(zX 72 (.c (some ⟨b,o,none⟩)) (.d x.ay)).O ah W=.ok () (gV W b o x.ay):=kTc.st W b o x.ay h (Tc.J x) (Tc.dx x)
@[go_sem ↓]theorem aLl(ps:Array (Nat×aB)):fU 72 ps=vK 72 ps:=rfl
theorem aEU(w:ak)(fs:Array oz)(h:ah.k 72=some (.d fs)):(iI (fun f=>Prod.mk f.offset <$> sizeOf f.type) fs:yA (Array (Nat×Nat))).O ah w=.ok #[(0,1),(1,1)] w:=by
 have e:=Gl;rw[h]at e;cases e;show _=_
 kernel_rfl
@[go_sem]theorem az4(W:ak)(um:Option aV)(r9:Nat)(Dy:Nat)(rG:Option aV)(qB:Nat)(zH:Nat):(vK 72 #[(0,.a um r9 Dy),(1,.a rG qB zH)]).O ah W=.ok (.d (Tc.mk um r9 Dy rG qB zH).ay) W:=kTc.bd W _ _ _ _ Gl (aEU W _ Gl) (by
 refine vV (Tc.J _) ?_ ?_
 ·simp[sF,dz]
 ·simp[rM,dz,Tc.ay]<;>(simp only[<-gD];rfl))
def TlR(W:ak)(A1:Option aV)(n1:Nat)(A2:Option aV)(n2:Nat)(t:Tl):Prop:=
 iT nmC 1 W W.a.j A1 n1 t.h/\n2=t.vD.a/\((n2=0/\A2=none)\/∃g d,A2=some ⟨g,0,none⟩/\dP W g d/\SlA d t.vD)
def TlP(w:ak)(t:Tl)(e:lJ)(w':ak):Prop:=
 ∃A1 n1 c1 A2 n2 c2,e=.a (.K #[.d #[.a A1 n1 c1,.a A2 n2 c2],.b .a 0])/\TlR w' A1 n1 A2 n2 t/\aM w.a.j w w'/\(∀a,A1=some a->w.a.j<=a.block/\a.block<w'.a.j)/\∀a,A2=some a->w.a.j<=a.block/\a.block<w'.a.j
structure BuS(key:Vector UInt8 16)(n k8:Nat)(w4:ak)(r:List pW)(AN:Option aV)(nN cN:Nat)(AT:Option aV)(nT cT:Nat)(W:ak):Prop where
 zn:Rz nmC 1 9 [(k8,(Tc.mk AN nN cN none 0 0).ay)] w4 W (.a AN nN cN) (r.map (·.F))
 zt:Rz Tr.ay 5 155 [(k8,(Tc.mk AN nN cN none 0 0).ay)] w4 W (.a AT nT cT) (r.map (aky key n))
 ap:JW (.a AN nN cN) (.a AT nT cT)
theorem BuS.start(key:Vector UInt8 16)(n:Nat)(w4:ak):BuS key n w4.a.j w4 [] none 0 0 none 0 0 (w4.alloc (.D DV.ay 72)):=
 ⟨(Rz.nil w4).new DV.ay _,(Rz.nil w4).new DV.ay _,fun g h=>by cases h⟩
theorem BuS.alloc{key:Vector UInt8 16}{n k8:Nat}{w4:ak}{r:List pW}{AN:Option aV}{nN cN:Nat}{AT:Option aV}{nT cT:Nat}{W:ak}(h:BuS key n k8 w4 r AN nN cN AT nT cT W)(o:Obj):BuS key n k8 w4 r AN nN cN AT nT cT (W.alloc o):=⟨h.zn.alloc o,h.zt.alloc o,h.ap⟩
theorem BuS.go{key:Vector UInt8 16}{n k8:Nat}{w4:ak}{r:List pW}{AN:Option aV}{nN cN:Nat}{AT:Option aV}{nT cT:Nat}{W W':ak}(h:BuS key n k8 w4 r AN nN cN AT nT cT W)(hb:aM W.a.j W W'):BuS key n k8 w4 r AN nN cN AT nT cT W':=⟨h.zn.go hb,h.zt.go hb,h.ap⟩
theorem iT.az5{α:Type}{f:α->Array aB}{s:Nat}(x:α)(hs:∀x,(f x).j=s)(w:ak)(t:bL)(k:Nat)(hk:w.a.j=k):iT f s (w.alloc (.D (f x) t)) (w.alloc (.D (f x) t)).a.j (some ⟨k,0,none⟩) 1 [x]:=by
 subst hk;exact iT.one x hs w t
theorem aep{F:List Nat}{W W':ak}{base size n:Nat}{e:bL}{v:aB}{xs:List aB}(h:W.c base e size v n xs)(hf:jP F W W')(hn:∀g,v.f=some g->g∉F):W'.c base e size v n xs:=by
 refine⟨h.1,?_⟩;rcases h.2 with h0|⟨g,cap,cur,rfl,h2,h3,h4⟩
 ·exact .b h0
 ·exact .a ⟨g,cap,cur,rfl,h2,(hf.block g (bY.1 h3).1 (hn g rfl)).trans h3,h4⟩
theorem Tc.aEV(AN:Option aV)(nN cN:Nat)(A9:Option aV)(n9 c9:Nat):(Tc.mk AN nN cN none 0 0).ay.c 1 (.a A9 n9 c9)=(Tc.mk AN nN cN A9 n9 c9).ay:=by simp[Tc.ay]
theorem avM{W:ak}{base n c:Nat}{e:bL}{A:Option aV}{l:List Tr}(h:W.c base e 5 (.a A n c) n (l.d fun x=>x.ay.a))(hl:l.a=n)(hn:0<n):∃gt cur,A=some ⟨gt,0,none⟩/\dP W gt cur/\TrA cur l/\n<=c/\base<=gt:=by
 have hr:=iT.jh hl h;rcases h.2 with⟨hv,h0⟩|⟨g,cap,cur,hv,h2,h3,h4,h5,h6,h7⟩
 ·omega
 ·injection hv with e1 e2 e3
  subst e1 e3;refine⟨g,cur,rfl,⟨_,h3⟩,fun i hi j hj=>?_,h4,h2⟩;obtain⟨b,o,hA,_,hc⟩:=iT.cell Tr.J Aq hr (show i<n by omega);cases hA;have h8:=hc j hj;rw[bC]at h8;rw[<-h8];exact((show dP W g cur from⟨_,h3⟩).R.1 (i*5+j)).symm
theorem aer(key:Vector UInt8 16)(n:Nat)(r:List pW)(h:mh n=true):acU n r.a (IK (r.map fun x=>D8 key x.F n) (r.map fun x=>BR key x.F n) n):=by
 intro i hi;have h2:=yc h;unfold IK;rw[qv _ r i 0 lT hi,qv _ r i 0 lT hi];obtain⟨s1,s2⟩:=Vo key (r.b i lT).F h2;exact⟨fun t=>PG (by omega),fun j hj=>UR h s1 s2 hj⟩
theorem Tc.az6(AN:Option aV)(nN cN:Nat)(A9:Option aV)(n9 c9:Nat):(Tc.mk AN nN cN none 0 0).ay.c 0 (.a A9 n9 c9)=(Tc.mk A9 n9 c9 none 0 0).ay:=by simp[Tc.ay]
theorem BuS.aEW{k8:Nat}{w4 w9:ak}{l:List (List UInt8)}{AN:Option aV}{nN cN:Nat}{A9:Option aV}{n9 c9:Nat}(hk:k8=w4.a.j)(h:Rz nmC 1 9 [(k8,(Tc.mk AN nN cN none 0 0).ay)] w4 w9 (.a A9 n9 c9) l):
 Rz nmC 1 9 [(k8,(Tc.mk A9 n9 c9 none 0 0).ay)] w4 (w9.I ⟨k8,0,none⟩ (.a A9 n9 c9)) (.a A9 n9 c9) l:=by
 have:=h.amY (aU hk.symm) (fun p hp=>by cases hp) 0 (.a A9 n9 c9);rw[Tc.az6]at this;exact this
theorem BuS.aEX{k8:Nat}{w4 w9:ak}{l:List Tr}{AN:Option aV}{nN cN:Nat}{AT:Option aV}{nT cT:Nat}(hk:k8=w4.a.j)(h:Rz Tr.ay 5 155 [(k8,(Tc.mk AN nN cN none 0 0).ay)] w4 w9 (.a AT nT cT) l)(A9:Option aV)(n9 c9:Nat):
 Rz Tr.ay 5 155 [(k8,(Tc.mk A9 n9 c9 none 0 0).ay)] w4 (w9.I ⟨k8,0,none⟩ (.a A9 n9 c9)) (.a AT nT cT) l:=by
 have:=h.amY (aU hk.symm) (fun p hp=>by cases hp) 0 (.a A9 n9 c9);rw[Tc.az6]at this;exact this
theorem aes(key:Vector UInt8 16)(n:Nat)(hp:mh n=true)(hn:n<=65537)(l:List pW)(hk:aq6 l)(hnm:∀x∈l,x.F.a<=1000000)(A:Option aV)(m c:Nat)(w:ak)(hR:iT pW.ay 2 w w.a.j A m l):
 aR ah 27 #[.d (jl key),.b .a n,.a A m c] w (TlP w (uZ key n l)):=by
 have hl:=hR.1;have hm:m<=1024:=by have:=hk.2.2;omega
 have Z0:=ab (((Bx.start w).new (jl key) 22).new DV.ay 72);have hs1:(w.alloc (.D (jl key) 22)).a.j=w.a.j+1:=by simp
 rw[hs1]at Z0;obtain⟨k1,hk1⟩:=cB (w.a.j+1);have SO:=ab (fun(W:ak) (h:iT pW.ay 2 W W.a.j A m l)=>abO l hk.1 A m c W h (by omega));have MA:=ab (fun(W:ak) (A':Option aV) (c':Nat) (h:iT pW.ay 2 W W.a.j A' m l)=>akk l hk A' m c' W h);have PR:=ab (fun(W:ak)=>Ym (W:=W) n hn);rw[hp]at PR;have R0:=ab ((hR.up (.D (jl key) 22)).up (.D DV.ay 72));have t1:decide ((n:Int)>65537)=false:=by simp;omega
 have t2:decide ((65537:Int)<n)=false:=by simp;omega
 have t3:decide (65537<n)=false:=by simp;omega
 have HK:=ab hk;have HNM:=ab hnm;have HP:=ab hp;have HL:=ab hl;clear hk hnm hp hl hR hs1;rw[<-hk1]at Z0;have HK1:=ab hk1;go_enter Tryz.func27,Tryz.ntmps27;go_upto_region 1 with fail
 rw[<-HK1.i];generalize(w.alloc (.D (jl key) 22)).alloc (.D DV.ay 72)=w1 at Z0 R0 ⊢;clear hk1;go_upto_region 4 with(first|(go_at_call 80;(with_reducible refine(SO.i _ R0.i).g ?_);rintro e w2 ⟨A2,c2,rfl,hr2,hb2⟩;have R2:=ab hr2;have Z2:=ab (Z0.i.go hb2);clear hr2 hb2)|(go_at_call 81;(with_reducible refine(PR.i _).g ?_);rintro e w3 ⟨rfl,rfl⟩)|(go_at_call 82;(with_reducible refine(MA.i _ A2 c2 R2.i).g ?_);rintro e w4 ⟨rfl,hb4⟩;have R4:=ab (R2.i.go hb4);have Z4:=ab (Z2.i.go hb4);clear hb4))
 obtain⟨k8,hk8⟩:=cB w4.a.j;have BS:=ab (BuS.start key n w4);rw[<-hk8]at BS;have HK8:=ab hk8;go_upto_region 6 with fail
 rw[<-HK8.i];generalize w4.alloc (.D DV.ay 72)=w5 at BS ⊢;clear hk8;go_wp2_with fail;go_loopw [31,9] (fun i v wr=>∃(k:Nat)(AN:Option aV)(nN cN:Nat)(AT:Option aV) (nT cT:Nat),k<=m/\i=.b .a k/\v=.a AT nT cT/\BuS key n k8 w4 (zL (l.E k)) AN nN cN AT nT cT wr)
  (fun i _ _=>m-(intOf i).e)
 case atStart=>exact⟨0,none,0,0,none,0,0,jo _,rfl,rfl,BS.i⟩
 case round=>
  obtain⟨k,AN,nN,cN,AT,nT,cT,hkm,rfl,rfl,hbs⟩:=hrel;have B0:=ab hbs;clear hbs;by_cases hlt:k<m
  ·have hki:(k:Int)<m:=by omega
   have RW:=ab (R4.i.Y B0.i.zn.X);obtain⟨b,o,hA,hbb,hh,hc⟩:=iT.dW pW.Cv lT RW.i hlt;subst hA;obtain⟨x,hx⟩:=cB (l.b k lT);rw[<-hx]at hc;have hxm:x∈l:=by rw[hx,au,aC (by rw[HL.i];omega),jJ];exact eZ _
   have hq1:=(HK.i.2.1 x hxm).1;have HXN:=ab (HNM.i x hxm);have Ew:=ab (agM hx (show k<l.a by rw[HL.i];exact hlt));have B1:=ab (B0.i.alloc (.D x.ay 151));have X1:=ab (dP.new wr x.ay 151);have f0:∀i,(wr.alloc (.D x.ay 151)).b ⟨wr.a.j,i,none⟩=x.ay[i]?:=X1.i.R.1;have s0:=(f0 0).trans (pW.zJ x);have s1:=(f0 1).trans (pW.aqY x);clear hx hbb hxm f0;by_cases hq:x.q=0
   ·have t1:decide (x.q>0)=false:=by simp[hq]
    have t2:decide (0<x.q)=false:=by simp[hq]
    have HQ:=ab hq;clear hq;go_wp2_with fail;go_roundw
    case rel=>
     have e:=Ew.i;rw[if_pos HQ.i,List.append_nil]at e;exact⟨k+1,_,_,_,_,_,_,by omega,by simp,rfl,by rw[e];exact B1.i⟩
    case measure=>simp[intOf];omega
   ·have t1:decide (x.q>0)=true:=by simp;omega
    have t2:decide (0<x.q)=true:=by simp;omega
    have HQ:=ab hq;clear hq;obtain⟨r,hr⟩:=cB (zL (l.E k));rw[<-hr]at B0 B1 Ew;have HR:=ab hr;have HRL:=ab (show r.a+1<=1000000 by
     rw[hr];have h1:=pK (fun x:pW=>decide (x.q≠0)) (l.E k);have h2:=List.length_take_le k l;have h3:(zL (l.E k)).a<=(l.E k).a:=h1;omega)
    clear hr;obtain⟨po,hpo⟩:=cB (D8 key x.F n);obtain⟨ps,hps⟩:=cB (BR key x.F n);have PO:=ab (agA key x.F n (yc HP.i) (by omega) HXN.i);rw[<-hpo,<-hps]at PO;have HTR:=ab (show aky key n x=Tr.mk x.q 0 (po:Nat) (ps:Nat) 0 by unfold aky;rw[hpo,hps]);clear hpo hps;have l1:=WE.nR (Z4.i.b1.go B1.i.zn.X) (dO _);have HKX:=ab (show k8≠wr.a.j from fun e=>by have:=B0.i.zn.Z.lt;omega);have HNX:=ab (show∀g,(bB AN nN cN).f=some g->g≠wr.a.j from fun g e=>by have:=(B0.i.zn.lt e).2;omega);have HTX:=ab (show∀g,(bB AT nT cT).f=some g->g≠wr.a.j from fun g e=>by have:=(B0.i.zt.lt e).2;omega);obtain⟨kx,hkx⟩:=cB wr.a.j;rw[<-hkx]at HKX HNX HTX X1;have aEZ:=ab hkx;clear hkx;go_upto_region 10 with fail
    rw[<-aEZ.i]at s0 s1 ⊢;generalize wr.alloc (.D x.ay 151)=w6 at s0 s1 l1 B1 X1 ⊢;go_wp2_with (first
     | (go_at_call 83;(with_reducible refine(PO.i _).g ?_);rintro e w7 ⟨rfl,hb7⟩;have B7:=ab (B1.i.go hb7);have X7:=ab (X1.i.go hb7);clear s0 s1 l1 hb7;have s0:=(X7.i.R.1 0).trans (pW.zJ x);have s1:=(X7.i.R.1 1).trans (pW.aqY x);have s2:=(B7.i.zn.Z.R.1 0).trans (Tc.Gb _))
     | (refine WY aio rfl (.a 47) (.a 50) rfl rfl (B7.i.alloc (.D (nmC x.F) 9)).zn rfl (iT.one x.F OL w7 9) (by rw[bW];exact HRL.i) ?_;intro A9 n9 c9 w9 h9 g9 a9;have N9:=ab h9;have T9:=ab ((B7.i.alloc (.D (nmC x.F) 9)).zt.anZ B7.i.ap g9 a9 h9.X (fun p hp=>(h9.J p hp).1));have X9:=ab ((X7.i.alloc (.D (nmC x.F) 9)).grown g9 (fun e=>HNX.i kx e.symm rfl));clear s0 s1 s2 h9 g9 a9;have s3:=N9.i.Z.R.1 0;have s4:=N9.i.Z.R.2.1 0;rw[Tc.Gb]at s3;have N10:=ab (BuS.aEW HK8.i N9.i);have T10:=ab (BuS.aEX HK8.i T9.i.1 A9 n9 c9);have X10:=ab (X9.i.dQ ⟨k8,0,none⟩ (.a A9 n9 c9) HKX.i);have s1:=(X10.i.R.1 1).trans (pW.aqY x))
     | (refine WY arn rfl (.a 53) (.a 59) rfl rfl (T10.i.alloc (.D (Tr.mk x.q 0 (po:Nat) (ps:Nat) 0).ay 155)) rfl (iT.az5 (Tr.mk x.q 0 (po:Nat) (ps:Nat) 0) Tr.J (w9.I ⟨k8,0,none⟩ (.a A9 n9 c9)) 155 w9.a.j (by simp)) (by rw[bW];exact HRL.i) ?_;intro A11 n11 c11 w11 h11 g11 a11;have T11:=ab h11;have N11:=ab ((N10.i.alloc (.D (Tr.mk x.q 0 (po:Nat) (ps:Nat) 0).ay 155)).anZ T9.i.2.symm g11 a11 h11.X (fun p hp=>(h11.J p hp).1));clear h11 g11 a11))
    go_roundw
    case rel=>
     have e:=Ew.i;rw[if_neg HQ.i]at e;refine⟨k+1,A9,n9,c9,A11,n11,c11,by omega,by simp,rfl,?_⟩;rw[e];refine⟨?_,?_,N11.i.2.symm⟩
     ·rw[jC];exact N11.i.1
     ·rw[jC,kV,qm,HTR.i];exact T11.i
    case measure=>simp[intOf];omega
  ·obtain rfl:k=m:=by omega
   have hd:decide ((k:Int)<k)=false:=by simp
   have HRW:zL (l.E k)=zL l:=by rw[aK (by rw[HL.i];omega)]
   rw[HRW]at B0;obtain⟨r,hr⟩:=cB (zL l);rw[<-hr]at B0;have hnT:=B0.i.zt.len;rw[bW]at hnT;have BX1:=ab (Z4.i.Z.go B0.i.zn.X);have HKS:=ab (show w.a.j<=k1/\k1<w4.a.j/\w4.a.j=k8/\k8<wr.a.j from⟨by rw[HK1.i];omega,Z4.i.Z.lt,HK8.i.symm,B0.i.zn.Z.lt⟩);have TH1:=BX1.i.S 0 2 (aU (Tc.J _).symm);have HR:=ab hr;have HNB:=ab (show∀g,(bB AN nN cN).f=some g->w4.a.j<=g/\g≠k8 from fun g e=>⟨(B0.i.zn.lt e).1,fun e2=>by
    have:=(B0.i.zn.J _ (mU ..)).2;exact this (by rw[e,e2])⟩)
   by_cases h0:r=[]
   ·have z1:decide ((nT:Int)=0)=true:=by simp[hnT,h0]
    have z2:((nT:Int)==0)=true:=by simp[hnT,h0]
    have z3:decide (nT=0)=true:=by simp[hnT,h0]
    have z4:(nT==0)=true:=by simp[hnT,h0]
    have ld:=kTc.nR B0.i.zn.Z (Tc.J _);have H0:=ab h0;clear hnT h0 hr HRW;obtain⟨X,hX⟩:=cB (Tc.mk AN nN cN none 0 0);rw[<-hX]at ld;have HX:=ab hX;clear hX;go_wp2_with fail;refine aO (kTc.rb rfl _ rfl (BX1.i.put X.ay (by rw[Tc.J,Tc.J])) (Tc.J _)) rfl ?_;have F:=jP.Vq (F:=[k1]) (mG (dR wr (some k1)) 0 X.ay) (fun g e=>.b (by injection e with e;simp[e]));refine⟨AN,nN,cN,none,0,0,by rw[HX.i];rfl,⟨?_,?_,?_⟩,?_,(fun a e=>by have h1:=(HNB.i a.block (by rw[e];rfl)).1;have h2:=Z4.i.X.j;have h3:=(B0.i.zn.lt (k:=a.block) (by rw[e];rfl)).2;have h4:=F.j;omega),fun a e=>by cases e⟩
    ·have:=aep B0.i.zn.vM F (fun g e hm=>by
      have h1:=(HNB.i g e).1;have h2:=HKS.i;simp at hm;omega)
     rw[Rp _ _ _ (by rw[<-HR.i,H0.i])];have h2:=B0.i.zn.len;rw[<-h2]at this;have h3:=iT.jh (by rw[h2]) this;rw[H0.i]at h3;exact h3
    ·rw[Rp _ _ _ (by rw[<-HR.i,H0.i])];rfl
    ·exact .b ⟨rfl,rfl⟩
    ·refine(jD Z4.i.X B0.i.zn.X).trans ?_
     exact F.tX (fun g hg=>by simp at hg;have:=HKS.i;omega) (aP Z4.i.X.j B0.i.zn.X.j)
   ·have hpos:0<r.a:=List.length_pos_iff.2 h0
    have hz:¬(nT:Int)=0:=by omega
    have z1:decide ((nT:Int)=0)=false:=by simpa using hz
    have z2:((nT:Int)==0)=false:=by simpa using hz
    have z3:decide (nT=0)=false:=by simp;omega
    have z4:(nT==0)=false:=by simp;omega
    obtain⟨gt,cur,hAT,hbt,htr,hcap,hgt⟩:=avM (by have:=B0.i.zt.vM;rwa [bW,<-hnT]at this) (by rw[bW,hnT]) (by omega);subst hAT;have HGK:=ab (show gt≠k8 from fun e=>(B0.i.zt.J _ (mU ..)).2 (by rw[<-e];rfl));have HGN:=ab (show∀g,(bB AN nN cN).f=some g->g≠gt from fun g e e2=>B0.i.ap g e (by rw[e2];rfl));have HGT:=ab (show gt<wr.a.j/\w4.a.j<=gt from⟨hbt.lt,hgt⟩);have hn1:1<=n:=by have:=yc HP.i;omega
    have RE:=ab (agF n hn1 (by omega) wr.a.j 1 (-1) (wr.alloc (.D (tZ [-1]) 3)) (dP.new wr _ _));have hq0:∀x∈r,0<x.q:=by
     intro x hx;rw[hr]at hx;obtain⟨h1,h2⟩:=mY.1 hx;have:=(HK.i.2.1 x h1).1;simp at h2;omega
    have hrl:r.a<=1024:=by rw[hr];have:(zL l).a<=l.a:=pK _ _;have:=HK.i.2.2;omega
    have hgr:mF (r.map fun x=>x.q.e)<=100000000:=by
     obtain⟨i,hi,e⟩:=Ea (q:=r.map fun x=>x.q.e) (by simpa using h0) (by
      intro y hy;obtain⟨x,hx,rfl⟩:=jf.1 hy;have:=hq0 x hx;omega)
     rw[<-e];rw[bW]at hi;rw[qv _ r i 0 lT hi];have hm2:r.b i lT∈zL l:=by rw[<-hr,au,aC hi];exact eZ _
     have:=(HK.i.2.1 _ (mY.1 hm2).1).2;omega
    have FI:=ab (fun(W:ak) (sb:Nat) (d:Array aB) (hc:dP W gt cur) (hd:dP W sb d) (hne:gt≠sb) (hS:SlA d (dY n (-1)))=>
     agC gt sb nT cT n n (mF (r.map fun x=>x.q.e)) (r.map fun x=>x.q.e) (r.map fun x=>D8 key x.F n) (r.map fun x=>BR key x.F n) cur d (r.map (aky key n)) W rfl hc hd hne (by rw[bW,hnT]) htr hS (akz key n r h0 hq0) (by omega) (by omega) hcap hn1 (by omega) (av _)
      (by intro y hy;obtain⟨x,hx,rfl⟩:=jf.1 hy;have:=hq0 x hx;omega) hgr
      (by intro i hi;rw[qv _ r i 0 lT (by omega)];have:=amm key (r.b i lT).F (yc HP.i);omega)
      (by intro i hi;rw[qv _ r i 0 lT (by omega)];have:=(Vo key (r.b i lT).F (yc HP.i)).2;omega)
      (by rw[hnT];exact aer key n r HP.i))
    have HFV:=ab (adi (n:=n) (q:=r.map fun x=>x.q.e) (ch:=IK (r.map fun x=>D8 key x.F n) (r.map fun x=>BR key x.F n) n) (by simpa using h0) (by intro y hy;obtain⟨x,hx,rfl⟩:=jf.1 hy;have:=hq0 x hx;omega) (by rw[bW];exact aer key n r HP.i)).1;have HT:=ab (show uZ key n l=⟨r.map (·.F),Fz n (r.map fun x=>x.q.e) (IK (r.map fun x=>D8 key x.F n) (r.map fun x=>BR key x.F n) n)⟩by rw[aen key n l (by rw[<-hr];exact h0),<-hr]);generalize Fz n (r.map fun x=>x.q.e) (IK (r.map fun x=>D8 key x.F n) (r.map fun x=>BR key x.F n) n)=fv at FI HFV HT;have BT0:=ab hbt;have hw1:(wr.alloc (.D (tZ [-1]) 3)).a.j=wr.a.j+1:=by simp
    have HW1:=ab hw1;clear hnT h0 hpos hz hbt htr hcap hgt hq0 hrl hgr hr HRW hw1;go_wp2_with (first
     | (go_at_call 84;go_loud ((with_reducible refine RE.i.g ?_);rintro e w2 ⟨g,d,hg1,rfl,hb2,hds,hsl,hbel⟩;have HG:=ab (show wr.a.j<g by rw[HW1.i]at hg1;omega);have K2:=ab ((B0.i.zn.Z.alloc (.D (tZ [-1]) 3)).go hbel);have X2:=ab ((BX1.i.alloc (.D (tZ [-1]) 3)).go hbel);have T2:=ab ((BT0.i.alloc (.D (tZ [-1]) 3)).go hbel);have F2:=ab (((jP.refl [k8,gt,k1] wr).alloc (.D (tZ [-1]) 3)).Y hbel (by rw[HW1.i];omega));have HSL:=ab hsl;have K3:=ab (show dP (w2.I ⟨k8,1,none⟩ (.a (some ⟨g,0,none⟩) n n)) k8 (Tc.mk AN nN cN (some ⟨g,0,none⟩) n n).ay by have:=K2.i.fC 1 (.a (some ⟨g,0,none⟩) n n);rwa [Tc.aEV]at this);have s1:=K2.i.R.1 1;rw[Tc.zI]at s1;have s2:=K2.i.R.2.1 1;have s3:=K3.i.R.1 1;rw[Tc.zI]at s3;have FX:=ab (FI.i (w2.I ⟨k8,1,none⟩ (.a (some ⟨g,0,none⟩) n n)) g d (T2.i.dQ ⟨k8,1,none⟩ _ HGK.i.symm) (hb2.dQ ⟨k8,1,none⟩ _ (by have:=HG.i;have:=HKS.i;show k8≠g;omega)) (by have:=HG.i;have:=HGT.i;omega) hsl);clear hg1 hb2 hds hsl hbel))
     | (go_at_call 85;(with_reducible refine FX.i.g ?_);rintro e w5 ⟨rfl,⟨d5,hd5,az7⟩,hfr⟩;have K5:=ab (hfr.box K3.i (by have:=HGK.i;have:=HG.i;have:=HKS.i;simp;omega));have X5:=ab (hfr.box (X2.i.dQ ⟨k8,1,none⟩ (.a (some ⟨g,0,none⟩) n n) (by have:=HKS.i;show k8≠k1;omega)) (by have:=HG.i;have:=HGT.i;have:=HKS.i;simp;omega));have F5:=ab ((F2.i.set ⟨k8,1,none⟩ (.a (some ⟨g,0,none⟩) n n) (.b (by simp))).trans hfr (fun x hx=>by have:=HG.i;simp at hx⊢;omega));have D5:=ab hd5;have SD5:=ab az7;clear s1 s2 s3 hd5 az7 hfr;have ld:=kTc.nR K5.i (Tc.J _);have th:=X5.i.S 0 2 (aU (Tc.J _).symm)))
    refine aO (kTc.rb rfl _ rfl (X5.i.put (Tc.mk AN nN cN (some ⟨g,0,none⟩) n n).ay (by rw[Tc.J,Tc.J])) (Tc.J _)) rfl ?_;have F:=F5.i.grown (mG (dR w5 (some k1)) 0 (Tc.mk AN nN cN (some ⟨g,0,none⟩) n n).ay) (fun j e=>.b (by injection e with e;simp[e]));refine⟨AN,nN,cN,some ⟨g,0,none⟩,n,n,rfl,⟨?_,by rw[HT.i];exact HFV.i.symm,.a ⟨g,d5,rfl,D5.i.gN (by have:=HG.i;have:=HKS.i;omega),by rw[HT.i];exact SD5.i⟩⟩,?_,(fun a e=>by have h1:=(HNB.i a.block (by rw[e];rfl)).1;have h2:=Z4.i.X.j;have h3:=(B0.i.zn.lt (k:=a.block) (by rw[e];rfl)).2;have h4:=F.j;omega),fun a e=>by injection e with e;subst e;have h1:=HG.i;have h2:=Z4.i.X.j;have h3:=B0.i.zn.X.j;have h4:=(D5.i.gN (b2:=k1) (o:=0) (x:=(Tc.mk AN nN cN (some ⟨g,0,none⟩) n n).ay) (by have:=HG.i;have:=HKS.i;omega)).lt;exact⟨by show _<=g;omega,h4⟩⟩
    ·have:=aep B0.i.zn.vM F (fun g e hm=>by
       have h1:=HNB.i g e;have h2:=HKS.i;have h3:=HGN.i g e;simp at hm;omega)
     rw[HT.i];have h2:=B0.i.zn.len;rw[<-h2]at this;exact iT.jh (by rw[h2]) this
    ·refine(jD Z4.i.X B0.i.zn.X).trans ?_
     exact F.tX (fun g hg=>by simp at hg;have:=HKS.i;have:=HGT.i;omega) (aP Z4.i.X.j B0.i.zn.X.j)
def as3:Option (List UInt8)->aB
 | none=>.K #[.g (bK []),.e false]
 | some s=>.K #[.g (bK s),.e true]
def az8(t:Tl):Prop:=∀j,j<t.vD.a->∃i,i<t.h.a/\t.vD.b j 0=(i:Int)
theorem agN(t:Tl)(ok:az8 t)(h:Nat)(hh:h<18446744073709551616)(A1:Option aV)(n1 c1:Nat)(A2:Option aV)(n2 c2:Nat)(w:ak)(hT:TlR w A1 n1 A2 n2 t)(hn2:n2<=100000)(hn1:n1<=100000):
 aR ah 35 #[.d (Tc.mk A1 n1 c1 A2 n2 c2).ay,.b .c h] w (gY w (as3 (Il t h))):=by
 obtain⟨hN,hs,hS⟩:=hT;have X0:=ab (dP.new w (Tc.mk A1 n1 c1 A2 n2 c2).ay 72);have B0:=ab ((aG w.a.j w).alloc (av _) (.D (Tc.mk A1 n1 c1 A2 n2 c2).ay 72));have N0:=ab (hN.up (.D (Tc.mk A1 n1 c1 A2 n2 c2).ay 72));have f0:=(X0.i.R.1 0).trans (Tc.Gb _);have f1:=(X0.i.R.1 1).trans (Tc.zI _);by_cases h0:n2=0
 ·have z1:decide ((n2:Int)=0)=true:=by simp[h0]
  have z2:((n2:Int)==0)=true:=by simp[h0]
  have z3:decide (n2=0)=true:=by simp[h0]
  have z4:(n2==0)=true:=by simp[h0]
  have HP:=ab (show Il t h=none by unfold Il;rw[<-hs,if_pos h0]);clear h0 hs hS hN;go_enter Tryz.func35,Tryz.ntmps35;go_wp2;go_ret2;exact⟨by rw[HP.i];rfl,B0.i⟩
 ·have hz:¬(n2:Int)=0:=by omega
  have z1:decide ((n2:Int)=0)=false:=by simpa using hz
  have z2:((n2:Int)==0)=false:=by simpa using hz
  have z3:decide (n2=0)=false:=by simpa using h0
  have z4:(n2==0)=false:=by simpa using h0
  obtain⟨g,d,hA,hd,hsl⟩:∃g d,A2=some ⟨g,0,none⟩/\dP w g d/\SlA d t.vD:=by
   rcases hS with⟨e,_⟩|hS
   ·exact absurd e h0
   ·exact hS
  subst hA;obtain⟨j,hj⟩:=cB (h%n2);have hjl:j<n2:=by rw[hj];exact fP _ (by omega)
  have hji:(j:Int)<n2:=by omega
  obtain⟨i,hi,hv⟩:=ok j (by rw[<-hs];exact hjl);obtain⟨b,o,hA1,_,hc⟩:=iT.cell OL [] N0.i (show i<n1 by rw[<-hN.1];exact hi);have hii:(i:Int)<n1:=by rw[<-hN.1];omega
  subst hA1;obtain⟨s,hsn⟩:=cB (t.h.b i []);have f3:=hc 0 (by omega);rw[<-hsn,kQ,gP]at f3
  replace f3:(w.alloc (.D (Tc.mk (some ⟨b,o,none⟩) n1 c1 (some ⟨g,0,none⟩) n2 c2).ay 72)).b ⟨b,o+i,none⟩=some (.g (bK s)):=f3
  have f2:=(hd.alloc (.D (Tc.mk (some ⟨b,o,none⟩) n1 c1 (some ⟨g,0,none⟩) n2 c2).ay 72)).R.1 j;rw[hsl j (by rw[<-hs];exact hjl),hv]at f2;have HP:=ab (show Il t h=some s by unfold Il;rw[<-hs,if_neg h0,<-hj,hv,cK,hsn]);have e1:(h:Int)%(n2:Int)=(j:Int):=by rw[hj];omega
  have e2:MW (h:Int) (n2:Int)=(j:Int):=by rw[mZ (by omega)];exact e1
  have u1:=anM n2 (by omega);have u2:=anM j (by omega);have i1:=jY (n2:Int) (by omega);have h0':¬n2=0:=h0;clear hj hs hS hN hc hsn hv hi hd hsl h0;go_enter Tryz.func35,Tryz.ntmps35;go_wp2_with fail;go_quiet (fail);go_wp2;go_ret2;exact⟨by rw[HP.i];rfl,eD B0.i _⟩
theorem XP(x:Cn)(l:List Vp)(a:fD)(p q:Int)(w:ak)(hR:RdV w w.a.j x.qF x.gT l)(hn:x.gT<=100000):
 aR ah 37 #[.d x.ay,.d a.ay,.b .a p,.b .a q] w (gY w (.b .a (LQ l a p q))):=by
 have h0:=((Bx.start w).new x.ay 29).new a.ay 27;simp only[pV]at h0;have Z:=ab h0;have HR:=ab hR;have HN:=ab hR.1;have FA:=ab (fun(w':ak) (h:Bx [(w.a.j+1,a.ay),(w.a.j,x.ay)] w w')=>show w'.b ⟨w.a.j,0,none⟩=some (.a x.qF x.gT x.qX)from(h.b1.R.1 0).trans (Cn.Ed x));clear h0 hR;go_enter Tryz.func37,Tryz.ntmps37;go_upto_region 1 with fail
 generalize(w.alloc (.D x.ay 29)).alloc (.D a.ay 27)=w2 at *;go_wp2;go_loopw [9] (fun s9 wr=>∃i:Nat,i<=x.gT/\s9=.b .a i/\(∀k,k<i->vW a p q (l.b k mJ)=false)/\Bx [(w.a.j+1,a.ay),(w.a.j,x.ay)] w wr) (fun s9 _=>x.gT-(intOf s9).e)
 case atStart=>exact⟨0,by omega,rfl,fun k hk=>by omega,Z.i⟩
 case round=>
  obtain⟨i,hin,rfl,hno,hz⟩:=hrel;have Ez:=ab hno;have ZR:=ab hz;clear hno hz;have f0:=FA.i _ ZR.i;by_cases hlt:i<x.gT
  ·have hi:(i:Int)<x.gT:=by omega
   have hi0:(0:Int)<=i:=by omega
   obtain⟨b,o,hA,hbb,hcl⟩:=iT.cell Vp.J mJ (ZR.i.rdR HR.i) hlt;obtain⟨y,hy⟩:=cB (l.b i mJ);rw[<-hy]at hcl;have HY:=ab hy;clear hy;obtain⟨m1,m2⟩:=vN (W:=wr) (b:=b) (o:=o+i*20) (c:=y.h.ay) (n:=17) (fD.J _) (fun j hj=>by
    rw[hcl j (by omega),<-Vp.Cg y,cu,if_pos (by rw[Vp.J];omega)];simp)
   have m3:=(hcl 17 (by omega)).trans (Vp.xJ y);have m4:=(hcl 18 (by omega)).trans (Vp.GX y);rw[hA]at f0;have HAA:=ab hA;clear hA hcl;obtain⟨a1,a2,a3,a4⟩:=ZR.i.Z.R;obtain⟨b5,hb5⟩:∃b,decide (y.h=a)=b:=⟨_,rfl⟩
   obtain⟨b6,hb6⟩:∃b,(y.aN==p)=b:=⟨_,rfl⟩
   obtain⟨b7,hb7⟩:∃b,(y.ni==q)=b:=⟨_,rfl⟩
   have HL:=ab (show vW a p q y=(b5&&b6&&b7)by rw[<-hb5,<-hb6,<-hb7];rfl);have Mi:=ab (show vW a p q y=true->sQ l a p q=some i from fun hq=>fT.2 ⟨by rw[HN.i];exact hlt,by
    rw[HY.i,au,aC (by rw[HN.i];exact hlt)]at hq;exact hq,fun j hj=>by
    have:=Ez.i j hj;rw[au,aC (by rw[HN.i];omega)]at this;simpa using this⟩)
   cases b5<;>cases b6<;>cases b7
   all_goals
    have HK:=ab HL.i;go_upto_region 4 with fail
    go_quiet (fail);go_wp2
    first
    | (go_roundw
       case rel=>exact⟨i+1,by omega,by go_num,fun k hk=>by
        by_cases hki:k=i
        ·rw[hki,<-HY.i];exact HK.i
        ·exact Ez.i k (by omega),ZR.i.drewN _⟩
       case measure=>simp[intOf]<;>omega)
    | (go_ret
       exact⟨by unfold LQ;rw[Mi.i HK.i];rfl,eD ZR.i.X _⟩)
  ·obtain rfl:i=x.gT:=by omega
   have Mi:=ab (show sQ l a p q=none from sI.2 fun y hy=>by
    obtain⟨j,hj,rfl⟩:=kM hy;have:=Ez.i j (by rw[<-HN.i];exact hj);rw[au,aC hj]at this;exact this)
   have hd:decide ((x.gT:Int)<x.gT)=false:=by simp
   go_wp2;go_ret;exact⟨by unfold LQ;rw[Mi.i];rfl,ZR.i.X⟩
abbrev aeu(o:Option Nat):aB:=.c (o.map fun b=>⟨b,0,none⟩)
structure Pc where
 nP:Int
 rA:Option aV
 rN:Nat
 rC:Nat
def Pc.ay(x:Pc):Array aB:=#[.b .a x.nP,.a x.rA x.rN x.rC]
theorem Pc.J(x:Pc):x.ay.j=2:=by simp[Pc.ay]
theorem Pc.dx(x:Pc):x.ay.all (·.h)=true:=by simp[Pc.ay,dA]
@[go_sem]theorem Pc.eU(x:Pc):eU x.ay=2:=Pc.J x
@[go_sem]theorem Pc.all(x:Pc):x.ay.m 0 2=x.ay:=by have:=Pc.J x;rw[<-this];simp
@[go_sem]theorem Pc.abU(x:Pc):x.ay[0]? = some (.b .a x.nP):=by simp[Pc.ay,aD]
@[go_sem]theorem Pc.an1(x:Pc):x.ay[1]? = some (.a x.rA x.rN x.rC):=by simp[Pc.ay,aD]
theorem Pc.air(x:Pc)(A:Option aV)(n c:Nat):x.ay.c 1 (.a A n c)=({x with rA:=A,rN:=n,rC:=c}:Pc).ay:=by simp[Pc.ay,aL]
def XQ:Pc:=⟨0,none,0,0⟩
@[go_sem]theorem az9:cO #[aI bT 0,bB none 0 0]=cO XQ.ay:=rfl
@[go_sem]theorem avN:eX #[aI bT 0,bB none 0 0] 32=eX XQ.ay 32:=rfl
theorem kPc:pQ 32 2 XQ.ay:=⟨⟨_,Tryz.underlying32,rfl⟩,by kernel_rfl,by kernel_rfl,Pc.J _⟩
@[go_sem ↓]theorem arp(v:aB):dw 32 v=yU 32 v:=rfl
@[go_sem ↓]theorem aLx(v x:aB):eY 32 v x=zX 32 v x:=rfl
@[go_sem]theorem aH0(W:ak)(b o:Nat)(h:yE W b o 2):(yU 32 (.c (some ⟨b,o,none⟩))).O ah W=.ok (.d (eH W b o 2)) W:=kPc.ld W b o h
@[go_sem]theorem aE2(W:ak)(c:Array aB)(x:Pc)(b:Nat)(hb:b=W.a.j)(hc:eU c=2):(zX 32 (.c (some ⟨b,0,none⟩)) (.d x.ay)).O ah (W.alloc (.D c 32))=.ok () (W.alloc (.D x.ay 32)):=kPc.stN W c x.ay b hb hc (Pc.J x) (Pc.dx x)
@[go_sem]theorem aH1(W:ak)(b o:Nat)(x:Pc)(h:W.S b o 2):(zX 32 (.c (some ⟨b,o,none⟩)) (.d x.ay)).O ah W=.ok () (gV W b o x.ay):=kPc.st W b o x.ay h (Pc.J x) (Pc.dx x)
@[go_sem ↓]theorem aLy(ps:Array (Nat×aB)):fU 32 ps=vK 32 ps:=rfl
structure Eg where
 key:Vector UInt8 16
 cf:Cn
 pl:Pc
 Pg:Option aV
 EL:Nat
 Tj:Nat
 dnA:Option aV
 dnN:Nat
 dnC:Nat
 fl:Option Nat
 tb:Tc
 ig:Int
 no:Int
 mV:Vector Int 11
def Eg.ay(x:Eg):Array aB:=jl x.key++(x.cf.ay++(x.pl.ay++(#[.a x.Pg x.EL x.Tj,.a x.dnA x.dnN x.dnC,aeu x.fl]++(x.tb.ay++(#[.b .a x.ig,.b .a x.no]++zR x.mV)))))
theorem Eg.J(x:Eg):x.ay.j=90:=by simp[Eg.ay,Cn.J,Pc.J,Tc.J,dO,kD]
@[go_sem]theorem Eg.abI(x:Eg):x.ay.m 0 16=jl x.key:=by simp[Eg.ay,bZ,Cn.J,Pc.J,Tc.J,dO,kD,qA,uR]
@[go_sem]theorem Eg.as4(x:Eg):x.ay.m 16 70=x.cf.ay:=by simp[Eg.ay,bZ,Cn.J,Pc.J,Tc.J,dO,kD,qA,uR]
@[go_sem]theorem Eg.ais(x:Eg):x.ay.m 70 72=x.pl.ay:=by simp[Eg.ay,bZ,Cn.J,Pc.J,Tc.J,dO,kD,qA,uR]
@[go_sem]theorem Eg.Zt(x:Eg):x.ay[72]? = some (.a x.Pg x.EL x.Tj):=by simp[Eg.ay,aD,Cn.J,Pc.J,Tc.J,dO,kD]
@[go_sem]theorem Eg.an2(x:Eg):x.ay[73]? = some (.a x.dnA x.dnN x.dnC):=by simp[Eg.ay,aD,Cn.J,Pc.J,Tc.J,dO,kD]
@[go_sem]theorem Eg.Zu(x:Eg):x.ay[74]? = some (aeu x.fl):=by simp[Eg.ay,aD,Cn.J,Pc.J,Tc.J,dO,kD]
@[go_sem]theorem Eg.an3(x:Eg):x.ay.m 75 77=x.tb.ay:=by simp[Eg.ay,bZ,Cn.J,Pc.J,Tc.J,dO,kD,qA,uR]
@[go_sem]theorem Eg.Ui(x:Eg):x.ay[77]? = some (.b .a x.ig):=by simp[Eg.ay,aD,Cn.J,Pc.J,Tc.J,dO,kD]
@[go_sem]theorem Eg.an4(x:Eg):x.ay[78]? = some (.b .a x.no):=by simp[Eg.ay,aD,Cn.J,Pc.J,Tc.J,dO,kD]
@[go_sem]theorem Eg.an5(x:Eg):x.ay.m 79 90=zR x.mV:=by simp[Eg.ay,bZ,Cn.J,Pc.J,Tc.J,dO,kD,qA,uR]
theorem Eg.agP(x:Eg)(A:Option aV)(n c:Nat):x.ay.c 72 (.a A n c)=({x with Pg:=A,EL:=n,Tj:=c}:Eg).ay:=by simp[Eg.ay,aL,Cn.J,Pc.J,Tc.J,dO,kD]
theorem Eg.avO(x:Eg)(A:Option aV)(n c:Nat):x.ay.c 73 (.a A n c)=({x with dnA:=A,dnN:=n,dnC:=c}:Eg).ay:=by simp[Eg.ay,aL,Cn.J,Pc.J,Tc.J,dO,kD]
theorem Eg.avP(x:Eg)(v:Option Nat):x.ay.c 74 (aeu v)=({x with fl:=v}:Eg).ay:=by simp[Eg.ay,aL,Cn.J,Pc.J,Tc.J,dO,kD]
theorem Eg.aev(x:Eg)(v:Int):x.ay.c 77 (.b .a v)=({x with ig:=v}:Eg).ay:=by simp[Eg.ay,aL,Cn.J,Pc.J,Tc.J,dO,kD]
theorem Eg.an6(x:Eg)(v:Int):x.ay.c 78 (.b .a v)=({x with no:=v}:Eg).ay:=by simp[Eg.ay,aL,Cn.J,Pc.J,Tc.J,dO,kD]
def aE3:Eg:=⟨(bG 16 0),Qk,XQ,none,0,0,none,0,0,none,DV,0,0,(bG 11 0)⟩
theorem kEg:pQ 123 90 aE3.ay:=⟨⟨_,Eu,rfl⟩,by kernel_rfl,by kernel_rfl,Eg.J _⟩
@[go_sem ↓]theorem aLA(v:aB):dw 123 v=yU 123 v:=rfl
@[go_sem ↓]theorem aLB(v x:aB):eY 123 v x=zX 123 v x:=rfl
@[go_sem ↓]theorem aLC(ps:Array (Nat×aB)):fU 123 ps=vK 123 ps:=rfl
theorem aE4(w:ak)(fs:Array oz)(h:ah.k 123=some (.d fs)):(iI (fun f=>Prod.mk f.offset <$> sizeOf f.type) fs:yA (Array (Nat×Nat))).O ah w=.ok #[(0,16),(16,54),(70,2),(72,1),(73,1),(74,1),(75,2),(77,1),(78,1),(79,11)] w:=by
 have e:=Eu;rw[h]at e;cases e;show _=_
 kernel_rfl
theorem Eg.arq(x:Eg)(v:Vector UInt8 16):tC x.ay 0 (jl v)=({x with key:=v}:Eg).ay:=by
 unfold Eg.ay;exact GZ (by rw[dO,dO])
theorem Eg.avQ(x:Eg)(v:Cn):tC x.ay 16 v.ay=({x with cf:=v}:Eg).ay:=by
 unfold Eg.ay;exact qH (by rw[Cn.J,Cn.J]) 16 (dO _)
theorem Eg.an7(x:Eg)(v:Pc):tC x.ay 70 v.ay=({x with pl:=v}:Eg).ay:=by
 unfold Eg.ay;have:=qH (p:=jl x.key++x.cf.ay) (q:=x.pl.ay) (r:=#[.a x.Pg x.EL x.Tj,.a x.dnA x.dnN x.dnC,aeu x.fl]++(x.tb.ay++(#[.b .a x.ig,.b .a x.no]++zR x.mV))) (v:=v.ay) (by rw[Pc.J,Pc.J]) 70 (by simp[Cn.J,dO]);simpa[gD]using this
theorem Eg.avR(x:Eg)(v:Tc):tC x.ay 75 v.ay=({x with tb:=v}:Eg).ay:=by
 unfold Eg.ay;have:=qH (p:=jl x.key++x.cf.ay++x.pl.ay ++ #[.a x.Pg x.EL x.Tj,.a x.dnA x.dnN x.dnC,aeu x.fl]) (q:=x.tb.ay) (r:=#[.b .a x.ig,.b .a x.no]++zR x.mV) (v:=v.ay) (by rw[Tc.J,Tc.J]) 75 (by simp[Cn.J,dO,Pc.J]);simpa[gD]using this
theorem Eg.ars(x:Eg)(v:Vector Int 11):tC x.ay 79 (zR v)=({x with mV:=v}:Eg).ay:=by
 unfold Eg.ay;have:=qH (p:=jl x.key++x.cf.ay++x.pl.ay ++ #[.a x.Pg x.EL x.Tj,.a x.dnA x.dnN x.dnC,aeu x.fl]++x.tb.ay ++ #[.b .a x.ig,.b .a x.no]) (q:=zR x.mV) (r:=#[]) (v:=zR v) (by rw[kD,kD]) 79 (by simp[Cn.J,dO,Pc.J,Tc.J]);simpa[gD]using this
@[go_sem]theorem an8(W:ak)(key:Vector UInt8 16)(cf:Cn)(pl:Pc)(A:Option aV)(n c:Nat)(ti no:Int)(ct:Vector Int 11):(vK 123 #[(0,.d (jl key)),(1,.d cf.ay),(2,.d pl.ay),(3,.a A n c),(7,.b .a ti),(8,.b .a no),(9,.d (zR ct))]).O ah W=.ok (.d (Eg.mk key cf pl A n c none 0 0 none DV ti no ct).ay) W:=kEg.bd W _ _ _ _ Eu (aE4 W _ Eu) (by
 refine(uf rfl (dO _) (by rw[Eg.J];omega) (Eg.arq _ _)).trans ?_;refine(uf rfl (Cn.J _) (by rw[Eg.J];omega) (Eg.avQ _ _)).trans ?_;refine(uf rfl (Pc.J _) (by rw[Eg.J];omega) (Eg.an7 _ _)).trans ?_;refine(iE rfl rfl (by rw[Eg.J];omega) (Eg.agP _ _ _ _)).trans ?_;refine(iE rfl rfl (by rw[Eg.J];omega) (Eg.aev _ _)).trans ?_;refine(iE rfl rfl (by rw[Eg.J];omega) (Eg.an6 _ _)).trans ?_;refine(uf rfl (kD _) (by rw[Eg.J];omega) (Eg.ars _ _)).trans ?_;rfl)
theorem Eg.OO(x:Eg)(j:Nat)(hj:j<54):x.ay[16+j]? = x.cf.ay[j]?:=by
 have h:=Eg.as4 x;have h2:(x.ay.m 16 70)[j]? = x.cf.ay[j]?:=by rw[h]
 rw[cu,if_pos (by rw[Eg.J];omega)]at h2;exact h2
theorem Eg.OP(x:Eg)(a b:Nat)(hb:a<=b/\b<=54):x.ay.m (16+a) (16+b)=x.cf.ay.m a b:=by
 apply dZ;intro j;rw[cu,cu,Eg.J,Cn.J];by_cases h:j<b-a
 ·rw[if_pos (by omega),if_pos (by omega),kY];exact Eg.OO x (a+j) (by omega)
 ·rw[if_neg (by omega),if_neg (by omega)]
theorem Eg.an9(x:Eg)(j:Nat)(hj:j<11):x.ay[79+j]? = some (.b .a (x.mV.a.b j 0)):=by
 have h:=Eg.an5 x;have h2:(x.ay.m 79 90)[j]? = (zR x.mV)[j]?:=by rw[h]
 rw[cu,if_pos (by rw[Eg.J];omega),VD _ _ hj]at h2;exact h2
theorem Eg.abU(x:Eg):x.ay[70]? = some (.b .a x.pl.nP):=by
 have h2:(x.ay.m 70 72)[0]? = x.pl.ay[0]?:=by rw[Eg.ais]
 rwa [cu,if_pos (by rw[Eg.J];omega),Pc.abU]at h2
theorem Eg.Gb(x:Eg):x.ay[75]? = some (.a x.tb.um x.tb.r9 x.tb.Dy):=by
 have h2:(x.ay.m 75 77)[0]? = x.tb.ay[0]?:=by rw[Eg.an3]
 rwa [cu,if_pos (by rw[Eg.J];omega),Tc.Gb]at h2
theorem Eg.zI(x:Eg):x.ay[76]? = some (.a x.tb.rG x.tb.qB x.tb.zH):=by
 have h2:(x.ay.m 75 77)[1]? = x.tb.ay[1]?:=by rw[Eg.an3]
 rwa [cu,if_pos (by rw[Eg.J];omega),Tc.zI]at h2
theorem Eg.Ed(x:Eg):x.ay[16]? = some (.a x.cf.qF x.cf.gT x.cf.qX):=(Eg.OO x 0 (by omega)).trans (Cn.Ed x.cf)
theorem Eg.GY(x:Eg):x.ay[17]? = some (.b .a x.cf.j):=(Eg.OO x 1 (by omega)).trans (Cn.GY x.cf)
theorem Eg.Ua(x:Eg):x.ay[25]? = some (.b .a x.cf.kI):=(Eg.OO x 9 (by omega)).trans (Cn.Ua x.cf)
theorem Eg.Ub(x:Eg):x.ay[26]? = some (.b .a x.cf.fall):=(Eg.OO x 10 (by omega)).trans (Cn.Ub x.cf)
theorem Eg.TY(x:Eg):x.ay.m 19 25=K9 x.cf.kK:=(Eg.OP x 3 9 (by omega)).trans (Cn.TY x.cf)
theorem Eg.aa2(x:Eg):x.ay.m 27 33=Bp x.cf.xQ:=(Eg.OP x 11 17 (by omega)).trans (Cn.aa2 x.cf)
theorem Eg.aa3(x:Eg):x.ay.m 33 50=x.cf.Dl.ay:=(Eg.OP x 17 34 (by omega)).trans (Cn.aa3 x.cf)
theorem Eg.af4(x:Eg):x.ay.m 50 67=x.cf.h.ay:=(Eg.OP x 34 51 (by omega)).trans (Cn.af4 x.cf)
section
def xG(A:Option aV):List Nat:=match A with|some a=>[a.block]|none=>[]
theorem Eh{A:Option aV}{b:Nat}:b∈xG A↔∃a,A=some a/\a.block=b:=by
 unfold xG;cases A with
 | none=>simp
 | some a=>simp[eq_comm]
def qY(x:Eg):List Nat:=xG x.cf.qF++(xG x.pl.rA++(xG x.Pg++(xG x.dnA++(xG x.tb.um++xG x.tb.rG))))
theorem dX{x:Eg}{b:Nat}:b∈qY x↔b∈xG x.cf.qF\/b∈xG x.pl.rA\/b∈xG x.Pg\/b∈xG x.dnA\/b∈xG x.tb.um\/b∈xG x.tb.rG:=by simp[qY]
theorem lM{W:ak}{base sz n k c:Nat}{T:bL}{A:Option aV}{xs:List aB}(h:W.c base T sz (.a A n c) k xs):∀b∈xG A,base<=b/\b<W.a.j:=fun b hb=>by
 obtain⟨a,rfl,rfl⟩:=Eh.1 hb;exact h.lt a.block rfl
theorem Uj{W W':ak}{B sz n:Nat}{A:Option aV}{xs:List aB}{F:List Nat}(h:Rd W B sz A n xs)(hB:B<=W.a.j)(hf:jP F W W')(hn:∀b∈xG A,b∉F):Rd W' W'.a.j sz A n xs:=by
 refine⟨h.1,fun h0=>?_⟩;obtain⟨a,hA,hb,hc⟩:=h.2 h0;have hs:=hf.j;refine⟨a,hA,by omega,fun j u hu=>?_⟩;have h1:=hc j u hu;have h2:=hf.block a.block (by omega) (hn _ (Eh.2 ⟨a,hA,rfl⟩));unfold World.cell? at h1 ⊢;rw[Cq]at h1 ⊢;rw[h2];exact h1
theorem iT.keep{α:Type}{f:α->Array aB}{sz:Nat}{W W':ak}{n:Nat}{A:Option aV}{l:List α}{F:List Nat}(h:iT f sz W W.a.j A n l)(hf:jP F W W')(hn:∀b∈xG A,b∉F):iT f sz W' W'.a.j A n l:=⟨h.1,Uj h.2.1 (av _) hf hn,h.2.2⟩
theorem Lf.keep{W W':ak}{q g:Nat}{key:Vector UInt8 16}{dV:Int}{s:List (Option Fw)}{l:List Fw}{F:List Nat}(h:Lf W q g key dV s l)(hf:jP F W W')(h1:q∉F)(h2:g∉F):Lf W' q g key dV s l:=⟨⟨hf.box h.w.tb h1,hf.box h.w.sl h2,h.w.ne,h.w.sz⟩,h.r,h.ok⟩
theorem TlR.keep{W W':ak}{A1 A2:Option aV}{n1 n2:Nat}{t:Tl}{F:List Nat}(h:TlR W A1 n1 A2 n2 t)(hf:jP F W W')(h1:∀b∈xG A1,b∉F)(h2:∀b∈xG A2,b∉F):TlR W' A1 n1 A2 n2 t:=by
 obtain⟨k1,k2,k3⟩:=h;refine⟨k1.keep hf h1,k2,?_⟩;rcases k3 with k3|⟨g,d,rfl,k4,k5⟩
 ·exact .b k3
 ·exact .a ⟨g,d,rfl,hf.box k4 (h2 g (by simp[xG])),k5⟩
theorem TlR.go{W W':ak}{A1 A2:Option aV}{n1 n2:Nat}{t:Tl}(h:TlR W A1 n1 A2 n2 t)(hb:aM W.a.j W W'):TlR W' A1 n1 A2 n2 t:=h.keep (F:=[]) (jP.jF hb) (fun _ _ h=>by cases h) (fun _ _ h=>by cases h)
structure MO(W:ak)(q:Nat)(e:En)(s:qE)(x:Eg)(q2 g:Nat)(sl:List (Option Fw)):Prop where
 eg:dP W q x.ay
 key:x.key=e.key
 cf:x.cf={e.c with qF:=x.cf.qF,gT:=x.cf.gT,qX:=x.cf.qX}
 nP:x.pl.nP=s.nP
 vs:iT Vp.ay 20 W W.a.j x.cf.qF x.cf.gT e.vs
 h:iT Bk.ay 27 W W.a.j x.pl.rA x.pl.rN s.h
 hl:iT Hl.ay 3 W W.a.j x.Pg x.EL s.J
 fl:x.fl=some q2
 tb:Lf W q2 g e.key e.c.dV sl s.tQ
 rm:e.c.dV*2<=sl.a
 nq:q≠q2/\q≠g
 IL:∀b∈qY x,b<W.a.j/\b≠q/\b≠q2/\b≠g
 ig:x.ig=s.ig
 no:x.no=s.no
 mV:x.mV=s.mV
structure Ab(W:ak)(q:Nat)(e:En)(s:qE)(x:Eg)(q2 g:Nat)(sl:List (Option Fw)):Prop where
 b:MO W q e s x q2 g sl
 dn:iT txA 1 W W.a.j x.dnA x.dnN (oM s.J)
 tt:TlR W x.tb.um x.tb.r9 x.tb.rG x.tb.qB (Bj e s)
variable {W W':ak} {q:Nat} {e:En} {s:qE} {x:Eg} {q2 g:Nat} {sl:List (Option Fw)}
theorem MO.go(h:MO W q e s x q2 g sl)(hb:aM W.a.j W W'):MO W' q e s x q2 g sl:=
 ⟨h.eg.go hb,h.key,h.cf,h.nP,h.vs.go hb,h.h.go hb,h.hl.go hb,h.fl,h.tb.go hb,h.rm,h.nq,fun b hm=>by have:=h.IL b hm;have:=hb.j;omega,h.ig,h.no,h.mV⟩
theorem Ab.go(h:Ab W q e s x q2 g sl)(hb:aM W.a.j W W'):Ab W' q e s x q2 g sl:=⟨h.b.go hb,h.dn.go hb,h.tt.go hb⟩
theorem MO.lt(h:MO W q e s x q2 g sl):q<W.a.j/\q2<W.a.j/\g<W.a.j:=⟨h.eg.lt,h.tb.w.lt⟩
theorem MO.i(h:MO W q e s x q2 g sl){b:Nat}(hb:b∈qY x):b∉[q]:=by have:=h.IL b hb;simp;omega
theorem MO.acV(h:MO W q e s x q2 g sl){A:Option aV}{n c:Nat}{t:Tc}(hf:jP [q] W W')(hb:dP W' q ({x with dnA:=A,dnN:=n,dnC:=c,tb:=t}:Eg).ay)(hr:∀b,b∈xG A\/b∈xG t.um\/b∈xG t.rG->b∈qY x\/W.a.j<=b/\b<W'.a.j):MO W' q e s ({x with dnA:=A,dnN:=n,dnC:=c,tb:=t}:Eg) q2 g sl:=by
 have hs:=hf.j;have hlt:=h.lt;refine⟨hb,h.key,h.cf,h.nP,h.vs.keep hf (fun b hm=>h.i (dX.2 (.b hm))),h.h.keep hf (fun b hm=>h.i (dX.2 (.a (.b hm)))),h.hl.keep hf (fun b hm=>h.i (dX.2 (.a (.a (.b hm))))),h.fl,h.tb.keep hf (by have:=h.nq;simp;omega) (by have:=h.nq;simp;omega),h.rm,h.nq,fun b hm=>?_,h.ig,h.no,h.mV⟩;have key:b∈qY x\/W.a.j<=b/\b<W'.a.j:=by
  rcases dX.1 hm with hm|hm|hm|hm|hm|hm
  ·exact .b (dX.2 (.b hm))
  ·exact .b (dX.2 (.a (.b hm)))
  ·exact .b (dX.2 (.a (.a (.b hm))))
  ·exact hr b (.b hm)
  ·exact hr b (.a (.b hm))
  ·exact hr b (.a (.a hm))
 rcases key with hm|hm
 ·have:=h.IL b hm;omega
 ·omega
theorem og.few{M:Int}(h:og M e s):s.h.a<=1024/\s.J.a<=1024/\∀y∈s.h,y.F.a<=24:=by
 have h1:=(vT.1 h.pl)
 have h2:s.J.a=s.h.a:=by have:=congrArg List.length h.nm;simpa using this
 refine⟨h1.2.2.1,by have:=h1.2.2.1;omega,fun y hy=>?_⟩;have h3:=(h1.2.2.2.1 y hy).1;unfold Bk.Cz xu at h3;simp only[bf,decide_eq_true_eq]at h3;exact h3.1.1.1.2.2
theorem Zv{M:Int}(h:og M e s)(ls:List (List UInt8)):aq6 (lH ls s.h)/\∀y∈lH ls s.h,y.F.a<=1000000:=by
 have hf:=h.few;refine⟨⟨?_,?_,?_⟩,?_⟩
 ·unfold WI lH
  rw[Ae];exact h.srt.imp (fun{a b} hab=>by first|exact hab|exact YV hab)
 ·intro y hy
  unfold lH at hy;obtain⟨z,_,rfl⟩:=jf.1 hy;have:=ar5 z.w;unfold GN;simp only;split<;>omega
 ·unfold lH;rw[bW];exact hf.1
 ·intro y hy
  unfold lH at hy;obtain⟨z,hz,rfl⟩:=jf.1 hy;have:=hf.2.2 z hz;unfold GN;simp only;omega
theorem aru(l:List (List UInt8)):(l.d fun x=>(txA x).a)=l.map fun s=>iK (bK s):=by
 induction l with
 | nil=>rfl
 | cons a l ih=>rw[iW,kV,ih];rfl
theorem iT.st{B n:Nat}{A:Option aV}{l:List (List UInt8)}(h:iT txA 1 W B A n l):aay W B A n l:=by
 have:=h.2.1;rw[aru]at this;exact this
theorem Zx(l:List Hl):(oM l).a<=l.a:=by unfold oM;rw[bW];exact pK _ _
theorem pQ.Ei{T:bL}{n b:Nat}{z c d:Array aB}(K:pQ T n z)(h:dP W b c)(o:Nat)(hc:c.m o (o+n)=d)(hs:o+n<=c.j):(yU T (.c (some ⟨b,o,none⟩))).O ah W=.ok (.d d) W:=by
 obtain⟨_,_,h3,h4⟩:=h.R;rw[K.ld W b o (by rw[h3 o n (by unfold eU;omega)];trivial),h4 o n (by unfold eU;omega),hc]
theorem Eg.akB{x:Eg}(h:dP W q x.ay):W.rangeAt q 0 (x.key.a.map bv):=by
 intro j v hj;have hj6:j<16:=by
  rcases aZ j 16 with h1|h1
  ·exact h1
  ·rw[aT (by simpa using h1)]at hj;cases hj
 have h2:(x.ay.m 0 16)[j]? = (jl x.key)[j]?:=by rw[Eg.abI]
 rw[cu,if_pos (by rw[Eg.J];omega)]at h2;rw[h.R.1,h2];unfold jl;rw[List.getElem?_toArray];exact hj
theorem agQ(key:Vector UInt8 16)(n:Nat)(hp:mh n=true)(hn:n<=65537)(l:List pW)(hk:aq6 l)(hnm:∀x∈l,x.F.a<=1000000)(A:Option aV)(m c:Nat)(w:ak)(hR:iT pW.ay 2 w w.a.j A m l):
 aR ah 27 #[.d (key.a.map bv).toArray,.b .a n,.a A m c] w fun e w'=>∃t:Tc,e=.a (.K #[.d t.ay,.b .a 0])/\TlR w' t.um t.r9 t.rG t.qB (uZ key n l)/\aM w.a.j w w'/\∀b,b∈xG t.um\/b∈xG t.rG->w.a.j<=b/\b<w'.a.j:=by
 refine(aes key n hp hn l hk hnm A m c w hR).g ?_;rintro e w' ⟨A1,n1,c1,A2,n2,c2,rfl,h1,h2,h3,h4⟩;refine⟨⟨A1,n1,c1,A2,n2,c2⟩,rfl,h1,h2,fun b hb=>?_⟩;rcases hb with hb|hb
 ·obtain⟨a,ha,rfl⟩:=Eh.1 hb;exact h3 a ha
 ·obtain⟨a,ha,rfl⟩:=Eh.1 hb;exact h4 a ha
def abV(W:ak)(q:Nat)(e:En)(s:qE)(x:Eg)(q2 g:Nat)(sl:List (Option Fw))(r:lJ)(W':ak):Prop:=
 r=.a (.K #[])/\(∃x',Ab W' q e s x' q2 g sl/\∀b∈qY x',b∈qY x\/W.a.j<=b)/\jP [q] W W'
theorem JX{M:Int}(h:MO W q e s x q2 g sl)(hi:og M e s):aR ah 64 #[.c (some ⟨q,0,none⟩)] W (abV W q e s x q2 g sl):=by
 have akC:=hi.few;obtain⟨⟨sz2,szb,szp⟩,_⟩:=uj hi.cn;have hhn:=h.hl.1;have hbn:=h.h.1;have CD:=ab (al1 s.J x.Pg x.EL x.Tj W h.hl (by omega));unfold TxP at CD;have f72:=(h.eg.R.1 72).trans (Eg.Zt x);have H:=ab h;have HI:=ab hi;have HSH:=ab (Zv hi (oM s.J));have HDN:=ab (Zx s.J);have az':=ab akC;have HSZ:=ab (show(0<=e.c.j/\e.c.j<=65537)/\mh e.c.j.e=true from⟨⟨by omega,szb⟩,szp⟩);have HHN:=ab hhn;have HBN:=ab hbn;clear hi h akC sz2 szb szp hhn hbn;go_enter Tryz.func64,Tryz.ntmps64;go_upto_region 1 with(go_at_call 130;(with_reducible refine CD.i.g ?_);rintro r w1 ⟨A,n,c,rfl,hn,ho,hb⟩;have aE6:=(H.i.eg.go hb).R.2.1 73;have f73:=((H.i.eg.go hb).R.1 73).trans (Eg.an2 x);have H1:=ab (H.i.go hb);have O1:=ab ho;have N1:=ab hn;have F1:=ab (jP.jF (F:=[q]) hb);clear hb ho hn f72)
 obtain⟨x1,hx1⟩:∃x1:Eg,x1={x with dnA:=A,dnN:=n,dnC:=c}:=⟨_,rfl⟩
 have hb1:dP (w1.I ⟨q,73,none⟩ (.a A n c)) q x1.ay:=by
  have:=H1.i.eg.fC 73 (.a A n c);rw[Eg.avO]at this;rw[hx1];exact this
 have hf1:jP [q] W (w1.I ⟨q,73,none⟩ (.a A n c)):=F1.i.set ⟨q,73,none⟩ _ (.b (by simp));have HF1:=ab hf1;have HFR:=ab (lM O1.i);have RDN:=ab (show iT txA 1 (w1.I ⟨q,73,none⟩ (.a A n c)) (w1.I ⟨q,73,none⟩ (.a A n c)).a.j A n (oM s.J)from(iT.jh N1.i O1.i).keep ((jP.refl [q] w1).set ⟨q,73,none⟩ _ (.b (by simp))) (fun b hb=>by have:=lM O1.i b hb;have:=H.i.lt;simp;omega));have RBK:=ab (H.i.h.keep hf1 (fun b hm=>H.i.i (dX.2 (.a (.b hm)))));have HSW:=ab (show W.a.j<=w1.a.j from F1.i.j);have HWS:(w1.I ⟨q,73,none⟩ (.a A n c)).a.j=w1.a.j:=by simp[World.setCell]
 have HWZ:=ab HWS;have HB1:=ab hb1;generalize w1.I ⟨q,73,none⟩ (.a A n c)=w2 at HF1 RDN RBK HWZ HB1 ⊢;clear hb1 hf1 HWS O1 H1 f73 aE6 CD F1;have K1:=ab (fun(w':ak) (t:Tc) (h:dP w' q ({x1 with tb:=t}:Eg).ay)=>show w'.rangeAt q 0 (e.key.a.map bv)/\w'.b ⟨q,17,none⟩=some (.b .a e.c.j)/\(yU 32 (.c (some ⟨q,70,none⟩))).O ah w'=.ok (.d x.pl.ay) w'/\w'.b ⟨q,73,none⟩=some (.a A n c)by
  subst hx1;have hk:x.key=e.key:=H.i.key;have hs:x.cf.j=e.c.j:=by rw[H.i.cf]
  refine⟨?_,?_,kPc.Ei h 70 (Eg.ais _) (by rw[Eg.J];omega),(h.R.1 73).trans (Eg.an2 _)⟩
  ·have hr:=Eg.akB h;rw[<-hk];exact hr
  ·rw[<-hs];exact(h.R.1 17).trans (Eg.GY _))
 have HBX:=ab (show dP w2.drew q ({x1 with tb:=x.tb}:Eg).ay by have:=HB1.i.drew;rw[hx1]at this⊢;exact this);obtain⟨k1,k2,k3,k4⟩:=K1.i _ _ HBX.i;have hxb:=HBN.i;have hdl:=N1.i;have CS:=ab (afD s.h (fun y hy=>HI.i.fi y hy) x.pl.nP x.pl.rA x.pl.rC (oM s.J) A c w2.drew (by rw[hxb];exact RBK.i.ar3) (by rw[hdl];exact RDN.i.ar3.st) (by have:=az'.i;omega) (by have:=az'.i;have:=HDN.i;omega));rw[hxb,hdl]at CS;unfold aaJ at CS
 replace CS:=ab (show aR ah 28 #[.d x.pl.ay,.a A n c] w2.drew _ from CS.i)
 have CM:=ab (fun w (A:Option aV) (m c:Nat) (hR:iT pW.ay 2 w w.a.j A m (lH (oM s.J) s.h))=>agQ e.key e.c.j.e HSZ.i.2 (by have:=HSZ.i.1;omega) _ HSH.i.1 HSH.i.2 A m c w hR);rw[show((e.c.j.e:Nat):Int)=e.c.j from mg HSZ.i.1.1]at CM;have HX1:=ab hx1;clear hx1 hxb hdl;have hU:=Tryz.underlying22;have hI:(ah.l 22).map (·.j)=some (e.key.a.map bv).a:=by rw[bW,nZ];kernel_rfl
 go_region_held_law (fun w'=>w'.rangeAt q 0 (e.key.a.map bv)/\w'.b ⟨q,17,none⟩=some (.b .a e.c.j)/\(yU 32 (.c (some ⟨q,70,none⟩))).O ah w'=.ok (.d x.pl.ay) w'/\w'.b ⟨q,73,none⟩=some (.a A n c))
  (first|exact K1.i _ _ HBX.i|exact K1.i _ _ HB3.i|exact K1.i _ _ HB4.i|exact K1.i _ _ HB5.i|go_keep)
  (first
  | (go_at_call 28;(with_reducible refine CS.i.g ?_);rintro r w3 ⟨A3,c3,rfl,ho3,hb3⟩;have HB3:=ab (HBX.i.go hb3);have CM3:=ab (CM.i w3 A3 _ c3 (iT.jh rfl ho3));have BL3:=ab hb3;clear ho3 hb3)
  | (go_at_call 27;(with_reducible refine CM3.i.g ?_);rintro r w4 ⟨t,rfl,ht,hb4,hf4⟩;have HB4:=ab (HB3.i.go hb4);have HT4:=ab ht;have BL4:=ab (jD BL3.i hb4);have HF4:=ab hf4;have th:=HB4.i.S 75 2 (by rw[Eg.J];omega);have HB5:=ab (show dP (gV w4 q 75 t.ay) q ({x1 with tb:=t}:Eg).ay by have:=HB4.i.setCells 75 t.ay.a;rw[show t.ay.a.toArray=t.ay by simp,Eg.avR]at this;exact this);clear ht hb4 hf4))
 have BW:=ab (jD ((aG w2.a.j w2).drew) BL4.i);have F4:jP [q] W w4:=HF1.i.Y BW.i HF1.i.j;have F5:jP [q] W (gV w4 q 75 t.ay):=F4.grown (mG (dR w4 (some q)) 75 t.ay) (fun k e=>.b (by injection e with e;simp[e]));have FS:jP [q] w4 (gV w4 q 75 t.ay):=(jP.refl [q] w4).grown (mG (dR w4 (some q)) 75 t.ay) (fun k e=>.b (by injection e with e;simp[e]));have hsz:=BW.i.j;have aLJ:=BL3.i.j;have hw1:=HSW.i;have hwz:=HWZ.i;have hs5:=FS.j;have hq:=H.i.lt;have hnew:∀b,b∈xG A\/b∈xG t.um\/b∈xG t.rG->W.a.j<=b/\b<(gV w4 q 75 t.ay).a.j:=fun b hm=>by
  rcases hm with hm|hm
  ·have:=HFR.i b hm;omega
  ·have:=HF4.i b hm
   have h3:w2.drew.a.j=w2.a.j:=rfl;omega
 go_end0;refine⟨rfl,⟨{x with dnA:=A,dnN:=n,dnC:=c,tb:=t},⟨H.i.acV F5 (by have:=HB5.i;rw[HX1.i]at this;exact this) (fun b hm=>.a (hnew b hm)),?_,?_⟩,fun b hm=>?_⟩,F5⟩
 ·have h1:=(RDN.i.go BW.i)
  exact h1.keep FS (fun b hm=>by have:=(hnew b (.b hm)).1;simp;omega)
 ·exact HT4.i.keep FS (fun b hm=>by have:=(hnew b (.a (.b hm))).1;simp;omega) (fun b hm=>by have:=(hnew b (.a (.a hm))).1;simp;omega)
 ·rcases dX.1 hm with hm|hm|hm|hm|hm|hm
  ·exact .b (dX.2 (.b hm))
  ·exact .b (dX.2 (.a (.b hm)))
  ·exact .b (dX.2 (.a (.a (.b hm))))
  ·exact .a (hnew b (.b hm)).1
  ·exact .a (hnew b (.a (.b hm))).1
  ·exact .a (hnew b (.a (.a hm))).1
end
theorem aew(l:List Bk)(v:Int)(A:Option aV)(n c:Nat)(w:ak)(hR:iT Bk.ay 27 w w.a.j A n l)(hn:n<=100000):
 aR ah 73 #[.d (Pc.mk v A n c).ay] w fun e w'=>∃A' n' c',e=.a (.a A' n' c')/\iT txA 1 w' w'.a.j A' n' (l.map (·.F))/\aM w.a.j w w':=by
 have Z0:=ab ((Rz.nil (f:=nmC) (sz:=1) (e:=9) w).new (Pc.mk v A n c).ay 32);have HL:=ab hR.1;have HR:=ab hR;have f1:=(Z0.i.Z.R.1 1).trans (Pc.an1 _);clear hR;go_enter Tryz.func73,Tryz.ntmps73;go_upto_region 1 with fail
 generalize w.alloc (.D (Pc.mk v A n c).ay 32)=w1 at Z0 f1 ⊢;go_wp2_with fail;go_loopw [3,9] (fun v3 v9 wr=>∃k A' n' c',k<=n/\v9=.b .a (k:Nat)/\v3=.a A' n' c'/\Rz nmC 1 9 [(w.a.j,(Pc.mk v A n c).ay)] w wr (.a A' n' c') ((l.E k).map (·.F))) (fun _ v9 _=>n-(intOf v9).e)
 case atStart=>exact⟨0,none,0,0,jo _,rfl,rfl,Z0.i⟩
 case round=>
  obtain⟨k,A1,n1,c1,hk,rfl,rfl,hz⟩:=hrel;by_cases hlt:k<n
  ·have hki:(k:Int)<n:=by omega
   have i1:=jY ((k:Int)+1) (by omega);have hr:=(HR.i.Y hz.X).lD (B':=wr.a.j) hz.X.j;obtain⟨b,o,rfl,hbl,a1,a2⟩:=hr.dW Bk.J jq hlt;obtain⟨x,hx⟩:=cB (l.b k jq);rw[<-hx]at a2;have HS:=ab (show(l.E (k+1)).map (·.F)=(l.E k).map (·.F)++[x.F]by
    rw[dU (by rw[HL.i];exact hlt),jC,hx,au,aC (by rw[HL.i];exact hlt)];rfl)
   have HZ:=ab hz;have Z2:=ab (hz.alloc (.D x.ay 62));have Z3:=ab (Z2.i.alloc (.D (nmC x.F) 9));have RO:=ab (iT.one (f:=nmC) x.F OL (wr.alloc (.D x.ay 62)) 9);simp only[pV]at RO;have HGL:=ab (show((l.E k).map (·.F)).a+1<=1000000 by rw[bW,bE];omega);have BX:=dP.new wr x.ay 62;have f0:=(BX.R.1 0).trans (Bk.qW x);clear hx hz hr BX hbl;go_wp2_with (at_builtin;refine Qi aio rfl (.a 13) (.a 16) rfl rfl Z3.i rfl RO.i HGL.i ?_;intro A5 n5 c5 w5 h5 h6;have Z5:=ab h5;clear h5 h6);go_roundw
   case rel=>exact⟨k+1,A5,n5,c5,by omega,by simp,rfl,by rw[HS.i];exact Z5.i⟩
   case measure=>simp[intOf];omega
  ·obtain rfl:k=n:=by omega
   have hd:decide ((k:Int)<k)=false:=by simp
   have HZ:=ab hz;clear hz;go_wp2;go_ret;have h1:=HZ.i;rw[aK (by rw[HL.i];exact av _)]at h1;exact⟨A1,n1,c1,rfl,h1.rd,h1.X⟩
section
variable {W W':ak} {q:Nat} {e:En} {s:qE} {x:Eg} {q2 g:Nat} {sl:List (Option Fw)}
def Rs(k:Int):aB:=.iface 219 (.b .a k)
def aAb(r:Option (Bk×Bool)):lJ:=match r with
 | some (b,h)=>.a (.K #[.d b.ay,.e h])
 | none=>.panicked [{v:=Rs 8,recovered:=false}]
theorem dP.abW{W:ak}{b o:Nat}{c:Array aB}{t:Tu}(h:dP W b c)(hc:c.m o (o+37)=t.ay)(hs:o+37<=c.j):(yh (.c (some ⟨b,o,none⟩))).O ah W=.ok (.d t.ay) W:=by
 obtain⟨_,_,h3,h4⟩:=h.R;rw[TM W b o (by rw[h3 o 37 (by unfold eU;omega)];trivial),h4 o 37 (by unfold eU;omega),hc]
theorem MO.an'(h:MO W q e s x q2 g sl){W':ak}(hb:aM W.a.j W W'):W'.b ⟨q,74,none⟩=some (.c (some ⟨q2,0,none⟩)):=by
 rw[(h.eg.go hb).R.1 74,Eg.Zu];show some (tJ (x.fl.map fun b=>⟨b,0,none⟩))=_;rw[h.fl];rfl
theorem MO.agR(h:MO W q e s x q2 g sl){W':ak}(hb:aM W.a.j W W'):(yU 32 (.c (some ⟨q,70,none⟩))).O ah W'=.ok (.d x.pl.ay) W':=kPc.Ei (h.eg.go hb) 70 (Eg.ais _) (by rw[Eg.J];omega)
theorem Ab.VI(h:Ab W q e s x q2 g sl){M:Int}(hi:og M e s){W':ak}(hb:aM W.a.j W W')(n:List UInt8)(K:Bool)(b:Bk)(h1:rX s.h n=K)(h2:qg s.h n=b):aR ah 33 #[.d x.pl.ay,.g (bK n)] W' fun e w'=>e=.a (.K #[.d b.ay,.e K])/\aM W'.a.j W' w':=
 ajs s.h hi.srt n x.pl.nP x.pl.rA x.pl.rN x.pl.rC W' (h.b.h.go hb) (by have:=hi.few;have:=h.b.h.1;omega) K b h1 h2
theorem aoa(k:Vector UInt8 16)(l:List UInt8):zi k l<18446744073709551616:=by
 have key:∀(ws:List Nat)(st:S4),st.ok->(∀n∈ws,n<18446744073709551616)->(ws.foldl UZ st).ok:=by
  intro ws
  induction ws with
  | nil=>intro st h _;exact h
  | cons n ws ih=>intro st h hw;exact ih _ (aax h (hw n (by simp))) (fun m hm=>hw m (kr _ hm))
 unfold zi alW;exact apD (Nn 4 _ (aaw (key _ _ (ahv k) (Yo _ l _ rfl (fP _ (by decide)))) (by decide)))
theorem aob(r:Option (List UInt8)):as3 r = .K #[.g (bK (r.b [])),.e r.isSome]:=by cases r<;>rfl
theorem avT{M:Int}(hi:og M e s):az8 (Bj e s)/\(Bj e s).vD.a<=65537/\(Bj e s).h.a<=1024:=by
 obtain⟨⟨_,szb,szp⟩,_⟩:=uj hi.cn;have h0:∀y∈lH (oM s.J) s.h,0<=y.q:=fun y hy=>((Zv hi (oM s.J)).1.2.1 y hy).1
 have hnl:(Bj e s).h.a<=1024:=by
  have h1:=hi.few.1;unfold Bj uZ;simp only;split
  ·simp
  ·simp only[bW]
   refine aP (pK _ _) ?_;unfold lH;rw[bW];exact h1
 rcases YB (key:=e.key) szp h0 with⟨h1,h2⟩|⟨h1,h2⟩
 ·refine⟨fun j hj=>?_,?_,hnl⟩
  ·have:(Bj e s).vD.a=0:=by unfold Bj;rw[h1];rfl
   omega
  ·have:(Bj e s).vD.a=0:=by unfold Bj;rw[h1];rfl
   omega
 ·refine⟨fun j hj=>h2 j (by unfold Bj at hj;rwa [h1]at hj),?_,hnl⟩
  have:(Bj e s).vD.a=e.c.j.e:=h1;omega
theorem kBk:pQ 62 27 jq.ay:=⟨⟨_,Tryz.underlying62,rfl⟩,by kernel_rfl,by kernel_rfl,Bk.J _⟩
theorem dP.avU{W:ak}{b:Nat}{y:Bk}(h:dP W b y.ay):(UC (.c (some ⟨b,0,none⟩))).O ah W=.ok (.d y.ay) W:=by
 have:=kBk.Ei h 0 (d:=y.ay) (by have:=Bk.J y;rw[<-this];simp) (by rw[Bk.J];omega);exact this
theorem XT{M:Int}(h:Ab W q e s x q2 g sl)(hi:og M e s)(t:Tu)(ht:yj t):aR ah 136 #[.c (some ⟨q,0,none⟩),.d t.ay] W fun r W'=>r=aAb (Ef e s t)/\aM W.a.j W W':=by
 have Z0:=ab (((Bx.start W).new t.ay 81).new jq.ay 62);rw[show(W.alloc (.D t.ay 81)).a.j=W.a.j+1 by simp]at Z0;have H:=ab h;have HI:=ab hi;have HT:=ab ht;obtain⟨o,ho⟩:=cB (qp s.tQ t);have HO:=ab ho;have CG:=ab (fun(w:ak) (hb:aM W.a.j W w)=>KU (H.i.b.tb.go hb) t);rw[<-ho]at CG;have hcg:∀o,anN o = .K #[.d (xB o).rP.ay,.e o.isSome]:=fun _=>rfl
 simp only[hcg]at CG;clear h hi ht ho hcg;go_enter Tryz.func136,Tryz.ntmps136;go_upto_region 1 with fail
 generalize(W.alloc (.D t.ay 81)).alloc (.D jq.ay 62)=w1 at Z0 ⊢;refine yw (Bx.abg ([(W.a.j+1,jq.ay),(W.a.j,t.ay)]) W) 9 10 8 6 22 86 lu.ay (by kernel_rfl) rfl rfl rfl rfl rfl (by kernel_rfl) (by kernel_rfl) (by kernel_rfl) (by kernel_rfl) (by kernel_rfl) rfl rfl rfl (fun a w=>by simp[go_sem]) (uL rfl) Z0.i.drew ?_;apply sJ;refine⟨fun T f hT es ew=>?_,?_⟩
 ·have EW:=ab ew
  have ES:=ab es;have l1:=fun m=>qj (ES.i m).b1
  have l2:=fun m=>H.i.b.an' (ES.i m).X
  have CF:=ab (fun m=>CG.i _ (ES.i m).X);clear es ew;simp only[nI,zC,lI,bH,bQ,jV,kC]
  repeat(go_big_quiet_step ((first|(go_at_call 126;(with_reducible refine(CF.i _).g ?_);rintro e w2 ⟨rfl,hb⟩;exact⟨rfl,EW.i _ _ hb⟩))))
  exact iw rfl
 ·intro w9 w8 Bg _ hb
  have ZN:=ab ((Bg.new lu.ay 86).go hb);have hyy:=ab Bg;have hy:=Bg.X.j;have hyv:=ab (fun p (hp:p∈[(W.a.j+1,jq.ay),(W.a.j,t.ay)])=>((Bg.2 p hp).2.lt:p.1<w9.a.j));generalize w9.a.j=y at *;clear hb Bg;have zS:=ZN.i.Z.S 0 41 (aU (Fw.J lu).symm);refine⟨gV w8 y 0 (xB o).rP.ay,?_,?_⟩
  ·simp[go_sem,zS];rfl
  simp only[Act.put,bI,bH,bQ,jW,lN];have Z5:=ab (ZN.i.put (fun p hp=>iO (hyv.i p hp)) (xB o).rP.ay (by rw[Fw.J,Fw.J]));have HYB:=ab (fun p hp=>hyv.i p hp);clear zS ZN hyy hyv;generalize gV w8 y 0 (xB o).rP.ay=w9 at Z5 ⊢;go_step;go_step;go_step;have hlt:=H.i.b.lt;have hyW:W.a.j<=y:=by have:=HYB.i (W.a.j,t.ay) (by simp);simp at this;omega
  obtain⟨z,hz⟩:=cB ((match o with|some f=>!yG (oM s.J) f.F|none=>false));go_upto_region 2 with fail
  go_cut [33]from 23 to 32 (fun s33 wx=>s33=.e z/\Bx [(y,(xB o).rP.ay),(W.a.j+1,jq.ay),(W.a.j,t.ay)] W wx)
  case first=>
   cases o with
   | none=>
     go_wp2_with fail;go_quiet (fail);go_wp2_with fail;go_meet
     case rel=>exact⟨by rw[hz],Z5.i.go (eD (aG _ _) nq)⟩
   | some f=>
     have CC:=ab (fun n=>Np (oM s.J) f.F x.dnA x.dnC (w9.drewN n) (by rw[H.i.dn.1];exact(H.i.dn.go (Z5.i.X.trans ((eD (aG W.a.j _) n).g (av _)))).st) (by have:=Zx s.J;have:=HI.i.few;omega));rw[H.i.dn.1]at CC;have f73:=((H.i.b.eg.go Z5.i.X).R.1 73).trans (Eg.an2 x);have f37:=(Z5.i.Z.R.1 37).trans (Fw.afO f);go_wp2_with fail;go_quiet ((go_at_call 87;(with_reducible refine(CC.i _).g ?_);rintro e w2 ⟨rfl,rfl⟩;exact⟨rfl,_,rfl⟩));go_wp2_with fail;go_meet
     case rel=>exact⟨by rw[hz],Z5.i.go (eD (aG _ _) nq)⟩
  obtain⟨rfl,Z6⟩:=hcut;have Z6:=ab Z6;generalize wc=w10 at Z6 ⊢;clear Z5 CG;go_upto_if 33 with fail
  go_cut []from 34 to 45 (fun wx=>Ox s t=none/\Bx [(W.a.j+1,jq.ay),(W.a.j,t.ay)] W wx)
  case first=>
   cases z with
   | false=>
     have HN:Ox s t=none:=by
      unfold Ox;rw[<-HO.i];cases o with
      | none=>rfl
      | some f=>simp only at hz⊢;rw[<-hz];simp
     go_wp2_with fail;go_meet
     case rel=>exact⟨HN,Z6.i.sub (L':=[(W.a.j+1,jq.ay),(W.a.j,t.ay)]) (by simp)⟩
   | true=>
     cases o with
     | none=>cases hz
     | some fl=>
       have HD:=ab (show yG (oM s.J) fl.F=false by simpa using hz.symm);obtain⟨K,hK⟩:=uP (rX s.h fl.F);obtain⟨b,hb⟩:=uP (qg s.h fl.F);have CP:=ab (fun w (hb':aM W.a.j W w)=>H.i.VI HI.i hb' fl.F K b hK hb);have HK:=ab hK;have IC:=ab hb;have HO2:=ab HO.i;have Z6:=ab (show Bx [(y,fl.ay),(W.a.j+1,jq.ay),(W.a.j,t.ay)] W w10 from Z6.i);clear hK hb hz;go_upto_region 3 with fail
       refine yw (Bx.abg ([(y,fl.ay),(W.a.j+1,jq.ay),(W.a.j,t.ay)]) W) 10 11 9 8 43 62 jq.ay (by kernel_rfl) rfl rfl rfl rfl rfl (by kernel_rfl) (by kernel_rfl) (by kernel_rfl) (by kernel_rfl) (by kernel_rfl) rfl rfl rfl (fun a w=>by simp[go_sem]) (uL rfl) Z6.i.drew ?_;apply sJ;refine⟨fun T f hT es ew=>?_,?_⟩
       ·have EW:=ab ew
        have ES:=ab es;have l1:=fun m=>H.i.b.agR (ES.i m).X
        have l2:=fun m=>((ES.i m).Z.R.1 37).trans (Fw.afO fl)
        have CF:=ab (fun m=>CP.i _ (ES.i m).X);clear es ew;simp only[nI,zC,lI,bH,bQ,jV,kC]
        repeat(go_big_quiet_step ((first|(go_at_call 33;(with_reducible refine(CF.i _).g ?_);rintro e w2 ⟨rfl,hb⟩;exact⟨rfl,EW.i _ _ hb⟩))))
        exact iw rfl
       ·intro w9 w8 Bg _ hb
        have ZN:=ab ((Bg.new jq.ay 62).go hb);have hyy:=ab Bg;have hy:=Bg.X.j;have hyv:=ab (fun p (hp:p∈[(y,fl.ay),(W.a.j+1,jq.ay),(W.a.j,t.ay)])=>((Bg.2 p hp).2.lt:p.1<w9.a.j));generalize w9.a.j=y_1 at *;clear hb Bg;have zS:=ZN.i.Z.S 0 27 (aU (Bk.J jq).symm);refine⟨gV w8 y_1 0 b.ay,?_,?_⟩
        ·simp[go_sem,zS];rfl
        simp only[Act.put,bI,bH,bQ,jW,lN];have Z7:=ab (ZN.i.put (fun p hp=>iO (hyv.i p hp)) b.ay (by rw[Bk.J,Bk.J]));have HYC:=ab (fun p hp=>hyv.i p hp);clear zS ZN hyy hyv CP;generalize gV w8 y_1 0 b.ay=w11 at Z7 ⊢;go_step;go_step;go_step;cases K with
        | false=>
          have HN:=ab (show Ox s t=none by unfold Ox;rw[<-HO2.i];simp only;rw[HK.i];rfl);go_wp2_with fail;go_meet
          case rel=>exact⟨HN.i,Z7.i.sub (L':=[(W.a.j+1,jq.ay),(W.a.j,t.ay)]) (by simp)⟩
        | true=>
          have HN:=ab (show Ef e s t=some (b,true)by
           have:Ox s t=some fl.F:=avk HO2.i.symm HK.i HD.i;unfold Ef;rw[this];simp only;rw[IC.i])
          have lb:=Z7.i.Z.avU;have th:=Z7.i.b2.S 0 27 (aU (Bk.J jq).symm);have Z8:=ab ((Z7.i.sub (L':=[(W.a.j+1,jq.ay),(W.a.j,t.ay)]) (by simp)).put (fun p hp=>by simp at hp;subst hp;simp) b.ay (by rw[Bk.J,Bk.J]));go_wp2;refine aO (kBk.rb rfl _ rfl Z8.i.Z (Bk.J _)) rfl ?_;rw[HN.i];exact⟨rfl,Z8.i.X⟩
  obtain⟨hn,Zc⟩:=hcut;have HN:=ab hn;have Zc:=ab Zc;have hok:=avT HI.i;obtain⟨hh,hhe⟩:∃v,v=zi e.key (MX t):=⟨_,rfl⟩
  have hhl:hh<18446744073709551616:=by rw[hhe];exact aoa _ _
  have CH:=ab (fun w=>Rl e.key t HT.i w);rw[<-hhe]at CH;obtain⟨r,hr⟩:=cB (Il (Bj e s) hh);have CK:=ab (fun w (hb:aM W.a.j W w)=>show aR ah 35 #[.d x.tb.ay,.b .c (hh:Nat)] w fun e w'=>e=.a (.K #[.g (bK (r.b [])),.e r.isSome])/\aM w.a.j w w' by
   rw[<-aob,hr];exact agN (Bj e s) hok.1 hh hhl x.tb.um x.tb.r9 x.tb.Dy x.tb.rG x.tb.qB x.tb.zH w (H.i.tt.go hb) (by have:=H.i.tt.2.1;omega) (by have:=H.i.tt.1.1;omega))
  have HRR:=ab (show Il (Bj e s) (ahZ e t)=r by rw[hr,hhe];rfl);clear hn hok hhe hhl hr Z6 hz hyW;generalize wc=w12 at Zc ⊢;go_wp2_with fail;obtain⟨T,f,n0,E0,es,ew⟩:=yL (w12);have hT:Nonempty T:=⟨n0⟩
  have ES:=ab es;have EW:=ab ew;have l1:=fun m=>qj (Zc.i.go (es m)).b1
  have l2:=fun m=>kTc.Ei (H.i.b.eg.go (Zc.i.go (es m)).X) 75 (Eg.an3 _) (by rw[Eg.J];omega)
  have l3:∀m,(yU 22 (.c (some ⟨q,0,none⟩))).O ah (f m)=.ok (.d (jl e.key)) (f m):=fun m=>by have:=WE.Ei (H.i.b.eg.go (Zc.i.go (es m)).X) 0 (Eg.abI _) (by rw[Eg.J];omega);rw[H.i.b.key]at this;exact this
  have CK2:=ab (fun m=>CK.i (f m) (Zc.i.go (es m)).X);clear es ew;refine qh f (by kernel_rfl) (by kernel_rfl) n0 E0 ?_
  repeat(go_big_quiet_step ((first|(go_at_call 36;(with_reducible refine(CH.i _).g ?_);rintro e w2 ⟨rfl,hb⟩;exact⟨rfl,EW.i _ ((ES.i _).trans (hb.g (ES.i _).j))⟩)|(go_at_call 35;(with_reducible refine(CK2.i _).g ?_);rintro e w2 ⟨rfl,hb⟩;exact⟨rfl,EW.i _ ((ES.i _).trans (hb.g (ES.i _).j))⟩))))
  refine iw ?_;rintro _ ⟨m',rfl⟩;have HB:=ab (ES.i m');generalize f m'=wN at *;clear ES EW E0 hT n0;clear l1 l2 l3 CK2;have Z9:=ab (Zc.i.go HB.i);clear Zc HB CK CH;cases r with
  | none=>
    have HE:=ab (show Ef e s t=none by unfold Ef;rw[HN.i];simp only;rw[HRR.i];rfl);go_wp2;rw[HE.i];exact⟨rfl,rfl,Z9.i.X⟩
  | some n=>
    obtain⟨K,hK⟩:=uP (rX s.h n);obtain⟨b,hb⟩:=uP (qg s.h n);have HE:=ab (show Ef e s t=some (b,false)by unfold Ef;rw[HN.i];simp only;rw[HRR.i,nS,hb]);have CP:=ab (H.i.VI HI.i Z9.i.X n K b hK hb);have l1:=H.i.b.agR Z9.i.X;clear hK hb;go_wp2_with (go_at_call 33;(with_reducible refine CP.i.g ?_);rintro r w13 ⟨rfl,aAc⟩;have Z10:=ab ((Z9.i.go aAc).new b.ay 62);have lb:=Z10.i.Z.avU;have th:=Z10.i.b1.S 0 27 (aU (Bk.J jq).symm);clear aAc l1);have Z8:=ab ((Z10.i.sub (L':=[(W.a.j+1,jq.ay),(W.a.j,t.ay)]) (by simp)).put (fun p hp=>by simp at hp;subst hp;simp) b.ay (by rw[Bk.J,Bk.J]));refine aO (kBk.rb rfl _ rfl Z8.i.Z (Bk.J _)) rfl ?_;rw[HE.i];exact⟨rfl,Z8.i.X⟩
end
section
attribute [local go_sem high] iR jI
theorem aAd:ajC 351:=⟨fun c w=>by
 go_enter Tryz.func351,Tryz.ntmps351;go_wp2;go_ret;exact⟨rfl,rfl⟩,fun args w=>by kernel_rfl⟩
theorem akD(s:Bool)(a:fD)(w:ak):aR ah 307 #[.e s,.d a.ay] w (gY w (.e (a.h==s&&(s||a.mO)))):=by
 have HB:=ab ((aG w.a.j w).alloc (av _) (.D a.ay 27));have x0:=dP.new w a.ay 27;have C:=ab (ahS _ aAd _ 12 12 _ _ _ (by omega) (gG.tail (B:=w.a.j+1) (nD _) x0));have HS:=ab (KE a);obtain⟨z,hz⟩:=cB (nzB (a.b.a.G 4));rw[<-hz]at C HS;clear hz;have HZ:=ab (show a.mO = !z by rw[HS.i];simp);rw[HZ.i];obtain⟨x1,x2,x3,x4⟩:=x0.R;have a0:=fD.qW a;cases s<;>cases h6:a.h
 all_goals
  rw[h6]at a0;go_enter Tryz.func307,Tryz.ntmps307
  first
   | (go_wp2
      go_ret;exact⟨rfl,HB.i⟩)
   | (go_wp2_with fail
      refine C.i.g ?_;rintro e w' ⟨rfl,rfl⟩;cases z
      all_goals
       go_wp2;go_ret;exact⟨rfl,HB.i⟩)
theorem WZ(W:ak)(A:Option aV)(n c:Nat)(l:List UInt8)(k:Nat)(hk:k+1<n)(hnc:n<=c)(hc:c<=9223372036854775807/\n<=1000000)(hr:gG W W.a.j A n l):aR ah 312 #[.a A n c,.b .a k] W (gY W (.b .u16 (dF l k:Nat))):=by
 have hl:=hr.len;have h0:=ab (wK l k);have h1:(k:Int)+2<=c:=by omega
 have h2:(k:Int)<=(k:Int)+2:=by omega
 obtain⟨m,hm⟩:∃m:Nat,m=k+2:=⟨_,rfl⟩
 have h3:(k:Int)+2=m:=by omega
 have w1:=jY ((k:Int)+2) (by omega);have h4:(k:Int)<=m:=by omega
 have h5:(m:Int)<=c:=by omega
 have P:=hr.XE (z:=k) (b:=m) (c:=c) (by omega) (by omega) hnc;have e2:(l.E m).G k=(l.G k).E 2:=by rw[oQ,hm,cZ]
 rw[e2]at P;have C:=ab (Na _ (m-k) (c-k) _ W (by omega) (by omega) P);rw[JF l k (by omega)]at C;have h6:El.wrap (dF l k:Nat)=(dF l k:Nat):=by have:=h0.i;simp[wP,oH,mH];omega
 generalize dF l k=x at *;clear P hr e2 hm;go_enter Tryz.func312,Tryz.ntmps312;go_wp2_with (go_at_call 180;with_reducible refine C.i.g ?_;rintro e w' ⟨rfl,hb⟩);go_ret
 first
 | exact⟨rfl,hb⟩
 | exact⟨congrArg (fun z=>Ending.returned (.b .u16 z)) h6,hb⟩
theorem Hz{B:Nat}{L:List (Nat×Array aB)}{w0 W:ak}{A:Option aV}{c:Nat}{bs:List UInt8}(h:Ly B L w0 W (.a A bs.a c) bs)(k z:Nat)(hz:z<=65535)(hk:k+2<=bs.a)(hl:bs.a<=1000000):aR ah 310 #[.a A bs.a c,.b .a k,.b .u16 z] W fun e W'=>e=.a (.K #[])/\Ly B L w0 W' (.a A bs.a c) (rZ bs k (oV z)):=by
 obtain⟨g,hg1,hg2,hg3,hg4,hg5⟩:=h.h (by omega);subst hg1;have LD:=ab h.drew;have q7:jG.wrap (z:Int)=(z:Int):=by rw[jZ];omega
 have PZ:=ab (fun W=>xH z hz W);rw[wu z hz]at PZ;obtain⟨n,hn⟩:=cB bs.a;have HN:=ab hn;rw[<-hn]at LD hg3 hk hl ⊢;have k1:(k:Int)<=n:=by omega
 have HP:=ab (show 0<2->∃g',(some ⟨g,0,none⟩:Option aV)=some ⟨g',0,none⟩/\sH (some ⟨g,0,none⟩) k c 1=some ⟨g',k,none⟩from fun _=>⟨g,rfl,Qr (n:=0) (by omega)⟩);have HZ:=ab (show k+2<=bs.a by omega);have HM:=ab (show 2=qO 2 (n-k)by show 2=min 2 (n-k);omega);clear hn hg2 h;go_enter Tryz.func310,Tryz.ntmps310;go_wp2_with fail;go_region_held_law (fun _=>True) (trivial)
  (first
  | (go_at_call 184;(with_reducible refine(PZ.i _).g ?_);rintro e w9 ⟨A9,rfl,ho,hb⟩;have R9:=ab (Ec ho (aG _ _));have L9:=ab (LD.i.go hb);clear ho hb)
  | (refine Ov (o:=⟨some 12,_,_,_,_,_⟩) rfl (.a 8) (.a 11) rfl (some ⟨g,0,none⟩) n c L9.i k 2 (sH (some ⟨g,0,none⟩) k c 1) (n-k) (c-k) rfl A9 2 2 rfl R9.i HM.i HP.i HZ.i ?_;intro w10 h10 h11;have L10:=ab h10;clear h10 h11))
 go_wp2;go_end0;exact⟨rfl,L10.i⟩
end
structure Pz where
 h:Int
 j:Int
 ni:Int
def Pz.ay(x:Pz):Array aB:=#[.b .a x.h,.b .a x.j,.b .a x.ni]
theorem Pz.J(x:Pz):x.ay.j=3:=by simp[Pz.ay]
theorem Pz.dx(x:Pz):x.ay.all (·.h)=true:=by simp[Pz.ay,dA]
@[go_sem]theorem Pz.eU(x:Pz):eU x.ay=3:=Pz.J x
@[go_sem]theorem Pz.Cg(x:Pz):x.ay[0]? = some (.b .a x.h):=by simp[Pz.ay,aD]
@[go_sem]theorem Pz.GY(x:Pz):x.ay[1]? = some (.b .a x.j):=by simp[Pz.ay,aD]
@[go_sem]theorem Pz.GX(x:Pz):x.ay[2]? = some (.b .a x.ni):=by simp[Pz.ay,aD]
theorem Pz.aex(x:Pz)(v:Int):x.ay.c 0 (.b .a v)=({x with h:=v}:Pz).ay:=by simp[Pz.ay,aL]
theorem Pz.aey(x:Pz)(v:Int):x.ay.c 2 (.b .a v)=({x with ni:=v}:Pz).ay:=by simp[Pz.ay,aL]
def abX:Pz:=⟨0,0,0⟩
@[go_sem]theorem aAe:cO #[aI bT 0,aI bT 0,aI bT 0]=cO abX.ay:=rfl
@[go_sem]theorem avV:eX #[aI bT 0,aI bT 0,aI bT 0] 376=eX abX.ay 376:=rfl
theorem kPz:pQ 376 3 abX.ay:=⟨⟨_,Ev,rfl⟩,by kernel_rfl,by kernel_rfl,Pz.J _⟩
@[go_sem ↓]theorem aLM(v:aB):dw 376 v=yU 376 v:=rfl
@[go_sem ↓]theorem aLN(v x:aB):eY 376 v x=zX 376 v x:=rfl
@[go_sem]theorem aE9(W:ak)(c:Array aB)(x:Pz)(b:Nat)(hb:b=W.a.j)(hc:eU c=3):(zX 376 (.c (some ⟨b,0,none⟩)) (.d x.ay)).O ah (W.alloc (.D c 376))=.ok () (W.alloc (.D x.ay 376)):=kPz.stN W c x.ay b hb hc (Pz.J x) (Pz.dx x)
@[go_sem]theorem aH7(W:ak)(b o:Nat)(x:Pz)(h:W.S b o 3):(zX 376 (.c (some ⟨b,o,none⟩)) (.d x.ay)).O ah W=.ok () (gV W b o x.ay):=kPz.st W b o x.ay h (Pz.J x) (Pz.dx x)
@[go_sem ↓]theorem aLO(ps:Array (Nat×aB)):fU 376 ps=vK 376 ps:=rfl
theorem aE'(w:ak)(fs:Array oz)(h:ah.k 376=some (.d fs)):(iI (fun f=>Prod.mk f.offset <$> sizeOf f.type) fs:yA (Array (Nat×Nat))).O ah w=.ok #[(0,1),(1,1),(2,1)] w:=by
 have e:=Ev;rw[h]at e;cases e;show _=_
 kernel_rfl
@[go_sem]theorem aAf(W:ak)(iH:Int)(size:Int)(ni:Int):(vK 376 #[(0,.b .a iH),(1,.b .a size),(2,.b .a ni)]).O ah W=.ok (.d (Pz.mk iH size ni).ay) W:=kPz.bd W _ _ _ _ Ev (aE' W _ Ev) (by
 refine vV (Pz.J _) ?_ ?_
 ·simp[sF,dz]
 ·simp[rM,dz,Pz.ay]<;>(simp only[<-gD];rfl))
def Cj(p:Pk)(dst:Bool):Pz:=⟨(p.h+if p.K.h.h then 8 else 12)+(if dst then(if p.K.h.h then 16 else 4)else 0),if p.K.h.h then 16 else 4,p.ru+if dst then 2 else 0⟩
theorem aez(p:Pk)(dst:Bool)(h1:0<=p.h/\p.h<=10000000)(h2:0<=p.ru/\p.ru<=10000000)(w:ak):aR ah 309 #[.d p.ay,.e dst] w (gY w (.d (Cj p dst).ay)):=by
 have h0:=((Bx.start w).new p.ay 83).new abX.ay 376;rw[show(w.alloc (.D p.ay 83)).a.j=w.a.j+1 by simp]at h0;have Z0:=ab h0;have HV:=ab (show Cj p dst=⟨(p.h+if p.K.h.h then 8 else 12)+(if dst then(if p.K.h.h then 16 else 4)else 0),if p.K.h.h then 16 else 4,p.ru+if dst then 2 else 0⟩from rfl);clear h0;have KS:=ab (fun(w':ak) (h:dP w' w.a.j p.ay)=>show w'.b ⟨w.a.j,1,none⟩=some (.e p.K.h.h)/\w'.b ⟨w.a.j,39,none⟩=some (.b .a p.h)/\w'.b ⟨w.a.j,40,none⟩=some (.b .a p.ru)from⟨(h.R.1 1).trans (by simp[Pk.ay,Tu.ay,aD,fD.J,Tu.J];rfl),(h.R.1 39).trans (Pk.af5 p),(h.R.1 40).trans (Pk.af6 p)⟩);go_enter Tryz.func309,Tryz.ntmps309;go_upto_region 1 with fail
 generalize(w.alloc (.D p.ay 83)).alloc (.D abX.ay 376)=w0 at Z0 ⊢;obtain⟨f1,f2,f3⟩:=KS.i _ Z0.i.b1;have q1:=jY (p.h+12) (by omega);have q2:=jY (p.h+8) (by omega);have P0:=ab (Z0.i.new (Pz.mk (p.h+12) 4 p.ru).ay 376);have hy:=Z0.i.Z.lt;go_upto_region 2 with fail
 generalize w0.alloc (.D (Pz.mk (p.h+12) 4 p.ru).ay 376)=w1 at P0 ⊢;generalize w0.a.j=y at P0 hy ⊢;clear f1 f2 f3;obtain⟨f1,f2,f3⟩:=KS.i _ P0.i.b2;cases hs:p.K.h.h
 case false=>
  rw[hs]at f1;cases hd:dst
  case false=>
   go_upto_region 7 with fail
   have l5:=kPz.nR P0.i.Z (Pz.J _);have zS:=P0.i.b1.S 0 3 (aU (Pz.J abX).symm);have ZF:=ab ((P0.i.swap).put (fun r hr=>by
    simp only[bD,gu,or_false]at hr;rcases hr with rfl|rfl<;>simp only[]<;>omega) (Pz.mk (p.h+12) 4 p.ru:Pz).ay (by rw[Pz.J,Pz.J]))
   go_wp2;refine aO (kPz.Aj rfl _ rfl ZF.i.Z (Pz.J _)) rfl ?_;refine⟨?_,ZF.i.X⟩;simp[Cj,hs,hd]
  case true=>
   have c0:=(P0.i.Z.R.1 0).trans (Pz.Cg _);have c1:=(P0.i.Z.R.1 1).trans (Pz.GY _);have z0:=P0.i.Z.R.2.1 0;have q5:=jY (p.h+12+4) (by omega);have P1:=P0.i.set (fun r hr=>by
    simp only[bD,gu,or_false]at hr;rcases hr with rfl|rfl<;>simp only[]<;>omega) 0 (.b .a (p.h+12+4))
   rw[Pz.aex]at P1;have P1:=ab P1;go_upto_region 6 with fail
   clear c0 c1 z0;generalize w1.I ⟨y,0,none⟩ (.b .a (p.h+12+4))=w8 at P1 ⊢;have c2:=(P1.i.Z.R.1 2).trans (Pz.GX _);have z2:=P1.i.Z.R.2.1 2;have q6:=jY (p.ru+2) (by omega);have P2:=P1.i.set (fun r hr=>by
    simp only[bD,gu,or_false]at hr;rcases hr with rfl|rfl<;>simp only[]<;>omega) 2 (.b .a (p.ru+2))
   rw[Pz.aey]at P2;have P2:=ab P2;go_upto_region 7 with fail
   clear c2 z2;generalize w8.I ⟨y,2,none⟩ (.b .a (p.ru+2))=w9 at P2 ⊢;have l5:=kPz.nR P2.i.Z (Pz.J _);have zS:=P2.i.b1.S 0 3 (aU (Pz.J abX).symm);have ZF:=ab ((P2.i.swap).put (fun r hr=>by
    simp only[bD,gu,or_false]at hr;rcases hr with rfl|rfl<;>simp only[]<;>omega) (Pz.mk (p.h+12+4) 4 (p.ru+2):Pz).ay (by rw[Pz.J,Pz.J]))
   go_wp2;refine aO (kPz.Aj rfl _ rfl ZF.i.Z (Pz.J _)) rfl ?_;refine⟨?_,ZF.i.X⟩;simp[Cj,hs,hd]
 case true=>
  rw[hs]at f1;have aFa:=P0.i.Z.S 0 3 (aU (Pz.J _).symm);have Q0:=ab (P0.i.put (fun r hr=>by
   simp only[bD,gu,or_false]at hr;rcases hr with rfl|rfl<;>simp only[]<;>omega) (Pz.mk (p.h+8) 16 p.ru).ay (by rw[Pz.J,Pz.J]))
  go_upto_region 4 with fail
  clear f1 f2 f3 aFa;generalize gV w1 y 0 (Pz.mk (p.h+8) 16 p.ru).ay=w2 at Q0 ⊢;cases hd:dst
  case false=>
   go_upto_region 7 with fail
   have l5:=kPz.nR Q0.i.Z (Pz.J _);have zS:=Q0.i.b1.S 0 3 (aU (Pz.J abX).symm);have ZF:=ab ((Q0.i.swap).put (fun r hr=>by
    simp only[bD,gu,or_false]at hr;rcases hr with rfl|rfl<;>simp only[]<;>omega) (Pz.mk (p.h+8) 16 p.ru:Pz).ay (by rw[Pz.J,Pz.J]))
   go_wp2;refine aO (kPz.Aj rfl _ rfl ZF.i.Z (Pz.J _)) rfl ?_;refine⟨?_,ZF.i.X⟩;simp[Cj,hs,hd]
  case true=>
   have c0:=(Q0.i.Z.R.1 0).trans (Pz.Cg _);have c1:=(Q0.i.Z.R.1 1).trans (Pz.GY _);have z0:=Q0.i.Z.R.2.1 0;have q5:=jY (p.h+8+16) (by omega);have P1:=Q0.i.set (fun r hr=>by
    simp only[bD,gu,or_false]at hr;rcases hr with rfl|rfl<;>simp only[]<;>omega) 0 (.b .a (p.h+8+16))
   rw[Pz.aex]at P1;have P1:=ab P1;go_upto_region 6 with fail
   clear c0 c1 z0;generalize w2.I ⟨y,0,none⟩ (.b .a (p.h+8+16))=w8 at P1 ⊢;have c2:=(P1.i.Z.R.1 2).trans (Pz.GX _);have z2:=P1.i.Z.R.2.1 2;have q6:=jY (p.ru+2) (by omega);have P2:=P1.i.set (fun r hr=>by
    simp only[bD,gu,or_false]at hr;rcases hr with rfl|rfl<;>simp only[]<;>omega) 2 (.b .a (p.ru+2))
   rw[Pz.aey]at P2;have P2:=ab P2;go_upto_region 7 with fail
   clear c2 z2;generalize w8.I ⟨y,2,none⟩ (.b .a (p.ru+2))=w9 at P2 ⊢;have l5:=kPz.nR P2.i.Z (Pz.J _);have zS:=P2.i.b1.S 0 3 (aU (Pz.J abX).symm);have ZF:=ab ((P2.i.swap).put (fun r hr=>by
    simp only[bD,gu,or_false]at hr;rcases hr with rfl|rfl<;>simp only[]<;>omega) (Pz.mk (p.h+8+16) 16 (p.ru+2):Pz).ay (by rw[Pz.J,Pz.J]))
   go_wp2;refine aO (kPz.Aj rfl _ rfl ZF.i.Z (Pz.J _)) rfl ?_;refine⟨?_,ZF.i.X⟩;simp[Cj,hs,hd]
section
attribute [local go_sem high] iR jI
@[go_sem]theorem Pk.avW(x:Pk):x.ay[1]? = some (.e x.K.h.h):=by simp[Pk.ay,Tu.ay,aD,fD.J,Tu.J];rfl
@[go_sem]theorem Pk.aAg(x:Pk):x.ay[35]? = some (.b .a x.K.aN):=by simp[Pk.ay,Tu.ay,tuT,aD,fD.J,Tu.J]
theorem W9(l:List UInt8)(A:Option aV)(n c:Nat)(w:ak)(hR:gG w w.a.j A n l)(hn:n<=1073741824):
 aR ah 308 #[.a A n c] w (ClY w n l):=by
 have hll:=hR.len;cases A with
 | some a=>
   have hnil:∀W:ak,(binOp .eql 56 (.a (some a) n c) (.a none 0 0)).O ah W=.ok (.e false) W:=fun W=>by
    simp only[binOp];simp[jk,dD]
   obtain⟨i0,hi0,hz0,hz1,hzb⟩:=DC LZ;have hz2:(aI .u8 0).D.j=1:=rfl;have O1:=ab (show(w.alloc (.D #[] 5)).c w.a.j 5 1 (.a (some ⟨w.a.j,0,none⟩) 0 0) 0 []from World.ownsRow_lit w #[] 0 (av _) (by unfold maxLen;omega) rfl);have O2:=ab (hR.alloc (av _) (.D #[] 5));have TD:=ab (show 0+n<=maxLen by unfold maxLen;omega);have TJ:=ab (show(0+n)*1<=140737488355328 by omega);have O3:=ab (show w.a.j<=(w.alloc (.D #[] 5)).a.j by simp);have ON:=ab (Ki l);clear hR hll;go_enter Tryz.func308,Tryz.ntmps308;go_wp2_with (at_builtin;refine jQ _ rfl (.a 5) (.a 6) _ rfl w.a.j 5 i0 (.b .u8 0) 1 1 dD hi0 hz0 hz1 hzb hz2 (Nat.succ_pos _) (.a (some ⟨w.a.j,0,none⟩) 0 0) 0 [] rfl O1.i w.a.j (some a) n c (l.map bv) rfl O2.i ON.i TD.i TJ.i O3.i ?_;intro v1 w1 hown1 hg1 yN);obtain⟨A',c',hv,_,_⟩:=j3 hown1;subst hv;simp only[bC,dJ]at hown1;have hb:=uO ((aG w.a.j w).alloc (av _) (.D #[] 5)) hg1 (av _) O3.i;go_wp2;go_ret;exact⟨A',c',by simp,hown1,hb⟩
 | none=>
   have h0:n=0:=by
    rcases eB n with h0|h0
    ·exact h0
    ·obtain⟨a,ha,_⟩:=hR.2 h0;cases ha
   subst h0;have hl:l=[]:=List.eq_nil_of_length_eq_zero hll;subst hl;have hnil:∀W:ak,(binOp .eql 56 (.a none 0 c) (.a none 0 0)).O ah W=.ok (.e true) W:=fun W=>by
    simp only[binOp];simp[jk,dD]
   have FIN:=ab (show ClY w 0 [] (.a (.a none 0 0)) w from⟨none,0,rfl,fQ _ _ _ _,aG _ _⟩);clear hR hll;go_enter Tryz.func308,Tryz.ntmps308;go_wp2;go_ret;exact FIN.i
theorem agS{l:List UInt8}{p:Pk}(h:am8 l p)(dst:Bool):Cj p dst=⟨(Wi p dst:Nat),(uh p:Nat),(Bv p dst:Nat)⟩/\Wi p dst+uh p<=p.rE.e/\Bv p dst+2<=p.rE.e/\uh p<=16/\4<=uh p:=by
 obtain⟨_,h1,h2,h3,h4,_⟩:=h;unfold Cj Wi uh Bv;rcases h3 with h3|h3
 ·rw[if_pos h3]at h4
  cases hs:p.K.h.h<;>cases dst<;>rw[hs]at h2<;>simp at h2⊢<;> omega
 ·rw[if_neg (by rw[h3];decide)]at h4
  cases hs:p.K.h.h<;>cases dst<;>rw[hs]at h2<;>simp at h2⊢<;> omega
def akE(l:List UInt8)(a:fD)(q:Int)(dst:Bool):List UInt8×Int:=(Ot l a q dst,if Ip l a q then 0 else 1)
theorem Xa(w:ak)(A:Option aV)(n c:Nat)(l:List UInt8)(a:fD)(q:Int)(dst:Bool)(hnc:n<=c)(hc:c<=9223372036854775807/\n<=1000000)(hr:gG w w.a.j A n l):aR ah 267 #[.a A n c,.d a.ay,.b .a q,.e dst] w (ajP w (akE l a q dst)):=by
 have Z0:=ab ((Bx.start w).new a.ay 27);have HR:=ab hr;have hl:=ab hr.len;have CR:=ab (zD _ A n c l hnc (by omega) (Z0.i.Oh hr));have HV:=ab (show Ot l a q dst=if Ip l a q then Wj l (lW l) a q.e dst else []from rfl);have HK:=ab (show Ip l a q=((lW l).kind==0&&(a.h==(lW l).K.h.h&&((lW l).K.h.h||a.mO))&&(decide (0<=q)&&decide (q<=65535)))from rfl);have HF:=ab (xM (l:=l));clear hr;go_enter Tryz.func267,Tryz.ntmps267;go_upto_region 1 with fail
 generalize w.alloc (.D a.ay 27)=w1 at Z0 CR ⊢;obtain⟨p,hp⟩:=cB (lW l);have HP:=ab hp;unfold PkP at CR;rw[<-hp]at CR HV HK HF;clear hp;go_upto_region 2 with(go_at_call 32;(with_reducible refine CR.i.g ?_);rintro e w2 ⟨rfl,hb⟩;have Z2:=ab ((Z0.i.go hb).new p.ay 83);have HY:=ab (Z0.i.go hb).Z.lt;clear hb)
 generalize w2.alloc (.D p.ay 83)=w3 at Z2 ⊢;generalize w2.a.j=y at *;have KS:=ab (fun(w':ak) (h:Bx [(y,p.ay),(w.a.j,a.ay)] w w')=>show w'.b ⟨y,0,none⟩=some (.b .a p.kind)/\w'.b ⟨y,1,none⟩=some (.e p.K.h.h)/\(sw (.c (some ⟨w.a.j,0,none⟩))).O ah w'=.ok (.d a.ay) w' from⟨(h.Z.R.1 0).trans (Pk.zB p),(h.Z.R.1 1).trans (Pk.avW p),h.b1.ah2⟩);obtain⟨f1,f2,f3⟩:=KS.i _ Z2.i;have CO:=ab (akD p.K.h.h a w3);have ZG:=ab (fun w' (hb:aM w3.a.j w3 w')=>Z2.i.go hb);have NO:=ab (show Ip l a q=false->akE l a q dst=([],1)from fun h=>by unfold akE;rw[HV.i,h];rfl);cases hk0:(p.kind==0)
 ·have k1:(p.kind != 0)=true:=by rw[bne,hk0];rfl
  have HN:=ab (NO.i (by rw[HK.i,hk0];rfl));clear hk0;go_wp2;go_ret2;rw[HN.i];exact⟨none,0,0,rfl,Ht _,Z2.i.X⟩
 have k1:(p.kind != 0)=false:=by rw[bne,hk0];rfl
 cases ho:(a.h==p.K.h.h&&(p.K.h.h||a.mO))
 ·rw[ho]at CO
  have HN:=ab (NO.i (by rw[HK.i,hk0,ho];rfl));clear hk0 ho;go_wp2_with (go_at_call 307;(with_reducible refine CO.i.g ?_);rintro e w4 ⟨rfl,hb⟩;have Z4:=ab (ZG.i _ hb);clear hb);go_ret2;rw[HN.i];exact⟨none,0,0,rfl,Ht _,Z4.i.X⟩
 rw[ho]at CO;by_cases hq:0<=q/\q<=65535
 ·obtain⟨hq0,hq1⟩:=hq
  have Kl:=ab (show Ip l a q=true by rw[HK.i,hk0,ho,decide_eq_true hq0,decide_eq_true hq1];rfl);have HVO:=ab (show akE l a q dst=(Wj l p a q.e dst,0)by unfold akE;rw[HV.i,Kl.i];rfl);have q1:decide (q<0)=false:=by simp;omega
  have q2:decide ((65535:Int)<q)=false:=by simp;omega
  have FN:=HF.i (by simpa using hk0);have HFN:=ab FN;obtain⟨g0,g1,g2,gp,g3,g4⟩:=FN;have g5:0<=p.rE/\p.rE<=n:=by have:=hl.i;split at g2<;>split at g3<;>omega
  obtain⟨en,hen⟩:∃m:Nat,p.rE=(m:Int):=⟨p.rE.e,by omega⟩
  have HEN:=ab hen;have en1:en<=n:=by omega
  have avX:=ab (show a.h=p.K.h.h by have:=ho;simp only[bf,beq_iff_eq]at this;exact this.1);clear hk0 ho g0 gp g1 g2 g3 g4 g5;go_upto_region 4 with(go_at_call 307;(with_reducible refine CO.i.g ?_);rintro e w4 ⟨rfl,hb⟩;have Z4:=ab (ZG.i _ hb);clear hb)
  have K2:=ab (fun(w':ak) (h:dP w' y p.ay)=>show w'.b ⟨y,41,none⟩=some (.b .a (en:Nat))/\w'.b ⟨y,35,none⟩=some (.b .a p.K.aN)/\w'.b ⟨y,39,none⟩=some (.b .a p.h)/\w'.b ⟨y,40,none⟩=some (.b .a p.ru)from⟨(h.R.1 41).trans ((Pk.Ud p).trans (by rw[HEN.i])),(h.R.1 35).trans (Pk.aAg p),(h.R.1 39).trans (Pk.af5 p),(h.R.1 40).trans (Pk.af6 p)⟩);obtain⟨e1,_,_,_⟩:=K2.i _ Z4.i.Z;have en2:(en:Int)<=c:=by omega
  have CB:=ab (W9 (l.E en) A en c w4 ((Z4.i.Oh HR.i).upN en1) (by omega));go_upto_region 5 with(go_at_call 308;(with_reducible refine CB.i.g ?_);rintro e w5 ⟨A5,c5,rfl,Uf,hb5⟩;have L5:=ab (Ly.anb (w0:=w) (L:=[(y,p.ay),(w.a.j,a.ay)]) Uf Z4.i.X.j (Z4.i.X.trans (hb5.g Z4.i.X.j)) (fun r hr=>⟨((Z4.i.go hb5).2 r hr).2,(Z4.i.2 r hr).2.lt⟩));clear Uf hb5)
  clear e1 f1 f2 f3;have l10:=kPk.nR L5.i.Z (Pk.J _);have KX:=HFN.i;have CF:=ab (aez p dst ⟨by have:=KX.h;omega,by have h1:=KX.ru;have h2:=KX.rE;have h3:=KX.len;have:=hl.i;split at h1<;>split at h2<;>omega⟩ ⟨by have h1:=KX.ru;have h2:=KX.h;split at h1<;>omega,by have h2:=KX.rE;have h3:=KX.len;have:=hl.i;split at h2<;>omega⟩ w5);clear KX;go_upto_region 6 with(go_at_call 309;(with_reducible refine CF.i.g ?_);rintro e w6 ⟨rfl,hb⟩;have HW6:=ab (L5.i.go hb).Z.lt;have L6:=ab ((L5.i.go hb).new (Cj p dst).ay 376);clear hb)
  clear l10;obtain⟨pv,p1,p2,p3,p4⟩:=agS HFN.i dst;rw[HEN.i,cK]at p1 p2;rw[pv]at L6;obtain⟨pa,hpa⟩:∃v,v=Wi p dst:=⟨_,rfl⟩
  obtain⟨ps,hps⟩:∃v,v=uh p:=⟨_,rfl⟩
  obtain⟨pp,hpp⟩:∃v,v=Bv p dst:=⟨_,rfl⟩
  have HPA:=ab hpa;have HPS:=ab hps;have HPP:=ab hpp;rw[<-hpa,<-hps,<-hpp]at L6;rw[<-hpa,<-hps]at p1;rw[<-hpp]at p2;rw[<-hps]at p3 p4;have PV:=ab (pv.trans (by rw[<-hpa,<-hps,<-hpp]:_=(⟨(pa:Nat),(ps:Nat),(pp:Nat)⟩:Pz)));rw[PV.i];clear hpa hps hpp pv;have hy6:y<w6.a.j:=HW6.i;clear HW6;generalize w6.alloc (.D (Pz.mk (pa:Nat) (ps:Nat) (pp:Nat)).ay 376)=w7 at L6 ⊢;generalize w6.a.j=y7 at L6 ⊢;have a0:=(L6.i.Z.R.1 0).trans (Pz.Cg _);have a1:=(L6.i.Z.R.1 1).trans (Pz.GY _);obtain⟨m1,hm1⟩:∃m:Nat,m=pa+ps:=⟨_,rfl⟩
  have s1:=jY ((pa:Int)+(ps:Int)) (by omega);have s2:(pa:Int)+(ps:Int)=m1:=by omega
  rw[s2]at s1;have s3:(pa:Int)<=m1:=by omega
  have s4:(m1:Int)<=c:=by omega
  have s5:(ps:Int)<=16:=by omega
  have HM1:=ab hm1;clear hm1;go_quiet (fail);obtain⟨wz,hwz⟩:=cB (w7.drewN nq);have L7:=ab (show Ly w.a.j [(y7,(Pz.mk (pa:Nat) (ps:Nat) (pp:Nat)).ay),(y,p.ay),(w.a.j,a.ay)] w wz (.a A5 en c5) (l.E en)by rw[hwz];exact L6.i.go (eD (aG _ _) nq));rw[<-hwz];clear hwz a0 a1 L6;have HLE:=ab (show(l.E en).a=en by rw[bE,hl.i];omega);obtain⟨g,hg1,hg2,hg3,hg4,hg5⟩:=L7.i.h (by rw[HLE.i];omega);subst hg1;clear hg2;have RTo:=ab ((MG (o:=0) L7.i.b2 a (by have:=fD.J a;rw[<-this];simp)).upN p3);have s6:(pa:Int)<=en:=by omega
  have HP:=ab (show 0<ps->∃g',(some ⟨g,0,none⟩:Option aV)=some ⟨g',0,none⟩/\sH (some ⟨g,0,none⟩) pa c5 1=some ⟨g',pa,none⟩from fun _=>⟨g,rfl,Qr (n:=0) (by omega)⟩);have HM:=ab (show ps=qO ps (en-pa)by show ps=min ps (en-pa);omega);have HZ:=ab (show pa+ps<=(l.E en).a by rw[HLE.i];exact p1);have a0:=(L7.i.Z.R.1 0).trans (Pz.Cg _);go_upto_region 8 with(refine MH rfl (.a 65) (.a 66) rfl L7.i pa ps rfl rfl RTo.i HM.i HP.i HZ.i ?_;intro w8 h8 h9;have L8:=ab h8;clear h8 h9)
  clear a0 HP HM HZ s6 RTo L7;obtain⟨o1,ho1⟩:∃o,o=rZ (l.E en) pa ((a.b.a.E ps).E ps):=⟨_,rfl⟩
  have HO1:=ab ho1;have HL1:=ab (show o1.a=en by rw[ho1,xL (by simp;rw[hl.i];omega),HLE.i]);rw[<-ho1]at L8;clear ho1;obtain⟨qn,hqn⟩:∃v:Nat,q=(v:Int):=⟨q.e,by omega⟩
  have HQN:=ab hqn;subst hqn;have q7:jG.wrap (qn:Int)=(qn:Int):=by rw[jZ];omega
  have PZ:=ab (fun W=>xH qn (by omega) W);rw[wu qn (by omega)]at PZ;have s6:(pp:Int)<=en:=by omega
  have HP:=ab (show 0<2->∃g',(some ⟨g,0,none⟩:Option aV)=some ⟨g',0,none⟩/\sH (some ⟨g,0,none⟩) pp c5 1=some ⟨g',pp,none⟩from fun _=>⟨g,rfl,Qr (n:=0) (by omega)⟩);have HM:=ab (show 2=qO 2 (en-pp)by show 2=min 2 (en-pp);omega);have HZ:=ab (show pp+2<=o1.a by rw[HL1.i];exact p2);have KP:=ab (fun(w':ak) (h:dP w' y7 (Pz.mk (pa:Nat) (ps:Nat) (pp:Nat)).ay)=>show w'.b ⟨y7,2,none⟩=some (.b .a (pp:Nat))from(h.R.1 2).trans (Pz.GX _));have a2:=KP.i _ L8.i.Z;go_region_held_law (fun w'=>w'.b ⟨y7,2,none⟩=some (.b .a (pp:Nat)))
   (first|exact KP.i _ L8.i.Z.drew|exact KP.i _ L9.i.Z|exact KP.i _ L10.i.Z|go_keep)
   (first
   | (go_at_call 184;(with_reducible refine(PZ.i _).g ?_);rintro e w9 ⟨A9,rfl,ho,hb⟩;have R9:=ab (Ec ho (aG _ _));have L9:=ab (L8.i.drew.go hb);clear ho hb)
   | (refine Ov (o:=⟨some 75,_,_,_,_,_⟩) rfl (.a 71) (.a 74) rfl (some ⟨g,0,none⟩) en c5 L9.i pp 2 (sH (some ⟨g,0,none⟩) pp c5 1) (en-pp) (c5-pp) rfl A9 2 2 rfl R9.i HM.i HP.i HZ.i ?_;intro w10 h10 h11;have L10:=ab h10;clear h10 h11))
  clear a2 q7 s6 HP HM HZ KP PZ L8;obtain⟨o2,ho2⟩:∃o,o=rZ o1 pp ((oV (qn:Int)).E 2):=⟨_,rfl⟩
  have HO2:=ab ho2;have HL2:=ab (show o2.a=en by rw[ho2,xL (by rw[HL1.i];exact p2),HL1.i]);rw[<-ho2]at L10;clear ho2;have a6:=(L10.i.b2.R.1 0).trans (fD.qW a);have KX:=HFN.i;obtain⟨N,hN⟩:∃N:Nat,p.h=(N:Int):=⟨p.h.e,by have:=KX.h;omega⟩
  obtain⟨S,hS⟩:∃S:Nat,p.ru=(S:Int):=⟨p.ru.e,by have:=KX.h;have:=KX.ru;split at this<;>omega⟩
  have hNS:N+20<=S:=by have:=KX.ru;split at this<;>omega
  have aEn:14<=N:=by have:=KX.h;omega
  obtain⟨pl,hpl⟩:∃v,v=zF p.K.aN:=⟨_,rfl⟩
  have aj3:S+pl+2<=en/\6<=pl/\pl<=16:=by
   have h1:=KX.rE;have h2:=HEN.i;rw[hpl];unfold zF;rcases KX.pro with h|h<;>rw[h]at h1⊢<;> simp at h1⊢<;> omega
  have HP6:=ab (show(if p.K.aN=6 then(16:Int)else if p.K.aN=17 then 6 else 0)=(pl:Int)by rw[hpl];unfold zF;split;rfl;split<;>rfl);have HPL:=ab hpl;have HNN:=ab hN;have HSS:=ab hS;clear KX hpl;obtain⟨o3,ho3⟩:∃o,o=if a.h then o2 else rZ o2 (N+10) (oV ((kT (dF l (N+10)) ((l.E (pa+ps)).G pa) (a.b.a.E ps):Nat):Int)):=⟨_,rfl⟩
  have HO3:=ab ho3;have HL3:=ab (show o3.a=en by rw[ho3];split;exact HL2.i;rw[xL (by rw[HL2.i];show N+10+2<=en;omega),HL2.i]);clear ho3;rw[show m1-pa=ps by omega];go_upto_if 78 with fail
  go_cut []from 76 to 91 (fun wx=>Ly w.a.j [(y7,(Pz.mk (pa:Nat) (ps:Nat) (pp:Nat)).ay),(y,p.ay),(w.a.j,a.ay)] w wx (.a (some ⟨g,0,none⟩) en c5) o3)
  case first=>
   cases h6:a.h
   case true=>
    rw[h6]at HO3;have L12:=ab L10;go_wp2;go_meet
    case rel=>rw[HO3.i];exact L12.i.i
   case false=>
    rw[h6]at HO3;have hpe:ps%2=0:=by rw[HPS.i];unfold uh;split<;>rfl
    obtain⟨nk,hnk⟩:∃v,v=N+10:=⟨_,rfl⟩
    have e10:(N:Int)+10=(nk:Int):=by omega
    have i10:=jY (nk:Int) (by omega);have RI:=ab (fun(w':ak) (h:Ly w.a.j [(y7,(Pz.mk (pa:Nat) (ps:Nat) (pp:Nat)).ay),(y,p.ay),(w.a.j,a.ay)] w w' (.a (some ⟨g,0,none⟩) en c5) o2)=>show gG w' w'.a.j A n l from HR.i.upon h.o.X);have CS:=ab (WZ _ A n c l nk (by omega) hnc hc (RI.i _ L10.i.drew));have CC:=ab (fun(w':ak) (h:Ly w.a.j [(y7,(Pz.mk (pa:Nat) (ps:Nat) (pp:Nat)).ay),(y,p.ay),(w.a.j,a.ay)] w w' (.a (some ⟨g,0,none⟩) en c5) o2)=>Jq w' (sH A pa c 1) (some ⟨w.a.j,1,none⟩) (m1-pa) (c-pa) 16 w'.a.j w'.a.j (dF l nk) ((l.E m1).G pa) (a.b.a.E ps) (wK l nk) (by omega) (by omega) ((RI.i w' h).XE (by omega) (by omega) hnc) (by rw[show m1-pa=ps by omega];exact(MG (o:=0) h.b2 a (by have:=fD.J a;rw[<-this];simp)).upN p3));rw[show m1-pa=ps by omega]at CC;rw[HM1.i]at CC;obtain⟨cn,hcn⟩:∃v,v=kT (dF l nk) ((l.E (pa+ps)).G pa) (a.b.a.E ps):=⟨_,rfl⟩
    have aFe:cn<=65535:=by rw[hcn];exact AU _ _ _ (wK l nk)
    rw[<-hcn]at CC;have HO4:=ab (show o3=rZ o2 nk (oV (cn:Int))by rw[HO3.i,hcn,hnk];rfl);obtain⟨n2,hn2⟩:∃v,v=o2.a:=⟨_,rfl⟩
    have CT:=ab (fun(w':ak) (h:Ly w.a.j [(y7,(Pz.mk (pa:Nat) (ps:Nat) (pp:Nat)).ay),(y,p.ay),(w.a.j,a.ay)] w w' (.a (some ⟨g,0,none⟩) en c5) o2)=>Hz (bs:=o2) (by rw[HL2.i];exact h) nk cn aFe (by rw[HL2.i];omega) (by rw[HL2.i];omega));rw[HL2.i,<-HO4.i]at CT;have K39:=ab (fun(w':ak) (bs:List UInt8) (h:Ly w.a.j [(y7,(Pz.mk (pa:Nat) (ps:Nat) (pp:Nat)).ay),(y,p.ay),(w.a.j,a.ay)] w w' (.a (some ⟨g,0,none⟩) en c5) bs)=>show w'.b ⟨y,39,none⟩=some (.b .a (N:Nat))by rw[(K2.i _ h.b1).2.2.1,HNN.i]);have f39:=K39.i _ _ L10.i;clear hcn hnk hn2 a6;go_upto_region 10 with fail
    go_region_held_law (fun w'=>w'.b ⟨y,39,none⟩=some (.b .a (N:Nat)))
     (first|exact K39.i _ _ L10.i.drew|exact K39.i _ _ L11.i|exact K39.i _ _ L13.i|go_keep)
     (first
     | (go_at_call 312;(with_reducible refine CS.i.g ?_);rintro e w11 ⟨rfl,hb⟩;have L11:=ab (L10.i.drew.go hb);clear hb)
     | (go_at_call 311;(with_reducible refine(CC.i _ L11.i).g ?_);rintro e w12 ⟨rfl,rfl⟩)
     | (go_at_call 310;(with_reducible refine(CT.i _ L11.i).g ?_);rintro e w13 ⟨rfl,h13⟩;have L13:=ab h13;clear h13))
    go_wp2;go_meet
    case rel=>exact L13.i
  have L3:=ab hcut;have aFg:ps%2=0:=by rw[HPS.i];unfold uh;split<;>rfl
  clear hcut L10 a6;have K4:=ab (fun(w':ak) (h:Ly w.a.j [(y7,(Pz.mk (pa:Nat) (ps:Nat) (pp:Nat)).ay),(y,p.ay),(w.a.j,a.ay)] w w' (.a (some ⟨g,0,none⟩) en c5) o3)=>show w'.b ⟨y,40,none⟩=some (.b .a (S:Nat))/\w'.b ⟨y,35,none⟩=some (.b .a p.K.aN)/\w'.b ⟨y7,2,none⟩=some (.b .a (pp:Nat))/\gG w' w'.a.j A n l from⟨by rw[(K2.i _ h.b1).2.2.2,HSS.i],(K2.i _ h.b1).2.1,(h.Z.R.1 2).trans (Pz.GX _),HR.i.upon h.o.X⟩);obtain⟨sa,hsa⟩:∃v,v=S+pl:=⟨_,rfl⟩
  have eS:(S:Int)+(pl:Int)=(sa:Int):=by omega
  have iS:=jY (sa:Int) (by omega);have Ye:=ab hsa;clear hsa;have CP:=ab (fun w=>ajE p.K.aN w);rw[HP6.i]at CP;go_wp2_with fail;obtain⟨T,f,n0,E0,es,ew⟩:=yL (wc);have hT:Nonempty T:=⟨n0⟩
  have ES:=ab es;have EW:=ab ew;have l1:=fun m=>(K4.i _ (L3.i.go (es m))).1
  have l2:=fun m=>(K4.i _ (L3.i.go (es m))).2.1
  clear es ew;refine qh f (by kernel_rfl) (by kernel_rfl) n0 E0 ?_
  repeat(go_big_quiet_step ((first|(go_at_call 313;(with_reducible refine(CP.i _).g ?_);rintro e w2 ⟨rfl,hb⟩;exact⟨rfl,EW.i _ ((ES.i _).trans (hb.g (ES.i _).j))⟩))))
  refine iw ?_;rintro _ ⟨m',rfl⟩;have HB:=ab (ES.i m');generalize f m'=wN at *;clear ES EW E0 hT n0;clear l1 l2;have L4:=ab (L3.i.go HB.i);clear L3 HB CP;obtain⟨z2,e35,f2,RA⟩:=K4.i _ L4.i;clear z2;have CS:=ab (WZ _ A n c l sa (by omega) hnc hc RA);obtain⟨was,arv⟩:∃v,v=dF l sa:=⟨_,rfl⟩
  have aof:was<=65535:=by rw[arv];exact wK l sa
  rw[<-arv]at CS;have aAh:=ab arv;obtain⟨u,hu⟩:=cB ((p.K.aN==17));have HU:=ab hu;obtain⟨z,hz⟩:=cB (decide (was=0));have HZ0:=ab hz;have u1:(p.K.aN==17)=u:=hu.symm;have u2:decide (p.K.aN=17)=u:=by rw[hu];rfl
  have z1:((was:Int)==0)=z:=by rw[hz,dG,beq_iff_eq,decide_eq_true_iff];omega
  have z2:decide ((was:Int)=0)=z:=by rw[hz,dG,decide_eq_true_iff,decide_eq_true_iff];omega
  have z3:(was==0)=z:=by rw[hz,dG,beq_iff_eq,decide_eq_true_iff]
  clear hu hz arv RA;go_upto_region 14 with(go_at_call 312;(with_reducible refine CS.i.g ?_);rintro e w11 ⟨rfl,hb⟩;have L5:=ab (L4.i.go hb);clear hb e35 f2;obtain⟨_,e35,f2,RA⟩:=K4.i _ L5.i)
  clear CS L4;obtain⟨fr,hfr⟩:∃v,v=(l.E (pa+ps)).G pa:=⟨_,rfl⟩
  obtain⟨tw,htw⟩:∃v,v=a.b.a.E ps:=⟨_,rfl⟩
  obtain⟨pq,hpq⟩:∃v,v=pp+2:=⟨_,rfl⟩
  obtain⟨cs,hcs⟩:∃v,v=kT (kT was fr tw) ((l.E pq).G pp) ((o3.E pq).G pp):=⟨_,rfl⟩
  have hc1:=AU fr tw was aof;have hcs2:cs<=65535:=by rw[hcs];exact AU _ _ _ hc1
  have eP:(pp:Int)+2=(pq:Int):=by omega
  have iP:=jY (pq:Int) (by omega);have b1:(pp:Int)<=pq:=by omega
  have b2:(pq:Int)<=c:=by omega
  have b3:(pq:Int)<=c5:=by omega
  have CC1:=ab (fun(w':ak) (h:Ly w.a.j [(y7,(Pz.mk (pa:Nat) (ps:Nat) (pp:Nat)).ay),(y,p.ay),(w.a.j,a.ay)] w w' (.a (some ⟨g,0,none⟩) en c5) o3)=>Jq w' (sH A pa c 1) (some ⟨w.a.j,1,none⟩) ps (c-pa) 16 w'.a.j w'.a.j was fr tw aof aFg (by omega) (by have:=((K4.i _ h).2.2.2).XE (z:=pa) (b:=m1) (by omega) (by omega) hnc;rw[show m1-pa=ps by omega,HM1.i]at this;rw[hfr];exact this) (by rw[htw];exact(MG (o:=0) h.b2 a (by have:=fD.J a;rw[<-this];simp)).upN p3));have CC2:=ab (fun(w':ak) (h:Ly w.a.j [(y7,(Pz.mk (pa:Nat) (ps:Nat) (pp:Nat)).ay),(y,p.ay),(w.a.j,a.ay)] w w' (.a (some ⟨g,0,none⟩) en c5) o3)=>Jq w' (sH A pp c 1) (sH (some ⟨g,0,none⟩) pp c5 1) (pq-pp) (c-pp) (c5-pp) w'.a.j w'.a.j (kT was fr tw) ((l.E pq).G pp) ((o3.E pq).G pp) hc1 (by omega) (by omega) (((K4.i _ h).2.2.2).XE (by omega) (by omega) hnc) (h.rd.XE (by omega) (by omega) hg3));rw[<-hcs]at CC2;have HE3:=ab (show rw2 l p a qn dst=o3 by
   have e1:rw1 l p a qn dst=o2:=by
    have e0:Hq qn=(oV (qn:Int)).E 2:=by simp[Hq,oV]
    unfold rw1;rw[<-HPA.i,<-HPS.i,<-HPP.i,e0,HO2.i,HO1.i,HEN.i,cK,List.take_take,Nat.min_self]
   unfold rw2;rw[e1,HO3.i,HNN.i,cK];have h6:p.K.h.h=a.h:=by have:=avX.i;exact this.symm
   rw[h6];split
   ·rfl
   ·have e2:Rb l p dst=(l.E (pa+ps)).G pa:=by unfold Rb;rw[<-HPA.i,<-HPS.i,oQ,cZ]
    rw[e2,<-HPS.i];rfl)
  have HRS:=ab (show ahW l p a qn dst=cs by
   have e2:Rb l p dst=fr:=by unfold Rb;rw[<-HPA.i,<-HPS.i,hfr,oQ,cZ]
   have e3:(o3.E pq).G pp=Hq qn:=by
    have e0:(oV (qn:Int)).E 2=Hq qn:=by simp[Hq,oV]
    have k2:(o2.E pq).G pp=Hq qn:=by
     have:=ajN (l:=o1) (k:=pp) (b:=(oV (qn:Int)).E 2) (by rw[HL1.i];exact p2);rw[oQ,show pq-pp=2 by omega,HO2.i,<-e0];exact this
    rw[HO3.i];split
    ·exact k2
    ·rw[oQ,am7 (by rw[HL2.i];show N+10+2<=en;omega) (.a (by show N+10+2<=pp;have h1:=HPP.i;unfold Bv at h1;rw[HSS.i]at h1;omega)),<-oQ];exact k2
   unfold ahW;rw[e2,<-HPS.i,<-HPP.i,HSS.i,cK,<-HPL.i,<-Ye.i,<-aAh.i,<-htw,hcs,e3];congr 1;rw[oQ,show pq-pp=2 by omega])
  have HC2:=ab hcs2;have CC1:=ab (fun n=>CC1.i (w11.drewN n) (L5.i.go (eD (aG _ _) n)));have CC2:=ab (fun n=>CC2.i (w11.drewN n) (L5.i.go (eD (aG _ _) n)));have HR3:=ab (show Wj l p a qn dst=if p.K.aN=17/\was=0 then o3 else rZ o3 sa (Hq (if p.K.aN=17/\cs=0 then 65535 else cs))by
   unfold Wj;rw[HE3.i,HRS.i,HSS.i,cK,<-HPL.i,<-Ye.i,<-aAh.i])
  clear hfr htw hpq hcs aof hcs2;cases u
  case false=>
   have hp:p.K.aN≠17:=by have:=HU.i;intro e;rw[e]at this;cases this
   have HRW:=ab (show Wj l p a qn dst=rZ o3 sa (oV (cs:Int))by rw[HR3.i,if_neg (fun h=>hp h.1),if_neg (fun h=>hp h.1)];simp[Hq,oV]);clear hp;go_upto_region 16 with fail
   go_quiet ((first|(go_at_call 311;(with_reducible refine(CC1.i _).g ?_);rintro e w2 ⟨rfl,rfl⟩;exact⟨rfl,_,rfl⟩)|(go_at_call 311;(with_reducible refine(CC2.i _).g ?_);rintro e w2 ⟨rfl,rfl⟩;exact⟨rfl,_,rfl⟩)));have L7:=ab (L5.i.go (eD (aG _ _) nq));generalize w11.drewN nq=wN at L7 ⊢;have CT:=ab (Hz (bs:=o3) (by rw[HL3.i];exact L7.i) sa cs (by exact HC2.i) (by rw[HL3.i];omega) (by rw[HL3.i];omega));rw[HL3.i]at CT;clear CC1 CC2 L5;go_wp2_with (go_at_call 310;(with_reducible refine CT.i.g ?_);rintro e w13 ⟨rfl,h13⟩;have L13:=ab h13;clear h13);go_ret2;exact⟨some ⟨g,0,none⟩,en,c5,by rw[HVO.i];rfl,by rw[HVO.i];show gG _ _ _ _ (Wj l p a qn dst);rw[HRW.i];exact L13.i.rd,L13.i.o.X⟩
  case true=>
   have hp:p.K.aN=17:=by have:=HU.i;simpa using this.symm
   cases z
   case true=>
    have hw:was=0:=by have:=HZ0.i;simpa using this.symm
    have HRW:=ab (show Wj l p a qn dst=o3 by rw[HR3.i,if_pos ⟨hp,hw⟩]);clear hp hw CC1 CC2;go_wp2;go_ret2;exact⟨some ⟨g,0,none⟩,en,c5,by rw[HVO.i];rfl,by rw[HVO.i];show gG _ _ _ _ (Wj l p a qn dst);rw[HRW.i];exact L5.i.rd,L5.i.o.X⟩
   case false=>
    have hw:was≠0:=by have:=HZ0.i;intro e;rw[e]at this;cases this
    by_cases hc0:cs=0
    ·have HRW:=ab (show Wj l p a qn dst=rZ o3 sa (oV ((65535:Nat):Int))by rw[HR3.i,if_neg (fun h=>hw h.2),if_pos ⟨hp,hc0⟩];rfl)
     have q1:((cs:Int)==0)=true:=by rw[hc0];rfl
     have q2:decide ((cs:Int)=0)=true:=by rw[hc0];rfl
     clear hp hw hc0;go_upto_region 16 with fail
     go_quiet ((first|(go_at_call 311;(with_reducible refine(CC1.i _).g ?_);rintro e w2 ⟨rfl,rfl⟩;exact⟨rfl,_,rfl⟩)|(go_at_call 311;(with_reducible refine(CC2.i _).g ?_);rintro e w2 ⟨rfl,rfl⟩;exact⟨rfl,_,rfl⟩)));have L7:=ab (L5.i.go (eD (aG _ _) nq));generalize w11.drewN nq=wN at L7 ⊢;have CT:=ab (Hz (bs:=o3) (by rw[HL3.i];exact L7.i) sa 65535 (by exact av _) (by rw[HL3.i];omega) (by rw[HL3.i];omega));rw[HL3.i,show((65535:Nat):Int)=65535 from rfl]at CT;clear CC1 CC2 L5;go_wp2_with (go_at_call 310;(with_reducible refine CT.i.g ?_);rintro e w13 ⟨rfl,h13⟩;have L13:=ab h13;clear h13);go_ret2;exact⟨some ⟨g,0,none⟩,en,c5,by rw[HVO.i];rfl,by rw[HVO.i];show gG _ _ _ _ (Wj l p a qn dst);rw[HRW.i];exact L13.i.rd,L13.i.o.X⟩
    ·have HRW:=ab (show Wj l p a qn dst=rZ o3 sa (oV (cs:Int))by rw[HR3.i,if_neg (fun h=>hw h.2),if_neg (fun h=>hc0 h.2)];simp[Hq,oV])
     have q1:((cs:Int)==0)=false:=by rw[beq_eq_false_iff_ne];omega
     have q2:decide ((cs:Int)=0)=false:=by rw[decide_eq_false_iff_not];omega
     clear hp hw hc0;go_upto_region 16 with fail
     go_quiet ((first|(go_at_call 311;(with_reducible refine(CC1.i _).g ?_);rintro e w2 ⟨rfl,rfl⟩;exact⟨rfl,_,rfl⟩)|(go_at_call 311;(with_reducible refine(CC2.i _).g ?_);rintro e w2 ⟨rfl,rfl⟩;exact⟨rfl,_,rfl⟩)));have L7:=ab (L5.i.go (eD (aG _ _) nq));generalize w11.drewN nq=wN at L7 ⊢;have CT:=ab (Hz (bs:=o3) (by rw[HL3.i];exact L7.i) sa cs (by exact HC2.i) (by rw[HL3.i];omega) (by rw[HL3.i];omega));rw[HL3.i]at CT;clear CC1 CC2 L5;go_wp2_with (go_at_call 310;(with_reducible refine CT.i.g ?_);rintro e w13 ⟨rfl,h13⟩;have L13:=ab h13;clear h13);go_ret2;exact⟨some ⟨g,0,none⟩,en,c5,by rw[HVO.i];rfl,by rw[HVO.i];show gG _ _ _ _ (Wj l p a qn dst);rw[HRW.i];exact L13.i.rd,L13.i.o.X⟩
 ·have HN:=ab (NO.i (by rw[HK.i];simp;intro _ _ _;omega))
  clear hk0 ho;go_wp2_with (go_at_call 307;(with_reducible refine CO.i.g ?_);rintro e w4 ⟨rfl,hb⟩;have Z4:=ab (ZG.i _ hb);clear hb)
  all_goals
   first
   | (go_ret2
      rw[HN.i];exact⟨none,0,0,rfl,Ht _,Z4.i.X⟩)
   | (exfalso;omega)
theorem akF(w:ak)(A:Option aV)(n c:Nat)(l:List UInt8)(a:fD)(q:Int)(hnc:n<=c)(hc:c<=9223372036854775807/\n<=1000000)(hr:gG w w.a.j A n l):aR ah 205 #[.a A n c,.d a.ay,.b .a q] w (ajP w (akE l a q true)):=by
 have X0:=ab (dP.new w a.ay 27);have B0:=ab ((aG w.a.j w).alloc (av _) (.D a.ay 27));have CR:=ab (Xa (w.alloc (.D a.ay 27)) A n c l a q true hnc hc (hr.upon B0.i));have la:=X0.i.ah2;unfold ajP at CR;clear hr;go_enter Tryz.func205,Tryz.ntmps205;go_wp2_with (go_at_call 267;(with_reducible refine CR.i.g ?_);rintro e w2 ⟨A2,n2,c2,rfl,hr2,hb2⟩;have R2:=ab hr2;have B2:=ab hb2;clear hr2 hb2 la)
 trace_state
 go_ret2;exact⟨A2,n2,c2,rfl,R2.i,jD B0.i B2.i⟩
end
section
variable {W W':ak} {q:Nat} {e:En} {s:qE} {x:Eg} {q2 g:Nat} {sl:List (Option Fw)}
def aFi(W:ak)(r:Int×List UInt8)(e':lJ)(W':ak):Prop:=(r.1=0/\Le W r.2 e' W')\/(r.1≠0/\e'=.panicked [{v:=Rs r.1,recovered:=false}]/\aM W.a.j W W')
theorem aFj:pQ 25 6 (Bp (bG 6 0)):=⟨⟨_,Tryz.underlying25,rfl⟩,by kernel_rfl,by kernel_rfl,gH _⟩
theorem dP.as6{W:ak}{b o:Nat}{c:Array aB}{m:Vector UInt8 6}(h:dP W b c)(hc:c.m o (o+6)=Bp m)(hs:o+6<=c.j):(D6 (.c (some ⟨b,o,none⟩))).O ah W=.ok (.d (Bp m)) W:=aFj.Ei h o hc hs
theorem dP.LU{W:ak}{b o:Nat}{c:Array aB}{a:fD}(h:dP W b c)(hc:c.m o (o+17)=a.ay)(hs:o+17<=c.j):(sw (.c (some ⟨b,o,none⟩))).O ah W=.ok (.d a.ay) W:=aa0.Ei h o hc hs
theorem Bk.arx(b:Bk):b.ay.m 19 (19+6)=Bp b.xQ:=Bk.aaj b
theorem Uk{l:List UInt8}{k E:Nat}{b:List UInt8}(h:l.a<=E)(hk:k+b.a<=E):(rZ l k b).a<=E:=by unfold rZ;simp;omega
theorem arz{l:List UInt8}{a:fD}{n:Int}:(Ot l a n true).a<=l.a:=by
 cases h:Ip l a n with
 | false=>unfold Ot;rw[h];simp
 | true=>
   have hk:(lW l).kind=0:=by unfold Ip at h;simp only[bf,beq_iff_eq]at h;exact h.1.1
   have F:=xM hk;unfold Ot;rw[if_pos h];generalize lW l=p at F;have hl:=F.len;have f2:=F.h;have f3:=F.ru;have f5:=F.rE;have f4:=F.pro;obtain⟨E,hE⟩:=cB p.rE.e
   suffices (Wj l p a n.e true).a<=E by omega
   have hS:p.ru.e+8<=E:=by split at f5<;>omega
   have hb:(a.b.a.E (uh p)).a<=uh p:=by rw[bE];omega
   have ha:Wi p true+uh p<=E:=by
    unfold Wi uh;cases hs:p.K.h.h<;>simp[hs]at f3⊢<;> omega
   have hp:Bv p true+2<=E:=by unfold Bv;simp;omega
   have hn:p.h.e+12<=E:=by split at f3<;>omega
   have hq:p.ru.e+zF p.K.aN+2<=E:=by
    unfold zF;rcases f4 with e|e<;>simp[e]at f5⊢<;> omega
   have l1:(rw1 l p a n.e true).a<=E:=Uk (Uk (by rw[bE];omega) (by omega)) (by rw[ug];omega);have l2:(rw2 l p a n.e true).a<=E:=by
    unfold rw2;split
    ·exact l1
    ·exact Uk l1 (by rw[ug];omega)
   unfold Wj;split
   ·exact l2
   ·exact Uk l2 (by rw[ug];omega)
theorem akG(ts:List Tg):(ts.d yP).a=4*ts.a:=by
 induction ts with
 | nil=>rfl
 | cons t ts ih=>rw[iW,aQ,ih,bl];show 4+_=_;omega
theorem aog(l:List UInt8)(a b:fD):(vG l a b).1.a<=200000:=by
 have ht:=(JM l).2;have hp:∀k,(oF (iV l).1.dst (iV l).1.h (iV l).1.dM k).a<=22:=fun k=>by
  unfold oF;rw[aQ,aQ,aQ,akG];simp only[nZ,oV,bl,gU];omega
 have h40:∀y:Sx,(oD y).a=40:=fun y=>by simp[oD]
 have h20:∀y:Fo,(lS y).a=20:=fun y=>by simp[lS,LJ,zG]
 unfold vG;by_cases h1:(iV l).2≠0
 ·rw[if_pos h1];simp
 rw[if_neg h1];by_cases h2:(oG (iV l).1.mP (l.G (iV l).1.dW)).ok=false
 ·rw[if_pos h2];simp
 rw[if_neg h2];by_cases h3:ajO a b=false
 ·rw[if_pos h3];simp
 rw[if_neg h3];have hk:∀k:Nat,((l.G (iV l).1.dW).E k).a<=k:=fun k=>by simp;omega
 by_cases h4:a.h=true
 ·rw[if_pos h4]
  by_cases h5:(oG (iV l).1.mP (l.G (iV l).1.dW)).bR>65535
  ·rw[if_pos h5];simp
  ·rw[if_neg h5]
   have:=hp 34525;have:=hk (oG (iV l).1.mP (l.G (iV l).1.dW)).bR.e;simp only[aQ,h40];omega
 ·rw[if_neg h4]
  by_cases h5:20+(oG (iV l).1.mP (l.G (iV l).1.dW)).bR>65535
  ·rw[if_pos h5];simp
  ·rw[if_neg h5]
   have:=hp 2048;have:=hk (oG (iV l).1.mP (l.G (iV l).1.dW)).bR.e;simp only[aQ,h20];omega
def aeA(e:En)(b:Bk):fD:=if b.h.h then e.c.h else e.c.Dl
theorem akH(h:Ab W q e s x q2 g sl)(v:Vp)(b:Bk)(t:Tu)(A:Option aV)(n c:Nat)(l:List UInt8)(hnc:n<=c)(hc:c<=9223372036854775807/\n<=1000000)(hr:gG W W.a.j A n l):
 aR ah 137 #[.c (some ⟨q,0,none⟩),.d v.ay,.d b.ay,.d t.ay,.a A n c] W (aFi W (DU e v b t l)):=by
 have Z0:=ab ((((Bx.start W).new v.ay 98).new b.ay 62).new t.ay 81);have e1:(W.alloc (.D v.ay 98)).a.j=W.a.j+1:=by simp
 have e2:((W.alloc (.D v.ay 98)).alloc (.D b.ay 62)).a.j=W.a.j+1+1:=by simp
 rw[e2,e1]at Z0;clear e1 e2;have H:=ab h;have HR:=ab hr;have hl:=ab hr.len;have HOE:=ab (show DU e v b t l=if v.Ak then(if(vG l (aeA e b) b.h).2=0 then(0,sZ (vG l (aeA e b) b.h).1 b.xQ e.c.xQ)else(10,[]))else if b.h.h=t.dst.h then(0,sZ (Ot l b.h b.ni true) b.xQ e.c.xQ)else(9,[])from rfl);have hcf:=h.b.cf;have aFk:=ab (show x.cf.xQ=e.c.xQ by rw[hcf]);have aAi:=ab (show x.cf.Dl=e.c.Dl by rw[hcf]);have avX:=ab (show x.cf.h=e.c.h by rw[hcf]);clear h hr hcf;have CT:=ab (fun(w:ak) (B:Option aV) (m d:Nat) (bs:List UInt8) (hm:m<=1000000) (hR:gG w w.a.j B m bs)=>abw w B m d bs b.xQ e.c.xQ hm hR);have K1:=ab (fun(w:ak) (hb:aM (W.a.j+1+1+1) w w)=>True.intro);have KM:=ab (fun(w:ak) (h1:dP w (W.a.j+1) b.ay) (h2:aM W.a.j W w)=>show(D6 (.c (some ⟨W.a.j+1,19,none⟩))).O ah w=.ok (.d (Bp b.xQ)) w/\(D6 (.c (some ⟨q,27,none⟩))).O ah w=.ok (.d (Bp e.c.xQ)) w from⟨h1.as6 (Bk.arx b) (by rw[Bk.J];omega),by have:=(H.i.b.eg.go h2).as6 (o:=27) (Eg.aa2 x) (by rw[Eg.J];omega);rw[aFk.i]at this;exact this⟩);have f19:=(Z0.i.b2.R.1 19).trans (Vp.YO v);go_enter Tryz.func137,Tryz.ntmps137;go_upto_region 1 with fail
 generalize((W.alloc (.D v.ay 98)).alloc (.D b.ay 62)).alloc (.D t.ay 81)=w1 at Z0 f19 ⊢;cases hv:v.Ak
 ·rw[hv]at f19 HOE
  have f1:=(Z0.i.b1.R.1 1).trans (Bk.Ij b);have f17:=(Z0.i.Z.R.1 17).trans (Tu.at6 t);by_cases h6:b.h.h=t.dst.h
  ·have HE:=ab (show DU e v b t l=(0,sZ (Ot l b.h b.ni true) b.xQ e.c.xQ)by rw[HOE.i,if_neg (by simp),if_pos h6])
   have q1:(b.h.h != t.dst.h)=false:=by rw[h6];simp
   have q2:(b.h.h==t.dst.h)=true:=by rw[h6];simp
   have la:=Z0.i.b1.LU (o:=1) (a:=b.h) (Bk.GK b) (by rw[Bk.J];omega);have lp:=(Z0.i.b1.R.1 18).trans (Bk.aeZ b);have CN:=ab (akF w1 A n c l b.h b.ni hnc hc (Z0.i.Oh HR.i));unfold ajP at CN;clear h6 hv;go_upto_region 5 with(go_at_call 205;(with_reducible refine CN.i.g ?_);rintro r w2 ⟨A2,n2,c2,rfl,hr2,hb2⟩;have Z2:=ab (Z0.i.go hb2);have R2:=ab hr2;clear hr2 hb2 la lp f1 f17 f19)
   have CTT:=ab (CT.i w2.drew A2 n2 c2 _ (by have h1:=R2.i.len;have h2:(Ot l b.h b.ni true).a=n2:=h1;have:=arz (l:=l) (a:=b.h) (n:=b.ni);have:=hl.i;omega) R2.i);obtain⟨k1,k2⟩:=KM.i _ Z2.i.drew.b1 Z2.i.drew.X;go_region_held_law (fun w'=>(D6 (.c (some ⟨W.a.j+1,19,none⟩))).O ah w'=.ok (.d (Bp b.xQ)) w'/\(D6 (.c (some ⟨q,27,none⟩))).O ah w'=.ok (.d (Bp e.c.xQ)) w')
    (first|exact KM.i _ Z2.i.drew.b1 Z2.i.drew.X|exact KM.i _ Z3.i.b1 Z3.i.X|go_keep)
    (first|(go_at_call 206;(with_reducible refine CTT.i.g ?_);rintro r w3 ⟨A3,n3,c3,rfl,hn3,ho3,hb3⟩;have Z3:=ab (Z2.i.drew.go hb3);have N3:=ab hn3;have O3:=ab ho3;clear hn3 ho3 hb3))
   go_wp2;go_ret;rw[HE.i];exact .b ⟨rfl,A3,n3,c3,rfl,N3.i,iU O3.i Z2.i.X.j,Z3.i.X⟩
  ·have HE:=ab (show DU e v b t l=(9,[])by rw[HOE.i,if_neg (by simp),if_neg h6])
   have q1:(b.h.h != t.dst.h)=true:=by simpa using h6
   have q2:(b.h.h==t.dst.h)=false:=by simpa using h6
   clear h6 hv;go_wp2;rw[HE.i];exact⟨rfl,.a ⟨by decide,rfl,Z0.i.X⟩⟩
 ·rw[hv]at f19 HOE
  have f1:=(Z0.i.b1.R.1 1).trans (Bk.Ij b);have la:=Z0.i.b1.LU (o:=1) (a:=b.h) (Bk.GK b) (by rw[Bk.J];omega);have l4:(sw (.c (some ⟨q,33,none⟩))).O ah w1=.ok (.d e.c.Dl.ay) w1:=by have:=(H.i.b.eg.go Z0.i.X).LU (o:=33) (Eg.aa3 x) (by rw[Eg.J];omega);rw[aAi.i]at this;exact this
  have l6:∀w',aM W.a.j W w'->(sw (.c (some ⟨q,50,none⟩))).O ah w'=.ok (.d e.c.h.ay) w':=fun w' hb=>by have:=(H.i.b.eg.go hb).LU (o:=50) (Eg.af4 x) (by rw[Eg.J];omega);rw[avX.i]at this;exact this
  have L6:=ab l6;clear hv l6;obtain⟨vM,how⟩:∃o,o=aeA e b:=⟨_,rfl⟩
  rw[<-how]at HOE;have HOW:=ab how;clear how;have Z1:=ab (Z0.i.new e.c.Dl.ay 27);have HY:=ab (fun p hp=>(Z0.i.2 p hp).2.lt);go_upto_region 7 with fail
  generalize w1.alloc (.D e.c.Dl.ay 27)=w2 at Z1 ⊢;generalize w1.a.j=y at *;have HYW:=ab (show W.a.j+1+1<y from HY.i (W.a.j+1+1,t.ay) (by simp));have f1:=(Z1.i.b2.R.1 1).trans (Bk.Ij b);go_upto_if 52 with fail
  go_cut []from 52 to 57 (fun wx=>Bx [(y,vM.ay),(W.a.j+1+1,t.ay),(W.a.j+1,b.ay),(W.a.j,v.ay)] W wx)
  case first=>
   cases h6:b.h.h
   ·have HO2:=ab (show vM=e.c.Dl by rw[HOW.i];unfold aeA;rw[h6];rfl)
    rw[h6]at f1;clear h6;go_wp2_with fail;go_meet
    case rel=>rw[HO2.i];exact Z1.i
   ·have HO2:=ab (show vM=e.c.h by rw[HOW.i];unfold aeA;rw[h6];rfl)
    rw[h6]at f1;have l6:=L6.i _ Z1.i.X;have th:=Z1.i.Z.S 0 17 (aU (fD.J _).symm);clear h6;go_wp2_with fail;go_meet
    case rel=>
     have:=Z1.i.put (fun p hp=>by have:=HYW.i;simp at hp;rcases hp with rfl|rfl|rfl<;>simp<;>omega) e.c.h.ay (by rw[fD.J,fD.J]);rw[HO2.i];exact this
  have Z3:=ab hcut;clear hcut Z1 f1 la l4;generalize wc=w3 at Z3 ⊢;have la:=Z3.i.b2.LU (o:=1) (a:=b.h) (Bk.GK b) (by rw[Bk.J];omega);have lo:=Z3.i.Z.LU (o:=0) (a:=vM) (by have:=fD.J vM;rw[bC,<-this];simp) (by rw[fD.J];omega);have CW:=ab (agn w3 A n c l vM b.h hnc hc (Z3.i.Oh HR.i));unfold ajP at CW;obtain⟨wy,OZ⟩:∃z,z=(vG l vM b.h).2:=⟨_,rfl⟩
  have NC:=ab OZ;rw[<-OZ]at CW HOE;have HWL:=ab (aog l vM b.h);by_cases h0:wy=0
  ·have HE:=ab (show DU e v b t l=(0,sZ (vG l vM b.h).1 b.xQ e.c.xQ)by rw[HOE.i,if_pos rfl,if_pos h0])
   have q1:(wy != 0)=false:=by simp[h0]
   clear h0 OZ;go_upto_region 12 with(go_at_call 207;(with_reducible refine CW.i.g ?_);rintro r w4 ⟨A2,n2,c2,rfl,hr2,hb2⟩;have Z4:=ab (Z3.i.go hb2);have R2:=ab hr2;clear hr2 hb2 la lo f19)
   have CTT:=ab (CT.i w4.drew A2 n2 c2 _ (by have h1:=R2.i.len;have:=HWL.i;omega) R2.i);obtain⟨k1,k2⟩:=KM.i _ Z4.i.drew.b2 Z4.i.drew.X;go_region_held_law (fun w'=>(D6 (.c (some ⟨W.a.j+1,19,none⟩))).O ah w'=.ok (.d (Bp b.xQ)) w'/\(D6 (.c (some ⟨q,27,none⟩))).O ah w'=.ok (.d (Bp e.c.xQ)) w')
    (first|exact KM.i _ Z4.i.drew.b2 Z4.i.drew.X|exact KM.i _ Z5.i.b2 Z5.i.X|go_keep)
    (first|(go_at_call 206;(with_reducible refine CTT.i.g ?_);rintro r w5 ⟨A3,n3,c3,rfl,hn3,ho3,hb3⟩;have Z5:=ab (Z4.i.drew.go hb3);have N3:=ab hn3;have O3:=ab ho3;clear hn3 ho3 hb3))
   go_wp2;go_ret;rw[HE.i];exact .b ⟨rfl,A3,n3,c3,rfl,N3.i,iU O3.i Z4.i.X.j,Z5.i.X⟩
  ·have HE:=ab (show DU e v b t l=(10,[])by rw[HOE.i,if_pos rfl,if_neg h0])
   have q1:(wy != 0)=true:=by simpa using h0
   clear h0 OZ;go_wp2_with (go_at_call 207;(with_reducible refine CW.i.g ?_);rintro r w4 ⟨A2,n2,c2,rfl,hr2,hb2⟩;have Z4:=ab (Z3.i.go hb2);clear hr2 hb2 la lo f19);rw[HE.i];exact⟨rfl,.a ⟨by decide,rfl,Z4.i.X⟩⟩
end
structure Oc where
 err:Int
 jm:Int
 Bo:Bool
 nP:Int
 F:List UInt8
 Lg:Option aV
 EM:Nat
 JY:Nat
def Oc.ay(x:Oc):Array aB:=#[.b .a x.err,.b .a x.jm,.e x.Bo,.b .a x.nP,.g (bK x.F),.a x.Lg x.EM x.JY]
theorem Oc.J(x:Oc):x.ay.j=6:=by simp[Oc.ay]
theorem Oc.dx(x:Oc):x.ay.all (·.h)=true:=by simp[Oc.ay,dA]
@[go_sem]theorem Oc.eU(x:Oc):eU x.ay=6:=Oc.J x
@[go_sem]theorem Oc.Qz(x:Oc):x.ay[1]? = some (.b .a x.jm):=by simp[Oc.ay,aD]
@[go_sem]theorem Oc.zJ(x:Oc):x.ay[4]? = some (.g (bK x.F)):=by simp[Oc.ay,aD]
@[go_sem]theorem Oc.agU(x:Oc):x.ay[5]? = some (.a x.Lg x.EM x.JY):=by simp[Oc.ay,aD]
def vk:Oc:=⟨0,0,false,0,[],none,0,0⟩
@[go_sem]theorem aAj:cO #[aI bT 0,aI bT 0,bP false,aI bT 0,iK {data:=#[]},bB none 0 0]=cO vk.ay:=rfl
@[go_sem]theorem avZ:eX #[aI bT 0,aI bT 0,bP false,aI bT 0,iK {data:=#[]},bB none 0 0] 58=eX vk.ay 58:=rfl
theorem kOc:pQ 58 6 vk.ay:=⟨⟨_,kW,rfl⟩,by kernel_rfl,by kernel_rfl,Oc.J _⟩
@[go_sem ↓]theorem aLV(v:aB):dw 58 v=yU 58 v:=rfl
@[go_sem ↓]theorem aLW(v x:aB):eY 58 v x=zX 58 v x:=rfl
@[go_sem]theorem aFl(W:ak)(c:Array aB)(x:Oc)(b:Nat)(hb:b=W.a.j)(hc:eU c=6):(zX 58 (.c (some ⟨b,0,none⟩)) (.d x.ay)).O ah (W.alloc (.D c 58))=.ok () (W.alloc (.D x.ay 58)):=kOc.stN W c x.ay b hb hc (Oc.J x) (Oc.dx x)
@[go_sem]theorem aIc(W:ak)(b o:Nat)(x:Oc)(h:W.S b o 6):(zX 58 (.c (some ⟨b,o,none⟩)) (.d x.ay)).O ah W=.ok () (gV W b o x.ay):=kOc.st W b o x.ay h (Oc.J x) (Oc.dx x)
@[go_sem ↓]theorem aLX(ps:Array (Nat×aB)):fU 58 ps=vK 58 ps:=rfl
theorem aoh(w:ak)(fs:Array oz)(h:ah.k 58=some (.d fs)):(iI (fun f=>Prod.mk f.offset <$> sizeOf f.type) fs:yA (Array (Nat×Nat))).O ah w=.ok #[(0,1),(1,1),(2,1),(3,1),(4,1),(5,1)] w:=by
 have e:=kW;rw[h]at e;cases e;show _=_
 kernel_rfl
@[go_sem]theorem aFm(W:ak):(vK 58 #[]).O ah W=.ok (.d vk.ay) W:=kOc.bd0 W _ kW ⟨_,aoh W _ kW⟩
theorem Oc.aAk(x:Oc)(v:Int):x.ay.c 0 (.b .a v)=({x with err:=v}:Oc).ay:=by simp[Oc.ay]
theorem Oc.aoi(x:Oc)(v:Int):x.ay.c 1 (.b .a v)=({x with jm:=v}:Oc).ay:=by simp[Oc.ay]
theorem Oc.aAl(x:Oc)(v:Bool):x.ay.c 2 (.e v)=({x with Bo:=v}:Oc).ay:=by simp[Oc.ay]
theorem Oc.as8(x:Oc)(v:Int):x.ay.c 3 (.b .a v)=({x with nP:=v}:Oc).ay:=by simp[Oc.ay]
theorem Oc.av0(x:Oc)(v:List UInt8):x.ay.c 4 (.g (bK v))=({x with F:=v}:Oc).ay:=by simp[Oc.ay]
theorem Oc.aAm(x:Oc)(A:Option aV)(n c:Nat):x.ay.c 5 (.a A n c)=({x with Lg:=A,EM:=n,JY:=c}:Oc).ay:=by simp[Oc.ay]
@[go_sem]theorem aBZ(W:ak)(h:Bool)(v:Int)(n:List UInt8)(A:Option aV)(m c:Nat):(vK 58 #[(2,.e h),(3,.b .a v),(4,.g (bK n)),(5,.a A m c)]).O ah W=.ok (.d (Oc.mk 0 0 h v n A m c).ay) W:=kOc.bd W _ _ _ _ kW (aoh W _ kW) (by
 refine(iE rfl rfl (by rw[Oc.J];omega) (Oc.aAl _ _)).trans ?_;refine(iE rfl rfl (by rw[Oc.J];omega) (Oc.as8 _ _)).trans ?_;refine(iE rfl rfl (by rw[Oc.J];omega) (Oc.av0 _ _)).trans ?_;refine(iE rfl rfl (by rw[Oc.J];omega) (Oc.aAm _ _ _ _)).trans ?_;rfl)
@[go_sem]theorem aAn(W:ak)(k:Int):(vK 58 #[(1,.b .a k)]).O ah W=.ok (.d (Oc.mk 0 k false 0 [] none 0 0).ay) W:=kOc.bd W _ _ _ _ kW (aoh W _ kW) (by
 refine(iE rfl rfl (by rw[Oc.J];omega) (Oc.aoi _ _)).trans ?_;rfl)
@[go_sem]theorem aAo(W:ak)(k:Int):(vK 58 #[(0,.b .a k)]).O ah W=.ok (.d (Oc.mk k 0 false 0 [] none 0 0).ay) W:=kOc.bd W _ _ _ _ kW (aoh W _ kW) (by
 refine(iE rfl rfl (by rw[Oc.J];omega) (Oc.aAk _ _)).trans ?_;rfl)
theorem aoj(v:Vector Int 11)(k:Nat)(hk:k<11)(n:Int):(zR v).c k (.b .a n)=zR (v.set k n):=by
 unfold zR;rw[bI,<-List.map_set];congr 2
 try grind
theorem arA(v:Vector Int 11)(k:Nat)(hk:k<11):upC v k=v.set k (v.a.b k 0+1):=by
 apply Vector.ext;intro i hi;have:v.a.b k 0=v[k]:=by simp[au,hk]
 rw[this];unfold upC;rw[Vector.getElem_ofFn,Vector.getElem_set];simp only[Fin.getElem_fin];by_cases h:k=i
 ·subst h;simp
 ·have h2:¬((i:Int)=(k:Int)):=by omega
  rw[if_neg h2,if_neg h]
theorem Eg.arB(x:Eg)(k:Nat)(hk:k<11):x.ay.c (79+k) (.b .a (x.mV.a.b k 0+1))=({x with mV:=upC x.mV k}:Eg).ay:=by
 obtain⟨P,hP,h⟩:∃P:Array aB,P.j=79/\∀v,({x with mV:=v}:Eg).ay=P++zR v:=⟨jl x.key++x.cf.ay++x.pl.ay ++ #[.a x.Pg x.EL x.Tj,.a x.dnA x.dnN x.dnC,aeu x.fl]++x.tb.ay ++ #[.b .a x.ig,.b .a x.no],by simp[dO,Cn.J,Pc.J,Tc.J],fun v=>by simp[Eg.ay,gD]⟩
 have h0:x.ay=P++zR x.mV:=h x.mV;rw[h0,h,aL,if_neg (by omega),hP,cZ,aoj _ _ hk,arA _ _ hk]
def Oc.why(k:Int):Oc:=⟨0,k,false,0,[],none,0,0⟩
theorem abY(v:aB)(xT:bL)(w:ak):(Ib (.iface 219 v) xT 219 true).O ah w=.ok (.K #[v,.e true]) w:=by
 have h:=Tryz.underlying219;simp[Ib,dK h]
theorem agV{w:ak}{q0 qb q:Nat}{o:Oc}{x:Eg}{k:Nat}(hk:k<11)(hr:o.jm=k)(hO:dP w q0 o.ay)(hB:dP w qb #[.c (some ⟨q,0,none⟩)])(hE:dP w q x.ay)(hc:0<=x.mV.a.b k 0/\x.mV.a.b k 0+1<=9223372036854775807):
 CallsD ah 134 #[.c (some ⟨q0,0,none⟩),.c (some ⟨qb,0,none⟩)] .returning w fun e u' w'=>e=.a (.K #[])/\u'=.returning/\w'=(w.I ⟨q,79+k,none⟩ (.b .a (x.mV.a.b k 0+1))).drew:=by
 have o1:=(hO.R.1 1).trans (Oc.Qz o);rw[hr]at o1;have b0:=hB.R.1 0;have b1:=hE.R.1 (79+k);rw[Eg.an9 x k hk]at b1;have b2:=hE.R.2.1 (79+k);have hw:=jY (x.mV.a.b k 0+1) (by omega);generalize x.mV.a.b k 0=n at *;refine callsD_of_wpS Tryz.func134 rfl fun c₀ cs hu=>?_
 simp only[BM,dN,bl,gU,kZ,lg,gL,gM,iX,gZ,dJ,gQ];apply I6;apply I6;apply DF;simp[wpOpsS,go_sem,recoverD,hu,BM,xg];apply I6;apply DF;simp[wpOpsS,go_sem,recoverD,hu,BM,xg];refine wpS_cond (t:=false) (by simp[Act.eval,nU]) ?_;simp only[Bool.false_eq_true,if_false];refine wpS_of_wp (wp_skip ?_);simp only[xg];refine wpS_of_wp ?_;have hk0:(0:Int)<=(k:Int):=by omega
 have hk1:(k:Int)<11:=by omega
 go_upto_region 6 with fail
 go_region;cases c₀;simp_all[bodyPostS,results,Tryz.results134]
theorem abZ{w:ak}{q0 qb q:Nat}{c:Array aB}{x:Eg}{k:Nat}(mo:List PanicEntry)(hk:k<11)(hcs:c.j=6)(hO:dP w q0 c)(hB:dP w qb #[.c (some ⟨q,0,none⟩)])(hE:dP w q x.ay)(hn1:qb≠q0)(hn2:q≠q0)(hc:0<=x.mV.a.b k 0/\x.mV.a.b k 0+1<=9223372036854775807):
 CallsD ah 134 #[.c (some ⟨q0,0,none⟩),.c (some ⟨qb,0,none⟩)] (.panicking ({v:=Rs k,recovered:=false}::mo)) w fun e u' w'=>e=.a (.K #[])/\u'=.panicking ({v:=Rs k,recovered:=true}::mo)/\w'=((gV w q0 0 (Oc.why k).ay).I ⟨q,79+k,none⟩ (.b .a (x.mV.a.b k 0+1))).drew:=by
 have hth:w.S q0 0 6:=hO.S 0 6 (by omega);have hO2:=hO.put (Oc.why k).ay (by rw[Oc.J,hcs]);have o1:=(hO2.R.1 1).trans (Oc.Qz _);rw[show(Oc.why (k:Int)).jm=k from rfl]at o1;have b0:=(hB.gN (o:=0) (x:=(Oc.why k).ay) hn1).R.1 0;have b1:=(hE.gN (o:=0) (x:=(Oc.why k).ay) hn2).R.1 (79+k);rw[Eg.an9 x k hk]at b1;have b2:=(hE.gN (o:=0) (x:=(Oc.why k).ay) hn2).R.2.1 (79+k);have hw:=jY (x.mV.a.b k 0+1) (by omega);generalize x.mV.a.b k 0=n at *;refine callsD_of_wpS Tryz.func134 rfl fun c₀ cs hu=>?_
 simp only[BM,dN,bl,gU,kZ,lg,gL,gM,iX,gZ,dJ,gQ];apply I6;apply I6;apply DF;simp[wpOpsS,go_sem,recoverD,hu,BM,xg];apply I6;apply DF;simp[wpOpsS,go_sem,recoverD,hu,BM,xg,Rs];refine wpS_cond (t:=true) (by simp[Act.eval,nU]) ?_;simp only[if_true];refine wpS_of_wp ?_;have hty:=fun v xT w=>abY v xT w
 have Dc:(Oc.mk 0 (k:Int) false 0 [] none 0 0).ay=(Oc.why k).ay:=rfl;go_wp2;simp only[xg,Dc];refine wpS_of_wp ?_;have hk0:(0:Int)<=(k:Int):=by omega
 have hk1:(k:Int)<11:=by omega
 generalize gV w q0 0 (Oc.why k).ay=w2 at *;go_upto_region 6 with fail
 go_region;exact⟨rfl,_,rfl,_,wI rfl _ _ _,rfl,rfl,rfl⟩
section
variable {W W':ak} {q:Nat} {e:En} {s:qE} {x:Eg} {q2 g:Nat} {sl:List (Option Fw)}
theorem aol(p:Int)(l:List UInt8):0<=(FM p l).1.sW/\(FM p l).1.sW<64:=by
 unfold FM pG
 repeat' split
 all_goals simp[rD]
 all_goals omega
theorem aom(l:List UInt8):0<=(lW l).sW/\(lW l).sW<64:=by
 have h:=aol;unfold lW yJ Bu
 repeat' split
 all_goals first|exact h _ _|simp[N7]
theorem aon{v:Vector Int 11}{M:Int}(h:∀n∈v.a,0<=n/\n<=M){k:Nat}(hk:k<11):0<=v.a.b k 0/\v.a.b k 0<=M:=by
 refine h _ ?_;rw[au,aC (by simpa using hk),jJ];exact eZ _
theorem Ab.num(h:Ab W q e s x q2 g sl)(hf:jP [q] W W')(ti n:Int)(v:Vector Int 11)(hb:dP W' q ({x with ig:=ti,no:=n,mV:=v}:Eg).ay):Ab W' q e {s with ig:=ti,no:=n,mV:=v} ({x with ig:=ti,no:=n,mV:=v}:Eg) q2 g sl:=by
 have o:∀b,b∈qY x->b∉[q]:=fun b hm=>h.b.i hm
 have hs:=hf.j;have hq:=h.b.nq;refine⟨⟨hb,h.b.key,h.b.cf,h.b.nP,h.b.vs.keep hf (fun b hm=>o b (dX.2 (.b hm))),h.b.h.keep hf (fun b hm=>o b (dX.2 (.a (.b hm)))),h.b.hl.keep hf (fun b hm=>o b (dX.2 (.a (.a (.b hm))))),h.b.fl,h.b.tb.keep hf (by simp;omega) (by simp;omega),h.b.rm,h.b.nq,fun b hm=>by have:=h.b.IL b hm;omega,rfl,rfl,rfl⟩,h.dn.keep hf (fun b hm=>o b (dX.2 (.a (.a (.a (.b hm)))))),h.tt.keep hf (fun b hm=>o b (dX.2 (.a (.a (.a (.a (.b hm))))))) (fun b hm=>o b (dX.2 (.a (.a (.a (.a (.a hm)))))))⟩
theorem Ab.rP{sl':List (Option Fw)}{l':List Fw}(h:Ab W q e s x q2 g sl)(hf:jP [q2,g] W W')(ht:Lf W' q2 g e.key e.c.dV sl' l')(hl:sl'.a=sl.a):Ab W' q e {s with tQ:=l'} x q2 g sl':=by
 have o:∀b,b∈qY x->b∉[q2,g]:=fun b hm=>by have:=h.b.IL b hm;simp;omega
 have hs:=hf.j;have hq:=h.b.nq;refine⟨⟨hf.box h.b.eg (by simp;omega),h.b.key,h.b.cf,h.b.nP,h.b.vs.keep hf (fun b hm=>o b (dX.2 (.b hm))),h.b.h.keep hf (fun b hm=>o b (dX.2 (.a (.b hm)))),h.b.hl.keep hf (fun b hm=>o b (dX.2 (.a (.a (.b hm))))),h.b.fl,ht,by rw[hl];exact h.b.rm,h.b.nq,fun b hm=>by have:=h.b.IL b hm;omega,h.b.ig,h.b.no,h.b.mV⟩,h.dn.keep hf (fun b hm=>o b (dX.2 (.a (.a (.a (.b hm)))))),h.tt.keep hf (fun b hm=>o b (dX.2 (.a (.a (.a (.a (.b hm))))))) (fun b hm=>o b (dX.2 (.a (.a (.a (.a (.a hm)))))))⟩
structure OuR(B:Nat)(W:ak)(o:Oc)(u:Ou):Prop where
 err:o.err=u.err
 jm:o.jm=u.jm
 Bo:o.Bo=u.Bo
 nP:o.nP=u.nP
 F:o.F=u.F
 n:o.EM=u.i.a
 vM:W.c B 5 1 (.a o.Lg o.EM o.JY) o.EM (u.i.map bv)
def XU(W:ak)(q:Nat)(e:En)(x:Eg)(q2 g:Nat)(sl:List (Option Fw))(u:qE×Ou)(r:lJ)(W':ak):Prop:=
 ∃o x' sl',r=.a (.d (Oc.ay o))/\OuR W.a.j W' o u.2/\Ab W' q e u.1 x' q2 g sl'/\sl'.a=sl.a/\(∀b∈qY x',b∈qY x\/W.a.j<=b)/\jP [q,q2,g] W W'
theorem OuR.keep{B:Nat}{o:Oc}{u:Ou}{F:List Nat}(h:OuR B W o u)(hf:jP F W W')(hF:∀b∈F,b<B):OuR B W' o u:=
 ⟨h.err,h.jm,h.Bo,h.nP,h.F,h.n,Ci h.vM hf (fun k hk hm=>by
  have h2:k∈xG o.Lg:=by
   cases hA:o.Lg with
   | none=>rw[hA]at hk;cases hk
   | some a=>rw[hA]at hk;exact Eh.2 ⟨a,rfl,by simpa[j6]using hk⟩
  have h3:=(lM h.vM k h2).1;have:=hF k hm;omega)⟩
theorem Ab.count(h:Ab W q e s x q2 g sl){k:Nat}(hk:k<11):Ab (W.I ⟨q,79+k,none⟩ (.b .a (x.mV.a.b k 0+1))).drew q e {s with mV:=upC s.mV k} ({x with mV:=upC x.mV k}:Eg) q2 g sl:=by
 have hb:=h.b.eg.fC (79+k) (.b .a (x.mV.a.b k 0+1));rw[Eg.arB x k hk]at hb;have hf:jP [q] W (W.I ⟨q,79+k,none⟩ (.b .a (x.mV.a.b k 0+1))).drew:=((jP.refl [q] W).set ⟨q,79+k,none⟩ _ (.b (by simp))).drewN 1;have:=h.num hf x.ig x.no (upC x.mV k) (hb.go (eD (aG _ _) 1));rw[h.b.ig,h.b.no,h.b.mV]at this;rw[h.b.mV];rw[<-h.b.ig,<-h.b.no]at this ⊢;exact this
theorem Ul{M:Int}{w:ak}{c:Array aB}{l:List UInt8}(tmps:Array aB)(r:Int)(ht:tmps.b 4 undef=.c (some ⟨W.a.j+1,0,none⟩))(hO:dP w (W.a.j+1) c)(hc:c.j=6)(hB:dP w W.a.j #[.c (some ⟨q,0,none⟩)])(h:Ab W q e s x q2 g sl)(hi:og M e s)(hM:M<1152921504606846976)(hr:(oW e s l).jm=r)(h0:r≠0)(hl:aM W.a.j W w):
 bodyPostD ah Tryz.f70 (XU W q e x q2 g sl (Dr e s l)) (Exit.panic [{v:=Rs r,recovered:=false}]) {tmps:=tmps,defers:=[{target:=Target.fn (Fn.func 134) #[tJ (some ⟨W.a.j+1,0,none⟩),tJ (some ⟨W.a.j,0,none⟩)],args:=#[]}]} w:=by
 have h1:=agr e s l;rw[hr]at h1;obtain⟨k,rfl⟩:∃k:Nat,r=k:=⟨r.e,by omega⟩
 have hk:k<11:=by omega
 have hu:Dr e s l=({s with mV:=upC s.mV k},{Hr with jm:=k}):=by unfold Dr;rw[hr,if_neg h0]
 have hlt:=h.b.lt;have hcn:=aon hi.ct hk;rw[<-h.b.mV]at hcn;have hE:=h.b.eg.go hl;refine leaves_cons (f:=134) (args:=#[.c (some ⟨W.a.j+1,0,none⟩),.c (some ⟨W.a.j,0,none⟩)]) (by simp) (by simp[go_sem]) ?_;refine(abZ [] hk hc hO hB hE (by omega) (by omega) (by omega)).g ?_;have hl2:=lQ hl (W.a.j+1) 0 (Oc.why k).ay (by omega);have hO2:=hO.put (Oc.why k).ay (by rw[Oc.J,hc]);generalize gV w (W.a.j+1) 0 (Oc.why k).ay=w2 at *;rintro r u' w'' ⟨rfl,rfl,rfl⟩;have hE2:=(h.go hl2).count (k:=k) hk;have hf:jP [q] w2 (w2.I ⟨q,79+k,none⟩ (.b .a (x.mV.a.b k 0+1))).drew:=((jP.refl [q] w2).set ⟨q,79+k,none⟩ _ (.b (by simp))).drewN 1;refine⟨_,kOc.Aj (fn:=Tryz.f70) (p:=4) (by kernel_rfl) tmps ht (hf.box hO2 (by simp;omega)) (Oc.J _),?_⟩;rw[hu];exact⟨_,_,sl,rfl,⟨rfl,rfl,rfl,rfl,rfl,rfl,fQ _ _ _ _⟩,hE2,rfl,fun b hb=>.b hb,(jP.jF hl2).trans (hf.lD (by simp)) (fun g hg=>.b hg)⟩
theorem arC{M:Int}{w:ak}{s':qE}{x':Eg}{sl':List (Option Fw)}{o:Oc}{u:qE×Ou}(tmps:Array aB)(ht:tmps.b 4 undef=.c (some ⟨W.a.j+1,0,none⟩))(hO:dP w (W.a.j+1) o.ay)(hB:dP w W.a.j #[.c (some ⟨q,0,none⟩)])(h:Ab w q e s' x' q2 g sl')(hct:∀n∈s'.mV.a,0<=n/\n<=M)(hM:M<1152921504606846976)(hr:o.jm=0)(hu:u.1={s' with mV:=upC s'.mV 0})(hou:OuR W.a.j w o u.2)(hsl:sl'.a=sl.a)(hrw:qY x'=qY x)(hq:q<W.a.j)(hl:jP [q,q2,g] W w):
 bodyPostD ah Tryz.f70 (XU W q e x q2 g sl u) Exit.ret {tmps:=tmps,defers:=[{target:=Target.fn (Fn.func 134) #[tJ (some ⟨W.a.j+1,0,none⟩),tJ (some ⟨W.a.j,0,none⟩)],args:=#[]}]} w:=by
 have hcn:=aon hct (k:=0) (by omega);rw[<-h.b.mV]at hcn;refine leaves_cons (f:=134) (args:=#[.c (some ⟨W.a.j+1,0,none⟩),.c (some ⟨W.a.j,0,none⟩)]) (by simp) (by simp[go_sem]) ?_;refine(agV (k:=0) (by omega) hr hO hB h.b.eg (by omega)).g ?_;rintro r u' w'' ⟨rfl,rfl,rfl⟩;have hE2:Ab _ q e {s' with mV:=upC s'.mV 0} ({x' with mV:=upC x'.mV 0}:Eg) q2 g sl':=h.count (k:=0) (by omega);have hf:jP [q] w (w.I ⟨q,79+0,none⟩ (.b .a (x'.mV.a.b 0 0+1))).drew:=((jP.refl [q] w).set ⟨q,79+0,none⟩ _ (.b (by simp))).drewN 1;refine⟨_,kOc.Aj (fn:=Tryz.f70) (p:=4) (by kernel_rfl) tmps ht (hf.box hO (by simp;omega)) (Oc.J _),?_⟩;refine⟨_,({x' with mV:=upC x'.mV 0}:Eg),sl',rfl,hou.keep hf (by simp;omega),?_,hsl,fun b hb=>.b (by rw[<-hrw];exact hb),hl.trans hf (fun g hg=>.b (by simp at hg;simp[hg]))⟩;rw[hu];exact hE2
end
end Go.Proofs.YtkjojjopamaoiaaGreat
