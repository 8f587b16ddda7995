/- Parts. -/
import Derived.Test.YtkjojjopamaoiaaGreatXx3
import Derived.Test.YtkjojjopamaoiaaGreatXx2
import Derived.Deep.RegionHeldLaw
import Derived.Shelf.SlIter.Sorted
set_option linter.unusedSimpArgs false
set_option linter.unusedVariables false
set_option linter.unusedSectionVars false
set_option maxRecDepth 100000
set_option maxHeartbeats 8000000
open Array renaming getElem?_setIfInBounds->dO,mapM->iB,getElem?_append->aG,ext_getElem?->dV,getElem?_eq_none->aV,size_extract->jF,range->lW,ext'->oZ,toList_range->j5,size_append->nW,append_assoc->fT,extract_append->dA,setIfInBounds_append->aM,setIfInBounds_eq_of_size_le->jQ,replicate->nC
open BitVec renaming ofInt->fU,ofInt_natCast->lU,toNat_ofNat->nG,toNat_and->Gj
open Bool renaming and_eq_true->bl,eq_iff_iff->cO,or_eq_true->nE,false_eq_true->jH
open Go renaming Value->aC,Sem->xO,World->au,Field->nV,run_storeAt_new->zH,run_storeAt_mid->EF,TypeInfo->nM,Calls->aR,Addr->aU,Program->eF,Oper->iV,Act->re,Exit->Aq,Operand->pQ,TypeId->bM,wpList_plain->tu,Ending->kX,run_underlying->dJ,run_equalIn_struct->zS,getD_set_ne->xP,mem_ready->kE,yieldsIn_of_qOp->qW,getD_replicate_false->mJ,wpS_region->Df
open Go.Act renaming put->lN
open Go.Addr renaming add_mid->iC,add->rF
open Go.Builtin renaming append_->AQ,copy_->qI
open Go.Ending renaming returned->uz
open Go.Instr renaming build->fJ,loadAt->bZ,storeAt->eD,buildSlice->bJ,fill->fB,makeSlice->yh,typeAssert->Ie
open Go.IntKind renaming i64->bU,wrap->vR,bits->nS,signed->lT
open Go.Lib renaming hid->ah
open Go.Obj renaming cells->eB
open Go.Op renaming eqItems->Lh,equalIn->jl,eqFields->wM,bytesLess->bT
open Go.Oper renaming wp->nD,upon->Nu
open Go.Program renaming fieldsOf->jR
open Go.Proofs.Tryz renaming prog->aj,underlying81->jY,underlying86->mX,underlying37->su,underlying35->FZ,underlying56->dw,underlying70->oq,underlying276->Ea,underlying3->gQ,underlying27->eZ,underlying98->sw,underlying29->mY,underlying192->pE,underlying189->pF,underlying172->pG,underlying168->Eb,underlying83->vK,underlying179->uD,underlying108->uE,underlying268->Ec,ntmps90->I8
open Go.Region renaming wanted->fC,seqB->lC,ready->fV,lexTailB->xQ,binds->qJ
open Go.Result renaming andThen->iD,andThen_ok->gK
open Go.RowKit renaming Below->aN
open Go.RowKit.Below renaming refl->aH
open Go.Value renaming oneCell'->cK,bool->bQ,string->jc,agg->bY,int->aJ,slice->bE,cells->cu,pointer->sG
open List renaming getElem?_toArray->dZ,getD_eq_getElem?_getD->av,take_append_drop->iF,map_append->jh,length_append->aS,length_map->bR,flatMap_cons->iJ,ext_getElem?->iI,getElem?_take_of_lt->ig,getElem?_eq_none->aT,append_assoc->dB,mem_cons->bD,mem_cons_of_mem->jX,range->dW,all_eq_true->gH,mem_range->eH,mem_iff_getElem->kS,pairwise_cons->gL,mem_filter->mh,replicate->dU,filter_eq_self->xu,getElem?_map->jD,getElem?_eq_getElem->aD,length_drop->jA,getElem?_set->fG,getElem?_eq_some_iff->iE,filter_congr->Ga,eq_nil_iff_forall_not_mem->tV,getElem?_drop->jf
open Nat renaming lt_or_ge->bf,zero_add->bB,add_comm->uN,add_sub_cancel_left->kI,mul_one->gF,le_refl->ay,le_trans->aP,lt_of_lt_of_le->eU,le_succ->Nr,lt_succ_self->mG,mod_eq_of_lt->fM,ne_of_lt->jL
open Ne renaming symm->jm
open UInt8 renaming ofNat->aK
open Vector renaming replicate->bG
namespace Go.Proofs.YtkjojjopamaoiaaGreat
open Go.RowKit
theorem ab8(c:Array aC)(i j:Nat)(v:aC)(hi:i<c.size):(c.setIfInBounds i v)[j]? = if i=j then some v else c[j]?:=by
 rw[dO];split
 ·rename_i h;subst h;simp[hi]
 ·rfl
def aA2(ps:Array (Nat×aC)):xO aC:=fJ 62 ps
@[go_sem ↓]theorem aEF(ps:Array (Nat×aC)):fJ 62 ps=aA2 ps:=rfl
theorem akU(w:au)(fs:Array nV)(h:aj.underlying 62=some (.struct fs)):(iB (fun f=>Prod.mk f.offset <$> sizeOf f.type) fs:xO (Array (Nat×Nat))).run aj w=.ok #[(0,1),(1,17),(18,1),(19,6),(25,1),(26,1)] w:=by
 have e:=Tryz.underlying62;rw[h]at e;cases e;show _=_
 kernel_rfl
theorem aoh:(aj.info? 5).map (·.size)=some 1:=by kernel_rfl
theorem Bu(a b:Array aC)(k j:Nat)(ha:a.size=k):(a++b)[j]? = if j<k then a[j]? else b[j-k]?:=by
 rw[aG,ha]
def tuT(t:Tu):Array aC:=#[.int .i64 t.aQ,.int .i64 t.kU,.int .i64 t.j4]
def Tu.aA(t:Tu):Array aC:=t.src.aA++(t.dst.aA++tuT t)
theorem Tu.ak(t:Tu):t.aA.size=37:=by simp[Tu.aA,tuT,fu.ak]
theorem Tu.OP(t:Tu)(j:Nat)(hj:j<17):t.aA[j]? = t.src.aA[j]?:=by
 unfold Tu.aA;rw[Bu _ _ 17 _ (fu.ak _),if_pos hj]
theorem Tu.Mf(t:Tu)(j:Nat)(hj:j<17):t.aA[j+17]? = t.dst.aA[j]?:=by
 unfold Tu.aA;rw[Bu _ _ 17 _ (fu.ak _),if_neg (by omega),Bu _ _ 17 _ (fu.ak _),if_pos (by omega)];congr 1
theorem Tu.Cr(t:Tu)(j:Nat)(hj:j<3):t.aA[j+34]? = (tuT t)[j]?:=by
 unfold Tu.aA;rw[Bu _ _ 17 _ (fu.ak _),if_neg (by omega),Bu _ _ 17 _ (fu.ak _),if_neg (by omega)];congr 1
@[go_sem]theorem Tu.qH(t:Tu):t.aA[0]? = some (.bool t.src.j6):=(Tu.OP t 0 (by omega)).trans (fu.qH _)
@[go_sem]theorem Tu.awt(t:Tu):t.aA[17]? = some (.bool t.dst.j6):=(Tu.Mf t 0 (by omega)).trans (fu.qH _)
@[go_sem]theorem Tu.WR(t:Tu):t.aA[34]? = some (.int .i64 t.aQ):=Tu.Cr t 0 (by omega)
@[go_sem]theorem Tu.aha(t:Tu):t.aA[35]? = some (.int .i64 t.kU):=Tu.Cr t 1 (by omega)
@[go_sem]theorem Tu.ab9(t:Tu):t.aA[36]? = some (.int .i64 t.j4):=Tu.Cr t 2 (by omega)
theorem gX{a b:Array aC}(h1:a.all (·.oneCell')=true)(h2:b.all (·.oneCell')=true):(a++b).all (·.oneCell')=true:=by
 rw[Array.all_append,h1,h2];rfl
theorem Tu.cB(t:Tu):t.aA.all (·.oneCell')=true:=gX (fu.cB _) (gX (fu.cB _) (by simp[tuT,cK]))
theorem Tu.ab'{c:Array aC}{t:Tu}(hc:c.size=37)(h0:∀j,j<17->c[j]? = t.src.aA[j]?)(h1:∀j,j<17->c[j+17]? = t.dst.aA[j]?)(h2:∀j,j<3->c[j+34]? = (tuT t)[j]?):c=t.aA:=by
 apply dV;intro j;rcases(show j<17\/(17<=j/\j<34)\/(34<=j/\j<37)\/37<=j by omega)with h|⟨h,h'⟩|⟨h,h'⟩|h
 ·rw[h0 j h,Tu.OP t j h]
 ·obtain⟨i,rfl⟩:∃i,j=i+17:=⟨j-17,by omega⟩
  rw[h1 i (by omega),Tu.Mf t i (by omega)]
 ·obtain⟨i,rfl⟩:∃i,j=i+34:=⟨j-34,by omega⟩
  rw[h2 i (by omega),Tu.Cr t i (by omega)]
 ·rw[aV (by omega),aV (by rw[Tu.ak];exact h)]
@[go_sem]theorem Tu.eu(x:Tu):eu x.aA=37:=Tu.ak x
@[go_sem]theorem Tu.kg(x:Tu):x.aA.extract 0 37=x.aA:=by
 have:=Tu.ak x;rw[<-this];simp
def xI(v:aC):xO aC:=bZ 81 v
def ajb(v x:aC):xO Unit:=eD 81 v x
@[go_sem ↓]theorem azn(v:aC):bZ 81 v=xI v:=rfl
@[go_sem ↓]theorem awu(v x:aC):eD 81 v x=ajb v x:=rfl
@[go_sem]theorem UW(W:au)(b o:Nat)(h:xS W b o 37):(xI (.pointer (some ⟨b,o,none⟩))).run aj W=.ok (.agg (dY W b o 37)) W:=
 ko W b o 37 _ _ jY rfl (by kernel_rfl) h
@[go_sem]theorem ar5(W:au)(c:Array aC)(x:Tu)(b:Nat)(hb:b=W.heap.size)(hc:eu c=37):
 (ajb (.pointer (some ⟨b,0,none⟩)) (.agg x.aA)).run aj (W.alloc (.cells c 81))=.ok () (W.alloc (.cells x.aA 81)):=by
 subst hb;exact zH W _ c x.aA (by rw[Tu.ak];kernel_rfl) (by rw[Tu.ak];exact hc) (Tu.cB x)
def Tu.to0(t:Tu)(n:Int):Tu:={t with aQ:=n}
def Tu.to1(t:Tu)(n:Int):Tu:={t with kU:=n}
def Tu.to2(t:Tu)(n:Int):Tu:={t with j4:=n}
theorem Tu.aA3(t:Tu)(u:Int):t.aA.setIfInBounds 34 (.int .i64 u)=(t.to0 u).aA:=by
 refine Tu.ab' (by simp[Tu.ak]) ?_ ?_ ?_<;>intro j hj<;>rw[ab8 _ _ _ _ (by rw[Tu.ak];omega)]
 ·rw[if_neg (by omega),Tu.OP t j hj];rfl
 ·rw[if_neg (by omega),Tu.Mf t j hj];rfl
 ·rcases(show j=0\/j=1\/j=2 by omega)with rfl|rfl|rfl
  ·rw[if_pos (by omega)];rfl
  ·rw[if_neg (by omega),Tu.Cr t 1 (by omega)];rfl
  ·rw[if_neg (by omega),Tu.Cr t 2 (by omega)];rfl
theorem Tu.aA4(t:Tu)(u:Int):t.aA.setIfInBounds 35 (.int .i64 u)=(t.to1 u).aA:=by
 refine Tu.ab' (by simp[Tu.ak]) ?_ ?_ ?_<;>intro j hj<;>rw[ab8 _ _ _ _ (by rw[Tu.ak];omega)]
 ·rw[if_neg (by omega),Tu.OP t j hj];rfl
 ·rw[if_neg (by omega),Tu.Mf t j hj];rfl
 ·rcases(show j=0\/j=1\/j=2 by omega)with rfl|rfl|rfl
  ·rw[if_neg (by omega),Tu.Cr t 0 (by omega)];rfl
  ·rw[if_pos (by omega)];rfl
  ·rw[if_neg (by omega),Tu.Cr t 2 (by omega)];rfl
theorem Tu.auG(t:Tu)(u:Int):t.aA.setIfInBounds 36 (.int .i64 u)=(t.to2 u).aA:=by
 refine Tu.ab' (by simp[Tu.ak]) ?_ ?_ ?_<;>intro j hj<;>rw[ab8 _ _ _ _ (by rw[Tu.ak];omega)]
 ·rw[if_neg (by omega),Tu.OP t j hj];rfl
 ·rw[if_neg (by omega),Tu.Mf t j hj];rfl
 ·rcases(show j=0\/j=1\/j=2 by omega)with rfl|rfl|rfl
  ·rw[if_neg (by omega),Tu.Cr t 0 (by omega)];rfl
  ·rw[if_neg (by omega),Tu.Cr t 1 (by omega)];rfl
  ·rw[if_pos (by omega)];rfl
def fwT(x:Fw):Array aC:=#[.string (bV x.name),.int .i64 x.xU,.int .i64 x.seen,.int .i64 x.no]
def Fw.aA(x:Fw):Array aC:=x.key.aA++fwT x
theorem Fw.ak(x:Fw):x.aA.size=41:=by simp[Fw.aA,fwT,Tu.ak]
theorem Fw.aA6(x:Fw)(j:Nat)(hj:j<37):x.aA[j]? = x.key.aA[j]?:=by
 unfold Fw.aA;rw[Bu _ _ 37 _ (Tu.ak _),if_pos hj]
theorem Fw.Cr(x:Fw)(j:Nat)(hj:j<4):x.aA[j+37]? = (fwT x)[j]?:=by
 unfold Fw.aA;rw[Bu _ _ 37 _ (Tu.ak _),if_neg (by omega)];congr 1
@[go_sem]theorem Fw.ahb(x:Fw):x.aA[37]? = some (.string (bV x.name)):=Fw.Cr x 0 (by omega)
@[go_sem]theorem Fw.ahc(x:Fw):x.aA[38]? = some (.int .i64 x.xU):=Fw.Cr x 1 (by omega)
@[go_sem]theorem Fw.ahd(x:Fw):x.aA[39]? = some (.int .i64 x.seen):=Fw.Cr x 2 (by omega)
@[go_sem]theorem Fw.aca(x:Fw):x.aA[40]? = some (.int .i64 x.no):=Fw.Cr x 3 (by omega)
theorem Fw.cB(x:Fw):x.aA.all (·.oneCell')=true:=gX (Tu.cB _) (by simp[fwT,cK])
@[go_sem]theorem Fw.eu(x:Fw):eu x.aA=41:=Fw.ak x
@[go_sem]theorem Fw.kg(x:Fw):x.aA.extract 0 41=x.aA:=by
 have:=Fw.ak x;rw[<-this];simp
def Rq(v:aC):xO aC:=bZ 86 v
def acb(v x:aC):xO Unit:=eD 86 v x
@[go_sem ↓]theorem azo(v:aC):bZ 86 v=Rq v:=rfl
@[go_sem ↓]theorem awv(v x:aC):eD 86 v x=acb v x:=rfl
@[go_sem]theorem ajc(W:au)(b o:Nat)(h:xS W b o 41):(Rq (.pointer (some ⟨b,o,none⟩))).run aj W=.ok (.agg (dY W b o 41)) W:=
 ko W b o 41 _ _ mX rfl (by kernel_rfl) h
@[go_sem]theorem ar6(W:au)(c:Array aC)(x:Fw)(b:Nat)(hb:b=W.heap.size)(hc:eu c=41):
 (acb (.pointer (some ⟨b,0,none⟩)) (.agg x.aA)).run aj (W.alloc (.cells c 86))=.ok () (W.alloc (.cells x.aA 86)):=by
 subst hb;exact zH W _ c x.aA (by rw[Fw.ak];kernel_rfl) (by rw[Fw.ak];exact hc) (Fw.cB x)
def Bn(W:au)(b o:Nat)(x:Fw):au:=W.setCells b o x.aA.toList
@[go_sem]theorem aA7(W:au)(b o:Nat)(x:Fw)(h:W.there b o 41):(acb (.pointer (some ⟨b,o,none⟩)) (.agg x.aA)).run aj W=.ok () (Bn W b o x):=
 EF W b o _ x.aA (by rw[Fw.ak];exact h) (by rw[Fw.ak];kernel_rfl) (Fw.cB x)
theorem ahe:∃i:nM,aj.info? 86=some i/\i.zero=some (.agg kQ.aA)/\i.size=41/\i.bytes<=400:=by
 cases h:aj.info? 86 with
 | none=>exact absurd h (by have:(aj.info? 86).isSome=true:=by kernel_rfl
                            intro e;rw[e]at this;cases this)
 | some i=>
   have h1:(aj.info? 86).map (·.size)=some 41:=by kernel_rfl
   have h2:(aj.info? 86).map (fun i=>decide (i.bytes<=400))=some true:=by kernel_rfl
   have h3:(aj.info? 86).map (·.zero)=some (some (.agg kQ.aA)):=by kernel_rfl
   rw[h]at h1 h2 h3;simp at h1 h2 h3;exact⟨i,rfl,h3,h1,h2⟩
def aww(ps:Array (Nat×aC)):xO aC:=fJ 86 ps
@[go_sem ↓]theorem aEG(ps:Array (Nat×aC)):fJ 86 ps=aww ps:=rfl
def auH(n:Nat)(ps:Array (Nat×aC)):xO aC:=bJ 34 n ps
@[go_sem ↓]theorem aA8(n:Nat)(ps:Array (Nat×aC)):bJ 34 n ps=auH n ps:=rfl
@[go_sem]theorem azp(w:au)(x:Fw):(auH 1 #[(0,.agg x.aA)]).run aj w=.ok (.slice (some ⟨w.heap.size,0,none⟩) 1 1) (w.alloc (.cells x.aA 86)):=by
 obtain⟨i0,oz,mZ,nu,Ar⟩:=ahe;exact rX w _ _ i0 (.agg kQ.aA) 41 Tryz.underlying34 oz mZ nu (Fw.ak kQ) (by omega) (by omega) x.aA (Fw.ak x)
@[go_sem]theorem awx:eB #[bQ false,aB,aB,aB,aB,aB,aB,aB,aB,aB,aB,aB,aB,aB,aB,aB,aB,bQ false,aB,aB,aB,aB,aB,aB,aB,aB,aB,aB,aB,aB,aB,aB,aB,aB,bg,bg,bg] 81=eB agu.aA 81:=rfl
@[go_sem]theorem awy:eB #[bQ false,aB,aB,aB,aB,aB,aB,aB,aB,aB,aB,aB,aB,aB,aB,aB,aB,bQ false,aB,aB,aB,aB,aB,aB,aB,aB,aB,aB,aB,aB,aB,aB,aB,aB,bg,bg,bg,jc {data:=#[]},bg,bg,bg] 86=eB kQ.aA 86:=rfl
@[go_sem]theorem aA9:bY #[bQ false,aB,aB,aB,aB,aB,aB,aB,aB,aB,aB,aB,aB,aB,aB,aB,aB,bQ false,aB,aB,aB,aB,aB,aB,aB,aB,aB,aB,aB,aB,aB,aB,aB,aB,bg,bg,bg]=bY agu.aA:=rfl
@[go_sem]theorem aA':bY #[bQ false,aB,aB,aB,aB,aB,aB,aB,aB,aB,aB,aB,aB,aB,aB,aB,aB,bQ false,aB,aB,aB,aB,aB,aB,aB,aB,aB,aB,aB,aB,aB,aB,aB,aB,bg,bg,bg,jc {data:=#[]},bg,bg,bg]=bY kQ.aA:=rfl
theorem pO{W:au}{b:Nat}{t:Tu}(h:dL W b t.aA):(xI (.pointer (some ⟨b,0,none⟩))).run aj W=.ok (.agg t.aA) W:=by
 obtain⟨_,_,h3,h4⟩:=h.aI;rw[UW _ _ _ (by rw[h3 0 37 (by rw[Tu.eu];omega)];trivial),h4 0 37 (by rw[Tu.eu];omega),Tu.kg]
theorem aeG(c:Nat)(w:au):aR aj 262 #[.int .u8 c] w fun e w'=>e=.returned (.bool ((c:Int) != 0))/\w=w':=by
 go_enter Tryz.func262,Tryz.ntmps262;go_wp2;go_ret;exact⟨rfl,rfl⟩
theorem WS(args:Array aC)(w:au):(callFunc 262 args).run aj w=.ok (.enter 262 args) w:=by kernel_rfl
theorem aoi(a:fu)(b o c:Nat)(w:au)(hc:∀j,j<12->w.cell? ⟨b,o+j,none⟩=some (.int .u8 ((a.fE (4+j)).toNat:Nat))):
 aR aj 260 #[.slice (some ⟨b,o,none⟩) 12 c,.func (.func 262) #[] #[]] w fun e w'=>∃r:Int,e=.returned (.int .i64 r)/\(decide (0<=r) = !a.mK)/\w=w':=by
 have hen:=WS;have HC:=ah hc;clear hc;go_enter Tryz.func260,Tryz.ntmps260;go_wp2;go_loop [8] (fun s8=>∃i:Nat,i<=12/\s8=.int .i64 i/\∀j,4<=j->j<4+i->a.fE j=0) (fun s8=>12-(intOf s8).toNat)
 case atStart=>exact⟨0,by omega,rfl,fun j h1 h2=>by omega⟩
 case round=>
  obtain⟨i,hi,rfl,mV⟩:=hrel;have HA:=ah mV;clear mV;by_cases fP:i<12
  ·have wW:(i:Int)<12:=by omega
   have hcell:=HC.out i fP;have hz:((a.fE (4+i)).toNat:Int)=0↔a.fE (4+i)=0:=by
    constructor
    ·intro h;apply UInt8.toNat_inj.1;have:(0:UInt8).toNat=0:=rfl;omega
    ·intro h;rw[h];rfl
   have HZ:=ah hz;clear hz;obtain⟨n,hn⟩:∃n:Nat,n=(a.fE (4+i)).toNat:=⟨_,rfl⟩
   rw[<-hn]at hcell HZ;clear hn;by_cases h0:n=0
   ·have h1:((n:Int) != 0)=false:=by rw[h0];rfl
    have mZ:a.fE (4+i)=0:=HZ.out.1 (by omega);have Nz:=ah mZ;clear mZ h0;go_wp2_with (go_at_call 262;refine(aeG n _).mono ?_;rintro e w' ⟨rfl,rfl⟩);go_round
    case rel=>exact⟨i+1,by omega,by go_num,fun j h1 h2=>by
     by_cases YA:j=4+i
     ·rw[YA];exact Nz.out
     ·exact HA.out j h1 (by omega)⟩
    case measure=>simp[intOf]<;>omega
   ·have h1:((n:Int) != 0)=true:=by rw[bne_iff_ne];omega
    have uU:a.mK=false:=fu.VU (i:=4+i) (by omega) (by omega) (fun h=>h0 (by have:=HZ.out.2 h;omega));have Gu:=ah uU;clear uU h0;go_wp2_with (go_at_call 262;refine(aeG n _).mono ?_;rintro e w' ⟨rfl,rfl⟩);go_ret;exact⟨_,rfl,by rw[Gu.out];simp,rfl⟩
  ·obtain rfl:i=12:=by omega
   have hs:a.mK=true:=a.KC.2 HA.out;have HS:=ah hs;clear hs;go_wp2;go_ret;exact⟨_,rfl,by rw[HS.out];simp,rfl⟩
theorem aoj(a:fu)(b o c:Nat)(w:au)(hc:∀j,j<12->w.cell? ⟨b,o+j,none⟩=some (.int .u8 ((a.fE (4+j)).toNat:Nat))):
 aR aj 189 #[.slice (some ⟨b,o,none⟩) 12 c,.func (.func 262) #[] #[]] w fun e w'=>e=.returned (.bool (!a.mK))/\w=w':=by
 have HC:=ah hc;clear hc;go_enter Tryz.func189,Tryz.ntmps189;go_wp2_with (go_at_call 260;refine(aoi a b o c _ HC.out).mono ?_;rintro e w' ⟨r,rfl,hr,rfl⟩);go_ret;exact⟨by simp,rfl⟩
theorem fu.qN(a:fu):qN a=(a.j6||a.mK):=rfl
theorem JG(a:fu)(w:au):aR aj 193 #[.agg a.aA] w (gP w (.bool (qN a))):=by
 have HB:=ah ((aH w.heap.size w).alloc (ay _) (.cells a.aA 27));have HT:=ah (show∀j,j<12->(w.alloc (.cells a.aA 27)).cell? ⟨w.heap.size,5+j,none⟩=some (.int .u8 ((a.fE (4+j)).toNat:Nat))from fun j hj=>by
  rw[mU,show 5+j=(4+j)+1 by omega];exact fu.EU a (4+j) (by omega))
 have HK:=ah (fu.qN a);cases h6:a.j6
 ·have H6:=ah h6
  obtain⟨K,hK⟩:∃K,a.mK=K:=⟨_,rfl⟩
  have HKK:=ah hK;clear hK;go_enter Tryz.func193,Tryz.ntmps193;go_wp2_with fail;refine(aoj a _ 5 _ _ HT.out).mono ?_;rintro e w' ⟨rfl,rfl⟩;rw[HKK.out];cases K
  all_goals
   go_wp2;go_ret;exact⟨by rw[HK.out,HKK.out,H6.out];rfl,HB.out⟩
 ·have H6:=ah h6
  go_enter Tryz.func193,Tryz.ntmps193;go_wp2;go_ret;exact⟨by rw[HK.out,H6.out];rfl,HB.out⟩
@[go_sem]theorem Tu.akV(t:Tu):t.aA.extract 0 17=t.src.aA:=by
 apply dV;intro j;rcases bf j 17 with h|h
 ·rw[nX t.aA 0 17 j h (by rw[Tu.ak];omega),bB,Tu.OP t j h]
 ·rw[aV (by rw[jF,Tu.ak];omega),aV (by rw[fu.ak];exact h)]
@[go_sem]theorem Tu.akW(t:Tu):t.aA.extract 17 34=t.dst.aA:=by
 apply dV;intro j;rcases bf j 17 with h|h
 ·rw[show(34:Nat)=17+17 from rfl,nX t.aA 17 17 j h (by rw[Tu.ak];omega),uN,Tu.Mf t j h]
 ·rw[aV (by rw[jF,Tu.ak];omega),aV (by rw[fu.ak];exact h)]
@[go_sem]theorem Fw.Tj(x:Fw):x.aA.extract 0 37=x.key.aA:=by
 apply dV;intro j;rcases bf j 37 with h|h
 ·rw[nX x.aA 0 37 j h (by rw[Fw.ak];omega),bB,Fw.aA6 x j h]
 ·rw[aV (by rw[jF,Fw.ak];omega),aV (by rw[Tu.ak];exact h)]
theorem UY(t:Tu):Gz t=(decide (t.src.j6=t.dst.j6)&&qN t.src&&qN t.dst&&(decide (0<=t.aQ)&&decide (t.aQ<=255))&&(decide (0<=t.kU)&&decide (t.kU<=65535))&&(decide (0<=t.j4)&&decide (t.j4<=65535))):=rfl
theorem KU(t:Tu)(w:au):aR aj 115 #[.agg t.aA] w (gP w (.bool (Gz t))):=by
 have vV:=ah ((aH w.heap.size w).alloc (ay _) (.cells t.aA 81));have B0:=ah (dL.new w t.aA 81);obtain⟨x1,x2,x3,x4⟩:=B0.out.aI;have Zz:=B0.out.lt;obtain⟨K1,h1⟩:∃K,qN t.src=K:=⟨_,rfl⟩
 obtain⟨K2,h2⟩:∃K,qN t.dst=K:=⟨_,rfl⟩
 have UQ:=ah h1;have HS2:=ah h2;clear h1 h2;obtain⟨s6,h6⟩:∃s,t.src.j6=s:=⟨_,rfl⟩
 obtain⟨d6,g6⟩:∃s,t.dst.j6=s:=⟨_,rfl⟩
 by_cases he:s6=d6;rotate_left
 ·have HE:=ah (show¬t.src.j6=t.dst.j6 by rw[h6,g6];exact he)
  have pY:(s6==d6)=false:=by simpa using he
  clear he;go_enter Tryz.func115,Tryz.ntmps115;go_wp2;go_ret;exact⟨by rw[UY];simp[HE.out]<;>omega,vV.out⟩
 have HE:=ah (show t.src.j6=t.dst.j6 by rw[h6,g6];exact he);have pY:(s6==d6)=true:=by simpa using he
 clear he;cases K1
 ·skip
  go_enter Tryz.func115,Tryz.ntmps115;go_wp2_with fail;refine(JG t.src _).mono ?_;rintro e w1 ⟨rfl,gI⟩;rw[UQ.out];have B1:=ah (B0.out.go gI);have qd:=ah (ji vV.out gI);obtain⟨y1,y2,y3,y4⟩:=B1.out.aI;have hl1:=B1.out.lt;clear gI;go_wp2;go_ret;exact⟨by rw[UY];simp[HE.out,UQ.out]<;>omega,qd.out⟩
 cases K2
 ·skip
  go_enter Tryz.func115,Tryz.ntmps115;go_wp2_with fail;refine(JG t.src _).mono ?_;rintro e w1 ⟨rfl,gI⟩;rw[UQ.out];have B1:=ah (B0.out.go gI);have qd:=ah (ji vV.out gI);obtain⟨y1,y2,y3,y4⟩:=B1.out.aI;have hl1:=B1.out.lt;clear gI;go_wp2_with fail;refine(JG t.dst _).mono ?_;rintro e w2 ⟨rfl,kF⟩;rw[HS2.out];have B2:=ah (B1.out.go kF);have ze:=ah (ji qd.out kF);obtain⟨z1,z2,z3,z4⟩:=B2.out.aI;have hl2:=B2.out.lt;clear kF y1 y2 y3 y4 hl1;go_wp2;go_ret;exact⟨by rw[UY];simp_all[HE.out,UQ.out,HS2.out]<;>omega,ze.out⟩
 go_enter Tryz.func115,Tryz.ntmps115;go_wp2_with fail;refine(JG t.src _).mono ?_;rintro e w1 ⟨rfl,gI⟩;rw[UQ.out];have B1:=ah (B0.out.go gI);have qd:=ah (ji vV.out gI);obtain⟨y1,y2,y3,y4⟩:=B1.out.aI;have hl1:=B1.out.lt;clear gI;go_wp2_with fail;refine(JG t.dst _).mono ?_;rintro e w2 ⟨rfl,kF⟩;rw[HS2.out];have B2:=ah (B1.out.go kF);have ze:=ah (ji qd.out kF);obtain⟨z1,z2,z3,z4⟩:=B2.out.aI;have hl2:=B2.out.lt;clear kF y1 y2 y3 y4 hl1;by_cases p0:0<=t.aQ;by_cases p1:t.aQ<=255;by_cases p2:0<=t.kU;by_cases p3:t.kU<=65535;by_cases p4:0<=t.j4;by_cases p5:t.j4<=65535
 all_goals
  go_wp2;go_ret;exact⟨by rw[UY];simp_all[HE.out,UQ.out,HS2.out]<;>omega,ze.out⟩
theorem acd(x:Fw):Eo x=(Gz x.key&&wD x.name&&decide (1<=x.xU)&&decide (x.xU<=5)&&(decide (0<=x.seen)&&decide (x.seen<=1099511627776))&&(decide (0<=x.no)&&decide (x.no<=1152921504606846976))):=rfl
theorem Mh(x:Fw)(w:au)(hn:x.name.length<=9223372036854775807):aR aj 48 #[.agg x.aA] w (gP w (.bool (Eo x))):=by
 have vV:=ah ((aH w.heap.size w).alloc (ay _) (.cells x.aA 86));have B0:=ah (dL.new w x.aA 86);obtain⟨x1,x2,x3,x4⟩:=B0.out.aI;have Zz:=B0.out.lt;obtain⟨K1,h1⟩:∃K,Gz x.key=K:=⟨_,rfl⟩
 obtain⟨K2,h2⟩:∃K,wD x.name=K:=⟨_,rfl⟩
 have UQ:=ah h1;have HS2:=ah h2;clear h1 h2;cases K1
 ·skip
  go_enter Tryz.func48,Tryz.ntmps48;go_wp2_with fail;refine(KU x.key _).mono ?_;rintro e w1 ⟨rfl,gI⟩;rw[UQ.out];have B1:=ah (B0.out.go gI);have qd:=ah (ji vV.out gI);obtain⟨y1,y2,y3,y4⟩:=B1.out.aI;have hl1:=B1.out.lt;clear gI;go_wp2;go_ret;exact⟨by rw[acd];simp[UQ.out]<;>omega,qd.out⟩
 cases K2
 ·skip
  go_enter Tryz.func48,Tryz.ntmps48;go_wp2_with fail;refine(KU x.key _).mono ?_;rintro e w1 ⟨rfl,gI⟩;rw[UQ.out];have B1:=ah (B0.out.go gI);have qd:=ah (ji vV.out gI);obtain⟨y1,y2,y3,y4⟩:=B1.out.aI;have hl1:=B1.out.lt;clear gI;go_wp2_with fail;refine(VF x.name _ hn).mono ?_;rintro e w2 ⟨rfl,kF⟩;rw[HS2.out];have B2:=ah (B1.out.go kF);have ze:=ah (ji qd.out kF);obtain⟨z1,z2,z3,z4⟩:=B2.out.aI;have hl2:=B2.out.lt;clear kF y1 y2 y3 y4 hl1;go_wp2;go_ret;exact⟨by rw[acd];simp_all[UQ.out,HS2.out]<;>omega,ze.out⟩
 go_enter Tryz.func48,Tryz.ntmps48;go_wp2_with fail;refine(KU x.key _).mono ?_;rintro e w1 ⟨rfl,gI⟩;rw[UQ.out];have B1:=ah (B0.out.go gI);have qd:=ah (ji vV.out gI);obtain⟨y1,y2,y3,y4⟩:=B1.out.aI;have hl1:=B1.out.lt;clear gI;go_wp2_with fail;refine(VF x.name _ hn).mono ?_;rintro e w2 ⟨rfl,kF⟩;rw[HS2.out];have B2:=ah (B1.out.go kF);have ze:=ah (ji qd.out kF);obtain⟨z1,z2,z3,z4⟩:=B2.out.aI;have hl2:=B2.out.lt;clear kF y1 y2 y3 y4 hl1;by_cases p0:1<=x.xU;by_cases p1:x.xU<=5;by_cases p2:0<=x.seen;by_cases p3:x.seen<=1099511627776;by_cases p4:0<=x.no;by_cases p5:x.no<=1152921504606846976
 all_goals
  go_wp2;go_ret;exact⟨by rw[acd];simp_all[UQ.out,HS2.out]<;>omega,ze.out⟩
structure Zd where
 A:Option aU
 n:Nat
 c:Nat
deriving DecidableEq
structure Sh where
 mq:Int
 b:Zd
 h:Zd
 f:Zd
 gN:Int
 no:Int
 mg:Vector Int 11
deriving DecidableEq
def shT(x:Sh):Array aC:=#[.int .i64 x.mq,.slice x.b.A x.b.n x.b.c,.slice x.h.A x.h.n x.h.c,.slice x.f.A x.f.n x.f.c,.int .i64 x.gN,.int .i64 x.no]
def zk(v:Vector Int 11):Array aC:=(v.toList.map (aJ .i64)).toArray
def Sh.aA(x:Sh):Array aC:=shT x++zk x.mg
theorem j3(v:Vector Int 11):(zk v).size=11:=by simp[zk]
theorem Sh.ak(x:Sh):x.aA.size=17:=by simp[Sh.aA,shT,j3]
theorem Sh.WT(x:Sh)(j:Nat)(hj:j<6):x.aA[j]? = (shT x)[j]?:=by unfold Sh.aA;rw[Bu _ _ 6 _ rfl,if_pos hj]
theorem WU(v:Vector Int 11)(j:Nat)(hj:j<11):(zk v)[j]? = some (.int .i64 (v.toList.getD j 0)):=by
 simp[zk,dZ,hj,av]
theorem Sh.ajd(x:Sh)(j:Nat)(hj:j<11):x.aA[6+j]? = some (.int .i64 (x.mg.toList.getD j 0)):=by
 unfold Sh.aA;rw[Bu _ _ 6 _ rfl,if_neg (by omega),kI,WU _ _ hj]
@[go_sem]theorem Sh.qH(x:Sh):x.aA[0]? = some (.int .i64 x.mq):=Sh.WT x 0 (by omega)
@[go_sem]theorem Sh.Il(x:Sh):x.aA[1]? = some (.slice x.b.A x.b.n x.b.c):=Sh.WT x 1 (by omega)
@[go_sem]theorem Sh.Zu(x:Sh):x.aA[2]? = some (.slice x.h.A x.h.n x.h.c):=Sh.WT x 2 (by omega)
@[go_sem]theorem Sh.aiM(x:Sh):x.aA[3]? = some (.slice x.f.A x.f.n x.f.c):=Sh.WT x 3 (by omega)
@[go_sem]theorem Sh.aok(x:Sh):x.aA[4]? = some (.int .i64 x.gN):=Sh.WT x 4 (by omega)
@[go_sem]theorem Sh.aol(x:Sh):x.aA[5]? = some (.int .i64 x.no):=Sh.WT x 5 (by omega)
theorem aom(l:List Int):((l.map (aJ .i64)).toArray).all (·.oneCell')=true:=by
 rw[Array.all_eq_true_iff_forall_mem];intro v hv;simp at hv;obtain⟨z,_,rfl⟩:=hv;rfl
theorem Sh.cB(x:Sh):x.aA.all (·.oneCell')=true:=gX (by simp[shT,cK]) (aom _)
def DR:Zd:=⟨none,0,0⟩
def JH:Sh:=⟨0,DR,DR,DR,0,0,bG 11 0⟩
@[go_sem]theorem awz:eB #[bg,bE none 0 0,bE none 0 0,bE none 0 0,bg,bg,bg,bg,bg,bg,bg,bg,bg,bg,bg,bg,bg] 37=eB JH.aA 37:=rfl
@[go_sem]theorem aBb:bY #[bg,bE none 0 0,bE none 0 0,bE none 0 0,bg,bg,bg,bg,bg,bg,bg,bg,bg,bg,bg,bg,bg]=bY JH.aA:=rfl
@[go_sem]theorem Sh.eu(x:Sh):eu x.aA=17:=Sh.ak x
@[go_sem]theorem Sh.kg(x:Sh):x.aA.extract 0 17=x.aA:=by
 have:=Sh.ak x;rw[<-this];simp
def ahf(v:aC):xO aC:=bZ 37 v
def ace(v x:aC):xO Unit:=eD 37 v x
@[go_sem ↓]theorem azq(v:aC):bZ 37 v=ahf v:=rfl
@[go_sem ↓]theorem awA(v x:aC):eD 37 v x=ace v x:=rfl
@[go_sem]theorem aEH(W:au)(b o:Nat)(h:xS W b o 17):(ahf (.pointer (some ⟨b,o,none⟩))).run aj W=.ok (.agg (dY W b o 17)) W:=
 ko W b o 17 _ _ su rfl (by kernel_rfl) h
@[go_sem]theorem ar7(W:au)(c:Array aC)(x:Sh)(b:Nat)(hb:b=W.heap.size)(hc:eu c=17):
 (ace (.pointer (some ⟨b,0,none⟩)) (.agg x.aA)).run aj (W.alloc (.cells c 37))=.ok () (W.alloc (.cells x.aA 37)):=by
 subst hb;exact zH W _ c x.aA (by rw[Sh.ak];kernel_rfl) (by rw[Sh.ak];exact hc) (Sh.cB x)
def aon(W:au)(b o:Nat)(x:Sh):au:=W.setCells b o x.aA.toList
@[go_sem]theorem aBd(W:au)(b o:Nat)(x:Sh)(h:W.there b o 17):(ace (.pointer (some ⟨b,o,none⟩)) (.agg x.aA)).run aj W=.ok () (aon W b o x):=
 EF W b o _ x.aA (by rw[Sh.ak];exact h) (by rw[Sh.ak];kernel_rfl) (Sh.cB x)
theorem awB:∃i:nM,aj.info? 37=some i/\i.zero=some (.agg JH.aA)/\i.size=17/\i.bytes<=400:=by
 cases h:aj.info? 37 with
 | none=>exact absurd h (by have:(aj.info? 37).isSome=true:=by kernel_rfl
                            intro e;rw[e]at this;cases this)
 | some i=>
   have h1:(aj.info? 37).map (·.size)=some 17:=by kernel_rfl
   have h2:(aj.info? 37).map (fun i=>decide (i.bytes<=400))=some true:=by kernel_rfl
   have h3:(aj.info? 37).map (·.zero)=some (some (.agg JH.aA)):=by kernel_rfl
   rw[h]at h1 h2 h3;simp at h1 h2 h3;exact⟨i,rfl,h3,h1,h2⟩
def awC(ps:Array (Nat×aC)):xO aC:=fJ 37 ps
@[go_sem ↓]theorem aEI(ps:Array (Nat×aC)):fJ 37 ps=awC ps:=rfl
theorem aas(w:au)(fs:Array nV)(h:aj.underlying 37=some (.struct fs)):(iB (fun f=>Prod.mk f.offset <$> sizeOf f.type) fs:xO (Array (Nat×Nat))).run aj w=.ok #[(0,2),(2,1),(3,1),(4,1),(5,1),(6,11)] w:=by
 have e:=su;rw[h]at e;cases e;show _=_
 kernel_rfl
@[go_sem]theorem awD(w:au):(awC #[]).run aj w=.ok (.agg JH.aA) w:=by
 obtain⟨i0,oz,mZ,_,_⟩:=awB;exact Qu w _ _ i0 JH.aA _ _ _ su oz mZ (aas w _ su) rfl
@[go_sem]theorem Sh.OQ(x:Sh):x.aA.extract 0 2 = #[.int .i64 x.mq,.slice x.b.A x.b.n x.b.c]:=by
 apply dV;intro j;rcases bf j 2 with h|h
 ·rw[nX x.aA 0 2 j h (by rw[Sh.ak];omega),bB,Sh.WT x j (by omega)]
  rcases(show j=0\/j=1 by omega)with rfl|rfl<;>rfl
 ·rw[aV (by rw[jF,Sh.ak];omega),aV (by simp;omega)]
@[go_sem]theorem Sh.auI(x:Sh):x.aA.extract 6 17=zk x.mg:=by
 apply dV;intro j;rcases bf j 11 with h|h
 ·rw[show(17:Nat)=6+11 from rfl,nX x.aA 6 11 j h (by rw[Sh.ak];omega),Sh.ajd x j h,WU _ _ h]
 ·rw[aV (by rw[jF,Sh.ak];omega),aV (by rw[j3];exact h)]
structure StR(w:au)(B:Nat)(x:Sh)(s:qK):Prop where
 mq:x.mq=s.mq
 b:iO Bk.aA 27 w B x.b.A x.b.n s.sW
 h:iO Hl.aA 3 w B x.h.A x.h.n s.nP
 f:iO Fw.aA 41 w B x.f.A x.f.n s.sN
 gN:x.gN=s.gN
 no:x.no=s.no
 mg:x.mg=s.mg
 ru:∀y∈s.sW,y.ru
 auJ:∀y∈s.nP,y.name.length<=9223372036854775807
 aoo:∀y∈s.sN,y.name.length<=9223372036854775807
 nb:x.b.n<=4611686018427387903
 nh:x.h.n<=4611686018427387903
 nf:x.f.n<=4611686018427387903
theorem StR.go{w w':au}{x:Sh}{s:qK}(h:StR w w.heap.size x s)(hb:aN w.heap.size w w'):StR w' w'.heap.size x s:=⟨h.mq,h.b.go hb,h.h.go hb,h.f.go hb,h.gN,h.no,h.mg,h.ru,h.auJ,h.aoo,h.nb,h.nh,h.nf⟩
def aop(v:aC):xO aC:=bZ 35 v
@[go_sem ↓]theorem azr(v:aC):bZ 35 v=aop v:=rfl
@[go_sem]theorem aEJ(W:au)(b o:Nat)(h:xS W b o 11):(aop (.pointer (some ⟨b,o,none⟩))).run aj W=.ok (.agg (dY W b o 11)) W:=
 ko W b o 11 _ _ FZ rfl (by kernel_rfl) h
theorem ahg(l:List Bk)(hf:∀x∈l,x.ru)(v:Int)(A:Option aU)(n c:Nat)(w:au)(hR:iO Bk.aA 27 w w.heap.size A n l)(hn:n<=4611686018427387903)(K:Bool)(hK:yD v l=K):
 aR aj 45 #[.agg #[.int .i64 v,.slice A n c]] w (gP w (.bool K)):=by
 subst hK;obtain rfl:=hR.1;exact YP l hf v A c w hR (by omega)
theorem iO.fw{W:au}{B n:Nat}{A:Option aU}{l:List Fw}{k:Nat}(h:iO Fw.aA 41 W B A n l)(hk:k<n):∃b o,A=some ⟨b,o,none⟩/\b<B/\xS W b (o+k*41) 41/\dY W b (o+k*41) 41=(l.getD k kQ).aA:=iO.fE Fw.ak kQ h hk
section
variable {P:eF}
theorem WV{w:au}{ops:Array iV}{rest:List iV}{o:iV}{a:re}{Q:Aq->re->au->Prop}(Gl:o.guard=none)(s x:pQ)(t tn:bM)
 (ho:o.op=.call {callee:=.builtin .append,args:=#[s,x],argTypes:=#[t,tn]}) (u v r:aC) (hs:a.eval s=u) (hx:a.eval x=v) (w2:au)
 (qc:∀ty,(AQ #[t,tn] ty #[u,v]).run P w=.ok r w2) (h:wpList P ops Q rest (a.put o.dst r) w2):wpList P ops Q (o::rest) a w:=by
 refine tu Gl fun K hK=>?_
 unfold nD;simp[execOp,ho,resolve,invoke,builtin,hs,hx,qc,iD];exact hK _ _ h
end
theorem aoq(k:Nat)(hk:k<=1000000000)(w:au):
 aR aj 253 #[.slice none 0 0,.int .i64 k] w fun e w'=>∃v,e=.returned v/\w'.ownsRow w.heap.size 5 1 v 0 []/\aN w.heap.size w w':=by
 obtain⟨i0,oz,mZ,nu,wX⟩:=info_parts Mw;rcases Nat.eq_zero_or_pos k with h0|h0
 ·subst h0
  go_enter Tryz.func253,Tryz.ntmps253;go_wp2;go_ret;exact⟨_,rfl,World.ownsRow_nil _ _ _ _,aH _ _⟩
 ·have qc:=fun ty=>Lib.run_append_grow_zeros (P:=aj) w 56 3 ty 5 i0 (.int .u8 0) .i64 .i64 dw gQ oz mZ none 0 0 [] (by simp[Builtin.firstCells]) k h0 (by omega) (by omega) (by omega) (by rw[wX];omega) (growslice_fits (by omega) (by rw[wX];omega))
  have UL:=grownCap_ge w (0+k) 0 5;have hle:=grownCap_le_maxLen w (0+k) 0 5 (by unfold maxLen;omega);rw[bB]at qc UL hle;obtain⟨cap,ahh⟩:∃cap,grownCap w k 0 5=cap:=⟨_,rfl⟩
  rw[ahh]at qc UL hle;obtain⟨cells,Vs⟩:∃cells,cells=([]:List aC).toArray++Builtin.zeroCells (aJ .u8 0).cells k++Builtin.zeroCells (aJ .u8 0).cells (cap-k):=⟨_,rfl⟩
  have jB:cells.size=cap*1:=by
   rw[Vs];simp only[nW,List.size_toArray,List.length_nil,size_zeroCells,show(aJ .u8 0).cells.size=1 from rfl];omega
  rw[<-Vs]at qc;have O1:=ah (World.ownsRow_made w.drew cells cap (base:=w.heap.size) (e:=5) (size:=1) (ay _) hle jB);have hc0:(0:Int)<=(cap:Int):=by omega
  have aO6:¬cap=0:=by omega
  have arw:(cap:Int)<=9223372036854775807:=by unfold maxLen at hle;omega
  have aHd:=ah qc;clear Vs ahh jB hle qc;go_enter Tryz.func253,Tryz.ntmps253;go_wp2_with (at_builtin;refine WV rfl (.tmp 20) (.tmp 21) _ _ rfl (.slice none 0 0) (.int .i64 k) _ rfl rfl _ aHd.out ?_);go_ret;exact⟨_,rfl,O1.out,((aH w.heap.size w).drew).alloc (ay _) _⟩
def aor(x:Zd):Array aC:=#[.slice x.A x.n x.c]
theorem aat(x:Zd):(aor x).size=1:=rfl
abbrev RdS:=iO aor 1
def zm(l:List Zd):Nat:=(l.map (·.n)).sum
theorem Rs(l:List Zd)(i:Nat)(hi:i<l.length):zm (l.take (i+1))=zm (l.take i)+(l.getD i DR).n:=by
 rw[<-oK DR l i hi];simp[zm]
theorem acg(l:List Zd)(i:Nat):zm (l.take i)<=zm l:=by
 unfold zm
 conv=>rhs;rw[<-iF i l,jh,List.sum_append]
 omega
def OT(W:au)(B:Nat)(l:List Zd)(bss:List (List UInt8)):Prop:=l.length=bss.length/\∀i,i<l.length->gy W B (l.getD i DR).A (l.getD i DR).n (bss.getD i [])
theorem aau(l:List (List UInt8))(i:Nat)(hi:i<l.length):(l.take (i+1)).flatten=(l.take i).flatten++l.getD i []:=by
 rw[<-oK [] l i hi];simp
theorem WX{W:au}{B:Nat}{l:List Zd}{bss:List (List UInt8)}(h:OT W B l bss)(i:Nat)(hi:i<=l.length):(bss.take i).flatten.length=zm (l.take i):=by
 induction i with
 | zero=>simp[zm]
 | succ i ih=>
   have h1:=(h.2 i (by omega)).len;rw[aau bss i (by have:=h.1;omega),aS,ih (by omega),Rs l i (by omega),h1]
def awE(bss:List (List UInt8))(w:au)(e:kX)(w':au):Prop:=∃v,e=.returned v/\w'.ownsRow w.heap.size 5 1 v bss.flatten.length (bss.flatten.map bv)/\aN w.heap.size w w'
theorem ar8{w wr:au}{A':Option aU}{m c' j:Nat}{bss:List (List UInt8)}(ho:wr.ownsRow w.heap.size 5 1 (.slice A' m c') m ((bss.take j).flatten.map bv))(hf:bss.take j=bss)(hb:aN w.heap.size w wr):awE bss w (.returned (.slice A' m c')) wr:=by
 rw[hf]at ho;have h2:=ho.1;rw[bR,gF]at h2;refine⟨_,rfl,?_,hb⟩;rw[h2];exact ho
theorem MS(l:List Zd)(bss:List (List UInt8))(A:Option aU)(n c:Nat)(w:au)(hR:RdS w w.heap.size A n l)(hH:OT w w.heap.size l bss)(hn:n<=1000)(hs:zm l<=1000000000):
 aR aj 181 #[.slice A n c] w (awE bss w):=by
 obtain⟨i0,oz,mZ,nu,wX⟩:=info_parts Mw;have HR:=ah hR;have HH:=ah hH;have HN:=ah hR.1;have HS:=ah hs;clear hR hH;go_enter Tryz.func181,Tryz.ntmps181;go_wp2;go_loop [3,11] (fun s3 s11=>∃i:Nat,i<=n/\s11=.int .i64 i/\s3=.int .i64 (zm (l.take i):Nat)) (fun _ s11=>n-(intOf s11).toNat)
 case atStart=>exact⟨0,by omega,rfl,rfl⟩
 case round=>
  obtain⟨i,hi,rfl,rfl⟩:=hrel;by_cases fP:i<n
  ·have Cc:(i:Int)<n:=by omega
   obtain⟨b,o,rfl,Cb,hcell⟩:=iO.cell aat DR HR.out fP;have hc0:=hcell 0 (by omega);have yZ:=Rs l i (by rw[HN.out];exact fP);have hsl:=acg l (i+1);obtain⟨y,hy⟩:∃y,l.getD i DR=y:=⟨_,rfl⟩
   rw[hy]at hc0 yZ;have Fg:w.cell? ⟨b,o+i,none⟩=some (.slice y.A y.n y.c):=by simpa[aor]using hc0
   obtain⟨z,hz⟩:∃z,zm (l.take i)=z:=⟨_,rfl⟩
   have Ar:z+y.n<=1000000000:=by have:=HS.out;omega
   rw[hz]at yZ ⊢;have HST:=ah yZ;clear hcell hc0 hy hz yZ hsl;go_wp2;go_round
   case rel=>exact⟨i+1,by omega,by go_num,by rw[HST.out];go_num⟩
   case measure=>simp[intOf]<;>omega
  ·have UL:¬(i:Int)<n:=by omega
   have HT:=ah (show zm (l.take i)=zm l by rw[List.take_of_length_le (by rw[HN.out];omega)]);obtain⟨z,hz⟩:∃z,zm (l.take i)=z:=⟨_,rfl⟩
   rw[hz]at HT ⊢;have Ar:z<=1000000000:=by rw[HT.out];exact HS.out
   clear hz;go_wp2_with fail;refine(aoq z Ar w).mono ?_;rintro e w1 ⟨v,rfl,ho,hb⟩;obtain⟨A0,c0,rfl,_,_⟩:=jT ho;have O0:=ah ho;have B0:=ah hb;clear ho hb;go_wp2;go_loopw [6,27] (fun s6 s27 wr=>∃(j m:Nat)(A':Option aU)(c':Nat),j<=n/\s27=.int .i64 j/\s6=.slice A' m c'/\wr.ownsRow w.heap.size 5 1 (.slice A' m c') m ((bss.take j).flatten.map bv)/\aN w.heap.size w wr) (fun _ s27 _=>n-(intOf s27).toNat)
   case atStart=>exact⟨0,0,A0,c0,by omega,rfl,rfl,O0.out,B0.out⟩
   case round=>
    obtain⟨j,m,A',c',hj,rfl,rfl,ho,hb⟩:=hrel;have HO:=ah ho;have HB:=ah hb;have HM:=ah (show m<=1000000000 by
     have h1:=ho.1;rw[bR,WX HH.out j (by rw[HN.out];exact hj)]at h1;have:=acg l j;have:=HS.out;omega)
    clear ho hb;by_cases fP:j<n
    ·have Cc:(j:Int)<n:=by omega
     obtain⟨b,o,rfl,Cb,hcell⟩:=iO.cell aat DR (HR.out.to HB.out (ay _)) fP;have hc0:=hcell 0 (by omega);have Uc:=(HH.out.2 j (by rw[HN.out];exact fP)).to HB.out (ay _);have yZ:=Rs l j (by rw[HN.out];exact fP);have hsl:=acg l (j+1);have HFL:=ah (aau bss j (by have:=HH.out.1;have:=HN.out;omega));have HML:=ah (show m=zm (l.take j)by have h1:=HO.out.1;rw[bR,WX HH.out j (by rw[HN.out];exact hj)]at h1;omega);obtain⟨y,hy⟩:∃y,l.getD j DR=y:=⟨_,rfl⟩
     rw[hy]at hc0 yZ Uc;have Fg:wr.cell? ⟨b,o+j,none⟩=some (.slice y.A y.n y.c):=by simpa[aor]using hc0
     have HRD:=ah Uc;have UM:=ah (show m+y.n<=maxLen by have:=HS.out;have:=HML.out;unfold maxLen;omega);have UN:=ah (show(m+y.n)*1<=140737488355328 by have:=HS.out;have:=HML.out;omega);have BS:=ah HB.out.size;have ON:=ah (Kr (bss.getD j []));have GR:=ah (fun w5 (hg:wr.grownBy w5 (bE A' m c').ownBlock)=>show aN w.heap.size w w5 from HB.out.grown hg HB.out.size (fun x hx=>(HO.out.lt x hx).1));clear hcell hc0 hy yZ hsl Uc;go_wp2_with (at_builtin;refine jI _ rfl (.tmp 31) (.tmp 32) _ rfl w.heap.size 5 i0 (.int .u8 0) 1 1 dw oz mZ nu wX rfl (ay 1) (.slice A' m c') m ((bss.take j).flatten.map bv) rfl HO.out w.heap.size y.A y.n y.c ((bss.getD j []).map bv) rfl HRD.out ON.out UM.out UN.out BS.out ?_;intro v1 w5 kJ AA yj;have O5:=ah kJ;have G5:=ah (GR.out _ AA);clear kJ AA yj);obtain⟨A5,c5,rfl,_,_⟩:=jT O5.out;go_roundw
     case rel=>exact⟨j+1,m+y.n,A5,c5,by omega,by go_num,rfl,by rw[HFL.out,jh];exact O5.out,G5.out⟩
     case measure=>simp[intOf]<;>omega
    ·have aO7:¬(j:Int)<n:=by omega
     have HF:=ah (show bss.take j=bss from List.take_of_length_le (by have:=HH.out.1;have:=HN.out;omega));go_wp2;go_ret;exact ar8 HO.out HF.out HB.out
structure Ow(B:Nat)(g0:Option Nat)(w0:au)(v:aC)(bs:List UInt8)(w:au):Prop where
 vU:w.ownsRow B 5 1 v bs.length (bs.map bv)
 gr:w0.grownBy w g0
 wP:v.ownBlock=g0\/∃k,v.ownBlock=some k/\w0.heap.size<=k
 hB:B<=w0.heap.size
 gb:∀k,g0=some k->B<=k/\k<w0.heap.size
theorem awG{a w:au}{g:Option Nat}(h:a.grownBy w g){p:aU}(hp:some p.block=g\/a.heap.size<=p.block)(u:aC):a.grownBy (w.setCell p u) g:=
 ⟨h.os,h.tape,h.output,by simpa[World.setCell]using h.size,fun i hi pY=>(Below.heap_setCell w p u i (by
  rintro rfl;rcases hp with hp|hp
  ·exact pY hp
  ·omega)).trans (h.block i hi pY)⟩
section
variable {B:Nat} {g0:Option Nat} {w0 W W':au} {v v':aC} {bs bs':List UInt8}
theorem Ow.nil(w:au):Ow w.heap.size none w (.slice none 0 0) [] w:=⟨World.ownsRow_nil _ _ _ _,World.grownBy.refl _ _,.inl rfl,ay _,fun k h=>by cases h⟩
theorem Ow.iX{w:au}{n:Nat}(h:w.ownsRow B 5 1 v n (bs.map bv))(hB:B<=w.heap.size):Ow B v.ownBlock w v bs w:=by
 have h1:=h.1;rw[bR,gF]at h1;subst h1;exact⟨h,World.grownBy.refl _ _,.inl rfl,hB,fun k hk=>h.lt k hk⟩
theorem Ow.go(h:Ow B g0 w0 v bs W)(hb:aN W.heap.size W W'):Ow B g0 w0 v bs W':=
 ⟨jv h.vU hb,⟨hb.os.trans h.gr.os,hb.tape.trans h.gr.tape,hb.output.trans h.gr.output,aP h.gr.size hb.size,fun k hk hn=>(hb.block k (eU hk h.gr.size)).trans (h.gr.block k hk hn)⟩,h.wP,h.hB,h.gb⟩
theorem Ow.drew(h:Ow B g0 w0 v bs W):Ow B g0 w0 v bs W.drew:=⟨h.vU,⟨h.gr.os,h.gr.tape,h.gr.output,h.gr.size,h.gr.block⟩,h.wP,h.hB,h.gb⟩
theorem Ow.step(h:Ow B g0 w0 v bs W)(k:Ow B v.ownBlock W v' bs' W'):Ow B g0 w0 v' bs' W':=by
 refine⟨k.vU,⟨k.gr.os.trans h.gr.os,k.gr.tape.trans h.gr.tape,k.gr.output.trans h.gr.output,aP h.gr.size k.gr.size,fun i hi hn=>(k.gr.block i (eU hi h.gr.size) (fun e=>?_)).trans (h.gr.block i hi hn)⟩,?_,h.hB,h.gb⟩
 ·rcases h.wP with h1|⟨j,h1,h2⟩
  ·exact hn (e.trans h1)
  ·rw[h1]at e;injection e with e;omega
 ·rcases k.wP with h1|⟨j,h1,h2⟩
  ·rw[h1];exact h.wP
  ·exact .inr ⟨j,h1,aP h.gr.size h2⟩
theorem Ow.box{q:Nat}{c:Array aC}(h:Ow B g0 w0 v bs W)(hb:dL w0 q c)(hq:some q≠g0):dL W q c:=hb.grown h.gr hq
theorem Ow.below(h:Ow B g0 w0 v bs W):aN B w0 W:=⟨h.gr.os,h.gr.tape,h.gr.output,h.gr.size,fun k hk=>h.gr.block k (eU hk h.hB) (fun e=>by have:=(h.gb k e.symm).1;omega)⟩
theorem Ow.dF(h:Ow B none w0 v bs W):aN w0.heap.size w0 W:=⟨h.gr.os,h.gr.tape,h.gr.output,h.gr.size,fun k hk=>h.gr.block k hk (fun e=>by cases e)⟩
theorem Ow.Dr(h:Ow B g0 w0 v bs W):∃A c,v=.slice A bs.length c:=by obtain⟨A,c,e,_⟩:=jT h.vU;exact⟨A,c,e⟩
theorem Ow.lt(h:Ow B g0 w0 v bs W){k:Nat}(hk:v.ownBlock=some k):k<W.heap.size:=(h.vU.lt k hk).2
theorem Ow.size(h:Ow B g0 w0 v bs W):B<=W.heap.size:=aP h.hB h.gr.size
end
section
variable {P:eF} {w:au}
theorem zV:∃i:nM,aj.info? 5=some i/\i.zero=some (.int .u8 0)/\i.size=1/\i.bytes=1:=info_parts Mw
theorem kr{ops:Array iV}{rest:List iV}{o:iV}{a:re}{Q:Aq->re->au->Prop}(Gl:o.guard=none)(s x:pQ)
 (ho:o.op=.call {callee:=.builtin .append,args:=#[s,x],argTypes:=#[56,56]})
 {B:Nat} {g0:Option Nat} {w0:au} {v:aC} {bs ys:List UInt8} (hs:a.eval s=v) (H:Ow B g0 w0 v bs w) {C:Nat} {A:Option aU} {m c:Nat} (hx:a.eval x=.slice A m c) (hr:gy w C A m ys)
 (hlen:bs.length+m<=1000000000)
 (h:∀A' n' c' w',Ow B g0 w0 (.slice A' n' c') (bs++ys) w'->Ow B v.ownBlock w (.slice A' n' c') (bs++ys) w'->wpList aj ops Q rest (a.put o.dst (.slice A' n' c')) w'):wpList aj ops Q (o::rest) a w:=by
 obtain⟨i0,oz,mZ,nu,wX⟩:=zV;have hm:=hr.len;refine jI w Gl s x _ ho B 5 i0 (.int .u8 0) 1 1 dw oz mZ nu wX rfl (ay 1) v bs.length (bs.map bv) hs H.vU C A m c (ys.map bv) hx hr (Kr ys) (by unfold maxLen;omega) (by omega) H.size ?_;intro v1 w1 h1 h2 h3;rw[<-jh,<-hm,<-aS]at h1;have hk:Ow B v.ownBlock w v1 (bs++ys) w1:=⟨h1,h2,by rcases h3 with h|h;exact .inl h;exact .inr ⟨_,h,ay _⟩,H.size,fun k hk=>H.vU.lt k hk⟩
 obtain⟨A',c',rfl⟩:=hk.Dr;exact h A' _ c' w1 (H.step hk) hk
theorem aBg{o:iV}{a:re}{K:re->au->Prop}{Q:Aq->re->au->Prop}(s x:pQ)
 (ho:o.op=.call {callee:=.builtin .append,args:=#[s,x],argTypes:=#[56,56]})
 {B:Nat} {g0:Option Nat} {w0:au} {v:aC} {bs ys:List UInt8} (hs:a.eval s=v) (H:Ow B g0 w0 v bs w) {C:Nat} {A:Option aU} {m c:Nat} (hx:a.eval x=.slice A m c) (hr:gy w C A m ys)
 (hlen:bs.length+m<=1000000000)
 (h:∀A' n' c' w',Ow B g0 w0 (.slice A' n' c') (bs++ys) w'->Ow B v.ownBlock w (.slice A' n' c') (bs++ys) w'->K (a.put o.dst (.slice A' n' c')) w'):o.wp aj a w K Q:=by
 obtain⟨i0,oz,mZ,nu,wX⟩:=zV;have hm:=hr.len;refine Kt w s x _ ho B 5 i0 (.int .u8 0) 1 1 dw oz mZ nu wX rfl (ay 1) v bs.length (bs.map bv) hs H.vU C A m c (ys.map bv) hx hr (Kr ys) (by unfold maxLen;omega) (by omega) H.size ?_;intro v1 w1 h1 h2 h3;rw[<-jh,<-hm,<-aS]at h1;have hk:Ow B v.ownBlock w v1 (bs++ys) w1:=⟨h1,h2,by rcases h3 with h|h;exact .inl h;exact .inr ⟨_,h,ay _⟩,H.size,fun k hk=>H.vU.lt k hk⟩
 obtain⟨A',c',rfl⟩:=hk.Dr;exact h A' _ c' w1 (H.step hk) hk
end
def GY(z:Int):Array aC:=#[.int .i64 z]
theorem aav(z:Int):(GY z).size=1:=rfl
abbrev RdI:=iO GY 1
theorem UZ:∃i:nM,aj.info? 3=some i/\i.zero=some (.int .i64 0)/\i.size=1:=by
 cases h:aj.info? 3 with
 | none=>exact absurd h (by have:(aj.info? 3).isSome=true:=by kernel_rfl
                            intro e;rw[e]at this;cases this)
 | some i=>
   have h1:(aj.info? 3).map (·.size)=some 1:=by kernel_rfl
   have h3:(aj.info? 3).map (·.zero)=some (some (.int .i64 0)):=by kernel_rfl
   rw[h]at h1 h3;simp at h1 h3;exact⟨i,rfl,h3,h1⟩
theorem ahi:lW 1 = #[0]:=by apply oZ;rw[j5];rfl
theorem ahj:lW 2 = #[0,1]:=by apply oZ;rw[j5];rfl
theorem awH:lW 3 = #[0,1,2]:=by apply oZ;rw[j5];rfl
def MV(n:Nat)(ps:Array (Nat×aC)):xO aC:=bJ 70 n ps
@[go_sem ↓]theorem azs(n:Nat)(ps:Array (Nat×aC)):bJ 70 n ps=MV n ps:=rfl
def sQ(l:List Int):Array aC:=(l.map (aJ .i64)).toArray
@[go_sem]theorem auK(w:au)(a:Int):(MV 1 #[(0,.int .i64 a)]).run aj w=.ok (.slice (some ⟨w.heap.size,0,none⟩) 1 1) (w.alloc (.cells (sQ [a]) 3)):=by
 obtain⟨i0,oz,mZ,nu⟩:=UZ;simp[MV,bJ,dJ oq,zeroValue,sizeOf,typeInfo,oz,mZ,nu,fB,newRow,sQ,cu,ahi,ahj,awH]
theorem RdI.lit(w:au)(l:List Int)(t:bM):RdI (w.alloc (.cells (sQ l) t)) (w.alloc (.cells (sQ l) t)).heap.size (some ⟨w.heap.size,0,none⟩) l.length l:=by
 have hf:(l.flatMap fun x=>(GY x).toList)=l.map (aJ .i64):=by induction l with
  | nil=>rfl
  | cons z l ih=>simp only[iJ,ih];rfl
 refine⟨rfl,⟨by rw[hf];simp,fun _=>⟨_,rfl,by simp,?_⟩⟩,fun a h _=>by injection h with h;rw[<-h]⟩;intro j v hv;rw[hf]at hv;rw[iC,bB];have:=mU w (sQ l) t j;rw[this];simpa[sQ]using hv
def GZ(n:Nat)(ps:Array (Nat×aC)):xO aC:=bJ 276 n ps
@[go_sem ↓]theorem azt(n:Nat)(ps:Array (Nat×aC)):bJ 276 n ps=GZ n ps:=rfl
theorem U0:∃i:nM,aj.info? 56=some i/\i.zero=some (.slice none 0 0)/\i.size=1:=by
 cases h:aj.info? 56 with
 | none=>exact absurd h (by have:(aj.info? 56).isSome=true:=by kernel_rfl
                            intro e;rw[e]at this;cases this)
 | some i=>
   have h1:(aj.info? 56).map (·.size)=some 1:=by kernel_rfl
   have h3:(aj.info? 56).map (·.zero)=some (some (.slice none 0 0)):=by kernel_rfl
   rw[h]at h1 h3;simp at h1 h3;exact⟨i,rfl,h3,h1⟩
def zD(l:List Zd):Array aC:=(l.map fun x=>bE x.A x.n x.c).toArray
theorem awI:lW 5 = #[0,1,2,3,4]:=by apply oZ;rw[j5];rfl
@[go_sem]theorem auL(w:au)(A B:Option aU)(a b c d:Nat):(GZ 2 #[(0,.slice A a b),(1,.slice B c d)]).run aj w=.ok (.slice (some ⟨w.heap.size,0,none⟩) 2 2) (w.alloc (.cells (zD [⟨A,a,b⟩,⟨B,c,d⟩]) 56)):=by
 obtain⟨i0,oz,mZ,nu⟩:=U0;simp[GZ,bJ,dJ Ea,zeroValue,sizeOf,typeInfo,oz,mZ,nu,fB,newRow,zD,cu,ahj]
@[go_sem]theorem auM(w:au)(A0 A1 A2 A3 A4:Option aU)(n0 n1 n2 n3 n4 c0 c1 c2 c3 c4:Nat):(GZ 5 #[(0,.slice A0 n0 c0),(1,.slice A1 n1 c1),(2,.slice A2 n2 c2),(3,.slice A3 n3 c3),(4,.slice A4 n4 c4)]).run aj w=.ok (.slice (some ⟨w.heap.size,0,none⟩) 5 5) (w.alloc (.cells (zD [⟨A0,n0,c0⟩,⟨A1,n1,c1⟩,⟨A2,n2,c2⟩,⟨A3,n3,c3⟩,⟨A4,n4,c4⟩]) 56)):=by
 obtain⟨i0,oz,mZ,nu⟩:=U0;simp[GZ,bJ,dJ Ea,zeroValue,sizeOf,typeInfo,oz,mZ,nu,fB,newRow,zD,cu,awI]
theorem RdS.lit(w:au)(l:List Zd)(t:bM):RdS (w.alloc (.cells (zD l) t)) (w.alloc (.cells (zD l) t)).heap.size (some ⟨w.heap.size,0,none⟩) l.length l:=by
 have hf:(l.flatMap fun x=>(aor x).toList)=l.map (fun x=>bE x.A x.n x.c):=by induction l with
  | nil=>rfl
  | cons z l ih=>simp only[iJ,ih];rfl
 refine⟨rfl,⟨by rw[hf];simp,fun _=>⟨_,rfl,by simp,?_⟩⟩,fun a h _=>by injection h with h;rw[<-h]⟩;intro j v hv;rw[hf]at hv;rw[iC,bB];have:=mU w (zD l) t j;rw[this];simpa[zD]using hv
theorem OT.cons{w:au}{B:Nat}{x:Zd}{l:List Zd}{ys:List UInt8}{bss:List (List UInt8)}(h:gy w B x.A x.n ys)(k:OT w B l bss):OT w B (x::l) (ys::bss):=by
 refine⟨by simp[k.1],fun i hi=>?_⟩;cases i with
 | zero=>exact h
 | succ i=>exact k.2 i (by simpa using hi)
theorem OT.nil{w:au}{B:Nat}:OT w B [] []:=⟨rfl,fun i hi=>by simp at hi⟩
theorem Ct(l:List Zd)(bss:List (List UInt8))(t:bM)(n:Nat)(w:au)(hn:l.length=n)(hH:OT w w.heap.size l bss)(h1:n<=1000)(hs:zm l<=1000000000):
 aR aj 181 #[.slice (some ⟨w.heap.size,0,none⟩) n n] (w.alloc (.cells (zD l) t)) fun e w'=>∃A m c,e=.returned (.slice A m c)/\m=bss.flatten.length/\gy w' w'.heap.size A m bss.flatten/\w'.ownsRow (w.heap.size+1) 5 1 (.slice A m c) m (bss.flatten.map bv)/\aN w.heap.size w w':=by
 subst hn;refine(MS l bss _ _ _ _ (RdS.lit w l t) ⟨hH.1,fun i hi=>((hH.2 i hi).alloc (ay _) _).lF (by simp)⟩ h1 hs).mono ?_;rintro e w' ⟨v,rfl,ho,hb⟩;obtain⟨A,c,rfl,_,_⟩:=jT ho;exact⟨A,_,c,rfl,rfl,gy.iX ho,by simpa using ho,aAl (aH _ _) hb⟩
theorem ar'(w:au)(s:List UInt8):gy (sI w 5 s) (sI w 5 s).heap.size (some ⟨w.heap.size,0,none⟩) s.length s/\aN w.heap.size w (sI w 5 s):=
 ⟨(Ii w _ s).lF (by unfold sI;rw[Lib.bytesWorld_size];omega),Ih w _ s⟩
theorem vo(n k:Nat)(big:Bool):(iM n k big).length=k:=by cases big<;>simp[iM,wu]
theorem OU{w:au}{ops:Array iV}{o:iV}{a:re}{K:re->au->Prop}{Q:Aq->re->au->Prop}{E:Prop}(Gl:o.guard=none)(s x:pQ)
 (ho:o.op=.call {callee:=.builtin .append,args:=#[s,x],argTypes:=#[56,56]})
 (v:aC) (A:Option aU) (m c:Nat) {B:Nat} {g0:Option Nat} {w0:au} {bs ys:List UInt8} (hs:a.eval s=v) (H:Ow B g0 w0 v bs w) {C:Nat} (hx:a.eval x=.slice A m c) (hr:gy w C A m ys)
 (hlen:bs.length+m<=1000000000)
 (h:∀A' n' c' w',Ow B g0 w0 (.slice A' n' c') (bs++ys) w'->Ow B v.ownBlock w (.slice A' n' c') (bs++ys) w'->K (a.put o.dst (.slice A' n' c')) w') :
 if fC o (yielded ops a.tmps)=true then nD aj o a w K Q else E:=by
 have hw:fC o (yielded ops a.tmps)=true:=by simp[fC,Gl]
 rw[if_pos hw];exact aBg s x ho hs H hx hr hlen h
def TwP(w:au)(bs:List UInt8)(e:kX)(w':au):Prop:=∃A,e=.returned (.slice A 2 2)/\Ow w.heap.size none w (.slice A 2 2) bs w'/\aN w.heap.size w w'
theorem ach{w:au}{g k B:Nat}{f:Nat->aC}{l:List UInt8}(h:w.rowIs g 5 k f)(hl:l.length=k)(hk:k<=1000)(hB:B<=g)(hf:∀j,j<k->f j=bv (l.getD j 0)):w.ownsRow B 5 1 (.slice (some ⟨g,0,none⟩) k k) k (l.map bv):=by
 obtain⟨c,hc,hs,hg⟩:=h;refine⟨by simp[hl],.inr ⟨g,k,c,rfl,hB,hc,ay _,by unfold maxLen;omega,by omega,?_⟩⟩;apply iI;intro j;by_cases hj:j<k
 ·rw[ig (by omega),Array.getElem?_toList,hg j hj,hf j hj]
  simp[av,hl,hj]
 ·rw[aT (by simp;omega),aT (by simp[hl];omega)]
theorem wR(n:Nat)(hn:n<=65535)(w:au):aR aj 184 #[.int .u64 n,.int .i64 2,.bool true] w (TwP w (iM n 2 true)):=by
 refine(aq8 n 2 (by omega) (by omega) true w).mono ?_;rintro e w' ⟨rfl,hr,hb⟩;have ho:=ach (B:=w.heap.size) (l:=iM n 2 true) hr (vo _ _ _) (by omega) (ay _) (fun j hj=>rfl);refine⟨_,rfl,⟨by rw[vo];exact ho,⟨hb.os,hb.tape,hb.output,hb.size,fun k hk _=>hb.block k hk⟩,.inr ⟨_,rfl,ay _⟩,ay _,fun k hk=>by cases hk⟩,hb⟩
theorem auN{B B':Nat}{w1 w w':au}{v:aC}{bs:List UInt8}(h:Ow B' none w v bs w')(h1:B<=B')(hb:aN w'.heap.size w' w1):Ow B v.ownBlock w1 v bs w1:=Ow.iX (iG (jv h.vU hb) h1) (aP (aP h1 h.size) hb.size)
theorem DT{B n c:Nat}{w1 w w':au}{A:Option aU}{bs:List UInt8}(h:Ow B none w (.slice A n c) bs w')(hb:aN w'.heap.size w' w1):gy w1 w1.heap.size A n bs:=by
 have h2:=jv h.vU hb;obtain⟨A',c',e⟩:=h.Dr;injection e with e1 e2 e3
 subst e2;exact gy.iX h2
theorem OV{W W':au}(h:aN W.drew.heap.size W.drew W'):aN W.heap.size W W':=⟨h.os,h.tape,h.output,h.size,h.block⟩
theorem asa{w w1 w2:au}{g0:Option Nat}{v':aC}{bs:List UInt8}{c0:Array aC}(h:Ow (w.heap.size+1) g0 w1 v' bs w2)(hB:aN w.heap.size w w1)(hT:dL w1 w.heap.size c0):
 (∃A n c,v'=.slice A n c/\w2.ownsRow w.heap.size 5 1 (.slice A n c) n (bs.map bv)/\aN w.heap.size w w2)/\dL w2 w.heap.size c0:=by
 obtain⟨A,c,rfl⟩:=h.Dr;have hb:=h.below;exact⟨⟨A,_,c,rfl,iG h.vU (Nr _),hB.trans (hb.mono (Nr _))⟩,hT.below hb (mG _)⟩
def Cu(n:Nat)(ps:Array (Nat×aC)):xO aC:=bJ 56 n ps
@[go_sem ↓]theorem aBh(n:Nat)(ps:Array (Nat×aC)):bJ 56 n ps=Cu n ps:=rfl
@[go_sem]theorem awJ(w:au)(a:Int):(Cu 1 #[(0,.int .u8 a)]).run aj w=.ok (.slice (some ⟨w.heap.size,0,none⟩) 1 1) (w.alloc (.cells #[.int .u8 a] 5)):=by
 obtain⟨i0,oz,mZ,nu,wX⟩:=zV;simp[Cu,bJ,dJ dw,zeroValue,sizeOf,typeInfo,oz,mZ,nu,fB,newRow,cu,ahi]
theorem Fv(w:au)(b:UInt8)(a:Int)(ha:a=(b.toNat:Int)):gy (w.alloc (.cells #[.int .u8 a] 5)) (w.heap.size+1) (some ⟨w.heap.size,0,none⟩) 1 [b]:=by
 subst ha;refine⟨rfl,fun _=>⟨_,rfl,by simp,fun j u hu=>?_⟩⟩;rw[iC,bB];have:=mU w #[.int .u8 (b.toNat:Int)] 5 j;rw[this];simpa[bv]using hu
theorem Tu.rdS{W:au}{q:Nat}{t:Tu}(h:dL W q t.aA):gy W W.heap.size (some ⟨q,1,none⟩) 16 t.src.b.toList:=by
 refine⟨by simp,fun _=>⟨_,rfl,h.lt,fun j u hu=>?_⟩⟩;have hj:j<16:=by
  rcases bf j 16 with hj|hj
  ·exact hj
  ·rw[aT (by simp;omega)]at hu;cases hu
 rw[iC,h.aI.1,uN 1 j,Tu.OP t (j+1) (by omega),fu.EU _ j hj,<-hu];simp[av,hj]
theorem Tu.rdD{W:au}{q:Nat}{t:Tu}(h:dL W q t.aA):gy W W.heap.size (some ⟨q,18,none⟩) 16 t.dst.b.toList:=by
 refine⟨by simp,fun _=>⟨_,rfl,h.lt,fun j u hu=>?_⟩⟩;have hj:j<16:=by
  rcases bf j 16 with hj|hj
  ·exact hj
  ·rw[aT (by simp;omega)]at hu;cases hu
 rw[iC,h.aI.1,show 18+j=(j+1)+17 by omega,Tu.Mf t (j+1) (by omega),fu.EU _ j hj,<-hu];simp[av,hj]
def LC(w:au)(bs:List UInt8)(e:kX)(w':au):Prop:=∃A n c,e=.returned (.slice A n c)/\n=bs.length/\w'.ownsRow w.heap.size 5 1 (.slice A n c) n (bs.map bv)/\aN w.heap.size w w'
def aBi(w:au)(q:Nat)(c:Array aC)(bs:List UInt8)(e:kX)(w':au):Prop:=∃A n c2,e=.returned (.slice A n c2)/\n=bs.length/\w'.ownsRow w.heap.size 5 1 (.slice A n c2) n (bs.map bv)/\aN w.heap.size w w'/\dL w' q c
theorem aeH(t:Tu)(f p:UInt8)(hf:f=if t.src.j6 then 6 else 4)(hp:p=aK t.aQ.toNat)(l:List UInt8)(hl:l=iM t.kU.toNat 2 true++iM t.j4.toNat 2 true):[[f],t.src.b.toList,t.dst.b.toList,[p],l].flatten=NA t:=by
 subst hf hp hl;simp[NA]
theorem asb(t:Tu):(NA t).length=38:=by simp[NA,vo]
def xJ(t:Tu):Prop:=(0<=t.aQ/\t.aQ<=255)/\(0<=t.kU/\t.kU<=65535)/\(0<=t.j4/\t.j4<=65535)
theorem aHg(W w0:au)(q:Nat)(t:Tu)(f p:UInt8)(fi pi:Int)(A:Option aU)(n c:Nat)(l:List UInt8)(hf:f=if t.src.j6 then 6 else 4)(hp:p=aK t.aQ.toNat)(hl:l=iM t.kU.toNat 2 true++iM t.j4.toNat 2 true)
 (hfi:fi=(f.toNat:Int)) (hpi:pi=(p.toNat:Int)) (hB:dL W q t.aA) (hr:gy W W.heap.size A n l) (hn:n=4) (h0:aN w0.heap.size w0 W) :
 aR aj 181 #[.slice (some ⟨W.heap.size+1+1,0,none⟩) 5 5] (((W.alloc (.cells #[.int .u8 fi] 5)).alloc (.cells #[.int .u8 pi] 5)).alloc (.cells (zD [⟨some ⟨W.heap.size,0,none⟩,1,1⟩,⟨some ⟨q,1,none⟩,16,16⟩,⟨some ⟨q,18,none⟩,16,16⟩,⟨some ⟨W.heap.size+1,0,none⟩,1,1⟩,⟨A,n,c⟩]) 56)) (aBi w0 q t.aA (NA t)):=by
 have e1:(W.alloc (.cells #[.int .u8 fi] 5)).heap.size=W.heap.size+1:=by simp
 have e2:((W.alloc (.cells #[.int .u8 fi] 5)).alloc (.cells #[.int .u8 pi] 5)).heap.size=W.heap.size+1+1:=by simp
 have up:∀{A:Option aU} {n:Nat} {l:List UInt8},gy W W.heap.size A n l->gy ((W.alloc (.cells #[.int .u8 fi] 5)).alloc (.cells #[.int .u8 pi] 5)) ((W.alloc (.cells #[.int .u8 fi] 5)).alloc (.cells #[.int .u8 pi] 5)).heap.size A n l:=fun h=>
  ((h.alloc (ay _) _).alloc (by rw[e1];omega) _).lF (by rw[e2];omega)
 have h1:=((Fv W f fi hfi).alloc (by rw[e1];omega) (.cells #[.int .u8 pi] 5)).lF (show W.heap.size+1<=((W.alloc (.cells #[.int .u8 fi] 5)).alloc (.cells #[.int .u8 pi] 5)).heap.size by rw[e2];omega);have h4:=(Fv (W.alloc (.cells #[.int .u8 fi] 5)) p pi hpi).lF (show _<=((W.alloc (.cells #[.int .u8 fi] 5)).alloc (.cells #[.int .u8 pi] 5)).heap.size by rw[e2,e1];omega);rw[e1]at h4;have:=Ct [⟨some ⟨W.heap.size,0,none⟩,1,1⟩,⟨some ⟨q,1,none⟩,16,16⟩,⟨some ⟨q,18,none⟩,16,16⟩,⟨some ⟨W.heap.size+1,0,none⟩,1,1⟩,⟨A,n,c⟩] [[f],t.src.b.toList,t.dst.b.toList,[p],l] 56 5 _ rfl (.cons h1 (.cons (up (Tu.rdS hB)) (.cons (up (Tu.rdD hB)) (.cons h4 (.cons (up hr) .nil))))) (by omega) (by simp[zm,hn]);rw[e2,aeH t f p hf hp l hl]at this;refine this.mono ?_;rintro e w' ⟨A',m,c',rfl,hm,_,ho,hb⟩;have jB:=h0.size;have hWb:=(((aH W.heap.size W).alloc (ay _) _).alloc (by simp) _).trans (hb.mono (by omega));exact⟨A',m,c',rfl,hm,iG ho (by omega),ji h0 hWb,hB.go hWb⟩
theorem aHi(W w0:au)(q:Nat)(t:Tu)(f p:UInt8)(fi pi:Int)(A:Option aU)(n c:Nat)(l:List UInt8)(hf:f=if t.src.j6 then 6 else 4)(hp:p=aK t.aQ.toNat)(hl:l=iM t.kU.toNat 2 true++iM t.j4.toNat 2 true)
 (hfi:fi=(f.toNat:Int)) (hpi:pi=(p.toNat:Int)) (hB:dL W q t.aA) (hr:gy W W.heap.size A n l) (hn:n=4) (h0:aN w0.heap.size w0 W) :
 aR aj 181 #[.slice (some ⟨W.heap.size+1+1,0,none⟩) 5 5] (((W.alloc (.cells #[.int .u8 pi] 5)).alloc (.cells #[.int .u8 fi] 5)).alloc (.cells (zD [⟨some ⟨W.heap.size+1,0,none⟩,1,1⟩,⟨some ⟨q,1,none⟩,16,16⟩,⟨some ⟨q,18,none⟩,16,16⟩,⟨some ⟨W.heap.size,0,none⟩,1,1⟩,⟨A,n,c⟩]) 56)) (aBi w0 q t.aA (NA t)):=by
 have e1:(W.alloc (.cells #[.int .u8 pi] 5)).heap.size=W.heap.size+1:=by simp
 have e2:((W.alloc (.cells #[.int .u8 pi] 5)).alloc (.cells #[.int .u8 fi] 5)).heap.size=W.heap.size+1+1:=by simp
 have up:∀{A:Option aU} {n:Nat} {l:List UInt8},gy W W.heap.size A n l->gy ((W.alloc (.cells #[.int .u8 pi] 5)).alloc (.cells #[.int .u8 fi] 5)) ((W.alloc (.cells #[.int .u8 pi] 5)).alloc (.cells #[.int .u8 fi] 5)).heap.size A n l:=fun h=>
  ((h.alloc (ay _) _).alloc (by rw[e1];omega) _).lF (by rw[e2];omega)
 have h4:=((Fv W p pi hpi).alloc (by rw[e1];omega) (.cells #[.int .u8 fi] 5)).lF (show W.heap.size+1<=((W.alloc (.cells #[.int .u8 pi] 5)).alloc (.cells #[.int .u8 fi] 5)).heap.size by rw[e2];omega);have h1:=(Fv (W.alloc (.cells #[.int .u8 pi] 5)) f fi hfi).lF (show _<=((W.alloc (.cells #[.int .u8 pi] 5)).alloc (.cells #[.int .u8 fi] 5)).heap.size by rw[e2,e1];omega);rw[e1]at h1;have:=Ct [⟨some ⟨W.heap.size+1,0,none⟩,1,1⟩,⟨some ⟨q,1,none⟩,16,16⟩,⟨some ⟨q,18,none⟩,16,16⟩,⟨some ⟨W.heap.size,0,none⟩,1,1⟩,⟨A,n,c⟩] [[f],t.src.b.toList,t.dst.b.toList,[p],l] 56 5 _ rfl (.cons h1 (.cons (up (Tu.rdS hB)) (.cons (up (Tu.rdD hB)) (.cons h4 (.cons (up hr) .nil))))) (by omega) (by simp[zm,hn]);rw[e2,aeH t f p hf hp l hl]at this;refine this.mono ?_;rintro e w' ⟨A',m,c',rfl,hm,_,ho,hb⟩;have jB:=h0.size;have hWb:=(((aH W.heap.size W).alloc (ay _) _).alloc (by simp) _).trans (hb.mono (by omega));exact⟨A',m,c',rfl,hm,iG ho (by omega),ji h0 hWb,hB.go hWb⟩
theorem aci(t:Tu)(ht:xJ t)(w:au):aR aj 98 #[.agg t.aA] w (LC w (NA t)):=by
 obtain⟨⟨p1,p2⟩,⟨s1,s2⟩,d1,d2⟩:=ht;have T0:=ah (dL.new w t.aA 81);have B0:=ah ((aH w.heap.size w).alloc (ay _) (.cells t.aA 81));obtain⟨w1,Io⟩:∃w1,w1=w.alloc (.cells t.aA 81):=⟨_,rfl⟩
 obtain⟨sn,hsn⟩:∃sn:Nat,t.kU=(sn:Int):=⟨t.kU.toNat,by omega⟩
 obtain⟨dn,hdn⟩:∃dn:Nat,t.j4=(dn:Int):=⟨t.j4.toNat,by omega⟩
 have PS:=ah (fun W=>wR sn (by omega) W);have PD:=ah (fun W=>wR dn (by omega) W);have cs:IntKind.u64.wrap t.kU=(sn:Int):=by rw[IntKind.wrap_u64];omega
 have cd:IntKind.u64.wrap t.j4=(dn:Int):=by rw[IntKind.wrap_u64];omega
 have cp:IntKind.u8.wrap t.aQ=t.aQ:=by rw[IntKind.wrap_u8];omega
 obtain⟨f,hf⟩:∃f:UInt8,f=if t.src.j6 then 6 else 4:=⟨_,rfl⟩
 have HL:=ah (show iM sn 2 true++iM dn 2 true=iM t.kU.toNat 2 true++iM t.j4.toNat 2 true by rw[show sn=t.kU.toNat by omega,show dn=t.j4.toNat by omega]);have HPI:=ah (show t.aQ=((aK t.aQ.toNat).toNat:Int)by rw[dig _ (by omega)];omega);obtain⟨fi,hfi⟩:∃fi:Int,fi=(f.toNat:Int):=⟨_,rfl⟩
 have KS:=ah (show∀W',dL W' w.heap.size t.aA->W'.cell? ⟨w.heap.size,35,none⟩=some (.int .i64 t.kU)/\W'.cell? ⟨w.heap.size,36,none⟩=some (.int .i64 t.j4)from fun W' h=>⟨by rw[h.aI.1];exact Tu.aha t,by rw[h.aI.1];exact Tu.ab9 t⟩);have KP:=ah (show∀W',dL W' w.heap.size t.aA->W'.cell? ⟨w.heap.size,34,none⟩=some (.int .i64 t.aQ)from fun W' h=>by rw[h.aI.1];exact Tu.WR t);have CA:=ah (fun W A n c (hB:dL W w.heap.size t.aA) (hr:gy W W.heap.size A n (iM sn 2 true++iM dn 2 true)) (hn:n=4) (h0:aN w.heap.size w W)=>aHg W w w.heap.size t f _ fi t.aQ A n c _ hf rfl HL.out hfi HPI.out hB hr hn h0);have CB:=ah (fun W A n c (hB:dL W w.heap.size t.aA) (hr:gy W W.heap.size A n (iM sn 2 true++iM dn 2 true)) (hn:n=4) (h0:aN w.heap.size w W)=>aHi W w w.heap.size t f _ fi t.aQ A n c _ hf rfl HL.out hfi HPI.out hB hr hn h0);have HFI:=ah (show fi=if t.src.j6 then 6 else 4 by rw[hfi,hf];cases t.src.j6<;>rfl);rw[<-Io]at T0 B0;have gI:w.heap.size<w1.heap.size:=by rw[Io];simp
 have LB0:=ah (show w.heap.size+1<=w1.drew.heap.size from gI);have LB1:=ah (show∀W,aN w1.drew.heap.size w1.drew W->w.heap.size+1<=W.heap.size from fun W h=>aP gI h.size);have H4:=ah (show(iM sn 2 true).length+2<=1000000000 by rw[vo];omega);clear hf hfi hsn hdn p1 p2 s1 s2 d1 d2;obtain⟨j6,aHk⟩:∃b,t.src.j6=b:=⟨_,rfl⟩
 rw[aHk]at HFI;subst Io;cases j6
 all_goals
  have aBk:=HFI.out;simp only[jH,if_false,if_true]at aBk;subst aBk;clear HFI;go_enter Tryz.func98,Tryz.ntmps98;go_wp2_with fail;go_cut [4]from 8 to 16 (fun s4 wx=>∃A n c,s4=.slice A n c/\wx.ownsRow w.heap.size 5 1 (.slice A n c) n ((iM sn 2 true++iM dn 2 true).map bv)/\aN w.heap.size w wx/\dL wx w.heap.size t.aA)
  case first=>
   go_region_held_law (fun W'=>W'.cell? ⟨w.heap.size,35,none⟩=some (.int .i64 t.kU)/\W'.cell? ⟨w.heap.size,36,none⟩=some (.int .i64 t.j4))
    (first|exact KS.out _ T0.out.drew|exact KS.out _ Ta.out|exact KS.out _ Tb.out|exact KS.out _ Tc.out|exact KS.out _ Td.out|exact KS.out _ Tz.out|go_keep)
    (first|(go_at_call 184;(with_reducible refine(PS.out _).mono ?_);rintro e wa ⟨Awa,rfl,ho,hb⟩;have Oa:=ah ho;have Ta:=ah (T0.out.drew.go hb);have Ba:=ah (ji B0.out (OV hb));clear ho hb)|(go_at_call 184;(with_reducible refine(PD.out _).mono ?_);rintro e wb ⟨Awb,rfl,ho,hb⟩;have Ob:=ah ho;have Tb:=ah (T0.out.drew.go hb);have Bb:=ah (ji B0.out (OV hb));have Lb:=ah (LB1.out _ hb);clear ho hb)|(go_at_call 184;(with_reducible refine(PD.out _).mono ?_);rintro e wc2 ⟨aHl,rfl,ho,hb⟩;have Tc:=ah (Ta.out.go hb);have Bc:=ah (ji Ba.out hb);have Q1:=ah (auN Oa.out LB0.out hb);have Q2:=ah (DT ho (aH _ _));clear ho hb)|(go_at_call 184;(with_reducible refine(PS.out _).mono ?_);rintro e wd ⟨Awd,rfl,ho,hb⟩;have Td:=ah (Tb.out.go hb);have Bd:=ah (ji Bb.out hb);have Q3:=ah (auN ho Lb.out (aH _ _));have Q4:=ah (DT Ob.out hb);clear ho hb)|(refine OU (o:=⟨some 16,_,_,_,_,_⟩) rfl (.tmp 11) (.tmp 15) rfl (.slice Awd 2 2) Awb 2 2 rfl Q3.out rfl Q4.out H4.out ?_;intro A3 n3 c3 w3 h2 h3;have Tz:=ah (asa h2 Bd.out Td.out).2;have Oz:=ah (asa h2 Bd.out Td.out).1;clear h2 h3)|(refine OU (o:=⟨some 16,_,_,_,_,_⟩) rfl (.tmp 11) (.tmp 15) rfl (.slice Awa 2 2) aHl 2 2 rfl Q1.out rfl Q2.out H4.out ?_;intro A3 n3 c3 w3 h2 h3;have Tz:=ah (asa h2 Bc.out Tc.out).2;have Oz:=ah (asa h2 Bc.out Tc.out).1;clear h2 h3))
   all_goals
    go_wp2_with fail;go_meet
    case rel=>obtain⟨A9,n9,c9,e9,ho9,hb9⟩:=Oz.out;exact⟨A9,n9,c9,e9,ho9,hb9,Tz.out⟩
  case rest=>
   obtain⟨A,n,c,rfl,ho,hb,hT⟩:=hcut;have hn4:n=4:=by have:=ho.1;rw[bR,aS,vo,vo]at this;omega
   subst hn4;have HT:=ah hT;have HB:=ah hb;have HR:=ah (gy.iX ho);clear ho hb hT;go_wp2_with fail;have CA1:=CA.out wc.drew A 4 c HT.out.drew HR.out rfl HB.out.drew;have CB1:=CB.out wc.drew A 4 c HT.out.drew HR.out rfl HB.out.drew;simp only[show wc.drew.heap.size=wc.heap.size from rfl,show∀(w:au) ob,w.drew.alloc ob=(w.alloc ob).drew from fun _ _=>rfl]at CA1 CB1;have CA2:=ah CA1;have CB2:=ah CB1;clear CA1 CB1;go_region_held_law (fun W'=>W'.cell? ⟨w.heap.size,34,none⟩=some (.int .i64 t.aQ))
    (first|exact KP.out _ HT.out.drew|exact KP.out _ (HT.out.drew.alloc _)|exact KP.out _ ((HT.out.drew.alloc _).alloc _)|exact KP.out _ (((HT.out.drew.alloc _).alloc _).alloc _)|exact KP.out _ FX.out|go_keep)
    (first|(go_at_call 181;(with_reducible refine CA2.out.mono ?_);rintro e w2 ⟨A2,n2,c2,rfl,LA,NG,kF,Ql⟩;have FX:=ah Ql;have FN:=ah LA;have FO:=ah NG;have FB:=ah kF;clear LA NG kF Ql)|(go_at_call 181;(with_reducible refine CB2.out.mono ?_);rintro e w2 ⟨A2,n2,c2,rfl,LA,NG,kF,Ql⟩;have FX:=ah Ql;have FN:=ah LA;have FO:=ah NG;have FB:=ah kF;clear LA NG kF Ql))
   all_goals
    go_wp2_with fail;go_ret;exact⟨_,_,_,rfl,FN.out,FO.out,FB.out⟩
theorem ahk(l:List UInt8):iM (oJ l) l.length true=l:=by
 simp[iM,Ud]
theorem WY(l:List UInt8)(k:Nat)(h:l.length=k):iM (oJ l) k true=l:=by rw[<-h];exact ahk l
theorem aeI{n m k:Nat}(hn:n<2^(8*k))(hm:m<2^(8*k))(h:iM n k true=iM m k true):n=m:=by
 have h1:wu n k=wu m k:=by
  have:=congrArg List.reverse h;simpa[iM]using this
 have h2:∀i,i<k->Je n i=Je m i:=fun i hi=>by
  have:=congrArg (fun l:List UInt8=>l[i]?) h1;simpa[wu,hi]using this
 have h3:=adO k h2;rw[fM hn,fM hm]at h3;exact h3
theorem WZ(l:List UInt8):oJ l<2^(8*l.length):=by
 have:=Ku l;rw[Nat.pow_mul];exact this
theorem ahl{n k:Nat}(hn:n<2^(8*k)):oJ (iM n k true)=n:=by
 have hl:(iM n k true).length=k:=vo _ _ _;have h:=WY (iM n k true) k hl;have h2:=WZ (iM n k true);rw[hl]at h2;exact aeI h2 hn h
theorem Rt(l t:List UInt8)(k:Nat)(h:l.length=k):Im k (some (l++t))=(l,some t):=by
 subst h;simp[Im]
theorem Ru{k:Nat}{s:RS}{l t:List UInt8}(h:Im k s=(l,some t)):s=some (l++t)/\l.length=k:=by
 cases s with
 | none=>simp[Im]at h
 | some b=>
   unfold Im at h;simp only at h;split at h
   ·rename_i hk
    injection h with h1 h2
    injection h2 with h2
    subst h1 h2;exact⟨by rw[iF],by rw[List.length_take];omega⟩
   ·injection h with h1 h2;cases h2
theorem OX(n k:Nat)(t:List UInt8)(hn:n<2^(8*k)):adT k (some (iM n k true++t))=(n,some t):=by
 unfold adT;rw[Rt (iM n k true) t k (vo _ _ _)];simp only[ahl hn]
theorem OY{k n:Nat}{s:RS}{t:List UInt8}(h:adT k s=(n,some t)):s=some (iM n k true++t)/\n<2^(8*k):=by
 unfold adT at h;injection h with h1 h2
 have h3:Im k s=((Im k s).1,some t):=by rw[<-h2]
 obtain⟨h4,h5⟩:=Ru h3;refine⟨?_,?_⟩
 ·rw[<-h1,WY _ k h5];exact h4
 ·have:=WZ (Im k s).1
  rw[h5]at this;rw[<-h1];exact this
theorem ajf(n:Nat)(hn:n<256):iM n 1 true=[aK n]:=by
 simp[iM,wu,Je]
theorem aot{n:Nat}(v:Vector UInt8 n):qv n v.toList=v:=by
 apply Vector.ext;intro i hi;simp[qv,hi]
theorem aeJ{n:Nat}(l:List UInt8)(h:l.length=n):(qv n l).toList=l:=by
 apply List.ext_getElem
 ·simp[h]
 ·intro i h1 h2
  simp[qv,h2]
structure Cdc{α:Type}(one:RS->(α×Bool)×RS)(lay:α->List UInt8)(ok:α->Prop):Prop where
 fwd:∀x t,ok x->one (some (lay x++t))=((x,true),some t)
 inv:∀s x t,one s=((x,true),some t)->ok x->s=some (lay x++t)
theorem BM{α:Type}{p:α×RS}{t:List UInt8}(h:p.2=some t):p=(p.1,some t):=Prod.ext rfl h
def aaw(t:Tu):Prop:=t.src.j6=t.dst.j6/\(0<=t.aQ/\t.aQ<=255)/\(0<=t.kU/\t.kU<=65535)/\0<=t.j4/\t.j4<=65535
theorem aou:Cdc tuO NA aaw where
 fwd:=by
  intro x t ⟨h0,⟨h1,h2⟩,⟨h3,h4⟩,h5,h6⟩;have hf:∀b:Bool,(if b then 6 else 4:Nat)<2^(8*1):=by intro b;cases b<;>decide
  have e0:NA x++t=iM (if x.src.j6 then 6 else 4) 1 true++(x.src.b.toList++(x.dst.b.toList++(iM x.aQ.toNat 1 true++(iM x.kU.toNat 2 true++(iM x.j4.toNat 2 true++t))))):=by
   have:∀b:Bool,iM (if b then 6 else 4) 1 true=[if b then 6 else 4]:=by intro b;cases b<;>decide
   rw[ajf x.aQ.toNat (by omega),this];simp[NA,dB]
  rw[e0];unfold tuO;simp only[OX _ 1 _ (hf _),Rt x.src.b.toList _ 16 (by simp),Rt x.dst.b.toList _ 16 (by simp),OX x.aQ.toNat 1 _ (by omega),OX x.kU.toNat 2 _ (by omega),OX x.j4.toNat 2 _ (by omega),aot];have g:∀b:Bool,(((if b then 6 else 4:Nat)==6)=b)/\(b||((if b then 6 else 4:Nat)==4))=true:=by intro b;cases b<;>decide
  simp only[(g _).1,(g _).2];congr 2;obtain⟨⟨a,b⟩,⟨c,d⟩,p,q,r⟩:=x;simp only at h0 h1 h2 h3 h4 h5 h6 ⊢;subst h0;congr<;>omega
 inv:=by
  intro s x t h _;unfold tuO at h;simp only[Prod.mk.injEq]at h;obtain⟨⟨h1,c⟩,h2⟩:=h;obtain⟨i6,_⟩:=OY (BM h2);obtain⟨i5,_⟩:=OY (BM i6);obtain⟨i4,l4⟩:=OY (BM i5);obtain⟨i3,l3⟩:=Ru (BM i4);obtain⟨i2,l2⟩:=Ru (BM i3);obtain⟨i1,_⟩:=OY (BM i2);rw[i1,<-h1];congr 1;unfold NA;have:∀n:Nat,((n==6)||(n==4))=true->iM n 1 true=[if(n==6)=true then 6 else 4]:=by
   intro n hn;simp at hn;rcases hn with rfl|rfl<;>decide
  rw[this _ c];have e4:∀n:Nat,n<2^(8*1)->[aK n]=iM n 1 true:=fun n hn=>(ajf n (by omega)).symm
  simp only[dB,aeJ _ l2,aeJ _ l3,Int.toNat_natCast,e4 _ l4]
theorem ase(n m:Int):ZC n m=true↔0<=n/\n<=m:=by simp[ZC]
theorem OZ{x:Tu}(h:Gz x=true):aaw x:=by
 unfold Gz at h;simp only[bl,decide_eq_true_eq,ase]at h;exact⟨h.1.1.1.1.1,h.1.1.2,h.1.2,h.2⟩
structure Ly(B:Nat)(L:List (Nat×Array aC))(w0 W:au)(v:aC)(bs:List UInt8):Prop where
 o:Ow B none w0 v bs W
 bx:∀p∈L,dL W p.1 p.2/\v.ownBlock≠some p.1
section
variable {B:Nat} {L:List (Nat×Array aC)} {w0 W W':au} {v v':aC} {bs bs':List UInt8}
theorem Ly.go(h:Ly B L w0 W v bs)(hb:aN W.heap.size W W'):Ly B L w0 W' v bs:=⟨h.o.go hb,fun p hp=>⟨(h.bx p hp).1.go hb,(h.bx p hp).2⟩⟩
theorem Ly.alloc(h:Ly B L w0 W v bs)(ob:Obj):Ly B L w0 (W.alloc ob) v bs:=h.go ((aH _ _).alloc (ay _) ob)
theorem Ly.drew(h:Ly B L w0 W v bs):Ly B L w0 W.drew v bs:=⟨h.o.drew,fun p hp=>⟨(h.bx p hp).1.drew,(h.bx p hp).2⟩⟩
theorem Ly.new(h:Ly B L w0 W v bs)(c:Array aC)(t:bM):Ly B ((W.heap.size,c)::L) w0 (W.alloc (.cells c t)) v bs:=
 ⟨(h.alloc _).o,fun p hp=>by
   rcases bD.1 hp with rfl|hp
   ·exact⟨dL.new W c t,fun e=>absurd (h.o.lt e) (Nat.lt_irrefl _)⟩
   ·exact(h.alloc _).bx p hp⟩
theorem Ly.add(h:Ly B L w0 W v bs){q:Nat}{c:Array aC}(hb:dL W q c)(hq:v.ownBlock≠some q):Ly B ((q,c)::L) w0 W v bs:=
 ⟨h.o,fun p hp=>by
  rcases bD.1 hp with rfl|hp
  ·exact⟨hb,hq⟩
  ·exact h.bx p hp⟩
theorem Ly.step(h:Ly B L w0 W v bs)(k:Ow B v.ownBlock W v' bs' W'):Ly B L w0 W' v' bs':=
 ⟨h.o.step k,fun p hp=>⟨k.box (h.bx p hp).1 (fun e=>(h.bx p hp).2 e.symm),by
  rcases k.wP with e|⟨j,e,e2⟩
  ·rw[e];exact(h.bx p hp).2
  ·rw[e];intro e3;injection e3 with e3;have:=(h.bx p hp).1.lt;omega⟩⟩
theorem Ly.U1{p:Nat×Array aC}(h:Ly B (p::L) w0 W v bs):Ly B L w0 W v bs:=⟨h.o,fun q hq=>h.bx q (jX _ hq)⟩
theorem Ly.b0{q:Nat}{c:Array aC}(h:Ly B ((q,c)::L) w0 W v bs):dL W q c:=(h.bx (q,c) (by simp)).1
theorem Ly.b1{p:Nat×Array aC}{q:Nat}{c:Array aC}(h:Ly B (p::(q,c)::L) w0 W v bs):dL W q c:=h.U1.b0
theorem Ly.b2{p p2:Nat×Array aC}{q:Nat}{c:Array aC}(h:Ly B (p::p2::(q,c)::L) w0 W v bs):dL W q c:=h.U1.U1.b0
end
theorem RdI.box{W:au}{q o:Nat}{l:List Int}{c:Array aC}(h:dL W q c)(hc:∀j,j<l.length->c[o+j]? = some (.int .i64 (l.getD j 0))):RdI W W.heap.size (some ⟨q,o,none⟩) l.length l:=by
 have hf:(l.flatMap fun x=>(GY x).toList)=l.map (aJ .i64):=by
  clear hc
  induction l with
  | nil=>rfl
  | cons z l ih=>simp only[iJ,ih];rfl
 refine⟨rfl,⟨by rw[hf];simp,fun _=>⟨_,rfl,h.lt,?_⟩⟩,fun a h _=>by injection h with h;rw[<-h]⟩;intro j v hv;rw[hf]at hv;have hj:j<l.length:=by
  rcases bf j l.length with hj|hj
  ·exact hj
  ·rw[aT (by simpa using hj)]at hv;cases hv
 rw[iC,h.aI.1,hc j hj,<-hv];simp[av,hj]
theorem aax(l:List Int)(j:Nat)(hj:j<l.length):(sQ l)[0+j]? = some (.int .i64 (l.getD j 0)):=by
 simp[sQ,av,hj]
theorem Ly.nil{w:au}:Ly w.heap.size [] w w (.slice none 0 0) []:=⟨Ow.nil w,fun p hp=>by cases hp⟩
def acj{α:Type}(t e:bM)(f:α->Array aC)(sz:Nat):Prop:=∃(i:nM)(z:aC),aj.underlying t=some (.slice e)/\aj.info? e=some i/\i.zero=some z/\i.size=sz/\z.cells.size=sz/\0<sz/\i.bytes<=1000/\(∀x,(f x).size=sz)/\∀x,(f x).all (·.oneCell')=true
structure Rz{α:Type}(f:α->Array aC)(sz:Nat)(e:bM)(L:List (Nat×Array aC))(w0 W:au)(v:aC)(l:List α):Prop where
 vU:W.ownsRow w0.heap.size e sz v l.length (l.flatMap fun x=>(f x).toList)
 dF:aN w0.heap.size w0 W
 bx:∀p∈L,dL W p.1 p.2/\v.ownBlock≠some p.1
section
variable {α:Type} {f:α->Array aC} {sz:Nat} {e t:bM} {L:List (Nat×Array aC)} {w0 W W':au} {v v':aC} {l ys:List α}
theorem Rz.nil(w:au):Rz f sz e [] w w (.slice none 0 0) []:=⟨World.ownsRow_nil _ _ _ _,aH _ _,fun p hp=>by cases hp⟩
theorem Rz.go(h:Rz f sz e L w0 W v l)(hb:aN W.heap.size W W'):Rz f sz e L w0 W' v l:=⟨jv h.vU hb,ji h.dF hb,fun p hp=>⟨(h.bx p hp).1.go hb,(h.bx p hp).2⟩⟩
theorem Rz.alloc(h:Rz f sz e L w0 W v l)(ob:Obj):Rz f sz e L w0 (W.alloc ob) v l:=h.go ((aH _ _).alloc (ay _) ob)
theorem Rz.drew(h:Rz f sz e L w0 W v l):Rz f sz e L w0 W.drew v l:=⟨h.vU,h.dF.drew,fun p hp=>⟨(h.bx p hp).1.drew,(h.bx p hp).2⟩⟩
theorem Rz.lt(h:Rz f sz e L w0 W v l){k:Nat}(hk:v.ownBlock=some k):w0.heap.size<=k/\k<W.heap.size:=h.vU.lt k hk
theorem Rz.new(h:Rz f sz e L w0 W v l)(c:Array aC)(t:bM):Rz f sz e ((W.heap.size,c)::L) w0 (W.alloc (.cells c t)) v l:=
 ⟨(h.alloc _).vU,(h.alloc _).dF,fun p hp=>by
   rcases bD.1 hp with rfl|hp
   ·exact⟨dL.new W c t,fun e=>absurd (h.lt e).2 (Nat.lt_irrefl _)⟩
   ·exact(h.alloc _).bx p hp⟩
theorem Rz.U1{p:Nat×Array aC}(h:Rz f sz e (p::L) w0 W v l):Rz f sz e L w0 W v l:=⟨h.vU,h.dF,fun q hq=>h.bx q (jX _ hq)⟩
theorem Rz.b0{q:Nat}{c:Array aC}(h:Rz f sz e ((q,c)::L) w0 W v l):dL W q c:=(h.bx (q,c) (by simp)).1
theorem Rz.b1{p:Nat×Array aC}{q:Nat}{c:Array aC}(h:Rz f sz e (p::(q,c)::L) w0 W v l):dL W q c:=h.U1.b0
theorem Rz.Dr(h:Rz f sz e L w0 W v l):∃A c,v=.slice A l.length c:=by obtain⟨A,c,e,_⟩:=jT h.vU;exact⟨A,c,e⟩
theorem Rz.rd{A:Option aU}{n c:Nat}(h:Rz f sz e L w0 W (.slice A n c) l):iO f sz W W.heap.size A n l:=by
 obtain⟨A2,c2,e2⟩:=h.Dr;injection e2 with e3 e4 e5
 subst e3 e4 e5;exact iO.iX rfl h.vU
theorem Rz.len{A:Option aU}{n c:Nat}(h:Rz f sz e L w0 W (.slice A n c) l):n=l.length:=h.rd.1.symm
theorem Rz.grown(h:Rz f sz e L w0 W v l)(hg:W.grownBy W' v.ownBlock)(h1:W'.ownsRow w0.heap.size e sz v' ys.length (ys.flatMap fun x=>(f x).toList))(h2:v'.ownBlock=v.ownBlock\/v'.ownBlock=some W.heap.size):Rz f sz e L w0 W' v' ys:=by
 refine⟨h1,⟨hg.os.trans h.dF.os,hg.tape.trans h.dF.tape,hg.output.trans h.dF.output,aP h.dF.size hg.size,fun k hk=>(hg.block k (eU hk h.dF.size) (fun e=>by have:=(h.lt e.symm).1;omega)).trans (h.dF.block k hk)⟩,fun p hp=>⟨(h.bx p hp).1.grown hg (fun e=>(h.bx p hp).2 e.symm),?_⟩⟩;rcases h2 with e|e
 ·rw[e];exact(h.bx p hp).2
 ·rw[e];intro e3;injection e3 with e3;have:=(h.bx p hp).1.lt;omega
theorem auP(T:acj t e f sz){o:iV}{a:re}{K:re->au->Prop}{Q:Aq->re->au->Prop}(s x:pQ)
 (ho:o.op=.call {callee:=.builtin .append,args:=#[s,x],argTypes:=#[t,t]}) (hs:a.eval s=v) (H:Rz f sz e L w0 W v l) {C:Nat} {A:Option aU} {m c:Nat} (hx:a.eval x=.slice A m c) (hr:iO f sz W C A m ys)
 (hlen:l.length+m<=1000000)
 (h:∀A' n' c' w',Rz f sz e L w0 w' (.slice A' n' c') (l++ys)->W.grownBy w' v.ownBlock->K (a.put o.dst (.slice A' n' c')) w'):o.wp aj a W K Q:=by
 obtain⟨i,z,ht,hi,hz,h1,h2,h3,h4,h5,h6⟩:=T;have hm:=hr.1;refine Kt W s x t ho w0.heap.size e i z sz i.bytes ht hi hz h1 rfl h2 h3 v l.length _ hs H.vU C A m c _ hx hr.2.1 (ER f h6 ys) (by unfold maxLen;omega) (aP (Nat.mul_le_mul hlen h4) (by omega)) H.dF.size ?_;intro v1 w1 k1 k2 k3;rw[adB,<-hm,<-aS]at k1;have hk:=H.grown k2 k1 k3;obtain⟨A',c',rfl⟩:=hk.Dr;exact h A' _ c' w1 hk k2
theorem Rv(T:acj t e f sz){ops:Array iV}{rest:List iV}{o:iV}{a:re}{Q:Aq->re->au->Prop}(Gl:o.guard=none)(s x:pQ)
 (ho:o.op=.call {callee:=.builtin .append,args:=#[s,x],argTypes:=#[t,t]}) (hs:a.eval s=v) (H:Rz f sz e L w0 W v l) {C:Nat} {A:Option aU} {m c:Nat} (hx:a.eval x=.slice A m c) (hr:iO f sz W C A m ys)
 (hlen:l.length+m<=1000000)
 (h:∀A' n' c' w',Rz f sz e L w0 w' (.slice A' n' c') (l++ys)->W.grownBy w' v.ownBlock->wpList aj ops Q rest (a.put o.dst (.slice A' n' c')) w'):wpList aj ops Q (o::rest) a W:=
 tu Gl fun _ hK=>auP T s x ho hs H hx hr hlen fun A' n' c' w' h2 h3=>hK _ _ (h A' n' c' w' h2 h3)
theorem asf(T:acj t e f sz){ops:Array iV}{o:iV}{a:re}{K:re->au->Prop}{Q:Aq->re->au->Prop}{E:Prop}(Gl:o.guard=none)(s x:pQ)
 (ho:o.op=.call {callee:=.builtin .append,args:=#[s,x],argTypes:=#[t,t]}) (hs:a.eval s=v) (H:Rz f sz e L w0 W v l) {C:Nat} {A:Option aU} {m c:Nat} (hx:a.eval x=.slice A m c) (hr:iO f sz W C A m ys)
 (hlen:l.length+m<=1000000)
 (h:∀A' n' c' w',Rz f sz e L w0 w' (.slice A' n' c') (l++ys)->W.grownBy w' v.ownBlock->K (a.put o.dst (.slice A' n' c')) w'):if fC o (yielded ops a.tmps)=true then nD aj o a W K Q else E:=by
 have hw:fC o (yielded ops a.tmps)=true:=by simp[fC,Gl]
 rw[if_pos hw];exact auP T s x ho hs H hx hr hlen h
end
theorem akX(l:List Bk)(hs:Gy l)(s:List UInt8)(v:Int)(A:Option aU)(n c:Nat)(w:au)(hR:iO Bk.aA 27 w w.heap.size A n l)(hn:n<=100000)(K:Bool)(g:Bk)(h1:sZ l s=K)(h2:qp l s=g):
 aR aj 33 #[.agg #[.int .i64 v,.slice A n c],.string (bV s)] w (gP w (.tuple #[.agg g.aA,.bool K])):=by
 obtain rfl:=hR.1;subst h1 h2;exact Ce l hs s v A c w hR (by omega)
theorem Ly.rd{B:Nat}{L:List (Nat×Array aC)}{w0 W:au}{A:Option aU}{n c:Nat}{bs:List UInt8}(h:Ly B L w0 W (.slice A n c) bs):gy W W.heap.size A n bs:=by
 obtain⟨A2,c2,e2⟩:=h.o.Dr;injection e2 with e3 e4 e5
 subst e3 e4 e5;exact gy.iX h.o.vU
theorem Pb(d:Nat)(l m:List Int)(W:au):∀is:List Nat,(∀i∈is,i<l.length/\i<m.length)->(Lh (d+1) 3 1 (sQ l) (sQ m) is).run aj W=.ok (is.all fun i=>l.getD i 0==m.getD i 0) W
 | [],_=>by simp[Lh]
 | i::is,h=>by
   have hi:=h i (by simp);have ih:=Pb d l m W is (fun j hj=>h j (by simp[hj]));have p1:∀l:List Int,i<l.length->(part 3 (sQ l) (i*1)).run aj W=.ok (.int .i64 (l.getD i 0)) W:=fun l hl=>
    pJ (by simp only[gQ]) (by rw[gF];have:=aax l i hl;rwa [bB]at this) W
   simp only[Lh,Sem.run_bind,p1 l hi.1,p1 m hi.2,gK,Gp,List.all_cons];cases hb:(l.getD i 0==m.getD i 0)
   ·simp
   ·simpa using ih
theorem aay(v:Vector Int 11):zk v=sQ v.toList:=rfl
theorem asg(a b:Vector Int 11):((dW 11).all fun i=>a.toList.getD i 0==b.toList.getD i 0)=decide (a=b):=by
 rw[cO];simp only[gH,eH,beq_iff_eq,decide_eq_true_eq];constructor
 ·intro h
  apply Vector.ext;intro i hi;have:=h i hi;simpa[av,hi]using this
 ·rintro rfl i _
  rfl
theorem ahm(a b:Vector Int 11)(d:Nat)(W:au):(jl (d+2) 35 (.agg (zk a)) (.agg (zk b))).run aj W=.ok (decide (a=b)) W:=by
 obtain⟨i0,oz,_,_⟩:=UZ;rw[run_equalIn_array W (d+1) _ _ FZ oz,show aj.cellsOf 3=1 by kernel_rfl,aay,aay,Pb d _ _ W _ (fun i hi=>by simp at hi⊢;exact hi),asg]
@[go_sem ↓]theorem aHp(a b:Vector Int 11)(W:au):(jl 10000 35 (.agg (zk a)) (.agg (zk b))).run aj W=.ok (decide (a=b)) W:=ahm a b 9998 W
theorem akY:aj.underlying 81=some (.struct (aj.fieldsOf 81)):=by
 simp only[jR,jY]
theorem ash:∃f1 f2 f3 f4 f5:nV,(aj.fieldsOf 81).toList=[f1,f2,f3,f4,f5]/\(f1.name ≠ "_" /\ f2.name ≠ "_" /\ f3.name ≠ "_" /\ f4.name ≠ "_" /\ f5.name ≠ "_")/\(f1.type=27/\f1.offset=0)/\(f2.type=27/\f2.offset=17)/\(f3.type=3/\f3.offset=34)/\(f4.type=3/\f4.offset=35)/\(f5.type=3/\f5.offset=36):=by
 refine⟨_,_,_,_,_,by simp only[jR,jY];rfl,⟨?_,?_,?_,?_,?_⟩,⟨rfl,rfl⟩,⟨rfl,rfl⟩,⟨rfl,rfl⟩,⟨rfl,rfl⟩,⟨rfl,rfl⟩⟩<;>decide
theorem aaz(x y:Tu)(d:Nat)(W:au):(jl (d+4) 81 (.agg x.aA) (.agg y.aA)).run aj W=.ok (decide (x=y)) W:=by
 rw[zS W (d+3) _ _ _ akY Tryz.stoodInHeld81];obtain⟨f1,f2,f3,f4,f5,hl,⟨n1,n2,n3,n4,n5⟩,⟨t1,o1⟩,⟨t2,o2⟩,⟨t3,o3⟩,⟨t4,o4⟩,⟨t5,o5⟩⟩:=ash;rw[hl];have p1:∀z:Tu,(part f1.type z.aA f1.offset).run aj W=.ok (.agg z.src.aA) W:=fun z=>by
  rw[t1,o1,EP (n:=17) (by simp only[eZ]) (by kernel_rfl) z.aA 0 W,Tu.akV]
 have p2:∀z:Tu,(part f2.type z.aA f2.offset).run aj W=.ok (.agg z.dst.aA) W:=fun z=>by
  rw[t2,o2,EP (n:=17) (by simp only[eZ]) (by kernel_rfl) z.aA 17 W,show 17+17=34 from rfl,Tu.akW]
 have p3:∀z:Tu,(part f3.type z.aA f3.offset).run aj W=.ok (.int .i64 z.aQ) W:=fun z=>by
  rw[t3,o3];exact pJ (by simp only[gQ]) (Tu.WR z) W
 have p4:∀z:Tu,(part f4.type z.aA f4.offset).run aj W=.ok (.int .i64 z.kU) W:=fun z=>by
  rw[t4,o4];exact pJ (by simp only[gQ]) (Tu.aha z) W
 have p5:∀z:Tu,(part f5.type z.aA f5.offset).run aj W=.ok (.int .i64 z.j4) W:=fun z=>by
  rw[t5,o5];exact pJ (by simp only[gQ]) (Tu.ab9 z) W
 rw[show decide (x=y)=(decide (x.src=y.src)&&(decide (x.dst=y.dst)&&((x.aQ==y.aQ)&&((x.kU==y.kU)&&((x.j4==y.j4)&&true)))))by
  rw[cO];cases x;cases y;simp]
 exact iN _ _ _ _ _ n1 W _ _ _ _ (p1 x) (p1 y) (by rw[t1];exact GD _ _ d W)
  (iN _ _ _ _ _ n2 W _ _ _ _ (p2 x) (p2 y) (by rw[t2];exact GD _ _ d W)
  (iN _ _ _ _ _ n3 W _ _ _ _ (p3 x) (p3 y) (by rw[t3];exact Gp _ _ _ W)
  (iN _ _ _ _ _ n4 W _ _ _ _ (p4 x) (p4 y) (by rw[t4];exact Gp _ _ _ W)
  (iN _ _ _ _ _ n5 W _ _ _ _ (p5 x) (p5 y) (by rw[t5];exact Gp _ _ _ W) (by simp[wM])))))
@[go_sem ↓]theorem aLF(x y:Tu)(W:au):(jl 10000 81 (.agg x.aA) (.agg y.aA)).run aj W=.ok (decide (x=y)) W:=aaz x y 9996 W
theorem akZ:aj.underlying 86=some (.struct (aj.fieldsOf 86)):=by
 simp only[jR,mX]
theorem asi:∃f1 f2 f3 f4 f5:nV,(aj.fieldsOf 86).toList=[f1,f2,f3,f4,f5]/\(f1.name ≠ "_" /\ f2.name ≠ "_" /\ f3.name ≠ "_" /\ f4.name ≠ "_" /\ f5.name ≠ "_")/\(f1.type=81/\f1.offset=0)/\(f2.type=9/\f2.offset=37)/\(f3.type=3/\f3.offset=38)/\(f4.type=3/\f4.offset=39)/\(f5.type=3/\f5.offset=40):=by
 refine⟨_,_,_,_,_,by simp only[jR,mX];rfl,⟨?_,?_,?_,?_,?_⟩,⟨rfl,rfl⟩,⟨rfl,rfl⟩,⟨rfl,rfl⟩,⟨rfl,rfl⟩,⟨rfl,rfl⟩⟩<;>decide
theorem ak0(x y:Fw)(d:Nat)(W:au):(jl (d+5) 86 (.agg x.aA) (.agg y.aA)).run aj W=.ok (decide (x=y)) W:=by
 rw[zS W (d+4) _ _ _ akZ Tryz.stoodInHeld86];obtain⟨f1,f2,f3,f4,f5,hl,⟨n1,n2,n3,n4,n5⟩,⟨t1,o1⟩,⟨t2,o2⟩,⟨t3,o3⟩,⟨t4,o4⟩,⟨t5,o5⟩⟩:=asi;rw[hl];have p1:∀z:Fw,(part f1.type z.aA f1.offset).run aj W=.ok (.agg z.key.aA) W:=fun z=>by
  rw[t1,o1,EP (n:=37) (by simp only[jY]) (by kernel_rfl) z.aA 0 W,bB,Fw.Tj]
 have p2:∀z:Fw,(part f2.type z.aA f2.offset).run aj W=.ok (.string (bV z.name)) W:=fun z=>by
  rw[t2,o2];exact pJ (by simp only[Tryz.underlying9]) (Fw.ahb z) W
 have p3:∀z:Fw,(part f3.type z.aA f3.offset).run aj W=.ok (.int .i64 z.xU) W:=fun z=>by
  rw[t3,o3];exact pJ (by simp only[gQ]) (Fw.ahc z) W
 have p4:∀z:Fw,(part f4.type z.aA f4.offset).run aj W=.ok (.int .i64 z.seen) W:=fun z=>by
  rw[t4,o4];exact pJ (by simp only[gQ]) (Fw.ahd z) W
 have p5:∀z:Fw,(part f5.type z.aA f5.offset).run aj W=.ok (.int .i64 z.no) W:=fun z=>by
  rw[t5,o5];exact pJ (by simp only[gQ]) (Fw.aca z) W
 rw[show decide (x=y)=(decide (x.key=y.key)&&((x.name==y.name)&&((x.xU==y.xU)&&((x.seen==y.seen)&&((x.no==y.no)&&true)))))by
  rw[cO];cases x;cases y;simp]
 exact iN _ _ _ _ _ n1 W _ _ _ _ (p1 x) (p1 y) (by rw[t1];exact aaz _ _ d W)
  (iN _ _ _ _ _ n2 W _ _ _ _ (p2 x) (p2 y) (by rw[t2];exact Qx _ _ _ W)
  (iN _ _ _ _ _ n3 W _ _ _ _ (p3 x) (p3 y) (by rw[t3];exact Gp _ _ _ W)
  (iN _ _ _ _ _ n4 W _ _ _ _ (p4 x) (p4 y) (by rw[t4];exact Gp _ _ _ W)
  (iN _ _ _ _ _ n5 W _ _ _ _ (p5 x) (p5 y) (by rw[t5];exact Gp _ _ _ W) (by simp[wM])))))
@[go_sem ↓]theorem aLG(x y:Fw)(W:au):(jl 10000 86 (.agg x.aA) (.agg y.aA)).run aj W=.ok (decide (x=y)) W:=ak0 x y 9995 W
def ahn(s t:qK):Bool:=VZ s.mq s.sW t.mq t.sW&&decide (s.nP=t.nP)&&decide (s.sN=t.sN)&&(s.gN==t.gN)&&(s.no==t.no)&&decide (s.mg=t.mg)
theorem asj(l m:List Hl)(A B:Option aU)(n k c d:Nat)(w:au)(hR:RdH w w.heap.size A n l)(hT:RdH w w.heap.size B k m)(hn:n<=4611686018427387904)(hk:k<=4611686018427387904):
 aR aj 54 #[.slice A n c,.slice B k d] w (gP w (.bool (decide (l=m)))):=by
 have HR:=ah hR;have HT:=ah hT;have HN:=ah hR.1;have HK:=ah hT.1;clear hR hT;by_cases hlm:n=k;rotate_left
 ·have pY:((n:Int) != (k:Int))=true:=by rw[bne_iff_ne];omega
  have HF:=ah (show decide (l=m)=false from decide_eq_false (fun e=>hlm (by rw[<-HN.out,<-HK.out,e])));clear hlm;go_enter Tryz.func54,Tryz.ntmps54;go_wp2;go_ret;exact⟨by rw[HF.out];rfl,aH _ _⟩
 subst hlm;have hbn:((n:Int) != (n:Int))=false:=by simp
 go_enter Tryz.func54,Tryz.ntmps54;go_wp2;go_loopw [13] (fun s5 wr=>∃i:Nat,i<=n/\s5=.int .i64 i/\l.take i=m.take i/\aN w.heap.size w wr) (fun s5 _=>n-(intOf s5).toNat)
 case atStart=>exact⟨0,by omega,rfl,rfl,aH _ _⟩
 case round=>
  obtain⟨i,wW,rfl,mV,hb⟩:=hrel;have HA:=ah mV;have HB:=ah hb;clear mV hb;by_cases fP:i<n
  ·have hi:(i:Int)<n:=by omega
   obtain⟨b,o,rfl,Cb,hh,hc,_,_⟩:=(HR.out.below HB.out).hl fP;obtain⟨b2,o2,rfl,adW,hh2,VY,_,_⟩:=(HT.out.below HB.out).hl fP;obtain⟨x,hx⟩:∃x,x=l.getD i lG:=⟨_,rfl⟩
   obtain⟨y,hy⟩:∃y,y=m.getD i lG:=⟨_,rfl⟩
   rw[<-hx]at hc;rw[<-hy]at VY;have HX:=ah hx;have HY:=ah hy;clear hx hy Cb adW;by_cases hq:x=y
   ·have he:aj5 x y=true:=by rw[aiC];simpa using hq
    have HS:=ah (show l.take (i+1)=m.take (i+1)by
     rw[<-oK lG l i (by rw[HN.out];exact fP),<-oK lG m i (by rw[HK.out];exact fP),HA.out,<-HX.out,<-HY.out,hq])
    clear hq;go_wp2;go_quiet (fail);go_wp2;go_roundw
    case rel=>exact⟨i+1,by omega,by go_num,HS.out,fI HB.out _⟩
    case measure=>simp[intOf]<;>omega
   ·have he:aj5 x y=false:=by rw[aiC];simpa using hq
    have HF:=ah (show decide (l=m)=false from decide_eq_false (fun e=>hq (by rw[HX.out,HY.out,e])));clear hq;go_wp2;go_quiet (fail);go_wp2;go_ret;exact⟨by rw[HF.out];rfl,fI HB.out _⟩
  ·obtain rfl:i=n:=by omega
   have hd:decide ((i:Int)<i)=false:=by simp
   have HT2:=ah (show decide (l=m)=true from decide_eq_true (by
    have:=HA.out
    rwa [List.take_of_length_le (by rw[HN.out];omega),List.take_of_length_le (by rw[HK.out];omega)]at this))
   go_wp2;go_ret;exact⟨by rw[HT2.out];rfl,HB.out⟩
theorem asl(l m:List Fw)(A B:Option aU)(n k c d:Nat)(w:au)(hR:iO Fw.aA 41 w w.heap.size A n l)(hT:iO Fw.aA 41 w w.heap.size B k m)(hn:n<=4611686018427387904)(hk:k<=4611686018427387904):
 aR aj 55 #[.slice A n c,.slice B k d] w (gP w (.bool (decide (l=m)))):=by
 have HR:=ah hR;have HT:=ah hT;have HN:=ah hR.1;have HK:=ah hT.1;clear hR hT;by_cases hlm:n=k;rotate_left
 ·have pY:((n:Int) != (k:Int))=true:=by rw[bne_iff_ne];omega
  have HF:=ah (show decide (l=m)=false from decide_eq_false (fun e=>hlm (by rw[<-HN.out,<-HK.out,e])));clear hlm;go_enter Tryz.func55,Tryz.ntmps55;go_wp2;go_ret;exact⟨by rw[HF.out];rfl,aH _ _⟩
 subst hlm;have hbn:((n:Int) != (n:Int))=false:=by simp
 go_enter Tryz.func55,Tryz.ntmps55;go_wp2;go_loopw [13] (fun s5 wr=>∃i:Nat,i<=n/\s5=.int .i64 i/\l.take i=m.take i/\aN w.heap.size w wr) (fun s5 _=>n-(intOf s5).toNat)
 case atStart=>exact⟨0,by omega,rfl,rfl,aH _ _⟩
 case round=>
  obtain⟨i,wW,rfl,mV,hb⟩:=hrel;have HA:=ah mV;have HB:=ah hb;clear mV hb;by_cases fP:i<n
  ·have hi:(i:Int)<n:=by omega
   obtain⟨b,o,rfl,Cb,hh,hc⟩:=iO.fw (HR.out.below HB.out) fP;obtain⟨b2,o2,rfl,adW,hh2,VY⟩:=iO.fw (HT.out.below HB.out) fP;obtain⟨x,hx⟩:∃x,x=l.getD i kQ:=⟨_,rfl⟩
   obtain⟨y,hy⟩:∃y,y=m.getD i kQ:=⟨_,rfl⟩
   rw[<-hx]at hc;rw[<-hy]at VY;have HX:=ah hx;have HY:=ah hy;clear hx hy Cb adW;by_cases hq:x=y
   ·have he:decide (x=y)=true:=by simpa using hq
    have HS:=ah (show l.take (i+1)=m.take (i+1)by
     rw[<-oK kQ l i (by rw[HN.out];exact fP),<-oK kQ m i (by rw[HK.out];exact fP),HA.out,<-HX.out,<-HY.out,hq])
    clear hq;go_wp2;go_quiet (fail);go_wp2;go_roundw
    case rel=>exact⟨i+1,by omega,by go_num,HS.out,fI HB.out _⟩
    case measure=>simp[intOf]<;>omega
   ·have he:decide (x=y)=false:=by simpa using hq
    have HF:=ah (show decide (l=m)=false from decide_eq_false (fun e=>hq (by rw[HX.out,HY.out,e])));clear hq;go_wp2;go_quiet (fail);go_wp2;go_ret;exact⟨by rw[HF.out];rfl,fI HB.out _⟩
  ·obtain rfl:i=n:=by omega
   have hd:decide ((i:Int)<i)=false:=by simp
   have HT2:=ah (show decide (l=m)=true from decide_eq_true (by
    have:=HA.out
    rwa [List.take_of_length_le (by rw[HN.out];omega),List.take_of_length_le (by rw[HK.out];omega)]at this))
   go_wp2;go_ret;exact⟨by rw[HT2.out];rfl,HB.out⟩
theorem ak1(l m:List Bk)(hf:∀x∈l,x.ru)(hg:∀x∈m,x.ru)(v v':Int)(A B:Option aU)(n n' c d:Nat)(w:au)(hR:iO Bk.aA 27 w w.heap.size A n l)(hT:iO Bk.aA 27 w w.heap.size B n' m)(hn:n<=4611686018427387903)(hm:n'<=4611686018427387903)(K:Bool)(hK:VZ v l v' m=K):
 aR aj 53 #[.agg #[.int .i64 v,.slice A n c],.agg #[.int .i64 v',.slice B n' d]] w (gP w (.bool K)):=by
 rw[<-akv v v' hf hg]at hK;subst hK;obtain rfl:=hR.1;obtain rfl:=hT.1;exact abB l m v v' A B c d w hR hT (by omega) (by omega)
theorem Tm(s:qK):ahn s s=true:=by unfold ahn;simp[agA]
theorem W9(x y:Sh)(s t:qK)(w:au)(h:StR w w.heap.size x s)(k:StR w w.heap.size y t)(J:Bool)(hJ:ahn s t=J):
 aR aj 17 #[.agg x.aA,.agg y.aA] w (gP w (.bool J)):=by
 obtain⟨v1,⟨bA,bn,bc⟩,⟨gA,gn,gc⟩,⟨fA,fn,fc⟩,tk,nn,ct⟩:=x;obtain⟨v2,⟨bA2,bn2,bc2⟩,⟨gA2,gn2,gc2⟩,⟨fA2,fn2,fc2⟩,tk2,nn2,ct2⟩:=y;obtain rfl:v1=s.mq:=h.mq;obtain rfl:tk=s.gN:=h.gN;obtain rfl:nn=s.no:=h.no;obtain rfl:ct=s.mg:=h.mg;obtain rfl:v2=t.mq:=k.mq;obtain rfl:tk2=t.gN:=k.gN;obtain rfl:nn2=t.no:=k.no;obtain rfl:ct2=t.mg:=k.mg;obtain⟨W1,hW1⟩:∃W1,W1=(w.alloc (.cells (Sh.mk s.mq ⟨bA,bn,bc⟩ ⟨gA,gn,gc⟩ ⟨fA,fn,fc⟩ s.gN s.no s.mg).aA 37)).alloc (.cells (Sh.mk t.mq ⟨bA2,bn2,bc2⟩ ⟨gA2,gn2,gc2⟩ ⟨fA2,fn2,fc2⟩ t.gN t.no t.mg).aA 37):=⟨_,rfl⟩
 have vV:=ah (show aN w.heap.size w W1 by rw[hW1];exact((aH w.heap.size w).alloc (ay _) _).alloc (by simp) _);have B0:=ah (show dL W1 w.heap.size (Sh.mk s.mq ⟨bA,bn,bc⟩ ⟨gA,gn,gc⟩ ⟨fA,fn,fc⟩ s.gN s.no s.mg).aA by rw[hW1];exact(dL.new w _ _).alloc _);have C0:=ah (show dL W1 (w.heap.size+1) (Sh.mk t.mq ⟨bA2,bn2,bc2⟩ ⟨gA2,gn2,gc2⟩ ⟨fA2,fn2,fc2⟩ t.gN t.no t.mg).aA by rw[hW1];exact dL.Vv w _ _ _);have HS:=ah h;have HT:=ah k;obtain⟨x1,x2,x3,x4⟩:=B0.out.aI;have Zz:=B0.out.lt;obtain⟨y1,y2,y3,y4⟩:=C0.out.aI;have hl1:=C0.out.lt;obtain⟨K1,Od⟩:∃K,VZ s.mq s.sW t.mq t.sW=K:=⟨_,rfl⟩
 obtain⟨K2,Gd⟩:∃K,decide (s.nP=t.nP)=K:=⟨_,rfl⟩
 obtain⟨K3,hK3⟩:∃K,decide (s.sN=t.sN)=K:=⟨_,rfl⟩
 have HJ:=ah (show J=(K1&&K2&&K3&&(s.gN==t.gN)&&(s.no==t.no)&&decide (s.mg=t.mg))by rw[<-hJ,<-Od,<-Gd,<-hK3];rfl);have P1:=ah (ak1 s.sW t.sW h.ru k.ru s.mq t.mq bA bA2 bn bn2 bc bc2 W1 ((h.go vV.out).b) ((k.go vV.out).b) h.nb k.nb K1 Od);have P2:=ah (fun W (hb:aN w.heap.size w W)=>asj s.nP t.nP gA gA2 gn gn2 gc gc2 W (HS.out.h.go hb) (HT.out.h.go hb) (Nat.le_succ_of_le HS.out.nh) (Nat.le_succ_of_le HT.out.nh));have P3:=ah (fun W (hb:aN w.heap.size w W)=>asl s.sN t.sN fA fA2 fn fn2 fc fc2 W (HS.out.f.go hb) (HT.out.f.go hb) (Nat.le_succ_of_le HS.out.nf) (Nat.le_succ_of_le HT.out.nf));rw[Gd]at P2;rw[hK3]at P3;clear h k Od Gd hK3 hJ;subst hW1;go_enter Tryz.func17,Tryz.ntmps17;go_wp2_with fail
 (with_reducible refine P1.out.mono ?_)
 rintro e w1 ⟨rfl,gI⟩;have qd:=ah (ji vV.out gI);have B1:=ah (B0.out.go gI);have C1:=ah (C0.out.go gI);clear gI x1 x2 x3 x4 Zz y1 y2 y3 y4 hl1;obtain⟨x1,x2,x3,x4⟩:=B1.out.aI;have Zz:=B1.out.lt;obtain⟨y1,y2,y3,y4⟩:=C1.out.aI;have hl1:=C1.out.lt;cases K1
 ·go_wp2
  go_ret;exact⟨by rw[HJ.out];rfl,qd.out⟩
 go_wp2_with fail
 (with_reducible refine(P2.out _ qd.out).mono ?_)
 rintro e w2 ⟨rfl,kF⟩;have ze:=ah (ji qd.out kF);have B2:=ah (B1.out.go kF);have C2:=ah (C1.out.go kF);clear kF x1 x2 x3 x4 Zz y1 y2 y3 y4 hl1;obtain⟨x1,x2,x3,x4⟩:=B2.out.aI;have Zz:=B2.out.lt;obtain⟨y1,y2,y3,y4⟩:=C2.out.aI;have hl1:=C2.out.lt;cases K2
 ·go_wp2
  go_ret;exact⟨by rw[HJ.out];rfl,ze.out⟩
 go_wp2_with fail
 (with_reducible refine(P3.out _ ze.out).mono ?_)
 rintro e w3 ⟨rfl,uH⟩;have HB3:=ah (ji ze.out uH);have B3:=ah (B2.out.go uH);have C3:=ah (C2.out.go uH);clear uH x1 x2 x3 x4 Zz y1 y2 y3 y4 hl1;obtain⟨x1,x2,x3,x4⟩:=B3.out.aI;have Zz:=B3.out.lt;obtain⟨y1,y2,y3,y4⟩:=C3.out.aI;have hl1:=C3.out.lt;cases K3
 ·go_wp2
  go_ret;exact⟨by rw[HJ.out];rfl,HB3.out⟩
 obtain⟨K4,hK4⟩:∃K,(s.gN==t.gN)=K:=⟨_,rfl⟩
 have HK4:=ah hK4;cases K4
 ·go_wp2
  go_ret;exact⟨by rw[HJ.out,HK4.out];rfl,HB3.out⟩
 obtain⟨K5,hK5⟩:∃K,(s.no==t.no)=K:=⟨_,rfl⟩
 have HK5:=ah hK5;cases K5
 ·go_wp2
  go_ret;exact⟨by rw[HJ.out,HK4.out,HK5.out];rfl,HB3.out⟩
 go_wp2;go_ret;exact⟨by rw[HJ.out,HK4.out,HK5.out];rfl,HB3.out⟩
section
theorem asn{a b:Tu}(ha:aaw a)(hb:aaw b)(h:NA a=NA b):a=b:=by
 have h1:=aou.fwd a [] ha;have h2:=aou.fwd b [] hb;rw[h,h2]at h1;injection h1 with h3 h4
 injection h3 with h5 h6
 exact h5.symm
theorem xg{f:Fw}(h:Eo f=true):Gz f.key=true:=by
 unfold Eo at h;simp only[bl]at h;exact h.1.1.1.1.1
def lJ(a b:Fw):Bool:=if a.no=b.no then bT (NA a.key) (NA b.key)else decide (a.no<b.no)
theorem tY:Jw lJ:=by
 refine⟨fun x=>by simp[lJ,sP],fun x y z h1 h2=>?_⟩;unfold lJ at *;by_cases e1:x.no=y.no
 ·rw[if_pos e1]at h1
  by_cases e2:y.no=z.no
  ·rw[if_pos e2]at h2
   rw[if_pos (e1.trans e2)];exact yK _ _ _ h1 h2
  ·rw[if_neg e2]at h2
   rw[if_neg (by omega)];simp only[decide_eq_true_eq]at h2 ⊢;omega
 ·rw[if_neg e1]at h1
  simp only[decide_eq_true_eq]at h1;by_cases e2:y.no=z.no
  ·rw[if_neg (by omega)]
   simp only[decide_eq_true_eq];omega
  ·rw[if_neg e2]at h2
   simp only[decide_eq_true_eq]at h2;rw[if_neg (by omega)];simp only[decide_eq_true_eq];omega
theorem Tp{a b:Fw}(ha:aaw a.key)(hb:aaw b.key)(pY:a.key≠b.key):lJ a b=true\/lJ b a=true:=by
 unfold lJ;by_cases e:a.no=b.no
 ·rw[if_pos e,if_pos e.symm]
  cases h1:bT (NA a.key) (NA b.key)
  ·cases h2:bT (NA b.key) (NA a.key)
   ·exact absurd (asn ha hb (Ai _ _ h1 h2)) pY
   ·exact .inr rfl
  ·exact .inl rfl
 ·rw[if_neg e,if_neg (jm e)]
  simp only[decide_eq_true_eq];omega
def uo(k:Tu)(x:Fw):Bool:=decide (x.key=k)
def pW(l:List Fw)(k:Tu):Option Fw:=l.find? (uo k)
def zo(l:List Fw)(k:Tu):List Fw:=l.filter fun x=>!uo k x
def Er(dR:Int)(l:List Fw)(f:Fw):List Fw:=
 if Eo f then(if(pW l f.key).isSome then ins lJ f (zo l f.key)else if dR<=l.length then ins lJ f l.tail else ins lJ f l)else l
def MW(now:Int)(kC:Vector Int 6)(l:List Fw):List Fw:=l.filter fun x=>!Ep x.xU x.seen now kC
structure wS(dR:Int)(l:List Fw):Prop where
 asc:Asc lJ l
 one:l.Pairwise fun x y=>x.key≠y.key
 ok:∀x∈l,Eo x=true
 len:(l.length:Int)<=dR
theorem wS.sub{dR:Int}{l m:List Fw}(h:wS dR l)(hs:m.Sublist l):wS dR m:=
 ⟨h.asc.sub hs,h.one.sublist hs,fun x hx=>h.ok x (hs.subset hx),by have:=hs.length_le;have:=h.len;omega⟩
theorem wS.nil{dR:Int}(h:0<=dR):wS dR []:=⟨List.Pairwise.nil,.nil,(fun x hx=>by cases hx),by simpa using h⟩
theorem xY{l:List Fw}{k:Tu}{x:Fw}(h:pW l k=some x):x∈l/\x.key=k:=by
 unfold pW at h;exact⟨List.mem_of_find?_eq_some h,by simpa[uo]using List.find?_some h⟩
theorem BR{l:List Fw}{k:Tu}(h:pW l k=none):∀x∈l,x.key≠k:=by
 unfold pW at h;rw[List.find?_eq_none]at h;intro x hx e;exact h x hx (by simp[uo,e])
theorem wS.Xa{dR:Int}{l:List Fw}(h:wS dR l){x:Fw}(hx:x∈l):pW l x.key=some x:=by
 cases hf:pW l x.key with
 | none=>exact absurd rfl (BR hf x hx)
 | some y=>
   obtain⟨h1,h2⟩:=xY hf;obtain⟨i,hi,e1⟩:=kS.1 h1;obtain⟨j,hj,e2⟩:=kS.1 hx;have:=List.pairwise_iff_getElem.1 h.one;rcases Nat.lt_trichotomy i j with SE|SE|SE
   ·exact absurd (by rw[e1,e2,h2]) (this i j hi hj SE)
   ·subst SE;rw[<-e1,<-e2]
   ·exact absurd (by rw[e1,e2,h2]) (this j i hj hi SE)
theorem wS.ins{dR:Int}{l:List Fw}(h:wS dR l){f:Fw}(hf:Eo f=true)(hn:∀x∈l,x.key≠f.key)(hl:(l.length:Int)+1<=dR):wS dR (ins lJ f l):=by
 have p:=Cj (lt:=lJ) f l;refine⟨aiL tY h.asc (fun x hx=>Tp (OZ (xg hf)) (OZ (xg (h.ok x hx))) (jm (hn x hx))),?_,?_,?_⟩
 ·refine(p.pairwise_iff (fun{a b} (EH:a.key≠b.key)=>jm EH)).2 (gL.2 ⟨fun x hx=>jm (hn x hx),h.one⟩)
 ·intro x hx
  rcases bD.1 (p.subset hx)with rfl|hx
  ·exact hf
  ·exact h.ok x hx
 ·rw[p.length_eq,List.length_cons]
  simpa using hl
theorem acm(l:List Fw)(k:Tu):(zo l k).Sublist l:=List.filter_sublist
theorem awL{l:List Fw}{k:Tu}:∀x∈zo l k,x.key≠k:=by
 intro x hx;have:=(mh.1 hx).2;simpa[uo]using this
theorem aso{l:List Fw}{k:Tu}(h:(pW l k).isSome=true):(zo l k).length+1<=l.length:=by
 obtain⟨x,hx⟩:=Option.isSome_iff_exists.1 h;obtain⟨h1,h2⟩:=xY hx;have:=List.length_filter_lt_length_iff_exists (l:=l) (p:=fun x=>!uo k x);exact this.2 ⟨x,h1,by simp[uo,h2]⟩
theorem wS.put{dR:Int}{l:List Fw}(h:wS dR l)(h0:1<=dR)(f:Fw):wS dR (Er dR l f):=by
 unfold Er;split
 ·rename_i hf
  split
  ·rename_i hs
   have:=aso hs;have:=h.len;exact(h.sub (acm l f.key)).ins hf awL (by omega)
  ·rename_i hs
   have uU:∀x∈l,x.key≠f.key:=BR (by simpa using hs);split
   ·refine(h.sub (List.tail_sublist l)).ins hf (fun x hx=>uU x (List.mem_of_mem_tail hx)) ?_
    have:=h.len;rw[List.length_tail];omega
   ·exact h.ins hf uU (by omega)
 ·exact h
theorem wS.aBo{dR:Int}{l:List Fw}(h:wS dR l)(now:Int)(kC:Vector Int 6):wS dR (MW now kC l):=h.sub List.filter_sublist
structure TbR(hm:Tu->Nat)(s:List (Option Fw))(l:List Fw):Prop where
 tab:Tab Fw.key hm s
 QJ:(iw s).Perm l
variable {hm:Tu->Nat} {s:List (Option Fw)} {l:List Fw}
theorem TbR.mem(h:TbR hm s l){x:Fw}:x∈l↔∃i,i<s.length/\fE s i=some x:=(h.QJ.mem_iff.symm).trans QI
theorem TbR.stop{dR:Int}(h:TbR hm s l)(ho:wS dR l){k:Tu}{d:Nat}(hd:Found hm Fw.key s k d):fE s ((hm k+d)%s.length)=pW l k:=by
 have hN:0<s.length:=by have:=hd.1;omega
 cases hf:pW l k with
 | none=>
   have uU:=BR hf;obtain⟨e,he,h1⟩:=h.tab.aiK (k:=k) (fun j x hj hx=>uU x (h.mem.2 ⟨j,hj,hx⟩));rw[hd.IL he];exact h1
 | some x=>
   obtain⟨h1,h2⟩:=xY hf;obtain⟨j,hj,hx⟩:=h.mem.1 h1;obtain⟨e,he,h3⟩:=h.tab.abK hj hx h2;rw[hd.IL he,h3];exact hx
theorem TbR.new{N:Nat}(hN:0<N)(h:∀k,hm k<N):TbR hm (dU N none) []:=⟨Tab.new hN h,by rw[Wh]⟩
theorem Xb{dR:Int}(ho:wS dR l){x:Fw}(hx:x∈l){m:List Fw}(hm':l.Perm (x::m)):m.Perm (zo l x.key):=by
 have h1:(l.filter fun y=>!uo x.key y).Perm ((x::m).filter fun y=>!uo x.key y):=hm'.filter _;have e:(x::m).filter (fun y=>!uo x.key y)=m:=by
  rw[List.filter_cons_of_neg (by simp[uo])];refine xu.2 (fun y hy=>?_);have:=(hm'.pairwise_iff (fun{a b:Fw} (EH:a.key≠b.key)=>jm EH)).1 ho.one;have:=(gL.1 this).1 y hy;simp[uo,jm this]
 rw[e]at h1;exact h1.symm
theorem TbR.put{dR:Int}(h:TbR hm s l)(ho:wS dR l){f:Fw}{d:Nat}(hd:Found hm Fw.key s f.key d)(hl:l.length+1<s.length)(m:List Fw)(hm':m.Perm (f::zo l f.key)):TbR hm (s.set ((hm f.key+d)%s.length) (some f)) m:=by
 have hN:0<s.length:=by omega
 have hj:(hm f.key+d)%s.length<s.length:=Nat.mod_lt _ hN;have yZ:=h.stop ho hd;have Pf:=fun fP=>(MG s).1 fP
 have hel:=h.QJ.length_eq;cases hf:pW l f.key with
 | none=>
   rw[hf]at yZ;have hc:zo l f.key=l:=xu.2 (fun x hx=>by have:=BR hf x hx;simp[uo,this]);have he:=MF s _ f hj yZ;obtain⟨z,nu,wX⟩:=(MG (s.set ((hm f.key+d)%s.length) (some f))).1 (by rw[he.length_eq];simp;omega);rw[GI _ _ _ _ hj]at wX;split at wX
   ·cases wX
   rename_i pY;refine⟨h.tab.put hd (by simpa using nu) wX (jm pY),he.trans (((h.QJ.cons f)).trans ?_)⟩;rw[hc]at hm';exact hm'.symm
 | some x=>
   rw[hf]at yZ;obtain⟨h1,h2⟩:=xY hf;obtain⟨z,nu,wX⟩:=Pf (by omega);refine⟨h.tab.put hd nu wX (fun e=>by rw[e,yZ]at wX;cases wX),?_⟩;have e1:=zL s _ f hj;have e2:=QH s _ x hj yZ;have e3:=Xb ho h1 (h.QJ.symm.trans e2);rw[h2]at e3;exact e1.trans ((e3.cons f).trans hm'.symm)
theorem ak2{dR:Int}(h:TbR hm s l)(ho:wS dR l):(iw s).foldl (least lJ) none=l.head?:=by
 cases l with
 | nil=>
   have:=h.QJ.length_eq;rw[List.length_nil]at this;rw[List.eq_nil_of_length_eq_zero this];rfl
 | cons m t=>
   rw[List.head?_cons];refine ad8 tY (iw s) none (.inl (h.QJ.symm.subset (by simp))) (fun x hx=>?_) (fun y hy=>by cases hy);rcases bD.1 (h.QJ.subset hx)with rfl|hx
   ·exact .inl rfl
   ·exact .inr (ho.asc.ary hx)
theorem aow{dR:Int}{x:Fw}{t:List Fw}(ho:wS dR (x::t)):zo (x::t) x.key=t:=by
 unfold zo;rw[List.filter_cons_of_neg (by simp[uo])];refine xu.2 (fun y hy=>?_);have:=(gL.1 ho.one).1 y hy;simp[uo,jm this]
end
structure oV(T:bM)(n:Nat)(z:Array aC):Prop where
 row:∃d,aj.underlying T=some d/\d.isRow=true
 size:(aj.info? T).map (·.size)=some n
 zero:(aj.info? T).map (·.zero)=some (some (.agg z))
 zs:z.size=n
def yt(T:bM)(v:aC):xO aC:=bZ T v
def zW(T:bM)(v x:aC):xO Unit:=eD T v x
def uW(T:bM)(ps:Array (Nat×aC)):xO aC:=fJ T ps
def gT(W:au)(b o:Nat)(c:Array aC):au:=W.setCells b o c.toList
section
variable {T:bM} {n:Nat} {z:Array aC}
theorem oV.ahp(K:oV T n z):∃i,aj.info? T=some i/\i.size=n/\i.zero=some (.agg z):=by
 have h1:=K.size;have h2:=K.zero;cases h:aj.info? T with
 | none=>rw[h]at h1;cases h1
 | some i=>rw[h]at h1 h2;simp at h1 h2;exact⟨i,rfl,h1,h2⟩
theorem oV.ld(K:oV T n z)(W:au)(b o:Nat)(h:xS W b o n):(yt T (.pointer (some ⟨b,o,none⟩))).run aj W=.ok (.agg (dY W b o n)) W:=by
 obtain⟨d,h1,h2⟩:=K.row;exact ko W b o n T d h1 h2 K.size h
theorem oV.stN(K:oV T n z)(W:au)(c x:Array aC)(b:Nat)(hb:b=W.heap.size)(hc:eu c=n)(hx:x.size=n)(h1:x.all (·.oneCell')=true):(zW T (.pointer (some ⟨b,0,none⟩)) (.agg x)).run aj (W.alloc (.cells c T))=.ok () (W.alloc (.cells x T)):=by
 subst hb;exact zH W _ c x (by rw[hx];exact K.size) (by rw[hx];exact hc) h1
theorem oV.st(K:oV T n z)(W:au)(b o:Nat)(x:Array aC)(h:W.there b o n)(hx:x.size=n)(h1:x.all (·.oneCell')=true):(zW T (.pointer (some ⟨b,o,none⟩)) (.agg x)).run aj W=.ok () (gT W b o x):=
 EF W b o _ x (by rw[hx];exact h) (by rw[hx];exact K.size) h1
theorem oV.bd(K:oV T n z)(W:au)(ps:Array (Nat×aC))(cells:Array aC)(fs:Array nV)(places:Array (Nat×Nat))(hu:aj.underlying T=some (.struct fs))
 (hp:(iB (fun f=>Prod.mk f.offset <$> sizeOf f.type) fs:xO (Array (Nat×Nat))).run aj W=.ok places W) (hf:fB (places[·]?) z ps.toList=some cells):(uW T ps).run aj W=.ok (.agg cells) W:=by
 obtain⟨i,h1,h2,h3⟩:=K.ahp;exact Qu W T fs i z ps cells places hu h1 h3 hp hf
end
theorem lq{w W:au}{B:Nat}(h:aN B w W)(b o:Nat)(x:Array aC)(hb:B<=b):aN B w (gT W b o x):=yB hb _ o W h
theorem lS{w W:au}{g:Nat}(h:w.grownBy W (some g))(o:Nat)(x:Array aC):w.grownBy (gT W g o x) (some g):=Vz _ o W h
theorem dL.put{W:au}{b:Nat}{c:Array aC}(h:dL W b c)(x:Array aC)(hx:x.size=c.size):dL (gT W b 0 x) b x:=h.amU x hx
theorem dL.gD{W:au}{b b2 o:Nat}{c x:Array aC}(h:dL W b c)(pY:b≠b2):dL (gT W b2 o x) b c:=by
 have:∀(vs:List aC)(o:Nat)(W:au),dL W b c->dL (W.setCells b2 o vs) b c:=by
  intro vs
  induction vs with
  | nil=>exact fun _ _ h=>h
  | cons v vs ih=>intro o W h;exact ih (o+1) _ (h.dM _ v (fun e=>pY e.symm))
 exact this _ _ _ h
def rU(place:Nat->Option (Nat×Nat)):Nat->List (Nat×aC)->Nat->Prop
 | off,[],n=>off=n
 | off,(i,v)::ps,n=>place i=some (off,v.cells.size)/\rU place (off+v.cells.size) ps n
def qY:List (Nat×aC)->Array aC
 | []=>#[]
 | (_,v)::ps=>v.cells++qY ps
theorem Xc(p r v:Array aC)(h:v.size<=r.size):sJ (p++r) p.size v=(p++v)++r.extract v.size r.size:=by
 apply dV;intro j;rw[EL];simp only[nW,aG,Array.getElem?_extract];split
 ·rename_i h1
  rw[if_pos (by omega),if_neg (by omega)]
 ·rename_i h1
  split
  ·rename_i h2
   rw[if_pos (by omega)]
  ·rename_i h2
   by_cases h3:j<p.size+v.size
   ·omega
   ·rw[if_neg h3]
    by_cases h4:j-p.size<r.size
    ·rw[if_pos (by omega)];congr 1;omega
    ·rw[if_neg (by omega),aV (by omega)]
theorem U2(place:Nat->Option (Nat×Nat)):∀(ps:List (Nat×aC))(p r:Array aC),rU place p.size ps (p.size+r.size)->fB place (p++r) ps=some (p++qY ps)
 | [],p,r,h=>by
   have:r = #[]:=Array.eq_empty_of_size_eq_zero (by have h':p.size=p.size+r.size:=h;omega);subst this;simp[fB,qY]
 | (i,v)::ps,p,r,h=>by
   obtain⟨h1,h2⟩:=h;have hle:∀(ps:List (Nat×aC))(a b:Nat),rU place a ps b->a<=b:=by
    intro ps
    induction ps with
    | nil=>intro a b h;exact Nat.le_of_eq h
    | cons q ps ih=>intro a b h;have:=ih _ _ h.2;omega
   have hl:=hle _ _ _ h2;rw[EM place _ i p.size v.cells.size v ps h1 rfl (by rw[nW];omega),Xc p r v.cells (by omega)];have:=U2 place ps (p++v.cells) (r.extract v.cells.size r.size) (by
    rw[nW,jF]
    rwa [show p.size+v.cells.size+(min r.size r.size-v.cells.size)=p.size+r.size by omega])
   rw[this,qY,fT]
theorem vw{place:Nat->Option (Nat×Nat)}{ps:List (Nat×aC)}{z c:Array aC}{n:Nat}(hz:z.size=n)(h:rU place 0 ps n)(hc:qY ps=c):fB place z ps=some c:=by
 have:=U2 place ps #[] z (by simpa[hz]using h);simpa[hc]using this
theorem oV.bd0{T:bM}{n:Nat}{z:Array aC}(K:oV T n z)(W:au)(fs:Array nV)(hu:aj.underlying T=some (.struct fs))(hp:∃places,(iB (fun f=>Prod.mk f.offset <$> sizeOf f.type) fs:xO (Array (Nat×Nat))).run aj W=.ok places W):(uW T #[]).run aj W=.ok (.agg z) W:=by
 obtain⟨places,hp⟩:=hp;exact K.bd W _ _ fs places hu hp (by simp[fB])
theorem qj{c:Array aC}{n:Nat}(h:c.size=n):c.extract 0 n=c:=by rw[<-h];simp
theorem uq{c:Array aC}{k m:Nat}(h:c.size<=k):c.extract k m = #[]:=by apply Array.eq_empty_of_size_eq_zero;simp;omega
def Bv(v:Vector UInt8 6):Array aC:=(v.toList.map bv).toArray
def iU(v:Vector UInt8 16):Array aC:=(v.toList.map bv).toArray
theorem gG(v:Vector UInt8 6):(Bv v).size=6:=by simp[Bv]
theorem dK(v:Vector UInt8 16):(iU v).size=16:=by simp[iU]
theorem jJ(v:Vector Int 6):(Lp v).size=6:=by simp[Lp]
theorem acn(v:Vector UInt8 6):(Bv v).all (·.oneCell')=true:=by simp[Bv];intro x _;rfl
theorem asp(v:Vector Int 6):(Lp v).all (·.oneCell')=true:=by simp[Lp];intro x _;rfl
@[go_sem]theorem auQ:eB #[bQ false,aB,aB,aB,aB,aB,aB,aB,aB,aB,aB,aB,aB,aB,aB,aB,aB] 27=eB ng.aA 27:=rfl
@[go_sem]theorem azw:bY #[bQ false,aB,aB,aB,aB,aB,aB,aB,aB,aB,aB,aB,aB,aB,aB,aB,aB]=bY ng.aA:=rfl
theorem aco:oV 27 17 ng.aA:=⟨⟨_,eZ,rfl⟩,by kernel_rfl,by kernel_rfl,fu.ak _⟩
theorem kTu:oV 81 37 agu.aA:=⟨⟨_,jY,rfl⟩,by kernel_rfl,by kernel_rfl,Tu.ak _⟩
@[go_sem ↓]theorem aLI(v x:aC):eD 27 v x=zW 27 v x:=rfl
@[go_sem]theorem aEK(W:au)(c:Array aC)(x:fu)(b:Nat)(hb:b=W.heap.size)(hc:eu c=17):(zW 27 (.pointer (some ⟨b,0,none⟩)) (.agg x.aA)).run aj (W.alloc (.cells c 27))=.ok () (W.alloc (.cells x.aA 27)):=aco.stN W c x.aA b hb hc (fu.ak x) (fu.cB x)
@[go_sem]theorem aHz(W:au)(b o:Nat)(x:fu)(h:W.there b o 17):(zW 27 (.pointer (some ⟨b,o,none⟩)) (.agg x.aA)).run aj W=.ok () (gT W b o x.aA):=aco.st W b o x.aA h (fu.ak x) (fu.cB x)
@[go_sem]theorem fu.all(x:fu):x.aA.extract 0 17=x.aA:=qj (fu.ak x)
theorem auR(x:aC)(b:Array aC)(j:Nat):(#[x]++b)[j+1]? = b[j]?:=by simp[aG]
section
variable {T:bM} {n:Nat} {z:Array aC} {fn:Func} {p u:Tmp} {W:au} {b:Nat} {c:Array aC}
theorem oV.zM(K:oV T n z)(h:fn.results = #[.cell p T])(tmps:Array aC)(hp:tmps.getD p undef=.pointer (some ⟨b,0,none⟩))(hb:dL W b c)(hc:c.size=n):(results fn tmps).run aj W=.ok (.agg c) W:=by
 obtain⟨t,hb⟩:=hb;obtain⟨d,h1,h2⟩:=K.row;exact results_cell_row h tmps W b t c (0,0) d hp hb h1 (by cases d<;>simp_all[TypeDesc.isRow]) (by rw[hc];exact K.size)
theorem oV.qL(K:oV T n z)(h:fn.results = #[.cell p T,.tmp u])(tmps:Array aC)(hp:tmps.getD p undef=.pointer (some ⟨b,0,none⟩))(hb:dL W b c)(hc:c.size=n):(results fn tmps).run aj W=.ok (.tuple #[.agg c,tmps.getD u undef]) W:=by
 obtain⟨_,_,h3,h4⟩:=hb.aI;have hl:=K.ld W b 0 (by rw[h3 0 n (by unfold eu;omega)];trivial);rw[h4 0 n (by unfold eu;omega),bB,<-hc,Array.extract_size]at hl;unfold yt at hl;simp only[bZ,Instr.sureAddr,Sem.run_bind,Sem.run_pure,gK]at hl;rw[results_cell_tmp h,hp];simp[asAddr,iD,hl]
end
structure Vp where
 jk:fu
 aQ:Int
 nL:Int
 Xd:Bool
deriving DecidableEq
def Vp.aA(x:Vp):Array aC:=x.jk.aA ++ #[.int .i64 x.aQ,.int .i64 x.nL,.bool x.Xd]
theorem Vp.ak(x:Vp):x.aA.size=20:=by simp[Vp.aA,fu.ak]
theorem Vp.cB(x:Vp):x.aA.all (·.oneCell')=true:=gX (fu.cB _) ((by simp[cK]))
@[go_sem]theorem Vp.eu(x:Vp):eu x.aA=20:=Vp.ak x
@[go_sem]theorem Vp.all(x:Vp):x.aA.extract 0 20=x.aA:=by have:=Vp.ak x;rw[<-this];simp
@[go_sem]theorem Vp.DU(x:Vp):x.aA.extract 0 17=x.jk.aA:=by simp[Vp.aA,dA,fu.ak,qj,uq]
@[go_sem]theorem Vp.Cv(x:Vp):x.aA[17]? = some (.int .i64 x.aQ):=by simp[Vp.aA,aG,fu.ak]
@[go_sem]theorem Vp.KV(x:Vp):x.aA[18]? = some (.int .i64 x.nL):=by simp[Vp.aA,aG,fu.ak]
@[go_sem]theorem Vp.ak3(x:Vp):x.aA[19]? = some (.bool x.Xd):=by simp[Vp.aA,aG,fu.ak]
def oD:Vp:=⟨ng,0,0,false⟩
@[go_sem]theorem aBp:bY #[bQ false,aB,aB,aB,aB,aB,aB,aB,aB,aB,aB,aB,aB,aB,aB,aB,aB,bg,bg,bQ false]=bY oD.aA:=rfl
@[go_sem]theorem awN:eB #[bQ false,aB,aB,aB,aB,aB,aB,aB,aB,aB,aB,aB,aB,aB,aB,aB,aB,bg,bg,bQ false] 98=eB oD.aA 98:=rfl
theorem kVp:oV 98 20 oD.aA:=⟨⟨_,sw,rfl⟩,by kernel_rfl,by kernel_rfl,Vp.ak _⟩
@[go_sem ↓]theorem aPk(v:aC):bZ 98 v=yt 98 v:=rfl
@[go_sem ↓]theorem aPl(v x:aC):eD 98 v x=zW 98 v x:=rfl
@[go_sem]theorem aLJ(W:au)(b o:Nat)(h:xS W b o 20):(yt 98 (.pointer (some ⟨b,o,none⟩))).run aj W=.ok (.agg (dY W b o 20)) W:=kVp.ld W b o h
@[go_sem]theorem aHA(W:au)(c:Array aC)(x:Vp)(b:Nat)(hb:b=W.heap.size)(hc:eu c=20):(zW 98 (.pointer (some ⟨b,0,none⟩)) (.agg x.aA)).run aj (W.alloc (.cells c 98))=.ok () (W.alloc (.cells x.aA 98)):=kVp.stN W c x.aA b hb hc (Vp.ak x) (Vp.cB x)
@[go_sem]theorem aLK(W:au)(b o:Nat)(x:Vp)(h:W.there b o 20):(zW 98 (.pointer (some ⟨b,o,none⟩)) (.agg x.aA)).run aj W=.ok () (gT W b o x.aA):=kVp.st W b o x.aA h (Vp.ak x) (Vp.cB x)
@[go_sem ↓]theorem aPm(ps:Array (Nat×aC)):fJ 98 ps=uW 98 ps:=rfl
theorem aBq(w:au)(fs:Array nV)(h:aj.underlying 98=some (.struct fs)):(iB (fun f=>Prod.mk f.offset <$> sizeOf f.type) fs:xO (Array (Nat×Nat))).run aj w=.ok #[(0,17),(17,1),(18,1),(19,1)] w:=by
 have e:=sw;rw[h]at e;cases e;show _=_
 kernel_rfl
@[go_sem]theorem aHB(W:au):(uW 98 #[]).run aj W=.ok (.agg oD.aA) W:=kVp.bd0 W _ sw ⟨_,aBq W _ sw⟩
structure Cn where
 qO:Option aU
 iH:Nat
 qP:Nat
 size:Int
 dR:Int
 kC:Vector Int 6
 rise:Int
 fall:Int
 Gq:Vector UInt8 6
 Dt:fu
 j6:fu
 ahq:Int
 keep:Int
 Xe:Int
def Cn.aA(x:Cn):Array aC:=#[.slice x.qO x.iH x.qP,.int .i64 x.size,.int .i64 x.dR]++(Lp x.kC++(#[.int .i64 x.rise,.int .i64 x.fall]++(Bv x.Gq++(x.Dt.aA++(x.j6.aA ++ #[.int .i64 x.ahq,.int .i64 x.keep,.int .i64 x.Xe])))))
theorem Cn.ak(x:Cn):x.aA.size=54:=by simp[Cn.aA,fu.ak,gG,jJ]
theorem Cn.cB(x:Cn):x.aA.all (·.oneCell')=true:=gX ((by simp[cK])) (gX (asp _) (gX ((by simp[cK])) (gX (acn _) (gX (fu.cB _) (gX (fu.cB _) ((by simp[cK])))))))
@[go_sem]theorem Cn.eu(x:Cn):eu x.aA=54:=Cn.ak x
@[go_sem]theorem Cn.all(x:Cn):x.aA.extract 0 54=x.aA:=by have:=Cn.ak x;rw[<-this];simp
@[go_sem]theorem Cn.KW(x:Cn):x.aA[0]? = some (.slice x.qO x.iH x.qP):=by simp[Cn.aA,aG,fu.ak,gG,jJ]
@[go_sem]theorem Cn.He(x:Cn):x.aA[1]? = some (.int .i64 x.size):=by simp[Cn.aA,aG,fu.ak,gG,jJ]
@[go_sem]theorem Cn.U3(x:Cn):x.aA[2]? = some (.int .i64 x.dR):=by simp[Cn.aA,aG,fu.ak,gG,jJ]
@[go_sem]theorem Cn.U4(x:Cn):x.aA.extract 3 9=Lp x.kC:=by simp[Cn.aA,dA,fu.ak,gG,jJ,qj,uq]
@[go_sem]theorem Cn.U9(x:Cn):x.aA[9]? = some (.int .i64 x.rise):=by simp[Cn.aA,aG,fu.ak,gG,jJ]
@[go_sem]theorem Cn.Va(x:Cn):x.aA[10]? = some (.int .i64 x.fall):=by simp[Cn.aA,aG,fu.ak,gG,jJ]
@[go_sem]theorem Cn.ahr(x:Cn):x.aA.extract 11 17=Bv x.Gq:=by simp[Cn.aA,dA,fu.ak,gG,jJ,qj,uq]
@[go_sem]theorem Cn.acp(x:Cn):x.aA.extract 17 34=x.Dt.aA:=by simp[Cn.aA,dA,fu.ak,gG,jJ,qj,uq]
@[go_sem]theorem Cn.ahs(x:Cn):x.aA.extract 34 51=x.j6.aA:=by simp[Cn.aA,dA,fu.ak,gG,jJ,qj,uq]
@[go_sem]theorem Cn.aEL(x:Cn):x.aA[51]? = some (.int .i64 x.ahq):=by simp[Cn.aA,aG,fu.ak,gG,jJ]
@[go_sem]theorem Cn.acq(x:Cn):x.aA[52]? = some (.int .i64 x.keep):=by simp[Cn.aA,aG,fu.ak,gG,jJ]
@[go_sem]theorem Cn.aBr(x:Cn):x.aA[53]? = some (.int .i64 x.Xe):=by simp[Cn.aA,aG,fu.ak,gG,jJ]
theorem Cn.Pg(x:Cn)(A:Option aU)(n c:Nat):x.aA.setIfInBounds 0 (.slice A n c)=({x with qO:=A,iH:=n,qP:=c}:Cn).aA:=by simp[Cn.aA,aM,fu.ak,gG,jJ]
def Rw:Cn:=⟨none,0,0,0,0,(bG 6 0),0,0,(bG 6 0),ng,ng,0,0,0⟩
@[go_sem]theorem aBs:bY #[bE none 0 0,bg,bg,bg,bg,bg,bg,bg,bg,bg,bg,aB,aB,aB,aB,aB,aB,bQ false,aB,aB,aB,aB,aB,aB,aB,aB,aB,aB,aB,aB,aB,aB,aB,aB,bQ false,aB,aB,aB,aB,aB,aB,aB,aB,aB,aB,aB,aB,aB,aB,aB,aB,bg,bg,bg]=bY Rw.aA:=rfl
@[go_sem]theorem awO:eB #[bE none 0 0,bg,bg,bg,bg,bg,bg,bg,bg,bg,bg,aB,aB,aB,aB,aB,aB,bQ false,aB,aB,aB,aB,aB,aB,aB,aB,aB,aB,aB,aB,aB,aB,aB,aB,bQ false,aB,aB,aB,aB,aB,aB,aB,aB,aB,aB,aB,aB,aB,aB,aB,aB,bg,bg,bg] 29=eB Rw.aA 29:=rfl
theorem Qo:oV 29 54 Rw.aA:=⟨⟨_,mY,rfl⟩,by kernel_rfl,by kernel_rfl,Cn.ak _⟩
@[go_sem ↓]theorem aPn(v:aC):bZ 29 v=yt 29 v:=rfl
@[go_sem ↓]theorem aPo(v x:aC):eD 29 v x=zW 29 v x:=rfl
@[go_sem]theorem aLL(W:au)(b o:Nat)(h:xS W b o 54):(yt 29 (.pointer (some ⟨b,o,none⟩))).run aj W=.ok (.agg (dY W b o 54)) W:=Qo.ld W b o h
@[go_sem]theorem aHC(W:au)(c:Array aC)(x:Cn)(b:Nat)(hb:b=W.heap.size)(hc:eu c=54):(zW 29 (.pointer (some ⟨b,0,none⟩)) (.agg x.aA)).run aj (W.alloc (.cells c 29))=.ok () (W.alloc (.cells x.aA 29)):=Qo.stN W c x.aA b hb hc (Cn.ak x) (Cn.cB x)
@[go_sem]theorem aLM(W:au)(b o:Nat)(x:Cn)(h:W.there b o 54):(zW 29 (.pointer (some ⟨b,o,none⟩)) (.agg x.aA)).run aj W=.ok () (gT W b o x.aA):=Qo.st W b o x.aA h (Cn.ak x) (Cn.cB x)
@[go_sem ↓]theorem aPp(ps:Array (Nat×aC)):fJ 29 ps=uW 29 ps:=rfl
theorem awP(w:au)(fs:Array nV)(h:aj.underlying 29=some (.struct fs)):(iB (fun f=>Prod.mk f.offset <$> sizeOf f.type) fs:xO (Array (Nat×Nat))).run aj w=.ok #[(0,1),(1,1),(2,1),(3,6),(9,1),(10,1),(11,6),(17,17),(34,17),(51,1),(52,1),(53,1)] w:=by
 have e:=mY;rw[h]at e;cases e;show _=_
 kernel_rfl
@[go_sem]theorem aHD(W:au):(uW 29 #[]).run aj W=.ok (.agg Rw.aA) W:=Qo.bd0 W _ mY ⟨_,awP W _ mY⟩
def aeL(v:Vp):Bool:=qN v.jk&&(v.aQ==6||v.aQ==17)&&(decide (1<=v.nL)&&decide (v.nL<=65535))
def yL(a:fu)(p q:Int)(v:Vp):Bool:=decide (v.jk=a)&&v.aQ==p&&v.nL==q
def zN(l:List Vp)(a:fu)(p q:Int):Option Nat:=l.findIdx? (yL a p q)
def Es(l:List Vp)(i:Nat):Bool:=aeL (l.getD i oD) && !(l.take i).any (yL (l.getD i oD).jk (l.getD i oD).aQ (l.getD i oD).nL)
def zF(l:List Vp):Bool:=decide (l.length<=64)&&(dW l.length).all (Es l)
def Cw(v:Vector Int 6):Bool:=v.toList.getD 0 0==0&&(dW 6).all fun i=>decide (0<=v.toList.getD i 0)&&decide (v.toList.getD i 0<=1000000)
def yM(x:Cn)(l:List Vp):Bool:=Cw x.kC&&zF l&&(decide (2<=x.size)&&decide (x.size<=65537)&&lI x.size.toNat)&&(decide (1<=x.dR)&&decide (x.dR<=4096))&&(decide (1<=x.rise)&&decide (x.rise<=100))&&(decide (1<=x.fall)&&decide (x.fall<=100))
 && (!x.Dt.j6&&qN x.Dt)&&x.j6.j6&&(decide (1000<=x.ahq)&&decide (x.ahq<=1048576))&&(decide (1<=x.keep)&&decide (x.keep<=100))&&(decide (1<=x.Xe)&&decide (x.Xe<=1000))
abbrev RdV:=iO Vp.aA 20
structure Fo where
 head:Int
 dz:Int
 Qp:Int
 id:Int
 oM:Bool
 keep:Bool
 MX:Int
 aQ:Int
 src:fu
 dst:fu
def Fo.aA(x:Fo):Array aC:=#[.int .i64 x.head,.int .i64 x.dz,.int .i64 x.Qp,.int .i64 x.id,.bool x.oM,.bool x.keep,.int .i64 x.MX,.int .i64 x.aQ]++(x.src.aA++x.dst.aA)
theorem Fo.ak(x:Fo):x.aA.size=42:=by simp[Fo.aA,fu.ak]
theorem Fo.cB(x:Fo):x.aA.all (·.oneCell')=true:=gX ((by simp[cK])) (gX (fu.cB _) (fu.cB _))
@[go_sem]theorem Fo.eu(x:Fo):eu x.aA=42:=Fo.ak x
@[go_sem]theorem Fo.KX(x:Fo):x.aA[0]? = some (.int .i64 x.head):=by simp[Fo.aA,aG,fu.ak]
@[go_sem]theorem Fo.yN(x:Fo):x.aA[1]? = some (.int .i64 x.dz):=by simp[Fo.aA,aG,fu.ak]
@[go_sem]theorem Fo.awQ(x:Fo):x.aA[2]? = some (.int .i64 x.Qp):=by simp[Fo.aA,aG,fu.ak]
@[go_sem]theorem Fo.aBu(x:Fo):x.aA[3]? = some (.int .i64 x.id):=by simp[Fo.aA,aG,fu.ak]
@[go_sem]theorem Fo.Vb(x:Fo):x.aA[4]? = some (.bool x.oM):=by simp[Fo.aA,aG,fu.ak]
@[go_sem]theorem Fo.acq(x:Fo):x.aA[5]? = some (.bool x.keep):=by simp[Fo.aA,aG,fu.ak]
@[go_sem]theorem Fo.awR(x:Fo):x.aA[6]? = some (.int .i64 x.MX):=by simp[Fo.aA,aG,fu.ak]
@[go_sem]theorem Fo.Cv(x:Fo):x.aA[7]? = some (.int .i64 x.aQ):=by simp[Fo.aA,aG,fu.ak]
@[go_sem]theorem Fo.JI(x:Fo):x.aA.extract 8 25=x.src.aA:=by simp[Fo.aA,dA,fu.ak,qj,uq]
@[go_sem]theorem Fo.JJ(x:Fo):x.aA.extract 25 42=x.dst.aA:=by simp[Fo.aA,dA,fu.ak,qj,uq]
def xK:Fo:=⟨0,0,0,0,false,false,0,0,ng,ng⟩
@[go_sem]theorem aBv:bY #[bg,bg,bg,bg,bQ false,bQ false,bg,bg,bQ false,aB,aB,aB,aB,aB,aB,aB,aB,aB,aB,aB,aB,aB,aB,aB,aB,bQ false,aB,aB,aB,aB,aB,aB,aB,aB,aB,aB,aB,aB,aB,aB,aB,aB]=bY xK.aA:=rfl
@[go_sem]theorem awS:eB #[bg,bg,bg,bg,bQ false,bQ false,bg,bg,bQ false,aB,aB,aB,aB,aB,aB,aB,aB,aB,aB,aB,aB,aB,aB,aB,aB,bQ false,aB,aB,aB,aB,aB,aB,aB,aB,aB,aB,aB,aB,aB,aB,aB,aB] 192=eB xK.aA 192:=rfl
theorem kFo:oV 192 42 xK.aA:=⟨⟨_,pE,rfl⟩,by kernel_rfl,by kernel_rfl,Fo.ak _⟩
@[go_sem ↓]theorem aPq(v:aC):bZ 192 v=yt 192 v:=rfl
@[go_sem ↓]theorem aPr(v x:aC):eD 192 v x=zW 192 v x:=rfl
@[go_sem]theorem aHE(W:au)(c:Array aC)(x:Fo)(b:Nat)(hb:b=W.heap.size)(hc:eu c=42):(zW 192 (.pointer (some ⟨b,0,none⟩)) (.agg x.aA)).run aj (W.alloc (.cells c 192))=.ok () (W.alloc (.cells x.aA 192)):=kFo.stN W c x.aA b hb hc (Fo.ak x) (Fo.cB x)
@[go_sem]theorem aLN(W:au)(b o:Nat)(x:Fo)(h:W.there b o 42):(zW 192 (.pointer (some ⟨b,o,none⟩)) (.agg x.aA)).run aj W=.ok () (gT W b o x.aA):=kFo.st W b o x.aA h (Fo.ak x) (Fo.cB x)
@[go_sem ↓]theorem aPs(ps:Array (Nat×aC)):fJ 192 ps=uW 192 ps:=rfl
theorem awT(w:au)(fs:Array nV)(h:aj.underlying 192=some (.struct fs)):(iB (fun f=>Prod.mk f.offset <$> sizeOf f.type) fs:xO (Array (Nat×Nat))).run aj w=.ok #[(0,1),(1,1),(2,1),(3,1),(4,1),(5,1),(6,1),(7,1),(8,17),(25,17)] w:=by
 have e:=pE;rw[h]at e;cases e;show _=_
 kernel_rfl
@[go_sem]theorem aHF(W:au):(uW 192 #[]).run aj W=.ok (.agg xK.aA) W:=kFo.bd0 W _ pE ⟨_,awT W _ pE⟩
@[go_sem]theorem aBw(W:au)(head:Int)(dz:Int)(Qp:Int)(id:Int)(oM:Bool)(keep:Bool)(MX:Int)(aQ:Int)(src:fu)(dst:fu):(uW 192 #[(0,.int .i64 head),(1,.int .i64 dz),(2,.int .i64 Qp),(3,.int .i64 id),(4,.bool oM),(5,.bool keep),(6,.int .i64 MX),(7,.int .i64 aQ),(8,.agg (src.aA)),(9,.agg (dst.aA))]).run aj W=.ok (.agg (Fo.mk head dz Qp id oM keep MX aQ src dst).aA) W:=kFo.bd W _ _ _ _ pE (awT W _ pE) (by
 refine vw (Fo.ak _) ?_ ?_
 ·simp[rU,cu,fu.ak]
 ·simp[qY,cu,Fo.aA]<;>(simp only[<-fT];rfl))
structure Sx where
 head:Int
 dz:Int
 IU:Int
 oM:Bool
 IV:Int
 aQ:Int
 src:fu
 dst:fu
def Sx.aA(x:Sx):Array aC:=#[.int .i64 x.head,.int .i64 x.dz,.int .i64 x.IU,.bool x.oM,.int .i64 x.IV,.int .i64 x.aQ]++(x.src.aA++x.dst.aA)
theorem Sx.ak(x:Sx):x.aA.size=40:=by simp[Sx.aA,fu.ak]
theorem Sx.cB(x:Sx):x.aA.all (·.oneCell')=true:=gX ((by simp[cK])) (gX (fu.cB _) (fu.cB _))
@[go_sem]theorem Sx.eu(x:Sx):eu x.aA=40:=Sx.ak x
@[go_sem]theorem Sx.all(x:Sx):x.aA.extract 0 40=x.aA:=by have:=Sx.ak x;rw[<-this];simp
@[go_sem]theorem Sx.KX(x:Sx):x.aA[0]? = some (.int .i64 x.head):=by simp[Sx.aA,aG,fu.ak]
@[go_sem]theorem Sx.yN(x:Sx):x.aA[1]? = some (.int .i64 x.dz):=by simp[Sx.aA,aG,fu.ak]
@[go_sem]theorem Sx.awU(x:Sx):x.aA[2]? = some (.int .i64 x.IU):=by simp[Sx.aA,aG,fu.ak]
@[go_sem]theorem Sx.Vb(x:Sx):x.aA[3]? = some (.bool x.oM):=by simp[Sx.aA,aG,fu.ak]
@[go_sem]theorem Sx.asr(x:Sx):x.aA[4]? = some (.int .i64 x.IV):=by simp[Sx.aA,aG,fu.ak]
@[go_sem]theorem Sx.Cv(x:Sx):x.aA[5]? = some (.int .i64 x.aQ):=by simp[Sx.aA,aG,fu.ak]
@[go_sem]theorem Sx.JI(x:Sx):x.aA.extract 6 23=x.src.aA:=by simp[Sx.aA,dA,fu.ak,qj,uq]
@[go_sem]theorem Sx.JJ(x:Sx):x.aA.extract 23 40=x.dst.aA:=by simp[Sx.aA,dA,fu.ak,qj,uq]
theorem Sx.Ph(x:Sx)(v:Int):x.aA.setIfInBounds 0 (.int .i64 v)=({x with head:=v}:Sx).aA:=by simp[Sx.aA,aM,fu.ak]
theorem Sx.aox(x:Sx)(v:Bool):x.aA.setIfInBounds 3 (.bool v)=({x with oM:=v}:Sx).aA:=by simp[Sx.aA,aM,fu.ak]
theorem Sx.aoy(x:Sx)(v:Int):x.aA.setIfInBounds 4 (.int .i64 v)=({x with IV:=v}:Sx).aA:=by simp[Sx.aA,aM,fu.ak]
theorem Sx.aaA(x:Sx)(v:Int):x.aA.setIfInBounds 5 (.int .i64 v)=({x with aQ:=v}:Sx).aA:=by simp[Sx.aA,aM,fu.ak]
def qM:Sx:=⟨0,0,0,false,0,0,ng,ng⟩
@[go_sem]theorem aBx:bY #[bg,bg,bg,bQ false,bg,bg,bQ false,aB,aB,aB,aB,aB,aB,aB,aB,aB,aB,aB,aB,aB,aB,aB,aB,bQ false,aB,aB,aB,aB,aB,aB,aB,aB,aB,aB,aB,aB,aB,aB,aB,aB]=bY qM.aA:=rfl
@[go_sem]theorem awV:eB #[bg,bg,bg,bQ false,bg,bg,bQ false,aB,aB,aB,aB,aB,aB,aB,aB,aB,aB,aB,aB,aB,aB,aB,aB,bQ false,aB,aB,aB,aB,aB,aB,aB,aB,aB,aB,aB,aB,aB,aB,aB,aB] 189=eB qM.aA 189:=rfl
theorem kSx:oV 189 40 qM.aA:=⟨⟨_,pF,rfl⟩,by kernel_rfl,by kernel_rfl,Sx.ak _⟩
@[go_sem ↓]theorem aPt(v:aC):bZ 189 v=yt 189 v:=rfl
@[go_sem ↓]theorem aPu(v x:aC):eD 189 v x=zW 189 v x:=rfl
@[go_sem]theorem aLO(W:au)(b o:Nat)(h:xS W b o 40):(yt 189 (.pointer (some ⟨b,o,none⟩))).run aj W=.ok (.agg (dY W b o 40)) W:=kSx.ld W b o h
@[go_sem]theorem aHG(W:au)(c:Array aC)(x:Sx)(b:Nat)(hb:b=W.heap.size)(hc:eu c=40):(zW 189 (.pointer (some ⟨b,0,none⟩)) (.agg x.aA)).run aj (W.alloc (.cells c 189))=.ok () (W.alloc (.cells x.aA 189)):=kSx.stN W c x.aA b hb hc (Sx.ak x) (Sx.cB x)
@[go_sem]theorem aLP(W:au)(b o:Nat)(x:Sx)(h:W.there b o 40):(zW 189 (.pointer (some ⟨b,o,none⟩)) (.agg x.aA)).run aj W=.ok () (gT W b o x.aA):=kSx.st W b o x.aA h (Sx.ak x) (Sx.cB x)
@[go_sem ↓]theorem aPv(ps:Array (Nat×aC)):fJ 189 ps=uW 189 ps:=rfl
theorem awX(w:au)(fs:Array nV)(h:aj.underlying 189=some (.struct fs)):(iB (fun f=>Prod.mk f.offset <$> sizeOf f.type) fs:xO (Array (Nat×Nat))).run aj w=.ok #[(0,1),(1,1),(2,1),(3,1),(4,1),(5,1),(6,17),(23,17)] w:=by
 have e:=pF;rw[h]at e;cases e;show _=_
 kernel_rfl
@[go_sem]theorem aHH(W:au):(uW 189 #[]).run aj W=.ok (.agg qM.aA) W:=kSx.bd0 W _ pF ⟨_,awX W _ pF⟩
structure Pt where
 kU:Int
 j4:Int
 vB:Int
 head:Int
 dz:Int
def Pt.aA(x:Pt):Array aC:=#[.int .i64 x.kU,.int .i64 x.j4,.int .i64 x.vB,.int .i64 x.head,.int .i64 x.dz]
theorem Pt.ak(x:Pt):x.aA.size=5:=by simp[Pt.aA]
theorem Pt.cB(x:Pt):x.aA.all (·.oneCell')=true:=by simp[Pt.aA,cK]
@[go_sem]theorem Pt.eu(x:Pt):eu x.aA=5:=Pt.ak x
@[go_sem]theorem Pt.all(x:Pt):x.aA.extract 0 5=x.aA:=by have:=Pt.ak x;rw[<-this];simp
@[go_sem]theorem Pt.aBy(x:Pt):x.aA[0]? = some (.int .i64 x.kU):=by simp[Pt.aA,aG]
@[go_sem]theorem Pt.aBz(x:Pt):x.aA[1]? = some (.int .i64 x.j4):=by simp[Pt.aA,aG]
@[go_sem]theorem Pt.Pj(x:Pt):x.aA[2]? = some (.int .i64 x.vB):=by simp[Pt.aA,aG]
@[go_sem]theorem Pt.KX(x:Pt):x.aA[3]? = some (.int .i64 x.head):=by simp[Pt.aA,aG]
@[go_sem]theorem Pt.yN(x:Pt):x.aA[4]? = some (.int .i64 x.dz):=by simp[Pt.aA,aG]
theorem Pt.Rx(x:Pt)(v:Int):x.aA.setIfInBounds 2 (.int .i64 v)=({x with vB:=v}:Pt).aA:=by simp[Pt.aA,aM]
theorem Pt.Ph(x:Pt)(v:Int):x.aA.setIfInBounds 3 (.int .i64 v)=({x with head:=v}:Pt).aA:=by simp[Pt.aA,aM]
theorem Pt.Ry(x:Pt)(v:Int):x.aA.setIfInBounds 4 (.int .i64 v)=({x with dz:=v}:Pt).aA:=by simp[Pt.aA,aM]
def qQ:Pt:=⟨0,0,0,0,0⟩
@[go_sem]theorem aBA:bY #[bg,bg,bg,bg,bg]=bY qQ.aA:=rfl
@[go_sem]theorem awY:eB #[bg,bg,bg,bg,bg] 172=eB qQ.aA 172:=rfl
theorem Vd:oV 172 5 qQ.aA:=⟨⟨_,pG,rfl⟩,by kernel_rfl,by kernel_rfl,Pt.ak _⟩
@[go_sem ↓]theorem aPw(v:aC):bZ 172 v=yt 172 v:=rfl
@[go_sem ↓]theorem aPx(v x:aC):eD 172 v x=zW 172 v x:=rfl
@[go_sem]theorem aLQ(W:au)(b o:Nat)(h:xS W b o 5):(yt 172 (.pointer (some ⟨b,o,none⟩))).run aj W=.ok (.agg (dY W b o 5)) W:=Vd.ld W b o h
@[go_sem]theorem aHI(W:au)(c:Array aC)(x:Pt)(b:Nat)(hb:b=W.heap.size)(hc:eu c=5):(zW 172 (.pointer (some ⟨b,0,none⟩)) (.agg x.aA)).run aj (W.alloc (.cells c 172))=.ok () (W.alloc (.cells x.aA 172)):=Vd.stN W c x.aA b hb hc (Pt.ak x) (Pt.cB x)
@[go_sem]theorem aLR(W:au)(b o:Nat)(x:Pt)(h:W.there b o 5):(zW 172 (.pointer (some ⟨b,o,none⟩)) (.agg x.aA)).run aj W=.ok () (gT W b o x.aA):=Vd.st W b o x.aA h (Pt.ak x) (Pt.cB x)
@[go_sem ↓]theorem aPy(ps:Array (Nat×aC)):fJ 172 ps=uW 172 ps:=rfl
theorem awZ(w:au)(fs:Array nV)(h:aj.underlying 172=some (.struct fs)):(iB (fun f=>Prod.mk f.offset <$> sizeOf f.type) fs:xO (Array (Nat×Nat))).run aj w=.ok #[(0,1),(1,1),(2,1),(3,1),(4,1)] w:=by
 have e:=pG;rw[h]at e;cases e;show _=_
 kernel_rfl
@[go_sem]theorem aHJ(W:au):(uW 172 #[]).run aj W=.ok (.agg qQ.aA) W:=Vd.bd0 W _ pG ⟨_,awZ W _ pG⟩
@[go_sem]theorem aBB(W:au)(kU:Int)(j4:Int)(vB:Int)(head:Int)(dz:Int):(uW 172 #[(0,.int .i64 kU),(1,.int .i64 j4),(2,.int .i64 vB),(3,.int .i64 head),(4,.int .i64 dz)]).run aj W=.ok (.agg (Pt.mk kU j4 vB head dz).aA) W:=Vd.bd W _ _ _ _ pG (awZ W _ pG) (by
 refine vw (Pt.ak _) ?_ ?_
 ·simp[rU,cu]
 ·simp[qY,cu,Pt.aA]<;>(simp only[<-fT];rfl))
structure Nt where
 head:Int
 dz:Int
 aQ:Int
 oM:Bool
 src:fu
 dst:fu
def Nt.aA(x:Nt):Array aC:=#[.int .i64 x.head,.int .i64 x.dz,.int .i64 x.aQ,.bool x.oM]++(x.src.aA++x.dst.aA)
theorem Nt.ak(x:Nt):x.aA.size=38:=by simp[Nt.aA,fu.ak]
theorem Nt.cB(x:Nt):x.aA.all (·.oneCell')=true:=gX ((by simp[cK])) (gX (fu.cB _) (fu.cB _))
@[go_sem]theorem Nt.eu(x:Nt):eu x.aA=38:=Nt.ak x
@[go_sem]theorem Nt.KX(x:Nt):x.aA[0]? = some (.int .i64 x.head):=by simp[Nt.aA,aG,fu.ak]
@[go_sem]theorem Nt.yN(x:Nt):x.aA[1]? = some (.int .i64 x.dz):=by simp[Nt.aA,aG,fu.ak]
@[go_sem]theorem Nt.Cv(x:Nt):x.aA[2]? = some (.int .i64 x.aQ):=by simp[Nt.aA,aG,fu.ak]
@[go_sem]theorem Nt.Vb(x:Nt):x.aA[3]? = some (.bool x.oM):=by simp[Nt.aA,aG,fu.ak]
@[go_sem]theorem Nt.JI(x:Nt):x.aA.extract 4 21=x.src.aA:=by simp[Nt.aA,dA,fu.ak,qj,uq]
@[go_sem]theorem Nt.JJ(x:Nt):x.aA.extract 21 38=x.dst.aA:=by simp[Nt.aA,dA,fu.ak,qj,uq]
def acr:Nt:=⟨0,0,0,false,ng,ng⟩
@[go_sem]theorem aBC:bY #[bg,bg,bg,bQ false,bQ false,aB,aB,aB,aB,aB,aB,aB,aB,aB,aB,aB,aB,aB,aB,aB,aB,bQ false,aB,aB,aB,aB,aB,aB,aB,aB,aB,aB,aB,aB,aB,aB,aB,aB]=bY acr.aA:=rfl
@[go_sem]theorem aw9:eB #[bg,bg,bg,bQ false,bQ false,aB,aB,aB,aB,aB,aB,aB,aB,aB,aB,aB,aB,aB,aB,aB,aB,bQ false,aB,aB,aB,aB,aB,aB,aB,aB,aB,aB,aB,aB,aB,aB,aB,aB] 168=eB acr.aA 168:=rfl
theorem kNt:oV 168 38 acr.aA:=⟨⟨_,Eb,rfl⟩,by kernel_rfl,by kernel_rfl,Nt.ak _⟩
@[go_sem ↓]theorem aPz(v:aC):bZ 168 v=yt 168 v:=rfl
@[go_sem ↓]theorem aPA(v x:aC):eD 168 v x=zW 168 v x:=rfl
@[go_sem]theorem aLS(W:au)(b o:Nat)(x:Nt)(h:W.there b o 38):(zW 168 (.pointer (some ⟨b,o,none⟩)) (.agg x.aA)).run aj W=.ok () (gT W b o x.aA):=kNt.st W b o x.aA h (Nt.ak x) (Nt.cB x)
@[go_sem ↓]theorem aPB(ps:Array (Nat×aC)):fJ 168 ps=uW 168 ps:=rfl
theorem aHK(w:au)(fs:Array nV)(h:aj.underlying 168=some (.struct fs)):(iB (fun f=>Prod.mk f.offset <$> sizeOf f.type) fs:xO (Array (Nat×Nat))).run aj w=.ok #[(0,1),(1,1),(2,1),(3,1),(4,17),(21,17)] w:=by
 have e:=Eb;rw[h]at e;cases e;show _=_
 kernel_rfl
@[go_sem]theorem aBD(W:au)(head:Int)(dz:Int)(aQ:Int)(oM:Bool)(src:fu)(dst:fu):(uW 168 #[(0,.int .i64 head),(1,.int .i64 dz),(2,.int .i64 aQ),(3,.bool oM),(4,.agg (src.aA)),(5,.agg (dst.aA))]).run aj W=.ok (.agg (Nt.mk head dz aQ oM src dst).aA) W:=kNt.bd W _ _ _ _ Eb (aHK W _ Eb) (by
 refine vw (Nt.ak _) ?_ ?_
 ·simp[rU,cu,fu.ak]
 ·simp[qY,cu,Nt.aA]<;>(simp only[<-fT];rfl))
structure Pk where
 kind:Int
 tuple:Tu
 vB:Int
 Du:Int
 tK:Int
 Hf:Int
def Pk.aA(x:Pk):Array aC:=#[.int .i64 x.kind]++(x.tuple.aA ++ #[.int .i64 x.vB,.int .i64 x.Du,.int .i64 x.tK,.int .i64 x.Hf])
theorem Pk.ak(x:Pk):x.aA.size=42:=by simp[Pk.aA,Tu.ak]
theorem Pk.cB(x:Pk):x.aA.all (·.oneCell')=true:=gX ((by simp[cK])) (gX (Tu.cB _) ((by simp[cK])))
@[go_sem]theorem Pk.eu(x:Pk):eu x.aA=42:=Pk.ak x
@[go_sem]theorem Pk.Bw(x:Pk):x.aA[0]? = some (.int .i64 x.kind):=by simp[Pk.aA,aG,Tu.ak]
@[go_sem]theorem Pk.JK(x:Pk):x.aA.extract 1 38=x.tuple.aA:=by simp[Pk.aA,dA,Tu.ak,qj,uq]
@[go_sem]theorem Pk.Pj(x:Pk):x.aA[38]? = some (.int .i64 x.vB):=by simp[Pk.aA,aG,Tu.ak]
@[go_sem]theorem Pk.aoz(x:Pk):x.aA[39]? = some (.int .i64 x.Du):=by simp[Pk.aA,aG,Tu.ak]
@[go_sem]theorem Pk.aoA(x:Pk):x.aA[40]? = some (.int .i64 x.tK):=by simp[Pk.aA,aG,Tu.ak]
@[go_sem]theorem Pk.ast(x:Pk):x.aA[41]? = some (.int .i64 x.Hf):=by simp[Pk.aA,aG,Tu.ak]
def Pm:Pk:=⟨0,agu,0,0,0,0⟩
@[go_sem]theorem aBE:bY #[bg,bQ false,aB,aB,aB,aB,aB,aB,aB,aB,aB,aB,aB,aB,aB,aB,aB,aB,bQ false,aB,aB,aB,aB,aB,aB,aB,aB,aB,aB,aB,aB,aB,aB,aB,aB,bg,bg,bg,bg,bg,bg,bg]=bY Pm.aA:=rfl
@[go_sem]theorem aw':eB #[bg,bQ false,aB,aB,aB,aB,aB,aB,aB,aB,aB,aB,aB,aB,aB,aB,aB,aB,bQ false,aB,aB,aB,aB,aB,aB,aB,aB,aB,aB,aB,aB,aB,aB,aB,aB,bg,bg,bg,bg,bg,bg,bg] 83=eB Pm.aA 83:=rfl
theorem kPk:oV 83 42 Pm.aA:=⟨⟨_,vK,rfl⟩,by kernel_rfl,by kernel_rfl,Pk.ak _⟩
@[go_sem ↓]theorem aPC(v:aC):bZ 83 v=yt 83 v:=rfl
@[go_sem ↓]theorem aPD(v x:aC):eD 83 v x=zW 83 v x:=rfl
@[go_sem]theorem aHL(W:au)(c:Array aC)(x:Pk)(b:Nat)(hb:b=W.heap.size)(hc:eu c=42):(zW 83 (.pointer (some ⟨b,0,none⟩)) (.agg x.aA)).run aj (W.alloc (.cells c 83))=.ok () (W.alloc (.cells x.aA 83)):=kPk.stN W c x.aA b hb hc (Pk.ak x) (Pk.cB x)
@[go_sem]theorem aLT(W:au)(b o:Nat)(x:Pk)(h:W.there b o 42):(zW 83 (.pointer (some ⟨b,o,none⟩)) (.agg x.aA)).run aj W=.ok () (gT W b o x.aA):=kPk.st W b o x.aA h (Pk.ak x) (Pk.cB x)
@[go_sem ↓]theorem aPE(ps:Array (Nat×aC)):fJ 83 ps=uW 83 ps:=rfl
theorem aBF(w:au)(fs:Array nV)(h:aj.underlying 83=some (.struct fs)):(iB (fun f=>Prod.mk f.offset <$> sizeOf f.type) fs:xO (Array (Nat×Nat))).run aj w=.ok #[(0,1),(1,37),(38,1),(39,1),(40,1),(41,1)] w:=by
 have e:=vK;rw[h]at e;cases e;show _=_
 kernel_rfl
structure Tn where
 head:Int
 dz:Int
 aQ:Int
 oM:Bool
 ok:Bool
def Tn.aA(x:Tn):Array aC:=#[.int .i64 x.head,.int .i64 x.dz,.int .i64 x.aQ,.bool x.oM,.bool x.ok]
theorem Tn.ak(x:Tn):x.aA.size=5:=by simp[Tn.aA]
theorem Tn.cB(x:Tn):x.aA.all (·.oneCell')=true:=by simp[Tn.aA,cK]
@[go_sem]theorem Tn.yN(x:Tn):x.aA[1]? = some (.int .i64 x.dz):=by simp[Tn.aA,aG]
@[go_sem]theorem Tn.aBG(x:Tn):x.aA[4]? = some (.bool x.ok):=by simp[Tn.aA,aG]
def tq:Tn:=⟨0,0,0,false,false⟩
@[go_sem]theorem aBH:bY #[aJ bU 0,aJ bU 0,aJ bU 0,bQ false,bQ false]=bY tq.aA:=rfl
@[go_sem]theorem axb:eB #[aJ bU 0,aJ bU 0,aJ bU 0,bQ false,bQ false] 179=eB tq.aA 179:=rfl
theorem kTn:oV 179 5 tq.aA:=⟨⟨_,uD,rfl⟩,by kernel_rfl,by kernel_rfl,Tn.ak _⟩
@[go_sem ↓]theorem aPF(v:aC):bZ 179 v=yt 179 v:=rfl
@[go_sem ↓]theorem aPG(v x:aC):eD 179 v x=zW 179 v x:=rfl
@[go_sem]theorem aLU(W:au)(b o:Nat)(x:Tn)(h:W.there b o 5):(zW 179 (.pointer (some ⟨b,o,none⟩)) (.agg x.aA)).run aj W=.ok () (gT W b o x.aA):=kTn.st W b o x.aA h (Tn.ak x) (Tn.cB x)
@[go_sem ↓]theorem aPH(ps:Array (Nat×aC)):fJ 179 ps=uW 179 ps:=rfl
theorem aBI(w:au)(fs:Array nV)(h:aj.underlying 179=some (.struct fs)):(iB (fun f=>Prod.mk f.offset <$> sizeOf f.type) fs:xO (Array (Nat×Nat))).run aj w=.ok #[(0,1),(1,1),(2,1),(3,1),(4,1)] w:=by
 have e:=uD;rw[h]at e;cases e;show _=_
 kernel_rfl
@[go_sem]theorem aHM(W:au):(uW 179 #[]).run aj W=.ok (.agg tq.aA) W:=kTn.bd0 W _ uD ⟨_,aBI W _ uD⟩
@[go_sem]theorem aBJ(W:au)(head:Int)(dz:Int)(aQ:Int)(oM:Bool)(ok:Bool):(uW 179 #[(0,.int .i64 head),(1,.int .i64 dz),(2,.int .i64 aQ),(3,.bool oM),(4,.bool ok)]).run aj W=.ok (.agg (Tn.mk head dz aQ oM ok).aA) W:=kTn.bd W _ _ _ _ uD (aBI W _ uD) (by
 refine vw (Tn.ak _) ?_ ?_
 ·simp[rU,cu]
 ·simp[qY,cu,Tn.aA]<;>(simp only[<-fT];rfl))
structure Lc where
 dst:Vector UInt8 6
 src:Vector UInt8 6
 Xf:Option aU
 Fx:Nat
 ajh:Nat
 oF:Int
 fE:Int
def Lc.aA(x:Lc):Array aC:=Bv x.dst++(Bv x.src ++ #[.slice x.Xf x.Fx x.ajh,.int .i64 x.oF,.int .i64 x.fE])
theorem Lc.ak(x:Lc):x.aA.size=15:=by simp[Lc.aA,gG]
theorem Lc.cB(x:Lc):x.aA.all (·.oneCell')=true:=gX (acn _) (gX (acn _) ((by simp[cK])))
@[go_sem]theorem Lc.eu(x:Lc):eu x.aA=15:=Lc.ak x
@[go_sem]theorem Lc.all(x:Lc):x.aA.extract 0 15=x.aA:=by have:=Lc.ak x;rw[<-this];simp
@[go_sem]theorem Lc.JJ(x:Lc):x.aA.extract 0 6=Bv x.dst:=by simp[Lc.aA,dA,gG,qj,uq]
@[go_sem]theorem Lc.JI(x:Lc):x.aA.extract 6 12=Bv x.src:=by simp[Lc.aA,dA,gG,qj,uq]
@[go_sem]theorem Lc.acs(x:Lc):x.aA[12]? = some (.slice x.Xf x.Fx x.ajh):=by simp[Lc.aA,aG,gG]
@[go_sem]theorem Lc.Et(x:Lc):x.aA[13]? = some (.int .i64 x.oF):=by simp[Lc.aA,aG,gG]
@[go_sem]theorem Lc.MZ(x:Lc):x.aA[14]? = some (.int .i64 x.fE):=by simp[Lc.aA,aG,gG]
theorem Lc.aoB(x:Lc)(A:Option aU)(n c:Nat):x.aA.setIfInBounds 12 (.slice A n c)=({x with Xf:=A,Fx:=n,ajh:=c}:Lc).aA:=by simp[Lc.aA,aM,gG]
theorem Lc.Ve(x:Lc)(v:Int):x.aA.setIfInBounds 13 (.int .i64 v)=({x with oF:=v}:Lc).aA:=by simp[Lc.aA,aM,gG]
theorem Lc.asv(x:Lc)(v:Int):x.aA.setIfInBounds 14 (.int .i64 v)=({x with fE:=v}:Lc).aA:=by simp[Lc.aA,aM,gG]
def qR:Lc:=⟨(bG 6 0),(bG 6 0),none,0,0,0,0⟩
@[go_sem]theorem aBK:bY #[aB,aB,aB,aB,aB,aB,aB,aB,aB,aB,aB,aB,bE none 0 0,bg,bg]=bY qR.aA:=rfl
@[go_sem]theorem axc:eB #[aB,aB,aB,aB,aB,aB,aB,aB,aB,aB,aB,aB,bE none 0 0,bg,bg] 108=eB qR.aA 108:=rfl
theorem kLc:oV 108 15 qR.aA:=⟨⟨_,uE,rfl⟩,by kernel_rfl,by kernel_rfl,Lc.ak _⟩
@[go_sem ↓]theorem aPI(v:aC):bZ 108 v=yt 108 v:=rfl
@[go_sem ↓]theorem aPJ(v x:aC):eD 108 v x=zW 108 v x:=rfl
@[go_sem]theorem aLV(W:au)(b o:Nat)(h:xS W b o 15):(yt 108 (.pointer (some ⟨b,o,none⟩))).run aj W=.ok (.agg (dY W b o 15)) W:=kLc.ld W b o h
@[go_sem]theorem aHN(W:au)(c:Array aC)(x:Lc)(b:Nat)(hb:b=W.heap.size)(hc:eu c=15):(zW 108 (.pointer (some ⟨b,0,none⟩)) (.agg x.aA)).run aj (W.alloc (.cells c 108))=.ok () (W.alloc (.cells x.aA 108)):=kLc.stN W c x.aA b hb hc (Lc.ak x) (Lc.cB x)
@[go_sem]theorem aLW(W:au)(b o:Nat)(x:Lc)(h:W.there b o 15):(zW 108 (.pointer (some ⟨b,o,none⟩)) (.agg x.aA)).run aj W=.ok () (gT W b o x.aA):=kLc.st W b o x.aA h (Lc.ak x) (Lc.cB x)
@[go_sem ↓]theorem aPK(ps:Array (Nat×aC)):fJ 108 ps=uW 108 ps:=rfl
theorem aBL(w:au)(fs:Array nV)(h:aj.underlying 108=some (.struct fs)):(iB (fun f=>Prod.mk f.offset <$> sizeOf f.type) fs:xO (Array (Nat×Nat))).run aj w=.ok #[(0,6),(6,6),(12,1),(13,1),(14,1)] w:=by
 have e:=uE;rw[h]at e;cases e;show _=_
 kernel_rfl
@[go_sem]theorem aHO(W:au):(uW 108 #[]).run aj W=.ok (.agg qR.aA) W:=kLc.bd0 W _ uE ⟨_,aBL W _ uE⟩
structure Tg where
 oF:Int
 tci:Int
def Tg.aA(x:Tg):Array aC:=#[.int .i64 x.oF,.int .i64 x.tci]
theorem Tg.ak(x:Tg):x.aA.size=2:=by simp[Tg.aA]
theorem Tg.cB(x:Tg):x.aA.all (·.oneCell')=true:=by simp[Tg.aA,cK]
@[go_sem]theorem Tg.Et(x:Tg):x.aA[0]? = some (.int .i64 x.oF):=by simp[Tg.aA,aG]
@[go_sem]theorem Tg.aoC(x:Tg):x.aA[1]? = some (.int .i64 x.tci):=by simp[Tg.aA,aG]
def Us:Tg:=⟨0,0⟩
@[go_sem]theorem aBM:bY #[aJ bU 0,aJ bU 0]=bY Us.aA:=rfl
@[go_sem]theorem axd:eB #[aJ bU 0,aJ bU 0] 268=eB Us.aA 268:=rfl
theorem kTg:oV 268 2 Us.aA:=⟨⟨_,Ec,rfl⟩,by kernel_rfl,by kernel_rfl,Tg.ak _⟩
@[go_sem ↓]theorem aPL(v:aC):bZ 268 v=yt 268 v:=rfl
@[go_sem ↓]theorem aPM(v x:aC):eD 268 v x=zW 268 v x:=rfl
@[go_sem]theorem aLX(W:au)(b o:Nat)(h:xS W b o 2):(yt 268 (.pointer (some ⟨b,o,none⟩))).run aj W=.ok (.agg (dY W b o 2)) W:=kTg.ld W b o h
@[go_sem]theorem aHP(W:au)(c:Array aC)(x:Tg)(b:Nat)(hb:b=W.heap.size)(hc:eu c=2):(zW 268 (.pointer (some ⟨b,0,none⟩)) (.agg x.aA)).run aj (W.alloc (.cells c 268))=.ok () (W.alloc (.cells x.aA 268)):=kTg.stN W c x.aA b hb hc (Tg.ak x) (Tg.cB x)
@[go_sem ↓]theorem aPN(ps:Array (Nat×aC)):fJ 268 ps=uW 268 ps:=rfl
theorem aHQ(w:au)(fs:Array nV)(h:aj.underlying 268=some (.struct fs)):(iB (fun f=>Prod.mk f.offset <$> sizeOf f.type) fs:xO (Array (Nat×Nat))).run aj w=.ok #[(0,1),(1,1)] w:=by
 have e:=Ec;rw[h]at e;cases e;show _=_
 kernel_rfl
@[go_sem]theorem aBO(W:au)(oF:Int)(tci:Int):(uW 268 #[(0,.int .i64 oF),(1,.int .i64 tci)]).run aj W=.ok (.agg (Tg.mk oF tci).aA) W:=kTg.bd W _ _ _ _ Ec (aHQ W _ Ec) (by
 refine vw (Tg.ak _) ?_ ?_
 ·simp[rU,cu]
 ·simp[qY,cu,Tg.aA]<;>(simp only[<-fT];rfl))
def eX(l:List UInt8)(k:Nat):Nat:=256*(l.getD k 0).toNat+(l.getD (k+1) 0).toNat
theorem vO(l:List UInt8)(k:Nat):eX l k<=65535:=by
 have h1:=(l.getD k 0).toNat_lt;have h2:=(l.getD (k+1) 0).toNat_lt;unfold eX;omega
theorem JL(l:List UInt8)(k:Nat)(h:k+1<l.length):oJ (((l.drop k).take 2).take 8)=eX l k:=by
 rw[Wn l k h];simp[oJ,eX];omega
theorem jU(n:Int)(h : -9223372036854775808<=n/\n<=9223372036854775807):bU.wrap n=n:=by simp[vR,nS,lT];omega
section
variable (W:au) (A:Option aU) (n c B:Nat) (l:List UInt8) (k:Nat)
theorem ak5(hk:k+1<n)(tX:n<=c)(hc:c<=9223372036854775807)(hr:gy W W.heap.size A n l):aR aj 246 #[.slice A n c,.int .i64 k] W (gP W (.int .i64 (eX l k:Nat))):=by
 have hl:=hr.len;have h0:=ah (vO l k);have h1:(k:Int)+2<=c:=by omega
 have h2:(k:Int)<=(k:Int)+2:=by omega
 have P:=hr.Ti (z:=k) (b:=k+2) (c:=c) (by omega) (by omega) (by omega);rw[kI,if_neg (by omega)]at P;have C:=ah (NQ _ 2 (c-k) _ W (by omega) (by omega) P);rw[JL l k (by omega)]at C;have h3:wrap64 (eX l k:Nat)=(eX l k:Nat):=by have:=h0.out;unfold wrap64;omega
 generalize eX l k=x at *;clear P hr;go_enter Tryz.func246,Tryz.ntmps246;go_wp2_with (go_at_call 180;with_reducible refine C.out.mono ?_;rintro e w' ⟨rfl,hb⟩);go_ret;exact⟨congrArg (fun z=>uz (.int .i64 z)) h3,hb⟩
theorem acv(i:Int)(hi:i=k)(hk:k+1<n)(tX:n<=c)(hc:c<=9223372036854775807)(hr:gy W W.heap.size A n l):aR aj 246 #[.slice A n c,.int .i64 i] W (gP W (.int .i64 (eX l k:Nat))):=by subst hi;exact ak5 W A n c l k hk tX hc hr
theorem aoD(hk:k+1<n)(tX:n<=c)(hc:c<=9223372036854775807)(hr:gy W W.heap.size A n l):aR aj 249 #[.slice A n c,.int .i64 k] W (gP W (.int .i64 (eX l k:Nat))):=by
 have hl:=hr.len;have h0:=ah (vO l k);have h1:(k:Int)+2<=c:=by omega
 have h2:(k:Int)<=(k:Int)+2:=by omega
 have P:=hr.Ti (z:=k) (b:=k+2) (c:=c) (by omega) (by omega) (by omega);rw[kI,if_neg (by omega)]at P;have C:=ah (NQ _ 2 (c-k) _ W (by omega) (by omega) P);rw[JL l k (by omega)]at C;have h3:wrap64 (eX l k:Nat)=(eX l k:Nat):=by have:=h0.out;unfold wrap64;omega
 generalize eX l k=x at *;clear P hr;go_enter Tryz.func249,Tryz.ntmps249;go_wp2_with (go_at_call 180;with_reducible refine C.out.mono ?_;rintro e w' ⟨rfl,hb⟩);go_ret;exact⟨congrArg (fun z=>uz (.int .i64 z)) h3,hb⟩
theorem aoE(i:Int)(hi:i=k)(hk:k+1<n)(tX:n<=c)(hc:c<=9223372036854775807)(hr:gy W W.heap.size A n l):aR aj 249 #[.slice A n c,.int .i64 i] W (gP W (.int .i64 (eX l k:Nat))):=by subst hi;exact aoD W A n c l k hk tX hc hr
theorem ak6(hk:k+1<n)(tX:n<=c)(hc:c<=9223372036854775807)(hr:gy W W.heap.size A n l):aR aj 177 #[.slice A n c,.int .i64 k] W (gP W (.int .i64 (eX l k:Nat))):=by
 have hl:=hr.len;have h0:=ah (vO l k);have h1:(k:Int)+2<=c:=by omega
 have h2:(k:Int)<=(k:Int)+2:=by omega
 have P:=hr.Ti (z:=k) (b:=k+2) (c:=c) (by omega) (by omega) (by omega);rw[kI,if_neg (by omega)]at P;have C:=ah (NQ _ 2 (c-k) _ W (by omega) (by omega) P);rw[JL l k (by omega)]at C;have h3:wrap64 (eX l k:Nat)=(eX l k:Nat):=by have:=h0.out;unfold wrap64;omega
 generalize eX l k=x at *;clear P hr;go_enter Tryz.func177,Tryz.ntmps177;go_wp2_with (go_at_call 180;with_reducible refine C.out.mono ?_;rintro e w' ⟨rfl,hb⟩);go_ret;exact⟨congrArg (fun z=>uz (.int .i64 z)) h3,hb⟩
theorem Pn(i:Int)(hi:i=k)(hk:k+1<n)(tX:n<=c)(hc:c<=9223372036854775807)(hr:gy W W.heap.size A n l):aR aj 177 #[.slice A n c,.int .i64 i] W (gP W (.int .i64 (eX l k:Nat))):=by subst hi;exact ak6 W A n c l k hk tX hc hr
theorem aht(hk:k+1<n)(Ue:n<=1000000000)(hr:gy W B A n l):aR aj 299 #[.slice A n c,.int .i64 k] W fun e W'=>e=.returned (.int .i64 (eX l k:Nat))/\∃q,W'=W.drewN q:=by
 obtain⟨a,rfl,_,h1⟩:=hr.fE (show k<n by omega);obtain⟨a',e,_,h2⟩:=hr.fE hk;injection e with e
 subst e;have h3:=h2;unfold rF at h3;rw[if_neg (by omega)]at h3;have H:=ah (show eX l k=256*(l.getD k 0).toNat+(l.getD (k+1) 0).toNat from rfl);have b1:=(l.getD k 0).toNat_lt;have b2:=(l.getD (k+1) 0).toNat_lt;unfold bv at h1 h2 h3;generalize(l.getD k 0).toNat=x at *;generalize(l.getD (k+1) 0).toNat=y at *;have hk1:(k:Int)<n:=by omega
 have YU:(k:Int)+1<n:=by omega
 have hk3:(0:Int)<=(k:Int)+1:=by omega
 have w1:=jU ((k:Int)+1) (by omega);have w2:=jU (x:Int) (by omega);have w3:=jU (y:Int) (by omega);have w4:=jU (256*(x:Int)) (by omega);have w5:=jU (256*(x:Int)+y) (by omega);clear hr;go_enter Tryz.func299,Tryz.ntmps299;go_wp2_with fail;go_quiet (fail);go_wp2;go_ret;exact⟨by rw[H.out];rfl,_,rfl⟩
theorem JM(hk:2<=n)(tX:n<=c)(hc:c<=9223372036854775807)(hr:gy W W.heap.size A n l):aR aj 173 #[.slice A n c] W (gP W (.int .i64 (eX l 0:Nat))):=by
 have hl:=hr.len;have h0:=ah (vO l 0);have h1:(2:Int)<=c:=by omega
 have P:gy W W.heap.size A 2 (l.take 2):=by
  have:=Rd.upto hr (k:=2) (by omega);rw[gF,<-List.map_take]at this;exact this
 have C:=ah (NQ _ 2 c _ W (by omega) (by omega) P);rw[show oJ ((l.take 2).take 8)=eX l 0 from JL l 0 (by omega)]at C;have h3:wrap64 (eX l 0:Nat)=(eX l 0:Nat):=by have:=h0.out;unfold wrap64;omega
 generalize eX l 0=x at *;clear P hr;go_enter Tryz.func173,Tryz.ntmps173;go_wp2_with (go_at_call 180;with_reducible refine C.out.mono ?_;rintro e w' ⟨rfl,hb⟩);go_ret;exact⟨congrArg (fun z=>uz (.int .i64 z)) h3,hb⟩
def uw(n:Int):Bool:=decide (n=33024\/n=34984)
theorem acw(n:Int):aR aj 174 #[.int .i64 n] W fun e W'=>e=.returned (.bool (uw n))/\W=W':=by
 go_enter Tryz.func174,Tryz.ntmps174;go_wp2
 all_goals(go_ret;refine⟨?_,rfl⟩;(by_cases h1:n=33024<;>by_cases h2:n=34984<;>simp_all[uw]))
end
structure Lk where
 dst:Vector UInt8 6
 src:Vector UInt8 6
 fH:List Tg
 oF:Int
 fE:Nat
def Fy:Lk:=⟨bG 6 0,bG 6 0,[],0,0⟩
def Dv(l:List UInt8):Nat->Nat->List Tg->Lk×Int
 | m,k,fH=>if uw (eX l (k-2))then(match m with
  | 0=>(Fy,4)
  | m+1=>if l.length<k+4 then(Fy,2)else Dv l m (k+4) (fH++[⟨eX l (k-2),eX l k⟩]))
   else(⟨qv 6 l,qv 6 (l.drop 6),fH,eX l (k-2),k⟩,0)
theorem Aj{l:List UInt8}{m k:Nat}{fH:List Tg}(h:uw (eX l (k-2):Nat)=false):Dv l m k fH=(⟨qv 6 l,qv 6 (l.drop 6),fH,eX l (k-2),k⟩,0):=by cases m<;>simp[Dv,h]
theorem KY{l:List UInt8}{k:Nat}{fH:List Tg}(h:uw (eX l (k-2):Nat)=true):Dv l 0 k fH=(Fy,4):=by simp[Dv,h]
theorem Cx{l:List UInt8}{m k:Nat}{fH:List Tg}(h:uw (eX l (k-2):Nat)=true)(h2:l.length<k+4):Dv l (m+1) k fH=(Fy,2):=by simp[Dv,h,h2]
theorem Fz{l:List UInt8}{m k:Nat}{fH:List Tg}(h:uw (eX l (k-2):Nat)=true)(h2:¬l.length<k+4):Dv l (m+1) k fH=Dv l m (k+4) (fH++[⟨(eX l (k-2):Nat),(eX l k:Nat)⟩]):=by simp[Dv,h,h2]
def mD(l:List UInt8):Lk×Int:=if l.length<14 then(Fy,2)else Dv l 2 14 []
def Lk.cell(x:Lk)(A:Option aU)(c:Nat):Lc:=⟨x.dst,x.src,A,x.fH.length,c,x.oF,x.fE⟩
def LkP(W:au)(r:Lk×Int)(e:kX)(W':au):Prop:=∃A c,e=.returned (.tuple #[.agg (r.1.cell A c).aA,.int .i64 r.2])/\iO Tg.aA 2 W' W'.heap.size A r.1.fH.length r.1.fH/\aN W.heap.size W W'
theorem Hg{q r v:Array aC}(h:v.size=q.size):sJ (q++r) 0 v=v++r:=by
 have:=Xc #[] (q++r) v (by simp;omega);simp only[Array.empty_append,Array.size_empty]at this;rw[this,h];simp[dA,uq]
theorem qU{p q r v:Array aC}(h:v.size=q.size)(k:Nat)(hk:p.size=k):sJ (p++(q++r)) k v=p++(v++r):=by
 subst hk;rw[Xc p (q++r) v (by simp;omega),h,fT];simp[dA,uq]
theorem dL.setCells{W:au}{b:Nat}{c:Array aC}(h:dL W b c)(o:Nat)(vs:List aC):dL (W.setCells b o vs) b (sJ c o vs.toArray):=by
 obtain⟨t,h⟩:=h;exact⟨t,VD b t vs o c W h⟩
theorem Lc.acx(x:Lc)(v:Vector UInt8 6):sJ x.aA 0 (Bv v)=({x with dst:=v}:Lc).aA:=by
 unfold Lc.aA;exact Hg (by rw[gG,gG])
theorem Lc.acy(x:Lc)(v:Vector UInt8 6):sJ x.aA 6 (Bv v)=({x with src:=v}:Lc).aA:=by
 unfold Lc.aA;exact qU (by rw[gG,gG]) 6 (gG _)
theorem FC{P:eF}(W:au){B y o m n c d:Nat}{A:Option aU}{l:List UInt8}(hR:gy W B A n l)(hm:m<=n)(hm0:0<m)(hth:W.there y o m)(T ty e:bM)(hu:P.underlying T=some (.slice e))(hs:(P.info? e).map (·.size)=some 1):
 (qI #[T,T] ty #[.slice (some ⟨y,o,none⟩) m d,.slice A n c]).run P W=.ok (goInt m) (W.setCells y o ((l.take m).map bv)):=by
 have hn:=hR.len;obtain⟨a,rfl,_,hc⟩:=hR.2 (by omega);have hl:((l.take m).map bv).length=m:=by simp;omega
 have:=run_copy_cells (P:=P) W T T ty e y o m d a n c ((l.take m).map bv) hu hs (by rw[hl];exact(Nat.min_eq_right hm).symm) (fun j v hj=>hc j v (by
  have hj2:j<m:=by
   rcases bf j m with h|h
   ·exact h
   ·rw[aT (by rw[hl];exact h)]at hj;cases hj
  rw[jD,ig hj2,<-jD]at hj;exact hj)) (fun j hj=>(hth j (by rw[hl]at hj;exact hj)).1) (fun j hj=>(hth j (by rw[hl]at hj;exact hj)).2) (Kr _)
 rw[hl]at this;exact this
theorem Po(k:Nat)(l:List UInt8)(h:k<=l.length):(l.take k).map bv=(qv k l).toList.map bv:=by
 congr 1;apply iI;intro j;rcases bf j k with hj|hj
 ·rw[ig hj]
  simp[qv,hj,av,aD (show j<l.length by omega)]
 ·rw[aT (by simp;omega),aT (by simpa using hj)]
theorem asw:acj 106 268 Tg.aA 2:=by
 obtain⟨i,h1,h2,h3⟩:=kTg.ahp;have h4:(aj.info? 268).map (fun i=>decide (i.bytes<=1000))=some true:=by kernel_rfl
 rw[h1]at h4;simp at h4;exact⟨i,_,Tryz.underlying106,h1,h3,h2,Tg.ak _,by omega,h4,Tg.ak,Tg.cB⟩
def auS(n:Nat)(ps:Array (Nat×aC)):xO aC:=bJ 106 n ps
@[go_sem ↓]theorem aBP(n:Nat)(ps:Array (Nat×aC)):bJ 106 n ps=auS n ps:=rfl
@[go_sem]theorem azx(w:au)(x:Tg):(auS 1 #[(0,.agg x.aA)]).run aj w=.ok (.slice (some ⟨w.heap.size,0,none⟩) 1 1) (w.alloc (.cells x.aA 268)):=by
 obtain⟨i,h1,h2,h3⟩:=kTg.ahp;exact rX w _ _ i (.agg Us.aA) 2 Tryz.underlying106 h1 h3 h2 (Tg.ak _) (by omega) (by omega) x.aA (Tg.ak x)
section
variable {α:Type} {f:α->Array aC} {sz:Nat} {e:bM} {L:List (Nat×Array aC)} {w0 W:au} {v:aC} {l:List α} {q:Nat} {c:Array aC}
theorem Rz.aoF(h:Rz f sz e ((q,c)::L) w0 W v l)(hq:w0.heap.size<=q)(hL:∀p∈L,p.1≠q)(j:Nat)(u:aC):Rz f sz e ((q,c.setIfInBounds j u)::L) w0 (W.setCell ⟨q,j,none⟩ u) v l:=
 ⟨Vy h.vU (h.bx (q,c) (by simp)).2 u,h.dF.setCell hq u,fun p hp=>by
  rcases bD.1 hp with rfl|hp
  ·exact⟨h.b0.eG j u,(h.bx (q,c) (by simp)).2⟩
  ·obtain⟨h1,h2⟩:=h.bx p (by simp[hp]);exact⟨h1.dM _ u (fun e=>hL p hp e.symm),h2⟩⟩
theorem acz{base size n:Nat}{xs:List aC}(vs:List aC):∀(o:Nat)(W:au),W.ownsRow base e size v n xs->v.ownBlock≠some q->(W.setCells q o vs).ownsRow base e size v n xs:=by
 induction vs with
 | nil=>exact fun _ _ h _=>h
 | cons u vs ih=>intro o W h hq;exact ih (o+1) _ (Vy h hq u) hq
theorem Rz.axe(h:Rz f sz e ((q,c)::L) w0 W v l)(hq:w0.heap.size<=q)(hL:∀p∈L,p.1≠q)(o:Nat)(x:Array aC):Rz f sz e ((q,sJ c o x)::L) w0 (gT W q o x) v l:=
 ⟨acz _ _ _ h.vU (h.bx (q,c) (by simp)).2,lq h.dF q o x hq,fun p hp=>by
  rcases bD.1 hp with rfl|hp
  ·exact⟨by have:=h.b0.setCells o x.toList;simpa[gT]using this,(h.bx (q,c) (by simp)).2⟩
  ·obtain⟨h1,h2⟩:=h.bx p (by simp[hp]);exact⟨h1.gD (hL p hp),h2⟩⟩
theorem Rz.swap{p1 p2:Nat×Array aC}(h:Rz f sz e (p1::p2::L) w0 W v l):Rz f sz e (p2::p1::L) w0 W v l:=
 ⟨h.vU,h.dF,fun p hp=>h.bx p (by simp at hp⊢;rcases hp with h|h|h<;>simp[h])⟩
end
theorem Rz.ans{α:Type}{f:α->Array aC}{sz:Nat}{e:bM}{w0 W:au}{v:aC}{l:List α}{q r:Nat}{c d x:Array aC}(h:Rz f sz e [(q,c),(r,d)] w0 W v l)(hr:w0.heap.size<=r)(pY:r≠q)(hx:x.size=d.size):Rz f sz e [(r,x),(q,c)] w0 (gT W r 0 x) v l:=by
 have h1:=h.swap.axe hr (fun p hp=>by rw[List.mem_singleton.1 hp];exact fun e=>pY e.symm) 0 x;refine⟨h1.vU,h1.dF,fun p hp=>?_⟩;rcases bD.1 hp with rfl|hp
 ·exact⟨h.b1.put x hx,(h.bx (r,d) (by simp)).2⟩
 ·exact h1.bx p (by simp[hp])
theorem axf{ops:Array iV}{o:iV}{a:re}{W:au}{K:re->au->Prop}{Q:Aq->re->au->Prop}{E:Prop}(Gl:o.guard=none)(h:nD aj o a W K Q):if fC o (yielded ops a.tmps)=true then nD aj o a W K Q else E:=by
 have hw:fC o (yielded ops a.tmps)=true:=by simp[fC,Gl]
 rw[if_pos hw];exact h
theorem axg{α:Type}{f:α->Array aC}{sz:Nat}{e t:bM}{L:List (Nat×Array aC)}{w0 W:au}{l ys:List α}(T:acj t e f sz){ops:Array iV}{o:iV}{a:re}{K:re->au->Prop}{Q:Aq->re->au->Prop}{E:Prop}(Gl:o.guard=none)(s x:pQ)
 (ho:o.op=.call {callee:=.builtin .append,args:=#[s,x],argTypes:=#[t,t]}) (v:aC) (A:Option aU) (m c:Nat) (hs:a.eval s=v) (H:Rz f sz e L w0 W v l) {C:Nat} (hx:a.eval x=.slice A m c) (hr:iO f sz W C A m ys)
 (hlen:l.length+m<=1000000)
 (h:∀A' n' c' w',Rz f sz e L w0 w' (.slice A' n' c') (l++ys)->W.grownBy w' v.ownBlock->K (a.put o.dst (.slice A' n' c')) w'):if fC o (yielded ops a.tmps)=true then nD aj o a W K Q else E:=
 asf T Gl s x ho hs H hx hr hlen h
@[go_sem]theorem aBQ(W:au)(t k:Int):(uW 108 #[(3,.int .i64 t),(4,.int .i64 k)]).run aj W=.ok (.agg (Lc.mk (bG 6 0) (bG 6 0) none 0 0 t k).aA) W:=
 kLc.bd W _ _ _ _ uE (aBL W _ uE) rfl
def nR(l:List UInt8)(k:Nat):Nat:=(l.getD k 0).toNat
theorem vC(l:List UInt8)(k:Nat):nR l k<256:=(l.getD k 0).toNat_lt
def JN(l:List UInt8):fu:=⟨false,qv 16 (l.take 4)⟩
def M7(l:List UInt8):Nat:=nR l 0%16*4
def RG(l:List UInt8):Fo:=⟨M7 l,eX l 2,nR l 1,eX l 4,decide (eX l 6%16384≠0),decide (eX l 6/16384%2=1),nR l 8,nR l 9,JN (l.drop 12),JN (l.drop 16)⟩
def DV(l:List UInt8):Int:=
 if l.length<20 then 2 else if nR l 0/16≠4\/M7 l<20 then 3 else if l.length<M7 l then 2 else if eX l 2<M7 l then 3
 else if l.length<eX l 2 then 2 else if xE (l.take (M7 l))≠0 then 8 else 0
def AB(l:List UInt8):Fo×Int:=if DV l=0 then(RG l,0)else(xK,DV l)
theorem fu.JO(a:fu):a.aA = #[.bool a.j6]++iU a.b:=by simp[fu.aA,iU]
section
variable (W:au) (A:Option aU) (n c B:Nat) (l:List UInt8)
theorem aHS(l:List UInt8)(h:4<=l.length):sJ ng.aA 1 ((l.take 4).map bv).toArray=(JN l).aA:=by
 apply dV;intro j;rw[EL,fu.JO,fu.JO];rcases j with _|j
 ·simp[ng,JN,aG]
 ·rw[auR,auR]
  have hs:((l.take 4).map bv).toArray.size=4:=by simp;omega
  rw[hs,nW,dK];have hb:∀v:Vector UInt8 16,∀k,k<16->(iU v)[k]? = some (bv (v.toList.getD k 0)):=by
   intro v k hk;simp[iU,av,hk]
  rcases(show j<4\/(4<=j/\j<16)\/16<=j by omega)with h|⟨h,h'⟩|h
  ·rw[if_pos ⟨by omega,by omega,by simp;omega⟩,hb _ _ (by omega)]
   simp[JN,qv,show j<16 by omega,h,av,ig h,aD (show j<l.length by omega)]
  ·rw[if_neg (by omega),hb _ _ h',hb _ _ h']
   have:(l.take 4).length<=j:=by simp;omega
   congr 2;rw[show ng.b.toList=dU 16 0 from Vector.toList_replicate,av,List.getElem?_replicate,if_pos h'];simp[JN,qv,h',av,aT this]
  ·rw[if_neg (by omega),aV (by rw[dK];exact h),aV (by rw[dK];exact h)]
theorem aaB(hn:4<=n)(hr:gy W W.heap.size A n l):aR aj 248 #[.slice A n c] W (gP W (.agg (JN l).aA)):=by
 have hl:=hr.len;have B1:=ah (((aH W.heap.size W).alloc (ay _) (.cells ng.aA 27)).alloc (by simp) (.cells ng.aA 27));have x1:=ah (dL.Vv W (.cells ng.aA 27) ng.aA 27);have x0:=ah ((dL.new W ng.aA 27).alloc (.cells ng.aA 27));have R1:=ah ((hr.below B1.out).lF B1.out.size:gy ((W.alloc (.cells ng.aA 27)).alloc (.cells ng.aA 27)) ((W.alloc (.cells ng.aA 27)).alloc (.cells ng.aA 27)).heap.size A n l);go_enter Tryz.func248,Tryz.ntmps248;generalize Io:(W.alloc (.cells ng.aA 27)).alloc (.cells ng.aA 27)=w1 at B1 x1 x0 R1;have cp:∀ty,(qI #[56,56] ty #[.slice (some ⟨W.heap.size+1,1,none⟩) 4 16,.slice A n c]).run aj w1=.ok (goInt 4) (gT w1 (W.heap.size+1) 1 ((l.take 4).map bv).toArray):=fun ty=>by
  have h1:=x1.out.there 1 4 (by rw[fu.ak];omega);have:=FC (c:=c) (d:=16) w1 R1.out (m:=4) hn (by omega) h1 56 ty 5 dw aoh;rw[this];simp only[gT,List.toList_toArray];rfl
 have x2:=ah (x1.out.setCells 1 ((l.take 4).map bv));rw[aHS l (by omega)]at x2;have x3:=ah (show dL (gT w1 (W.heap.size+1) 1 ((l.take 4).map bv).toArray) (W.heap.size+1) (JN l).aA by have:=x2.out;simp only[gT,List.toList_toArray];exact this);have x4:=ah (show dL (gT w1 (W.heap.size+1) 1 ((l.take 4).map bv).toArray) W.heap.size ng.aA from x0.out.gD (by omega));have B2:=ah (lq B1.out (W.heap.size+1) 1 ((l.take 4).map bv).toArray (by omega));obtain⟨a,ha⟩:∃a,a=JN l:=⟨_,rfl⟩
 rw[<-ha]at x3 ⊢;clear ha;obtain⟨v,hv⟩:∃v,v=((l.take 4).map bv).toArray:=⟨_,rfl⟩
 rw[<-hv]at cp x3 x4 B2;clear hv x2;obtain⟨y1,y2,y3,y4⟩:=x3.out.aI;have th:=x4.out.there 0 17 (by rw[fu.ak];omega);go_upto_region 2 with fail
 clear Io;go_wp2;have x5:=ah (x4.out.put a.aA (by rw[fu.ak,fu.ak]));refine bodyPost_ret (aco.zM rfl _ rfl x5.out (fu.ak _)) rfl ?_;exact⟨rfl,lq B2.out _ _ _ (ay _)⟩
end
theorem aBR(b:Nat)(h:b<256):bits .and .u8 (b:Int) 15=((b%16:Nat):Int):=(by decide +kernel:∀b:Fin 256,bits .and .u8 ((b.val:Nat):Int) 15=((b.val%16:Nat):Int)) ⟨b,h⟩
theorem aBS(x:Nat)(hx:x<=65535):(bits .and .i64 (x:Int) 16383 != 0)=decide (x%16384≠0):=by
 have h1:(fU 64 (x:Int)).toNat=x:=by rw[lU,nG];exact fM (by omega)
 have:bits .and .i64 (x:Int) 16383=((x%16384:Nat):Int):=by
  show bU.wrap ((fU 64 (x:Int) &&& fU 64 16383).toNat:Int)=_;rw[Gj,h1,show(fU 64 16383).toNat=2^14-1 by decide,Nat.and_two_pow_sub_one_eq_mod,jU _ (by omega)]
 rw[this,cO];simp;omega
theorem asx(x k:Nat):(x &&& 2^k=0)↔x.testBit k=false:=by
 constructor
 ·intro h
  have:=congrArg (fun z=>Nat.testBit z k) h;simpa[Nat.testBit_and,Nat.testBit_two_pow]using this
 ·intro h
  apply Nat.eq_of_testBit_eq;intro i;rw[Nat.testBit_and,Nat.testBit_two_pow,Nat.zero_testBit];by_cases hi:k=i
  ·subst hi;simp[h]
  ·simp[hi]
theorem ak7(x:Nat)(hx:x<=65535):(bits .and .i64 (x:Int) 16384 != 0)=decide (x/16384%2=1):=by
 have h1:(fU 64 (x:Int)).toNat=x:=by rw[lU,nG];exact fM (by omega)
 have h2:x &&& 2^14<=x:=Nat.and_le_left;have:bits .and .i64 (x:Int) 16384=((x &&& 2^14:Nat):Int):=by
  show bU.wrap ((fU 64 (x:Int) &&& fU 64 16384).toNat:Int)=_;rw[Gj,h1,show(fU 64 16384).toNat=2^14 by decide,jU _ (by omega)]
 have h3:=asx x 14;rw[Nat.testBit_eq_decide_div_mod_eq]at h3;have h4:((x &&& 2^14:Nat):Int)=0↔x &&& 2^14=0:=by omega
 rw[this,cO,bne_iff_ne,decide_eq_true_eq,Ne,h4,h3,decide_eq_false_iff_not,Classical.not_not]
theorem Ho{l:List UInt8}{k:Int}(h:DV l=k)(hk:k≠0):AB l=(xK,k):=by unfold AB;rw[h,if_neg hk]
theorem axh{l:List UInt8}(h:DV l=0):AB l=(RG l,0):=by unfold AB;rw[if_pos h]
def FoP(W:au)(r:Fo×Int)(e:kX)(W':au):Prop:=e=.returned (.tuple #[.agg r.1.aA,.int .i64 r.2])/\aN W.heap.size W W'
theorem asz:lW 1 = #[0]:=by apply oZ;rw[j5];rfl
@[go_sem]theorem auT(w:au)(A:Option aU)(a b:Nat):(GZ 1 #[(0,.slice A a b)]).run aj w=.ok (.slice (some ⟨w.heap.size,0,none⟩) 1 1) (w.alloc (.cells #[.slice A a b] 56)):=by
 obtain⟨i0,oz,mZ,nu⟩:=U0;simp[GZ,bJ,dJ Ea,zeroValue,sizeOf,typeInfo,oz,mZ,nu,fB,newRow,cu,asz]
theorem gy.Ze{w:au}{B n:Nat}{A:Option aU}{l:List UInt8}(h:gy w B A n l)(k:Nat)(hk:k+1<n):∃a,A=some a/\w.cell? ⟨a.block,a.off+(k+1),none⟩=some (.int .u8 (nR l (k+1))):=by
 obtain⟨a,e,_,h1⟩:=h.fE hk;unfold rF at h1;rw[if_neg (by omega)]at h1;exact⟨a,e,h1⟩
theorem Pp(W:au)(A:Option aU)(n c:Nat)(l:List UInt8)(tX:n<=c)(hc:c<=9223372036854775807/\n<=1000000000)(hr:gy W W.heap.size A n l):aR aj 175 #[.slice A n c] W (FoP W (AB l)):=by
 have HR:=ah hr;have hl:=ah hr.len;have b0:=ah (dL.new W xK.aA 192);have B0:=ah ((aH W.heap.size W).alloc (ay _) (.cells xK.aA 192));clear hr;go_enter Tryz.func175,Tryz.ntmps175;by_cases h20:n<20
 ·have asA:(n:Int)<20:=by omega
  have H:=ah (show AB l=(xK,2)from Ho (by unfold DV;rw[if_pos (by rw[hl.out];exact h20)]) (by decide));go_wp2;refine bodyPost_ret (kFo.qL rfl _ rfl b0.out (Fo.ak _)) rfl ?_;rw[H.out];exact⟨rfl,B0.out⟩
 have asA:¬(n:Int)<20:=by omega
 have i0:(0:Int)<n:=by omega
 have i0':0<n:=by omega
 generalize Io:W.alloc (.cells xK.aA 192)=w1 at b0 B0;obtain⟨T,f,n0,E0,es,ew⟩:=Jm (fun W'=>aN W.heap.size W W'/\dL W' W.heap.size xK.aA) w1 ⟨B0.out.drew,b0.out.drew⟩;have hT:Nonempty T:=⟨n0⟩
 have ES:=ah es;have EW:=ah ew;clear es ew;have RF:=ah (fun m=>(HR.out.below (ES.out m).1).lF (ES.out m).1.size:∀m,gy (f m) (f m).heap.size A n l);have C2:=ah (fun m=>acv (f m) A n c l 2 2 rfl (by omega) tX (by omega) (RF.out m));have C6:=ah (fun m=>acv (f m) A n c l 6 6 rfl (by omega) tX (by omega) (RF.out m));obtain⟨a,rfl,EH,hc0⟩:=HR.out.fE (show 0<n by omega);rw[Qr]at hc0;have hf0:∀m,(f m).cell? a=some (.int .u8 (nR l 0)):=fun m=>((ES.out m).1.cell EH).trans hc0
 have hb:=vC l 0;have hA:=aBR _ hb;have aHU:=jU ((nR l 0%16:Nat):Int) (by omega);have aHV:=jU (((nR l 0%16:Nat):Int)*4) (by omega);clear hc0;go_upto_region 3 with fail
 clear Io;refine pK f (by kernel_rfl) (by kernel_rfl) n0 E0 ?_
 repeat(go_big_quiet_step ((first
  | (go_at_call 246;with_reducible refine(C2.out _).mono ?_;rintro e w2 ⟨rfl,hb⟩;exact⟨rfl,EW.out _ ⟨(ES.out _).1.trans (hb.mono (ES.out _).1.size),(ES.out _).2.go hb⟩⟩)
  | (go_at_call 246;with_reducible refine(C6.out _).mono ?_;rintro e w2 ⟨rfl,hb⟩;exact⟨rfl,EW.out _ ⟨(ES.out _).1.trans (hb.mono (ES.out _).1.size),(ES.out _).2.go hb⟩⟩))))
 refine wpQuiet_nil ?_;rintro _ ⟨m,rfl⟩;obtain⟨hS1,hS2⟩:=ES.out m;have S1:=ah hS1;have S2:=ah hS2;have R2:=ah (RF.out m);have cb:=hf0 m;clear hS1 hS2 ES EW RF C2 C6 hf0 E0 hT n0 hA aHU aHV;generalize f m=w2 at *;have HE:=ah (fun(x:Fo)=>show dL (gT w2 W.heap.size 0 x.aA) W.heap.size x.aA/\aN W.heap.size W (gT w2 W.heap.size 0 x.aA)from⟨S2.out.put x.aA (by rw[Fo.ak,Fo.ak]),lq S1.out _ _ _ (ay _)⟩);have zq:=S2.out.there 0 42 (by rw[Fo.ak];omega);obtain⟨hd,hhd⟩:∃hd,hd=M7 l:=⟨_,rfl⟩
 have HD:=ah hhd.symm;have ehd:(nR l 0:Int)%16*4=(hd:Int):=by rw[hhd];unfold M7;omega
 obtain⟨t,ht⟩:∃t,t=eX l 2:=⟨_,rfl⟩
 have HT:=ah ht.symm;have NC:t<=65535:=by rw[ht];exact vO l 2
 rw[<-ht];clear hhd ht;have N20:=ah (show¬l.length<20 by rw[hl.out];exact h20);by_cases e1:¬nR l 0/16=4
 ·have q:((nR l 0:Int)/16 != 4)=true:=by rw[bne_iff_ne];omega
  have H:=ah (show AB l=(xK,3)from Ho (by unfold DV;rw[if_neg N20.out,if_pos (.inl e1)]) (by decide));go_wp2;refine bodyPost_ret (kFo.qL rfl _ rfl (HE.out xK).1 (Fo.ak _)) rfl ?_;rw[H.out];exact⟨rfl,(HE.out xK).2⟩
 have qe1:((nR l 0:Int)/16 != 4)=false:=by simp;omega
 by_cases e2:hd<20
 ·have q:(hd:Int)<20:=by omega
  have H:=ah (show AB l=(xK,3)from Ho (by unfold DV;rw[if_neg N20.out,if_pos (.inr (by rw[HD.out];exact e2))]) (by decide));go_wp2;refine bodyPost_ret (kFo.qL rfl _ rfl (HE.out xK).1 (Fo.ak _)) rfl ?_;rw[H.out];exact⟨rfl,(HE.out xK).2⟩
 have qe2:¬(hd:Int)<20:=by omega
 by_cases e3:n<hd
 ·have q:(n:Int)<hd:=by omega
  have H:=ah (show AB l=(xK,2)from Ho (by unfold DV;rw[if_neg N20.out,if_neg (fun h=>h.elim e1 (by rw[HD.out];exact e2)),if_pos (by rw[hl.out,HD.out];exact e3)]) (by decide));go_wp2;refine bodyPost_ret (kFo.qL rfl _ rfl (HE.out xK).1 (Fo.ak _)) rfl ?_;rw[H.out];exact⟨rfl,(HE.out xK).2⟩
 have qe3:¬(n:Int)<hd:=by omega
 by_cases e4:t<hd
 ·have q:(t:Int)<hd:=by omega
  have H:=ah (show AB l=(xK,3)from Ho (by unfold DV;rw[if_neg N20.out,if_neg (fun h=>h.elim e1 (by rw[HD.out];exact e2)),if_neg (by rw[hl.out,HD.out];exact e3),if_pos (by rw[HT.out,HD.out];exact e4)]) (by decide));go_wp2;refine bodyPost_ret (kFo.qL rfl _ rfl (HE.out xK).1 (Fo.ak _)) rfl ?_;rw[H.out];exact⟨rfl,(HE.out xK).2⟩
 have qe4:¬(t:Int)<hd:=by omega
 by_cases e5:n<t
 ·have q:(n:Int)<t:=by omega
  have H:=ah (show AB l=(xK,2)from Ho (by unfold DV;rw[if_neg N20.out,if_neg (fun h=>h.elim e1 (by rw[HD.out];exact e2)),if_neg (by rw[hl.out,HD.out];exact e3),if_neg (by rw[HT.out,HD.out];exact e4),if_pos (by rw[hl.out,HT.out];exact e5)]) (by decide));go_wp2;refine bodyPost_ret (kFo.qL rfl _ rfl (HE.out xK).1 (Fo.ak _)) rfl ?_;rw[H.out];exact⟨rfl,(HE.out xK).2⟩
 have qe5:¬(n:Int)<t:=by omega
 have FE:=ah (show DV l=if xE (l.take hd)≠0 then 8 else 0 by
  unfold DV;rw[if_neg N20.out,if_neg (fun h=>h.elim e1 (by rw[HD.out];exact e2)),if_neg (by rw[hl.out,HD.out];exact e3),if_neg (by rw[HT.out,HD.out];exact e4),if_neg (by rw[hl.out,HT.out];exact e5),HD.out])
 have PH:gy w2 w2.heap.size (some a) hd (l.take hd):=by
  have:=Rd.upto R2.out (k:=hd) (by omega);rw[gF,<-List.map_take]at this;exact this
 have S3:=ah (S1.out.alloc S1.out.size (.cells #[.slice (some a) hd c] 56));have C13:=ah (aed (w2.alloc (.cells #[.slice (some a) hd c] 56)) w2.heap.size (some a) hd c w2.heap.size (l.take hd) (by omega) (mU _ _ _ _) (PH.alloc (ay _) _));have S4:=ah (S2.out.alloc (.cells #[.slice (some a) hd c] 56));have R4:=ah ((R2.out.alloc (ay _) (.cells #[.slice (some a) hd c] 56)).lF (by simp):gy (w2.alloc (.cells #[.slice (some a) hd c] 56)) (w2.alloc (.cells #[.slice (some a) hd c] 56)).heap.size (some a) n l);have i4:(hd:Int)<=c:=by omega
 have hn4:=aec;clear PH HE zq S1 S2 R2;obtain⟨d,hd⟩:∃d,d=decide (xE (l.take hd)=0):=⟨_,rfl⟩
 have DD:=ah hd;rw[<-hd]at C13;clear hd;cases d with
 | false=>
   go_upto_region 14 with(go_at_call 247;with_reducible refine C13.out.mono ?_;rintro e w3 ⟨rfl,rfl⟩)
   obtain⟨w3,Me⟩:∃w3,w3=w2.alloc (.cells #[.slice (some a) hd c] 56):=⟨_,rfl⟩
   rw[<-Me]at S3 S4 R4 ⊢;clear Me C13;have HE:=ah (fun(x:Fo)=>show dL (gT w3 W.heap.size 0 x.aA) W.heap.size x.aA/\aN W.heap.size W (gT w3 W.heap.size 0 x.aA)from⟨S4.out.put x.aA (by rw[Fo.ak,Fo.ak]),lq S3.out _ _ _ (ay _)⟩);have zq:=S4.out.there 0 42 (by rw[Fo.ak];omega);have e6:¬xE (l.take hd)=0:=of_decide_eq_false DD.out.symm;have H:=ah (show AB l=(xK,8)from Ho (by rw[FE.out,if_pos e6]) (by decide));go_wp2;refine bodyPost_ret (kFo.qL rfl _ rfl (HE.out xK).1 (Fo.ak _)) rfl ?_;rw[H.out];exact⟨rfl,(HE.out xK).2⟩
 | true=>
   go_upto_region 15 with(go_at_call 247;with_reducible refine C13.out.mono ?_;rintro e w3 ⟨rfl,rfl⟩)
   obtain⟨w3,Me⟩:∃w3,w3=w2.alloc (.cells #[.slice (some a) hd c] 56):=⟨_,rfl⟩
   rw[<-Me]at S3 S4 R4 ⊢;clear Me C13;have e6:xE (l.take hd)=0:=of_decide_eq_true DD.out.symm;have H0:=ah (show AB l=(RG l,0)from axh (by rw[FE.out,if_neg (by simp[e6])]));obtain⟨f1,f2,f3⟩:8<n/\9<n/\12+4<=n:=by omega
   obtain⟨u,hu⟩:∃u,u=eX l 6:=⟨_,rfl⟩
   have hu0:u<=65535:=by rw[hu];exact vO l 6
   have HU:=ah hu;clear hu;have H:=ah (show AB l=((⟨(hd:Int),(t:Int),(nR l 1:Nat),(eX l 4:Nat),decide (u%16384≠0),decide (u/16384%2=1),(nR l 8:Nat),(nR l 9:Nat),JN (l.drop 12),JN (l.drop 16)⟩:Fo),0)by rw[H0.out];unfold RG;rw[HD.out,HT.out,<-HU.out]);have HU:=ah HU.out.symm;clear H0;rw[HU.out];have G14:=aBS u hu0;have G15:=ak7 u hu0;obtain⟨T,f,n0,E0,es,ew⟩:=Jm (fun W'=>aN W.heap.size W W'/\dL W' W.heap.size xK.aA) w3 ⟨S3.out.drew,S4.out.drew⟩;have hT:Nonempty T:=⟨n0⟩
   have ES:=ah es;have EW:=ah ew;clear es ew;have RF:=ah (fun m=>(HR.out.below (ES.out m).1).lF (ES.out m).1.size:∀m,gy (f m) (f m).heap.size (some a) n l);have C4:=ah (fun m=>acv (f m) (some a) n c l 4 4 rfl (by omega) tX (by omega) (RF.out m));have R12:=ah (fun m=>(RF.out m).from (z:=12) (c:=c) (by omega) tX);have R16:=ah (fun m=>(RF.out m).from (z:=16) (c:=c) (by omega) tX);have cne:¬c=12/\¬c=16:=by omega
   simp only[if_neg cne.1,if_neg cne.2,Option.map_some,show a.add 12=⟨a.block,a.off+12,none⟩by simp[rF],show a.add 16=⟨a.block,a.off+16,none⟩by simp[rF]]at R12 R16;have C12:=ah (fun m=>aaB (f m) _ (n-12) (c-12) _ (by omega) (R12.out m));have C16:=ah (fun m=>aaB (f m) _ (n-16) (c-16) _ (by omega) (R16.out m));obtain⟨_,he1,Fg⟩:=R4.out.Ze 0 (by omega);obtain⟨_,he8,hc8⟩:=R4.out.Ze 7 (by omega);obtain⟨_,he9,hc9⟩:=R4.out.Ze 8 (by omega);cases he1;cases he8;cases he9;have Wt:∀m,(f m).cell? ⟨a.block,a.off+1,none⟩=some (.int .u8 (nR l 1)):=fun m=>by
    obtain⟨_,he,hc⟩:=(RF.out m).Ze 0 (by omega);cases he;exact hc
   have hf8:∀m,(f m).cell? ⟨a.block,a.off+8,none⟩=some (.int .u8 (nR l 8)):=fun m=>by
    obtain⟨_,he,hc⟩:=(RF.out m).Ze 7 (by omega);cases he;exact hc
   have hf9:∀m,(f m).cell? ⟨a.block,a.off+9,none⟩=some (.int .u8 (nR l 9)):=fun m=>by
    obtain⟨_,he,hc⟩:=(RF.out m).Ze 8 (by omega);cases he;exact hc
   have Qk:=jU (nR l 1) (by have:=vC l 1;omega);have hx8:=jU (nR l 8) (by have:=vC l 8;omega);have hx9:=jU (nR l 9) (by have:=vC l 9;omega);clear Fg hc8 hc9;clear R12 R16 S3 S4 R4 RF FE N20 DD HR B0 b0;refine Wo f 29 (by kernel_rfl) (by kernel_rfl) n0 E0 ?_;simp only[List.take_succ_cons,List.take_zero,List.drop_succ_cons,List.drop_zero]
   repeat(go_big_quiet_step ((first
    | (go_at_call 246;with_reducible refine(C4.out _).mono ?_;rintro e w2 ⟨rfl,hb⟩;exact⟨rfl,EW.out _ ⟨(ES.out _).1.trans (hb.mono (ES.out _).1.size),(ES.out _).2.go hb⟩⟩)
    | (go_at_call 248;with_reducible refine(C12.out _).mono ?_;rintro e w2 ⟨rfl,hb⟩;exact⟨rfl,EW.out _ ⟨(ES.out _).1.trans (hb.mono (ES.out _).1.size),(ES.out _).2.go hb⟩⟩)
    | (go_at_call 248;with_reducible refine(C16.out _).mono ?_;rintro e w2 ⟨rfl,hb⟩;exact⟨rfl,EW.out _ ⟨(ES.out _).1.trans (hb.mono (ES.out _).1.size),(ES.out _).2.go hb⟩⟩))))
   refine wpQuiet_nil ?_;rintro _ ⟨m',rfl⟩;obtain⟨hS1,hS2⟩:=ES.out m';clear ES EW C12 C16 C4 Wt hf8 hf9 E0;generalize f m'=w5 at *;clear hT n0;have HE:=ah (fun(x:Fo)=>show dL (gT w5 W.heap.size 0 x.aA) W.heap.size x.aA/\aN W.heap.size W (gT w5 W.heap.size 0 x.aA)from⟨hS2.put x.aA (by rw[Fo.ak,Fo.ak]),lq hS1 _ _ _ (ay _)⟩);have zq:=hS2.there 0 42 (by rw[Fo.ak];omega);clear hS1 hS2;obtain⟨X,hX⟩:∃X,X=(⟨(hd:Int),(t:Int),(nR l 1:Nat),(eX l 4:Nat),!decide (u%16384=0),decide (u/16384%2=1),(nR l 8:Nat),(nR l 9:Nat),JN (l.drop 12),JN (l.drop 16)⟩:Fo):=⟨_,rfl⟩
   have H:=ah (show AB l=(X,0)by rw[H.out,hX];simp only[ne_eq,decide_not]);rw[<-hX];clear hX;have hE:=HE.out X;clear HE G14 G15 Qk hx8 hx9 cne;go_step;go_simp;go_step;go_step;go_simp;go_step;go_step;go_wp2;refine bodyPost_ret (kFo.qL rfl _ rfl hE.1 (Fo.ak _)) rfl ?_;rw[H.out];exact⟨rfl,hE.2⟩
structure ak8(g:FuncId):Prop where
 run:∀(c:Nat)(w:au),aR aj g #[.int .u8 c] w fun e w'=>e=.returned (.bool ((c:Int) != 0))/\w=w'
 enter:∀(args:Array aC)(w:au),(callFunc g args).run aj w=.ok (.enter g args) w
def nzB(l:List UInt8):Bool:=l.any fun b=>b != 0
theorem aoG{l:List UInt8}(h:∀j,j<l.length->l.getD j 0=0):nzB l=false:=by
 unfold nzB;rw[List.any_eq_false];intro b hb;obtain⟨j,hj,rfl⟩:=List.getElem_of_mem hb;have:=h j hj;simp[av,hj]at this;simp[this]
theorem axk{l:List UInt8}{j:Nat}(hj:j<l.length)(h:l.getD j 0≠0):nzB l=true:=by
 unfold nzB;rw[List.any_eq_true];refine⟨l[j],List.getElem_mem _,?_⟩;simp[av,hj]at h;simp[h]
theorem aBV(g:FuncId)(G:ak8 g)(A:Option aU)(n c B:Nat)(w:au)(l:List UInt8)(hc:n<=1000000000)(hr:gy w B A n l):
 aR aj 260 #[.slice A n c,.func (.func g) #[] #[]] w fun e w'=>∃r:Int,e=.returned (.int .i64 r)/\(decide (0<=r)=nzB l)/\w=w':=by
 have hen:=G.enter;have GG:=ah G.run;have HR:=ah hr;have hl:=ah hr.len;clear hr;go_enter Tryz.func260,Tryz.ntmps260;go_wp2;go_loop [8] (fun s8=>∃i:Nat,i<=n/\s8=.int .i64 i/\∀j,j<i->l.getD j 0=0) (fun s8=>n-(intOf s8).toNat)
 case atStart=>exact⟨0,by omega,rfl,fun j h1=>by omega⟩
 case round=>
  obtain⟨i,hi,rfl,mV⟩:=hrel;have HA:=ah mV;clear mV;by_cases fP:i<n
  ·have wW:(i:Int)<n:=by omega
   obtain⟨a,rfl,EH,hcell⟩:=HR.out.fE fP;unfold bv at hcell;have hz:((l.getD i 0).toNat:Int)=0↔l.getD i 0=0:=by
    constructor
    ·intro h;apply UInt8.toNat_inj.1;have:(0:UInt8).toNat=0:=rfl;omega
    ·intro h;rw[h];rfl
   have HZ:=ah hz;clear hz EH;obtain⟨m,hm⟩:∃m:Nat,m=(l.getD i 0).toNat:=⟨_,rfl⟩
   rw[<-hm]at hcell HZ;clear hm;by_cases h0:m=0
   ·have h1:((m:Int) != 0)=false:=by rw[h0];rfl
    have mZ:l.getD i 0=0:=HZ.out.1 (by omega);have Nz:=ah mZ;clear mZ h0;go_wp2_with (refine(GG.out m _).mono ?_;rintro e w' ⟨rfl,rfl⟩);go_round
    case rel=>exact⟨i+1,by omega,by go_num,fun j h1=>by
     by_cases YA:j=i
     ·rw[YA];exact Nz.out
     ·exact HA.out j (by omega)⟩
    case measure=>simp[intOf]<;>omega
   ·have h1:((m:Int) != 0)=true:=by rw[bne_iff_ne];omega
    have Gu:=ah (axk (l:=l) (j:=i) (by rw[hl.out];exact fP) (fun h=>h0 (by have:=HZ.out.2 h;omega)));clear h0;go_wp2_with (refine(GG.out m _).mono ?_;rintro e w' ⟨rfl,rfl⟩);go_ret;exact⟨_,rfl,by rw[Gu.out];simp,rfl⟩
  ·obtain rfl:i=n:=by omega
   have HS:=ah (aoG (l:=l) (fun j hj=>HA.out j (by rw[hl.out]at hj;exact hj)));go_wp2;go_ret;exact⟨_,rfl,by rw[HS.out];simp,rfl⟩
theorem aji(g:FuncId)(G:ak8 g)(A:Option aU)(n c B:Nat)(w:au)(l:List UInt8)(hc:n<=1000000000)(hr:gy w B A n l):
 aR aj 189 #[.slice A n c,.func (.func g) #[] #[]] w fun e w'=>e=.returned (.bool (nzB l))/\w=w':=by
 have I:=ah (aBV g G A n c B w l hc hr);clear hr;go_enter Tryz.func189,Tryz.ntmps189;go_wp2_with (go_at_call 260;refine I.out.mono ?_;rintro e w' ⟨r,rfl,hr,rfl⟩);go_ret;exact⟨by simp,rfl⟩
theorem aoH:ak8 354:=⟨fun c w=>by
 go_enter Tryz.func354,Tryz.ntmps354;go_wp2;go_ret;exact⟨rfl,rfl⟩,fun args w=>by kernel_rfl⟩
theorem gy.Pq{w:au}{B b o:Nat}{l:List UInt8}(hb:b<B)(h:∀j,j<l.length->w.cell? ⟨b,o+j,none⟩=some (bv (l.getD j 0))):gy w B (some ⟨b,o,none⟩) l.length l:=by
 refine⟨by simp,fun h0=>⟨⟨b,o,none⟩,rfl,hb,fun j u hu=>?_⟩⟩;have hj:j<l.length:=by
  rcases bf j l.length with h1|h1
  ·exact h1
  ·rw[aT (by simpa using h1)]at hu;cases hu
 rw[show(⟨b,o,none⟩:aU).add j=⟨b,o+j,none⟩by unfold rF;split<;>simp_all,h j hj];rw[jD,aD hj]at hu;simp only[Option.map_some,Option.some.injEq]at hu;rw[<-hu,av,aD hj];rfl
theorem KZ(a:fu):nzB (a.b.toList.drop 4) = !a.mK:=by
 unfold nzB fu.mK;rw[List.any_eq_not_all_not];congr 2;funext c;show(!(c != 0))=(c==0);unfold bne;rw[Bool.not_not]
theorem gy.tail{w:au}{B h:Nat}{a:fu}(hb:h<B)(x:dL w h a.aA):gy w B (some ⟨h,5,none⟩) 12 (a.b.toList.drop 4):=by
 have hl:(a.b.toList.drop 4).length=12:=by rw[jA,fu.aAx]
 have:=gy.Pq (w:=w) (o:=5) (l:=a.b.toList.drop 4) hb (fun j hj=>by
  rw[hl]at hj;rw[x.aI.1 (5+j),show 5+j=(4+j)+1 by omega,fu.EU a (4+j) (by omega)];simp[av])
 rwa [hl]at this
theorem ahv(k m:Int)(w:au):aR aj 316 #[.int .i64 k,.int .i64 m] w (gP w (.bool (decide (0<=k)&&decide (k<=m)))):=by
 go_enter Tryz.func316,Tryz.ntmps316;by_cases h1:0<=k<;>by_cases h2:k<=m
 all_goals
  go_wp2;go_ret;exact⟨by simp[h1,h2],aH _ _⟩
theorem Xg(a:fu)(w:au):aR aj 317 #[.agg a.aA] w (gP w (.bool (!a.j6&&a.mK))):=by
 have HB:=ah ((aH w.heap.size w).alloc (ay _) (.cells a.aA 27));have x0:=dL.new w a.aA 27;have C:=ah (aji _ aoH _ 12 12 _ _ _ (by omega) (gy.tail (B:=w.heap.size+1) (mG _) x0));have HS:=ah (KZ a);obtain⟨z,hz⟩:∃z,z=nzB (a.b.toList.drop 4):=⟨_,rfl⟩
 rw[<-hz]at C HS;clear hz;cases h6:a.j6
 ·have H6:=ah h6
  go_enter Tryz.func317,Tryz.ntmps317;go_wp2_with fail;refine C.out.mono ?_;rintro e w' ⟨rfl,rfl⟩;cases z
  all_goals
   go_wp2;go_ret;exact⟨by have:=HS.out;simp at this;simp[<-this],HB.out⟩
 ·go_enter Tryz.func317,Tryz.ntmps317
  go_wp2;go_ret;exact⟨rfl,HB.out⟩
theorem ak'(k:Int)(w:au):aR aj 313 #[.int .i64 k] w (gP w (.int .i64 (if k=6 then 16 else if k=17 then 6 else 0))):=by
 go_enter Tryz.func313,Tryz.ntmps313;by_cases h1:k=6
 ·subst h1
  go_wp2;go_ret;exact⟨rfl,aH _ _⟩
 by_cases h2:k=17
 ·subst h2
  go_wp2;go_ret;exact⟨rfl,aH _ _⟩
 have q1:(k==6)=false:=by simp[h1]
 have q2:(k==17)=false:=by simp[h2]
 go_wp2;go_ret;exact⟨rfl,aH _ _⟩
@[go_sem]theorem aHZ(W:au)(a b c d:Int):(uW 172 #[(0,.int .i64 a),(1,.int .i64 b),(3,.int .i64 c),(4,.int .i64 d)]).run aj W=.ok (.agg (Pt.mk a b 0 c d).aA) W:=Vd.bd W _ _ _ _ pG (awZ W _ pG) rfl
def qF(aQ:Int)(l:List UInt8):Pt:=if aQ=6 then⟨eX l 0,eX l 2,(nR l 13%64:Nat),(nR l 12/16*4:Nat),l.length⟩else⟨eX l 0,eX l 2,0,8,eX l 4⟩
def vD(aQ:Int)(l:List UInt8):Int:=
 if aQ≠6/\aQ≠17 then 5 else if l.length<(if aQ=6 then 20 else 8)then 2
 else if(aQ=6/\(qF aQ l).head<20)\/(qF aQ l).dz<8 then 3 else if(l.length:Int)<max (qF aQ l).head (qF aQ l).dz then 2 else 0
def JQ(aQ:Int)(l:List UInt8):Pt×Int:=if vD aQ l=0 then(qF aQ l,0)else(qQ,vD aQ l)
theorem uR{p:Int}{l:List UInt8}{k:Int}(h:vD p l=k)(hk:k≠0):JQ p l=(qQ,k):=by unfold JQ;rw[h,if_neg hk]
theorem Xh{p:Int}{l:List UInt8}(h:vD p l=0):JQ p l=(qF p l,0):=by unfold JQ;rw[if_pos h]
def PtP(W:au)(r:Pt×Int)(e:kX)(W':au):Prop:=e=.returned (.tuple #[.agg r.1.aA,.int .i64 r.2])/\aN W.heap.size W W'
theorem gy.upon{W w1:au}{n:Nat}{A:Option aU}{l:List UInt8}(h:gy W W.heap.size A n l)(hb:aN W.heap.size W w1):gy w1 w1.heap.size A n l:=(h.below hb).lF hb.size
theorem aBW(b:Nat)(h:b<256):bits .and .u8 (b:Int) 63=((b%64:Nat):Int):=(by decide +kernel:∀b:Fin 256,bits .and .u8 ((b.val:Nat):Int) 63=((b.val%64:Nat):Int)) ⟨b,h⟩
theorem acB(W:au)(p:Int)(A:Option aU)(n c:Nat)(l:List UInt8)(tX:n<=c)(hc:c<=9223372036854775807/\n<=1000000000)(hr:gy W W.heap.size A n l):aR aj 95 #[.int .i64 p,.slice A n c] W (PtP W (JQ p l)):=by
 have HR:=ah hr;have hl:=ah hr.len;have b0:=ah (dL.new W qQ.aA 172);have B0:=ah ((aH W.heap.size W).alloc (ay _) (.cells qQ.aA 172));clear hr;go_enter Tryz.func95,Tryz.ntmps95;by_cases hp:p≠6/\p≠17
 ·have q1:(p==6)=false:=by simp[hp.1]
  have q2:(p != 17)=true:=by simp[hp.2]
  have H:=ah (show JQ p l=(qQ,5)from uR (by unfold vD;rw[if_pos hp]) (by decide));go_wp2;refine bodyPost_ret (Vd.qL rfl _ rfl b0.out (Pt.ak _)) rfl ?_;rw[H.out];exact⟨rfl,B0.out⟩
 have HP:=ah hp;by_cases p6:p=6
 ·subst p6
  by_cases h20:n<20
  ·have asA:(n:Int)<20:=by omega
   have H:=ah (show JQ 6 l=(qQ,2)from uR (by unfold vD;rw[if_neg HP.out,if_pos rfl,if_pos (by rw[hl.out];exact h20)]) (by decide));go_wp2;refine bodyPost_ret (Vd.qL rfl _ rfl b0.out (Pt.ak _)) rfl ?_;rw[H.out];exact⟨rfl,B0.out⟩
  have asA:¬(n:Int)<20:=by omega
  have h8':¬(n:Int)<8:=by omega
  have R1:=HR.out.upon B0.out;have C0:=ah (Pn _ A n c l 0 0 rfl (by omega) tX (by omega) R1);go_upto_region 9 with(go_at_call 177;first|(refine C0.out.mono ?_;rintro e w1 ⟨rfl,gI⟩;have C2:=ah (Pn w1 A n c l 2 2 rfl (by omega) tX (by omega) ((HR.out.upon B0.out).upon gI));clear C0)|(refine C2.out.mono ?_;rintro e w2 ⟨rfl,kF⟩))
  have B2:=ah (B0.out.trans (gI.mono B0.out.size));have B3:=ah (B2.out.trans (kF.mono B2.out.size));have R2:=ah (HR.out.upon B3.out);have b2:=ah ((b0.out.go gI).go kF);clear gI kF C2;obtain⟨k,hk⟩:∃k,k=w2.heap.size:=⟨_,rfl⟩
  obtain⟨w3,Me⟩:∃w3,w3=w2.alloc (.cells (Pt.mk (eX l 0) (eX l 2) 0 8 n).aA 172):=⟨_,rfl⟩
  have x3:=ah (show dL w3 k (Pt.mk (eX l 0) (eX l 2) 0 8 n).aA by rw[Me,hk];exact dL.new _ _ _);have b3:=ah (show dL w3 W.heap.size qQ.aA by rw[Me];exact b2.out.alloc _);have R3:=ah (show gy w3 k A n l by rw[Me,hk];exact R2.out.alloc (ay _) _);have fP:=b2.out.lt;have hs3:W.heap.size<k:=by rw[hk];exact fP
  rw[<-Me,<-hk];have B4:=ah (show aN W.heap.size W w3 by rw[Me];exact B3.out.alloc B3.out.size _);clear hk Me fP R2 b2 B2 B3 B0 b0;obtain⟨a,ea,EH,_⟩:=R3.out.fE (show 0<n by omega);subst ea;obtain⟨_,e12,h12⟩:=R3.out.Ze 11 (by omega);cases e12;obtain⟨_,e13,h13⟩:=R3.out.Ze 12 (by omega);cases e13;have pY:a.block≠k:=by omega
  have aPW:k≠a.block:=by omega
  obtain⟨x1,x2,x4,x5⟩:=x3.out.aI;obtain⟨i12,i13⟩:12<n/\13<n:=by omega
  have aH0:=vC l 12;have hA:=ah (aBW _ (vC l 13));have Io:bU.wrap ((nR l 12:Int)/16)=(nR l 12:Int)/16:=jU _ (by omega);have Gf:bU.wrap ((nR l 12:Int)/16*4)=(nR l 12:Int)/16*4:=jU _ (by omega);have Me:wrap64 ((nR l 13%64:Nat):Int)=((nR l 13%64:Nat):Int):=by unfold wrap64;omega
  have Io:=ah Io;have Gf:=ah Gf;have Me:=ah Me;have hw4:bU.wrap ((nR l 13%64:Nat):Int)=((nR l 13%64:Nat):Int):=jU _ (by omega);have hw4:=ah hw4;clear aH0;go_region_held_law (fun W'=>W'.cell? ⟨a.block,a.off+12,none⟩=some (.int .u8 (nR l 12))/\W'.cell? ⟨a.block,a.off+13,none⟩=some (.int .u8 (nR l 13)))
   (first|exact⟨h12,h13⟩|go_keep) (fail)
  all_goals
   go_upto_region 11 with fail
  all_goals
   have eh:(nR l 12:Int)/16*4=((nR l 12/16*4:Nat):Int):=by omega
   simp only[hA.out,Io.out,Gf.out,Me.out,hw4.out,eh];obtain⟨g,hg⟩:∃g,g=nR l 13%64:=⟨_,rfl⟩
   obtain⟨h,hh⟩:∃h,h=nR l 12/16*4:=⟨_,rfl⟩
   have G0:=ah (show qF 6 l=⟨eX l 0,eX l 2,(g:Nat),(h:Nat),n⟩by unfold qF;rw[if_pos rfl,<-hg,<-hh,hl.out]);rw[<-hg,<-hh];clear hg hh eh hA Io Gf Me hw4 h12 h13 x1 x2 x4 x5;have X1:=x3.out.eG 3 (.int .i64 (h:Int));rw[Pt.Ph]at X1;have X2:=X1.eG 2 (.int .i64 (g:Int));rw[Pt.Rx]at X2;have b5:=(b3.out.dM ⟨k,3,none⟩ (.int .i64 (h:Int)) (by show k≠_;omega)).dM ⟨k,2,none⟩ (.int .i64 (g:Int)) (by show k≠_;omega);have B5:=((B4.out.setCell (p:=⟨k,3,none⟩) (Nat.le_of_lt hs3) (.int .i64 (h:Int))).setCell (p:=⟨k,2,none⟩) (Nat.le_of_lt hs3) (.int .i64 (g:Int))).drew;have X2:=X2.drew;have b5:=b5.drew;clear x3 b3 B4 R3 X1;generalize((w3.setCell ⟨k,3,none⟩ (.int .i64 (h:Int))).setCell ⟨k,2,none⟩ (.int .i64 (g:Int))).drew=w5 at *;have N20:=ah (show¬l.length<(if(6:Int)=6 then 20 else 8)by rw[if_pos rfl,hl.out];exact h20);have HE:=ah (fun(x:Pt)=>show dL (gT w5 W.heap.size 0 x.aA) W.heap.size x.aA/\aN W.heap.size W (gT w5 W.heap.size 0 x.aA)from⟨b5.put x.aA (by rw[Pt.ak,Pt.ak]),lq B5 _ _ _ (ay _)⟩);have zq:=b5.there 0 5 (by rw[Pt.ak];omega);obtain⟨y1,y2,y3,y4⟩:=X2.aI;clear b5 B5 X2;have n8:¬(n:Int)<8:=by omega
   by_cases e1:h<20
   ·have q:(h:Int)<20:=by omega
    have H:=ah (show JQ 6 l=(qQ,3)from uR (by unfold vD;rw[if_neg HP.out,if_neg N20.out,if_pos (.inl ⟨rfl,by rw[G0.out];exact q⟩)]) (by decide));go_wp2;refine bodyPost_ret (Vd.qL rfl _ rfl (HE.out qQ).1 (Pt.ak _)) rfl ?_;rw[H.out];exact⟨rfl,(HE.out qQ).2⟩
   have q:¬(h:Int)<20:=by omega
   by_cases e2:n<h
   ·have q2:max (h:Int) n>n:=by omega
    have H:=ah (show JQ 6 l=(qQ,2)from uR (by unfold vD;rw[if_neg HP.out,if_neg N20.out,if_neg (by rw[G0.out];rintro(h|h);exact q h.2;exact n8 h),if_pos (by rw[G0.out,hl.out];exact q2)]) (by decide));go_wp2;refine bodyPost_ret (Vd.qL rfl _ rfl (HE.out qQ).1 (Pt.ak _)) rfl ?_;rw[H.out];exact⟨rfl,(HE.out qQ).2⟩
   have q2:¬max (h:Int) n>n:=by omega
   have H:=ah (show JQ 6 l=(qF 6 l,0)from Xh (by unfold vD;rw[if_neg HP.out,if_neg N20.out,if_neg (by rw[G0.out];rintro(h|h);exact q h.2;exact n8 h),if_neg (by rw[G0.out,hl.out];exact q2)]));rw[G0.out]at H;go_wp2;refine bodyPost_ret (Vd.qL rfl _ rfl (HE.out ⟨eX l 0,eX l 2,(g:Nat),(h:Nat),n⟩).1 (Pt.ak _)) rfl ?_;rw[H.out];exact⟨rfl,(HE.out _).2⟩
 ·obtain rfl:p=17:=by omega
  by_cases h20:n<8
  ·have asA:(n:Int)<8:=by omega
   have H:=ah (show JQ 17 l=(qQ,2)from uR (by unfold vD;rw[if_neg HP.out,if_neg p6,if_pos (by rw[hl.out];exact h20)]) (by decide));go_wp2;refine bodyPost_ret (Vd.qL rfl _ rfl b0.out (Pt.ak _)) rfl ?_;rw[H.out];exact⟨rfl,B0.out⟩
  have h8':¬(n:Int)<8:=by omega
  have R1:=HR.out.upon B0.out;have C0:=ah (Pn _ A n c l 0 0 rfl (by omega) tX (by omega) R1);have q6:((17:Int)==6)=false:=rfl;go_upto_region 10 with(go_at_call 177;first|(refine C0.out.mono ?_;rintro e w1 ⟨rfl,gI⟩;have C2:=ah (Pn w1 A n c l 2 2 rfl (by omega) tX (by omega) ((HR.out.upon B0.out).upon gI));clear C0)|(refine C2.out.mono ?_;rintro e w2 ⟨rfl,kF⟩))
  have B2:=ah (B0.out.trans (gI.mono B0.out.size));have B3:=ah (B2.out.trans (kF.mono B2.out.size));have R2:=ah (HR.out.upon B3.out);have b2:=ah ((b0.out.go gI).go kF);clear gI kF C2;obtain⟨k,hk⟩:∃k,k=w2.heap.size:=⟨_,rfl⟩
  obtain⟨w3,Me⟩:∃w3,w3=w2.alloc (.cells (Pt.mk (eX l 0) (eX l 2) 0 8 n).aA 172):=⟨_,rfl⟩
  have x3:=ah (show dL w3 k (Pt.mk (eX l 0) (eX l 2) 0 8 n).aA by rw[Me,hk];exact dL.new _ _ _);have b3:=ah (show dL w3 W.heap.size qQ.aA by rw[Me];exact b2.out.alloc _);have R3:=ah (show gy w3 w3.heap.size A n l by rw[Me];exact(R2.out.alloc (ay _) _).lF (by simp));have fP:=b2.out.lt;have hs3:W.heap.size<k:=by rw[hk];exact fP
  rw[<-Me,<-hk];have B4:=ah (show aN W.heap.size W w3 by rw[Me];exact B3.out.alloc B3.out.size _);clear hk Me fP R2 b2 B2 B3 B0 b0;have C4:=ah (Pn w3 A n c l 4 4 rfl (by omega) tX (by omega) R3.out);have hk3:=x3.out.lt;go_upto_region 11 with(go_at_call 177;refine C4.out.mono ?_;rintro e w4 ⟨rfl,M8⟩;have b4:=ah (b3.out.go M8);have x4:=ah (x3.out.go M8);have B5:=ah (B4.out.trans (M8.mono B4.out.size));obtain⟨x5,x6,x7,x8⟩:=x4.out.aI;clear M8)
  obtain⟨t,ht⟩:∃t,t=eX l 4:=⟨_,rfl⟩
  have G0:=ah (show qF 17 l=⟨eX l 0,eX l 2,0,8,(t:Nat)⟩by unfold qF;rw[if_neg (by decide),<-ht]);rw[<-ht];clear ht;have X2:=x4.out.eG 4 (.int .i64 (t:Int));rw[Pt.Ry]at X2;have b5:=b4.out.dM ⟨k,4,none⟩ (.int .i64 (t:Int)) (by show k≠_;omega);have B6:=B5.out.setCell (p:=⟨k,4,none⟩) (Nat.le_of_lt hs3) (.int .i64 (t:Int));clear x3 b3 B4 R3 x4 b4 B5 x5 x6 x7 x8 C4;generalize w4.setCell ⟨k,4,none⟩ (.int .i64 (t:Int))=w5 at *;have N20:=ah (show¬l.length<(if(17:Int)=6 then 20 else 8)by rw[if_neg (by decide),hl.out];exact h20);have HE:=ah (fun(x:Pt)=>show dL (gT w5 W.heap.size 0 x.aA) W.heap.size x.aA/\aN W.heap.size W (gT w5 W.heap.size 0 x.aA)from⟨b5.put x.aA (by rw[Pt.ak,Pt.ak]),lq B6 _ _ _ (ay _)⟩);have zq:=b5.there 0 5 (by rw[Pt.ak];omega);obtain⟨y1,y2,y3,y4⟩:=X2.aI;clear b5 B6 X2;by_cases e1:t<8
  ·have q:(t:Int)<8:=by omega
   have H:=ah (show JQ 17 l=(qQ,3)from uR (by unfold vD;rw[if_neg HP.out,if_neg N20.out,if_pos (.inr (by rw[G0.out];exact q))]) (by decide));go_wp2;refine bodyPost_ret (Vd.qL rfl _ rfl (HE.out qQ).1 (Pt.ak _)) rfl ?_;rw[H.out];exact⟨rfl,(HE.out qQ).2⟩
  have q:¬(t:Int)<8:=by omega
  by_cases e2:n<t
  ·have q2:max (8:Int) t>n:=by omega
   have H:=ah (show JQ 17 l=(qQ,2)from uR (by unfold vD;rw[if_neg HP.out,if_neg N20.out,if_neg (by rw[G0.out];rintro(h|h);exact p6 h.1;exact q h),if_pos (by rw[G0.out,hl.out];exact q2)]) (by decide));go_wp2;refine bodyPost_ret (Vd.qL rfl _ rfl (HE.out qQ).1 (Pt.ak _)) rfl ?_;rw[H.out];exact⟨rfl,(HE.out qQ).2⟩
  have q2:¬max (8:Int) t>n:=by omega
  have H:=ah (show JQ 17 l=(qF 17 l,0)from Xh (by unfold vD;rw[if_neg HP.out,if_neg N20.out,if_neg (by rw[G0.out];rintro(h|h);exact p6 h.1;exact q h),if_neg (by rw[G0.out,hl.out];exact q2)]));rw[G0.out]at H;go_wp2;refine bodyPost_ret (Vd.qL rfl _ rfl (HE.out ⟨eX l 0,eX l 2,0,8,(t:Nat)⟩).1 (Pt.ak _)) rfl ?_;rw[H.out];exact⟨rfl,(HE.out _).2⟩
def JR(n:Nat):Array aC:=((dU n (0:UInt8)).map bv).toArray
theorem aeN(n:Nat):(JR n).size=n:=by simp[JR]
theorem ahw(n:Nat):madeCells (aJ .u8 0).cells n=JR n:=by
 apply dV;intro j;rcases bf j n with h|h
 ·simp[madeCells,JR,cu,bv,h,Nat.mod_one]
 ·rw[aV (by simp[madeCells];omega),aV (by rw[aeN];omega)]
theorem ala(n:Nat)(hn:n<=16777216)(w:au):(yh 56 (.int .i64 (n:Int)) (.int .i64 (n:Int))).run aj w=.ok (.slice (some ⟨w.heap.size,0,none⟩) n n) (w.alloc (.cells (JR n) 5)):=by
 obtain⟨i0,oz,mZ,nu,wX⟩:=zV;have:=run_makeSlice w 56 5 i0 _ dw oz mZ .i64 .i64 (n:Int) (n:Int) (by omega) (Int.le_refl _) (by rw[nu];simp;omega) (by rw[wX];omega) (by omega);rw[this,nu,Int.toNat_natCast,gF,ahw]
def qZ(p:Int)(l:List UInt8):Nat:=if p=0\/p=43\/p=60 then nR l 1*4+nR l 1*4+8 else if p=51 then nR l 1*4+8 else if p=44 then 8 else 0
def Ak(p:Int):Bool:=decide (p=0\/p=43\/p=60\/p=51\/p=44)
theorem Tq(p:Int)(l:List UInt8):(0<qZ p l)↔Ak p=true:=by
 unfold qZ Ak;rw[decide_eq_true_eq];split
 ·rename_i h;constructor
  ·intro _;rcases h with h|h|h<;>simp[h]
  ·intro _;omega
 ·split
  ·rename_i h;simp[h]
  ·split
   ·rename_i h;simp[h]
   ·simp;omega
theorem ahx(p:Int)(l:List UInt8):qZ p l<=2048:=by
 have:=vC l 1;unfold qZ
 repeat(first|split|omega)
theorem Tt(p:Int)(A:Option aU)(n c B:Nat)(l:List UInt8)(W:au)(h2:2<=n)(hr:gy W B A n l):aR aj 251 #[.int .i64 p,.slice A n c] W fun e W'=>e=.returned (.int .i64 (qZ p l))/\W=W':=by
 obtain⟨a,rfl,hc⟩:=hr.Ze 0 (by omega);have i1:1<n:=by omega
 have E:=ah (show∀b,b=nR l 1->qZ p l=if p=0\/p=43\/p=60 then b*4+b*4+8 else if p=51 then b*4+8 else if p=44 then 8 else 0 from fun b h=>by rw[h];rfl);obtain⟨b,hb⟩:∃b,b=nR l 1:=⟨_,rfl⟩
 have Zr:b<256:=by rw[hb];exact vC l 1
 have E:=ah (E.out b hb);rw[<-hb]at hc;clear hb hr;have w1:=jU (b:Int) (by omega);have w2:=jU ((b:Int)*4) (by omega);have w3:=jU ((b:Int)*4+b*4) (by omega);have w4:=jU ((b:Int)*4+b*4+8) (by omega);have w5:=jU ((b:Int)*4+8) (by omega);by_cases p0:p=0
 ·subst p0
  go_enter Tryz.func251,Tryz.ntmps251;go_wp2;go_ret;exact⟨by rw[E.out];simp,rfl⟩
 by_cases p43:p=43
 ·subst p43
  go_enter Tryz.func251,Tryz.ntmps251;go_wp2;go_ret;exact⟨by rw[E.out];simp,rfl⟩
 by_cases p60:p=60
 ·subst p60
  go_enter Tryz.func251,Tryz.ntmps251;go_wp2;go_ret;exact⟨by rw[E.out];simp,rfl⟩
 by_cases p51:p=51
 ·subst p51
  go_enter Tryz.func251,Tryz.ntmps251;go_wp2;go_ret;exact⟨by rw[E.out];simp,rfl⟩
 by_cases p44:p=44
 ·subst p44
  go_enter Tryz.func251,Tryz.ntmps251;go_wp2;go_ret;exact⟨by rw[E.out];simp,rfl⟩
 have q0:(p==0)=false:=by simp[p0]
 have q43:(p==43)=false:=by simp[p43]
 have q60:(p==60)=false:=by simp[p60]
 have q51:(p==51)=false:=by simp[p51]
 have q44:(p==44)=false:=by simp[p44]
 go_enter Tryz.func251,Tryz.ntmps251;go_wp2;go_ret;exact⟨by rw[E.out];simp[p0,p43,p60,p51,p44],rfl⟩
@[go_sem]theorem axl(w:au):(yh 56 (.int .i64 8) (.int .i64 8)).run aj w=.ok (.slice (some ⟨w.heap.size,0,none⟩) 8 8) (w.alloc (.cells (JR 8) 5)):=ala 8 (by decide) w
theorem gy.axn(W:au):gy (W.alloc (.cells (JR 8) 5)) (W.heap.size+1) (some ⟨W.heap.size,0,none⟩) 8 (dU 8 0):=by
 refine gy.Pq (l:=dU 8 0) (mG _) (fun j hj=>?_);rw[mU,bB];rcases j with _|_|_|_|_|_|_|_|j
 all_goals first|rfl|(simp at hj;omega)
theorem Xi(p:Int)(W:au):aR aj 250 #[.int .i64 p] W (gP W (.bool (Ak p))):=by
 have C:=ah (Tt p _ 8 8 _ _ _ (by decide) (gy.axn W));have B:=ah ((aH W.heap.size W).alloc (ay _) (.cells (JR 8) 5));have E:=ah (Tq p (dU 8 0));generalize qZ p (dU 8 0)=x at *;go_enter Tryz.func250,Tryz.ntmps250;go_wp2_with (go_at_call 251;refine C.out.mono ?_;rintro e w ⟨rfl,rfl⟩);go_ret;have e:decide (0<x)=Ak p:=by rw[cO,<-E.out,decide_eq_true_eq]
 exact⟨congrArg (fun z=>uz (.bool z)) e,B.out⟩
def Na(r:List UInt8):Bool:=decide (nR r 2≠0\/nR r 3/8≠0\/nR r 3%2=1)
theorem alb:∀a:Fin 256,∀b:Fin 256,((256*a.val+b.val) &&& 65529==0) = !(decide (a.val≠0\/b.val/8≠0\/b.val%2=1)):=by decide +kernel
theorem asC(l:List UInt8)(k:Nat):eX l k=256*nR l k+nR l (k+1):=rfl
theorem aoI(r:List UInt8):(bits .and .i64 (eX r 2:Nat) 65529 != 0)=Na r:=by
 have h1:(fU 64 (eX r 2:Nat)).toNat=eX r 2:=by rw[lU,nG];exact fM (by have:=vO r 2;omega)
 have h2:eX r 2 &&& 65529<=eX r 2:=Nat.and_le_left;have h3:=vO r 2;have:bits .and .i64 (eX r 2:Nat) 65529=((eX r 2 &&& 65529:Nat):Int):=by
  show bU.wrap ((fU 64 (eX r 2:Nat) &&& fU 64 65529).toNat:Int)=_;rw[Gj,h1,show(fU 64 65529).toNat=65529 by decide,jU _ (by omega)]
 rw[this];have h4:=alb ⟨nR r 2,vC r 2⟩ ⟨nR r 3,vC r 3⟩;simp only at h4;rw[<-asC]at h4;unfold Na;rw[cO,bne_iff_ne];have h5:=congrArg (fun z=>!z) h4;simp only[Bool.not_not]at h5;rw[<-h5];simp
def zu:Nat->Sx->List UInt8->Sx×Int
 | 0,x,_=>if x.oM=true\/Ak x.aQ=false then(x,0)else(qM,4)
 | f+1,x,r=>
   if x.oM=true\/Ak x.aQ=false then(x,0)
   else if r.length<8\/r.length<qZ x.aQ r then(qM,2)
   else zu f ⟨x.head+qZ x.aQ r,x.dz,x.IU,decide (x.aQ=44)&&Na r,x.IV+1,(nR r 0:Nat),x.src,x.dst⟩ (r.drop (qZ x.aQ r))
def alc(l:List UInt8):fu:=⟨true,qv 16 l⟩
def sx0(l:List UInt8):Sx:=⟨40,40+eX l 4,(nR l 7:Nat),false,0,(nR l 6:Nat),alc (l.drop 8),alc (l.drop 24)⟩
def By(l:List UInt8):Sx×Int:=
 if l.length<40 then(qM,2)else if nR l 0/16≠6 then(qM,3)else if l.length<40+eX l 4 then(qM,2)
 else zu 8 (sx0 l) ((l.take (40+eX l 4)).drop 40)
theorem Pv{f:Nat}{x:Sx}{r:List UInt8}(h:x.oM=true\/Ak x.aQ=false):zu f x r=(x,0):=by cases f<;>simp[zu,h]
theorem aaD{x:Sx}{r:List UInt8}(h:x.oM=false)(h':Ak x.aQ=true):zu 0 x r=(qM,4):=by simp[zu,h,h']
theorem Nb{f:Nat}{x:Sx}{r:List UInt8}(h:x.oM=false)(h':Ak x.aQ=true)(hs:r.length<8\/r.length<qZ x.aQ r):zu (f+1) x r=(qM,2):=by simp[zu,h,h',hs]
theorem aaE{f:Nat}{x:Sx}{r:List UInt8}(h:x.oM=false)(h':Ak x.aQ=true)(hs:¬(r.length<8\/r.length<qZ x.aQ r)):
 zu (f+1) x r=zu f ⟨x.head+qZ x.aQ r,x.dz,x.IU,decide (x.aQ=44)&&Na r,x.IV+1,(nR r 0:Nat),x.src,x.dst⟩ (r.drop (qZ x.aQ r)):=by simp[zu,h,h',hs]
theorem iy{place:Nat->Option (Nat×Nat)}{cells c':Array aC}{i off:Nat}{v:aC}{rest:List (Nat×aC)}(hp:place i=some (off,1))(hv:v.cells = #[v])(hf:off+1<=cells.size)(h:cells.setIfInBounds off v=c'):fB place cells ((i,v)::rest)=fB place c' rest:=by
 rw[EM place cells i off 1 v rest hp (by rw[hv];rfl) hf,hv,amS,h]
theorem sS{place:Nat->Option (Nat×Nat)}{cells c' x:Array aC}{i off n:Nat}{rest:List (Nat×aC)}(hp:place i=some (off,n))(hx:x.size=n)(hf:off+n<=cells.size)(h:sJ cells off x=c'):fB place cells ((i,.agg x)::rest)=fB place c' rest:=by
 rw[EM place cells i off n (.agg x) rest hp (by rw[Qt];exact hx) hf,Qt,h]
theorem Sx.Ry(x:Sx)(v:Int):x.aA.setIfInBounds 1 (.int .i64 v)=({x with dz:=v}:Sx).aA:=by simp[Sx.aA,aM,fu.ak]
theorem Sx.asD(x:Sx)(v:Int):x.aA.setIfInBounds 2 (.int .i64 v)=({x with IU:=v}:Sx).aA:=by simp[Sx.aA,aM,fu.ak]
theorem Sx.acC(x:Sx)(t:fu):sJ x.aA 6 t.aA=({x with src:=t}:Sx).aA:=by
 unfold Sx.aA;exact qU (by rw[fu.ak,fu.ak]) 6 rfl
theorem Sx.Vf(x:Sx)(t:fu):sJ x.aA 23 t.aA=({x with dst:=t}:Sx).aA:=by
 unfold Sx.aA;have:=qU (p:=#[.int .i64 x.head,.int .i64 x.dz,.int .i64 x.IU,.bool x.oM,.int .i64 x.IV,.int .i64 x.aQ]++x.src.aA) (q:=x.dst.aA) (r:=#[]) (v:=t.aA) (by rw[fu.ak,fu.ak]) 23 (by simp[fu.ak]);simpa[fT]using this
theorem Sx.acy(x:Sx)(v:Vector UInt8 16):sJ x.aA 7 (iU v)=({x with src:=⟨x.src.j6,v⟩}:Sx).aA:=by
 unfold Sx.aA;rw[fu.JO x.src,fu.JO ⟨x.src.j6,v⟩];have:=qU (p:=#[.int .i64 x.head,.int .i64 x.dz,.int .i64 x.IU,.bool x.oM,.int .i64 x.IV,.int .i64 x.aQ] ++ #[.bool x.src.j6]) (q:=iU x.src.b) (r:=x.dst.aA) (v:=iU v) (by rw[dK,dK]) 7 rfl;simpa[fT]using this
theorem Sx.acx(x:Sx)(v:Vector UInt8 16):sJ x.aA 24 (iU v)=({x with dst:=⟨x.dst.j6,v⟩}:Sx).aA:=by
 unfold Sx.aA;rw[fu.JO x.dst,fu.JO ⟨x.dst.j6,v⟩];have:=qU (p:=#[.int .i64 x.head,.int .i64 x.dz,.int .i64 x.IU,.bool x.oM,.int .i64 x.IV,.int .i64 x.aQ]++x.src.aA ++ #[.bool x.dst.j6]) (q:=iU x.dst.b) (r:=#[]) (v:=iU v) (by rw[dK,dK]) 24 (by simp[fu.ak]);simpa[fT]using this
@[go_sem]theorem aH4(W:au)(a b c d:Int)(s t:fu):(uW 189 #[(0,.int .i64 a),(1,.int .i64 b),(5,.int .i64 c),(2,.int .i64 d),(6,.agg s.aA),(7,.agg t.aA)]).run aj W=.ok (.agg (Sx.mk a b d false 0 c s t).aA) W:=kSx.bd W _ _ _ _ pF (awX W _ pF) (by
 refine(iy rfl rfl (by rw[Sx.ak];omega) (Sx.Ph _ _)).trans ?_;refine(iy rfl rfl (by rw[Sx.ak];omega) (Sx.Ry _ _)).trans ?_;refine(iy rfl rfl (by rw[Sx.ak];omega) (Sx.aaA _ _)).trans ?_;refine(iy rfl rfl (by rw[Sx.ak];omega) (Sx.asD _ _)).trans ?_;refine(sS rfl (fu.ak _) (by rw[Sx.ak];omega) (Sx.acC _ _)).trans ?_;refine(sS rfl (fu.ak _) (by rw[Sx.ak];omega) (Sx.Vf _ _)).trans ?_;rfl)
@[go_sem ↓]theorem aL3(ps:Array (Nat×aC)):fJ 27 ps=uW 27 ps:=rfl
theorem aBY(w:au)(fs:Array nV)(h:aj.underlying 27=some (.struct fs)):(iB (fun f=>Prod.mk f.offset <$> sizeOf f.type) fs:xO (Array (Nat×Nat))).run aj w=.ok #[(0,1),(1,16)] w:=by
 have e:=eZ;rw[h]at e;cases e;show _=_
 kernel_rfl
theorem fu.asE(x:fu)(v:Bool):x.aA.setIfInBounds 0 (.bool v)=({x with j6:=v}:fu).aA:=by rw[fu.JO,fu.JO];simp[aM]
@[go_sem]theorem azz(W:au)(v:Bool):(uW 27 #[(0,.bool v)]).run aj W=.ok (.agg (fu.mk v ng.b).aA) W:=aco.bd W _ _ _ _ eZ (aBY W _ eZ) (by
 refine(iy rfl rfl (by rw[fu.ak];omega) (fu.asE _ _)).trans ?_;rfl)
def Bx(L:List (Nat×Array aC))(W0 W:au):Prop:=aN W0.heap.size W0 W/\∀p∈L,W0.heap.size<=p.1/\dL W p.1 p.2
section
variable {L:List (Nat×Array aC)} {W0 W W':au} {q:Nat} {c:Array aC}
theorem Bx.start(W0:au):Bx [] W0 W0:=⟨aH _ _,fun p hp=>by cases hp⟩
theorem Bx.dF(h:Bx L W0 W):aN W0.heap.size W0 W:=h.1
theorem Bx.go(h:Bx L W0 W)(hb:aN W.heap.size W W'):Bx L W0 W':=⟨h.1.trans (hb.mono h.1.size),fun p hp=>⟨(h.2 p hp).1,(h.2 p hp).2.go hb⟩⟩
theorem Bx.drew(h:Bx L W0 W):Bx L W0 W.drew:=⟨h.1.drew,fun p hp=>⟨(h.2 p hp).1,(h.2 p hp).2.drew⟩⟩
theorem Bx.drewN(h:Bx L W0 W)(k:Nat):Bx L W0 (W.drewN k):=⟨fI h.1 k,fun p hp=>⟨(h.2 p hp).1,(h.2 p hp).2.drewN k⟩⟩
theorem Bx.alloc(h:Bx L W0 W)(ob:Obj):Bx L W0 (W.alloc ob):=h.go ((aH _ _).alloc (ay _) ob)
theorem Bx.new(h:Bx L W0 W)(c:Array aC)(t:bM):Bx ((W.heap.size,c)::L) W0 (W.alloc (.cells c t)):=
 ⟨h.1.alloc h.1.size _,fun p hp=>by
  rcases bD.1 hp with rfl|hp
  ·exact⟨h.1.size,dL.new W c t⟩
  ·exact⟨(h.2 p hp).1,(h.2 p hp).2.alloc _⟩⟩
theorem Bx.b0(h:Bx ((q,c)::L) W0 W):dL W q c:=(h.2 (q,c) (by simp)).2
theorem Bx.g0(h:Bx ((q,c)::L) W0 W):W0.heap.size<=q:=(h.2 (q,c) (by simp)).1
theorem Bx.U1{p:Nat×Array aC}(h:Bx (p::L) W0 W):Bx L W0 W:=⟨h.1,fun r hr=>h.2 r (jX _ hr)⟩
theorem Bx.b1{p:Nat×Array aC}(h:Bx (p::(q,c)::L) W0 W):dL W q c:=h.U1.b0
theorem Bx.b2{p p2:Nat×Array aC}(h:Bx (p::p2::(q,c)::L) W0 W):dL W q c:=h.U1.U1.b0
theorem Bx.b3{p p2 p3:Nat×Array aC}(h:Bx (p::p2::p3::(q,c)::L) W0 W):dL W q c:=h.U1.U1.U1.b0
theorem Bx.swap{p p2:Nat×Array aC}(h:Bx (p::p2::L) W0 W):Bx (p2::p::L) W0 W:=⟨h.1,fun r hr=>h.2 r (by simp at hr⊢;rcases hr with h|h|h<;>simp[h])⟩
theorem Bx.sub{L':List (Nat×Array aC)}(h:Bx L W0 W)(hs:∀p∈L',p∈L):Bx L' W0 W:=⟨h.1,fun p hp=>h.2 p (hs p hp)⟩
theorem Bx.set(h:Bx ((q,c)::L) W0 W)(hL:∀p∈L,p.1≠q)(j:Nat)(u:aC):Bx ((q,c.setIfInBounds j u)::L) W0 (W.setCell ⟨q,j,none⟩ u):=
 ⟨h.1.setCell h.g0 u,fun p hp=>by
  rcases bD.1 hp with rfl|hp
  ·exact⟨h.g0,h.b0.eG j u⟩
  ·have:=h.2 p (by simp[hp]);exact⟨this.1,this.2.dM _ u (fun e=>hL p hp e.symm)⟩⟩
theorem Bx.lay(h:Bx ((q,c)::L) W0 W)(hL:∀p∈L,p.1≠q)(o:Nat)(x:Array aC):Bx ((q,sJ c o x)::L) W0 (gT W q o x):=
 ⟨lq h.1 q o x h.g0,fun p hp=>by
  rcases bD.1 hp with rfl|hp
  ·exact⟨h.g0,by have:=h.b0.setCells o x.toList;simpa[gT]using this⟩
  ·have:=h.2 p (by simp[hp]);exact⟨this.1,this.2.gD (hL p hp)⟩⟩
theorem Bx.put(h:Bx ((q,c)::L) W0 W)(hL:∀p∈L,p.1≠q)(x:Array aC)(hx:x.size=c.size):Bx ((q,x)::L) W0 (gT W q 0 x):=
 ⟨lq h.1 q 0 x h.g0,fun p hp=>by
  rcases bD.1 hp with rfl|hp
  ·exact⟨h.g0,h.b0.put x hx⟩
  ·have:=h.2 p (by simp[hp]);exact⟨this.1,this.2.gD (hL p hp)⟩⟩
theorem Bx.Nc{A:Option aU}{n:Nat}{l:List UInt8}(h:Bx L W0 W)(hr:gy W0 W0.heap.size A n l):gy W W.heap.size A n l:=(hr.below h.1).lF h.1.size
theorem Bx.rdR{α:Type}{f:α->Array aC}{s:Nat}{A:Option aU}{n:Nat}{l:List α}(h:Bx L W0 W)(hr:iO f s W0 W0.heap.size A n l):iO f s W W.heap.size A n l:=(hr.below h.1).lF h.1.size
end
theorem gy.Xj{w:au}{B n:Nat}{a:aU}{l:List UInt8}(h:gy w B (some a) n l)(k:Nat)(hk:k+1<n):w.cell? ⟨a.block,a.off+(k+1),none⟩=some (.int .u8 (nR l (k+1))):=by
 obtain⟨_,he,hc⟩:=h.Ze k hk;cases he;exact hc
theorem gy.auU{w:au}{B n:Nat}{a:aU}{l:List UInt8}(h:gy w B (some a) n l)(hk:0<n):w.cell? a=some (.int .u8 (nR l 0)):=by
 obtain⟨_,he,_,hc⟩:=h.fE hk;cases he;rw[Qr]at hc;exact hc
theorem gy.ajj{w:au}{B n:Nat}{A:Option aU}{l:List UInt8}(h:gy w B A n l)(hk:0<n):∃a,A=some a/\a.block<B:=by
 obtain⟨a,he,hb,_⟩:=h.fE hk;exact⟨a,he,hb⟩
def vP(A:Option aU)(z c s:Nat):Option aU:=if c=z then A else A.map (·.add (z*s))
theorem gy.aeO{w:au}{B n:Nat}{A:Option aU}{l:List UInt8}(h:gy w B A n l){z b c:Nat}(hz:z<=b)(hb:b<=n)(hc:n<=c):gy w B (vP A z c 1) (b-z) ((l.take b).drop z):=by
 have:=h.Ti hz hb hc;rw[<-List.drop_take]at this;unfold vP;rw[gF];exact this
theorem gy.zo{w:au}{B n:Nat}{A:Option aU}{l:List UInt8}(h:gy w B A n l){z c:Nat}(hz:z<=n)(hc:n<=c):gy w B (vP A z c 1) (n-z) (l.drop z):=by
 have:=h.from hz hc
 unfold vP;rw[gF];exact this
section
variable {P:eF} (w:au) (t:bM) (a:Option aU) (len cap:Nat) (ht:P.underlying t=some (.slice (P.elem t)))
include ht
theorem iT(kl kh:IntKind)(l h:Int)(h0:0<=l)(h1:l<=h)(h2:h<=cap):
 (Instr.slice t (.slice a len cap) (some (.int kl l)) (some (.int kh h)) none).run P w =
  ((sizeOf (P.elem t)).run P w).andThen fun s w=>.ok (.slice (vP a l.toNat cap s) (h.toNat-l.toNat) (cap-l.toNat)) w:=by
 rw[run_slice_lh w t a len cap ht kl kh l h h0 h1 h2];rfl
theorem jG(kl:IntKind)(l:Int)(h0:0<=l)(h1:l<=len):
 (Instr.slice t (.slice a len cap) (some (.int kl l)) none none).run P w =
  ((sizeOf (P.elem t)).run P w).andThen fun s w=>.ok (.slice (vP a l.toNat cap s) (len-l.toNat) (cap-l.toNat)) w:=by
 rw[run_slice_l w t a len cap ht kl l h0 h1];rfl
end
section
variable {P:eF} {md:Region.Mode}
def kW(o:iV):iV:={o with op:=.move (.const undef)}
def Hq(ops:Array iV)(k n d:Nat):Bool:=(dW n).all fun j=>j==k||(match ops[j]? with|some o=>!(o.looksAt ops).contains d&&o.dst != some d|none=>true)
def Tv:List iV->Bool
 | []=>true
 | o::l=>(match o.dst with|some d=>l.all fun p=>p.dst != some d|none=>true)&&Tv l
theorem Hr:∀{l:List iV},Tv l=true->∀{i j:Nat} {oi oj:iV} {d:Nat},l[i]? = some oi->l[j]? = some oj->oi.dst=some d->oj.dst=some d->i=j
 | [],_,i,j,oi,oj,d,hi,_,_,_=>by simp at hi
 | o::l,h,i,j,oi,oj,d,hi,hj,di,dj=>by
   simp only[Tv,bl]at h;obtain⟨h1,h2⟩:=h;rcases i with _|i<;>rcases j with _|j
   ·rfl
   ·simp at hi hj
    subst hi;rw[di]at h1;have:=gH.1 h1 oj (List.mem_of_getElem? hj);simp[dj]at this
   ·simp at hi hj
    subst hj;rw[dj]at h1;have:=gH.1 h1 oi (List.mem_of_getElem? hi);simp[di]at this
   ·simp at hi hj
    rw[Hr h2 hi hj di dj]
def Zf(P:eF)(md:Region.Mode)(ops:Array iV)(C:au->Prop)(n g:Nat)(aF:re):Nat->Array Bool->re->Prop:=
 wqL P md ops C n (fun listed a=>lC md ops g n listed=true/\a=aF)
theorem Pw{listed:Array Bool}{j:Nat}(h:listed.getD j true=false){i:Nat}(SE:j≠i):(listed.setIfInBounds i true).getD j true=false:=by rw[xP true (jm SE)];exact h
theorem Eu{listed:Array Bool}{i j:Nat}(h:(listed.setIfInBounds i true).getD j true=false):listed.getD j true=false:=by
 by_cases SE:i=j
 ·subst SE
  rcases bf i listed.size with h1|h1
  ·simp[h1]at h
  ·simp[aV h1]at h
 ·rwa [xP true SE]at h
theorem Al{listed:Array Bool}{i j:Nat}(h:(listed.setIfInBounds i true).getD j true=false):j≠i:=by
 rintro rfl;rcases bf j listed.size with h1|h1
 ·simp[h1]at h
 ·simp[aV h1]at h
theorem Cy{ops:Array iV}{C:au->Prop}{n g:Nat}{aF:re}:∀(f:Nat)(listed:Array Bool)(a:re),Zf P md ops C n g aF f listed a ->
 aF.defers=a.defers/\aF.tmps.size=a.tmps.size/\∀d,(∀j oj,ops[j]? = some oj->listed.getD j true=false->oj.dst≠some d)->aF.tmps[d]? = a.tmps[d]?
 | 0,listed,a,h=>by obtain⟨_,rfl⟩:=h;exact⟨rfl,rfl,fun _ _=>rfl⟩
 | f+1,listed,a,h=>by
   obtain⟨h0,h1⟩:=h;obtain⟨i,hi⟩:=List.exists_mem_of_ne_nil _ h0;obtain⟨MI,oi,Vg,_⟩:=kE.1 hi;obtain⟨v,_,hK⟩:=qW Vg (h1 i hi).2;obtain⟨e1,e2,e3⟩:=Cy f _ _ hK;have ed:(a.put oi.dst v).defers=a.defers:=by cases oi.dst<;>rfl
   have es:(a.put oi.dst v).tmps.size=a.tmps.size:=by cases oi.dst<;>simp[lN]
   refine⟨e1.trans ed,e2.trans es,fun d hd=>?_⟩;rw[e3 d fun j oj hj hl=>hd j oj hj (Eu hl)];have:=hd i oi Vg MI;cases h2:oi.dst with
   | none=>rfl
   | some e=>
     have:e≠d:=fun e'=>this (by rw[h2,e'])
     simp[lN,dO,this]
theorem aeP{l:List iV}(hD:Tv l=true){C C':au->Prop}{n g f:Nat}{aF:re}{listed:Array Bool}{a:re}{i:Nat}{oi:iV}(hi:i∈fV md l.toArray listed)(Vg:l.toArray[i]? = some oi)
 (h:Zf P md l.toArray C n g aF (f+1) listed a) (h':Zf P md l.toArray C' n g aF (f+1) listed a) :
 ∃v v',YieldsIn P l.toArray C oi v a/\Zf P md l.toArray C n g aF f (listed.setIfInBounds i true) (a.put oi.dst v)/\YieldsIn P l.toArray C' oi v' a/\Zf P md l.toArray C' n g aF f (listed.setIfInBounds i true) (a.put oi.dst v')/\a.put oi.dst v=a.put oi.dst v':=by
 obtain⟨v,hy,hK⟩:=qW Vg (h.2 i hi).2;obtain⟨v',hy',hK'⟩:=qW Vg (h'.2 i hi).2;refine⟨v,v',hy,hK,hy',hK',?_⟩;cases hd:oi.dst with
 | none=>rfl
 | some d=>
   have uU:∀j oj,l.toArray[j]? = some oj->(listed.setIfInBounds i true).getD j true=false->oj.dst≠some d:=fun j oj hj hl hdj=>by
    have:=Hr hD (by simpa using Vg) (by simpa using hj) hd hdj;exact Al hl this.symm
   have e1:=(Cy f _ _ hK).2.2 d uU;have e2:=(Cy f _ _ hK').2.2 d uU;rw[hd]at e1 e2;have e:=e1.symm.trans e2;simp only[lN,dO,if_pos]at e ⊢;by_cases hs:d<a.tmps.size
   ·simp[hs]at e;rw[e]
   ·have hs':=Nat.le_of_not_lt hs
    rw[jQ hs',jQ hs']
theorem Px(a:re)(d:Nat)(u v:aC):(a.put (some d) u).put (some d) v=a.put (some d) v:=by simp[lN]
theorem Iu{ops:Array iV}{C:au->Prop}{o:iV}{a:re}{K:re->Prop}{K':re->au->Prop}{Q':Aq->re->au->Prop}{w:au}{d:Nat}{u:aC}(hs:∀cs b,o.op≠.select cs b)(hl:d∉o.looksAt ops)(hd:o.dst≠some d)
 (hw:C w) (h:∀a w',C w'->K a->K' (a.put (some d) u) w') (hh:o.quiet P a C K):o.wp P (a.put (some d) u) w K' Q':=by
 obtain⟨v,h1,h2⟩:=hh;have h3:=h1 w hw;have e:execOp (a.put (some d) u).eval o=execOp a.eval o:=execOp_put o hs a (some d) u (fun e he=>by cases he;exact hl);have c:∀x,(a.put (some d) u).put o.dst x=(a.put o.dst x).put (some d) u:=fun x=>Act.put_comm a u x (fun e he=>by cases he;exact hd)
 unfold Oper.quietAt at h3;unfold nD;rw[e];generalize(execOp a.eval o).run P w=r at *;cases r with
 | ok n w'=>
   cases n<;>simp only[Oper.quietUpon]at h3<;>simp only[Nu]
   case value x=>
    obtain⟨e1,e2⟩:=h3;rw[e1,e2,c];exact h _ _ hw h2
   case skip=>
    obtain⟨e1,e2⟩:=h3;rw[e1,c,<-e2];exact h _ _ hw h2
   case enter f args=>
    obtain⟨e1,hc⟩:=h3;rw[e1];exact hc.mono fun e w'' ⟨he,aH5⟩=>by subst he;dsimp only;rw[c];exact h _ _ aH5 h2
 | halt x w'=>simp only[Oper.quietUpon]at h3
def Shut(S:au->Prop):Prop:=∀w w',S w->aN w.heap.size w w'->S w'
theorem aeQ{l:List iV}{k:Nat}{o:iV}(hk:l[k]? = some o)(tmps:Array aC):yielded (l.set k (kW o)).toArray tmps=yielded l.toArray tmps:=by
 funext j;unfold yielded;have:((l.set k (kW o)).toArray[j]?).bind (·.dst)=(l.toArray[j]?).bind (·.dst):=by
  simp only[dZ,fG];split
  ·rename_i h
   subst h;have:=(iE.1 hk).1;rw[hk];simp[this,kW]
  ·rfl
 rw[this]
theorem aeR{l:List iV}{k:Nat}{o:iV}(hk:l[k]? = some o)(listed:Array Bool):fV md (l.set k (kW o)).toArray listed=fV md l.toArray listed:=by
 unfold fV;have jB:(l.set k (kW o)).toArray.size=l.toArray.size:=by simp
 rw[jB];refine Ga fun i _=>?_
 by_cases Xk:i=k
 ·subst Xk
  obtain⟨hl,hlo⟩:=iE.1 hk;simp[fG,hl,hlo,kW]
 ·simp[fG,jm Xk]
theorem K6{l:List iV}{k:Nat}{o:iV}(hk:l[k]? = some o)(listed:Array Bool)(i:Nat):i∈fV md (l.set k (kW o)).toArray listed↔i∈fV md l.toArray listed:=by rw[aeR hk]
section
variable {l:List iV} {k n g d:Nat} {o:iV} {T:bM} {z:Array aC} {aF:re} {Q:Aq->re->au->Prop}
theorem aaF(hk:l[k]? = some o){i:Nat}(Xk:i≠k):(l.set k (kW o)).toArray[i]? = l.toArray[i]?:=by
 simp[fG,jm Xk]
theorem Xl(hA:Hq l.toArray k n d=true){i:Nat}{oi:iV}(wW:i<n)(Xk:i≠k)(Vg:l.toArray[i]? = some oi):d∉oi.looksAt l.toArray/\oi.dst≠some d:=by
 have:=gH.1 hA i (eH.2 wW);simp only[Vg,nE,beq_iff_eq,bl]at this;rcases this with h|h
 ·exact absurd h Xk
 ·exact⟨by simpa using h.1,by simpa using h.2⟩
theorem Xm(hk:l[k]? = some o)(oi:iV)(tmps:Array aC):fC oi (yielded (l.set k (kW o)).toArray tmps)=fC oi (yielded l.toArray tmps):=by rw[aeQ hk]
theorem Nf(hk:l[k]? = some o)(hA:Hq l.toArray k n d=true)(yG:∀(j:Nat)(o:iV) cs b,l.toArray[j]? = some o->o.op≠.select cs b){C:au->Prop}{u:aC}
 (RJ:∀listed w',C w'->lC md (l.set k (kW o)).toArray g n listed=true->wpAny P md l.toArray Q g listed (aF.put (some d) u) w') :
 ∀(f:Nat)(listed:Array Bool)(a:re)(w:au),listed.getD k true=true->C w->Zf P md (l.set k (kW o)).toArray C n g aF f listed a->wpAny P md l.toArray Q (f+g) listed (a.put (some d) u) w
 | 0,listed,a,w,MI,hw,h=>by
   obtain⟨h1,rfl⟩:=h;rw[bB];exact RJ _ _ hw h1
 | f+1,listed,a,w,MI,hw,h=>by
   rw[show f+1+g=(f+g)+1 by omega];refine⟨fun h0=>absurd ?_ h.1,fun i hi=>?_⟩
   ·rw[tV]
    intro i hi;rw[K6 hk]at hi;rw[h0]at hi;cases hi
   ·have hi':=(K6 hk listed i).2 hi
    have Xk:i≠k:=fun e=>by
     subst e;have:=(kE.1 hi).1;rw[MI]at this;cases this
    obtain⟨_,oi,Vg,_⟩:=kE.1 hi;obtain⟨wW,hq⟩:=h.2 i hi';obtain⟨hl,hd⟩:=Xl hA wW Xk Vg;have aB1:∀i,(listed.setIfInBounds i true).getD k true=true:=fun i=>by
     by_cases e:i=k
     ·subst e
      rcases bf i listed.size with h1|h1
      ·simp[h1]
      ·simp[aV h1]
     ·rw[xP true e];exact MI
    unfold qOp at hq;rw[aaF hk Xk,Vg]at hq;unfold wpOp;simp only[Vg];simp only[Xm hk]at hq;rw[wanted_put oi a (some d) u (fun e he=>by cases he;exact hl)];split
    ·rename_i Gf
     simp only[Gf,if_true]at hq;exact .inl (Iu (fun cs b=>yG i oi cs b Vg) hl hd hw (fun a' w' hw' h'=>Nf hk hA yG RJ f _ a' w' (aB1 i) hw' h') hq)
    ·rename_i Gf
     simp only[Gf]at hq;rw[Act.put_comm a u undef (fun e he=>by cases he;exact hd)];exact Nf hk hA yG RJ f _ _ w (aB1 i) hw hq
theorem Xn{S:au->Prop}(hS:Shut S)(w0:au):Shut fun w=>S w/\aN w0.heap.size w0 w:=fun w w' h hb=>⟨hS w w' h.1 hb,h.2.trans (hb.mono h.2.size)⟩
theorem aaG(hk:l[k]? = some o)(YB:k<n)(hA:Hq l.toArray k n d=true)(hD:Tv (l.set k (kW o))=true)(yG:∀(j:Nat)(o:iV) cs b,l.toArray[j]? = some o->o.op≠.select cs b)
 (hod:o.dst=some d) (hog:o.guard=none) (hoa:o.after = #[]) (qc:∀(a:re) w,(execOp a.eval o).run P w=.ok (.value (.pointer (some ⟨w.heap.size,0,none⟩))) (w.alloc (.cells z T))) {S:au->Prop} (hS:Shut S)
 (RJ:∀listed w1 w',S w1->S w'->aN (w1.alloc (.cells z T)).heap.size (w1.alloc (.cells z T)) w'->lC md (l.set k (kW o)).toArray g n listed=true->wpAny P md l.toArray Q g listed (aF.put (some d) (.pointer (some ⟨w1.heap.size,0,none⟩))) w') :
 ∀(f:Nat)(listed:Array Bool)(a:re)(w:au),listed.size=l.length->listed.getD k true=false->S w->(∀C:au->Prop,(∀w,C w->S w)->Shut C->(∃w,C w)->Zf P md (l.set k (kW o)).toArray C n g aF f listed a)->wpAny P md l.toArray Q (f+g) listed a w
 | 0,listed,a,w,jB,MI,hw,H=>by
   obtain⟨h1,_⟩:=H S (fun _ h=>h) hS ⟨w,hw⟩;have hkl:k<l.length:=(iE.1 hk).1;have:k∈fV md (l.set k (kW o)).toArray listed:=kE.2 ⟨MI,kW o,by simp[fG,hkl],fun e he=>by simp[kW,hoa]at he⟩;have:=seqB_ready h1 k this;omega
 | f+1,listed,a,w,jB,MI,hw,H=>by
   rw[show f+1+g=(f+g)+1 by omega];have H0:=H S (fun _ h=>h) hS ⟨w,hw⟩;have hkl:k<l.length:=(iE.1 hk).1;refine⟨fun h0=>absurd ?_ H0.1,fun i hi=>?_⟩
   ·rw[tV]
    intro i hi;rw[K6 hk]at hi;rw[h0]at hi;cases hi
   ·have hi':=(K6 hk listed i).2 hi
    by_cases Xk:i=k
    ·subst Xk
     unfold wpOp;simp only[dZ,hk];rw[if_pos (by simp[fC,hog])];refine .inl ?_;unfold nD;rw[qc];simp only[Nu,hod];have hC:=H (fun w'=>S w'/\aN (w.alloc (.cells z T)).heap.size (w.alloc (.cells z T)) w') (fun _ h=>h.1) (Xn hS _) ⟨_,hS _ _ hw ((aH _ _).alloc (ay _) _),aH _ _⟩;obtain⟨v,_,hK⟩:=qW (o:=kW o) (by simp[fG,hkl]) (hC.2 i hi').2;have:=Nf (C:=fun w'=>S w'/\aN (w.alloc (.cells z T)).heap.size (w.alloc (.cells z T)) w') (u:=.pointer (some ⟨w.heap.size,0,none⟩)) hk hA yG (fun KQ w' hw' hB=>RJ KQ w w' hw hw'.1 hw'.2 hB) f _ _ (w.alloc (.cells z T)) (by
      have:i<listed.size:=by rw[jB];exact hkl
      simp[this]) ⟨hS _ _ hw ((aH _ _).alloc (ay _) _),aH _ _⟩ hK
     have e:(kW o).dst=some d:=hod;rw[e,Px]at this;exact this
    ·obtain⟨_,oi,Vg,_⟩:=kE.1 hi
     have ahy:(l.set k (kW o)).toArray[i]? = some oi:=by rw[aaF hk Xk];exact Vg
     obtain⟨v,hy,hK⟩:=qW ahy (H0.2 i hi').2;have hq:qOp P l.toArray S i (fun a'=>a'=a.put oi.dst v) a:=by
      unfold qOp;simp only[Vg];unfold YieldsIn at hy;simp only[Xm hk]at hy;rcases hy with⟨h1,h2⟩|⟨h1,rfl⟩
      ·simp only[h1,if_true];exact⟨v,h2,rfl⟩
      ·simp only[h1,jH,if_false]
     refine wpOp_of_qOp hw (fun a' w' hw' e=>?_) hq;subst e;refine aaG hk YB hA hD yG hod hog hoa qc hS RJ f _ _ w' (by simp[jB]) (Pw MI (jm Xk)) hw' (fun C hC1 hC2 hC3=>?_);obtain⟨_,v2,_,_,_,Gd,_⟩:=aeP hD hi' ahy H0 (H C hC1 hC2 hC3);have e1:a.put oi.dst v=a.put oi.dst v2:=by
      cases hd:oi.dst with
      | none=>rfl
      | some dd=>
        have uU:∀j oj,(l.set k (kW o)).toArray[j]? = some oj->(listed.setIfInBounds i true).getD j true=false->oj.dst≠some dd:=fun j oj hj hl hdj=>by
         have:=Hr hD (by simpa using ahy) (by simpa using hj) hd hdj;exact Al hl this.symm
        have q1:=(Cy f _ _ hK).2.2 dd uU;have q2:=(Cy f _ _ Gd).2.2 dd uU;rw[hd]at q1 q2;have q:=q1.symm.trans q2;simp only[lN,dO,if_pos]at q ⊢;by_cases hs:dd<a.tmps.size
        ·simp[hs]at q;rw[q]
        ·have hs':=Nat.le_of_not_lt hs
         rw[jQ hs',jQ hs']
     rw[e1];exact Gd
end
theorem Bx.acD(L:List (Nat×Array aC))(W0:au):Shut (Bx L W0):=fun _ _ h hb=>h.go hb
theorem RL{S:au->Prop}(hS:Shut S)(k n d:Nat){id:Nat}{Q:Aq->re->au->Prop}{a:re}{w:au}{l:List iV}{o:iV}(T:bM)(z:Array aC)(hm:P.follows .mixedOrders=true)
 (hk:l[k]? = some o) (hB:xQ .any (l.set k (kW o)).toArray n=true) (YB:k<n) (hn':n<l.length) (hA:Hq l.toArray k n d=true) (hD:Tv (l.set k (kW o))=true) (yG:Region.noSelect l.toArray=true)
 (hod:o.dst=some d) (hog:o.guard=none) (hoa:o.after = #[]) (qc:∀(a:re) w,(execOp a.eval o).run P w=.ok (.value (.pointer (some ⟨w.heap.size,0,none⟩))) (w.alloc (.cells z T))) (h0:S w.drew)
 (hh:∃aF:re,(∀(T:Type)(f:T->au),Nonempty T->(∀m,S (f m))->(∀m w',aN (f m).heap.size (f m) w'->∃m',w'=f m')->wpQuiet P (l.set k (kW o)).toArray (fun w'=>∃m,w'=f m) (fun a'=>a'=aF) ((l.set k (kW o)).take n) a)
 /\ (∀w1 w',S w1->S w'->aN (w1.alloc (.cells z T)).heap.size (w1.alloc (.cells z T)) w'->wpList P l.toArray Q (l.drop n) (aF.put (some d) (.pointer (some ⟨w1.heap.size,0,none⟩))) w')):(Code.region id l.toArray true).wp P Q a w:=by
 obtain⟨aF,h,h2⟩:=hh;simp only[xQ,bl,decide_eq_true_eq]at hB;obtain⟨⟨⟨⟨aoK,hn⟩,hs⟩,hc⟩,agJ⟩:=hB;have hlen:(l.set k (kW o)).length=l.length:=by simp
 have jB:(l.set k (kW o)).toArray.size=l.toArray.size:=by simp
 have NC:((l.set k (kW o)).take n).length=n:=by simp;omega
 have YV:(l.drop n).length=l.toArray.size-n:=by simp
 have anE:HeadInv .any (l.set k (kW o)).toArray n (nC l.toArray.size false):=
  ⟨by simp,fun j oj _ hl=>(by rw[mJ]at hl;cases hl),fun t _ ht=>getD_in (by simpa using ht) (mJ _ _)⟩
 refine wp_region_any hm ?_;rw[jB]at agJ;have Ev:∀listed,lC .any (l.set k (kW o)).toArray (l.toArray.size-n) n listed=true->lC .any l.toArray (l.toArray.size-n) n listed=true:=by
  have:∀(g:Nat)(j:Nat) listed,lC .any (l.set k (kW o)).toArray g j listed=true->lC .any l.toArray g j listed=true:=by
   have he:∀listed,fV .any (l.set k (kW o)).toArray listed=fV .any l.toArray listed:=aeR hk;intro g
   induction g with
   | zero=>intro j listed h;simp only[lC]at h⊢;rwa [he]at h
   | succ g ih=>intro j listed h;simp only[lC,bl]at h⊢;rw[he]at h;exact⟨h.1,ih _ _ h.2⟩
  exact fun listed=>this _ _ listed
 have:=aaG (P:=P) (md:=.any) (g:=l.toArray.size-n) (aF:=aF) (Q:=Q) hk YB hA hD (Region.noSelect_spec yG) hod hog hoa qc hS (fun listed w1 w' Io hw' hb hq=>by
  have:=wpAny_of_seq (P:=P) (md:=.any) (Q':=Q) (ops:=l.toArray) (l.drop n) n listed (aF.put (some d) (.pointer (some ⟨w1.heap.size,0,none⟩))) w' (fun j=>by simp[jf]) (by rw[YV];exact Ev _ hq) (h2 w1 w' Io hw' hb)
  rwa [YV]at this) n (nC l.toArray.size false) a {w with drawn:=w.drawn+1} (by simp) (getD_in (by simp;omega) (mJ _ _)) h0 (fun C hC1 hC2 hC3=>by
  have hq:=h {w // C w} Subtype.val (let⟨w,hw⟩:=hC3;⟨⟨w,hw⟩⟩) (fun m=>hC1 _ m.2) (fun m w' hb=>⟨⟨w',hC2 _ _ m.2 hb⟩,rfl⟩);have e:(fun w':au=>∃m:{w // C w},w'=m.val)=C:=by
   funext w';rw[eq_iff_iff];exact⟨fun⟨m,hm⟩=>by rw[hm];exact m.2,fun h=>⟨⟨w',h⟩,rfl⟩⟩
  rw[e]at hq;have:=abR (md:=.any) (C:=C) (g:=l.toArray.size-n) aoK hs hc hn ((l.set k (kW o)).take n) 0 (nC l.toArray.size false) a (fun j hj=>by
   have hj':j<n:=by rw[NC]at hj;exact hj
   rw[ig hj',bB];simp) (by simpa using NC) anE (by rw[NC];exact agJ) hq
  rw[NC]at this;exact this)
 rw[show n+(l.toArray.size-n)=l.toArray.size by simp;omega]at this;exact this
end
section
attribute [local go_sem high] iT jG
def slN:aC->Nat
 | .slice _ n _=>n
 | _=>0
def SxP(W:au)(r:Sx×Int)(e:kX)(W':au):Prop:=e=.returned (.tuple #[.agg r.1.aA,.int .i64 r.2])/\aN W.heap.size W W'
theorem Tw(W:au)(A:Option aU)(n c:Nat)(l:List UInt8)(tX:n<=c)(hc:c<=9223372036854775807/\n<=1000000000)(hr:gy W W.heap.size A n l):aR aj 176 #[.slice A n c] W (SxP W (By l)):=by
 have HR:=ah hr;have hl:=ah hr.len;have b0:=ah ((Bx.start W).new qM.aA 189);clear hr;go_enter Tryz.func176,Tryz.ntmps176;by_cases h40:n<40
 ·have aH8:(n:Int)<40:=by omega
  have H:=ah (show By l=(qM,2)by unfold By;rw[if_pos (by rw[hl.out];exact h40)]);go_wp2;refine bodyPost_ret (kSx.qL rfl _ rfl b0.out.b0 (Sx.ak _)) rfl ?_;rw[H.out];exact⟨rfl,b0.out.dF⟩
 have aH8:¬(n:Int)<40:=by omega
 have N40:=ah (show¬l.length<40 by rw[hl.out];exact h40);go_upto_region 3 with fail
 generalize Io:W.alloc (.cells qM.aA 189)=w1 at b0 ⊢;obtain⟨a,rfl,EH⟩:=HR.out.ajj (show 0<n by omega);have KS:=ah (show∀W',Bx [(W.heap.size,qM.aA)] W W'->W'.cell? ⟨a.block,a.off+6,none⟩=some (.int .u8 (nR l 6))/\W'.cell? ⟨a.block,a.off+7,none⟩=some (.int .u8 (nR l 7))from fun W' h=>⟨(h.Nc HR.out).Xj 5 (by omega),(h.Nc HR.out).Xj 6 (by omega)⟩);obtain⟨i6,i7⟩:6<n/\7<n:=by omega
 have hx6:=jU (nR l 6) (by have:=vC l 6;omega);have hx7:=jU (nR l 7) (by have:=vC l 7;omega);obtain⟨t,ht⟩:∃t,t=eX l 4:=⟨_,rfl⟩
 have HT:=ah ht.symm;have NC:t<=65535:=by rw[ht];exact vO l 4
 have hx4:=jU (40+(t:Int)) (by omega);have C4:=ah (fun(W':au) (h:Bx [(W.heap.size,qM.aA)] W W')=>aoE W' (some a) n c l 4 4 rfl (by omega) tX (by omega) (h.Nc HR.out));rw[<-ht]at C4;clear ht;have HX0:∃X:Sx,X=Sx.mk 40 (40+(t:Int)) (nR l 7) false 0 (nR l 6) ⟨true,ng.b⟩ ⟨true,ng.b⟩:=⟨_,rfl⟩
 clear Io;have hWy:=ah b0.out.b0.lt;refine RL (Bx.acD [(W.heap.size,qM.aA)] W) 14 15 4 189 qM.aA (by kernel_rfl) rfl (by kernel_rfl) (by decide) (by decide) (by kernel_rfl) (by kernel_rfl) (by kernel_rfl) rfl rfl rfl (fun a w=>by simp[go_sem]) b0.out.drew ?_;apply Exists.intro;refine⟨fun T f hT es ew=>?_,?_⟩
 ·have KF:=fun m=>KS.out _ (es m)
  have CF:=ah (fun m=>C4.out _ (es m));have EW:=ah ew;obtain⟨k1,k2⟩:(∀m,(f m).cell? ⟨a.block,a.off+6,none⟩=some (.int .u8 (nR l 6)))/\(∀m,(f m).cell? ⟨a.block,a.off+7,none⟩=some (.int .u8 (nR l 7))):=⟨fun m=>(KF m).1,fun m=>(KF m).2⟩
  clear KF;simp only[kW,List.set_cons_succ,List.set_cons_zero,List.take_succ_cons,List.take_zero]
  repeat(go_big_quiet_step ((first
   | (go_at_call 249;with_reducible refine(CF.out _).mono ?_;rintro e w2 ⟨rfl,hb⟩;exact⟨rfl,EW.out _ _ hb⟩))))
  exact wpQuiet_nil rfl
 ·intro w2 w3 Gf _ hb
  have Z2:=ah ((Gf.new qM.aA 189).go hb);have hy:=Gf.b0.lt;generalize w2.heap.size=y at *;clear Gf hb;simp only[lN,List.setIfInBounds_toArray,List.set_cons_succ,List.set_cons_zero,List.drop_succ_cons,List.drop_zero];obtain⟨X0,hX0⟩:∃X:Sx,X=Sx.mk 40 (40+(t:Int)) (nR l 7) false 0 (nR l 6) ⟨true,ng.b⟩ ⟨true,ng.b⟩:=⟨_,rfl⟩
  have HX0:=ah hX0;rw[<-hX0];clear hX0 hx4 hx6 hx7;have pY:∀p∈[(W.heap.size,qM.aA)],p.1≠y:=fun p hp=>by rw[List.mem_singleton.1 hp];exact jL hy
  have pY:=ah pY;have zq:=Z2.out.b0.there 0 40 (by rw[Sx.ak];omega);have Z3:=ah (Z2.out.put pY.out X0.aA (by rw[Sx.ak,Sx.ak]));clear C4 KS;go_step;go_simp;go_step;go_step;clear zq Z2;generalize gT w3 y 0 X0.aA=w4 at Z3 ⊢;obtain⟨m,hm⟩:∃m,m=40+t:=⟨_,rfl⟩
  have hm':40+(t:Int)=m:=by omega
  rw[hm']at HX0;have HM:=ah (show m=40+eX l 4 by rw[HT.out];exact hm);have YG:40<=m/\m<=65575:=by omega
  clear hm hm' NC;have i8:(8:Int)<=n:=by omega
  have i24:(24:Int)<=n:=by omega
  have R8:=(Z3.out.drew.Nc HR.out).zo (z:=8) (c:=c) (by omega) tX;have cp1:∀ty,(qI #[56,56] ty #[.slice (some ⟨y,7,none⟩) 16 16,.slice (vP (some a) 8 c 1) (n-8) (c-8)]).run aj w4.drew=.ok (goInt 16) (gT w4.drew y 7 (iU (qv 16 (l.drop 8)))):=fun ty=>by
   have:=FC (c:=c-8) (d:=16) _ R8 (m:=16) (by omega) (by omega) (Z3.out.drew.b0.there 7 16 (by rw[Sx.ak];omega)) 56 ty 5 dw aoh;rw[Po 16 _ (by rw[jA,hl.out];omega)]at this;exact this
  have Z4:=ah (Z3.out.drew.lay pY.out 7 (iU (qv 16 (l.drop 8))));rw[Sx.acy]at Z4;go_upto_region 4 with fail
  go_region;clear cp1 R8 Z3;generalize gT w4.drew y 7 (iU (qv 16 (l.drop 8)))=w5 at Z4 ⊢;have R24:=(Z4.out.drew.Nc HR.out).zo (z:=24) (c:=c) (by omega) tX;have cp2:∀ty,(qI #[56,56] ty #[.slice (some ⟨y,24,none⟩) 16 16,.slice (vP (some a) 24 c 1) (n-24) (c-24)]).run aj w5.drew=.ok (goInt 16) (gT w5.drew y 24 (iU (qv 16 (l.drop 24)))):=fun ty=>by
   have:=FC (c:=c-24) (d:=16) _ R24 (m:=16) (by omega) (by omega) (Z4.out.drew.b0.there 24 16 (by rw[Sx.ak];omega)) 56 ty 5 dw aoh;rw[Po 16 _ (by rw[jA,hl.out];omega)]at this;exact this
  have Z5:=ah (Z4.out.drew.lay pY.out 24 (iU (qv 16 (l.drop 24))));rw[Sx.acx,HX0.out]at Z5;go_upto_region 5 with fail
  go_region;clear cp2 R24 Z4 i8 i24;generalize gT w5.drew y 24 (iU (qv 16 (l.drop 24)))=w6 at Z5 ⊢;simp only at Z5;have S0:=ah (show sx0 l=Sx.mk 40 m (nR l 7) false 0 (nR l 6) ⟨true,qv 16 (l.drop 8)⟩ ⟨true,qv 16 (l.drop 24)⟩by unfold sx0 alc;rw[HM.out];simp);obtain⟨X1,hX1⟩:∃X,X=sx0 l:=⟨_,rfl⟩
  rw[<-S0.out,<-hX1]at Z5;have HX1:=ah hX1;have ht1:X1.dz=m:=by rw[hX1,S0.out]
  have HT1:=ah ht1;clear hX1 HX0 ht1;have HE:=ah (fun(w':au) (x z:Sx) (h:Bx [(y,x.aA),(W.heap.size,qM.aA)] W w')=>show dL (gT w' W.heap.size 0 z.aA) W.heap.size z.aA/\aN W.heap.size W (gT w' W.heap.size 0 z.aA)from
   have k:=h.swap.put (fun p hp=>by rw[List.mem_singleton.1 hp];exact Nat.ne_of_gt hy) z.aA (by rw[Sx.ak,Sx.ak])
   ⟨k.b0,k.dF⟩)
  have TH:=ah (fun(w':au) (x:Sx) (h:Bx [(y,x.aA),(W.heap.size,qM.aA)] W w')=>show w'.there W.heap.size 0 40 from h.b1.there 0 40 (by rw[Sx.ak];omega));have zq:=TH.out _ _ Z5.out;have cb:=(Z5.out.Nc HR.out).auU (by omega);obtain⟨x1,x2,x3,x4⟩:=Z5.out.b0.aI;have ht1:=HT1.out;have i0:(0:Int)<n:=by omega
  have i0':0<n:=by omega
  by_cases e1:¬nR l 0/16=6
  ·have q:((nR l 0:Int)/16 != 6)=true:=by rw[bne_iff_ne];omega
   have H:=ah (show By l=(qM,3)by unfold By;rw[if_neg N40.out,if_pos e1]);go_wp2;refine bodyPost_ret (kSx.qL rfl _ rfl (HE.out _ _ qM Z5.out).1 (Sx.ak _)) rfl ?_;rw[H.out];exact⟨rfl,(HE.out _ _ qM Z5.out).2⟩
  have q:((nR l 0:Int)/16 != 6)=false:=by simp;omega
  by_cases e2:n<m
  ·have q2:(n:Int)<m:=by omega
   have H:=ah (show By l=(qM,2)by unfold By;rw[if_neg N40.out,if_neg e1,if_pos (by rw[hl.out,<-HM.out];exact e2)]);go_wp2;refine bodyPost_ret (kSx.qL rfl _ rfl (HE.out _ _ qM Z5.out).1 (Sx.ak _)) rfl ?_;rw[H.out];exact⟨rfl,(HE.out _ _ qM Z5.out).2⟩
  have q2:¬(n:Int)<m:=by omega
  have H1:=ah (show By l=zu 8 (sx0 l) ((l.take m).drop 40)by unfold By;rw[if_neg N40.out,if_neg e1,if_neg (by rw[hl.out,<-HM.out];exact e2),<-HM.out]);have RP:=ah (HR.out.aeO (z:=40) (b:=m) (c:=c) (by omega) (by omega) tX);have j1:(40:Int)<=m:=by omega
  have j2:(m:Int)<=c:=by omega
  have hy':=ah hy;clear hy;go_wp2_with fail;clear j1 j2 q q2 i0 i0' zq cb x1 x2 x3 x4 ht1;obtain⟨A0,hA0⟩:∃A0,A0=vP (some a) 40 c 1:=⟨_,rfl⟩
  rw[<-hA0]at RP ⊢;clear hA0;go_loopw [5] (fun s5 wr=>∃(x:Sx)(A':Option aU)(n' c':Nat)(r:List UInt8) (f:Nat),s5=.slice A' n' c'/\n'<=c'/\c'<=c/\Bx [(y,x.aA),(W.heap.size,qM.aA)] W wr/\gy W W.heap.size A' n' r/\By l=zu f x r/\x.IV+f=8/\0<=x.head/\x.head+2048*f<=20000)
   (fun s5 wr=>slN s5)
  case atStart=>exact⟨X1,A0,m-40,c-40,_,8,rfl,by omega,by omega,Z5.out,RP.out,by rw[HX1.out];exact H1.out,by rw[HX1.out];rfl,by rw[HX1.out];simp[sx0],by rw[HX1.out];simp[sx0]⟩
  case round=>
   obtain⟨x,A',n',c',r,f,rfl,hn',hc',hz,hr,hsx,hf,hh0,hh1⟩:=hrel;have HZ:=ah hz;have HRr:=ah hr;have HSX:=ah hsx;have hrl:=ah hr.len;obtain⟨x1,x2,x3,x4⟩:=hz.b0.aI;have CE:=ah (Xi x.aQ wr);have GO:=ah (fun(w1:au) (hb:aN wr.heap.size wr w1)=>HZ.out.go hb);have zq:=TH.out _ _ hz;have HFn:=ah hf;have HH0:=ah hh0;have HH1:=ah hh1;clear hz hr hsx Z5 RP HX1 H1 HT1 HX0 S0 HM HT;by_cases Au:x.oM=true
   ·have H:=ah (show By l=(x,0)by rw[HSX.out,Pv (.inl Au)])
    go_wp2;refine bodyPost_ret (kSx.qL rfl _ rfl (HE.out _ _ x HZ.out).1 (Sx.ak _)) rfl ?_;rw[H.out];exact⟨rfl,(HE.out _ _ x HZ.out).2⟩
   have Au:x.oM=false:=by simpa using Au
   by_cases hex:Ak x.aQ=false
   ·have H:=ah (show By l=(x,0)by rw[HSX.out,Pv (.inr hex)])
    go_wp2_with (go_at_call 250;with_reducible refine CE.out.mono ?_;rintro e w1 ⟨rfl,gI⟩;have Z1:=ah (GO.out w1 gI);have t1:=TH.out _ _ Z1.out;obtain⟨y1,y2,y3,y4⟩:=Z1.out.b0.aI;clear gI);refine bodyPost_ret (kSx.qL rfl _ rfl (HE.out _ _ x Z1.out).1 (Sx.ak _)) rfl ?_;rw[H.out];exact⟨rfl,(HE.out _ _ x Z1.out).2⟩
   have hex:Ak x.aQ=true:=by simpa using hex
   clear zq x1 x2 x3 x4;obtain⟨x1,x2,x3,x4⟩:=HZ.out.b0.aI;rcases f with _|f
   ·have hx8:x.IV=8:=by have:=HFn.out;simpa using this
    have H:=ah (show By l=(qM,4)by rw[HSX.out,aaD Au hex]);go_wp2_with (go_at_call 250;with_reducible refine CE.out.mono ?_;rintro e w1 ⟨rfl,gI⟩;have Z1:=ah (GO.out w1 gI);have t1:=TH.out _ _ Z1.out;obtain⟨y1,y2,y3,y4⟩:=Z1.out.b0.aI;clear gI);refine bodyPost_ret (kSx.qL rfl _ rfl (HE.out _ _ qM Z1.out).1 (Sx.ak _)) rfl ?_;rw[H.out];exact⟨rfl,(HE.out _ _ qM Z1.out).2⟩
   have hx8:(x.IV==8)=false:=by rw[beq_eq_false_iff_ne];omega
   by_cases hs8:n'<8
   ·have q8:(n':Int)<8:=by omega
    have H:=ah (show By l=(qM,2)by rw[HSX.out,Nb Au hex (.inl (by rw[hrl.out];exact hs8))]);go_wp2_with (go_at_call 250;with_reducible refine CE.out.mono ?_;rintro e w1 ⟨rfl,gI⟩;have Z1:=ah (GO.out w1 gI);have t1:=TH.out _ _ Z1.out;obtain⟨y1,y2,y3,y4⟩:=Z1.out.b0.aI;clear gI);refine bodyPost_ret (kSx.qL rfl _ rfl (HE.out _ _ qM Z1.out).1 (Sx.ak _)) rfl ?_;rw[H.out];exact⟨rfl,(HE.out _ _ qM Z1.out).2⟩
   have q8:¬(n':Int)<8:=by omega
   have CS:=ah (fun(w1:au) (h:Bx [(y,x.aA),(W.heap.size,qM.aA)] W w1)=>Tt x.aQ A' n' c' _ r w1 (by omega) (h.Nc HRr.out));obtain⟨sz,jB⟩:∃sz,sz=qZ x.aQ r:=⟨_,rfl⟩
   have HSZ:=ah jB;have SZ1:=ah (show 0<sz by rw[jB];exact(Tq _ _).2 hex);have SZ2:=ah (show sz<=2048 by rw[jB];exact ahx _ _);rw[<-jB]at CS;clear jB;by_cases hss:n'<sz
   ·have q9:(n':Int)<sz:=by omega
    have H:=ah (show By l=(qM,2)by rw[HSX.out,Nb Au hex (.inr (by rw[hrl.out,<-HSZ.out];exact hss))]);go_wp2_with (first|(go_at_call 250;with_reducible refine CE.out.mono ?_;rintro e w1 ⟨rfl,gI⟩;have Z1:=ah (GO.out w1 gI);have t1:=TH.out _ _ Z1.out;obtain⟨y1,y2,y3,y4⟩:=Z1.out.b0.aI;clear gI)|(go_at_call 251;with_reducible refine(CS.out _ Z1.out).mono ?_;rintro e w2 ⟨rfl,rfl⟩));refine bodyPost_ret (kSx.qL rfl _ rfl (HE.out _ _ qM Z1.out).1 (Sx.ak _)) rfl ?_;rw[H.out];exact⟨rfl,(HE.out _ _ qM Z1.out).2⟩
   have q9:¬(n':Int)<sz:=by omega
   have H:=ah (show By l=zu f ⟨x.head+sz,x.dz,x.IU,decide (x.aQ=44)&&Na r,x.IV+1,(nR r 0:Nat),x.src,x.dst⟩ (r.drop sz)by
    rw[HSX.out,aaE Au hex (by rw[hrl.out,<-HSZ.out];rintro(h|h);exact hs8 h;exact hss h),<-HSZ.out])
   have wh:bU.wrap (x.head+sz)=x.head+sz:=jU _ (by have:=SZ2.out;omega);have we:bU.wrap (x.IV+1)=x.IV+1:=jU _ (by omega);have wb:bU.wrap ((nR r 0:Nat):Int)=((nR r 0:Nat):Int):=jU _ (by have:=vC r 0;omega);obtain⟨a',rfl,aP0⟩:=HRr.out.ajj (show 0<n' by omega);have aB4:a'.block≠y:=by have:=hy'.out;omega
   have aGD:∀o,¬(⟨y,o,none⟩:aU)=a':=fun o e=>aB4 (by rw[<-e])
   have aP1:∀o,¬a'=(⟨y,o,none⟩:aU):=fun o e=>aB4 (by rw[e])
   have ip:(0:Int)<n':=by omega
   have ip':0<n':=by omega
   have is2:(sz:Int)<=n':=by omega
   have BY:=ah (fun(w1:au) (h:Bx [(y,x.aA),(W.heap.size,qM.aA)] W w1)=>(h.Nc HRr.out).auU ip');have ZE:=ah (fun(w':au) (fr:Bool) (p h e:Int) (hz:Bx [(y,x.aA),(W.heap.size,qM.aA)] W w')=>show Bx [(y,(Sx.mk h x.dz x.IU fr e p x.src x.dst).aA),(W.heap.size,qM.aA)] W ((((w'.setCell ⟨y,3,none⟩ (.bool fr)).setCell ⟨y,5,none⟩ (.int .i64 p)).setCell ⟨y,0,none⟩ (.int .i64 h)).setCell ⟨y,4,none⟩ (.int .i64 e))by
    have:=(((hz.set pY.out 3 (.bool fr)).set pY.out 5 (.int .i64 p)).set pY.out 0 (.int .i64 h)).set pY.out 4 (.int .i64 e);rw[Sx.aox,Sx.aaA,Sx.Ph,Sx.aoy]at this;exact this)
   by_cases p44:x.aQ=44
   ·have C2:=ah (fun(w1:au) (h:Bx [(y,x.aA),(W.heap.size,qM.aA)] W w1)=>aoE w1 _ n' c' r 2 2 rfl (by omega) hn' (by omega) (h.Nc HRr.out))
    have hpt:=aoI r;have aIc:(x.aQ==44)=true:=by simp[p44]
    have aId:=ah p44;clear p44;obtain⟨fr,axs⟩:∃fr,fr=Na r:=⟨_,rfl⟩
    rw[<-axs]at hpt;have HF2:=ah axs;clear axs;go_wp2_with (first|(go_at_call 250;with_reducible refine CE.out.mono ?_;rintro e w1 ⟨rfl,gI⟩;have Z1:=ah (GO.out w1 gI);have t1:=TH.out _ _ Z1.out;obtain⟨y1,y2,y3,y4⟩:=Z1.out.b0.aI;clear gI)|(go_at_call 251;with_reducible refine(CS.out _ Z1.out).mono ?_;rintro e w2 ⟨rfl,rfl⟩)|(go_at_call 249;with_reducible refine(C2.out _ Z1.out).mono ?_;rintro e w3 ⟨rfl,uH⟩;have Z3:=ah (Z1.out.go uH);obtain⟨z1,z2,z3,z4⟩:=Z3.out.b0.aI;have bz:=BY.out _ Z3.out;clear uH));refine⟨⟨⟨x.head+sz,x.dz,x.IU,fr,x.IV+1,(nR r 0:Nat),x.src,x.dst⟩,vP (some a') sz c' 1,n'-sz,c'-sz,r.drop sz,f,rfl,by omega,by omega,ZE.out _ _ _ _ _ Z3.out,HRr.out.zo (by omega) hn',?_,?_,?_,?_⟩,?_⟩
    ·rw[H.out,HF2.out];simp[aId.out]
    ·have:=HFn.out;simp only;omega
    ·have:=HH0.out;simp only;omega
    ·have:=HH1.out;have:=SZ2.out;simp only;omega
    ·have:=SZ1.out;simp only[slN];omega
   ·have aIc:(x.aQ==44)=false:=by simp[p44]
    go_wp2_with (first|(go_at_call 250;with_reducible refine CE.out.mono ?_;rintro e w1 ⟨rfl,gI⟩;have Z1:=ah (GO.out w1 gI);have t1:=TH.out _ _ Z1.out;obtain⟨y1,y2,y3,y4⟩:=Z1.out.b0.aI;have bz:=BY.out _ Z1.out;clear gI)|(go_at_call 251;with_reducible refine(CS.out _ Z1.out).mono ?_;rintro e w2 ⟨rfl,rfl⟩));refine⟨⟨⟨x.head+sz,x.dz,x.IU,false,x.IV+1,(nR r 0:Nat),x.src,x.dst⟩,vP (some a') sz c' 1,n'-sz,c'-sz,r.drop sz,f,rfl,by omega,by omega,ZE.out _ _ _ _ _ Z1.out,HRr.out.zo (by omega) hn',?_,?_,?_,?_⟩,?_⟩
    ·rw[H.out];simp[p44]
    ·have:=HFn.out;simp only;omega
    ·have:=HH0.out;simp only;omega
    ·have:=HH1.out;have:=SZ2.out;simp only;omega
    ·have:=SZ1.out;simp only[slN];omega
end
theorem Py(W:au)(A:Option aU)(n c:Nat)(l:List UInt8)(tX:n<=c)(hc:c<=9223372036854775807/\n<=1000000000)(hr:gy W W.heap.size A n l):aR aj 91 #[.slice A n c] W (LkP W (mD l)):=by
 have HR:=ah hr;have hl:=ah hr.len;have b0:=ah (dL.new W qR.aA 108);have B0:=ah ((aH W.heap.size W).alloc (ay _) (.cells qR.aA 108));have HR0:=ah ((hr.below B0.out).lF B0.out.size:gy (W.alloc (.cells qR.aA 108)) (W.alloc (.cells qR.aA 108)).heap.size A n l);clear hr;go_enter Tryz.func91,Tryz.ntmps91;by_cases h14:n<14
 ·have aIe:(n:Int)<14:=by omega
  have H:=ah (show mD l=(Fy,2)by unfold mD;rw[if_pos (by rw[hl.out];exact h14)]);go_wp2;refine bodyPost_ret (kLc.qL rfl _ rfl b0.out (Lc.ak _)) rfl ?_;rw[H.out];exact⟨none,0,rfl,iO.nil _ _,B0.out⟩
 have aIe:¬(n:Int)<14:=by omega
 have i1:(12:Int)<=c:=by omega
 obtain⟨w1,Io⟩:∃w1,w1=W.alloc (.cells qR.aA 108):=⟨_,rfl⟩
 have PC:=HR0.out.Ti (z:=12) (b:=n) (c:=c) (by omega) (by omega) (by omega);rw[if_neg (by omega),show(fun x:aU=>x.add 12)=fun x=>⟨x.block,x.off+12,none⟩from funext fun x=>by simp[rF]]at PC;have C1:=ah (JM _ _ (n-12) (c-12) _ (by omega) (by omega) (by omega) PC);rw[show eX ((l.drop 12).take (n-12)) 0=eX l 12 by rw[<-hl.out,<-jA,List.take_length];simp[eX,av]]at C1;clear PC;go_upto_region 4 with(go_at_call 173;with_reducible refine C1.out.mono ?_;rintro e w2 ⟨rfl,kF⟩)
 have d0:=ah (b0.out.below kF b0.out.lt);have B2:=ah (show aN W.heap.size W w2 from B0.out.trans (kF.mono B0.out.size));have UR:W.heap.size<w2.heap.size:=by have:=kF.size;simp at this;omega
 clear kF C1 HR0 B0 b0 Io;obtain⟨X0,hX0⟩:∃X:Lc,X=Lc.mk (bG 6 0) (bG 6 0) none 0 0 (eX l 12:Nat) 14:=⟨_,rfl⟩
 have Z3:=ah (show Rz Tg.aA 2 268 [(w2.heap.size,X0.aA),(W.heap.size,qR.aA)] W (w2.alloc (.cells X0.aA 108)) (.slice none 0 0) []from
  Rz.new ⟨World.ownsRow_nil _ _ _ _,B2.out,fun p hp=>by rw[List.mem_singleton.1 hp];exact⟨d0.out,by simp[Value.ownBlock]⟩⟩ X0.aA _)
 rw[<-hX0];generalize Me:w2.alloc (.cells X0.aA 108)=w3 at Z3 ⊢;generalize w2.heap.size=y at *;clear Me d0 B2;have R3:=ah ((HR.out.below Z3.out.dF).lF Z3.out.dF.size:gy w3 w3.heap.size A n l);have cp1:∀ty,(qI #[56,56] ty #[.slice (some ⟨y,0,none⟩) 6 6,.slice A n c]).run aj w3=.ok (goInt 6) (gT w3 y 0 (Bv (qv 6 l))):=fun ty=>by
  have:=FC (c:=c) (d:=6) w3 R3.out (m:=6) (by omega) (by omega) (Z3.out.b0.there 0 6 (by rw[Lc.ak];omega)) 56 ty 5 dw aoh;rw[Po 6 l (by rw[hl.out];omega)]at this;exact this
 have pY:∀p∈[(W.heap.size,qR.aA)],p.1≠y:=fun p hp=>by rw[List.mem_singleton.1 hp];exact jL UR
 have Z4:=ah ((Z3.out.axe (Nat.le_of_lt UR) pY 0 (Bv (qv 6 l))).drew);rw[Lc.acx]at Z4;go_upto_region 5 with fail
 have R4:=ah ((HR.out.below Z4.out.dF).lF Z4.out.dF.size:gy (gT w3 y 0 (Bv (qv 6 l))).drew (gT w3 y 0 (Bv (qv 6 l))).drew.heap.size A n l);have cp2:∀ty,(qI #[56,56] ty #[.slice (some ⟨y,6,none⟩) 6 6,.slice (Option.map (fun x=>⟨x.block,x.off+6,none⟩) A) (n-6) (c-6)]).run aj (gT w3 y 0 (Bv (qv 6 l))).drew=.ok (goInt 6) (gT (gT w3 y 0 (Bv (qv 6 l))).drew y 6 (Bv (qv 6 (l.drop 6)))):=fun ty=>by
  have P:=R4.out.Ti (z:=6) (b:=n) (c:=c) (by omega) (by omega) (by omega);rw[if_neg (by omega),show(fun x:aU=>x.add 6)=fun x=>⟨x.block,x.off+6,none⟩from funext fun x=>by simp[rF]]at P;rw[List.take_of_length_le (by simp;have:=hl.out;omega)]at P;have:=FC (c:=c-6) (d:=6) _ P (m:=6) (by omega) (by omega) (Z4.out.b0.there 6 6 (by rw[Lc.ak];omega)) 56 ty 5 dw aoh;rw[Po 6 _ (by simp;have:=hl.out;omega)]at this;exact this
 have i6:(6:Int)<=c:=by omega
 go_region;have Z5:=ah (Z4.out.axe (Nat.le_of_lt UR) pY 6 (Bv (qv 6 (l.drop 6))));rw[Lc.acy,hX0]at Z5;simp only at Z5;clear Z3 Z4 R3 R4 cp1 cp2 i6 hX0;generalize gT (gT w3 y 0 (Bv (qv 6 l))).drew y 6 (Bv (qv 6 (l.drop 6)))=w5 at Z5 ⊢;go_wp2_with fail;go_loopw [] (fun wr=>∃(fH:List Tg)(A':Option aU)(c' k:Nat),fH.length<=2/\14<=k/\k<=n/\Rz Tg.aA 2 268 [(y,(Lc.mk (qv 6 l) (qv 6 (l.drop 6)) A' fH.length c' (eX l (k-2):Nat) k).aA),(W.heap.size,qR.aA)] W wr (.slice A' fH.length c') fH/\mD l=Dv l (2-fH.length) k fH)
  (fun wr=>n-(intOf ((wr.cell? ⟨y,14,none⟩).getD undef)).toNat)
 case atStart=>exact⟨[],none,0,14,by simp,by omega,by omega,Z5.out,by unfold mD;rw[if_neg (by rw[hl.out];exact h14)];rfl⟩
 case round=>
  obtain⟨fH,A',c',k,ht2,aP4,YB,hz,hlk⟩:=hrel;have HZ:=ah hz;have HK:=ah hlk;have HT:=ah (fun W=>acw W (eX l (k-2):Nat));have T0:=HZ.out.b0;obtain⟨x1,x2,x3,x4⟩:=T0.aI;have hWy:W.heap.size≠y:=jL UR;have hA:=ah (fun(x:Lc)=>HZ.out.ans (x:=x.aA) (ay _) hWy (by rw[Lc.ak,Lc.ak]));have zq:=HZ.out.b1.there 0 15 (by rw[Lc.ak];omega);clear hz hlk T0 Z5;cases alg:uw (eX l (k-2):Nat)
  ·rw[alg]at HT
   have H:=ah (show mD l=(⟨qv 6 l,qv 6 (l.drop 6),fH,(eX l (k-2):Nat),k⟩,0)by rw[HK.out,Aj alg]);go_wp2_with (go_at_call 174;with_reducible refine(HT.out _).mono ?_;rintro e w' ⟨rfl,rfl⟩);have wX:=hA.out (Lc.mk (qv 6 l) (qv 6 (l.drop 6)) A' fH.length c' (eX l (k-2):Nat) k);refine bodyPost_ret (kLc.qL rfl _ rfl wX.b0 (Lc.ak _)) rfl ?_;rw[H.out];exact⟨A',c',rfl,wX.rd,wX.dF⟩
  rw[alg]at HT;by_cases h2:fH.length=2
  ·have h2':((fH.length:Int)==2)=true:=by rw[h2];rfl
   have H:=ah (show mD l=(Fy,4)by rw[HK.out,h2];exact KY alg);go_wp2_with (go_at_call 174;with_reducible refine(HT.out _).mono ?_;rintro e w' ⟨rfl,rfl⟩);have wX:=hA.out qR;refine bodyPost_ret (kLc.qL rfl _ rfl wX.b0 (Lc.ak _)) rfl ?_;rw[H.out];exact⟨none,0,rfl,iO.nil _ _,wX.dF⟩
  have h2':((fH.length:Int)==2)=false:=by rw[beq_eq_false_iff_ne];omega
  by_cases h4:n<k+4
  ·have h4':(n:Int)<(k:Int)+4:=by omega
   have H:=ah (show mD l=(Fy,2)by rw[HK.out,show 2-fH.length=(1-fH.length)+1 by omega];exact Cx alg (by rw[hl.out];exact h4));go_wp2_with (go_at_call 174;with_reducible refine(HT.out _).mono ?_;rintro e w' ⟨rfl,rfl⟩);have wX:=hA.out qR;refine bodyPost_ret (kLc.qL rfl _ rfl wX.b0 (Lc.ak _)) rfl ?_;rw[H.out];exact⟨none,0,rfl,iO.nil _ _,wX.dF⟩
  have h4':¬(n:Int)<(k:Int)+4:=by omega
  have H:=ah (show mD l=Dv l (2-(fH.length+1)) (k+4) (fH++[⟨(eX l (k-2):Nat),(eX l k:Nat)⟩])by rw[HK.out,show 2-fH.length=(2-(fH.length+1))+1 by omega];exact Fz alg (by rw[hl.out];exact h4));go_upto_region 11 with(go_at_call 174;with_reducible refine(HT.out _).mono ?_;rintro e w' ⟨rfl,rfl⟩)
  obtain⟨vr,hvr⟩:∃v,v=wr:=⟨_,rfl⟩
  rw[<-hvr]at HZ x1 x2 x3 x4 ⊢;have HV:=ah hvr;clear hA zq HT h2' h4' HK hvr;obtain⟨X,hX⟩:∃X:Lc,X=Lc.mk (qv 6 l) (qv 6 (l.drop 6)) A' fH.length c' (eX l (k-2):Nat) k:=⟨_,rfl⟩
  have hi4:(k:Int)<=c:=by omega
  have hck:¬c=k:=by omega
  have PC:=(((HR.out.below HZ.out.dF).lF HZ.out.dF.size:gy vr vr.heap.size A n l)).Ti (z:=k) (b:=n) (c:=c) (by omega) (by omega) (by omega);rw[if_neg (by omega),List.take_of_length_le (by simp;have:=hl.out;omega)]at PC;have PD:=ah PC;have C2:=ah (JM vr.drew _ (n-k) (c-k) _ (by omega) (by omega) (by omega) PC);rw[show eX (l.drop k) 0=eX l k by simp[eX,av]]at C2;have KG:=ah (fun(W':au) (h:dL W' y X.aA)=>show W'.cell? ⟨y,12,none⟩=some (.slice A' fH.length c')/\W'.cell? ⟨y,13,none⟩=some (.int .i64 (eX l (k-2):Nat))/\W'.cell? ⟨y,14,none⟩=some (.int .i64 k)by
   rw[hX]at h;exact⟨(h.aI.1 12).trans (Lc.acs _),(h.aI.1 13).trans (Lc.Et _),(h.aI.1 14).trans (Lc.MZ _)⟩)
  rw[<-hX]at HZ;have ZG:=ah (fun(wa:au) (h:aN vr.drew.heap.size vr.drew wa)=>HZ.out.drew.go h);have HGL:=ah (show fH.length+1<=1000000 by omega);obtain⟨k1,k2,k3⟩:=KG.out vr.drew HZ.out.drew.b0;clear PC;go_cut []from 37 to 49 (fun wx=>∃A5 c5,Rz Tg.aA 2 268 [(y,(Lc.mk (qv 6 l) (qv 6 (l.drop 6)) A5 (fH.length+1) c5 (eX l (k-2):Nat) k).aA),(W.heap.size,qR.aA)] W wx (.slice A5 (fH.length+1) c5) (fH++[⟨(eX l (k-2):Nat),(eX l k:Nat)⟩]))
  case first=>
   go_region_law (first|(refine axf (o:=⟨some 45,_,_,_,_,_⟩) rfl ?_;go_simp;go_at_call 173;(with_reducible refine C2.out.mono ?_);rintro e wa ⟨rfl,hba⟩;have Za:=ah (ZG.out wa hba);have ka:=KG.out wa Za.out.b0;have Zb:=ah (Za.out.alloc (.cells (Tg.mk (eX l (k-2):Nat) (eX l k:Nat)).aA 268));have kb:=KG.out _ Zb.out.b0;have RO:=ah (iO.one (f:=Tg.aA) (Tg.mk (eX l (k-2):Nat) (eX l k:Nat)) Tg.ak wa 268);clear hba)|(refine axg (o:=⟨some 48,_,_,_,_,_⟩) asw rfl (.tmp 38) (.tmp 47) rfl (.slice A' fH.length c') (some ⟨wa.heap.size,0,none⟩) 1 1 (by kernel_rfl) Zb.out (by kernel_rfl) RO.out HGL.out ?_;intro A5 n5 c5 w5 h5 h6;have Z5:=ah h5;have k5:=(h5.b0.aI.1 12).trans (Lc.acs _);have f5:=h5.b0.aI.2.1 12;clear h5 h6))
   all_goals
    have Z6:=ah (Z5.out.aoF (Nat.le_of_lt UR) pY 12 (.slice A5 n5 c5));rw[Lc.aoB]at Z6;obtain rfl:n5=fH.length+1:=by have:=Z5.out.len;simpa using this
    rw[hX]at Z6;clear Z5 k5 f5 k1 k2 k3 ka kb;go_wp2_with fail;go_meet
    case rel=>exact⟨A5,c5,Z6.out⟩
  obtain⟨A5,c5,Z6⟩:=hcut;have Z6:=ah Z6;generalize wc=w6 at Z6 ⊢;obtain⟨x1,x2,x3,x4⟩:=Z6.out.b0.aI;obtain⟨m,hm⟩:∃m,m=k+2:=⟨_,rfl⟩
  have PC:=(((HR.out.below Z6.out.dF).lF Z6.out.dF.size:gy w6 w6.heap.size A n l)).Ti (z:=m) (b:=n) (c:=c) (by omega) (by omega) (by omega);rw[if_neg (by omega),List.take_of_length_le (by simp;have:=hl.out;omega)]at PC;have C3:=ah (JM w6 _ (n-m) (c-m) _ (by omega) (by omega) (by omega) PC);rw[show eX (l.drop m) 0=eX l m by simp[eX,av,Nat.add_assoc]]at C3;have Qw:(m:Int)<=c:=by omega
  have aP6:¬c=m:=by omega
  have Dg:(k:Int)+2=m:=by omega
  have HM:=ah hm;have HX:=ah hX;clear PC C2 PD KG ZG hX k1 k2 k3 hm;go_wp2_with (go_at_call 173;with_reducible refine C3.out.mono ?_;rintro e w7 ⟨rfl,hb7⟩;have Z7:=ah (Z6.out.go hb7);have k7:=(Z7.out.b0.aI.1 13).trans (Lc.Et _);have f7:=Z7.out.b0.aI.2.1;have k8:=(Z7.out.b0.aI.1 14).trans (Lc.MZ _);clear hb7);have Z8:=ah ((Z7.out.aoF (Nat.le_of_lt UR) pY 13 (.int .i64 (eX l m:Nat))));rw[Lc.Ve]at Z8;have Z9:=ah (Z8.out.aoF (Nat.le_of_lt UR) pY 14 (.int .i64 ((k:Int)+4)));rw[Lc.asv]at Z9;have q1:=(Z9.out.b0.aI.1 14).trans (Lc.MZ _);have q2:=(HZ.out.b0.aI.1 14)
  rw[HX.out,HV.out]at q2;have q2:=q2.trans (Lc.MZ _);simp only at q1 q2;refine⟨?_,?_⟩
  ·refine⟨fH++[⟨(eX l (k-2):Nat),(eX l k:Nat)⟩],A5,c5,k+4,by simp;omega,by omega,by omega,?_,by rw[H.out];simp⟩
   obtain rfl:=HM.out;simpa using Z9.out
  ·rw[q1,q2]
   simp[intOf]<;>omega
section
attribute [local go_sem high] iT jG
def ipR(k:Int)(l:List UInt8):Nt×Int:=if k=2048 then(⟨(AB l).1.head,(AB l).1.dz,(AB l).1.aQ,(AB l).1.oM,(AB l).1.src,(AB l).1.dst⟩,(AB l).2)
 else(⟨(By l).1.head,(By l).1.dz,(By l).1.aQ,(By l).1.oM,(By l).1.src,(By l).1.dst⟩,(By l).2)
def xZ(k:Int):Pk:=⟨k,agu,0,0,0,0⟩
def mQ(l:List UInt8):Nt×Int:=ipR (mD l).1.oF (l.drop (mD l).1.fE)
def Ng(l:List UInt8):Pt×Int:=JQ (mQ l).1.aQ ((l.take ((mD l).1.fE+(mQ l).1.dz.toNat)).drop ((mD l).1.fE+(mQ l).1.head.toNat))
def wG(l:List UInt8):Pk:=
 if(mD l).2≠0 then xZ 1 else if(mD l).1.oF≠2048/\(mD l).1.oF≠34525 then xZ 2 else if(mQ l).2≠0 then xZ 3 else if(mQ l).1.oM=true then xZ 4
 else if(mQ l).1.aQ≠6/\(mQ l).1.aQ≠17 then xZ 5 else if(Ng l).2≠0 then xZ 6
 else⟨0,⟨(mQ l).1.src,(mQ l).1.dst,(mQ l).1.aQ,(Ng l).1.kU,(Ng l).1.j4⟩,(Ng l).1.vB,(mD l).1.fE,(mD l).1.fE+(mQ l).1.head,(mD l).1.fE+(mQ l).1.dz⟩
theorem ajk{l:List UInt8}:∀(m k:Nat)(fH:List Tg),14<=k->k<=l.length->(Dv l m k fH).2=0->14<=(Dv l m k fH).1.fE/\(Dv l m k fH).1.fE<=l.length
 | 0,k,fH,h1,h2,h=>by
   cases ht:uw (eX l (k-2):Nat)with
   | false=>rw[Aj ht]at h⊢;exact⟨h1,h2⟩
   | true=>rw[KY ht]at h;cases h
 | m+1,k,fH,h1,h2,h=>by
   cases ht:uw (eX l (k-2):Nat)with
   | false=>rw[Aj ht]at h⊢;exact⟨h1,h2⟩
   | true=>
     by_cases h4:l.length<k+4
     ·rw[Cx ht h4]at h;cases h
     ·rw[Fz ht h4]at h⊢;exact ajk m (k+4) _ (by omega) (by omega) h
theorem ahz{l:List UInt8}(h:(mD l).2=0):14<=(mD l).1.fE/\(mD l).1.fE<=l.length:=by
 unfold mD at h ⊢;split at h
 ·cases h
 ·rename_i hl;rw[if_neg hl];exact ajk 2 14 [] (by omega) (by omega) h
theorem aoL{l:List UInt8}(h:(AB l).2=0):20<=(AB l).1.head/\(AB l).1.head<=(AB l).1.dz/\(AB l).1.dz<=l.length:=by
 unfold AB at h ⊢;split at h
 ·rename_i he
  rw[if_pos he];unfold DV at he;simp only[RG]
  repeat(first|(split at he;(first|(cases he;done)|skip))|(exact absurd he (by decide)))
  all_goals(first|omega|(simp at he;done))
 ·exact absurd h ‹_›
theorem asJ(f:Nat):∀(x:Sx)(r:List UInt8),40<=x.head->x.head+r.length=x.dz->(zu f x r).2=0->40<=(zu f x r).1.head/\(zu f x r).1.head<=(zu f x r).1.dz/\(zu f x r).1.dz=x.dz:=by
 induction f with
 | zero=>
   intro x r h1 h2 h;by_cases hx:x.oM=true\/Ak x.aQ=false
   ·rw[Pv hx]at h⊢;exact⟨h1,by simp only;omega,rfl⟩
   ·have hf:x.oM=false:=by simpa using fun e=>hx (.inl e)
    have he:Ak x.aQ=true:=by simpa using fun e=>hx (.inr e)
    rw[aaD hf he]at h;cases h
 | succ f ih=>
   intro x r h1 h2 h;by_cases hx:x.oM=true\/Ak x.aQ=false
   ·rw[Pv hx]at h⊢;exact⟨h1,by simp only;omega,rfl⟩
   ·have hf:x.oM=false:=by simpa using fun e=>hx (.inl e)
    have he:Ak x.aQ=true:=by simpa using fun e=>hx (.inr e)
    by_cases hs:r.length<8\/r.length<qZ x.aQ r
    ·rw[Nb hf he hs]at h;cases h
    ·rw[aaE hf he hs]at h ⊢
     exact ih ⟨x.head+qZ x.aQ r,x.dz,x.IU,decide (x.aQ=44)&&Na r,x.IV+1,(nR r 0:Nat),x.src,x.dst⟩ (r.drop (qZ x.aQ r)) (by simp only;omega) (by simp only[jA];omega) h
theorem aoM{l:List UInt8}(h:(By l).2=0):40<=(By l).1.head/\(By l).1.head<=(By l).1.dz/\(By l).1.dz<=l.length:=by
 unfold By at h ⊢;split at h
 ·cases h
 ·rename_i h1
  rw[if_neg h1];split at h
  ·cases h
  ·rename_i h2
   rw[if_neg h2];split at h
   ·cases h
   ·rename_i h3
    rw[if_neg h3];obtain⟨e1,e2,e3⟩:=asJ 8 (sx0 l) _ (by simp[sx0]) (by simp[sx0];omega) h;refine⟨e1,e2,?_⟩;rw[e3];simp only[sx0];omega
theorem aoN{k:Int}{l:List UInt8}(h:(ipR k l).2=0):20<=(ipR k l).1.head/\(ipR k l).1.head<=(ipR k l).1.dz/\(ipR k l).1.dz<=l.length:=by
 unfold ipR at h ⊢;split at h
 ·rename_i hk;rw[if_pos hk];exact aoL h
 ·rename_i hk;rw[if_neg hk];have:=aoM h;simp only;omega
@[go_sem ↓]theorem aP7(ps:Array (Nat×aC)):fJ 81 ps=uW 81 ps:=rfl
theorem aIh(w:au)(fs:Array nV)(h:aj.underlying 81=some (.struct fs)):(iB (fun f=>Prod.mk f.offset <$> sizeOf f.type) fs:xO (Array (Nat×Nat))).run aj w=.ok #[(0,17),(17,17),(34,1),(35,1),(36,1)] w:=by
 have e:=jY;rw[h]at e;cases e;show _=_
 kernel_rfl
theorem Tu.acC(x:Tu)(t:fu):sJ x.aA 0 t.aA=({x with src:=t}:Tu).aA:=by unfold Tu.aA;exact Hg (by rw[fu.ak,fu.ak])
theorem Tu.Vf(x:Tu)(t:fu):sJ x.aA 17 t.aA=({x with dst:=t}:Tu).aA:=by unfold Tu.aA;exact qU (by rw[fu.ak,fu.ak]) 17 (fu.ak _)
@[go_sem]theorem aIi(W:au)(s t:fu)(p a b:Int):(uW 81 #[(0,.agg s.aA),(1,.agg t.aA),(2,.int .i64 p),(3,.int .i64 a),(4,.int .i64 b)]).run aj W=.ok (.agg (Tu.mk s t p a b).aA) W:=kTu.bd W _ _ _ _ jY (aIh W _ jY) (by
 refine(sS rfl (fu.ak _) (by rw[Tu.ak];omega) (Tu.acC _ _)).trans ?_;refine(sS rfl (fu.ak _) (by rw[Tu.ak];omega) (Tu.Vf _ _)).trans ?_;refine(iy rfl rfl (by rw[Tu.ak];omega) (Tu.aA3 _ _)).trans ?_;refine(iy rfl rfl (by rw[Tu.ak];omega) (Tu.aA4 _ _)).trans ?_;refine(iy rfl rfl (by rw[Tu.ak];omega) (Tu.auG _ _)).trans ?_;rfl)
theorem Pk.FD(x:Pk)(v:Int):x.aA.setIfInBounds 0 (.int .i64 v)=({x with kind:=v}:Pk).aA:=by simp[Pk.aA,aM,Tu.ak]
theorem Pk.Rx(x:Pk)(v:Int):x.aA.setIfInBounds 38 (.int .i64 v)=({x with vB:=v}:Pk).aA:=by simp[Pk.aA,aM,Tu.ak]
theorem Pk.asK(x:Pk)(v:Int):x.aA.setIfInBounds 39 (.int .i64 v)=({x with Du:=v}:Pk).aA:=by simp[Pk.aA,aM,Tu.ak]
theorem Pk.asL(x:Pk)(v:Int):x.aA.setIfInBounds 40 (.int .i64 v)=({x with tK:=v}:Pk).aA:=by simp[Pk.aA,aM,Tu.ak]
theorem Pk.aoO(x:Pk)(v:Int):x.aA.setIfInBounds 41 (.int .i64 v)=({x with Hf:=v}:Pk).aA:=by simp[Pk.aA,aM,Tu.ak]
theorem Pk.alh(x:Pk)(t:Tu):sJ x.aA 1 t.aA=({x with tuple:=t}:Pk).aA:=by unfold Pk.aA;exact qU (by rw[Tu.ak,Tu.ak]) 1 rfl
@[go_sem]theorem aIj(W:au)(k:Int):(uW 83 #[(0,.int .i64 k)]).run aj W=.ok (.agg (xZ k).aA) W:=kPk.bd W _ _ _ _ vK (aBF W _ vK) (by
 refine(iy rfl rfl (by rw[Pk.ak];omega) (Pk.FD _ _)).trans ?_;rfl)
@[go_sem]theorem aIk(W:au)(t:Tu)(a b c d:Int):(uW 83 #[(1,.agg t.aA),(2,.int .i64 a),(3,.int .i64 b),(4,.int .i64 c),(5,.int .i64 d)]).run aj W=.ok (.agg (Pk.mk 0 t a b c d).aA) W:=kPk.bd W _ _ _ _ vK (aBF W _ vK) (by
 refine(sS rfl (Tu.ak _) (by rw[Pk.ak];omega) (Pk.alh _ _)).trans ?_;refine(iy rfl rfl (by rw[Pk.ak];omega) (Pk.Rx _ _)).trans ?_;refine(iy rfl rfl (by rw[Pk.ak];omega) (Pk.asK _ _)).trans ?_;refine(iy rfl rfl (by rw[Pk.ak];omega) (Pk.asL _ _)).trans ?_;refine(iy rfl rfl (by rw[Pk.ak];omega) (Pk.aoO _ _)).trans ?_;rfl)
theorem aeS(p:Int)(W:au):aR aj 94 #[.int .i64 p] W fun e W'=>e=.returned (.bool (decide (p=6)||decide (p=17)))/\W=W':=by
 go_enter Tryz.func94,Tryz.ntmps94;by_cases h:p=6
 ·have q:(p==6)=true:=by simp[h]
  go_wp2;go_ret;exact⟨by simp[h],rfl⟩
 ·have q:(p==6)=false:=by simp[h]
  go_wp2;go_ret;exact⟨by simp[h];rw[cO];simp,rfl⟩
def aeT(k:Int):aC:=.iface 162 (.int .i64 k)
theorem asM(k:Int)(W:au):aR aj 92 #[.bool true,.int .i64 k] W fun e W'=>e=.returned (.tuple #[])/\W=W':=by
 go_enter Tryz.func92,Tryz.ntmps92;go_wp2;go_end0;exact⟨rfl,rfl⟩
theorem asN(k:Int)(W:au):aR aj 92 #[.bool false,.int .i64 k] W fun e W'=>e=.panicked [{v:=aeT k,recovered:=false}]/\W=W':=by
 go_enter Tryz.func92,Tryz.ntmps92;go_wp2;exact⟨rfl,rfl,rfl⟩
theorem ahA(W:au)(k:Int)(A:Option aU)(n c:Nat)(l:List UInt8)(tX:n<=c)(hc:c<=9223372036854775807/\n<=1000000000)(hr:gy W W.heap.size A n l):aR aj 93 #[.int .i64 k,.slice A n c] W (gP W (.tuple #[.agg (ipR k l).1.aA,.int .i64 (ipR k l).2])):=by
 have b0:=ah ((Bx.start W).new acr.aA 168);have R0:=b0.out.Nc hr;have C4:=ah (Pp _ A n c l tX hc R0);have C6:=ah (Tw _ A n c l tX hc R0);clear R0 hr;have pY:∀(w:au),W.heap.size<w.heap.size->∀p∈[(w.heap.size,(#[]:Array aC))],True:=fun _ _ _ _=>trivial
 go_enter Tryz.func93,Tryz.ntmps93;by_cases hk:k=2048
 ·have q:(k==2048)=true:=by simp[hk]
  have H:=ah (show ipR k l=(⟨(AB l).1.head,(AB l).1.dz,(AB l).1.aQ,(AB l).1.oM,(AB l).1.src,(AB l).1.dst⟩,(AB l).2)by unfold ipR;rw[if_pos hk]);obtain⟨x,hx⟩:∃x,x=(AB l):=⟨_,rfl⟩
  obtain⟨x,er⟩:=x;rw[<-hx]at H;unfold FoP at C4;rw[<-hx]at C4;clear hx hk;go_wp2_with (go_at_call 175;with_reducible refine C4.out.mono ?_;rintro e w1 ⟨rfl,gI⟩;have Z1:=ah (b0.out.go gI);have Z2:=ah (Z1.out.new x.aA 192);obtain⟨y1,y2,y3,y4⟩:=Z2.out.b0.aI;have zq:=Z2.out.b1.there 0 38 (Nat.le_of_eq (Nt.ak acr).symm);clear gI);have Z3:=ah (Z2.out.swap.put (fun p hp=>by rw[List.mem_singleton.1 hp];exact Nat.ne_of_gt Z1.out.b0.lt) (Nt.mk x.head x.dz x.aQ x.oM x.src x.dst).aA (by rw[Nt.ak,Nt.ak]));refine bodyPost_ret (kNt.qL rfl _ rfl Z3.out.b0 (Nt.ak _)) rfl ?_;rw[H.out];exact⟨rfl,Z3.out.dF⟩
 ·have q:(k==2048)=false:=by simp[hk]
  have H:=ah (show ipR k l=(⟨(By l).1.head,(By l).1.dz,(By l).1.aQ,(By l).1.oM,(By l).1.src,(By l).1.dst⟩,(By l).2)by unfold ipR;rw[if_neg hk]);obtain⟨x,hx⟩:∃x,x=(By l):=⟨_,rfl⟩
  obtain⟨x,er⟩:=x;rw[<-hx]at H;unfold SxP at C6;rw[<-hx]at C6;clear hx hk;go_wp2_with (go_at_call 176;with_reducible refine C6.out.mono ?_;rintro e w1 ⟨rfl,gI⟩;have Z1:=ah (b0.out.go gI);have Z2:=ah (Z1.out.new x.aA 189);obtain⟨y1,y2,y3,y4⟩:=Z2.out.b0.aI;have zq:=Z2.out.b1.there 0 38 (Nat.le_of_eq (Nt.ak acr).symm);clear gI);have Z3:=ah (Z2.out.swap.put (fun p hp=>by rw[List.mem_singleton.1 hp];exact Nat.ne_of_gt Z1.out.b0.lt) (Nt.mk x.head x.dz x.aQ x.oM x.src x.dst).aA (by rw[Nt.ak,Nt.ak]));refine bodyPost_ret (kNt.qL rfl _ rfl Z3.out.b0 (Nt.ak _)) rfl ?_;rw[H.out];exact⟨rfl,Z3.out.dF⟩
theorem Xo{P:eF}{t:bM}{ik:IntKind}(hu:P.underlying t=some (.int ik))(v:aC)(xT:bM)(w:au):(Ie (.iface t v) xT t true).run P w=.ok (.tuple #[v,.bool true]) w:=by
 simp[Ie,dJ hu]
theorem Ut(q:Nat)(k:Int)(lJ:List PanicEntry)(w:au)(hth:w.there q 0 42):
 CallsD aj 90 #[.pointer (some ⟨q,0,none⟩)] (.panicking ({v:=aeT k,recovered:=false}::lJ)) w fun e u' w'=>
  e=.returned (.tuple #[])/\u'=.panicking ({v:=aeT k,recovered:=true}::lJ)/\w'=gT w q 0 (xZ k).aA:=by
 refine callsD_of_wpS Tryz.func90 rfl fun c₀ cs hu=>?_
 simp only[I8,List.size_toArray,List.length_cons,List.length_nil,Nat.reduceAdd,Nat.reduceSub,Array.replicate_succ,Array.replicate_zero,List.push_toArray,List.append_toArray,List.nil_append,List.cons_append];apply wpS_seq;apply Df;simp[wpOpsS,go_sem,recoverD,hu,I8,Exit.thenS];apply wpS_seq;apply Df;simp[wpOpsS,go_sem,recoverD,hu,I8,Exit.thenS,aeT];refine wpS_cond (t:=true) (by simp[Act.eval,nC]) ?_;simp only[if_true];refine wpS_of_wp ?_;have hty:=fun v xT w=>Xo (P:=aj) Tryz.underlying162 v xT w
 have aP8:=hth;go_wp2;exact⟨rfl,_,rfl,_,results_none rfl _ _ _,rfl,rfl,rfl⟩
theorem ahB(q:Nat)(w:au):
 CallsD aj 90 #[.pointer (some ⟨q,0,none⟩)] .returning w fun e u' w'=>e=.returned (.tuple #[])/\u'=.returning/\w'=w:=by
 refine callsD_of_wpS Tryz.func90 rfl fun c₀ cs hu=>?_
 apply wpS_seq;apply Df;simp[wpOpsS,go_sem,recoverD,hu,I8,Exit.thenS];apply wpS_seq;apply Df;simp[wpOpsS,go_sem,recoverD,hu,I8,Exit.thenS];refine wpS_cond (t:=false) (by simp[Act.eval,nC]) ?_;simp only[jH,if_false];refine wpS_of_wp (wp_skip ?_);cases c₀;simp_all[bodyPostS,results,Tryz.results90]
end
def yO(o:iV)(e:Nat):iV:={o with after:=o.after.push {on:=e,ground:=.data}}
theorem Mi{listed:Array Bool}{k i:Nat}{b:Bool}(h:listed.getD k b=true):(listed.setIfInBounds i true).getD k b=true:=by
 by_cases e:i=k
 ·subst e
  rcases bf i listed.size with h1|h1
  ·simp[h1]
  ·rw[jQ h1];exact h
 ·rw[xP b e];exact h
def aoP(ops:Array iV)(k s e d:Nat):Bool:=match ops[s]?,ops[e]?,ops[s+1]? with
 | some os,some oe,some ot=>((dW s).all fun i=>i==e||os.after.any fun x=>qJ .any x&&x.on==i)&&(oe.after.all fun x=>!qJ .any x||os.after.any fun y=>qJ .any y&&y.on==x.on)
  && (ot.after.any fun x=>qJ .any x&&x.on==e)&&os.dst==none&&os.guard==none&&oe.guard==none&&decide (e<s)&&decide (k<s)&&e != k&&(match oe.dst with|some x=>!(os.looksAt ops).contains x&&x != d|none=>false) && !(oe.looksAt ops).contains d
  && ((dW ops.size).all fun t=>decide (t<=s+1)||Region.waitsFor .any ops t (t-1))
 | _,_,_=>false
section
variable {P:eF}
section
variable {l:List iV} {k s e g d:Nat} {o os oe:iV} {T:bM} {z:Array aC} {aF:re} {Q:Aq->re->au->Prop}
def mM(l:List iV)(k s e:Nat)(o os:iV):List iV:=(l.set k (kW o)).set s (yO os e)
theorem zO(i:Nat)(hk:i≠k)(hs:i≠s):(mM l k s e o os).toArray[i]? = l.toArray[i]?:=by
 simp[mM,fG,jm hk,jm hs]
theorem acE(hs:l[s]? = some os):(mM l k s e o os).toArray[s]? = some (yO os e):=by
 have:=(iE.1 hs).1;simp[mM,fG,this]
theorem Xp(hk:l[k]? = some o)(K7:k≠s):(mM l k s e o os).toArray[k]? = some (kW o):=by
 have:=(iE.1 hk).1;simp[mM,fG,this,jm K7]
theorem Xq(hk:l[k]? = some o)(hs:l[s]? = some os)(K7:k≠s)(tmps:Array aC):yielded (mM l k s e o os).toArray tmps=yielded l.toArray tmps:=by
 funext j;unfold yielded;have:((mM l k s e o os).toArray[j]?).bind (·.dst)=(l.toArray[j]?).bind (·.dst):=by
  by_cases h1:j=s
  ·subst h1;rw[acE hs];simp[hs,yO]
  ·by_cases h2:j=k
   ·subst h2;rw[Xp hk K7];simp[hk,kW]
   ·rw[zO j h2 h1]
 rw[this]
theorem Nh(hk:l[k]? = some o)(hs:l[s]? = some os)(K7:k≠s){listed:Array Bool}{i:Nat}(h:i∈fV .any (mM l k s e o os).toArray listed):i∈fV .any l.toArray listed:=by
 obtain⟨h1,p,hp,h2⟩:=kE.1 h;by_cases e1:i=s
 ·subst e1
  rw[acE hs]at hp;cases hp;exact kE.2 ⟨h1,os,by simpa using hs,fun x hx hb=>h2 x (by simp[yO,hx]) hb⟩
 ·by_cases e2:i=k
  ·subst e2
   rw[Xp hk K7]at hp;cases hp;exact kE.2 ⟨h1,o,by simpa using hk,h2⟩
  ·rw[zO i e2 e1]at hp
   exact kE.2 ⟨h1,p,hp,h2⟩
theorem Ni(hk:l[k]? = some o)(hs:l[s]? = some os)(K7:k≠s){listed:Array Bool}{i:Nat}(h:i∈fV .any l.toArray listed):i∈fV .any (mM l k s e o os).toArray listed\/(i=s/\listed.getD e false=false):=by
 obtain⟨h1,p,hp,h2⟩:=kE.1 h;by_cases e1:i=s
 ·subst e1
  cases he:listed.getD e false with
  | false=>exact .inr ⟨rfl,rfl⟩
  | true=>
    have:p=os:=by simp[hs]at hp;exact hp.symm
    subst this;refine .inl (kE.2 ⟨h1,yO p e,acE hs,fun x hx hb=>?_⟩);simp only[yO,Array.mem_push]at hx;rcases hx with hx|rfl
    ·exact h2 x hx hb
    ·exact he
 ·left
  by_cases e2:i=k
  ·subst e2
   have:p=o:=by simp[hk]at hp;exact hp.symm
   subst this;exact kE.2 ⟨h1,kW p,Xp hk K7,h2⟩
  ·exact kE.2 ⟨h1,p,by rw[zO i e2 e1];exact hp,h2⟩
theorem aaJ(hk:l[k]? = some o)(hs:l[s]? = some os)(K7:k≠s){listed:Array Bool}(he:listed.getD e false=true):fV .any (mM l k s e o os).toArray listed=fV .any l.toArray listed:=by
 have axt:∀i,i∈fV .any (mM l k s e o os).toArray listed↔i∈fV .any l.toArray listed:=fun i=>
  ⟨Nh hk hs K7,fun h=>(Ni hk hs K7 h).resolve_right fun h2=>by rw[he]at h2;cases h2.2⟩
 have jB:(mM l k s e o os).toArray.size=l.toArray.size:=by simp[mM]
 unfold fV at axt ⊢;rw[jB]at axt ⊢;refine Ga fun i hi=>?_
 have:=axt i;rw[mh,mh]at this;rw[cO];exact⟨fun h=>(this.1 ⟨hi,h⟩).2,fun h=>(this.2 ⟨hi,h⟩).2⟩
theorem acG(hk:l[k]? = some o)(hs:l[s]? = some os)(K7:k≠s):∀(g j:Nat)(listed:Array Bool),listed.getD e false=true->listed.size=l.length->lC .any (mM l k s e o os).toArray g j listed=true->lC .any l.toArray g j listed=true
 | 0,j,listed,he,hz,h=>by simp only[lC]at h⊢;rwa [aaJ hk hs K7 he]at h
 | g+1,j,listed,he,hz,h=>by
   simp only[lC,bl]at h ⊢;rw[aaJ hk hs K7 he]at h;exact⟨h.1,acG hk hs K7 g (j+1) _ (getD_set_true he) (by simp[hz]) h.2⟩
def Pure(P:eF)(oe:iV):Prop:=∀(a:re)(w w':au)(n:Next)(w1:au),(execOp a.eval oe).run P w=.ok n w1->∃v,n=.value v/\w1=w/\(execOp a.eval oe).run P w'=.ok (.value v) w'
structure RV(l:List iV)(k s e d x:Nat)(o os oe ot:iV):Prop where
 hk:l[k]? = some o
 hs:l[s]? = some os
 he:l[e]? = some oe
 ht:l[s+1]? = some ot
 all:∀i,i<s->i≠e->∃y∈os.after,qJ .any y=true/\y.on=i
 sub:∀y∈oe.after,qJ .any y=true->∃z∈os.after,qJ .any z=true/\z.on=y.on
 wt:∃y∈ot.after,qJ .any y=true/\y.on=e
 sd:os.dst=none
 sg:os.guard=none
 eg:oe.guard=none
 es:e<s
 ks:k<s
 ek:e≠k
 ed:oe.dst=some x
 sx:x∉os.looksAt l.toArray
 xd:x≠d
 edl:d∉oe.looksAt l.toArray
 chain:∀t,t<l.length->s+1<t->Region.waitsFor .any l.toArray t (t-1)=true
theorem RV.of{x:Nat}{ot:iV}(hk:l[k]? = some o)(hs:l[s]? = some os)(he:l[e]? = some oe)(ht:l[s+1]? = some ot)(hx:oe.dst=some x)(h:aoP l.toArray k s e d=true):RV l k s e d x o os oe ot:=by
 unfold aoP at h;simp only[dZ,hs,he,ht,bl,decide_eq_true_eq,hx,beq_iff_eq,bne_iff_ne]at h;obtain⟨⟨⟨⟨⟨⟨⟨⟨⟨⟨⟨h1,h2⟩,h3⟩,h4⟩,h5⟩,h6⟩,h7⟩,h8⟩,h9⟩,h10,h11⟩,h12⟩,h13⟩:=h;refine⟨hk,hs,he,ht,fun i hi hie=>?_,fun y hy hb=>?_,?_,h4,h5,h6,h7,h8,h9,hx,by simpa using h10,h11,by simpa using h12,fun t ht1 ht2=>?_⟩
 ·have:=gH.1 h1 i (eH.2 hi)
  simp only[nE,beq_iff_eq]at this;obtain⟨y,hy,hy2⟩:=Array.any_eq_true'.1 (this.resolve_left hie);simp only[bl,beq_iff_eq]at hy2;exact⟨y,hy,hy2⟩
 ·have:=Array.all_eq_true'.1 h2 y hy
  simp only[nE,Bool.not_eq_true',hb]at this;obtain⟨z,hz,wX⟩:=Array.any_eq_true'.1 (this.resolve_left (by simp));simp only[bl,beq_iff_eq]at wX;exact⟨z,hz,wX⟩
 ·obtain⟨y,hy,hy2⟩:=Array.any_eq_true'.1 h3
  simp only[bl,beq_iff_eq]at hy2;exact⟨y,hy,hy2⟩
 ·have:=gH.1 h13 t (eH.2 (by simpa using ht1))
  simp only[nE,decide_eq_true_eq]at this;exact this.resolve_left (by omega)
theorem ali{x:Nat}{ot:iV}(H:RV l k s e d x o os oe ot)(yG:∀(j:Nat)(o:iV) cs b,l.toArray[j]? = some o->o.op≠.select cs b)(hp:Pure P oe){C:au->Prop}{u:aC}{f:Nat}{listed:Array Bool}{a:re}{w:au}
 (jB:listed.size=l.length) (aB5:∀t,s<=t->t<l.length->listed.getD t true=false) (hq:Zf P .any (mM l k s e o os).toArray C s (l.length-s) aF (f+1) listed a) (hw:C w) (hsr:s∈fV .any l.toArray listed) (hel:listed.getD e false=false)
 (yZ:∀w',C w'->∃w2,(execOp (aF.put (some d) u).eval os).run P w'=.ok .skip w2/\wpList P l.toArray Q (l.drop (s+1)) (aF.put (some d) u) w2) :
 wpOp P l.toArray Q s (wpAny P .any l.toArray Q (f+(l.length-s)) (listed.setIfInBounds s true)) (a.put (some d) u) w:=by
 have K7:=jL H.ks;have hes:=jL H.es;obtain⟨_,p,hpo,mV⟩:=kE.1 hsr;have:p=os:=by have:=H.hs;simp[this]at hpo;exact hpo.symm
 subst this;have fP:s+1<l.length:=(iE.1 H.ht).1;have axu:e<listed.size:=by rw[jB];have:=H.es;omega
 have he':e∈fV .any (mM l k s e o p).toArray listed:=kE.2 ⟨getD_in axu hel,oe,by rw[zO e H.ek hes];simpa using H.he,fun y hy hb=>by
  obtain⟨z,hz,Ar,hzo⟩:=H.sub y hy hb;rw[<-hzo];exact mV z hz Ar⟩
 obtain⟨v,hy,hK⟩:=qW (by rw[zO e H.ek hes];simpa using H.he) (hq.2 e he').2;have ajn:∀i,i<s->i≠e->listed.getD i false=true:=fun i hi hie=>by
  obtain⟨y,hy,hb,ho⟩:=H.all i hi hie;rw[<-ho];exact mV y hy hb
 obtain rfl:f=0:=by
  rcases f with _|f
  ·rfl
  ·exfalso
   obtain⟨i,hi⟩:=List.exists_mem_of_ne_nil _ hK.1;have wW:=(hK.2 i hi).1;have MI:=(kE.1 hi).1;have h1:=Al MI;have h2:=Eu MI;have h3:=ajn i wW h1;rw[getD_both h2]at h3;cases h3
 obtain⟨Ev,aB7⟩:=hK;rw[H.ed]at aB7;have hA:aF.put (some d) u=(a.put (some d) u).put (some x) v:=by rw[<-aB7];exact Act.put_comm a v u (fun e he=>by cases he;simpa using jm H.xd)
 unfold wpOp;rw[hpo];simp only;rw[if_pos (by simp[fC,H.sg])];refine .inl ?_;obtain⟨w2,qc,aoQ⟩:=yZ w hw;rw[hA,execOp_put p (fun cs b=>yG s p cs b hpo) (a.put (some d) u) (some x) v (fun e he=>by cases he;exact H.sx)]at qc;unfold nD;rw[qc];simp only[Nu,H.sd,lN];rw[bB];obtain⟨g,hg⟩:∃g,l.length-s=g+1:=⟨l.length-s-1,by omega⟩
 rw[hg]at Ev ⊢;simp only[lC,bl,decide_eq_true_eq]at Ev;have aB8:(listed.setIfInBounds s true).getD e false=false:=by rw[xP false (jm hes)];exact hel
 have her:e∈fV .any l.toArray (listed.setIfInBounds s true):=kE.2 ⟨getD_in (by simpa using axu) aB8,oe,by simpa using H.he,fun y hy hb=>by
  obtain⟨z,hz,Ar,hzo⟩:=H.sub y hy hb;rw[<-hzo];exact getD_set_true (mV z hz Ar)⟩
 refine⟨fun h0=>(by rw[h0]at her;cases her),fun i hi=>?_⟩;obtain rfl:i=e:=by
  obtain⟨MI,q,hqo,hqa⟩:=kE.1 hi;have h1:=Al MI;have h2:=Eu MI;by_cases hie:i=e
  ·exact hie
  ·exfalso
   rcases bf i s with h3|h3
   ·have h4:=ajn i h3 hie
    rw[getD_both h2]at h4;cases h4
   ·have hil:i<l.length:=by have:=(Array.getElem?_eq_some_iff.1 hqo).1;simpa using this
    rcases bf (s+1) i with h4|h4
    ·obtain⟨q',hq',y,hy,hb,ho⟩:=Region.waitsFor_spec (H.chain i hil h4)
     have:q'=q:=Option.some.inj (hq'.symm.trans hqo);subst this;have h5:=hqa y hy hb;rw[ho,xP false (by omega),getD_both (aB5 (i-1) (by omega) (by omega))]at h5;cases h5
    ·obtain rfl:i=s+1:=by omega
     have:q=ot:=by have:=H.ht;simp[this]at hqo;exact hqo.symm
     subst this;obtain⟨y,hy,hb,ho⟩:=H.wt;have h5:=hqa y hy hb;rw[ho,aB8]at h5;cases h5
 have heo:l.toArray[i]? = some oe:=by simpa using H.he
 unfold wpOp;simp only[heo];rw[if_pos (by simp[fC,H.eg])];refine .inl ?_;have Xr:(execOp a.eval oe).run P w2=.ok (.value v) w2:=by
  rcases hy with⟨_,h2⟩|⟨h1,_⟩
  ·have h3:=h2 w hw
   unfold Oper.quietAt at h3;generalize hr:(execOp a.eval oe).run P w=r at h3;cases r with
   | halt y w'=>cases h3
   | ok n w'=>
     obtain⟨v',rfl,rfl,h4⟩:=hp a w w2 n w' hr;simp only[Oper.quietUpon]at h3;rw[<-h3.2];exact h4
  ·simp[fC,H.eg]at h1
 unfold nD;have hex:execOp (a.put (some d) u).eval oe=execOp a.eval oe:=execOp_put oe (fun cs b=>yG i oe cs b heo) a (some d) u (fun e he=>by cases he;exact H.edl);have ha2:({tmps:=a.tmps.setIfInBounds d u,defers:=a.defers}:re)=a.put (some d) u:=rfl;rw[ha2,hex,Xr];simp only[Nu,H.ed];rw[<-hA];have YV:(l.drop (s+1)).length=g:=by simp;omega
 have:=wpAny_of_seq (P:=P) (md:=.any) (Q':=Q) (ops:=l.toArray) (l.drop (s+1)) (s+1) ((listed.setIfInBounds s true).setIfInBounds i true) (aF.put (some d) u) w2 (fun j=>by simp[jf]) (by
  rw[YV,Array.setIfInBounds_comm _ _ (jm hes)];refine acG H.hk H.hs K7 g (s+1) _ ?_ (by simp[jB]) Ev.2;rw[xP false (jm hes)];simp[axu]) aoQ
 rw[YV]at this;exact this
theorem PE{listed:Array Bool}{i:Nat}(h:∀t,s<=t->t<l.length->listed.getD t true=false)(hi:i<s):∀t,s<=t->t<l.length->(listed.setIfInBounds i true).getD t true=false:=fun t h1 h2=>by rw[xP true (by omega)];exact h t h1 h2
theorem JU{x:Nat}{ot:iV}(H:RV l k s e d x o os oe ot)(hA:Hq l.toArray k s d=true)(yG:∀(j:Nat)(o:iV) cs b,l.toArray[j]? = some o->o.op≠.select cs b)(hp:Pure P oe){C:au->Prop}{u:aC}
 (yZ:∀w',C w'->∃w2,(execOp (aF.put (some d) u).eval os).run P w'=.ok .skip w2/\wpList P l.toArray Q (l.drop (s+1)) (aF.put (some d) u) w2)
 (RJ:∀listed w',listed.size=l.length->C w'->lC .any (mM l k s e o os).toArray (l.length-s) s listed=true->wpAny P .any l.toArray Q (l.length-s) listed (aF.put (some d) u) w') :
 ∀(f:Nat)(listed:Array Bool)(a:re)(w:au),listed.size=l.length->(∀t,s<=t->t<l.length->listed.getD t true=false)->listed.getD k true=true->C w->Zf P .any (mM l k s e o os).toArray C s (l.length-s) aF f listed a->wpAny P .any l.toArray Q (f+(l.length-s)) listed (a.put (some d) u) w
 | 0,listed,a,w,jB,_,_,hw,h=>by
   obtain⟨h1,rfl⟩:=h;rw[bB];exact RJ _ _ jB hw h1
 | f+1,listed,a,w,jB,NC,hkt,hw,h=>by
   rw[show f+1+(l.length-s)=(f+(l.length-s))+1 by omega];have K7:=jL H.ks;refine⟨fun h0=>absurd ?_ h.1,fun i hi=>?_⟩
   ·rw[tV]
    intro i hi;have:=Nh H.hk H.hs K7 hi;rw[h0]at this;cases this
   ·rcases Ni (e:=e) H.hk H.hs K7 hi with hi'|⟨rfl,hel⟩
    ·obtain⟨wW,hq⟩:=h.2 i hi'
     obtain⟨MI,oi,Vg,_⟩:=kE.1 hi;have Xk:i≠k:=fun e=>by rw[e,hkt]at MI;cases MI
     have his:i≠s:=jL wW;obtain⟨hl,hd⟩:=Xl hA wW Xk Vg;unfold qOp at hq;rw[zO i Xk his,Vg]at hq;unfold wpOp;simp only[Vg];simp only[Xq H.hk H.hs K7]at hq;rw[wanted_put oi a (some d) u (fun e he=>by cases he;exact hl)];split
     ·rename_i Gf
      simp only[Gf,if_true]at hq;exact .inl (Iu (fun cs b=>yG i oi cs b Vg) hl hd hw (fun a' w' hw' h'=>JU H hA yG hp yZ RJ f _ a' w' (by simp[jB]) (PE NC wW) (Mi hkt) hw' h') hq)
     ·rename_i Gf
      simp only[Gf]at hq;rw[Act.put_comm a u undef (fun e he=>by cases he;exact hd)];exact JU H hA yG hp yZ RJ f _ _ w (by simp[jB]) (PE NC wW) (Mi hkt) hw hq
    ·exact ali H yG hp jB NC h hw hi hel yZ
theorem Xt{x:Nat}{ot:iV}(H:RV l k s e d x o os oe ot)(hA:Hq l.toArray k s d=true)(hD:Tv (mM l k s e o os)=true)(yG:∀(j:Nat)(o:iV) cs b,l.toArray[j]? = some o->o.op≠.select cs b)(hp:Pure P oe)
 (hod:o.dst=some d) (hog:o.guard=none) (hoa:o.after = #[]) (qc:∀(a:re) w,(execOp a.eval o).run P w=.ok (.value (.pointer (some ⟨w.heap.size,0,none⟩))) (w.alloc (.cells z T))) {S:au->Prop} (hS:Shut S)
 (yZ:∀w1 w',S w1->S w'->aN (w1.alloc (.cells z T)).heap.size (w1.alloc (.cells z T)) w'->∃w2,(execOp (aF.put (some d) (.pointer (some ⟨w1.heap.size,0,none⟩))).eval os).run P w'=.ok .skip w2/\wpList P l.toArray Q (l.drop (s+1)) (aF.put (some d) (.pointer (some ⟨w1.heap.size,0,none⟩))) w2)
 (RJ:∀listed w1 w',listed.size=l.length->S w1->S w'->aN (w1.alloc (.cells z T)).heap.size (w1.alloc (.cells z T)) w'->lC .any (mM l k s e o os).toArray (l.length-s) s listed=true->wpAny P .any l.toArray Q (l.length-s) listed (aF.put (some d) (.pointer (some ⟨w1.heap.size,0,none⟩))) w') :
 ∀(f:Nat)(listed:Array Bool)(a:re)(w:au),listed.size=l.length->(∀t,s<=t->t<l.length->listed.getD t true=false)->listed.getD k true=false->S w->(∀C:au->Prop,(∀w,C w->S w)->Shut C->(∃w,C w)->Zf P .any (mM l k s e o os).toArray C s (l.length-s) aF f listed a)->wpAny P .any l.toArray Q (f+(l.length-s)) listed a w
 | 0,listed,a,w,jB,_,MI,hw,HH=>by
   obtain⟨h1,_⟩:=HH S (fun _ h=>h) hS ⟨w,hw⟩;have:k∈fV .any (mM l k s e o os).toArray listed:=kE.2 ⟨MI,kW o,Xp H.hk (jL H.ks),fun e he=>by simp[kW,hoa]at he⟩;have:=seqB_ready h1 k this;have:=H.ks;omega
 | f+1,listed,a,w,jB,NC,MI,hw,HH=>by
   rw[show f+1+(l.length-s)=(f+(l.length-s))+1 by omega];have K7:=jL H.ks;have H0:=HH S (fun _ h=>h) hS ⟨w,hw⟩;have hkl:k<l.length:=(iE.1 H.hk).1;refine⟨fun h0=>absurd ?_ H0.1,fun i hi=>?_⟩
   ·rw[tV]
    intro i hi;have:=Nh H.hk H.hs K7 hi;rw[h0]at this;cases this
   ·rcases Ni (e:=e) H.hk H.hs K7 hi with hi'|⟨rfl,hel⟩
    ·have wW:=(H0.2 i hi').1
     by_cases Xk:i=k
     ·subst Xk
      unfold wpOp;simp only[dZ,H.hk];rw[if_pos (by simp[fC,hog])];refine .inl ?_;unfold nD;rw[qc];simp only[Nu,hod];have hC:=HH (fun w'=>S w'/\aN (w.alloc (.cells z T)).heap.size (w.alloc (.cells z T)) w') (fun _ h=>h.1) (Xn hS _) ⟨_,hS _ _ hw ((aH _ _).alloc (ay _) _),aH _ _⟩;obtain⟨v,_,hK⟩:=qW (o:=kW o) (Xp H.hk K7) (hC.2 i hi').2;have:=JU (C:=fun w'=>S w'/\aN (w.alloc (.cells z T)).heap.size (w.alloc (.cells z T)) w') (u:=.pointer (some ⟨w.heap.size,0,none⟩)) H hA yG hp (fun w' hw'=>yZ w w' hw hw'.1 hw'.2) (fun KQ w' hz hw' hB=>RJ KQ w w' hz hw hw'.1 hw'.2 hB) f _ _ (w.alloc (.cells z T)) (by simp[jB]) (PE NC wW) (by
       have:i<listed.size:=by rw[jB];exact hkl
       simp[this]) ⟨hS _ _ hw ((aH _ _).alloc (ay _) _),aH _ _⟩ hK
      have e1:(kW o).dst=some d:=hod;rw[e1,Px]at this;exact this
     ·obtain⟨_,oi,Vg,_⟩:=kE.1 hi
      have his:i≠s:=jL wW;have ahy:(mM l k s e o os).toArray[i]? = some oi:=by rw[zO i Xk his];exact Vg
      obtain⟨v,hy,hK⟩:=qW ahy (H0.2 i hi').2;have hq:qOp P l.toArray S i (fun a'=>a'=a.put oi.dst v) a:=by
       unfold qOp;simp only[Vg];unfold YieldsIn at hy;simp only[Xq H.hk H.hs K7]at hy;rcases hy with⟨h1,h2⟩|⟨h1,rfl⟩
       ·simp only[h1,if_true];exact⟨v,h2,rfl⟩
       ·simp only[h1,jH,if_false]
      refine wpOp_of_qOp hw (fun a' w' hw' e1=>?_) hq;subst e1;refine Xt H hA hD yG hp hod hog hoa qc hS yZ RJ f _ _ w' (by simp[jB]) (PE NC wW) (Pw MI (jm Xk)) hw' (fun C hC1 hC2 hC3=>?_);obtain⟨_,v2,_,_,_,Gd,_⟩:=aeP hD hi' ahy H0 (HH C hC1 hC2 hC3);have e1:a.put oi.dst v=a.put oi.dst v2:=by
       cases hd:oi.dst with
       | none=>rfl
       | some dd=>
         have uU:∀j oj,(mM l k s e o os).toArray[j]? = some oj->(listed.setIfInBounds i true).getD j true=false->oj.dst≠some dd:=fun j oj hj hl hdj=>by
          have:=Hr hD (by simpa using ahy) (by simpa using hj) hd hdj;exact Al hl this.symm
         have q1:=(Cy f _ _ hK).2.2 dd uU;have q2:=(Cy f _ _ Gd).2.2 dd uU;rw[hd]at q1 q2;have q:=q1.symm.trans q2;simp only[lN,dO,if_pos]at q ⊢;by_cases hs:dd<a.tmps.size
         ·simp[hs]at q;rw[q]
         ·have hs':=Nat.le_of_not_lt hs
          rw[jQ hs',jQ hs']
      rw[e1];exact Gd
    ·exfalso
     obtain⟨_,p,hpo,mV⟩:=kE.1 hi;have:p=os:=by have:=H.hs;simp[this]at hpo;exact hpo.symm
     subst this;obtain⟨y,hy,hb,ho⟩:=H.all k H.ks (jm H.ek);have:=mV y hy hb;rw[ho,getD_both MI]at this;cases this
theorem xL{S:au->Prop}(hS:Shut S)(k s e d x:Nat){id:Nat}{Q:Aq->re->au->Prop}{a:re}{w:au}{l:List iV}{o os oe ot:iV}(T:bM)(z:Array aC)(hm:P.follows .mixedOrders=true)
 (hk:l[k]? = some o) (hs:l[s]? = some os) (he:l[e]? = some oe) (ht:l[s+1]? = some ot) (hx:oe.dst=some x) (hL:aoP l.toArray k s e d=true) (hB:xQ .any (mM l k s e o os).toArray s=true) (hA:Hq l.toArray k s d=true) (hD:Tv (mM l k s e o os)=true) (yG:Region.noSelect l.toArray=true)
 (hod:o.dst=some d) (hog:o.guard=none) (hoa:o.after = #[]) (qc:∀(a:re) w,(execOp a.eval o).run P w=.ok (.value (.pointer (some ⟨w.heap.size,0,none⟩))) (w.alloc (.cells z T))) (hp:Pure P oe) (h0:S w.drew)
 (hh:∃aF:re,(∀(T:Type)(f:T->au),Nonempty T->(∀m,S (f m))->(∀m w',aN (f m).heap.size (f m) w'->∃m',w'=f m')->wpQuiet P (mM l k s e o os).toArray (fun w'=>∃m,w'=f m) (fun a'=>a'=aF) ((mM l k s e o os).take s) a)
 /\ (∀w1 w',S w1->S w'->aN (w1.alloc (.cells z T)).heap.size (w1.alloc (.cells z T)) w'->∃w2,(execOp (aF.put (some d) (.pointer (some ⟨w1.heap.size,0,none⟩))).eval os).run P w'=.ok .skip w2/\wpList P l.toArray Q (l.drop (s+1)) (aF.put (some d) (.pointer (some ⟨w1.heap.size,0,none⟩))) w2)):(Code.region id l.toArray true).wp P Q a w:=by
 obtain⟨aF,h,h2⟩:=hh;have H:=RV.of hk hs he ht hx hL;have K7:=jL H.ks;have hsl:s<l.length:=(iE.1 hs).1;simp only[xQ,bl,decide_eq_true_eq]at hB;obtain⟨⟨⟨⟨aoK,hn⟩,hs'⟩,hc⟩,agJ⟩:=hB;have jB:(mM l k s e o os).toArray.size=l.length:=by simp[mM]
 have NC:((mM l k s e o os).take s).length=s:=by simp[mM];omega
 have anE:HeadInv .any (mM l k s e o os).toArray s (nC l.toArray.size false):=
  ⟨by simp[mM],fun j oj _ hl=>(by rw[mJ]at hl;cases hl),fun t _ ht=>getD_in (by rw[jB]at ht;simpa using ht) (mJ _ _)⟩
 refine wp_region_any hm ?_;rw[jB]at agJ;have YV:(l.drop s).length=l.length-s:=by simp
 have:=Xt (P:=P) (aF:=aF) (Q:=Q) H hA hD (Region.noSelect_spec yG) hp hod hog hoa qc hS h2 (fun listed w1 w' hz Io hw' hb hq=>by
  obtain⟨w2,hr,aoQ⟩:=h2 w1 w' Io hw' hb;have hel:listed.getD e false=true:=by
   obtain⟨g,hg⟩:∃g,l.length-s=g+1:=⟨l.length-s-1,by omega⟩
   rw[hg]at hq;simp only[lC,bl,decide_eq_true_eq]at hq;have:s∈fV .any (mM l k s e o os).toArray listed:=by rw[hq.1];simp
   obtain⟨_,p,hpo,mV⟩:=kE.1 this;rw[acE hs]at hpo;cases hpo;exact mV {on:=e,ground:=.data} (by simp[yO]) rfl
  have:=wpAny_of_seq (P:=P) (md:=.any) (Q':=Q) (ops:=l.toArray) (l.drop s) s listed (aF.put (some d) (.pointer (some ⟨w1.heap.size,0,none⟩))) w' (fun j=>by simp[jf]) (by rw[YV];exact acG H.hk H.hs K7 _ _ _ hel hz hq) (by
   have hd:l.drop s=os::l.drop (s+1):=by
    have:=List.drop_eq_getElem_cons hsl;have h3:=(iE.1 hs).2;rw[this,h3]
   rw[hd];unfold wpList;rw[if_pos (by simp[fC,H.sg])];refine .inl ?_;unfold nD;rw[hr];simp only[Nu,H.sd];exact aoQ)
  rwa [YV]at this) s (nC l.toArray.size false) a {w with drawn:=w.drawn+1} (by simp) (fun t _ ht=>getD_in (by simpa using ht) (mJ _ _)) (getD_in (by simp;have:=H.ks;omega) (mJ _ _)) h0 (fun C hC1 hC2 hC3=>by
  have hq:=h {w // C w} Subtype.val (let⟨w,hw⟩:=hC3;⟨⟨w,hw⟩⟩) (fun m=>hC1 _ m.2) (fun m w' hb=>⟨⟨w',hC2 _ _ m.2 hb⟩,rfl⟩);have e:(fun w':au=>∃m:{w // C w},w'=m.val)=C:=by
   funext w';rw[eq_iff_iff];exact⟨fun⟨m,hm⟩=>by rw[hm];exact m.2,fun h=>⟨⟨w',h⟩,rfl⟩⟩
  rw[e]at hq;have:=abR (md:=.any) (C:=C) (g:=l.length-s) aoK hs' hc hn ((mM l k s _ o os).take s) 0 (nC l.toArray.size false) a (fun j hj=>by
   have hj':j<s:=by rw[NC]at hj;exact hj
   rw[ig hj',bB];simp) (by simpa using NC) anE (by rw[NC];simpa using agJ) hq
  rw[NC]at this;exact this)
 rw[show s+(l.length-s)=l.toArray.size by simp;omega]at this;exact this
theorem tZ{oe:iV}{t:pQ}{i:Nat}(h:oe.op=.extract t i):Pure P oe:=by
 intro a w w' n w1 hr;simp only[execOp,h]at hr ⊢;generalize a.eval t=v at hr ⊢;unfold Instr.extract at hr ⊢;split at hr
 ·rename_i vs
  split at hr
  ·rename_i u hu
   simp at hr;exact⟨u,hr.1.symm,hr.2.symm,by simp⟩
  ·simp at hr
 ·simp at hr
end
end
section
attribute [local go_sem high] iT jG
theorem Xu:∀(l:List UInt8)(i:Nat),i%2=0->i<l.length->words (l.take (i+2))=words (l.take i)++[256*nR l i+nR l (i+1)]
 | [],i,_,h=>by simp at h
 | [a],0,_,_=>by simp[words,nR]
 | [a],i+1,h1,h=>by simp at h
 | a::b::l,0,_,_=>by simp[words,nR]
 | a::b::l,1,h1,_=>by omega
 | a::b::l,i+2,h1,h=>by
   have:=Xu l i (by omega) (by simp at h;omega);show(256*a.toNat+b.toNat)::words (l.take (i+2))=((256*a.toNat+b.toNat)::words (l.take i))++[256*nR l i+nR l (i+1)];rw[this];rfl
theorem RX:∀l:List UInt8,(words l).length=(l.length+1)/2
 | []=>rfl
 | [a]=>by simp[words]
 | a::b::l=>by have:=RX l;simp[words,this];omega
theorem aeU:acj 70 3 GY 1:=by
 obtain⟨i,hi,hz,hs⟩:=UZ;have h4:(aj.info? 3).map (fun i=>decide (i.bytes<=1000))=some true:=by kernel_rfl
 rw[hi]at h4;simp at h4;exact⟨i,_,oq,hi,hz,hs,rfl,by omega,h4,aav,fun s=>by simp[GY,cK]⟩
def zP(l:List UInt8):List Int:=(words l).map fun n:Nat=>(n:Int)
theorem aeV:∀(l:List UInt8)(x:Nat),x∈words l->x<=65535
 | [],x,h=>by simp[words]at h
 | [a],x,h=>by have:=a.toNat_lt;simp[words]at h;omega
 | a::b::l,x,h=>by
   have:=a.toNat_lt;have:=b.toNat_lt;simp only[words,bD]at h;rcases h with rfl|h
   ·omega
   ·exact aeV l x h
def WdP(W:au)(l:List UInt8)(e:kX)(W':au):Prop:=∃A' m c',e=.returned (.slice A' m c')/\RdI W' W'.heap.size A' m (zP l)/\aN W.heap.size W W'
theorem acI(W:au)(A:Option aU)(n c:Nat)(l:List UInt8)(hn:n<=1000000)(hr:gy W W.heap.size A n l):aR aj 257 #[.slice A n c] W (WdP W l):=by
 have HR:=ah hr;have hl:=ah hr.len;clear hr;go_enter Tryz.func257,Tryz.ntmps257;go_wp2;go_loopw [3,4] (fun s3 s4 wr=>∃(i:Nat)(A':Option aU)(m c':Nat),i%2=0/\i<=n+1/\s4=.int .i64 i/\s3=.slice A' m c'/\Rz GY 1 3 [] W wr (.slice A' m c') (zP (l.take i)))
  (fun s3 s4 wr=>n+2-(intOf s4).toNat)
 case atStart=>exact⟨0,none,0,0,rfl,by omega,rfl,rfl,by simpa[zP,words]using Rz.nil (f:=GY) (sz:=1) (e:=3) W⟩
 case round=>
  obtain⟨i,A',m,c',Qw,wW,rfl,rfl,hz⟩:=hrel;have HZ:=ah hz;have hm:=hz.len;clear hz;by_cases fP:i<n
  ·have q:(i:Int)<n:=by omega
   obtain⟨a,rfl,EH⟩:=HR.out.ajj (show 0<n by omega);have RW:=ah ((HR.out.below HZ.out.dF).lF HZ.out.dF.size:gy wr wr.heap.size (some a) n l);obtain⟨_,e1,_,Fg⟩:=RW.out.fE fP;cases e1;unfold bv at Fg;have KD:((l.getD i 0).toNat:Int)=(nR l i:Nat):=rfl;rw[KD]at Fg;have axv:=vC l i;have aQc:=vC l (i+1);have HML:=ah (show(zP (l.take i)).length+1<=1000000 by simp[zP,RX];omega);have w1:=jU (nR l i:Nat) (by omega);have w2:=jU (256*(nR l i:Int)) (by omega);have w3:=jU ((i:Int)+1) (by omega);have HS:=ah (Xu l i Qw (by rw[hl.out];exact fP));have FIN:=ah (fun(v:Int) (A5:Option aU) (n5 c5:Nat) (w5:au) (hv:v=((256*nR l i+nR l (i+1):Nat):Int)) (h:Rz GY 1 3 [] W w5 (.slice A5 n5 c5) (zP (l.take i)++[v]))=>show Rz GY 1 3 [] W w5 (.slice A5 n5 c5) (zP (l.take (i+2)))by
    unfold zP at h ⊢;rw[HS.out,jh];rw[hv]at h;exact h)
   by_cases h1:i+1<n
   ·have q1:(i:Int)+1<n:=by omega
    have VY:=RW.out.Xj i h1;have w4:=jU (nR l (i+1):Nat) (by omega);have w5:=jU (256*(nR l i:Int)+(nR l (i+1):Nat)) (by omega);have Za:=ah (HZ.out.alloc (.cells (sQ [256*(nR l i:Int)+(nR l (i+1):Nat)]) 3));have RO:=ah (RdI.lit wr [256*(nR l i:Int)+(nR l (i+1):Nat)] 3);go_wp2_with (at_builtin;refine Rv aeU rfl (.tmp 31) (.tmp 33) rfl rfl Za.out rfl RO.out HML.out ?_;intro A5 n5 c5 w5 h5 h6;have Z5:=ah h5;clear h5 h6);exact⟨⟨i+2,A5,n5,c5,by omega,by omega,by rw[show((i+2:Nat):Int)=(i:Int)+2 by omega],rfl,FIN.out _ _ _ _ _ (by omega) Z5.out⟩,by simp only[intOf];omega⟩
   ·have q1:¬(i:Int)+1<n:=by omega
    have vV:=ah (show nR l (i+1)=0 by unfold nR;rw[av,aT (by rw[hl.out];omega)];rfl);have Za:=ah (HZ.out.alloc (.cells (sQ [256*(nR l i:Int)]) 3));have RO:=ah (RdI.lit wr [256*(nR l i:Int)] 3);go_wp2_with (at_builtin;refine Rv aeU rfl (.tmp 31) (.tmp 33) rfl rfl Za.out rfl RO.out HML.out ?_;intro A5 n5 c5 w5 h5 h6;have Z5:=ah h5;clear h5 h6);exact⟨⟨i+2,A5,n5,c5,by omega,by omega,by rw[show((i+2:Nat):Int)=(i:Int)+2 by omega],rfl,FIN.out _ _ _ _ _ (by rw[vV.out];omega) Z5.out⟩,by simp only[intOf];omega⟩
  ·have q:¬(i:Int)<n:=by omega
   have H:=ah (show zP (l.take i)=zP l by rw[List.take_of_length_le (by rw[hl.out];omega)]);clear hm;go_wp2;go_ret;rw[H.out]at HZ;exact⟨A',m,c',rfl,HZ.out.rd,HZ.out.dF⟩
theorem alj(l:List Nat)(i:Nat)(h:i<l.length):(l.take (i+1)).foldl vN 0=vN ((l.take i).foldl vN 0) (l.getD i 0):=by
 rw[List.take_succ_eq_append_getElem h,List.foldl_append];simp[av,h]
theorem PG:∀(l:List Nat)(a:Nat),a<=65535->(∀x∈l,x<=65535)->l.foldl vN a<=65535
 | [],a,h,_=>h
 | x::l,a,h,hl=>PG l _ (GK h (hl x (by simp))) (fun y hy=>hl y (by simp[hy]))
theorem Xv(W:au)(A:Option aU)(n c:Nat)(l:List UInt8)(hn:n<=1000000)(hr:gy W W.heap.size A n l):aR aj 186 #[.slice A n c] W (gP W (.int .i64 (xE l:Nat))):=by
 have hl:=hr.len;have hwl:=RX l;have CW:=ah (acI W A n c l hn hr);unfold WdP at CW;clear hr;have HW:=ah (aeV l);go_enter Tryz.func186,Tryz.ntmps186;go_wp2_with (go_at_call 257;(with_reducible refine CW.out.mono ?_);rintro e w1 ⟨A',m,c',rfl,h1,h2⟩;have R1:=ah h1;have B1:=ah h2;clear h1 h2);have hm:=R1.out.len;unfold zP at hm;rw[bR]at hm;have hmb:m<=1000000:=by omega
 clear hl hwl;go_loopw [4,5] (fun s4 s5 wr=>∃i:Nat,i<=m/\s5=.int .i64 i/\s4=.int .i64 (((words l).take i).foldl vN 0:Nat)/\wr=w1)
  (fun s4 s5 wr=>m-(intOf s5).toNat)
 case atStart=>exact⟨0,by omega,rfl,rfl,rfl⟩
 case round=>
  obtain⟨i,him,rfl,rfl,hwr⟩:=hrel;rw[hwr];clear hwr;by_cases fP:i<m
  ·have q:(i:Int)<m:=by omega
   obtain⟨b,o,rfl,_,hcell⟩:=R1.out.cell aav 0 fP;have hc:=hcell 0 (by omega);have hv:(GY ((zP l).getD i 0))[0]? = some (.int .i64 ((words l).getD i 0:Nat)):=by
    unfold zP GY;rw[av,jD,aD (by omega)];simp[av,aD (show i<(words l).length by omega)]
   rw[hv]at hc;simp only[gF,Nat.add_zero]at hc;clear hcell hv;have HS:=ah (alj (words l) i (by omega));have hx:(words l).getD i 0<=65535:=HW.out _ (by rw[av,aD (show i<(words l).length by omega)];exact List.getElem_mem _);obtain⟨x,Qk⟩:∃x,x=(words l).getD i 0:=⟨_,rfl⟩
   obtain⟨y,hy1⟩:∃y,y=((words l).take i).foldl vN 0:=⟨_,rfl⟩
   have hy:y<=65535:=by rw[hy1];exact PG _ _ (by omega) (fun z hz=>HW.out z (List.mem_of_mem_take hz))
   rw[<-Qk]at hc hx HS;rw[<-hy1]at HS ⊢;have CR:=ah (aea y x w1 hy hx);clear Qk hy1;go_wp2_with (go_at_call 258;(with_reducible refine CR.out.mono ?_);rintro e w2 ⟨rfl,rfl⟩);exact⟨⟨i+1,by omega,by rw[show((i+1:Nat):Int)=(i:Int)+1 by omega],by rw[HS.out],trivial⟩,by simp only[intOf];omega⟩
  ·have q:¬(i:Int)<m:=by omega
   have H:=ah (show((words l).take i).foldl vN 0=Ol 0 l by rw[List.take_of_length_le (by omega)];rfl);have hle:=abP l 0 (by omega);rw[H.out];have HB:=ah (show(65535:Int)-(Ol 0 l:Nat)=(xE l:Nat)by unfold xE;omega);generalize Ol 0 l=z at *;go_wp2;go_ret;exact⟨by rw[<-HB.out];rfl,B1.out⟩
end
section
attribute [local go_sem high] iT jG
end
section
attribute [local go_sem high] iT jG
theorem asO{p:Int}{l:List UInt8}(h6:p≠6)(h17:p≠17):JQ p l=(qQ,5):=uR (by unfold vD;rw[if_pos ⟨h6,h17⟩]) (by decide)
theorem auY(l:List UInt8):JQ 6 l=if l.length<20 then(qQ,2)else if nR l 12/16*4<20 then(qQ,3)else if l.length<nR l 12/16*4 then(qQ,2)else(⟨eX l 0,eX l 2,(nR l 13%64:Nat),(nR l 12/16*4:Nat),l.length⟩,0):=by
 split
 ·rename_i h;exact uR (by unfold vD;rw[if_neg (by simp),if_pos (by rw[if_pos rfl];exact h)]) (by decide)
 ·rename_i h
  have hg:qF 6 l=⟨eX l 0,eX l 2,(nR l 13%64:Nat),(nR l 12/16*4:Nat),l.length⟩:=by unfold qF;rw[if_pos rfl]
  have e1:¬l.length<(if(6:Int)=6 then 20 else 8):=by rw[if_pos rfl];exact h
  split
  ·rename_i h2;exact uR (by unfold vD;rw[if_neg (by simp),if_neg e1,if_pos (.inl ⟨rfl,by rw[hg];simp only;omega⟩)]) (by decide)
  ·rename_i h2
   have e2:¬(((6:Int)=6/\(qF 6 l).head<20)\/(qF 6 l).dz<8):=by rw[hg];simp only;omega
   split
   ·rename_i h3;exact uR (by unfold vD;rw[if_neg (by simp),if_neg e1,if_neg e2,if_pos (by rw[hg];simp only;omega)]) (by decide)
   ·rename_i h3
    have:=Xh (p:=6) (l:=l) (by unfold vD;rw[if_neg (by simp),if_neg e1,if_neg e2,if_neg (by rw[hg];simp only;omega)]);rw[this,hg]
theorem aoS(l:List UInt8):JQ 17 l=if l.length<8 then(qQ,2)else if eX l 4<8 then(qQ,3)else if l.length<eX l 4 then(qQ,2)else(⟨eX l 0,eX l 2,0,8,eX l 4⟩,0):=by
 split
 ·rename_i h;exact uR (by unfold vD;rw[if_neg (by simp),if_pos (by rw[if_neg (by decide)];exact h)]) (by decide)
 ·rename_i h
  have hg:qF 17 l=⟨eX l 0,eX l 2,0,8,eX l 4⟩:=by unfold qF;rw[if_neg (by decide)]
  have e1:¬l.length<(if(17:Int)=6 then 20 else 8):=by rw[if_neg (by decide)];exact h
  split
  ·rename_i h2;exact uR (by unfold vD;rw[if_neg (by simp),if_neg e1,if_pos (.inr (by rw[hg];simp only;omega))]) (by decide)
  ·rename_i h2
   have e2:¬(((17:Int)=6/\(qF 17 l).head<20)\/(qF 17 l).dz<8):=by rw[hg];simp only;omega
   split
   ·rename_i h3;exact uR (by unfold vD;rw[if_neg (by simp),if_neg e1,if_neg e2,if_pos (by rw[hg];simp only;omega)]) (by decide)
   ·rename_i h3
    have:=Xh (p:=17) (l:=l) (by unfold vD;rw[if_neg (by simp),if_neg e1,if_neg e2,if_neg (by rw[hg];simp only;omega)]);rw[this,hg]
theorem Xw(W:au)(A:Option aU)(n c B:Nat)(l:List UInt8)(k:Nat)(i:Int)(hi:i=k)(hk:k+1<n)(Ue:n<=1000000000)(hr:gy W B A n l):aR aj 299 #[.slice A n c,.int .i64 i] W fun e W'=>e=.returned (.int .i64 (eX l k:Nat))/\∃q,W'=W.drewN q:=by subst hi;exact aht W A n c B l k hk Ue hr
theorem aeW(W:au)(p:Int)(A:Option aU)(n c:Nat)(l:List UInt8)(hc:n<=1000000000)(hr:gy W W.heap.size A n l):aR aj 227 #[.int .i64 p,.slice A n c] W (PtP W (JQ p l)):=by
 have HR:=ah hr;have hl:=ah hr.len;have b0:=ah ((Bx.start W).new qQ.aA 172);clear hr;go_enter Tryz.func227,Tryz.ntmps227;by_cases p6:p=6
 ·subst p6
  have HP:=ah (auY l);rw[hl.out]at HP;by_cases h20:n<20
  ·have q:(n:Int)<20:=by omega
   go_wp2;refine bodyPost_ret (Vd.qL rfl _ rfl b0.out.b0 (Pt.ak _)) rfl ?_;rw[HP.out,if_pos h20];exact⟨rfl,b0.out.dF⟩
  have q:¬(n:Int)<20:=by omega
  obtain⟨a,rfl,EH⟩:=HR.out.ajj (show 0<n by omega);have c12:=(b0.out.Nc HR.out).Xj 11 (by omega);have i12:12<n:=by omega
  obtain⟨k,hk⟩:∃k:Nat,k=nR l 12/16*4:=⟨_,rfl⟩
  have hkk:4*((nR l 12:Int)/16)=(k:Int):=by omega
  have hkl:k<100:=by have:=vC l 12;omega
  have w13:4*((nR l 12:Int)/16%256)=(k:Int):=by have:=vC l 12;omega
  rw[<-hk]at HP;clear hk hkk;by_cases h2:k<20
  ·have q2:(k:Int)<20:=by omega
   go_wp2;refine bodyPost_ret (Vd.qL rfl _ rfl b0.out.b0 (Pt.ak _)) rfl ?_;rw[HP.out,if_neg h20,if_pos h2];exact⟨rfl,b0.out.dF⟩
  have q2:¬(k:Int)<20:=by omega
  by_cases h3:n<k
  ·have q3:(n:Int)<k:=by omega
   go_wp2;refine bodyPost_ret (Vd.qL rfl _ rfl b0.out.b0 (Pt.ak _)) rfl ?_;rw[HP.out,if_neg h20,if_neg h2,if_pos h3];exact⟨rfl,b0.out.dF⟩
  have q3:¬(n:Int)<k:=by omega
  have i13:13<n:=by omega
  obtain⟨g,hg⟩:∃g:Nat,g=nR l 13%64:=⟨_,rfl⟩
  have hgg:(nR l 13:Int)%64=(g:Int):=by omega
  have w14:(nR l 13:Int)%64%256=(g:Int):=by omega
  have w15:(nR l 13:Int)%64=(g:Int):=by omega
  rw[<-hg]at HP;clear hg hgg;go_upto_region 9 with fail
  generalize W.alloc (.cells qQ.aA 172)=w1 at b0 ⊢;obtain⟨T,f,n0,E0,es,ew⟩:=Jm (Bx ([(W.heap.size,qQ.aA)]) W) (w1) (b0.out.drew);have hT:Nonempty T:=⟨n0⟩
  have ES:=ah es;have EW:=ah ew;clear es ew;have RF:=ah (fun m=>(ES.out m).Nc HR.out);have k13:∀m,(f m).cell? ⟨a.block,a.off+13,none⟩=some (.int .u8 (nR l 13)):=fun m=>(RF.out m).Xj 12 (by omega)
  have C0:=ah (fun m=>Xw (f m) (some a) n c _ l 0 0 rfl (by omega) hc (RF.out m));have C2:=ah (fun m=>Xw (f m) (some a) n c _ l 2 2 rfl (by omega) hc (RF.out m));refine Wo f 13 (by kernel_rfl) (by kernel_rfl) n0 E0 ?_;simp only[List.take_succ_cons,List.take_zero,List.drop_succ_cons,List.drop_zero]
  repeat(go_big_quiet_step ((first|(go_at_call 299;(with_reducible refine(C0.out _).mono ?_);rintro e w2 ⟨rfl,q,rfl⟩;exact⟨rfl,EW.out _ ((ES.out _).drewN q)⟩)|(go_at_call 299;(with_reducible refine(C2.out _).mono ?_);rintro e w2 ⟨rfl,q,rfl⟩;exact⟨rfl,EW.out _ ((ES.out _).drewN q)⟩))))
  refine wpQuiet_nil ?_;rintro _ ⟨m',rfl⟩;have ZT:=ah (ES.out m');clear ES EW C0 C2 E0 RF k13;generalize f m'=w8 at *;clear hT n0;have zq:=ZT.out.b0.there 0 5 (Nat.le_of_eq (Pt.ak qQ).symm);have Z2:=ah (ZT.out.put (fun p hp=>by cases hp) (Pt.mk (eX l 0) (eX l 2) g k n).aA (by rw[Pt.ak,Pt.ak]));go_step;go_simp;go_step;go_step;go_wp2;refine bodyPost_ret (Vd.qL rfl _ rfl Z2.out.b0 (Pt.ak _)) rfl ?_;rw[HP.out,if_neg h20,if_neg h2,if_neg h3];exact⟨rfl,Z2.out.dF⟩
 have q6:(p==6)=false:=by simp[p6]
 by_cases p17:¬p=17
 ·have q17:(p != 17)=true:=by simp[p17]
  go_wp2;refine bodyPost_ret (Vd.qL rfl _ rfl b0.out.b0 (Pt.ak _)) rfl ?_;rw[asO p6 p17];exact⟨rfl,b0.out.dF⟩
 obtain rfl:p=17:=by simpa using p17
 have HP:=ah (aoS l);rw[hl.out]at HP;by_cases h20:n<8
 ·have q:(n:Int)<8:=by omega
  go_wp2;refine bodyPost_ret (Vd.qL rfl _ rfl b0.out.b0 (Pt.ak _)) rfl ?_;rw[HP.out,if_pos h20];exact⟨rfl,b0.out.dF⟩
 have q:¬(n:Int)<8:=by omega
 have CT:=ah (fun(w:au) (h:Bx [(W.heap.size,qQ.aA)] W w) (k:Nat) (i:Int) (hi:i=k) (hk:k<6)=>Xw w A n c _ l k i hi (by omega) hc (h.Nc HR.out));have C4:=ah (fun w h=>CT.out w h 4 4 rfl (by omega));have C0:=ah (fun w h=>CT.out w h 0 0 rfl (by omega));have C2:=ah (fun w h=>CT.out w h 2 2 rfl (by omega));obtain⟨t,ht⟩:∃t,t=eX l 4:=⟨_,rfl⟩
 rw[<-ht]at C4 HP;clear ht;generalize Io:W.alloc (.cells qQ.aA 172)=w1 at b0 ⊢;have b1:=ah (fun q=>b0.out.drewN q);by_cases h2:t<8
 ·have q2:(t:Int)<8:=by omega
  go_wp2_with (go_at_call 299;(with_reducible refine(C4.out _ b0.out).mono ?_);rintro e w2 ⟨rfl,q,rfl⟩;have zq:=(b1.out q).b0.there 0 5 (Nat.le_of_eq (Pt.ak qQ).symm);have Z2:=ah ((b1.out q).put (fun p hp=>by cases hp) qQ.aA rfl));refine bodyPost_ret (Vd.qL rfl _ rfl Z2.out.b0 (Pt.ak _)) rfl ?_;rw[HP.out,if_neg h20,if_pos h2];exact⟨rfl,Z2.out.dF⟩
 have q2:¬(t:Int)<8:=by omega
 have TH:=ah (fun q=>((b1.out q).b0.there 0 5 (Nat.le_of_eq (Pt.ak qQ).symm):(w1.drewN q).there W.heap.size 0 5));have PU:=ah (fun q (x:Pt)=>(b1.out q).put (fun p hp=>by cases hp) x.aA (by rw[Pt.ak,Pt.ak]));by_cases h3:n<t
 ·have q3:(n:Int)<t:=by omega
  go_upto_region 17 with(first|(go_at_call 299;(with_reducible refine(C4.out _ b0.out).mono ?_);rintro e w2 ⟨rfl,qq,rfl⟩)|(go_at_call 299;(with_reducible refine(C4.out _ (b1.out _)).mono ?_);rintro e w2 ⟨rfl,qq,rfl⟩)|(go_at_call 299;(with_reducible refine(C0.out _ b0.out).mono ?_);rintro e w2 ⟨rfl,qq,rfl⟩)|(go_at_call 299;(with_reducible refine(C0.out _ (b1.out _)).mono ?_);rintro e w2 ⟨rfl,qq,rfl⟩)|(go_at_call 299;(with_reducible refine(C2.out _ b0.out).mono ?_);rintro e w2 ⟨rfl,qq,rfl⟩)|(go_at_call 299;(with_reducible refine(C2.out _ (b1.out _)).mono ?_);rintro e w2 ⟨rfl,qq,rfl⟩))
  have th2:=TH.out;go_wp2;refine bodyPost_ret (Vd.qL rfl _ rfl (PU.out _ qQ).b0 (Pt.ak _)) rfl ?_;rw[HP.out,if_neg h20,if_neg h2,if_pos h3];exact⟨rfl,(PU.out _ qQ).dF⟩
 have q3:¬(n:Int)<t:=by omega
 have th2:=TH.out;go_wp2_with (first|(go_at_call 299;(with_reducible refine(C4.out _ b0.out).mono ?_);rintro e w2 ⟨rfl,qq,rfl⟩)|(go_at_call 299;(with_reducible refine(C4.out _ (b1.out _)).mono ?_);rintro e w2 ⟨rfl,qq,rfl⟩)|(go_at_call 299;(with_reducible refine(C0.out _ b0.out).mono ?_);rintro e w2 ⟨rfl,qq,rfl⟩)|(go_at_call 299;(with_reducible refine(C0.out _ (b1.out _)).mono ?_);rintro e w2 ⟨rfl,qq,rfl⟩)|(go_at_call 299;(with_reducible refine(C2.out _ b0.out).mono ?_);rintro e w2 ⟨rfl,qq,rfl⟩)|(go_at_call 299;(with_reducible refine(C2.out _ (b1.out _)).mono ?_);rintro e w2 ⟨rfl,qq,rfl⟩));refine bodyPost_ret (Vd.qL rfl _ rfl (PU.out _ (Pt.mk (eX l 0) (eX l 2) 0 8 t)).b0 (Pt.ak _)) rfl ?_;rw[HP.out,if_neg h20,if_neg h2,if_neg h3];exact⟨rfl,(PU.out _ _).dF⟩
end
section
attribute [local go_sem high] iT jG
end
section
attribute [local go_sem high] iT jG
end
section
attribute [local go_sem high] iT jG
end
section
attribute [local go_sem high] iT jG
def PkP(W:au)(x:Pk)(e:kX)(W':au):Prop:=e=.returned (.agg x.aA)/\aN W.heap.size W W'
theorem RY{W w:au}{c:Array aC}(tmps:Array aC)(k:Int)(ht:tmps.getD 2 undef=.pointer (some ⟨W.heap.size,0,none⟩))(hb:dL w W.heap.size c)(hc:c.size=42)(hl:aN W.heap.size W w):
 bodyPostD aj Tryz.f32 (PkP W (xZ k)) (Exit.panic [{v:=aeT k,recovered:=false}]) {tmps:=tmps,defers:=[{target:=Target.fn (Fn.func 90) #[sG (some ⟨W.heap.size,0,none⟩)],args:=#[]}]} w:=by
 refine leaves_cons (f:=90) (args:=#[.pointer (some ⟨W.heap.size,0,none⟩)]) (by simp) (by simp[go_sem]) ?_;have hr:=kPk.zM (fn:=Tryz.f32) (p:=2) (by kernel_rfl) tmps ht (hb.put (xZ k).aA (by rw[Pk.ak,hc])) (Pk.ak _);have kF:=lq hl W.heap.size 0 (xZ k).aA (ay _);have hq:=Ut W.heap.size k [] w (hb.there 0 42 (by omega));generalize gT w W.heap.size 0 (xZ k).aA=w2 at *;refine hq.mono ?_;rintro e u' w'' ⟨he,hu,hw⟩;rw[he,hu,hw];exact⟨_,hr,rfl,kF⟩
theorem axw{W w:au}(tmps:Array aC)(x:Pk)(ht:tmps.getD 2 undef=.pointer (some ⟨W.heap.size,0,none⟩))(hb:dL w W.heap.size x.aA)(hl:aN W.heap.size W w):
 bodyPostD aj Tryz.f32 (PkP W x) Exit.ret {tmps:=tmps,defers:=[{target:=Target.fn (Fn.func 90) #[sG (some ⟨W.heap.size,0,none⟩)],args:=#[]}]} w:=by
 have hr:=kPk.zM (fn:=Tryz.f32) (p:=2) (by kernel_rfl) tmps ht hb (Pk.ak _);refine leaves_cons (f:=90) (args:=#[.pointer (some ⟨W.heap.size,0,none⟩)]) (by simp) (by simp[go_sem]) ?_;refine(ahB W.heap.size w).mono ?_;rintro e u' w'' ⟨rfl,rfl,rfl⟩;exact⟨_,hr,rfl,hl⟩
theorem JV(W:au)(A:Option aU)(n c:Nat)(l:List UInt8)(tX:n<=c)(hc:c<=9223372036854775807/\n<=1000000000)(hr:gy W W.heap.size A n l):aR aj 32 #[.slice A n c] W (PkP W (wG l)):=by
 have HR:=ah hr;have hl:=ah hr.len;have b0:=ah ((Bx.start W).new Pm.aA 83);have CL:=ah (Py _ A n c l tX hc (b0.out.Nc hr));clear hr;have hmf:∀(fn:Fn)(first cap:Array aC)(w:au),(Instr.makeFunc fn first cap).run aj w=.ok (.func fn first cap) w:=fun _ _ _ _=>rfl
 have NO:=ah asN;have OK:=ah asM;go_enter_defers Tryz.func32,Tryz.ntmps32;obtain⟨r,hrr⟩:∃r,r=mD l:=⟨_,rfl⟩
 have Xx:=ah hrr;obtain⟨k,er⟩:=r;unfold LkP at CL;rw[<-hrr]at CL;clear hrr;by_cases h1:er≠0
 ·have q:(er==0)=false:=by simp[h1]
  have H:=ah (show wG l=xZ 1 by unfold wG;rw[<-Xx.out,if_pos h1]);go_wp2_with (first|(go_at_call 91;with_reducible refine CL.out.mono ?_;rintro e w1 ⟨TA,tc,rfl,_,gI⟩;have Z1:=ah ((b0.out.go gI).new (k.cell TA tc).aA 108);clear gI)|(go_at_call 92;with_reducible refine(NO.out 1 _).mono ?_;rintro e w2 ⟨rfl,rfl⟩));rw[H.out];exact RY _ 1 rfl Z1.out.b1 (Pk.ak _) Z1.out.dF
 obtain rfl:er=0:=by simpa using h1
 obtain⟨yj,aeX⟩:=ahz (l:=l) (by rw[<-Xx.out]);rw[<-Xx.out]at yj aeX;rw[hl.out]at aeX;simp only at yj aeX;go_upto_region 4 with(first|(go_at_call 91;with_reducible refine CL.out.mono ?_;rintro e w1 ⟨TA,tc,rfl,_,gI⟩;have Z1:=ah ((b0.out.go gI).new (k.cell TA tc).aA 108);have hy3:=(b0.out.go gI).b0.lt;clear gI)|(go_at_call 92;with_reducible refine(OK.out 1 _).mono ?_;rintro e w2 ⟨rfl,rfl⟩))
 generalize w1.alloc (.cells (k.cell TA tc).aA 108)=w2 at Z1 ⊢;generalize w1.heap.size=y3 at *;have F3:=ah (fun(L:List (Nat×Array aC)) (w:au) (h:Bx ((y3,(k.cell TA tc).aA)::L) W w)=>show w.cell? ⟨y3,13,none⟩=some (.int .i64 k.oF)/\w.cell? ⟨y3,14,none⟩=some (.int .i64 (k.fE:Nat))from⟨(h.b0.aI.1 13).trans (Lc.Et _),(h.b0.aI.1 14).trans (Lc.MZ _)⟩);obtain⟨f1,f2⟩:=F3.out _ _ Z1.out;by_cases hty:k.oF≠2048/\k.oF≠34525
 ·have q1:(k.oF==2048)=false:=by simp[hty.1]
  have q2:(k.oF==34525)=false:=by simp[hty.2]
  have H:=ah (show wG l=xZ 2 by unfold wG;rw[<-Xx.out];rw[if_neg (by simp),if_pos hty]);go_wp2_with (go_at_call 92;with_reducible refine(NO.out 2 _).mono ?_;rintro e w3 ⟨rfl,rfl⟩);rw[H.out];exact RY _ 2 rfl Z1.out.b1 (Pk.ak _) Z1.out.dF
 have HTY:=ah hty;go_cut []from 17 to 25 (fun wx=>wx=w2)
 case first=>
  by_cases q0:k.oF=2048
  ·have q1:(k.oF==2048)=true:=by simp[q0]
   go_wp2_with (go_at_call 92;with_reducible refine(OK.out 2 _).mono ?_;rintro e w3 ⟨rfl,rfl⟩);go_meet
   case rel=>rfl
  ·have q1:(k.oF==2048)=false:=by simp[q0]
   have q2:(k.oF==34525)=true:=by simp;omega
   go_wp2_with (go_at_call 92;with_reducible refine(OK.out 2 _).mono ?_;rintro e w3 ⟨rfl,rfl⟩);go_meet
   case rel=>rfl
 have hcut:=hcut;rw[hcut];clear hcut f1 f2;have yj:=yj;obtain⟨g,hg⟩:∃g,g=mQ l:=⟨_,rfl⟩
 have HG:=ah hg;have HG2:=ah (show g=ipR k.oF (l.drop k.fE)by rw[hg];unfold mQ;rw[<-Xx.out]);clear hg;obtain⟨g,e2⟩:=g;have i1:(k.fE:Int)<=n:=by omega
 have CI:=ah (fun(w:au) (h:Bx [(y3,(k.cell TA tc).aA),(W.heap.size,Pm.aA)] W w)=>ahA w k.oF (vP A k.fE c 1) (n-k.fE) (c-k.fE) (l.drop k.fE) (by omega) (by omega) ((h.Nc HR.out).zo (by omega) tX));rw[<-HG2.out]at CI;go_upto_region 5 with fail
 refine xL (Bx.acD ([(y3,(k.cell TA tc).aA),(W.heap.size,Pm.aA)]) W) 10 11 9 5 35 168 acr.aA (by kernel_rfl) rfl rfl rfl rfl rfl (by kernel_rfl) (by kernel_rfl) (by kernel_rfl) (by kernel_rfl) (by kernel_rfl) rfl rfl rfl (fun a w=>by simp[go_sem]) (tZ rfl) Z1.out.drew ?_;apply Exists.intro;refine⟨fun T f hT es ew=>?_,?_⟩
 ·have EW:=ah ew
  have ES:=ah es;have k1:=fun m=>(F3.out _ _ (ES.out m)).1
  have k2:=fun m=>(F3.out _ _ (ES.out m)).2
  have CF:=ah (fun m=>CI.out _ (ES.out m));clear es ew;simp only[mM,yO,kW,List.set_cons_succ,List.set_cons_zero,List.take_succ_cons,List.take_zero]
  repeat(go_big_quiet_step ((first|(go_at_call 93;(with_reducible refine(CF.out _).mono ?_);rintro e w2 ⟨rfl,hb⟩;exact⟨rfl,EW.out _ _ hb⟩))))
  exact wpQuiet_nil rfl
 ·intro w9 w8 Am _ hb
  have ZN:=ah ((Am.new acr.aA 168).go hb);have hyy:=ah Am;have hy:=Am.dF.size;have Xr:=ah (fun p (hp:p∈[(y3,(k.cell TA tc).aA),(W.heap.size,Pm.aA)])=>((Am.2 p hp).2.lt:p.1<w9.heap.size));generalize w9.heap.size=y at *;clear hb Am;have zq:=ZN.out.b0.there 0 38 (Nat.le_of_eq (Nt.ak acr).symm);refine⟨gT w8 y 0 g.aA,?_,?_⟩
  ·simp[go_sem,zq]
  simp only[lN,List.setIfInBounds_toArray,List.set_cons_succ,List.set_cons_zero,List.drop_succ_cons,List.drop_zero];have Z2:=ah (ZN.out.put (fun p hp=>jL (Xr.out p hp)) g.aA (by rw[Nt.ak,Nt.ak]));clear zq ZN hyy Xr;generalize gT w8 y 0 g.aA=w3 at Z2 ⊢;go_step;go_step;go_step;obtain⟨y1,y2,y3',y4⟩:=Z2.out.b0.aI;have HP:=ah (show wG l=(if e2≠0 then xZ 3 else if g.oM=true then xZ 4 else if g.aQ≠6/\g.aQ≠17 then xZ 5 else if(JQ g.aQ ((l.take (k.fE+g.dz.toNat)).drop (k.fE+g.head.toNat))).2≠0 then xZ 6
   else⟨0,⟨g.src,g.dst,g.aQ,(JQ g.aQ ((l.take (k.fE+g.dz.toNat)).drop (k.fE+g.head.toNat))).1.kU,(JQ g.aQ ((l.take (k.fE+g.dz.toNat)).drop (k.fE+g.head.toNat))).1.j4⟩,(JQ g.aQ ((l.take (k.fE+g.dz.toNat)).drop (k.fE+g.head.toNat))).1.vB,k.fE,k.fE+g.head,k.fE+g.dz⟩)by
   unfold wG Ng;rw[<-Xx.out,<-HG.out,if_neg (by simp),if_neg HTY.out])
  by_cases h2:e2≠0
  ·have q:(e2==0)=false:=by simp[h2]
   go_wp2_with (go_at_call 92;(with_reducible refine(NO.out 3 _).mono ?_);rintro e w4 ⟨rfl,rfl⟩);rw[HP.out,if_pos h2];exact RY _ 3 rfl Z2.out.b2 (Pk.ak _) Z2.out.dF
  obtain rfl:e2=0:=by simpa using h2
  cases hf:g.oM
  case true=>
   go_wp2_with (first|(go_at_call 92;(with_reducible refine(OK.out 3 _).mono ?_);rintro e w4 ⟨rfl,rfl⟩)|(go_at_call 92;(with_reducible refine(NO.out 4 _).mono ?_);rintro e w4 ⟨rfl,rfl⟩));rw[HP.out,if_neg h2,if_pos hf];exact RY _ 4 rfl Z2.out.b2 (Pk.ak _) Z2.out.dF
  case false=>
   have CC:=ah (aeS g.aQ w3);by_cases hp:g.aQ≠6/\g.aQ≠17
   ·rw[show(decide (g.aQ=6)||decide (g.aQ=17))=false by simp[hp.1,hp.2]]at CC
    go_wp2_with (first|(go_at_call 92;(with_reducible refine(OK.out 3 _).mono ?_);rintro e w4 ⟨rfl,rfl⟩)|(go_at_call 92;(with_reducible refine(OK.out 4 _).mono ?_);rintro e w4 ⟨rfl,rfl⟩)|(go_at_call 94;(with_reducible refine CC.out.mono ?_);rintro e w4 ⟨rfl,rfl⟩)|(go_at_call 92;(with_reducible refine(NO.out 5 _).mono ?_);rintro e w4 ⟨rfl,rfl⟩));rw[HP.out,if_neg h2,if_neg (by rw[hf];simp),if_pos hp];exact RY _ 5 rfl Z2.out.b2 (Pk.ak _) Z2.out.dF
   rw[show(decide (g.aQ=6)||decide (g.aQ=17))=true by simp;omega]at CC;obtain⟨g1,g2,g3⟩:=aoN (k:=k.oF) (l:=l.drop k.fE) (by rw[<-HG2.out]);rw[<-HG2.out,jA,hl.out]at g3;rw[<-HG2.out]at g1 g2;simp only at g1 g2 g3;obtain⟨a1,ha1⟩:∃a1:Nat,(k.fE:Int)+g.head=a1:=⟨k.fE+g.head.toNat,by omega⟩
   obtain⟨b1,gI⟩:∃b1:Nat,(k.fE:Int)+g.dz=b1:=⟨k.fE+g.dz.toNat,by omega⟩
   have e1:k.fE+g.head.toNat=a1:=by omega
   have e1':k.fE+g.dz.toNat=b1:=by omega
   have EH:a1<=b1/\b1<=n:=by omega
   rw[e1,e1',ha1,gI]at HP;have Io:bU.wrap ((k.fE:Int)+g.head)=(a1:Int):=by rw[ha1];exact jU _ (by omega)
   have Gf:bU.wrap ((k.fE:Int)+g.dz)=(b1:Int):=by rw[gI];exact jU _ (by omega)
   obtain⟨j1,j2⟩:(a1:Int)<=b1/\(b1:Int)<=c:=by omega
   have j0:(0:Int)<=a1:=by omega
   have CP:=ah (fun(w:au) (h:Bx [(y,g.aA),(y3,(k.cell TA tc).aA),(W.heap.size,Pm.aA)] W w)=>acB w g.aQ (vP A a1 c 1) (b1-a1) (c-a1) ((l.take b1).drop a1) (by omega) (by omega) ((h.Nc HR.out).aeO EH.1 EH.2 tX));unfold PtP at CP;obtain⟨pr,hpr⟩:∃pr,pr=JQ g.aQ ((l.take b1).drop a1):=⟨_,rfl⟩
   obtain⟨pt,e3⟩:=pr;rw[<-hpr]at CP HP;clear hpr ha1 gI e1 e1' g1 g2 g3 EH;have F5:=ah (fun(w:au) (h:Bx [(y,g.aA),(y3,(k.cell TA tc).aA),(W.heap.size,Pm.aA)] W w)=>show w.cell? ⟨y,0,none⟩=some (.int .i64 g.head)/\w.cell? ⟨y,1,none⟩=some (.int .i64 g.dz)/\w.cell? ⟨y,2,none⟩=some (.int .i64 g.aQ)from⟨(h.b0.aI.1 0).trans (Nt.KX _),(h.b0.aI.1 1).trans (Nt.yN _),(h.b0.aI.1 2).trans (Nt.Cv _)⟩);go_upto_region 9 with(first|(go_at_call 92;(with_reducible refine(OK.out 3 _).mono ?_);rintro e w4 ⟨rfl,rfl⟩)|(go_at_call 92;(with_reducible refine(OK.out 4 _).mono ?_);rintro e w4 ⟨rfl,rfl⟩)|(go_at_call 94;(with_reducible refine CC.out.mono ?_);rintro e w4 ⟨rfl,rfl⟩)|(go_at_call 92;(with_reducible refine(OK.out 5 _).mono ?_);rintro e w4 ⟨rfl,rfl⟩))
   clear y1 y2 y3' y4;refine xL (Bx.acD ([(y,g.aA),(y3,(k.cell TA tc).aA),(W.heap.size,Pm.aA)]) W) 18 19 17 6 64 172 qQ.aA (by kernel_rfl) rfl rfl rfl rfl rfl (by kernel_rfl) (by kernel_rfl) (by kernel_rfl) (by kernel_rfl) (by kernel_rfl) rfl rfl rfl (fun a w=>by simp[go_sem]) (tZ rfl) Z2.out.drew ?_;apply Exists.intro;refine⟨fun T f hT es ew=>?_,?_⟩
   ·have EW:=ah ew
    have ES:=ah es;have k1:=fun m=>(F5.out _ (ES.out m)).1
    have k2:=fun m=>(F5.out _ (ES.out m)).2.1
    have k3:=fun m=>(F5.out _ (ES.out m)).2.2
    have k4:=fun m=>(F3.out _ _ (ES.out m).swap).2
    have CF:=ah (fun m=>CP.out _ (ES.out m));clear es ew;simp only[mM,yO,kW,List.set_cons_succ,List.set_cons_zero,List.take_succ_cons,List.take_zero]
    repeat(go_big_quiet_step ((first|(go_at_call 95;(with_reducible refine(CF.out _).mono ?_);rintro e w2 ⟨rfl,hb⟩;exact⟨rfl,EW.out _ _ hb⟩))))
    exact wpQuiet_nil rfl
   ·intro w9 w8 Am _ hb
    have ZN:=ah ((Am.new qQ.aA 172).go hb);have hyy:=ah Am;have hy:=Am.dF.size;have Xr:=ah (fun p (hp:p∈[(y,g.aA),(y3,(k.cell TA tc).aA),(W.heap.size,Pm.aA)])=>((Am.2 p hp).2.lt:p.1<w9.heap.size));generalize w9.heap.size=z at *;clear hb Am;have zq:=ZN.out.b0.there 0 5 (Nat.le_of_eq (Pt.ak qQ).symm);refine⟨gT w8 z 0 pt.aA,?_,?_⟩
    ·simp[go_sem,zq]
    simp only[lN,List.setIfInBounds_toArray,List.set_cons_succ,List.set_cons_zero,List.drop_succ_cons,List.drop_zero];have Z4:=ah (ZN.out.put (fun p hp=>jL (Xr.out p hp)) pt.aA (by rw[Pt.ak,Pt.ak]));clear zq ZN hyy Xr;generalize gT w8 z 0 pt.aA=w4 at Z4 ⊢;go_step;go_step;go_step;obtain⟨u1,u2,u3,u4⟩:=Z4.out.b0.aI;by_cases h4:e3≠0
    ·have q:(e3==0)=false:=by simp[h4]
     go_wp2_with (go_at_call 92;(with_reducible refine(NO.out 6 _).mono ?_);rintro e w4 ⟨rfl,rfl⟩);rw[HP.out,if_neg h2,if_neg (by rw[hf];simp),if_neg hp,if_pos h4];exact RY _ 6 rfl Z4.out.b3 (Pk.ak _) Z4.out.dF
    obtain rfl:e3=0:=by simpa using h4
    obtain⟨v1,v2,v3,v4⟩:=Z4.out.b1.aI;have Z5:=ah (Z4.out.new (Tu.mk g.src g.dst g.aQ pt.kU pt.j4).aA 81);go_upto_region 12 with(go_at_call 92;(with_reducible refine(OK.out 6 _).mono ?_);rintro e w4 ⟨rfl,rfl⟩)
    clear u1 u2 u3 u4 v1 v2 v3 v4;generalize w4.alloc (.cells (Tu.mk g.src g.dst g.aQ pt.kU pt.j4).aA 81)=w5 at Z5 ⊢;generalize w4.heap.size=x5 at *;have Zw:=ah (Z5.out.sub (L':=[(W.heap.size,Pm.aA)]) (by simp));obtain⟨c1,c2⟩:=F3.out _ _ (Z5.out.sub (L':=[(y3,(k.cell TA tc).aA)]) (by simp));obtain⟨d1,d2,d3⟩:=F5.out _ (Z5.out.sub (by simp));obtain⟨m1,m2,m3,m4⟩:=Z5.out.b0.aI;have pz:=(Z5.out.b1.aI.1 2).trans (Pt.Pj _);have thw:=Zw.out.b0.there 0 42 (Nat.le_of_eq (Pk.ak Pm).symm);have Z6:=ah (Zw.out.put (fun p hp=>by cases hp) (Pk.mk 0 (Tu.mk g.src g.dst g.aQ pt.kU pt.j4) pt.vB k.fE a1 b1).aA (by rw[Pk.ak,Pk.ak]));go_wp2;rw[HP.out,if_neg h2,if_neg (by rw[hf];simp),if_neg hp,if_neg h4];exact axw _ _ rfl Z6.out.b0 Z6.out.dF
end
section
attribute [local go_sem high] iT jG
end
section
open Go.ChangeShapes Go.WideShapes Go.ChangeAt Go.RowKit Go.Deep
section
variable {H:Type} {enc:bM×aC->H} {w:au} {base:Nat} {spare:Nat->Bool} {held:Bool} {fuel:Nat} {cs:List aC} {x:DataW H×List MemPlace}
theorem alk{P:eF}{k:Nat}{t e:bM}(ht:P.underlying t=some (.array k e))(he:P.underlying e=some (.int .i64))(hc:P.cellsOf e=1)(hk:P.cellsOf t=k)(h:DataW.trod enc P w base spare held fuel t cs=some x):∃v:Vector Int k,cs=v.toList.map (aJ .i64):=by
 obtain⟨xs,m,_,_,hl,Dh,hf⟩:=DataW.trod_array ht h;rw[hk]at hl;have hg:∀i,i<k->∃b:Int,cs[i]? = some (.int .i64 b):=fun i hi=>by
  have h1:=hf i hi;rw[hc,gF,aD (by omega)]at h1;obtain⟨b,hb,_,_⟩:=sK he h1;refine⟨b,?_⟩;rw[take1_drop cs i undef (by omega)]at hb;simp only[List.cons.injEq,and_true]at hb;rw[aD (by omega),<-hb,av,aD (by omega)];rfl
 obtain⟨f,hf⟩:∃f:Nat->Int,∀i,i<k->cs[i]? = some (.int .i64 (f i)):=by
  refine⟨fun i=>if hi:i<k then(hg i hi).choose else 0,fun i hi=>?_⟩;simp only[hi,dif_pos];exact(hg i hi).choose_spec
 refine⟨Vector.ofFn fun i:Fin k=>f i,?_⟩;apply iI;intro i;rcases bf i k with hi|hi
 ·rw[hf i hi]
  simp[hi]
 ·rw[aT (by omega),aT (by simpa using hi)]
end
@[go_sem]theorem axx(w:au):(Cu 0 #[]).run aj w=.ok (.slice (some ⟨w.heap.size,0,none⟩) 0 0) (w.alloc (.cells #[] 5)):=by
 obtain⟨i0,oz,mZ,nu,wX⟩:=zV;simp[Cu,bJ,dJ dw,zeroValue,sizeOf,typeInfo,oz,mZ,nu,fB,newRow,cu,show lW 0 = #[]by apply oZ;rw[j5];rfl]
theorem gy.go{W w1:au}{n:Nat}{A:Option aU}{l:List UInt8}(h:gy W W.heap.size A n l)(hb:aN W.heap.size W w1):gy w1 w1.heap.size A n l:=(h.to hb (ay _)).lF hb.size
end
@[go_sem]theorem axy(w:au)(a b:Int):(Cu 2 #[(0,.int .u8 a),(1,.int .u8 b)]).run aj w=.ok (.slice (some ⟨w.heap.size,0,none⟩) 2 2) (w.alloc (.cells #[.int .u8 a,.int .u8 b] 5)):=by
 obtain⟨i0,oz,mZ,nu,wX⟩:=zV;simp[Cu,bJ,dJ dw,zeroValue,sizeOf,typeInfo,oz,mZ,nu,fB,newRow,cu,ahj]
theorem Xy(w:au)(c:Array aC)(l:List UInt8)(h:c.toList=l.map bv):gy (w.alloc (.cells c 5)) (w.heap.size+1) (some ⟨w.heap.size,0,none⟩) l.length l:=by
 refine⟨by simp,fun _=>⟨_,rfl,by simp,fun j u hu=>?_⟩⟩;rw[iC,bB];have:=mU w c 5 j;rw[this,<-hu,<-h];simp
theorem yc(l:List UInt8)(i:Nat)(h:i<l.length):l.take (i+1)=l.take i++[l.getD i 0]:=by
 rw[List.take_add_one,aD h,av,aD h];rfl
end Go.Proofs.YtkjojjopamaoiaaGreat
