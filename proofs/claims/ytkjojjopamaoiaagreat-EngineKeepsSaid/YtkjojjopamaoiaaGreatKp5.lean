/- Parts. -/
import Derived.Test.YtkjojjopamaoiaaGreatKp4
import Derived.Test.YtkjojjopamaoiaaGreatKp3
import Derived.Deep.RegionHeldLaw
import Derived.Shelf.SlIter.Sorted
set_option linter.all false
set_option maxRecDepth 100000
set_option maxHeartbeats 8000000
open Array renaming getElem?_setIfInBounds->dU,mapM->iG,getElem?_append->aG,ext_getElem?->eB,getElem?_eq_none->aV,size_extract->jI,size_append->om,range->lD,ext'->o9,toList_range->j5,append_assoc->gB,extract_append->dD,setIfInBounds_append->aN,setIfInBounds_eq_of_size_le->jR,replicate->nH,size->Array.j,toList->Array.a,getD->Array.c,setIfInBounds->Array.b,extract->Array.m
open BitVec renaming ofInt->gD,ofInt_natCast->mh,toNat_ofNat->nK,toNat_and->FL,toNat->BitVec.e
open Bool renaming false_eq_true->jr,and_eq_true->bB,eq_iff_iff->cB,or_eq_true->nJ
open ByteArray renaming size->ByteArray.j,extract->ByteArray.m
open Go renaming Value->aC,Sem->xA,World->au,Field->oh,run_storeAt_new->yY,run_storeAt_mid->El,TypeInfo->nS,Calls->aQ,Addr->aU,Program->eX,Oper->je,Act->qY,Exit->zW,Operand->pR,TypeId->bF,wpList_plain->sU,info_parts->xB,Ending->lu,run_underlying->dJ,run_equalIn_struct->zB,bodyPost_ret->aO,wpQuiet_nil->gN,getD_set_ne->xC,mem_ready->kF,yieldsIn_of_qOp->qU,getD_replicate_false->mR,wpS_seq->IB,wpS_region->Cm,underlying->Go.k
open Go.Act renaming put->lG
open Go.Addr renaming add_mid->iH,add->qH
open Go.BoundsCode renaming toNat->Go.BoundsCode.e
open Go.Builtin renaming append_->Ag,firstCells->tT,zeroCells->nZ,copy_->qI
open Go.Calls renaming mono->Go.Calls.g
open Go.Ending renaming returned->ug,returned->Go.Ending.a
open Go.Field renaming name->Go.Field.E,offset->Go.Field.Z,type->Go.Field.p
open Go.Instr renaming build->fM,loadAt->cZ,storeAt->eU,buildSlice->bK,fill->fD,makeSlice->xP,typeAssert->GY,slice->Go.Instr.a,extract->Go.Instr.m
open Go.IntKind renaming u64->jB,wrap_u64->jT,u8->aX,wrap_u8->Ic,i64->bU,wrap->vK,bits->nY,signed->lZ,i64->Go.IntKind.a,u8->Go.IntKind.b
open Go.Lib renaming hid->ah
open Go.Obj renaming cells->eO,cells->Go.Obj.D
open Go.Op renaming eqItems->Kt,equalIn->jk,eqFields->wu,bytesLess->bR,slice->Go.Op.a,extract->Go.Op.m
open Go.Oper renaming wp->nI,upon->Mx,dst->Go.Oper.Y,type->Go.Oper.p
open Go.Program renaming fieldsOf->jS,underlying->Go.Program.k
open Go.Proofs.Tryz renaming prog->aj,underlying62->lS,underlying81->jY,underlying86->nC,underlying37->rZ,underlying35->Fy,underlying56->cu,underlying3->gY,underlying70->oC,underlying276->DF,underlying27->fC,underlying98->r9,underlying29->nD,underlying192->pF,underlying189->pG,underlying172->pI,underlying168->DJ,underlying83->vB,underlying179->uh,underlying108->uj,underlying268->DK,func251->Cw,ntmps251->Aq,ntmps90->Iz
open Go.Region renaming wanted->fF,seqB->lC,ready->gF,lexTailB->xD,binds->qJ
open Go.Result renaming andThen->iI,andThen_ok->gT
open Go.RowKit renaming Below->aM
open Go.RowKit.Below renaming refl->aH,size->Go.RowKit.Below.j,mono->Go.RowKit.Below.g,setCell->Go.RowKit.Below.G
open Go.RowKit.Hid renaming out->Go.RowKit.Hid.i
open Go.Sem renaming run->Go.Sem.J
open Go.Shut renaming out->Go.Shut.i
open Go.Tables renaming info?->Go.Tables.l
open Go.TypeDesc renaming slice->Go.TypeDesc.a,int->Go.TypeDesc.b,pointer->Go.TypeDesc.c,bool->Go.TypeDesc.e,tuple->Go.TypeDesc.K,struct->Go.TypeDesc.d
open Go.TypeInfo renaming size->Go.TypeInfo.j
open Go.Value renaming oneCell'->dx,bool->bQ,string->jl,agg->cK,int->aJ,slice->bC,cells->bZ,cells->Go.Value.D,slice->Go.Value.a,int->Go.Value.b,pointer->Go.Value.c,agg->Go.Value.d,bool->Go.Value.e,tuple->Go.Value.K,ownBlock->Go.Value.f,oneCell'->Go.Value.h
open Go.World renaming ownsRow_nil->fB,heap->Go.World.a,cell?->Go.World.b,setCell->Go.World.G,ownsRow->Go.World.c,there->Go.World.O,grownBy->Go.World.d
open Go.World.grownBy renaming size->Go.World.grownBy.j
open Int renaming toNat->Int.e
open List renaming getElem?_toArray->dY,getD_eq_getElem?_getD->av,size_toArray->dP,length_nil->gQ,take_append_drop->iK,map_append->iW,length_append->aS,length_map->bV,take_of_length_le->aL,flatMap_cons->iO,ext_getElem?->iN,getElem?_take_of_lt->iy,getElem?_eq_none->aT,append_assoc->dF,mem_cons->bE,mem_cons_of_mem->jX,range->dS,all_eq_true->fV,mem_range->eG,mem_iff_getElem->mF,pairwise_cons->gU,length_cons->bD,mem_filter->mH,replicate->eu,filter_eq_self->wP,map_take->Ap,getElem?_map->jm,getElem?_eq_getElem->aD,mem_singleton->fT,take_succ_cons->jP,take_zero->jZ,drop_succ_cons->jQ,drop_zero->kZ,getElem_mem->eY,length_drop->jG,getElem?_set->fI,getElem?_eq_some_iff->iJ,filter_congr->Fz,eq_nil_iff_forall_not_mem->tK,getElem?_drop->jq,set_cons_succ->bI,set_cons_zero->bM,length->List.a,toArray->List.b,getD->List.c,take->List.d,drop->List.f,flatMap->List.h,below->List.S,extract->List.m
open List.Perm renaming length_eq->List.Perm.t
open Nat renaming le_refl->ay,lt_or_ge->aZ,zero_add->bl,add_comm->lV,add_sub_cancel_left->kI,mul_one->gL,le_trans->aP,lt_of_lt_of_le->eZ,le_succ->Mv,lt_succ_self->mP,mod_eq_of_lt->fP,le_succ_of_le->kP,le_of_eq->aY,le_of_lt->mQ,ne_of_lt->jN,ne_of_gt->uD,below->Nat.S
open Ne renaming symm->jy
open Option renaming getD->Option.c
open Or renaming inl->Or.a,inr->Or.b
open UInt8 renaming toNat_inj->mE,ofNat->aK,toNat->UInt8.e,toNat_lt->UInt8.a
open Vector renaming replicate->bH,toList->Vector.a
namespace Go.Proofs.YtkjojjopamaoiaaGreat
open Go.RowKit
theorem aaO(c:Array aC)(i j:Nat)(v:aC)(hi:i<c.j):(c.b i v)[j]? = if i=j then some v else c[j]?:=by
 rw[dU];split
 ·rename_i h;subst h;simp[hi]
 ·rfl
def atG(ps:Array (Nat×aC)):xA aC:=fM 62 ps
@[go_sem ↓]theorem aBd(ps:Array (Nat×aC)):fM 62 ps=atG ps:=rfl
theorem YB(w:au)(fs:Array oh)(h:aj.k 62=some (.d fs)):(iG (fun f=>Prod.mk f.Z <$> sizeOf f.p) fs:xA (Array (Nat×Nat))).J aj w=.ok #[(0,1),(1,17),(18,1),(19,6),(25,1),(26,1)] w:=by
 have e:=lS;rw[h]at e;cases e;show _=_
 kernel_rfl
@[go_sem]theorem atH(w:au):(atG #[]).J aj w=.ok (.d jd.aA) w:=by
 obtain⟨i0,hi0,hz0,_,_⟩:=LC;exact Es w _ _ i0 jd.aA _ _ _ lS hi0 hz0 (YB w _ lS) rfl
theorem amc:(aj.l 5).map (·.j)=some 1:=by kernel_rfl
theorem AL(a b:Array aC)(k j:Nat)(ha:a.j=k):(a++b)[j]? = if j<k then a[j]? else b[j-k]?:=by
 rw[aG,ha]
def tuT(t:Tu):Array aC:=#[.b .a t.aR,.b .a t.kT,.b .a t.j4]
def Tu.aA(t:Tu):Array aC:=t.h.aA++(t.Y.aA++tuT t)
theorem Tu.I(t:Tu):t.aA.j=37:=by simp[Tu.aA,tuT,fE.I]
theorem Tu.Ns(t:Tu)(j:Nat)(hj:j<17):t.aA[j]? = t.h.aA[j]?:=by
 unfold Tu.aA;rw[AL _ _ 17 _ (fE.I _),if_pos hj]
theorem Tu.Le(t:Tu)(j:Nat)(hj:j<17):t.aA[j+17]? = t.Y.aA[j]?:=by
 unfold Tu.aA;rw[AL _ _ 17 _ (fE.I _),if_neg (by omega),AL _ _ 17 _ (fE.I _),if_pos (by omega)];congr 1
theorem Tu.BM(t:Tu)(j:Nat)(hj:j<3):t.aA[j+34]? = (tuT t)[j]?:=by
 unfold Tu.aA;rw[AL _ _ 17 _ (fE.I _),if_neg (by omega),AL _ _ 17 _ (fE.I _),if_neg (by omega)];congr 1
@[go_sem]theorem Tu.qG(t:Tu):t.aA[0]? = some (.e t.h.h):=(Tu.Ns t 0 (by omega)).trans (fE.qG _)
@[go_sem]theorem Tu.atI(t:Tu):t.aA[17]? = some (.e t.Y.h):=(Tu.Le t 0 (by omega)).trans (fE.qG _)
@[go_sem]theorem Tu.Vl(t:Tu):t.aA[34]? = some (.b .a t.aR):=Tu.BM t 0 (by omega)
@[go_sem]theorem Tu.afF(t:Tu):t.aA[35]? = some (.b .a t.kT):=Tu.BM t 1 (by omega)
@[go_sem]theorem Tu.aaP(t:Tu):t.aA[36]? = some (.b .a t.j4):=Tu.BM t 2 (by omega)
theorem iq{a b:Array aC}(h1:a.all (·.h)=true)(h2:b.all (·.h)=true):(a++b).all (·.h)=true:=by
 rw[Array.all_append,h1,h2];rfl
theorem Tu.cO(t:Tu):t.aA.all (·.h)=true:=iq (fE.cO _) (iq (fE.cO _) (by simp[tuT,dx]))
theorem Tu.aaQ{c:Array aC}{t:Tu}(hc:c.j=37)(h0:∀j,j<17->c[j]? = t.h.aA[j]?)(h1:∀j,j<17->c[j+17]? = t.Y.aA[j]?)(h2:∀j,j<3->c[j+34]? = (tuT t)[j]?):c=t.aA:=by
 apply eB;intro j;rcases(show j<17\/(17<=j/\j<34)\/(34<=j/\j<37)\/37<=j by omega)with h|⟨h,h'⟩|⟨h,h'⟩|h
 ·rw[h0 j h,Tu.Ns t j h]
 ·obtain⟨i,rfl⟩:∃i,j=i+17:=⟨j-17,by omega⟩
  rw[h1 i (by omega),Tu.Le t i (by omega)]
 ·obtain⟨i,rfl⟩:∃i,j=i+34:=⟨j-34,by omega⟩
  rw[h2 i (by omega),Tu.BM t i (by omega)]
 ·rw[aV (by omega),aV (by rw[Tu.I];exact h)]
@[go_sem]theorem Tu.eF(x:Tu):eF x.aA=37:=Tu.I x
@[go_sem]theorem Tu.kg(x:Tu):x.aA.m 0 37=x.aA:=by
 have:=Tu.I x;rw[<-this];simp
def xg(v:aC):xA aC:=cZ 81 v
def ahx(v x:aC):xA Unit:=eU 81 v x
@[go_sem ↓]theorem awv(v:aC):cZ 81 v=xg v:=rfl
@[go_sem ↓]theorem atJ(v x:aC):eU 81 v x=ahx v x:=rfl
@[go_sem]theorem Ti(W:au)(b o:Nat)(h:vE W b o 37):(xg (.c (some ⟨b,o,none⟩))).J aj W=.ok (.d (dQ W b o 37)) W:=
 jU W b o 37 _ _ jY rfl (by kernel_rfl) h
@[go_sem]theorem apG(W:au)(c:Array aC)(x:Tu)(b:Nat)(hb:b=W.a.j)(hc:eF c=37):
 (ahx (.c (some ⟨b,0,none⟩)) (.d x.aA)).J aj (W.alloc (.D c 81))=.ok () (W.alloc (.D x.aA 81)):=by
 subst hb;exact yY W _ c x.aA (by rw[Tu.I];kernel_rfl) (by rw[Tu.I];exact hc) (Tu.cO x)
def Tu.to0(t:Tu)(n:Int):Tu:={t with aR:=n}
def Tu.to1(t:Tu)(n:Int):Tu:={t with kT:=n}
def Tu.to2(t:Tu)(n:Int):Tu:={t with j4:=n}
theorem Tu.ax1(t:Tu)(u:Int):t.aA.b 34 (.b .a u)=(t.to0 u).aA:=by
 refine Tu.aaQ (by simp[Tu.I]) ?_ ?_ ?_<;>intro j hj<;>rw[aaO _ _ _ _ (by rw[Tu.I];omega)]
 ·rw[if_neg (by omega),Tu.Ns t j hj];rfl
 ·rw[if_neg (by omega),Tu.Le t j hj];rfl
 ·rcases(show j=0\/j=1\/j=2 by omega)with rfl|rfl|rfl
  ·rw[if_pos (by omega)];rfl
  ·rw[if_neg (by omega),Tu.BM t 1 (by omega)];rfl
  ·rw[if_neg (by omega),Tu.BM t 2 (by omega)];rfl
theorem Tu.ax2(t:Tu)(u:Int):t.aA.b 35 (.b .a u)=(t.to1 u).aA:=by
 refine Tu.aaQ (by simp[Tu.I]) ?_ ?_ ?_<;>intro j hj<;>rw[aaO _ _ _ _ (by rw[Tu.I];omega)]
 ·rw[if_neg (by omega),Tu.Ns t j hj];rfl
 ·rw[if_neg (by omega),Tu.Le t j hj];rfl
 ·rcases(show j=0\/j=1\/j=2 by omega)with rfl|rfl|rfl
  ·rw[if_neg (by omega),Tu.BM t 0 (by omega)];rfl
  ·rw[if_pos (by omega)];rfl
  ·rw[if_neg (by omega),Tu.BM t 2 (by omega)];rfl
theorem Tu.ar2(t:Tu)(u:Int):t.aA.b 36 (.b .a u)=(t.to2 u).aA:=by
 refine Tu.aaQ (by simp[Tu.I]) ?_ ?_ ?_<;>intro j hj<;>rw[aaO _ _ _ _ (by rw[Tu.I];omega)]
 ·rw[if_neg (by omega),Tu.Ns t j hj];rfl
 ·rw[if_neg (by omega),Tu.Le t j hj];rfl
 ·rcases(show j=0\/j=1\/j=2 by omega)with rfl|rfl|rfl
  ·rw[if_neg (by omega),Tu.BM t 0 (by omega)];rfl
  ·rw[if_neg (by omega),Tu.BM t 1 (by omega)];rfl
  ·rw[if_pos (by omega)];rfl
def fwT(x:Fw):Array aC:=#[.string (bP x.E),.b .a x.xG,.b .a x.seen,.b .a x.no]
def Fw.aA(x:Fw):Array aC:=x.key.aA++fwT x
theorem Fw.I(x:Fw):x.aA.j=41:=by simp[Fw.aA,fwT,Tu.I]
theorem Fw.ax4(x:Fw)(j:Nat)(hj:j<37):x.aA[j]? = x.key.aA[j]?:=by
 unfold Fw.aA;rw[AL _ _ 37 _ (Tu.I _),if_pos hj]
theorem Fw.BM(x:Fw)(j:Nat)(hj:j<4):x.aA[j+37]? = (fwT x)[j]?:=by
 unfold Fw.aA;rw[AL _ _ 37 _ (Tu.I _),if_neg (by omega)];congr 1
@[go_sem]theorem Fw.afG(x:Fw):x.aA[37]? = some (.string (bP x.E)):=Fw.BM x 0 (by omega)
@[go_sem]theorem Fw.afH(x:Fw):x.aA[38]? = some (.b .a x.xG):=Fw.BM x 1 (by omega)
@[go_sem]theorem Fw.afI(x:Fw):x.aA[39]? = some (.b .a x.seen):=Fw.BM x 2 (by omega)
@[go_sem]theorem Fw.aaR(x:Fw):x.aA[40]? = some (.b .a x.no):=Fw.BM x 3 (by omega)
theorem Fw.cO(x:Fw):x.aA.all (·.h)=true:=iq (Tu.cO _) (by simp[fwT,dx])
@[go_sem]theorem Fw.eF(x:Fw):eF x.aA=41:=Fw.I x
@[go_sem]theorem Fw.kg(x:Fw):x.aA.m 0 41=x.aA:=by
 have:=Fw.I x;rw[<-this];simp
def Py(v:aC):xA aC:=cZ 86 v
def aaS(v x:aC):xA Unit:=eU 86 v x
@[go_sem ↓]theorem aww(v:aC):cZ 86 v=Py v:=rfl
@[go_sem ↓]theorem atK(v x:aC):eU 86 v x=aaS v x:=rfl
@[go_sem]theorem ahy(W:au)(b o:Nat)(h:vE W b o 41):(Py (.c (some ⟨b,o,none⟩))).J aj W=.ok (.d (dQ W b o 41)) W:=
 jU W b o 41 _ _ nC rfl (by kernel_rfl) h
@[go_sem]theorem apH(W:au)(c:Array aC)(x:Fw)(b:Nat)(hb:b=W.a.j)(hc:eF c=41):
 (aaS (.c (some ⟨b,0,none⟩)) (.d x.aA)).J aj (W.alloc (.D c 86))=.ok () (W.alloc (.D x.aA 86)):=by
 subst hb;exact yY W _ c x.aA (by rw[Fw.I];kernel_rfl) (by rw[Fw.I];exact hc) (Fw.cO x)
def Av(W:au)(b o:Nat)(x:Fw):au:=W.setCells b o x.aA.a
@[go_sem]theorem ax5(W:au)(b o:Nat)(x:Fw)(h:W.O b o 41):(aaS (.c (some ⟨b,o,none⟩)) (.d x.aA)).J aj W=.ok () (Av W b o x):=
 El W b o _ x.aA (by rw[Fw.I];exact h) (by rw[Fw.I];kernel_rfl) (Fw.cO x)
theorem afJ:∃i:nS,aj.l 86=some i/\i.zero=some (.d ko.aA)/\i.j=41/\i.bytes<=400:=by
 cases h:aj.l 86 with
 | none=>exact absurd h (by have:(aj.l 86).isSome=true:=by kernel_rfl
                            intro e;rw[e]at this;cases this)
 | some i=>
   have h1:(aj.l 86).map (·.j)=some 41:=by kernel_rfl
   have h2:(aj.l 86).map (fun i=>decide (i.bytes<=400))=some true:=by kernel_rfl
   have h3:(aj.l 86).map (·.zero)=some (some (.d ko.aA)):=by kernel_rfl
   rw[h]at h1 h2 h3;simp at h1 h2 h3;exact⟨i,rfl,h3,h1,h2⟩
def atL(ps:Array (Nat×aC)):xA aC:=fM 86 ps
@[go_sem ↓]theorem aBe(ps:Array (Nat×aC)):fM 86 ps=atL ps:=rfl
def ar3(n:Nat)(ps:Array (Nat×aC)):xA aC:=bK 34 n ps
@[go_sem ↓]theorem ax6(n:Nat)(ps:Array (Nat×aC)):bK 34 n ps=ar3 n ps:=rfl
@[go_sem]theorem awx(w:au)(x:Fw):(ar3 1 #[(0,.d x.aA)]).J aj w=.ok (.a (some ⟨w.a.j,0,none⟩) 1 1) (w.alloc (.D x.aA 86)):=by
 obtain⟨i0,hi0,hz0,hz1,hzb⟩:=afJ;exact rR w _ _ i0 (.d ko.aA) 41 Tryz.underlying34 hi0 hz0 hz1 (Fw.I ko) (by omega) (by omega) x.aA (Fw.I x)
@[go_sem]theorem atM:eO #[bQ false,aB,aB,aB,aB,aB,aB,aB,aB,aB,aB,aB,aB,aB,aB,aB,aB,bQ false,aB,aB,aB,aB,aB,aB,aB,aB,aB,aB,aB,aB,aB,aB,aB,aB,bg,bg,bg] 81=eO ae4.aA 81:=rfl
@[go_sem]theorem atN:eO #[bQ false,aB,aB,aB,aB,aB,aB,aB,aB,aB,aB,aB,aB,aB,aB,aB,aB,bQ false,aB,aB,aB,aB,aB,aB,aB,aB,aB,aB,aB,aB,aB,aB,aB,aB,bg,bg,bg,jl {data:=#[]},bg,bg,bg] 86=eO ko.aA 86:=rfl
@[go_sem]theorem ax7:cK #[bQ false,aB,aB,aB,aB,aB,aB,aB,aB,aB,aB,aB,aB,aB,aB,aB,aB,bQ false,aB,aB,aB,aB,aB,aB,aB,aB,aB,aB,aB,aB,aB,aB,aB,aB,bg,bg,bg]=cK ae4.aA:=rfl
@[go_sem]theorem ax8:cK #[bQ false,aB,aB,aB,aB,aB,aB,aB,aB,aB,aB,aB,aB,aB,aB,aB,aB,bQ false,aB,aB,aB,aB,aB,aB,aB,aB,aB,aB,aB,aB,aB,aB,aB,aB,bg,bg,bg,jl {data:=#[]},bg,bg,bg]=cK ko.aA:=rfl
theorem pQ{W:au}{b:Nat}{t:Tu}(h:dN W b t.aA):(xg (.c (some ⟨b,0,none⟩))).J aj W=.ok (.d t.aA) W:=by
 obtain⟨_,_,h3,h4⟩:=h.M;rw[Ti _ _ _ (by rw[h3 0 37 (by rw[Tu.eF];omega)];trivial),h4 0 37 (by rw[Tu.eF];omega),Tu.kg]
theorem adr(c:Nat)(w:au):aQ aj 262 #[.b .b c] w fun e w'=>e=.a (.e ((c:Int) != 0))/\w=w':=by
 go_enter Tryz.func262,Tryz.ntmps262;go_wp2;go_ret;exact⟨rfl,rfl⟩
theorem Vm(args:Array aC)(w:au):(callFunc 262 args).J aj w=.ok (.enter 262 args) w:=by kernel_rfl
theorem amd(a:fE)(b o c:Nat)(w:au)(hc:∀j,j<12->w.b ⟨b,o+j,none⟩=some (.b .b ((a.fG (4+j)).e:Nat))):
 aQ aj 260 #[.a (some ⟨b,o,none⟩) 12 c,.func (.func 262) #[] #[]] w fun e w'=>∃r:Int,e=.a (.b .a r)/\(decide (0<=r) = !a.mU)/\w=w':=by
 have hen:=Vm;have HC:=ah hc;clear hc;go_enter Tryz.func260,Tryz.ntmps260;go_wp2;go_loop [8] (fun s8=>∃i:Nat,i<=12/\s8=.b .a i/\∀j,4<=j->j<4+i->a.fG j=0) (fun s8=>12-(intOf s8).e)
 case atStart=>exact⟨0,by omega,rfl,fun j h1 h2=>by omega⟩
 case round=>
  obtain⟨i,hi,rfl,hall⟩:=hrel;have HA:=ah hall;clear hall;by_cases hlt:i<12
  ·have hin:(i:Int)<12:=by omega
   have hcell:=HC.i i hlt;have hz:((a.fG (4+i)).e:Int)=0↔a.fG (4+i)=0:=by
    constructor
    ·intro h;apply mE.1;have:(0:UInt8).e=0:=rfl;omega
    ·intro h;rw[h];rfl
   have HZ:=ah hz;clear hz;obtain⟨n,hn⟩:∃n:Nat,n=(a.fG (4+i)).e:=⟨_,rfl⟩
   rw[<-hn]at hcell HZ;clear hn;by_cases h0:n=0
   ·have h1:((n:Int) != 0)=false:=by rw[h0];rfl
    have hz0:a.fG (4+i)=0:=HZ.i.1 (by omega);have HZ0:=ah hz0;clear hz0 h0;go_wp2_with (go_at_call 262;refine(adr n _).g ?_;rintro e w' ⟨rfl,rfl⟩);go_round
    case rel=>exact⟨i+1,by omega,by go_num,fun j h1 h2=>by
     by_cases hji:j=4+i
     ·rw[hji];exact HZ0.i
     ·exact HA.i j h1 (by omega)⟩
    case measure=>simp[intOf]<;>omega
   ·have h1:((n:Int) != 0)=true:=by rw[bne_iff_ne];omega
    have hno:a.mU=false:=fE.Uw (i:=4+i) (by omega) (by omega) (fun h=>h0 (by have:=HZ.i.2 h;omega));have FW:=ah hno;clear hno h0;go_wp2_with (go_at_call 262;refine(adr n _).g ?_;rintro e w' ⟨rfl,rfl⟩);go_ret;exact⟨_,rfl,by rw[FW.i];simp,rfl⟩
  ·obtain rfl:i=12:=by omega
   have hs:a.mU=true:=a.J3.2 HA.i;have HS:=ah hs;clear hs;go_wp2;go_ret;exact⟨_,rfl,by rw[HS.i];simp,rfl⟩
theorem ame(a:fE)(b o c:Nat)(w:au)(hc:∀j,j<12->w.b ⟨b,o+j,none⟩=some (.b .b ((a.fG (4+j)).e:Nat))):
 aQ aj 189 #[.a (some ⟨b,o,none⟩) 12 c,.func (.func 262) #[] #[]] w fun e w'=>e=.a (.e (!a.mU))/\w=w':=by
 have HC:=ah hc;clear hc;go_enter Tryz.func189,Tryz.ntmps189;go_wp2_with (go_at_call 260;refine(amd a b o c _ HC.i).g ?_;rintro e w' ⟨r,rfl,hr,rfl⟩);go_ret;exact⟨by simp,rfl⟩
theorem fE.qN(a:fE):qN a=(a.h||a.mU):=rfl
theorem Jg(a:fE)(w:au):aQ aj 193 #[.d a.aA] w (gy w (.e (qN a))):=by
 have HB:=ah ((aH w.a.j w).alloc (ay _) (.D a.aA 27));have HT:=ah (show∀j,j<12->(w.alloc (.D a.aA 27)).b ⟨w.a.j,5+j,none⟩=some (.b .b ((a.fG (4+j)).e:Nat))from fun j hj=>by
  rw[ni,show 5+j=(4+j)+1 by omega];exact fE.Ew a (4+j) (by omega))
 have HK:=ah (fE.qN a);cases h6:a.h
 ·have H6:=ah h6
  obtain⟨K,hK⟩:=sQ a.mU;have HKK:=ah hK;clear hK;go_enter Tryz.func193,Tryz.ntmps193;go_wp2_with fail;refine(ame a _ 5 _ _ HT.i).g ?_;rintro e w' ⟨rfl,rfl⟩;rw[HKK.i];cases K
  all_goals
   go_wp2;go_ret;exact⟨by rw[HK.i,HKK.i,H6.i];rfl,HB.i⟩
 ·have H6:=ah h6
  go_enter Tryz.func193,Tryz.ntmps193;go_wp2;go_ret;exact⟨by rw[HK.i,H6.i];rfl,HB.i⟩
@[go_sem]theorem Tu.ai8(t:Tu):t.aA.m 0 17=t.h.aA:=by
 apply eB;intro j;rcases aZ j 17 with h|h
 ·rw[oq t.aA 0 17 j h (by rw[Tu.I];omega),bl,Tu.Ns t j h]
 ·rw[aV (by rw[jI,Tu.I];omega),aV (by rw[fE.I];exact h)]
@[go_sem]theorem Tu.ai9(t:Tu):t.aA.m 17 34=t.Y.aA:=by
 apply eB;intro j;rcases aZ j 17 with h|h
 ·rw[show(34:Nat)=17+17 from rfl,oq t.aA 17 17 j h (by rw[Tu.I];omega),lV,Tu.Le t j h]
 ·rw[aV (by rw[jI,Tu.I];omega),aV (by rw[fE.I];exact h)]
@[go_sem]theorem Fw.QF(x:Fw):x.aA.m 0 37=x.key.aA:=by
 apply eB;intro j;rcases aZ j 37 with h|h
 ·rw[oq x.aA 0 37 j h (by rw[Fw.I];omega),bl,Fw.ax4 x j h]
 ·rw[aV (by rw[jI,Fw.I];omega),aV (by rw[Tu.I];exact h)]
theorem Tj(t:Tu):Gb t=(decide (t.h.h=t.Y.h)&&qN t.h&&qN t.Y&&(decide (0<=t.aR)&&decide (t.aR<=255))&&(decide (0<=t.kT)&&decide (t.kT<=65535))&&(decide (0<=t.j4)&&decide (t.j4<=65535))):=rfl
theorem Ka(t:Tu)(w:au):aQ aj 115 #[.d t.aA] w (gy w (.e (Gb t))):=by
 have HB0:=ah ((aH w.a.j w).alloc (ay _) (.D t.aA 81));have B0:=ah (dN.new w t.aA 81);obtain⟨x1,x2,x3,x4⟩:=B0.i.M;have hl0:=B0.i.lt;obtain⟨K1,h1⟩:∃K,qN t.h=K:=⟨_,rfl⟩
 obtain⟨K2,h2⟩:∃K,qN t.Y=K:=⟨_,rfl⟩
 have Te:=ah h1;have HS2:=ah h2;clear h1 h2;obtain⟨s6,h6⟩:∃s,t.h.h=s:=⟨_,rfl⟩
 obtain⟨d6,g6⟩:∃s,t.Y.h=s:=⟨_,rfl⟩
 by_cases he:s6=d6;rotate_left
 ·have HE:=ah (show¬t.h.h=t.Y.h by rw[h6,g6];exact he)
  have hne:(s6==d6)=false:=by simpa using he
  clear he;go_enter Tryz.func115,Tryz.ntmps115;go_wp2;go_ret;exact⟨by rw[Tj];simp[HE.i]<;>omega,HB0.i⟩
 have HE:=ah (show t.h.h=t.Y.h by rw[h6,g6];exact he);have hne:(s6==d6)=true:=by simpa using he
 clear he;cases K1
 ·skip
  go_enter Tryz.func115,Tryz.ntmps115;go_wp2_with fail;refine(Jg t.h _).g ?_;rintro e w1 ⟨rfl,hb1⟩;rw[Te.i];have B1:=ah (B0.i.go hb1);have HB1:=ah (iZ HB0.i hb1);obtain⟨y1,y2,y3,y4⟩:=B1.i.M;have hl1:=B1.i.lt;clear hb1;go_wp2;go_ret;exact⟨by rw[Tj];simp[HE.i,Te.i]<;>omega,HB1.i⟩
 cases K2
 ·skip
  go_enter Tryz.func115,Tryz.ntmps115;go_wp2_with fail;refine(Jg t.h _).g ?_;rintro e w1 ⟨rfl,hb1⟩;rw[Te.i];have B1:=ah (B0.i.go hb1);have HB1:=ah (iZ HB0.i hb1);obtain⟨y1,y2,y3,y4⟩:=B1.i.M;have hl1:=B1.i.lt;clear hb1;go_wp2_with fail;refine(Jg t.Y _).g ?_;rintro e w2 ⟨rfl,hb2⟩;rw[HS2.i];have B2:=ah (B1.i.go hb2);have HB2:=ah (iZ HB1.i hb2);obtain⟨z1,z2,z3,z4⟩:=B2.i.M;have hl2:=B2.i.lt;clear hb2 y1 y2 y3 y4 hl1;go_wp2;go_ret;exact⟨by rw[Tj];simp_all[HE.i,Te.i,HS2.i]<;>omega,HB2.i⟩
 go_enter Tryz.func115,Tryz.ntmps115;go_wp2_with fail;refine(Jg t.h _).g ?_;rintro e w1 ⟨rfl,hb1⟩;rw[Te.i];have B1:=ah (B0.i.go hb1);have HB1:=ah (iZ HB0.i hb1);obtain⟨y1,y2,y3,y4⟩:=B1.i.M;have hl1:=B1.i.lt;clear hb1;go_wp2_with fail;refine(Jg t.Y _).g ?_;rintro e w2 ⟨rfl,hb2⟩;rw[HS2.i];have B2:=ah (B1.i.go hb2);have HB2:=ah (iZ HB1.i hb2);obtain⟨z1,z2,z3,z4⟩:=B2.i.M;have hl2:=B2.i.lt;clear hb2 y1 y2 y3 y4 hl1;by_cases p0:0<=t.aR;by_cases p1:t.aR<=255;by_cases p2:0<=t.kT;by_cases p3:t.kT<=65535;by_cases p4:0<=t.j4;by_cases p5:t.j4<=65535
 all_goals
  go_wp2;go_ret;exact⟨by rw[Tj];simp_all[HE.i,Te.i,HS2.i]<;>omega,HB2.i⟩
theorem aaT(x:Fw):DX x=(Gb x.key&&vT x.E&&decide (1<=x.xG)&&decide (x.xG<=5)&&(decide (0<=x.seen)&&decide (x.seen<=1099511627776))&&(decide (0<=x.no)&&decide (x.no<=1152921504606846976))):=rfl
theorem Lf(x:Fw)(w:au)(hn:x.E.a<=9223372036854775807):aQ aj 48 #[.d x.aA] w (gy w (.e (DX x))):=by
 have HB0:=ah ((aH w.a.j w).alloc (ay _) (.D x.aA 86));have B0:=ah (dN.new w x.aA 86);obtain⟨x1,x2,x3,x4⟩:=B0.i.M;have hl0:=B0.i.lt;obtain⟨K1,h1⟩:∃K,Gb x.key=K:=⟨_,rfl⟩
 obtain⟨K2,h2⟩:∃K,vT x.E=K:=⟨_,rfl⟩
 have Te:=ah h1;have HS2:=ah h2;clear h1 h2;cases K1
 ·skip
  go_enter Tryz.func48,Tryz.ntmps48;go_wp2_with fail;refine(Ka x.key _).g ?_;rintro e w1 ⟨rfl,hb1⟩;rw[Te.i];have B1:=ah (B0.i.go hb1);have HB1:=ah (iZ HB0.i hb1);obtain⟨y1,y2,y3,y4⟩:=B1.i.M;have hl1:=B1.i.lt;clear hb1;go_wp2;go_ret;exact⟨by rw[aaT];simp[Te.i]<;>omega,HB1.i⟩
 cases K2
 ·skip
  go_enter Tryz.func48,Tryz.ntmps48;go_wp2_with fail;refine(Ka x.key _).g ?_;rintro e w1 ⟨rfl,hb1⟩;rw[Te.i];have B1:=ah (B0.i.go hb1);have HB1:=ah (iZ HB0.i hb1);obtain⟨y1,y2,y3,y4⟩:=B1.i.M;have hl1:=B1.i.lt;clear hb1;go_wp2_with fail;refine(Ul x.E _ hn).g ?_;rintro e w2 ⟨rfl,hb2⟩;rw[HS2.i];have B2:=ah (B1.i.go hb2);have HB2:=ah (iZ HB1.i hb2);obtain⟨z1,z2,z3,z4⟩:=B2.i.M;have hl2:=B2.i.lt;clear hb2 y1 y2 y3 y4 hl1;go_wp2;go_ret;exact⟨by rw[aaT];simp_all[Te.i,HS2.i]<;>omega,HB2.i⟩
 go_enter Tryz.func48,Tryz.ntmps48;go_wp2_with fail;refine(Ka x.key _).g ?_;rintro e w1 ⟨rfl,hb1⟩;rw[Te.i];have B1:=ah (B0.i.go hb1);have HB1:=ah (iZ HB0.i hb1);obtain⟨y1,y2,y3,y4⟩:=B1.i.M;have hl1:=B1.i.lt;clear hb1;go_wp2_with fail;refine(Ul x.E _ hn).g ?_;rintro e w2 ⟨rfl,hb2⟩;rw[HS2.i];have B2:=ah (B1.i.go hb2);have HB2:=ah (iZ HB1.i hb2);obtain⟨z1,z2,z3,z4⟩:=B2.i.M;have hl2:=B2.i.lt;clear hb2 y1 y2 y3 y4 hl1;by_cases p0:1<=x.xG;by_cases p1:x.xG<=5;by_cases p2:0<=x.seen;by_cases p3:x.seen<=1099511627776;by_cases p4:0<=x.no;by_cases p5:x.no<=1152921504606846976
 all_goals
  go_wp2;go_ret;exact⟨by rw[aaT];simp_all[Te.i,HS2.i]<;>omega,HB2.i⟩
structure Xx where
 A:Option aU
 n:Nat
 c:Nat
deriving DecidableEq
structure Sh where
 Y:Int
 b:Xx
 h:Xx
 f:Xx
 gq:Int
 no:Int
 lI:Vector Int 11
deriving DecidableEq
def shT(x:Sh):Array aC:=#[.b .a x.Y,.a x.b.A x.b.n x.b.c,.a x.h.A x.h.n x.h.c,.a x.f.A x.f.n x.f.c,.b .a x.gq,.b .a x.no]
def yL(v:Vector Int 11):Array aC:=(v.a.map (aJ .a)).b
def Sh.aA(x:Sh):Array aC:=shT x++yL x.lI
theorem j3(v:Vector Int 11):(yL v).j=11:=by simp[yL]
theorem Sh.I(x:Sh):x.aA.j=17:=by simp[Sh.aA,shT,j3]
theorem Sh.Vn(x:Sh)(j:Nat)(hj:j<6):x.aA[j]? = (shT x)[j]?:=by unfold Sh.aA;rw[AL _ _ 6 _ rfl,if_pos hj]
theorem Vo(v:Vector Int 11)(j:Nat)(hj:j<11):(yL v)[j]? = some (.b .a (v.a.c j 0)):=by
 simp[yL,dY,hj,av]
theorem Sh.ahz(x:Sh)(j:Nat)(hj:j<11):x.aA[6+j]? = some (.b .a (x.lI.a.c j 0)):=by
 unfold Sh.aA;rw[AL _ _ 6 _ rfl,if_neg (by omega),kI,Vo _ _ hj]
@[go_sem]theorem Sh.qG(x:Sh):x.aA[0]? = some (.b .a x.Y):=Sh.Vn x 0 (by omega)
@[go_sem]theorem Sh.Ev(x:Sh):x.aA[1]? = some (.a x.b.A x.b.n x.b.c):=Sh.Vn x 1 (by omega)
@[go_sem]theorem Sh.Uj(x:Sh):x.aA[2]? = some (.a x.h.A x.h.n x.h.c):=Sh.Vn x 2 (by omega)
@[go_sem]theorem Sh.acY(x:Sh):x.aA[3]? = some (.a x.f.A x.f.n x.f.c):=Sh.Vn x 3 (by omega)
@[go_sem]theorem Sh.amf(x:Sh):x.aA[4]? = some (.b .a x.gq):=Sh.Vn x 4 (by omega)
@[go_sem]theorem Sh.amg(x:Sh):x.aA[5]? = some (.b .a x.no):=Sh.Vn x 5 (by omega)
theorem amh(l:List Int):((l.map (aJ .a)).b).all (·.h)=true:=by
 rw[Array.all_eq_true_iff_forall_mem];intro v hv;simp at hv;obtain⟨z,_,rfl⟩:=hv;rfl
theorem Sh.cO(x:Sh):x.aA.all (·.h)=true:=iq (by simp[shT,dx]) (amh _)
def Dp:Xx:=⟨none,0,0⟩
def Jh:Sh:=⟨0,Dp,Dp,Dp,0,0,bH 11 0⟩
@[go_sem]theorem atO:eO #[bg,bC none 0 0,bC none 0 0,bC none 0 0,bg,bg,bg,bg,bg,bg,bg,bg,bg,bg,bg,bg,bg] 37=eO Jh.aA 37:=rfl
@[go_sem]theorem ax':cK #[bg,bC none 0 0,bC none 0 0,bC none 0 0,bg,bg,bg,bg,bg,bg,bg,bg,bg,bg,bg,bg,bg]=cK Jh.aA:=rfl
@[go_sem]theorem Sh.eF(x:Sh):eF x.aA=17:=Sh.I x
@[go_sem]theorem Sh.kg(x:Sh):x.aA.m 0 17=x.aA:=by
 have:=Sh.I x;rw[<-this];simp
def afK(v:aC):xA aC:=cZ 37 v
def aaU(v x:aC):xA Unit:=eU 37 v x
@[go_sem ↓]theorem awy(v:aC):cZ 37 v=afK v:=rfl
@[go_sem ↓]theorem atP(v x:aC):eU 37 v x=aaU v x:=rfl
@[go_sem]theorem aBf(W:au)(b o:Nat)(h:vE W b o 17):(afK (.c (some ⟨b,o,none⟩))).J aj W=.ok (.d (dQ W b o 17)) W:=
 jU W b o 17 _ _ rZ rfl (by kernel_rfl) h
@[go_sem]theorem apI(W:au)(c:Array aC)(x:Sh)(b:Nat)(hb:b=W.a.j)(hc:eF c=17):
 (aaU (.c (some ⟨b,0,none⟩)) (.d x.aA)).J aj (W.alloc (.D c 37))=.ok () (W.alloc (.D x.aA 37)):=by
 subst hb;exact yY W _ c x.aA (by rw[Sh.I];kernel_rfl) (by rw[Sh.I];exact hc) (Sh.cO x)
def ami(W:au)(b o:Nat)(x:Sh):au:=W.setCells b o x.aA.a
@[go_sem]theorem aya(W:au)(b o:Nat)(x:Sh)(h:W.O b o 17):(aaU (.c (some ⟨b,o,none⟩)) (.d x.aA)).J aj W=.ok () (ami W b o x):=
 El W b o _ x.aA (by rw[Sh.I];exact h) (by rw[Sh.I];kernel_rfl) (Sh.cO x)
theorem atQ:∃i:nS,aj.l 37=some i/\i.zero=some (.d Jh.aA)/\i.j=17/\i.bytes<=400:=by
 cases h:aj.l 37 with
 | none=>exact absurd h (by have:(aj.l 37).isSome=true:=by kernel_rfl
                            intro e;rw[e]at this;cases this)
 | some i=>
   have h1:(aj.l 37).map (·.j)=some 17:=by kernel_rfl
   have h2:(aj.l 37).map (fun i=>decide (i.bytes<=400))=some true:=by kernel_rfl
   have h3:(aj.l 37).map (·.zero)=some (some (.d Jh.aA)):=by kernel_rfl
   rw[h]at h1 h2 h3;simp at h1 h2 h3;exact⟨i,rfl,h3,h1,h2⟩
def atS(ps:Array (Nat×aC)):xA aC:=fM 37 ps
@[go_sem ↓]theorem aBg(ps:Array (Nat×aC)):fM 37 ps=atS ps:=rfl
theorem YC(w:au)(fs:Array oh)(h:aj.k 37=some (.d fs)):(iG (fun f=>Prod.mk f.Z <$> sizeOf f.p) fs:xA (Array (Nat×Nat))).J aj w=.ok #[(0,2),(2,1),(3,1),(4,1),(5,1),(6,11)] w:=by
 have e:=rZ;rw[h]at e;cases e;show _=_
 kernel_rfl
@[go_sem]theorem atT(w:au):(atS #[]).J aj w=.ok (.d Jh.aA) w:=by
 obtain⟨i0,hi0,hz0,_,_⟩:=atQ;exact Es w _ _ i0 Jh.aA _ _ _ rZ hi0 hz0 (YC w _ rZ) rfl
@[go_sem]theorem Sh.Nu(x:Sh):x.aA.m 0 2 = #[.b .a x.Y,.a x.b.A x.b.n x.b.c]:=by
 apply eB;intro j;rcases aZ j 2 with h|h
 ·rw[oq x.aA 0 2 j h (by rw[Sh.I];omega),bl,Sh.Vn x j (by omega)]
  rcases(show j=0\/j=1 by omega)with rfl|rfl<;>rfl
 ·rw[aV (by rw[jI,Sh.I];omega),aV (by simp;omega)]
@[go_sem]theorem Sh.ar4(x:Sh):x.aA.m 6 17=yL x.lI:=by
 apply eB;intro j;rcases aZ j 11 with h|h
 ·rw[show(17:Nat)=6+11 from rfl,oq x.aA 6 11 j h (by rw[Sh.I];omega),Sh.ahz x j h,Vo _ _ h]
 ·rw[aV (by rw[jI,Sh.I];omega),aV (by rw[j3];exact h)]
structure StR(w:au)(B:Nat)(x:Sh)(s:qB):Prop where
 Y:x.Y=s.Y
 b:iF Bk.aA 27 w B x.b.A x.b.n s.rX
 h:iF Hl.aA 3 w B x.h.A x.h.n s.h
 f:iF Fw.aA 41 w B x.f.A x.f.n s.I
 gq:x.gq=s.gq
 no:x.no=s.no
 lI:x.lI=s.lI
 qg:∀y∈s.rX,y.qg
 ar5:∀y∈s.h,y.E.a<=9223372036854775807
 amj:∀y∈s.I,y.E.a<=9223372036854775807
 nb:x.b.n<=4611686018427387903
 nh:x.h.n<=4611686018427387903
 nf:x.f.n<=4611686018427387903
theorem StR.go{w w':au}{x:Sh}{s:qB}(h:StR w w.a.j x s)(hb:aM w.a.j w w'):StR w' w'.a.j x s:=⟨h.Y,h.b.go hb,h.h.go hb,h.f.go hb,h.gq,h.no,h.lI,h.qg,h.ar5,h.amj,h.nb,h.nh,h.nf⟩
def amk(v:aC):xA aC:=cZ 35 v
@[go_sem ↓]theorem awz(v:aC):cZ 35 v=amk v:=rfl
@[go_sem]theorem aBh(W:au)(b o:Nat)(h:vE W b o 11):(amk (.c (some ⟨b,o,none⟩))).J aj W=.ok (.d (dQ W b o 11)) W:=
 jU W b o 11 _ _ Fy rfl (by kernel_rfl) h
theorem afM(l:List Bk)(hf:∀x∈l,x.qg)(v:Int)(A:Option aU)(n c:Nat)(w:au)(hR:iF Bk.aA 27 w w.a.j A n l)(hn:n<=4611686018427387903)(K:Bool)(hK:xX v l=K):
 aQ aj 45 #[.d #[.b .a v,.a A n c]] w (gy w (.e K)):=by
 subst hK;obtain rfl:=hR.1;exact Xk l hf v A c w hR (by omega)
theorem iF.fw{W:au}{B n:Nat}{A:Option aU}{l:List Fw}{k:Nat}(h:iF Fw.aA 41 W B A n l)(hk:k<n):∃b o,A=some ⟨b,o,none⟩/\b<B/\vE W b (o+k*41) 41/\dQ W b (o+k*41) 41=(l.c k ko).aA:=iF.fG Fw.I ko h hk
section
variable {P:eX}
theorem Vq{w:au}{ops:Array je}{rest:List je}{o:je}{a:qY}{Q:zW->qY->au->Prop}(hgd:o.guard=none)(s x:pR)(t tn:bF)
 (ho:o.op=.call {callee:=.builtin .append,args:=#[s,x],argTypes:=#[t,tn]}) (u v r:aC) (hs:a.eval s=u) (hx:a.eval x=v) (w2:au)
 (hrun:∀ty,(Ag #[t,tn] ty #[u,v]).J P w=.ok r w2) (h:wpList P ops Q rest (a.put o.Y r) w2):wpList P ops Q (o::rest) a w:=by
 refine sU hgd fun K hK=>?_
 unfold nI;simp[execOp,ho,resolve,invoke,builtin,hs,hx,hrun,iI];exact hK _ _ h
end
theorem aml(k:Nat)(hk:k<=1000000000)(w:au):
 aQ aj 253 #[.a none 0 0,.b .a k] w fun e w'=>∃v,e=.a v/\w'.c w.a.j 5 1 v 0 []/\aM w.a.j w w':=by
 obtain⟨i0,hi0,hz0,hz1,hz2⟩:=xB FM;rcases Nat.eq_zero_or_pos k with h0|h0
 ·subst h0
  go_enter Tryz.func253,Tryz.ntmps253;go_wp2;go_ret;exact⟨_,rfl,fB _ _ _ _,aH _ _⟩
 ·have hrun:=fun ty=>Lib.run_append_grow_zeros (P:=aj) w 56 3 ty 5 i0 (.b .b 0) .a .a cu gY hi0 hz0 none 0 0 [] (by simp[tT]) k h0 (by omega) (by omega) (by omega) (by rw[hz2];omega) (growslice_fits (by omega) (by rw[hz2];omega))
  have hge:=grownCap_ge w (0+k) 0 5;have hle:=grownCap_le_maxLen w (0+k) 0 5 (by unfold maxLen;omega);rw[bl]at hrun hge hle;obtain⟨cap,hcap⟩:=sQ (grownCap w k 0 5);rw[hcap]at hrun hge hle;obtain⟨cells,hcells⟩:=dw (([]:List aC).b++nZ (aJ .b 0).D k++nZ (aJ .b 0).D (cap-k));have hsz:cells.j=cap*1:=by
   rw[hcells];simp only[om,dP,gQ,size_zeroCells,show(aJ .b 0).D.j=1 from rfl];omega
  rw[<-hcells]at hrun;have O1:=ah (World.ownsRow_made w.drew cells cap (base:=w.a.j) (e:=5) (size:=1) (ay _) hle hsz);have hc0:(0:Int)<=(cap:Int):=by omega
  have aJd:¬cap=0:=by omega
  have hle2:(cap:Int)<=9223372036854775807:=by unfold maxLen at hle;omega
  have aC6:=ah hrun;clear hcells hcap hsz hle hrun;go_enter Tryz.func253,Tryz.ntmps253;go_wp2_with (at_builtin;refine Vq rfl (.tmp 20) (.tmp 21) _ _ rfl (.a none 0 0) (.b .a k) _ rfl rfl _ aC6.i ?_);go_ret;exact⟨_,rfl,O1.i,((aH w.a.j w).drew).alloc (ay _) _⟩
def amm(x:Xx):Array aC:=#[.a x.A x.n x.c]
theorem YD(x:Xx):(amm x).j=1:=rfl
abbrev RdS:=iF amm 1
def yM(l:List Xx):Nat:=(l.map (·.n)).sum
theorem PE(l:List Xx)(i:Nat)(hi:i<l.a):yM (l.d (i+1))=yM (l.d i)+(l.c i Dp).n:=by
 rw[<-lW Dp l i hi];simp[yM]
theorem aaV(l:List Xx)(i:Nat):yM (l.d i)<=yM l:=by
 unfold yM
 conv=>rhs;rw[<-iK i l,iW,List.sum_append]
 omega
def Nv(W:au)(B:Nat)(l:List Xx)(bss:List (List UInt8)):Prop:=l.a=bss.a/\∀i,i<l.a->fZ W B (l.c i Dp).A (l.c i Dp).n (bss.c i [])
theorem YE(l:List (List UInt8))(i:Nat)(hi:i<l.a):(l.d (i+1)).flatten=(l.d i).flatten++l.c i []:=by
 rw[<-lW [] l i hi];simp
theorem Vr{W:au}{B:Nat}{l:List Xx}{bss:List (List UInt8)}(h:Nv W B l bss)(i:Nat)(hi:i<=l.a):(bss.d i).flatten.a=yM (l.d i):=by
 induction i with
 | zero=>simp[yM]
 | succ i ih=>
   have h1:=(h.2 i (by omega)).len;rw[YE bss i (by have:=h.1;omega),aS,ih (by omega),PE l i (by omega),h1]
def atU(bss:List (List UInt8))(w:au)(e:lu)(w':au):Prop:=∃v,e=.a v/\w'.c w.a.j 5 1 v bss.flatten.a (bss.flatten.map bv)/\aM w.a.j w w'
theorem apJ{w wr:au}{A':Option aU}{m c' j:Nat}{bss:List (List UInt8)}(ho:wr.c w.a.j 5 1 (.a A' m c') m ((bss.d j).flatten.map bv))(hf:bss.d j=bss)(hb:aM w.a.j w wr):atU bss w (.a (.a A' m c')) wr:=by
 rw[hf]at ho;have h2:=ho.1;rw[bV,gL]at h2;refine⟨_,rfl,?_,hb⟩;rw[h2];exact ho
theorem LV(l:List Xx)(bss:List (List UInt8))(A:Option aU)(n c:Nat)(w:au)(hR:RdS w w.a.j A n l)(hH:Nv w w.a.j l bss)(hn:n<=1000)(hs:yM l<=1000000000):
 aQ aj 181 #[.a A n c] w (atU bss w):=by
 obtain⟨i0,hi0,hz0,hz1,hz2⟩:=xB FM;have HR:=ah hR;have HH:=ah hH;have HN:=ah hR.1;have HS:=ah hs;clear hR hH;go_enter Tryz.func181,Tryz.ntmps181;go_wp2;go_loop [3,11] (fun s3 s11=>∃i:Nat,i<=n/\s11=.b .a i/\s3=.b .a (yM (l.d i):Nat)) (fun _ s11=>n-(intOf s11).e)
 case atStart=>exact⟨0,by omega,rfl,rfl⟩
 case round=>
  obtain⟨i,hi,rfl,rfl⟩:=hrel;by_cases hlt:i<n
  ·have hlt2:(i:Int)<n:=by omega
   obtain⟨b,o,rfl,hbb,hcell⟩:=iF.cell YD Dp HR.i hlt;have hc0:=hcell 0 (by omega);have hst:=PE l i (by rw[HN.i];exact hlt);have hsl:=aaV l (i+1);obtain⟨y,hy⟩:=sQ (l.c i Dp);rw[hy]at hc0 hst;have hc1:w.b ⟨b,o+i,none⟩=some (.a y.A y.n y.c):=by simpa[amm]using hc0
   obtain⟨z,hz⟩:=sQ (yM (l.d i));have hzb:z+y.n<=1000000000:=by have:=HS.i;omega
   rw[hz]at hst ⊢;have HST:=ah hst;clear hcell hc0 hy hz hst hsl;go_wp2;go_round
   case rel=>exact⟨i+1,by omega,by go_num,by rw[HST.i];go_num⟩
   case measure=>simp[intOf]<;>omega
  ·have hge:¬(i:Int)<n:=by omega
   have HT:=ah (show yM (l.d i)=yM l by rw[aL (by rw[HN.i];omega)]);obtain⟨z,hz⟩:=sQ (yM (l.d i));rw[hz]at HT ⊢;have hzb:z<=1000000000:=by rw[HT.i];exact HS.i
   clear hz;go_wp2_with fail;refine(aml z hzb w).g ?_;rintro e w1 ⟨v,rfl,ho,hb⟩;obtain⟨A0,c0,rfl,_,_⟩:=jw ho;have O0:=ah ho;have B0:=ah hb;clear ho hb;go_wp2;go_loopw [6,27] (fun s6 s27 wr=>∃(j m:Nat)(A':Option aU)(c':Nat),j<=n/\s27=.b .a j/\s6=.a A' m c'/\wr.c w.a.j 5 1 (.a A' m c') m ((bss.d j).flatten.map bv)/\aM w.a.j w wr) (fun _ s27 _=>n-(intOf s27).e)
   case atStart=>exact⟨0,0,A0,c0,by omega,rfl,rfl,O0.i,B0.i⟩
   case round=>
    obtain⟨j,m,A',c',hj,rfl,rfl,ho,hb⟩:=hrel;have HO:=ah ho;have HB:=ah hb;have HM:=ah (show m<=1000000000 by
     have h1:=ho.1;rw[bV,Vr HH.i j (by rw[HN.i];exact hj)]at h1;have:=aaV l j;have:=HS.i;omega)
    clear ho hb;by_cases hlt:j<n
    ·have hlt2:(j:Int)<n:=by omega
     obtain⟨b,o,rfl,hbb,hcell⟩:=iF.cell YD Dp (HR.i.to HB.i (ay _)) hlt;have hc0:=hcell 0 (by omega);have hrd:=(HH.i.2 j (by rw[HN.i];exact hlt)).to HB.i (ay _);have hst:=PE l j (by rw[HN.i];exact hlt);have hsl:=aaV l (j+1);have HFL:=ah (YE bss j (by have:=HH.i.1;have:=HN.i;omega));have HML:=ah (show m=yM (l.d j)by have h1:=HO.i.1;rw[bV,Vr HH.i j (by rw[HN.i];exact hj)]at h1;omega);obtain⟨y,hy⟩:=sQ (l.c j Dp);rw[hy]at hc0 hst hrd;have hc1:wr.b ⟨b,o+j,none⟩=some (.a y.A y.n y.c):=by simpa[amm]using hc0
     have HRD:=ah hrd;have ME:=ah (show m+y.n<=maxLen by have:=HS.i;have:=HML.i;unfold maxLen;omega);have Kw:=ah (show(m+y.n)*1<=140737488355328 by have:=HS.i;have:=HML.i;omega);have BS:=ah HB.i.j;have ON:=ah (Di (bss.c j []));have GR:=ah (fun w5 (hg:wr.d w5 (bC A' m c').f)=>show aM w.a.j w w5 from HB.i.grown hg HB.i.j (fun x hx=>(HO.i.lt x hx).1));clear hcell hc0 hy hst hsl hrd;go_wp2_with (at_builtin;refine iT _ rfl (.tmp 31) (.tmp 32) _ rfl w.a.j 5 i0 (.b .b 0) 1 1 cu hi0 hz0 hz1 hz2 rfl (ay 1) (.a A' m c') m ((bss.d j).flatten.map bv) rfl HO.i w.a.j y.A y.n y.c ((bss.c j []).map bv) rfl HRD.i ON.i ME.i Kw.i BS.i ?_;intro v1 w5 hown1 hg1 uN;have O5:=ah hown1;have G5:=ah (GR.i _ hg1);clear hown1 hg1 uN);obtain⟨A5,c5,rfl,_,_⟩:=jw O5.i;go_roundw
     case rel=>exact⟨j+1,m+y.n,A5,c5,by omega,by go_num,rfl,by rw[HFL.i,iW];exact O5.i,G5.i⟩
     case measure=>simp[intOf]<;>omega
    ·have aJe:¬(j:Int)<n:=by omega
     have HF:=ah (show bss.d j=bss from aL (by have:=HH.i.1;have:=HN.i;omega));go_wp2;go_ret;exact apJ HO.i HF.i HB.i
structure Ow(B:Nat)(g0:Option Nat)(w0:au)(v:aC)(bs:List UInt8)(w:au):Prop where
 vD:w.c B 5 1 v bs.a (bs.map bv)
 gr:w0.d w g0
 uf:v.f=g0\/∃k,v.f=some k/\w0.a.j<=k
 hB:B<=w0.a.j
 gb:∀k,g0=some k->B<=k/\k<w0.a.j
theorem atV{a w:au}{g:Option Nat}(h:a.d w g){p:aU}(hp:some p.block=g\/a.a.j<=p.block)(u:aC):a.d (w.G p u) g:=
 ⟨h.os,h.tape,h.output,by simpa[World.setCell]using h.j,fun i hi hne=>(Below.heap_setCell w p u i (by
  rintro rfl;rcases hp with hp|hp
  ·exact hne hp
  ·omega)).trans (h.block i hi hne)⟩
section
variable {B:Nat} {g0:Option Nat} {w0 W W':au} {v v':aC} {bs bs':List UInt8}
theorem Ow.nil(w:au):Ow w.a.j none w (.a none 0 0) [] w:=⟨fB _ _ _ _,World.grownBy.refl _ _,.a rfl,ay _,fun k h=>by cases h⟩
theorem Ow.gV{w:au}{n:Nat}(h:w.c B 5 1 v n (bs.map bv))(hB:B<=w.a.j):Ow B v.f w v bs w:=by
 have h1:=h.1;rw[bV,gL]at h1;subst h1;exact⟨h,World.grownBy.refl _ _,.a rfl,hB,fun k hk=>h.lt k hk⟩
theorem Ow.go(h:Ow B g0 w0 v bs W)(hb:aM W.a.j W W'):Ow B g0 w0 v bs W':=
 ⟨fQ h.vD hb,⟨hb.os.trans h.gr.os,hb.tape.trans h.gr.tape,hb.output.trans h.gr.output,aP h.gr.j hb.j,fun k hk hn=>(hb.block k (eZ hk h.gr.j)).trans (h.gr.block k hk hn)⟩,h.uf,h.hB,h.gb⟩
theorem Ow.drew(h:Ow B g0 w0 v bs W):Ow B g0 w0 v bs W.drew:=⟨h.vD,⟨h.gr.os,h.gr.tape,h.gr.output,h.gr.j,h.gr.block⟩,h.uf,h.hB,h.gb⟩
theorem Ow.step(h:Ow B g0 w0 v bs W)(k:Ow B v.f W v' bs' W'):Ow B g0 w0 v' bs' W':=by
 refine⟨k.vD,⟨k.gr.os.trans h.gr.os,k.gr.tape.trans h.gr.tape,k.gr.output.trans h.gr.output,aP h.gr.j k.gr.j,fun i hi hn=>(k.gr.block i (eZ hi h.gr.j) (fun e=>?_)).trans (h.gr.block i hi hn)⟩,?_,h.hB,h.gb⟩
 ·rcases h.uf with h1|⟨j,h1,h2⟩
  ·exact hn (e.trans h1)
  ·rw[h1]at e;injection e with e;omega
 ·rcases k.uf with h1|⟨j,h1,h2⟩
  ·rw[h1];exact h.uf
  ·exact .b ⟨j,h1,aP h.gr.j h2⟩
theorem Ow.box{q:Nat}{c:Array aC}(h:Ow B g0 w0 v bs W)(hb:dN w0 q c)(hq:some q≠g0):dN W q c:=hb.grown h.gr hq
theorem Ow.S(h:Ow B g0 w0 v bs W):aM B w0 W:=⟨h.gr.os,h.gr.tape,h.gr.output,h.gr.j,fun k hk=>h.gr.block k (eZ hk h.hB) (fun e=>by have:=(h.gb k e.symm).1;omega)⟩
theorem Ow.R(h:Ow B none w0 v bs W):aM w0.a.j w0 W:=⟨h.gr.os,h.gr.tape,h.gr.output,h.gr.j,fun k hk=>h.gr.block k hk (fun e=>by cases e)⟩
theorem Ow.Cy(h:Ow B g0 w0 v bs W):∃A c,v=.a A bs.a c:=by obtain⟨A,c,e,_⟩:=jw h.vD;exact⟨A,c,e⟩
theorem Ow.lt(h:Ow B g0 w0 v bs W){k:Nat}(hk:v.f=some k):k<W.a.j:=(h.vD.lt k hk).2
theorem Ow.j(h:Ow B g0 w0 v bs W):B<=W.a.j:=aP h.hB h.gr.j
end
section
variable {P:eX} {w:au}
theorem zF:∃i:nS,aj.l 5=some i/\i.zero=some (.b .b 0)/\i.j=1/\i.bytes=1:=xB FM
theorem kC{ops:Array je}{rest:List je}{o:je}{a:qY}{Q:zW->qY->au->Prop}(hgd:o.guard=none)(s x:pR)
 (ho:o.op=.call {callee:=.builtin .append,args:=#[s,x],argTypes:=#[56,56]})
 {B:Nat} {g0:Option Nat} {w0:au} {v:aC} {bs ys:List UInt8} (hs:a.eval s=v) (H:Ow B g0 w0 v bs w) {C:Nat} {A:Option aU} {m c:Nat} (hx:a.eval x=.a A m c) (hr:fZ w C A m ys)
 (hlen:bs.a+m<=1000000000)
 (h:∀A' n' c' w',Ow B g0 w0 (.a A' n' c') (bs++ys) w'->Ow B v.f w (.a A' n' c') (bs++ys) w'->wpList aj ops Q rest (a.put o.Y (.a A' n' c')) w'):wpList aj ops Q (o::rest) a w:=by
 obtain⟨i0,hi0,hz0,hz1,hz2⟩:=zF;have hm:=hr.len;refine iT w hgd s x _ ho B 5 i0 (.b .b 0) 1 1 cu hi0 hz0 hz1 hz2 rfl (ay 1) v bs.a (bs.map bv) hs H.vD C A m c (ys.map bv) hx hr (Di ys) (by unfold maxLen;omega) (by omega) H.j ?_;intro v1 w1 h1 h2 h3;rw[<-iW,<-hm,<-aS]at h1;have hk:Ow B v.f w v1 (bs++ys) w1:=⟨h1,h2,by rcases h3 with h|h;exact .a h;exact .b ⟨_,h,ay _⟩,H.j,fun k hk=>H.vD.lt k hk⟩
 obtain⟨A',c',rfl⟩:=hk.Cy;exact h A' _ c' w1 (H.step hk) hk
theorem ayc{o:je}{a:qY}{K:qY->au->Prop}{Q:zW->qY->au->Prop}(s x:pR)
 (ho:o.op=.call {callee:=.builtin .append,args:=#[s,x],argTypes:=#[56,56]})
 {B:Nat} {g0:Option Nat} {w0:au} {v:aC} {bs ys:List UInt8} (hs:a.eval s=v) (H:Ow B g0 w0 v bs w) {C:Nat} {A:Option aU} {m c:Nat} (hx:a.eval x=.a A m c) (hr:fZ w C A m ys)
 (hlen:bs.a+m<=1000000000)
 (h:∀A' n' c' w',Ow B g0 w0 (.a A' n' c') (bs++ys) w'->Ow B v.f w (.a A' n' c') (bs++ys) w'->K (a.put o.Y (.a A' n' c')) w'):o.wp aj a w K Q:=by
 obtain⟨i0,hi0,hz0,hz1,hz2⟩:=zF;have hm:=hr.len;refine JU w s x _ ho B 5 i0 (.b .b 0) 1 1 cu hi0 hz0 hz1 hz2 rfl (ay 1) v bs.a (bs.map bv) hs H.vD C A m c (ys.map bv) hx hr (Di ys) (by unfold maxLen;omega) (by omega) H.j ?_;intro v1 w1 h1 h2 h3;rw[<-iW,<-hm,<-aS]at h1;have hk:Ow B v.f w v1 (bs++ys) w1:=⟨h1,h2,by rcases h3 with h|h;exact .a h;exact .b ⟨_,h,ay _⟩,H.j,fun k hk=>H.vD.lt k hk⟩
 obtain⟨A',c',rfl⟩:=hk.Cy;exact h A' _ c' w1 (H.step hk) hk
end
def Gt(z:Int):Array aC:=#[.b .a z]
theorem YF(z:Int):(Gt z).j=1:=rfl
abbrev YG:=iF Gt 1
theorem Tm:∃i:nS,aj.l 3=some i/\i.zero=some (.b .a 0)/\i.j=1:=by
 cases h:aj.l 3 with
 | none=>exact absurd h (by have:(aj.l 3).isSome=true:=by kernel_rfl
                            intro e;rw[e]at this;cases this)
 | some i=>
   have h1:(aj.l 3).map (·.j)=some 1:=by kernel_rfl
   have h3:(aj.l 3).map (·.zero)=some (some (.b .a 0)):=by kernel_rfl
   rw[h]at h1 h3;simp at h1 h3;exact⟨i,rfl,h3,h1⟩
theorem afN:lD 1 = #[0]:=by apply o9;rw[j5];rfl
theorem afO:lD 2 = #[0,1]:=by apply o9;rw[j5];rfl
theorem atW:lD 3 = #[0,1,2]:=by apply o9;rw[j5];rfl
def LW(n:Nat)(ps:Array (Nat×aC)):xA aC:=bK 70 n ps
@[go_sem ↓]theorem awC(n:Nat)(ps:Array (Nat×aC)):bK 70 n ps=LW n ps:=rfl
def sK(l:List Int):Array aC:=(l.map (aJ .a)).b
@[go_sem]theorem ar6(w:au)(a:Int):(LW 1 #[(0,.b .a a)]).J aj w=.ok (.a (some ⟨w.a.j,0,none⟩) 1 1) (w.alloc (.D (sK [a]) 3)):=by
 obtain⟨i0,hi0,hz0,hz1⟩:=Tm;simp[LW,bK,dJ oC,zeroValue,sizeOf,typeInfo,hi0,hz0,hz1,fD,newRow,sK,bZ,afN,afO,atW]
theorem YG.lit(w:au)(l:List Int)(t:bF):YG (w.alloc (.D (sK l) t)) (w.alloc (.D (sK l) t)).a.j (some ⟨w.a.j,0,none⟩) l.a l:=by
 have hf:(l.h fun x=>(Gt x).a)=l.map (aJ .a):=by induction l with
  | nil=>rfl
  | cons z l ih=>simp only[iO,ih];rfl
 refine⟨rfl,⟨by rw[hf];simp,fun _=>⟨_,rfl,by simp,?_⟩⟩,fun a h _=>by injection h with h;rw[<-h]⟩;intro j v hv;rw[hf]at hv;rw[iH,bl];have:=ni w (sK l) t j;rw[this];simpa[sK]using hv
def Gu(n:Nat)(ps:Array (Nat×aC)):xA aC:=bK 276 n ps
@[go_sem ↓]theorem awD(n:Nat)(ps:Array (Nat×aC)):bK 276 n ps=Gu n ps:=rfl
theorem Tp:∃i:nS,aj.l 56=some i/\i.zero=some (.a none 0 0)/\i.j=1:=by
 cases h:aj.l 56 with
 | none=>exact absurd h (by have:(aj.l 56).isSome=true:=by kernel_rfl
                            intro e;rw[e]at this;cases this)
 | some i=>
   have h1:(aj.l 56).map (·.j)=some 1:=by kernel_rfl
   have h3:(aj.l 56).map (·.zero)=some (some (.a none 0 0)):=by kernel_rfl
   rw[h]at h1 h3;simp at h1 h3;exact⟨i,rfl,h3,h1⟩
def yU(l:List Xx):Array aC:=(l.map fun x=>bC x.A x.n x.c).b
theorem atX:lD 5 = #[0,1,2,3,4]:=by apply o9;rw[j5];rfl
@[go_sem]theorem ar7(w:au)(A B:Option aU)(a b c d:Nat):(Gu 2 #[(0,.a A a b),(1,.a B c d)]).J aj w=.ok (.a (some ⟨w.a.j,0,none⟩) 2 2) (w.alloc (.D (yU [⟨A,a,b⟩,⟨B,c,d⟩]) 56)):=by
 obtain⟨i0,hi0,hz0,hz1⟩:=Tp;simp[Gu,bK,dJ DF,zeroValue,sizeOf,typeInfo,hi0,hz0,hz1,fD,newRow,yU,bZ,afO]
@[go_sem]theorem ar8(w:au)(A0 A1 A2 A3 A4:Option aU)(n0 n1 n2 n3 n4 c0 c1 c2 c3 c4:Nat):(Gu 5 #[(0,.a A0 n0 c0),(1,.a A1 n1 c1),(2,.a A2 n2 c2),(3,.a A3 n3 c3),(4,.a A4 n4 c4)]).J aj w=.ok (.a (some ⟨w.a.j,0,none⟩) 5 5) (w.alloc (.D (yU [⟨A0,n0,c0⟩,⟨A1,n1,c1⟩,⟨A2,n2,c2⟩,⟨A3,n3,c3⟩,⟨A4,n4,c4⟩]) 56)):=by
 obtain⟨i0,hi0,hz0,hz1⟩:=Tp;simp[Gu,bK,dJ DF,zeroValue,sizeOf,typeInfo,hi0,hz0,hz1,fD,newRow,yU,bZ,atX]
theorem RdS.lit(w:au)(l:List Xx)(t:bF):RdS (w.alloc (.D (yU l) t)) (w.alloc (.D (yU l) t)).a.j (some ⟨w.a.j,0,none⟩) l.a l:=by
 have hf:(l.h fun x=>(amm x).a)=l.map (fun x=>bC x.A x.n x.c):=by induction l with
  | nil=>rfl
  | cons z l ih=>simp only[iO,ih];rfl
 refine⟨rfl,⟨by rw[hf];simp,fun _=>⟨_,rfl,by simp,?_⟩⟩,fun a h _=>by injection h with h;rw[<-h]⟩;intro j v hv;rw[hf]at hv;rw[iH,bl];have:=ni w (yU l) t j;rw[this];simpa[yU]using hv
theorem Nv.cons{w:au}{B:Nat}{x:Xx}{l:List Xx}{ys:List UInt8}{bss:List (List UInt8)}(h:fZ w B x.A x.n ys)(k:Nv w B l bss):Nv w B (x::l) (ys::bss):=by
 refine⟨by simp[k.1],fun i hi=>?_⟩;cases i with
 | zero=>exact h
 | succ i=>exact k.2 i (by simpa using hi)
theorem Nv.nil{w:au}{B:Nat}:Nv w B [] []:=⟨rfl,fun i hi=>by simp at hi⟩
theorem BR(l:List Xx)(bss:List (List UInt8))(t:bF)(n:Nat)(w:au)(hn:l.a=n)(hH:Nv w w.a.j l bss)(h1:n<=1000)(hs:yM l<=1000000000):
 aQ aj 181 #[.a (some ⟨w.a.j,0,none⟩) n n] (w.alloc (.D (yU l) t)) fun e w'=>∃A m c,e=.a (.a A m c)/\m=bss.flatten.a/\fZ w' w'.a.j A m bss.flatten/\w'.c (w.a.j+1) 5 1 (.a A m c) m (bss.flatten.map bv)/\aM w.a.j w w':=by
 subst hn;refine(LV l bss _ _ _ _ (RdS.lit w l t) ⟨hH.1,fun i hi=>((hH.2 i hi).alloc (ay _) _).lH (by simp)⟩ h1 hs).g ?_;rintro e w' ⟨v,rfl,ho,hb⟩;obtain⟨A,c,rfl,_,_⟩:=jw ho;exact⟨A,_,c,rfl,rfl,fZ.gV ho,by simpa using ho,axz (aH _ _) hb⟩
theorem apK(w:au)(s:List UInt8):fZ (sF w 5 s) (sF w 5 s).a.j (some ⟨w.a.j,0,none⟩) s.a s/\aM w.a.j w (sF w 5 s):=
 ⟨(Hf w _ s).lH (by unfold sF;rw[Lib.bytesWorld_size];omega),He w _ s⟩
theorem uR(n k:Nat)(big:Bool):(iL n k big).a=k:=by cases big<;>simp[iL,rQ]
theorem Nw{w:au}{ops:Array je}{o:je}{a:qY}{K:qY->au->Prop}{Q:zW->qY->au->Prop}{E:Prop}(hgd:o.guard=none)(s x:pR)
 (ho:o.op=.call {callee:=.builtin .append,args:=#[s,x],argTypes:=#[56,56]})
 (v:aC) (A:Option aU) (m c:Nat) {B:Nat} {g0:Option Nat} {w0:au} {bs ys:List UInt8} (hs:a.eval s=v) (H:Ow B g0 w0 v bs w) {C:Nat} (hx:a.eval x=.a A m c) (hr:fZ w C A m ys)
 (hlen:bs.a+m<=1000000000)
 (h:∀A' n' c' w',Ow B g0 w0 (.a A' n' c') (bs++ys) w'->Ow B v.f w (.a A' n' c') (bs++ys) w'->K (a.put o.Y (.a A' n' c')) w') :
 if fF o (yielded ops a.tmps)=true then nI aj o a w K Q else E:=by
 have hw:fF o (yielded ops a.tmps)=true:=by simp[fF,hgd]
 rw[if_pos hw];exact ayc s x ho hs H hx hr hlen h
def TwP(w:au)(bs:List UInt8)(e:lu)(w':au):Prop:=∃A,e=.a (.a A 2 2)/\Ow w.a.j none w (.a A 2 2) bs w'/\aM w.a.j w w'
theorem aaW{w:au}{g k B:Nat}{f:Nat->aC}{l:List UInt8}(h:w.rowIs g 5 k f)(hl:l.a=k)(hk:k<=1000)(hB:B<=g)(hf:∀j,j<k->f j=bv (l.c j 0)):w.c B 5 1 (.a (some ⟨g,0,none⟩) k k) k (l.map bv):=by
 obtain⟨c,hc,hs,hg⟩:=h;refine⟨by simp[hl],.b ⟨g,k,c,rfl,hB,hc,ay _,by unfold maxLen;omega,by omega,?_⟩⟩;apply iN;intro j;by_cases hj:j<k
 ·rw[iy (by omega),Array.getElem?_toList,hg j hj,hf j hj]
  simp[av,hl,hj]
 ·rw[aT (by simp;omega),aT (by simp[hl];omega)]
theorem wD(n:Nat)(hn:n<=65535)(w:au):aQ aj 184 #[.b .u64 n,.b .a 2,.e true] w (TwP w (iL n 2 true)):=by
 refine(aoS n 2 (by omega) (by omega) true w).g ?_;rintro e w' ⟨rfl,hr,hb⟩;have ho:=aaW (B:=w.a.j) (l:=iL n 2 true) hr (uR _ _ _) (by omega) (ay _) (fun j hj=>rfl);refine⟨_,rfl,⟨by rw[uR];exact ho,⟨hb.os,hb.tape,hb.output,hb.j,fun k hk _=>hb.block k hk⟩,.b ⟨_,rfl,ay _⟩,ay _,fun k hk=>by cases hk⟩,hb⟩
theorem ar9{B B':Nat}{w1 w w':au}{v:aC}{bs:List UInt8}(h:Ow B' none w v bs w')(h1:B<=B')(hb:aM w'.a.j w' w1):Ow B v.f w1 v bs w1:=Ow.gV (iM (fQ h.vD hb) h1) (aP (aP h1 h.j) hb.j)
theorem Dq{B n c:Nat}{w1 w w':au}{A:Option aU}{bs:List UInt8}(h:Ow B none w (.a A n c) bs w')(hb:aM w'.a.j w' w1):fZ w1 w1.a.j A n bs:=by
 have h2:=fQ h.vD hb;obtain⟨A',c',e⟩:=h.Cy;injection e with e1 e2 e3
 subst e2;exact fZ.gV h2
theorem Ny{W W':au}(h:aM W.drew.a.j W.drew W'):aM W.a.j W W':=⟨h.os,h.tape,h.output,h.j,h.block⟩
theorem apL{w w1 w2:au}{g0:Option Nat}{v':aC}{bs:List UInt8}{c0:Array aC}(h:Ow (w.a.j+1) g0 w1 v' bs w2)(hB:aM w.a.j w w1)(hT:dN w1 w.a.j c0):
 (∃A n c,v'=.a A n c/\w2.c w.a.j 5 1 (.a A n c) n (bs.map bv)/\aM w.a.j w w2)/\dN w2 w.a.j c0:=by
 obtain⟨A,c,rfl⟩:=h.Cy;have hb:=h.S;exact⟨⟨A,_,c,rfl,iM h.vD (Mv _),hB.trans (hb.g (Mv _))⟩,hT.S hb (mP _)⟩
def BU(n:Nat)(ps:Array (Nat×aC)):xA aC:=bK 56 n ps
@[go_sem ↓]theorem ayd(n:Nat)(ps:Array (Nat×aC)):bK 56 n ps=BU n ps:=rfl
@[go_sem]theorem atY(w:au)(a:Int):(BU 1 #[(0,.b .b a)]).J aj w=.ok (.a (some ⟨w.a.j,0,none⟩) 1 1) (w.alloc (.D #[.b .b a] 5)):=by
 obtain⟨i0,hi0,hz0,hz1,hz2⟩:=zF;simp[BU,bK,dJ cu,zeroValue,sizeOf,typeInfo,hi0,hz0,hz1,fD,newRow,bZ,afN]
theorem EO(w:au)(b:UInt8)(a:Int)(ha:a=(b.e:Int)):fZ (w.alloc (.D #[.b .b a] 5)) (w.a.j+1) (some ⟨w.a.j,0,none⟩) 1 [b]:=by
 subst ha;refine⟨rfl,fun _=>⟨_,rfl,by simp,fun j u hu=>?_⟩⟩;rw[iH,bl];have:=ni w #[.b .b (b.e:Int)] 5 j;rw[this];simpa[bv]using hu
theorem Tu.rdS{W:au}{q:Nat}{t:Tu}(h:dN W q t.aA):fZ W W.a.j (some ⟨q,1,none⟩) 16 t.h.b.a:=by
 refine⟨by simp,fun _=>⟨_,rfl,h.lt,fun j u hu=>?_⟩⟩;have hj:j<16:=by
  rcases aZ j 16 with hj|hj
  ·exact hj
  ·rw[aT (by simp;omega)]at hu;cases hu
 rw[iH,h.M.1,lV 1 j,Tu.Ns t (j+1) (by omega),fE.Ew _ j hj,<-hu];simp[av,hj]
theorem Tu.rdD{W:au}{q:Nat}{t:Tu}(h:dN W q t.aA):fZ W W.a.j (some ⟨q,18,none⟩) 16 t.Y.b.a:=by
 refine⟨by simp,fun _=>⟨_,rfl,h.lt,fun j u hu=>?_⟩⟩;have hj:j<16:=by
  rcases aZ j 16 with hj|hj
  ·exact hj
  ·rw[aT (by simp;omega)]at hu;cases hu
 rw[iH,h.M.1,show 18+j=(j+1)+17 by omega,Tu.Le t (j+1) (by omega),fE.Ew _ j hj,<-hu];simp[av,hj]
def KI(w:au)(bs:List UInt8)(e:lu)(w':au):Prop:=∃A n c,e=.a (.a A n c)/\n=bs.a/\w'.c w.a.j 5 1 (.a A n c) n (bs.map bv)/\aM w.a.j w w'
def aye(w:au)(q:Nat)(c:Array aC)(bs:List UInt8)(e:lu)(w':au):Prop:=∃A n c2,e=.a (.a A n c2)/\n=bs.a/\w'.c w.a.j 5 1 (.a A n c2) n (bs.map bv)/\aM w.a.j w w'/\dN w' q c
theorem ads(t:Tu)(f p:UInt8)(hf:f=if t.h.h then 6 else 4)(hp:p=aK t.aR.e)(l:List UInt8)(hl:l=iL t.kT.e 2 true++iL t.j4.e 2 true):[[f],t.h.b.a,t.Y.b.a,[p],l].flatten=MC t:=by
 subst hf hp hl;simp[MC]
theorem apM(t:Tu):(MC t).a=38:=by simp[MC,uR]
def xk(t:Tu):Prop:=(0<=t.aR/\t.aR<=255)/\(0<=t.kT/\t.kT<=65535)/\(0<=t.j4/\t.j4<=65535)
theorem aC9(W w0:au)(q:Nat)(t:Tu)(f p:UInt8)(fi pi:Int)(A:Option aU)(n c:Nat)(l:List UInt8)(hf:f=if t.h.h then 6 else 4)(hp:p=aK t.aR.e)(hl:l=iL t.kT.e 2 true++iL t.j4.e 2 true)
 (hfi:fi=(f.e:Int)) (hpi:pi=(p.e:Int)) (hB:dN W q t.aA) (hr:fZ W W.a.j A n l) (hn:n=4) (h0:aM w0.a.j w0 W) :
 aQ aj 181 #[.a (some ⟨W.a.j+1+1,0,none⟩) 5 5] (((W.alloc (.D #[.b .b fi] 5)).alloc (.D #[.b .b pi] 5)).alloc (.D (yU [⟨some ⟨W.a.j,0,none⟩,1,1⟩,⟨some ⟨q,1,none⟩,16,16⟩,⟨some ⟨q,18,none⟩,16,16⟩,⟨some ⟨W.a.j+1,0,none⟩,1,1⟩,⟨A,n,c⟩]) 56)) (aye w0 q t.aA (MC t)):=by
 have e1:(W.alloc (.D #[.b .b fi] 5)).a.j=W.a.j+1:=by simp
 have e2:((W.alloc (.D #[.b .b fi] 5)).alloc (.D #[.b .b pi] 5)).a.j=W.a.j+1+1:=by simp
 have up:∀{A:Option aU} {n:Nat} {l:List UInt8},fZ W W.a.j A n l->fZ ((W.alloc (.D #[.b .b fi] 5)).alloc (.D #[.b .b pi] 5)) ((W.alloc (.D #[.b .b fi] 5)).alloc (.D #[.b .b pi] 5)).a.j A n l:=fun h=>
  ((h.alloc (ay _) _).alloc (by rw[e1];omega) _).lH (by rw[e2];omega)
 have h1:=((EO W f fi hfi).alloc (by rw[e1];omega) (.D #[.b .b pi] 5)).lH (show W.a.j+1<=((W.alloc (.D #[.b .b fi] 5)).alloc (.D #[.b .b pi] 5)).a.j by rw[e2];omega);have h4:=(EO (W.alloc (.D #[.b .b fi] 5)) p pi hpi).lH (show _<=((W.alloc (.D #[.b .b fi] 5)).alloc (.D #[.b .b pi] 5)).a.j by rw[e2,e1];omega);rw[e1]at h4;have:=BR [⟨some ⟨W.a.j,0,none⟩,1,1⟩,⟨some ⟨q,1,none⟩,16,16⟩,⟨some ⟨q,18,none⟩,16,16⟩,⟨some ⟨W.a.j+1,0,none⟩,1,1⟩,⟨A,n,c⟩] [[f],t.h.b.a,t.Y.b.a,[p],l] 56 5 _ rfl (.cons h1 (.cons (up (Tu.rdS hB)) (.cons (up (Tu.rdD hB)) (.cons h4 (.cons (up hr) .nil))))) (by omega) (by simp[yM,hn]);rw[e2,ads t f p hf hp l hl]at this;refine this.g ?_;rintro e w' ⟨A',m,c',rfl,hm,_,ho,hb⟩;have hsz:=h0.j;have hWb:=(((aH W.a.j W).alloc (ay _) _).alloc (by simp) _).trans (hb.g (by omega));exact⟨A',m,c',rfl,hm,iM ho (by omega),iZ h0 hWb,hB.go hWb⟩
theorem aC'(W w0:au)(q:Nat)(t:Tu)(f p:UInt8)(fi pi:Int)(A:Option aU)(n c:Nat)(l:List UInt8)(hf:f=if t.h.h then 6 else 4)(hp:p=aK t.aR.e)(hl:l=iL t.kT.e 2 true++iL t.j4.e 2 true)
 (hfi:fi=(f.e:Int)) (hpi:pi=(p.e:Int)) (hB:dN W q t.aA) (hr:fZ W W.a.j A n l) (hn:n=4) (h0:aM w0.a.j w0 W) :
 aQ aj 181 #[.a (some ⟨W.a.j+1+1,0,none⟩) 5 5] (((W.alloc (.D #[.b .b pi] 5)).alloc (.D #[.b .b fi] 5)).alloc (.D (yU [⟨some ⟨W.a.j+1,0,none⟩,1,1⟩,⟨some ⟨q,1,none⟩,16,16⟩,⟨some ⟨q,18,none⟩,16,16⟩,⟨some ⟨W.a.j,0,none⟩,1,1⟩,⟨A,n,c⟩]) 56)) (aye w0 q t.aA (MC t)):=by
 have e1:(W.alloc (.D #[.b .b pi] 5)).a.j=W.a.j+1:=by simp
 have e2:((W.alloc (.D #[.b .b pi] 5)).alloc (.D #[.b .b fi] 5)).a.j=W.a.j+1+1:=by simp
 have up:∀{A:Option aU} {n:Nat} {l:List UInt8},fZ W W.a.j A n l->fZ ((W.alloc (.D #[.b .b pi] 5)).alloc (.D #[.b .b fi] 5)) ((W.alloc (.D #[.b .b pi] 5)).alloc (.D #[.b .b fi] 5)).a.j A n l:=fun h=>
  ((h.alloc (ay _) _).alloc (by rw[e1];omega) _).lH (by rw[e2];omega)
 have h4:=((EO W p pi hpi).alloc (by rw[e1];omega) (.D #[.b .b fi] 5)).lH (show W.a.j+1<=((W.alloc (.D #[.b .b pi] 5)).alloc (.D #[.b .b fi] 5)).a.j by rw[e2];omega);have h1:=(EO (W.alloc (.D #[.b .b pi] 5)) f fi hfi).lH (show _<=((W.alloc (.D #[.b .b pi] 5)).alloc (.D #[.b .b fi] 5)).a.j by rw[e2,e1];omega);rw[e1]at h1;have:=BR [⟨some ⟨W.a.j+1,0,none⟩,1,1⟩,⟨some ⟨q,1,none⟩,16,16⟩,⟨some ⟨q,18,none⟩,16,16⟩,⟨some ⟨W.a.j,0,none⟩,1,1⟩,⟨A,n,c⟩] [[f],t.h.b.a,t.Y.b.a,[p],l] 56 5 _ rfl (.cons h1 (.cons (up (Tu.rdS hB)) (.cons (up (Tu.rdD hB)) (.cons h4 (.cons (up hr) .nil))))) (by omega) (by simp[yM,hn]);rw[e2,ads t f p hf hp l hl]at this;refine this.g ?_;rintro e w' ⟨A',m,c',rfl,hm,_,ho,hb⟩;have hsz:=h0.j;have hWb:=(((aH W.a.j W).alloc (ay _) _).alloc (by simp) _).trans (hb.g (by omega));exact⟨A',m,c',rfl,hm,iM ho (by omega),iZ h0 hWb,hB.go hWb⟩
theorem aaX(t:Tu)(ht:xk t)(w:au):aQ aj 98 #[.d t.aA] w (KI w (MC t)):=by
 obtain⟨⟨p1,p2⟩,⟨s1,s2⟩,d1,d2⟩:=ht;have T0:=ah (dN.new w t.aA 81);have B0:=ah ((aH w.a.j w).alloc (ay _) (.D t.aA 81));obtain⟨w1,hw1⟩:=dw (w.alloc (.D t.aA 81));obtain⟨sn,hsn⟩:∃sn:Nat,t.kT=(sn:Int):=⟨t.kT.e,by omega⟩
 obtain⟨dn,hdn⟩:∃dn:Nat,t.j4=(dn:Int):=⟨t.j4.e,by omega⟩
 have PS:=ah (fun W=>wD sn (by omega) W);have PD:=ah (fun W=>wD dn (by omega) W);have cs:jB.wrap t.kT=(sn:Int):=by rw[jT];omega
 have cd:jB.wrap t.j4=(dn:Int):=by rw[jT];omega
 have cp:aX.wrap t.aR=t.aR:=by rw[Ic];omega
 obtain⟨f,hf⟩:∃f:UInt8,f=if t.h.h then 6 else 4:=⟨_,rfl⟩
 have HL:=ah (show iL sn 2 true++iL dn 2 true=iL t.kT.e 2 true++iL t.j4.e 2 true by rw[show sn=t.kT.e by omega,show dn=t.j4.e by omega]);have HPI:=ah (show t.aR=((aK t.aR.e).e:Int)by rw[dig _ (by omega)];omega);obtain⟨fi,hfi⟩:∃fi:Int,fi=(f.e:Int):=⟨_,rfl⟩
 have KS:=ah (show∀W',dN W' w.a.j t.aA->W'.b ⟨w.a.j,35,none⟩=some (.b .a t.kT)/\W'.b ⟨w.a.j,36,none⟩=some (.b .a t.j4)from fun W' h=>⟨by rw[h.M.1];exact Tu.afF t,by rw[h.M.1];exact Tu.aaP t⟩);have KP:=ah (show∀W',dN W' w.a.j t.aA->W'.b ⟨w.a.j,34,none⟩=some (.b .a t.aR)from fun W' h=>by rw[h.M.1];exact Tu.Vl t);have CA:=ah (fun W A n c (hB:dN W w.a.j t.aA) (hr:fZ W W.a.j A n (iL sn 2 true++iL dn 2 true)) (hn:n=4) (h0:aM w.a.j w W)=>aC9 W w w.a.j t f _ fi t.aR A n c _ hf rfl HL.i hfi HPI.i hB hr hn h0);have CB:=ah (fun W A n c (hB:dN W w.a.j t.aA) (hr:fZ W W.a.j A n (iL sn 2 true++iL dn 2 true)) (hn:n=4) (h0:aM w.a.j w W)=>aC' W w w.a.j t f _ fi t.aR A n c _ hf rfl HL.i hfi HPI.i hB hr hn h0);have HFI:=ah (show fi=if t.h.h then 6 else 4 by rw[hfi,hf];cases t.h.h<;>rfl);rw[<-hw1]at T0 B0;have hb1:w.a.j<w1.a.j:=by rw[hw1];simp
 have LB0:=ah (show w.a.j+1<=w1.drew.a.j from hb1);have LB1:=ah (show∀W,aM w1.drew.a.j w1.drew W->w.a.j+1<=W.a.j from fun W h=>aP hb1 h.j);have H4:=ah (show(iL sn 2 true).a+2<=1000000000 by rw[uR];omega);clear hf hfi hsn hdn p1 p2 s1 s2 d1 d2;obtain⟨j6,aDb⟩:∃b,t.h.h=b:=⟨_,rfl⟩
 rw[aDb]at HFI;subst hw1;cases j6
 all_goals
  have ayg:=HFI.i;simp only[jr,if_false,if_true]at ayg;subst ayg;clear HFI;go_enter Tryz.func98,Tryz.ntmps98;go_wp2_with fail;go_cut [4]from 8 to 16 (fun s4 wx=>∃A n c,s4=.a A n c/\wx.c w.a.j 5 1 (.a A n c) n ((iL sn 2 true++iL dn 2 true).map bv)/\aM w.a.j w wx/\dN wx w.a.j t.aA)
  case first=>
   go_region_held_law (fun W'=>W'.b ⟨w.a.j,35,none⟩=some (.b .a t.kT)/\W'.b ⟨w.a.j,36,none⟩=some (.b .a t.j4))
    (first|exact KS.i _ T0.i.drew|exact KS.i _ Ta.i|exact KS.i _ Tb.i|exact KS.i _ Tc.i|exact KS.i _ Td.i|exact KS.i _ Tz.i|go_keep)
    (first|(go_at_call 184;(with_reducible refine(PS.i _).g ?_);rintro e wa ⟨Awa,rfl,ho,hb⟩;have Oa:=ah ho;have Ta:=ah (T0.i.drew.go hb);have Ba:=ah (iZ B0.i (Ny hb));clear ho hb)|(go_at_call 184;(with_reducible refine(PD.i _).g ?_);rintro e wb ⟨Awb,rfl,ho,hb⟩;have Ob:=ah ho;have Tb:=ah (T0.i.drew.go hb);have Bb:=ah (iZ B0.i (Ny hb));have Lb:=ah (LB1.i _ hb);clear ho hb)|(go_at_call 184;(with_reducible refine(PD.i _).g ?_);rintro e wc2 ⟨aDc,rfl,ho,hb⟩;have Tc:=ah (Ta.i.go hb);have Bc:=ah (iZ Ba.i hb);have Q1:=ah (ar9 Oa.i LB0.i hb);have Q2:=ah (Dq ho (aH _ _));clear ho hb)|(go_at_call 184;(with_reducible refine(PS.i _).g ?_);rintro e wd ⟨Awd,rfl,ho,hb⟩;have Td:=ah (Tb.i.go hb);have Bd:=ah (iZ Bb.i hb);have Q3:=ah (ar9 ho Lb.i (aH _ _));have Q4:=ah (Dq Ob.i hb);clear ho hb)|(refine Nw (o:=⟨some 16,_,_,_,_,_⟩) rfl (.tmp 11) (.tmp 15) rfl (.a Awd 2 2) Awb 2 2 rfl Q3.i rfl Q4.i H4.i ?_;intro A3 n3 c3 w3 h2 h3;have Tz:=ah (apL h2 Bd.i Td.i).2;have Oz:=ah (apL h2 Bd.i Td.i).1;clear h2 h3)|(refine Nw (o:=⟨some 16,_,_,_,_,_⟩) rfl (.tmp 11) (.tmp 15) rfl (.a Awa 2 2) aDc 2 2 rfl Q1.i rfl Q2.i H4.i ?_;intro A3 n3 c3 w3 h2 h3;have Tz:=ah (apL h2 Bc.i Tc.i).2;have Oz:=ah (apL h2 Bc.i Tc.i).1;clear h2 h3))
   all_goals
    go_wp2_with fail;go_meet
    case rel=>obtain⟨A9,n9,c9,e9,ho9,hb9⟩:=Oz.i;exact⟨A9,n9,c9,e9,ho9,hb9,Tz.i⟩
  case rest=>
   obtain⟨A,n,c,rfl,ho,hb,hT⟩:=hcut;have hn4:n=4:=by have:=ho.1;rw[bV,aS,uR,uR]at this;omega
   subst hn4;have HT:=ah hT;have HB:=ah hb;have HR:=ah (fZ.gV ho);clear ho hb hT;go_wp2_with fail;have CA1:=CA.i wc.drew A 4 c HT.i.drew HR.i rfl HB.i.drew;have CB1:=CB.i wc.drew A 4 c HT.i.drew HR.i rfl HB.i.drew;simp only[show wc.drew.a.j=wc.a.j from rfl,show∀(w:au) ob,w.drew.alloc ob=(w.alloc ob).drew from fun _ _=>rfl]at CA1 CB1;have CA2:=ah CA1;have CB2:=ah CB1;clear CA1 CB1;go_region_held_law (fun W'=>W'.b ⟨w.a.j,34,none⟩=some (.b .a t.aR))
    (first|exact KP.i _ HT.i.drew|exact KP.i _ (HT.i.drew.alloc _)|exact KP.i _ ((HT.i.drew.alloc _).alloc _)|exact KP.i _ (((HT.i.drew.alloc _).alloc _).alloc _)|exact KP.i _ FX.i|go_keep)
    (first|(go_at_call 181;(with_reducible refine CA2.i.g ?_);rintro e w2 ⟨A2,n2,c2,rfl,hn2,ho2,hb2,hx2⟩;have FX:=ah hx2;have FN:=ah hn2;have FO:=ah ho2;have FB:=ah hb2;clear hn2 ho2 hb2 hx2)|(go_at_call 181;(with_reducible refine CB2.i.g ?_);rintro e w2 ⟨A2,n2,c2,rfl,hn2,ho2,hb2,hx2⟩;have FX:=ah hx2;have FN:=ah hn2;have FO:=ah ho2;have FB:=ah hb2;clear hn2 ho2 hb2 hx2))
   all_goals
    go_wp2_with fail;go_ret;exact⟨_,_,_,rfl,FN.i,FO.i,FB.i⟩
theorem afP(l:List UInt8):iL (oL l) l.a true=l:=by
 simp[iL,Rh]
theorem Vs(l:List UInt8)(k:Nat)(h:l.a=k):iL (oL l) k true=l:=by rw[<-h];exact afP l
theorem adt{n m k:Nat}(hn:n<2^(8*k))(hm:m<2^(8*k))(h:iL n k true=iL m k true):n=m:=by
 have h1:rQ n k=rQ m k:=by
  have:=congrArg List.reverse h;simpa[iL]using this
 have h2:∀i,i<k->FP n i=FP m i:=fun i hi=>by
  have:=congrArg (fun l:List UInt8=>l[i]?) h1;simpa[rQ,hi]using this
 have h3:=acy k h2;rw[fP hn,fP hm]at h3;exact h3
theorem Vt(l:List UInt8):oL l<2^(8*l.a):=by
 have:=JV l;rw[Nat.pow_mul];exact this
theorem afQ{n k:Nat}(hn:n<2^(8*k)):oL (iL n k true)=n:=by
 have hl:(iL n k true).a=k:=uR _ _ _;have h:=Vs (iL n k true) k hl;have h2:=Vt (iL n k true);rw[hl]at h2;exact adt h2 hn h
theorem PG(l t:List UInt8)(k:Nat)(h:l.a=k):Hq k (some (l++t))=(l,some t):=by
 subst h;simp[Hq]
theorem PI{k:Nat}{s:RS}{l t:List UInt8}(h:Hq k s=(l,some t)):s=some (l++t)/\l.a=k:=by
 cases s with
 | none=>simp[Hq]at h
 | some b=>
   unfold Hq at h;simp only at h;split at h
   ·rename_i hk
    injection h with h1 h2
    injection h2 with h2
    subst h1 h2;exact⟨by rw[iK],by rw[List.length_take];omega⟩
   ·injection h with h1 h2;cases h2
theorem Nz(n k:Nat)(t:List UInt8)(hn:n<2^(8*k)):acE k (some (iL n k true++t))=(n,some t):=by
 unfold acE;rw[PG (iL n k true) t k (uR _ _ _)];simp only[afQ hn]
theorem NA{k n:Nat}{s:RS}{t:List UInt8}(h:acE k s=(n,some t)):s=some (iL n k true++t)/\n<2^(8*k):=by
 unfold acE at h;injection h with h1 h2
 have h3:Hq k s=((Hq k s).1,some t):=by rw[<-h2]
 obtain⟨h4,h5⟩:=PI h3;refine⟨?_,?_⟩
 ·rw[<-h1,Vs _ k h5];exact h4
 ·have:=Vt (Hq k s).1
  rw[h5]at this;rw[<-h1];exact this
theorem ahA(n:Nat)(hn:n<256):iL n 1 true=[aK n]:=by
 simp[iL,rQ,FP]
theorem amo{n:Nat}(v:Vector UInt8 n):qh n v.a=v:=by
 apply Vector.ext;intro i hi;simp[qh,hi]
theorem adu{n:Nat}(l:List UInt8)(h:l.a=n):(qh n l).a=l:=by
 apply List.ext_getElem
 ·simp[h]
 ·intro i h1 h2
  simp[qh,h2]
structure Cdc{α:Type}(one:RS->(α×Bool)×RS)(lay:α->List UInt8)(ok:α->Prop):Prop where
 fwd:∀x t,ok x->one (some (lay x++t))=((x,true),some t)
 inv:∀s x t,one s=((x,true),some t)->ok x->s=some (lay x++t)
theorem Bl{α:Type}{p:α×RS}{t:List UInt8}(h:p.2=some t):p=(p.1,some t):=Prod.ext rfl h
def YH(t:Tu):Prop:=t.h.h=t.Y.h/\(0<=t.aR/\t.aR<=255)/\(0<=t.kT/\t.kT<=65535)/\0<=t.j4/\t.j4<=65535
theorem amq:Cdc tuO MC YH where
 fwd:=by
  intro x t ⟨h0,⟨h1,h2⟩,⟨h3,h4⟩,h5,h6⟩;have hf:∀b:Bool,(if b then 6 else 4:Nat)<2^(8*1):=by intro b;cases b<;>decide
  have e0:MC x++t=iL (if x.h.h then 6 else 4) 1 true++(x.h.b.a++(x.Y.b.a++(iL x.aR.e 1 true++(iL x.kT.e 2 true++(iL x.j4.e 2 true++t))))):=by
   have:∀b:Bool,iL (if b then 6 else 4) 1 true=[if b then 6 else 4]:=by intro b;cases b<;>decide
   rw[ahA x.aR.e (by omega),this];simp[MC,dF]
  rw[e0];unfold tuO;simp only[Nz _ 1 _ (hf _),PG x.h.b.a _ 16 (by simp),PG x.Y.b.a _ 16 (by simp),Nz x.aR.e 1 _ (by omega),Nz x.kT.e 2 _ (by omega),Nz x.j4.e 2 _ (by omega),amo];have g:∀b:Bool,(((if b then 6 else 4:Nat)==6)=b)/\(b||((if b then 6 else 4:Nat)==4))=true:=by intro b;cases b<;>decide
  simp only[(g _).1,(g _).2];congr 2;obtain⟨⟨a,b⟩,⟨c,d⟩,p,q,r⟩:=x;simp only at h0 h1 h2 h3 h4 h5 h6 ⊢;subst h0;congr<;>omega
 inv:=by
  intro s x t h _;unfold tuO at h;simp only[Prod.mk.injEq]at h;obtain⟨⟨h1,c⟩,h2⟩:=h;obtain⟨i6,_⟩:=NA (Bl h2);obtain⟨i5,_⟩:=NA (Bl i6);obtain⟨i4,l4⟩:=NA (Bl i5);obtain⟨i3,l3⟩:=PI (Bl i4);obtain⟨i2,l2⟩:=PI (Bl i3);obtain⟨i1,_⟩:=NA (Bl i2);rw[i1,<-h1];congr 1;unfold MC;have:∀n:Nat,((n==6)||(n==4))=true->iL n 1 true=[if(n==6)=true then 6 else 4]:=by
   intro n hn;simp at hn;rcases hn with rfl|rfl<;>decide
  rw[this _ c];have e4:∀n:Nat,n<2^(8*1)->[aK n]=iL n 1 true:=fun n hn=>(ahA n (by omega)).symm
  simp only[dF,adu _ l2,adu _ l3,Int.toNat_natCast,e4 _ l4]
theorem apN(n m:Int):Yb n m=true↔0<=n/\n<=m:=by simp[Yb]
theorem NC{x:Tu}(h:Gb x=true):YH x:=by
 unfold Gb at h;simp only[bB,decide_eq_true_eq,apN]at h;exact⟨h.1.1.1.1.1,h.1.1.2,h.1.2,h.2⟩
structure Ly(B:Nat)(L:List (Nat×Array aC))(w0 W:au)(v:aC)(bs:List UInt8):Prop where
 o:Ow B none w0 v bs W
 I:∀p∈L,dN W p.1 p.2/\v.f≠some p.1
section
variable {B:Nat} {L:List (Nat×Array aC)} {w0 W W':au} {v v':aC} {bs bs':List UInt8}
theorem Ly.go(h:Ly B L w0 W v bs)(hb:aM W.a.j W W'):Ly B L w0 W' v bs:=⟨h.o.go hb,fun p hp=>⟨(h.I p hp).1.go hb,(h.I p hp).2⟩⟩
theorem Ly.alloc(h:Ly B L w0 W v bs)(ob:Obj):Ly B L w0 (W.alloc ob) v bs:=h.go ((aH _ _).alloc (ay _) ob)
theorem Ly.drew(h:Ly B L w0 W v bs):Ly B L w0 W.drew v bs:=⟨h.o.drew,fun p hp=>⟨(h.I p hp).1.drew,(h.I p hp).2⟩⟩
theorem Ly.new(h:Ly B L w0 W v bs)(c:Array aC)(t:bF):Ly B ((W.a.j,c)::L) w0 (W.alloc (.D c t)) v bs:=
 ⟨(h.alloc _).o,fun p hp=>by
   rcases bE.1 hp with rfl|hp
   ·exact⟨dN.new W c t,fun e=>absurd (h.o.lt e) (Nat.lt_irrefl _)⟩
   ·exact(h.alloc _).I p hp⟩
theorem Ly.add(h:Ly B L w0 W v bs){q:Nat}{c:Array aC}(hb:dN W q c)(hq:v.f≠some q):Ly B ((q,c)::L) w0 W v bs:=
 ⟨h.o,fun p hp=>by
  rcases bE.1 hp with rfl|hp
  ·exact⟨hb,hq⟩
  ·exact h.I p hp⟩
theorem Ly.step(h:Ly B L w0 W v bs)(k:Ow B v.f W v' bs' W'):Ly B L w0 W' v' bs':=
 ⟨h.o.step k,fun p hp=>⟨k.box (h.I p hp).1 (fun e=>(h.I p hp).2 e.symm),by
  rcases k.uf with e|⟨j,e,e2⟩
  ·rw[e];exact(h.I p hp).2
  ·rw[e];intro e3;injection e3 with e3;have:=(h.I p hp).1.lt;omega⟩⟩
theorem Ly.Vu{p:Nat×Array aC}(h:Ly B (p::L) w0 W v bs):Ly B L w0 W v bs:=⟨h.o,fun q hq=>h.I q (jX _ hq)⟩
theorem Ly.X{q:Nat}{c:Array aC}(h:Ly B ((q,c)::L) w0 W v bs):dN W q c:=(h.I (q,c) (by simp)).1
theorem Ly.b1{p:Nat×Array aC}{q:Nat}{c:Array aC}(h:Ly B (p::(q,c)::L) w0 W v bs):dN W q c:=h.Vu.X
theorem Ly.b2{p p2:Nat×Array aC}{q:Nat}{c:Array aC}(h:Ly B (p::p2::(q,c)::L) w0 W v bs):dN W q c:=h.Vu.Vu.X
end
theorem YG.box{W:au}{q o:Nat}{l:List Int}{c:Array aC}(h:dN W q c)(hc:∀j,j<l.a->c[o+j]? = some (.b .a (l.c j 0))):YG W W.a.j (some ⟨q,o,none⟩) l.a l:=by
 have hf:(l.h fun x=>(Gt x).a)=l.map (aJ .a):=by
  clear hc
  induction l with
  | nil=>rfl
  | cons z l ih=>simp only[iO,ih];rfl
 refine⟨rfl,⟨by rw[hf];simp,fun _=>⟨_,rfl,h.lt,?_⟩⟩,fun a h _=>by injection h with h;rw[<-h]⟩;intro j v hv;rw[hf]at hv;have hj:j<l.a:=by
  rcases aZ j l.a with hj|hj
  ·exact hj
  ·rw[aT (by simpa using hj)]at hv;cases hv
 rw[iH,h.M.1,hc j hj,<-hv];simp[av,hj]
theorem YI(l:List Int)(j:Nat)(hj:j<l.a):(sK l)[0+j]? = some (.b .a (l.c j 0)):=by
 simp[sK,av,hj]
theorem Ly.nil{w:au}:Ly w.a.j [] w w (.a none 0 0) []:=⟨Ow.nil w,fun p hp=>by cases hp⟩
def aaY{α:Type}(t e:bF)(f:α->Array aC)(sz:Nat):Prop:=∃(i:nS)(z:aC),aj.k t=some (.a e)/\aj.l e=some i/\i.zero=some z/\i.j=sz/\z.D.j=sz/\0<sz/\i.bytes<=1000/\(∀x,(f x).j=sz)/\∀x,(f x).all (·.h)=true
structure Rz{α:Type}(f:α->Array aC)(sz:Nat)(e:bF)(L:List (Nat×Array aC))(w0 W:au)(v:aC)(l:List α):Prop where
 vD:W.c w0.a.j e sz v l.a (l.h fun x=>(f x).a)
 R:aM w0.a.j w0 W
 I:∀p∈L,dN W p.1 p.2/\v.f≠some p.1
section
variable {α:Type} {f:α->Array aC} {sz:Nat} {e t:bF} {L:List (Nat×Array aC)} {w0 W W':au} {v v':aC} {l ys:List α}
theorem Rz.nil(w:au):Rz f sz e [] w w (.a none 0 0) []:=⟨fB _ _ _ _,aH _ _,fun p hp=>by cases hp⟩
theorem Rz.go(h:Rz f sz e L w0 W v l)(hb:aM W.a.j W W'):Rz f sz e L w0 W' v l:=⟨fQ h.vD hb,iZ h.R hb,fun p hp=>⟨(h.I p hp).1.go hb,(h.I p hp).2⟩⟩
theorem Rz.alloc(h:Rz f sz e L w0 W v l)(ob:Obj):Rz f sz e L w0 (W.alloc ob) v l:=h.go ((aH _ _).alloc (ay _) ob)
theorem Rz.drew(h:Rz f sz e L w0 W v l):Rz f sz e L w0 W.drew v l:=⟨h.vD,h.R.drew,fun p hp=>⟨(h.I p hp).1.drew,(h.I p hp).2⟩⟩
theorem Rz.lt(h:Rz f sz e L w0 W v l){k:Nat}(hk:v.f=some k):w0.a.j<=k/\k<W.a.j:=h.vD.lt k hk
theorem Rz.new(h:Rz f sz e L w0 W v l)(c:Array aC)(t:bF):Rz f sz e ((W.a.j,c)::L) w0 (W.alloc (.D c t)) v l:=
 ⟨(h.alloc _).vD,(h.alloc _).R,fun p hp=>by
   rcases bE.1 hp with rfl|hp
   ·exact⟨dN.new W c t,fun e=>absurd (h.lt e).2 (Nat.lt_irrefl _)⟩
   ·exact(h.alloc _).I p hp⟩
theorem Rz.Vu{p:Nat×Array aC}(h:Rz f sz e (p::L) w0 W v l):Rz f sz e L w0 W v l:=⟨h.vD,h.R,fun q hq=>h.I q (jX _ hq)⟩
theorem Rz.X{q:Nat}{c:Array aC}(h:Rz f sz e ((q,c)::L) w0 W v l):dN W q c:=(h.I (q,c) (by simp)).1
theorem Rz.b1{p:Nat×Array aC}{q:Nat}{c:Array aC}(h:Rz f sz e (p::(q,c)::L) w0 W v l):dN W q c:=h.Vu.X
theorem Rz.Cy(h:Rz f sz e L w0 W v l):∃A c,v=.a A l.a c:=by obtain⟨A,c,e,_⟩:=jw h.vD;exact⟨A,c,e⟩
theorem Rz.rd{A:Option aU}{n c:Nat}(h:Rz f sz e L w0 W (.a A n c) l):iF f sz W W.a.j A n l:=by
 obtain⟨A2,c2,e2⟩:=h.Cy;injection e2 with e3 e4 e5
 subst e3 e4 e5;exact iF.gV rfl h.vD
theorem Rz.len{A:Option aU}{n c:Nat}(h:Rz f sz e L w0 W (.a A n c) l):n=l.a:=h.rd.1.symm
theorem Rz.grown(h:Rz f sz e L w0 W v l)(hg:W.d W' v.f)(h1:W'.c w0.a.j e sz v' ys.a (ys.h fun x=>(f x).a))(h2:v'.f=v.f\/v'.f=some W.a.j):Rz f sz e L w0 W' v' ys:=by
 refine⟨h1,⟨hg.os.trans h.R.os,hg.tape.trans h.R.tape,hg.output.trans h.R.output,aP h.R.j hg.j,fun k hk=>(hg.block k (eZ hk h.R.j) (fun e=>by have:=(h.lt e.symm).1;omega)).trans (h.R.block k hk)⟩,fun p hp=>⟨(h.I p hp).1.grown hg (fun e=>(h.I p hp).2 e.symm),?_⟩⟩;rcases h2 with e|e
 ·rw[e];exact(h.I p hp).2
 ·rw[e];intro e3;injection e3 with e3;have:=(h.I p hp).1.lt;omega
theorem ar'(T:aaY t e f sz){o:je}{a:qY}{K:qY->au->Prop}{Q:zW->qY->au->Prop}(s x:pR)
 (ho:o.op=.call {callee:=.builtin .append,args:=#[s,x],argTypes:=#[t,t]}) (hs:a.eval s=v) (H:Rz f sz e L w0 W v l) {C:Nat} {A:Option aU} {m c:Nat} (hx:a.eval x=.a A m c) (hr:iF f sz W C A m ys)
 (hlen:l.a+m<=1000000)
 (h:∀A' n' c' w',Rz f sz e L w0 w' (.a A' n' c') (l++ys)->W.d w' v.f->K (a.put o.Y (.a A' n' c')) w'):o.wp aj a W K Q:=by
 obtain⟨i,z,ht,hi,hz,h1,h2,h3,h4,h5,h6⟩:=T;have hm:=hr.1;refine JU W s x t ho w0.a.j e i z sz i.bytes ht hi hz h1 rfl h2 h3 v l.a _ hs H.vD C A m c _ hx hr.2.1 (Bu f h6 ys) (by unfold maxLen;omega) (aP (Nat.mul_le_mul hlen h4) (by omega)) H.R.j ?_;intro v1 w1 k1 k2 k3;rw[ab9,<-hm,<-aS]at k1;have hk:=H.grown k2 k1 k3;obtain⟨A',c',rfl⟩:=hk.Cy;exact h A' _ c' w1 hk k2
theorem PL(T:aaY t e f sz){ops:Array je}{rest:List je}{o:je}{a:qY}{Q:zW->qY->au->Prop}(hgd:o.guard=none)(s x:pR)
 (ho:o.op=.call {callee:=.builtin .append,args:=#[s,x],argTypes:=#[t,t]}) (hs:a.eval s=v) (H:Rz f sz e L w0 W v l) {C:Nat} {A:Option aU} {m c:Nat} (hx:a.eval x=.a A m c) (hr:iF f sz W C A m ys)
 (hlen:l.a+m<=1000000)
 (h:∀A' n' c' w',Rz f sz e L w0 w' (.a A' n' c') (l++ys)->W.d w' v.f->wpList aj ops Q rest (a.put o.Y (.a A' n' c')) w'):wpList aj ops Q (o::rest) a W:=
 sU hgd fun _ hK=>ar' T s x ho hs H hx hr hlen fun A' n' c' w' h2 h3=>hK _ _ (h A' n' c' w' h2 h3)
theorem apO(T:aaY t e f sz){ops:Array je}{o:je}{a:qY}{K:qY->au->Prop}{Q:zW->qY->au->Prop}{E:Prop}(hgd:o.guard=none)(s x:pR)
 (ho:o.op=.call {callee:=.builtin .append,args:=#[s,x],argTypes:=#[t,t]}) (hs:a.eval s=v) (H:Rz f sz e L w0 W v l) {C:Nat} {A:Option aU} {m c:Nat} (hx:a.eval x=.a A m c) (hr:iF f sz W C A m ys)
 (hlen:l.a+m<=1000000)
 (h:∀A' n' c' w',Rz f sz e L w0 w' (.a A' n' c') (l++ys)->W.d w' v.f->K (a.put o.Y (.a A' n' c')) w'):if fF o (yielded ops a.tmps)=true then nI aj o a W K Q else E:=by
 have hw:fF o (yielded ops a.tmps)=true:=by simp[fF,hgd]
 rw[if_pos hw];exact ar' T s x ho hs H hx hr hlen h
end
theorem ai'(l:List Bk)(hs:Ga l)(s:List UInt8)(v:Int)(A:Option aU)(n c:Nat)(w:au)(hR:iF Bk.aA 27 w w.a.j A n l)(hn:n<=100000)(K:Bool)(g:Bk)(h1:sP l s=K)(h2:qd l s=g):
 aQ aj 33 #[.d #[.b .a v,.a A n c],.string (bP s)] w (gy w (.K #[.d g.aA,.e K])):=by
 obtain rfl:=hR.1;subst h1 h2;exact Bv l hs s v A c w hR (by omega)
theorem Ly.rd{B:Nat}{L:List (Nat×Array aC)}{w0 W:au}{A:Option aU}{n c:Nat}{bs:List UInt8}(h:Ly B L w0 W (.a A n c) bs):fZ W W.a.j A n bs:=by
 obtain⟨A2,c2,e2⟩:=h.o.Cy;injection e2 with e3 e4 e5
 subst e3 e4 e5;exact fZ.gV h.o.vD
theorem ND(d:Nat)(l m:List Int)(W:au):∀is:List Nat,(∀i∈is,i<l.a/\i<m.a)->(Kt (d+1) 3 1 (sK l) (sK m) is).J aj W=.ok (is.all fun i=>l.c i 0==m.c i 0) W
 | [],_=>by simp[Kt]
 | i::is,h=>by
   have hi:=h i (by simp);have ih:=ND d l m W is (fun j hj=>h j (by simp[hj]));have p1:∀l:List Int,i<l.a->(part 3 (sK l) (i*1)).J aj W=.ok (.b .a (l.c i 0)) W:=fun l hl=>
    pK (by simp only[gY]) (by rw[gL];have:=YI l i hl;rwa [bl]at this) W
   simp only[Kt,Sem.run_bind,p1 l hi.1,p1 m hi.2,gT,FU,List.all_cons];cases hb:(l.c i 0==m.c i 0)
   ·simp
   ·simpa using ih
theorem YJ(v:Vector Int 11):yL v=sK v.a:=rfl
theorem apP(a b:Vector Int 11):((dS 11).all fun i=>a.a.c i 0==b.a.c i 0)=decide (a=b):=by
 rw[cB];simp only[fV,eG,beq_iff_eq,decide_eq_true_eq];constructor
 ·intro h
  apply Vector.ext;intro i hi;have:=h i hi;simpa[av,hi]using this
 ·rintro rfl i _
  rfl
theorem afR(a b:Vector Int 11)(d:Nat)(W:au):(jk (d+2) 35 (.d (yL a)) (.d (yL b))).J aj W=.ok (decide (a=b)) W:=by
 obtain⟨i0,hi0,_,_⟩:=Tm;rw[run_equalIn_array W (d+1) _ _ Fy hi0,show aj.cellsOf 3=1 by kernel_rfl,YJ,YJ,ND d _ _ W _ (fun i hi=>by simp at hi⊢;exact hi),apP]
@[go_sem ↓]theorem aDg(a b:Vector Int 11)(W:au):(jk 10000 35 (.d (yL a)) (.d (yL b))).J aj W=.ok (decide (a=b)) W:=afR a b 9998 W
theorem aja:aj.k 81=some (.d (aj.fieldsOf 81)):=by
 simp only[jS,jY]
theorem apQ:∃f1 f2 f3 f4 f5:oh,(aj.fieldsOf 81).a=[f1,f2,f3,f4,f5]/\(f1.E ≠ "_" /\ f2.E ≠ "_" /\ f3.E ≠ "_" /\ f4.E ≠ "_" /\ f5.E ≠ "_")/\(f1.p=27/\f1.Z=0)/\(f2.p=27/\f2.Z=17)/\(f3.p=3/\f3.Z=34)/\(f4.p=3/\f4.Z=35)/\(f5.p=3/\f5.Z=36):=by
 refine⟨_,_,_,_,_,by simp only[jS,jY];rfl,⟨?_,?_,?_,?_,?_⟩,⟨rfl,rfl⟩,⟨rfl,rfl⟩,⟨rfl,rfl⟩,⟨rfl,rfl⟩,⟨rfl,rfl⟩⟩<;>decide
theorem YK(x y:Tu)(d:Nat)(W:au):(jk (d+4) 81 (.d x.aA) (.d y.aA)).J aj W=.ok (decide (x=y)) W:=by
 rw[zB W (d+3) _ _ _ aja Tryz.stoodInHeld81];obtain⟨f1,f2,f3,f4,f5,hl,⟨n1,n2,n3,n4,n5⟩,⟨t1,o1⟩,⟨t2,o2⟩,⟨t3,o3⟩,⟨t4,o4⟩,⟨t5,o5⟩⟩:=apQ;rw[hl];have p1:∀z:Tu,(part f1.p z.aA f1.Z).J aj W=.ok (.d z.h.aA) W:=fun z=>by
  rw[t1,o1,Et (n:=17) (by simp only[fC]) (by kernel_rfl) z.aA 0 W,Tu.ai8]
 have p2:∀z:Tu,(part f2.p z.aA f2.Z).J aj W=.ok (.d z.Y.aA) W:=fun z=>by
  rw[t2,o2,Et (n:=17) (by simp only[fC]) (by kernel_rfl) z.aA 17 W,show 17+17=34 from rfl,Tu.ai9]
 have p3:∀z:Tu,(part f3.p z.aA f3.Z).J aj W=.ok (.b .a z.aR) W:=fun z=>by
  rw[t3,o3];exact pK (by simp only[gY]) (Tu.Vl z) W
 have p4:∀z:Tu,(part f4.p z.aA f4.Z).J aj W=.ok (.b .a z.kT) W:=fun z=>by
  rw[t4,o4];exact pK (by simp only[gY]) (Tu.afF z) W
 have p5:∀z:Tu,(part f5.p z.aA f5.Z).J aj W=.ok (.b .a z.j4) W:=fun z=>by
  rw[t5,o5];exact pK (by simp only[gY]) (Tu.aaP z) W
 rw[show decide (x=y)=(decide (x.h=y.h)&&(decide (x.Y=y.Y)&&((x.aR==y.aR)&&((x.kT==y.kT)&&((x.j4==y.j4)&&true)))))by
  rw[cB];cases x;cases y;simp]
 exact iU _ _ _ _ _ n1 W _ _ _ _ (p1 x) (p1 y) (by rw[t1];exact Gc _ _ d W)
  (iU _ _ _ _ _ n2 W _ _ _ _ (p2 x) (p2 y) (by rw[t2];exact Gc _ _ d W)
  (iU _ _ _ _ _ n3 W _ _ _ _ (p3 x) (p3 y) (by rw[t3];exact FU _ _ _ W)
  (iU _ _ _ _ _ n4 W _ _ _ _ (p4 x) (p4 y) (by rw[t4];exact FU _ _ _ W)
  (iU _ _ _ _ _ n5 W _ _ _ _ (p5 x) (p5 y) (by rw[t5];exact FU _ _ _ W) (by simp[wu])))))
@[go_sem ↓]theorem aGH(x y:Tu)(W:au):(jk 10000 81 (.d x.aA) (.d y.aA)).J aj W=.ok (decide (x=y)) W:=YK x y 9996 W
theorem ajb:aj.k 86=some (.d (aj.fieldsOf 86)):=by
 simp only[jS,nC]
theorem apR:∃f1 f2 f3 f4 f5:oh,(aj.fieldsOf 86).a=[f1,f2,f3,f4,f5]/\(f1.E ≠ "_" /\ f2.E ≠ "_" /\ f3.E ≠ "_" /\ f4.E ≠ "_" /\ f5.E ≠ "_")/\(f1.p=81/\f1.Z=0)/\(f2.p=9/\f2.Z=37)/\(f3.p=3/\f3.Z=38)/\(f4.p=3/\f4.Z=39)/\(f5.p=3/\f5.Z=40):=by
 refine⟨_,_,_,_,_,by simp only[jS,nC];rfl,⟨?_,?_,?_,?_,?_⟩,⟨rfl,rfl⟩,⟨rfl,rfl⟩,⟨rfl,rfl⟩,⟨rfl,rfl⟩,⟨rfl,rfl⟩⟩<;>decide
theorem ajc(x y:Fw)(d:Nat)(W:au):(jk (d+5) 86 (.d x.aA) (.d y.aA)).J aj W=.ok (decide (x=y)) W:=by
 rw[zB W (d+4) _ _ _ ajb Tryz.stoodInHeld86];obtain⟨f1,f2,f3,f4,f5,hl,⟨n1,n2,n3,n4,n5⟩,⟨t1,o1⟩,⟨t2,o2⟩,⟨t3,o3⟩,⟨t4,o4⟩,⟨t5,o5⟩⟩:=apR;rw[hl];have p1:∀z:Fw,(part f1.p z.aA f1.Z).J aj W=.ok (.d z.key.aA) W:=fun z=>by
  rw[t1,o1,Et (n:=37) (by simp only[jY]) (by kernel_rfl) z.aA 0 W,bl,Fw.QF]
 have p2:∀z:Fw,(part f2.p z.aA f2.Z).J aj W=.ok (.string (bP z.E)) W:=fun z=>by
  rw[t2,o2];exact pK (by simp only[Tryz.underlying9]) (Fw.afG z) W
 have p3:∀z:Fw,(part f3.p z.aA f3.Z).J aj W=.ok (.b .a z.xG) W:=fun z=>by
  rw[t3,o3];exact pK (by simp only[gY]) (Fw.afH z) W
 have p4:∀z:Fw,(part f4.p z.aA f4.Z).J aj W=.ok (.b .a z.seen) W:=fun z=>by
  rw[t4,o4];exact pK (by simp only[gY]) (Fw.afI z) W
 have p5:∀z:Fw,(part f5.p z.aA f5.Z).J aj W=.ok (.b .a z.no) W:=fun z=>by
  rw[t5,o5];exact pK (by simp only[gY]) (Fw.aaR z) W
 rw[show decide (x=y)=(decide (x.key=y.key)&&((x.E==y.E)&&((x.xG==y.xG)&&((x.seen==y.seen)&&((x.no==y.no)&&true)))))by
  rw[cB];cases x;cases y;simp]
 exact iU _ _ _ _ _ n1 W _ _ _ _ (p1 x) (p1 y) (by rw[t1];exact YK _ _ d W)
  (iU _ _ _ _ _ n2 W _ _ _ _ (p2 x) (p2 y) (by rw[t2];exact OV _ _ _ W)
  (iU _ _ _ _ _ n3 W _ _ _ _ (p3 x) (p3 y) (by rw[t3];exact FU _ _ _ W)
  (iU _ _ _ _ _ n4 W _ _ _ _ (p4 x) (p4 y) (by rw[t4];exact FU _ _ _ W)
  (iU _ _ _ _ _ n5 W _ _ _ _ (p5 x) (p5 y) (by rw[t5];exact FU _ _ _ W) (by simp[wu])))))
@[go_sem ↓]theorem aGI(x y:Fw)(W:au):(jk 10000 86 (.d x.aA) (.d y.aA)).J aj W=.ok (decide (x=y)) W:=ajc x y 9995 W
theorem ajd(l m:List Fw)(A B:Option aU)(n k c d:Nat)(w:au)(hR:iF Fw.aA 41 w w.a.j A n l)(hT:iF Fw.aA 41 w w.a.j B k m)(hn:n<=4611686018427387904)(hk:k<=4611686018427387904):
 aQ aj 58 #[.a A n c,.a B k d] w (gy w (.e (decide (l=m)))):=by
 have HR:=ah hR;have HT:=ah hT;have HN:=ah hR.1;have HK:=ah hT.1;clear hR hT;by_cases hlm:n=k;rotate_left
 ·have hne:((n:Int) != (k:Int))=true:=by rw[bne_iff_ne];omega
  have HF:=ah (show decide (l=m)=false from decide_eq_false (fun e=>hlm (by rw[<-HN.i,<-HK.i,e])));clear hlm;go_enter Tryz.func58,Tryz.ntmps58;go_wp2;go_ret;exact⟨by rw[HF.i];rfl,aH _ _⟩
 subst hlm;have hbn:((n:Int) != (n:Int))=false:=by simp
 go_enter Tryz.func58,Tryz.ntmps58;go_wp2;go_loopw [5] (fun s5 wr=>∃i:Nat,i<=n/\s5=.b .a i/\l.d i=m.d i/\aM w.a.j w wr) (fun s5 _=>n-(intOf s5).e)
 case atStart=>exact⟨0,by omega,rfl,rfl,aH _ _⟩
 case round=>
  obtain⟨i,hin,rfl,hall,hb⟩:=hrel;have HA:=ah hall;have HB:=ah hb;clear hall hb;by_cases hlt:i<n
  ·have hi:(i:Int)<n:=by omega
   obtain⟨b,o,rfl,hbb,hh,hc⟩:=iF.fw (HR.i.S HB.i) hlt;obtain⟨b2,o2,rfl,MZ,hh2,hc2⟩:=iF.fw (HT.i.S HB.i) hlt;obtain⟨x,hx⟩:=dw (l.c i ko);obtain⟨y,hy⟩:=dw (m.c i ko);rw[<-hx]at hc;rw[<-hy]at hc2;have HX:=ah hx;have HY:=ah hy;clear hx hy hbb MZ;by_cases hq:x=y
   ·have he:decide (x=y)=true:=by simpa using hq
    have HS:=ah (show l.d (i+1)=m.d (i+1)by
     rw[<-lW ko l i (by rw[HN.i];exact hlt),<-lW ko m i (by rw[HK.i];exact hlt),HA.i,<-HX.i,<-HY.i,hq])
    clear hq;go_wp2;go_quiet (fail);go_wp2;go_roundw
    case rel=>exact⟨i+1,by omega,by go_num,HS.i,fJ HB.i _⟩
    case measure=>simp[intOf]<;>omega
   ·have he:decide (x=y)=false:=by simpa using hq
    have HF:=ah (show decide (l=m)=false from decide_eq_false (fun e=>hq (by rw[HX.i,HY.i,e])));clear hq;go_wp2;go_quiet (fail);go_wp2;go_ret;exact⟨by rw[HF.i];rfl,fJ HB.i _⟩
  ·obtain rfl:i=n:=by omega
   have hd:decide ((i:Int)<i)=false:=by simp
   have HT2:=ah (show decide (l=m)=true from decide_eq_true (by
    have:=HA.i
    rwa [aL (by rw[HN.i];omega),aL (by rw[HK.i];omega)]at this))
   go_wp2;go_ret;exact⟨by rw[HT2.i];rfl,HB.i⟩
theorem aje(l m:List Bk)(hf:∀x∈l,x.qg)(hg:∀x∈m,x.qg)(v v':Int)(A B:Option aU)(n n' c d:Nat)(w:au)(hR:iF Bk.aA 27 w w.a.j A n l)(hT:iF Bk.aA 27 w w.a.j B n' m)(hn:n<=4611686018427387903)(hm:n'<=4611686018427387903)(K:Bool)(hK:Bw v l v' m=K):
 aQ aj 56 #[.d #[.b .a v,.a A n c],.d #[.b .a v',.a B n' d]] w (gy w (.e K)):=by
 subst hK;obtain rfl:=hR.1;obtain rfl:=hT.1;exact Ri l m hf hg v v' A B c d w hR hT (by omega) (by omega)
def aaZ(s t:qB):Bool:=Bw s.Y s.rX t.Y t.rX&&decide (s.h=t.h)&&decide (s.I=t.I)&&(s.gq==t.gq)&&(s.no==t.no)&&decide (s.lI=t.lI)
theorem Xy(x y:Sh)(s t:qB)(w:au)(h:StR w w.a.j x s)(k:StR w w.a.j y t)(J:Bool)(hJ:aaZ s t=J):
 aQ aj 18 #[.d x.aA,.d y.aA] w (gy w (.e J)):=by
 obtain⟨v1,⟨bA,bn,bc⟩,⟨gA,gn,gc⟩,⟨fA,fn,fc⟩,tk,nn,ct⟩:=x;obtain⟨v2,⟨bA2,bn2,bc2⟩,⟨gA2,gn2,gc2⟩,⟨fA2,fn2,fc2⟩,tk2,nn2,ct2⟩:=y;obtain rfl:v1=s.Y:=h.Y;obtain rfl:tk=s.gq:=h.gq;obtain rfl:nn=s.no:=h.no;obtain rfl:ct=s.lI:=h.lI;obtain rfl:v2=t.Y:=k.Y;obtain rfl:tk2=t.gq:=k.gq;obtain rfl:nn2=t.no:=k.no;obtain rfl:ct2=t.lI:=k.lI;obtain⟨W1,hW1⟩:=dw ((w.alloc (.D (Sh.mk s.Y ⟨bA,bn,bc⟩ ⟨gA,gn,gc⟩ ⟨fA,fn,fc⟩ s.gq s.no s.lI).aA 37)).alloc (.D (Sh.mk t.Y ⟨bA2,bn2,bc2⟩ ⟨gA2,gn2,gc2⟩ ⟨fA2,fn2,fc2⟩ t.gq t.no t.lI).aA 37));have HB0:=ah (show aM w.a.j w W1 by rw[hW1];exact((aH w.a.j w).alloc (ay _) _).alloc (by simp) _);have B0:=ah (show dN W1 w.a.j (Sh.mk s.Y ⟨bA,bn,bc⟩ ⟨gA,gn,gc⟩ ⟨fA,fn,fc⟩ s.gq s.no s.lI).aA by rw[hW1];exact(dN.new w _ _).alloc _);have C0:=ah (show dN W1 (w.a.j+1) (Sh.mk t.Y ⟨bA2,bn2,bc2⟩ ⟨gA2,gn2,gc2⟩ ⟨fA2,fn2,fc2⟩ t.gq t.no t.lI).aA by rw[hW1];exact dN.Rb w _ _ _);have HS:=ah h;have HT:=ah k;obtain⟨x1,x2,x3,x4⟩:=B0.i.M;have hl0:=B0.i.lt;obtain⟨y1,y2,y3,y4⟩:=C0.i.M;have hl1:=C0.i.lt;obtain⟨K1,hK1⟩:∃K,Bw s.Y s.rX t.Y t.rX=K:=⟨_,rfl⟩
 obtain⟨K2,hK2⟩:∃K,decide (s.h=t.h)=K:=⟨_,rfl⟩
 obtain⟨K3,hK3⟩:∃K,decide (s.I=t.I)=K:=⟨_,rfl⟩
 have HJ:=ah (show J=(K1&&K2&&K3&&(s.gq==t.gq)&&(s.no==t.no)&&decide (s.lI=t.lI))by rw[<-hJ,<-hK1,<-hK2,<-hK3];rfl);have P1:=ah (aje s.rX t.rX h.qg k.qg s.Y t.Y bA bA2 bn bn2 bc bc2 W1 ((h.go HB0.i).b) ((k.go HB0.i).b) h.nb k.nb K1 hK1);have P2:=ah (fun W (hb:aM w.a.j w W)=>aiJ s.h t.h gA gA2 gn gn2 gc gc2 W (HS.i.h.go hb) (HT.i.h.go hb) (kP HS.i.nh) (kP HT.i.nh));have P3:=ah (fun W (hb:aM w.a.j w W)=>ajd s.I t.I fA fA2 fn fn2 fc fc2 W (HS.i.f.go hb) (HT.i.f.go hb) (kP HS.i.nf) (kP HT.i.nf));rw[hK2]at P2;rw[hK3]at P3;clear h k hK1 hK2 hK3 hJ;subst hW1;go_enter Tryz.func18,Tryz.ntmps18;go_wp2_with fail
 (with_reducible refine P1.i.g ?_)
 rintro e w1 ⟨rfl,hb1⟩;have HB1:=ah (iZ HB0.i hb1);have B1:=ah (B0.i.go hb1);have C1:=ah (C0.i.go hb1);clear hb1 x1 x2 x3 x4 hl0 y1 y2 y3 y4 hl1;obtain⟨x1,x2,x3,x4⟩:=B1.i.M;have hl0:=B1.i.lt;obtain⟨y1,y2,y3,y4⟩:=C1.i.M;have hl1:=C1.i.lt;cases K1
 ·go_wp2
  go_ret;exact⟨by rw[HJ.i];rfl,HB1.i⟩
 go_wp2_with fail
 (with_reducible refine(P2.i _ HB1.i).g ?_)
 rintro e w2 ⟨rfl,hb2⟩;have HB2:=ah (iZ HB1.i hb2);have B2:=ah (B1.i.go hb2);have C2:=ah (C1.i.go hb2);clear hb2 x1 x2 x3 x4 hl0 y1 y2 y3 y4 hl1;obtain⟨x1,x2,x3,x4⟩:=B2.i.M;have hl0:=B2.i.lt;obtain⟨y1,y2,y3,y4⟩:=C2.i.M;have hl1:=C2.i.lt;cases K2
 ·go_wp2
  go_ret;exact⟨by rw[HJ.i];rfl,HB2.i⟩
 go_wp2_with fail
 (with_reducible refine(P3.i _ HB2.i).g ?_)
 rintro e w3 ⟨rfl,hb3⟩;have HB3:=ah (iZ HB2.i hb3);have B3:=ah (B2.i.go hb3);have C3:=ah (C2.i.go hb3);clear hb3 x1 x2 x3 x4 hl0 y1 y2 y3 y4 hl1;obtain⟨x1,x2,x3,x4⟩:=B3.i.M;have hl0:=B3.i.lt;obtain⟨y1,y2,y3,y4⟩:=C3.i.M;have hl1:=C3.i.lt;cases K3
 ·go_wp2
  go_ret;exact⟨by rw[HJ.i];rfl,HB3.i⟩
 obtain⟨K4,hK4⟩:∃K,(s.gq==t.gq)=K:=⟨_,rfl⟩
 have HK4:=ah hK4;cases K4
 ·go_wp2
  go_ret;exact⟨by rw[HJ.i,HK4.i];rfl,HB3.i⟩
 obtain⟨K5,hK5⟩:∃K,(s.no==t.no)=K:=⟨_,rfl⟩
 have HK5:=ah hK5;cases K5
 ·go_wp2
  go_ret;exact⟨by rw[HJ.i,HK4.i,HK5.i];rfl,HB3.i⟩
 go_wp2;go_ret;exact⟨by rw[HJ.i,HK4.i,HK5.i];rfl,HB3.i⟩
theorem apS(l m:List Hl)(A B:Option aU)(n k c d:Nat)(w:au)(hR:RdH w w.a.j A n l)(hT:RdH w w.a.j B k m)(hn:n<=4611686018427387904)(hk:k<=4611686018427387904):
 aQ aj 54 #[.a A n c,.a B k d] w (gy w (.e (decide (l=m)))):=by
 have HR:=ah hR;have HT:=ah hT;have HN:=ah hR.1;have HK:=ah hT.1;clear hR hT;by_cases hlm:n=k;rotate_left
 ·have hne:((n:Int) != (k:Int))=true:=by rw[bne_iff_ne];omega
  have HF:=ah (show decide (l=m)=false from decide_eq_false (fun e=>hlm (by rw[<-HN.i,<-HK.i,e])));clear hlm;go_enter Tryz.func54,Tryz.ntmps54;go_wp2;go_ret;exact⟨by rw[HF.i];rfl,aH _ _⟩
 subst hlm;have hbn:((n:Int) != (n:Int))=false:=by simp
 go_enter Tryz.func54,Tryz.ntmps54;go_wp2;go_loopw [13] (fun s5 wr=>∃i:Nat,i<=n/\s5=.b .a i/\l.d i=m.d i/\aM w.a.j w wr) (fun s5 _=>n-(intOf s5).e)
 case atStart=>exact⟨0,by omega,rfl,rfl,aH _ _⟩
 case round=>
  obtain⟨i,hin,rfl,hall,hb⟩:=hrel;have HA:=ah hall;have HB:=ah hb;clear hall hb;by_cases hlt:i<n
  ·have hi:(i:Int)<n:=by omega
   obtain⟨b,o,rfl,hbb,hh,hc,_,_⟩:=(HR.i.S HB.i).hl hlt;obtain⟨b2,o2,rfl,MZ,hh2,hc2,_,_⟩:=(HT.i.S HB.i).hl hlt;obtain⟨x,hx⟩:=dw (l.c i kQ);obtain⟨y,hy⟩:=dw (m.c i kQ);rw[<-hx]at hc;rw[<-hy]at hc2;have HX:=ah hx;have HY:=ah hy;clear hx hy hbb MZ;by_cases hq:x=y
   ·have he:ab' x y=true:=by rw[SC];simpa using hq
    have HS:=ah (show l.d (i+1)=m.d (i+1)by
     rw[<-lW kQ l i (by rw[HN.i];exact hlt),<-lW kQ m i (by rw[HK.i];exact hlt),HA.i,<-HX.i,<-HY.i,hq])
    clear hq;go_wp2;go_quiet (fail);go_wp2;go_roundw
    case rel=>exact⟨i+1,by omega,by go_num,HS.i,fJ HB.i _⟩
    case measure=>simp[intOf]<;>omega
   ·have he:ab' x y=false:=by rw[SC];simpa using hq
    have HF:=ah (show decide (l=m)=false from decide_eq_false (fun e=>hq (by rw[HX.i,HY.i,e])));clear hq;go_wp2;go_quiet (fail);go_wp2;go_ret;exact⟨by rw[HF.i];rfl,fJ HB.i _⟩
  ·obtain rfl:i=n:=by omega
   have hd:decide ((i:Int)<i)=false:=by simp
   have HT2:=ah (show decide (l=m)=true from decide_eq_true (by
    have:=HA.i
    rwa [aL (by rw[HN.i];omega),aL (by rw[HK.i];omega)]at this))
   go_wp2;go_ret;exact⟨by rw[HT2.i];rfl,HB.i⟩
theorem apT(l m:List Fw)(A B:Option aU)(n k c d:Nat)(w:au)(hR:iF Fw.aA 41 w w.a.j A n l)(hT:iF Fw.aA 41 w w.a.j B k m)(hn:n<=4611686018427387904)(hk:k<=4611686018427387904):
 aQ aj 55 #[.a A n c,.a B k d] w (gy w (.e (decide (l=m)))):=by
 have HR:=ah hR;have HT:=ah hT;have HN:=ah hR.1;have HK:=ah hT.1;clear hR hT;by_cases hlm:n=k;rotate_left
 ·have hne:((n:Int) != (k:Int))=true:=by rw[bne_iff_ne];omega
  have HF:=ah (show decide (l=m)=false from decide_eq_false (fun e=>hlm (by rw[<-HN.i,<-HK.i,e])));clear hlm;go_enter Tryz.func55,Tryz.ntmps55;go_wp2;go_ret;exact⟨by rw[HF.i];rfl,aH _ _⟩
 subst hlm;have hbn:((n:Int) != (n:Int))=false:=by simp
 go_enter Tryz.func55,Tryz.ntmps55;go_wp2;go_loopw [13] (fun s5 wr=>∃i:Nat,i<=n/\s5=.b .a i/\l.d i=m.d i/\aM w.a.j w wr) (fun s5 _=>n-(intOf s5).e)
 case atStart=>exact⟨0,by omega,rfl,rfl,aH _ _⟩
 case round=>
  obtain⟨i,hin,rfl,hall,hb⟩:=hrel;have HA:=ah hall;have HB:=ah hb;clear hall hb;by_cases hlt:i<n
  ·have hi:(i:Int)<n:=by omega
   obtain⟨b,o,rfl,hbb,hh,hc⟩:=iF.fw (HR.i.S HB.i) hlt;obtain⟨b2,o2,rfl,MZ,hh2,hc2⟩:=iF.fw (HT.i.S HB.i) hlt;obtain⟨x,hx⟩:=dw (l.c i ko);obtain⟨y,hy⟩:=dw (m.c i ko);rw[<-hx]at hc;rw[<-hy]at hc2;have HX:=ah hx;have HY:=ah hy;clear hx hy hbb MZ;by_cases hq:x=y
   ·have he:decide (x=y)=true:=by simpa using hq
    have HS:=ah (show l.d (i+1)=m.d (i+1)by
     rw[<-lW ko l i (by rw[HN.i];exact hlt),<-lW ko m i (by rw[HK.i];exact hlt),HA.i,<-HX.i,<-HY.i,hq])
    clear hq;go_wp2;go_quiet (fail);go_wp2;go_roundw
    case rel=>exact⟨i+1,by omega,by go_num,HS.i,fJ HB.i _⟩
    case measure=>simp[intOf]<;>omega
   ·have he:decide (x=y)=false:=by simpa using hq
    have HF:=ah (show decide (l=m)=false from decide_eq_false (fun e=>hq (by rw[HX.i,HY.i,e])));clear hq;go_wp2;go_quiet (fail);go_wp2;go_ret;exact⟨by rw[HF.i];rfl,fJ HB.i _⟩
  ·obtain rfl:i=n:=by omega
   have hd:decide ((i:Int)<i)=false:=by simp
   have HT2:=ah (show decide (l=m)=true from decide_eq_true (by
    have:=HA.i
    rwa [aL (by rw[HN.i];omega),aL (by rw[HK.i];omega)]at this))
   go_wp2;go_ret;exact⟨by rw[HT2.i];rfl,HB.i⟩
theorem ajf(l m:List Bk)(hf:∀x∈l,x.qg)(hg:∀x∈m,x.qg)(v v':Int)(A B:Option aU)(n n' c d:Nat)(w:au)(hR:iF Bk.aA 27 w w.a.j A n l)(hT:iF Bk.aA 27 w w.a.j B n' m)(hn:n<=4611686018427387903)(hm:n'<=4611686018427387903)(K:Bool)(hK:Bw v l v' m=K):
 aQ aj 53 #[.d #[.b .a v,.a A n c],.d #[.b .a v',.a B n' d]] w (gy w (.e K)):=by
 rw[<-aiM v v' hf hg]at hK;subst hK;obtain rfl:=hR.1;obtain rfl:=hT.1;exact aal l m v v' A B c d w hR hT (by omega) (by omega)
theorem QG(s:qB):aaZ s s=true:=by unfold aaZ;simp[ae9]
theorem afS(x y:Sh)(s t:qB)(w:au)(h:StR w w.a.j x s)(k:StR w w.a.j y t)(J:Bool)(hJ:aaZ s t=J):
 aQ aj 17 #[.d x.aA,.d y.aA] w (gy w (.e J)):=by
 obtain⟨v1,⟨bA,bn,bc⟩,⟨gA,gn,gc⟩,⟨fA,fn,fc⟩,tk,nn,ct⟩:=x;obtain⟨v2,⟨bA2,bn2,bc2⟩,⟨gA2,gn2,gc2⟩,⟨fA2,fn2,fc2⟩,tk2,nn2,ct2⟩:=y;obtain rfl:v1=s.Y:=h.Y;obtain rfl:tk=s.gq:=h.gq;obtain rfl:nn=s.no:=h.no;obtain rfl:ct=s.lI:=h.lI;obtain rfl:v2=t.Y:=k.Y;obtain rfl:tk2=t.gq:=k.gq;obtain rfl:nn2=t.no:=k.no;obtain rfl:ct2=t.lI:=k.lI;obtain⟨W1,hW1⟩:=dw ((w.alloc (.D (Sh.mk s.Y ⟨bA,bn,bc⟩ ⟨gA,gn,gc⟩ ⟨fA,fn,fc⟩ s.gq s.no s.lI).aA 37)).alloc (.D (Sh.mk t.Y ⟨bA2,bn2,bc2⟩ ⟨gA2,gn2,gc2⟩ ⟨fA2,fn2,fc2⟩ t.gq t.no t.lI).aA 37));have HB0:=ah (show aM w.a.j w W1 by rw[hW1];exact((aH w.a.j w).alloc (ay _) _).alloc (by simp) _);have B0:=ah (show dN W1 w.a.j (Sh.mk s.Y ⟨bA,bn,bc⟩ ⟨gA,gn,gc⟩ ⟨fA,fn,fc⟩ s.gq s.no s.lI).aA by rw[hW1];exact(dN.new w _ _).alloc _);have C0:=ah (show dN W1 (w.a.j+1) (Sh.mk t.Y ⟨bA2,bn2,bc2⟩ ⟨gA2,gn2,gc2⟩ ⟨fA2,fn2,fc2⟩ t.gq t.no t.lI).aA by rw[hW1];exact dN.Rb w _ _ _);have HS:=ah h;have HT:=ah k;obtain⟨x1,x2,x3,x4⟩:=B0.i.M;have hl0:=B0.i.lt;obtain⟨y1,y2,y3,y4⟩:=C0.i.M;have hl1:=C0.i.lt;obtain⟨K1,hK1⟩:∃K,Bw s.Y s.rX t.Y t.rX=K:=⟨_,rfl⟩
 obtain⟨K2,hK2⟩:∃K,decide (s.h=t.h)=K:=⟨_,rfl⟩
 obtain⟨K3,hK3⟩:∃K,decide (s.I=t.I)=K:=⟨_,rfl⟩
 have HJ:=ah (show J=(K1&&K2&&K3&&(s.gq==t.gq)&&(s.no==t.no)&&decide (s.lI=t.lI))by rw[<-hJ,<-hK1,<-hK2,<-hK3];rfl);have P1:=ah (ajf s.rX t.rX h.qg k.qg s.Y t.Y bA bA2 bn bn2 bc bc2 W1 ((h.go HB0.i).b) ((k.go HB0.i).b) h.nb k.nb K1 hK1);have P2:=ah (fun W (hb:aM w.a.j w W)=>apS s.h t.h gA gA2 gn gn2 gc gc2 W (HS.i.h.go hb) (HT.i.h.go hb) (kP HS.i.nh) (kP HT.i.nh));have P3:=ah (fun W (hb:aM w.a.j w W)=>apT s.I t.I fA fA2 fn fn2 fc fc2 W (HS.i.f.go hb) (HT.i.f.go hb) (kP HS.i.nf) (kP HT.i.nf));rw[hK2]at P2;rw[hK3]at P3;clear h k hK1 hK2 hK3 hJ;subst hW1;go_enter Tryz.func17,Tryz.ntmps17;go_wp2_with fail
 (with_reducible refine P1.i.g ?_)
 rintro e w1 ⟨rfl,hb1⟩;have HB1:=ah (iZ HB0.i hb1);have B1:=ah (B0.i.go hb1);have C1:=ah (C0.i.go hb1);clear hb1 x1 x2 x3 x4 hl0 y1 y2 y3 y4 hl1;obtain⟨x1,x2,x3,x4⟩:=B1.i.M;have hl0:=B1.i.lt;obtain⟨y1,y2,y3,y4⟩:=C1.i.M;have hl1:=C1.i.lt;cases K1
 ·go_wp2
  go_ret;exact⟨by rw[HJ.i];rfl,HB1.i⟩
 go_wp2_with fail
 (with_reducible refine(P2.i _ HB1.i).g ?_)
 rintro e w2 ⟨rfl,hb2⟩;have HB2:=ah (iZ HB1.i hb2);have B2:=ah (B1.i.go hb2);have C2:=ah (C1.i.go hb2);clear hb2 x1 x2 x3 x4 hl0 y1 y2 y3 y4 hl1;obtain⟨x1,x2,x3,x4⟩:=B2.i.M;have hl0:=B2.i.lt;obtain⟨y1,y2,y3,y4⟩:=C2.i.M;have hl1:=C2.i.lt;cases K2
 ·go_wp2
  go_ret;exact⟨by rw[HJ.i];rfl,HB2.i⟩
 go_wp2_with fail
 (with_reducible refine(P3.i _ HB2.i).g ?_)
 rintro e w3 ⟨rfl,hb3⟩;have HB3:=ah (iZ HB2.i hb3);have B3:=ah (B2.i.go hb3);have C3:=ah (C2.i.go hb3);clear hb3 x1 x2 x3 x4 hl0 y1 y2 y3 y4 hl1;obtain⟨x1,x2,x3,x4⟩:=B3.i.M;have hl0:=B3.i.lt;obtain⟨y1,y2,y3,y4⟩:=C3.i.M;have hl1:=C3.i.lt;cases K3
 ·go_wp2
  go_ret;exact⟨by rw[HJ.i];rfl,HB3.i⟩
 obtain⟨K4,hK4⟩:∃K,(s.gq==t.gq)=K:=⟨_,rfl⟩
 have HK4:=ah hK4;cases K4
 ·go_wp2
  go_ret;exact⟨by rw[HJ.i,HK4.i];rfl,HB3.i⟩
 obtain⟨K5,hK5⟩:∃K,(s.no==t.no)=K:=⟨_,rfl⟩
 have HK5:=ah hK5;cases K5
 ·go_wp2
  go_ret;exact⟨by rw[HJ.i,HK4.i,HK5.i];rfl,HB3.i⟩
 go_wp2;go_ret;exact⟨by rw[HJ.i,HK4.i,HK5.i];rfl,HB3.i⟩
section
theorem apU{a b:Tu}(ha:YH a)(hb:YH b)(h:MC a=MC b):a=b:=by
 have h1:=amq.fwd a [] ha;have h2:=amq.fwd b [] hb;rw[h,h2]at h1;injection h1 with h3 h4
 injection h3 with h5 h6
 exact h5.symm
theorem wL{f:Fw}(h:DX f=true):Gb f.key=true:=by
 unfold DX at h;simp only[bB]at h;exact h.1.1.1.1.1
def lQ(a b:Fw):Bool:=if a.no=b.no then bR (MC a.key) (MC b.key)else decide (a.no<b.no)
theorem tL:I7 lQ:=by
 refine⟨fun x=>by simp[lQ,sJ],fun x y z h1 h2=>?_⟩;unfold lQ at *;by_cases e1:x.no=y.no
 ·rw[if_pos e1]at h1
  by_cases e2:y.no=z.no
  ·rw[if_pos e2]at h2
   rw[if_pos (e1.trans e2)];exact yj _ _ _ h1 h2
  ·rw[if_neg e2]at h2
   rw[if_neg (by omega)];simp only[decide_eq_true_eq]at h2 ⊢;omega
 ·rw[if_neg e1]at h1
  simp only[decide_eq_true_eq]at h1;by_cases e2:y.no=z.no
  ·rw[if_neg (by omega)]
   simp only[decide_eq_true_eq];omega
  ·rw[if_neg e2]at h2
   simp only[decide_eq_true_eq]at h2;rw[if_neg (by omega)];simp only[decide_eq_true_eq];omega
theorem QH{a b:Fw}(ha:YH a.key)(hb:YH b.key)(hne:a.key≠b.key):lQ a b=true\/lQ b a=true:=by
 unfold lQ;by_cases e:a.no=b.no
 ·rw[if_pos e,if_pos e.symm]
  cases h1:bR (MC a.key) (MC b.key)
  ·cases h2:bR (MC b.key) (MC a.key)
   ·exact absurd (apU ha hb (zP _ _ h1 h2)) hne
   ·exact .b rfl
  ·exact .a rfl
 ·rw[if_neg e,if_neg (jy e)]
  simp only[decide_eq_true_eq];omega
def tV(k:Tu)(x:Fw):Bool:=decide (x.key=k)
def pW(l:List Fw)(k:Tu):Option Fw:=l.find? (tV k)
def yN(l:List Fw)(k:Tu):List Fw:=l.filter fun x=>!tV k x
def DZ(dX:Int)(l:List Fw)(f:Fw):List Fw:=
 if DX f then(if(pW l f.key).isSome then ins lQ f (yN l f.key)else if dX<=l.a then ins lQ f l.tail else ins lQ f l)else l
def LX(now:Int)(kD:Vector Int 6)(l:List Fw):List Fw:=l.filter fun x=>!DY x.xG x.seen now kD
structure wE(dX:Int)(l:List Fw):Prop where
 asc:Asc lQ l
 one:l.Pairwise fun x y=>x.key≠y.key
 ok:∀x∈l,DX x=true
 len:(l.a:Int)<=dX
theorem wE.sub{dX:Int}{l m:List Fw}(h:wE dX l)(hs:m.Sublist l):wE dX m:=
 ⟨h.asc.sub hs,h.one.sublist hs,fun x hx=>h.ok x (hs.subset hx),by have:=hs.length_le;have:=h.len;omega⟩
theorem wE.nil{dX:Int}(h:0<=dX):wE dX []:=⟨List.Pairwise.nil,.nil,(fun x hx=>by cases hx),by simpa using h⟩
theorem xJ{l:List Fw}{k:Tu}{x:Fw}(h:pW l k=some x):x∈l/\x.key=k:=by
 unfold pW at h;exact⟨List.mem_of_find?_eq_some h,by simpa[tV]using List.find?_some h⟩
theorem Bn{l:List Fw}{k:Tu}(h:pW l k=none):∀x∈l,x.key≠k:=by
 unfold pW at h;rw[List.find?_eq_none]at h;intro x hx e;exact h x hx (by simp[tV,e])
theorem wE.Vv{dX:Int}{l:List Fw}(h:wE dX l){x:Fw}(hx:x∈l):pW l x.key=some x:=by
 cases hf:pW l x.key with
 | none=>exact absurd rfl (Bn hf x hx)
 | some y=>
   obtain⟨h1,h2⟩:=xJ hf;obtain⟨i,hi,e1⟩:=mF.1 h1;obtain⟨j,hj,e2⟩:=mF.1 hx;have:=List.pairwise_iff_getElem.1 h.one;rcases Nat.lt_trichotomy i j with hij|hij|hij
   ·exact absurd (by rw[e1,e2,h2]) (this i j hi hj hij)
   ·subst hij;rw[<-e1,<-e2]
   ·exact absurd (by rw[e1,e2,h2]) (this j i hj hi hij)
theorem wE.ins{dX:Int}{l:List Fw}(h:wE dX l){f:Fw}(hf:DX f=true)(hn:∀x∈l,x.key≠f.key)(hl:(l.a:Int)+1<=dX):wE dX (ins lQ f l):=by
 have p:=BF (lt:=lQ) f l;refine⟨ahb tL h.asc (fun x hx=>QH (NC (wL hf)) (NC (wL (h.ok x hx))) (jy (hn x hx))),?_,?_,?_⟩
 ·refine(p.pairwise_iff (fun{a b} (hab:a.key≠b.key)=>jy hab)).2 (gU.2 ⟨fun x hx=>jy (hn x hx),h.one⟩)
 ·intro x hx
  rcases bE.1 (p.subset hx)with rfl|hx
  ·exact hf
  ·exact h.ok x hx
 ·rw[p.t,bD]
  simpa using hl
theorem aa0(l:List Fw)(k:Tu):(yN l k).Sublist l:=List.filter_sublist
theorem auf{l:List Fw}{k:Tu}:∀x∈yN l k,x.key≠k:=by
 intro x hx;have:=(mH.1 hx).2;simpa[tV]using this
theorem apV{l:List Fw}{k:Tu}(h:(pW l k).isSome=true):(yN l k).a+1<=l.a:=by
 obtain⟨x,hx⟩:=Option.isSome_iff_exists.1 h;obtain⟨h1,h2⟩:=xJ hx;have:=List.length_filter_lt_length_iff_exists (l:=l) (p:=fun x=>!tV k x);exact this.2 ⟨x,h1,by simp[tV,h2]⟩
theorem wE.put{dX:Int}{l:List Fw}(h:wE dX l)(h0:1<=dX)(f:Fw):wE dX (DZ dX l f):=by
 unfold DZ;split
 ·rename_i hf
  split
  ·rename_i hs
   have:=apV hs;have:=h.len;exact(h.sub (aa0 l f.key)).ins hf auf (by omega)
  ·rename_i hs
   have hno:∀x∈l,x.key≠f.key:=Bn (by simpa using hs);split
   ·refine(h.sub (List.tail_sublist l)).ins hf (fun x hx=>hno x (List.mem_of_mem_tail hx)) ?_
    have:=h.len;rw[List.length_tail];omega
   ·exact h.ins hf hno (by omega)
 ·exact h
theorem wE.ayj{dX:Int}{l:List Fw}(h:wE dX l)(now:Int)(kD:Vector Int 6):wE dX (LX now kD l):=h.sub List.filter_sublist
structure TbR(hm:Tu->Nat)(s:List (Option Fw))(l:List Fw):Prop where
 tab:Tab Fw.key hm s
 Pm:(iB s).Perm l
variable {hm:Tu->Nat} {s:List (Option Fw)} {l:List Fw}
theorem TbR.mem(h:TbR hm s l){x:Fw}:x∈l↔∃i,i<s.a/\fG s i=some x:=(h.Pm.mem_iff.symm).trans Pj
theorem TbR.stop{dX:Int}(h:TbR hm s l)(ho:wE dX l){k:Tu}{d:Nat}(hd:Found hm Fw.key s k d):fG s ((hm k+d)%s.a)=pW l k:=by
 have hN:0<s.a:=by have:=hd.1;omega
 cases hf:pW l k with
 | none=>
   have hno:=Bn hf;obtain⟨e,he,h1⟩:=h.tab.aha (k:=k) (fun j x hj hx=>hno x (h.mem.2 ⟨j,hj,hx⟩));rw[hd.Ih he];exact h1
 | some x=>
   obtain⟨h1,h2⟩:=xJ hf;obtain⟨j,hj,hx⟩:=h.mem.1 h1;obtain⟨e,he,h3⟩:=h.tab.aat hj hx h2;rw[hd.Ih he,h3];exact hx
theorem TbR.new{N:Nat}(hN:0<N)(h:∀k,hm k<N):TbR hm (eu N none) []:=⟨Tab.new hN h,by rw[UG]⟩
theorem Vw{dX:Int}(ho:wE dX l){x:Fw}(hx:x∈l){m:List Fw}(hm':l.Perm (x::m)):m.Perm (yN l x.key):=by
 have h1:(l.filter fun y=>!tV x.key y).Perm ((x::m).filter fun y=>!tV x.key y):=hm'.filter _;have e:(x::m).filter (fun y=>!tV x.key y)=m:=by
  rw[List.filter_cons_of_neg (by simp[tV])];refine wP.2 (fun y hy=>?_);have:=(hm'.pairwise_iff (fun{a b:Fw} (hab:a.key≠b.key)=>jy hab)).1 ho.one;have:=(gU.1 this).1 y hy;simp[tV,jy this]
 rw[e]at h1;exact h1.symm
theorem TbR.put{dX:Int}(h:TbR hm s l)(ho:wE dX l){f:Fw}{d:Nat}(hd:Found hm Fw.key s f.key d)(hl:l.a+1<s.a)(m:List Fw)(hm':m.Perm (f::yN l f.key)):TbR hm (s.set ((hm f.key+d)%s.a) (some f)) m:=by
 have hN:0<s.a:=by omega
 have hj:(hm f.key+d)%s.a<s.a:=Nat.mod_lt _ hN;have hst:=h.stop ho hd;have hfull:=fun hlt=>(LK s).1 hlt
 have hel:=h.Pm.t;cases hf:pW l f.key with
 | none=>
   rw[hf]at hst;have hc:yN l f.key=l:=wP.2 (fun x hx=>by have:=Bn hf x hx;simp[tV,this]);have he:=LJ s _ f hj hst;obtain⟨z,hz1,hz2⟩:=(LK (s.set ((hm f.key+d)%s.a) (some f))).1 (by rw[he.t];simp;omega);rw[Gh _ _ _ _ hj]at hz2;split at hz2
   ·cases hz2
   rename_i hne;refine⟨h.tab.put hd (by simpa using hz1) hz2 (jy hne),he.trans (((h.Pm.cons f)).trans ?_)⟩;rw[hc]at hm';exact hm'.symm
 | some x=>
   rw[hf]at hst;obtain⟨h1,h2⟩:=xJ hf;obtain⟨z,hz1,hz2⟩:=hfull (by omega);refine⟨h.tab.put hd hz1 hz2 (fun e=>by rw[e,hst]at hz2;cases hz2),?_⟩;have e1:=zi s _ f hj;have e2:=Ph s _ x hj hst;have e3:=Vw ho h1 (h.Pm.symm.trans e2);rw[h2]at e3;exact e1.trans ((e3.cons f).trans hm'.symm)
theorem ajg{dX:Int}(h:TbR hm s l)(ho:wE dX l):(iB s).foldl (least lQ) none=l.head?:=by
 cases l with
 | nil=>
   have:=h.Pm.t;rw[gQ]at this;rw[List.eq_nil_of_length_eq_zero this];rfl
 | cons m t=>
   rw[List.head?_cons];refine acW tL (iB s) none (.a (h.Pm.symm.subset (by simp))) (fun x hx=>?_) (fun y hy=>by cases hy);rcases bE.1 (h.Pm.subset hx)with rfl|hx
   ·exact .a rfl
   ·exact .b (ho.asc.ao9 hx)
theorem amr{dX:Int}{x:Fw}{t:List Fw}(ho:wE dX (x::t)):yN (x::t) x.key=t:=by
 unfold yN;rw[List.filter_cons_of_neg (by simp[tV])];refine wP.2 (fun y hy=>?_);have:=(gU.1 ho.one).1 y hy;simp[tV,jy this]
end
structure oW(T:bF)(n:Nat)(z:Array aC):Prop where
 row:∃d,aj.k T=some d/\d.isRow=true
 j:(aj.l T).map (·.j)=some n
 zero:(aj.l T).map (·.zero)=some (some (.d z))
 zs:z.j=n
def xK(T:bF)(v:aC):xA aC:=cZ T v
def zk(T:bF)(v x:aC):xA Unit:=eU T v x
def uJ(T:bF)(ps:Array (Nat×aC)):xA aC:=fM T ps
def gZ(W:au)(b o:Nat)(c:Array aC):au:=W.setCells b o c.a
section
variable {T:bF} {n:Nat} {z:Array aC}
theorem oW.afU(K:oW T n z):∃i,aj.l T=some i/\i.j=n/\i.zero=some (.d z):=by
 have h1:=K.j;have h2:=K.zero;cases h:aj.l T with
 | none=>rw[h]at h1;cases h1
 | some i=>rw[h]at h1 h2;simp at h1 h2;exact⟨i,rfl,h1,h2⟩
theorem oW.ld(K:oW T n z)(W:au)(b o:Nat)(h:vE W b o n):(xK T (.c (some ⟨b,o,none⟩))).J aj W=.ok (.d (dQ W b o n)) W:=by
 obtain⟨d,h1,h2⟩:=K.row;exact jU W b o n T d h1 h2 K.j h
theorem oW.stN(K:oW T n z)(W:au)(c x:Array aC)(b:Nat)(hb:b=W.a.j)(hc:eF c=n)(hx:x.j=n)(h1:x.all (·.h)=true):(zk T (.c (some ⟨b,0,none⟩)) (.d x)).J aj (W.alloc (.D c T))=.ok () (W.alloc (.D x T)):=by
 subst hb;exact yY W _ c x (by rw[hx];exact K.j) (by rw[hx];exact hc) h1
theorem oW.st(K:oW T n z)(W:au)(b o:Nat)(x:Array aC)(h:W.O b o n)(hx:x.j=n)(h1:x.all (·.h)=true):(zk T (.c (some ⟨b,o,none⟩)) (.d x)).J aj W=.ok () (gZ W b o x):=
 El W b o _ x (by rw[hx];exact h) (by rw[hx];exact K.j) h1
theorem oW.bd(K:oW T n z)(W:au)(ps:Array (Nat×aC))(cells:Array aC)(fs:Array oh)(places:Array (Nat×Nat))(hu:aj.k T=some (.d fs))
 (hp:(iG (fun f=>Prod.mk f.Z <$> sizeOf f.p) fs:xA (Array (Nat×Nat))).J aj W=.ok places W) (hf:fD (places[·]?) z ps.a=some cells):(uJ T ps).J aj W=.ok (.d cells) W:=by
 obtain⟨i,h1,h2,h3⟩:=K.afU;exact Es W T fs i z ps cells places hu h1 h3 hp hf
end
theorem lg{w W:au}{B:Nat}(h:aM B w W)(b o:Nat)(x:Array aC)(hb:B<=b):aM B w (gZ W b o x):=xV hb _ o W h
theorem lY{w W:au}{g:Nat}(h:w.d W (some g))(o:Nat)(x:Array aC):w.d (gZ W g o x) (some g):=IL _ o W h
theorem dN.put{W:au}{b:Nat}{c:Array aC}(h:dN W b c)(x:Array aC)(hx:x.j=c.j):dN (gZ W b 0 x) b x:=h.akX x hx
theorem dN.gK{W:au}{b b2 o:Nat}{c x:Array aC}(h:dN W b c)(hne:b≠b2):dN (gZ W b2 o x) b c:=by
 have:∀(vs:List aC)(o:Nat)(W:au),dN W b c->dN (W.setCells b2 o vs) b c:=by
  intro vs
  induction vs with
  | nil=>exact fun _ _ h=>h
  | cons v vs ih=>intro o W h;exact ih (o+1) _ (h.dR _ v (fun e=>hne e.symm))
 exact this _ _ _ h
def rM(place:Nat->Option (Nat×Nat)):Nat->List (Nat×aC)->Nat->Prop
 | off,[],n=>off=n
 | off,(i,v)::ps,n=>place i=some (off,v.D.j)/\rM place (off+v.D.j) ps n
def qW:List (Nat×aC)->Array aC
 | []=>#[]
 | (_,v)::ps=>v.D++qW ps
theorem Vx(p r v:Array aC)(h:v.j<=r.j):sG (p++r) p.j v=(p++v)++r.m v.j r.j:=by
 apply eB;intro j;rw[Ep];simp only[om,aG,Array.getElem?_extract];split
 ·rename_i h1
  rw[if_pos (by omega),if_neg (by omega)]
 ·rename_i h1
  split
  ·rename_i h2
   rw[if_pos (by omega)]
  ·rename_i h2
   by_cases h3:j<p.j+v.j
   ·omega
   ·rw[if_neg h3]
    by_cases h4:j-p.j<r.j
    ·rw[if_pos (by omega)];congr 1;omega
    ·rw[if_neg (by omega),aV (by omega)]
theorem Tq(place:Nat->Option (Nat×Nat)):∀(ps:List (Nat×aC))(p r:Array aC),rM place p.j ps (p.j+r.j)->fD place (p++r) ps=some (p++qW ps)
 | [],p,r,h=>by
   have:r = #[]:=Array.eq_empty_of_size_eq_zero (by have h':p.j=p.j+r.j:=h;omega);subst this;simp[fD,qW]
 | (i,v)::ps,p,r,h=>by
   obtain⟨h1,h2⟩:=h;have hle:∀(ps:List (Nat×aC))(a b:Nat),rM place a ps b->a<=b:=by
    intro ps
    induction ps with
    | nil=>intro a b h;exact aY h
    | cons q ps ih=>intro a b h;have:=ih _ _ h.2;omega
   have hl:=hle _ _ _ h2;rw[Er place _ i p.j v.D.j v ps h1 rfl (by rw[om];omega),Vx p r v.D (by omega)];have:=Tq place ps (p++v.D) (r.m v.D.j r.j) (by
    rw[om,jI]
    rwa [show p.j+v.D.j+(min r.j r.j-v.D.j)=p.j+r.j by omega])
   rw[this,qW,gB]
theorem uS{place:Nat->Option (Nat×Nat)}{ps:List (Nat×aC)}{z c:Array aC}{n:Nat}(hz:z.j=n)(h:rM place 0 ps n)(hc:qW ps=c):fD place z ps=some c:=by
 have:=Tq place ps #[] z (by simpa[hz]using h);simpa[hc]using this
theorem oW.bd0{T:bF}{n:Nat}{z:Array aC}(K:oW T n z)(W:au)(fs:Array oh)(hu:aj.k T=some (.d fs))(hp:∃places,(iG (fun f=>Prod.mk f.Z <$> sizeOf f.p) fs:xA (Array (Nat×Nat))).J aj W=.ok places W):(uJ T #[]).J aj W=.ok (.d z) W:=by
 obtain⟨places,hp⟩:=hp;exact K.bd W _ _ fs places hu hp (by simp[fD])
theorem qc{c:Array aC}{n:Nat}(h:c.j=n):c.m 0 n=c:=by rw[<-h];simp
theorem tX{c:Array aC}{k m:Nat}(h:c.j<=k):c.m k m = #[]:=by apply Array.eq_empty_of_size_eq_zero;simp;omega
def AO(v:Vector UInt8 6):Array aC:=(v.a.map bv).b
def jg(v:Vector UInt8 16):Array aC:=(v.a.map bv).b
theorem gM(v:Vector UInt8 6):(AO v).j=6:=by simp[AO]
theorem dL(v:Vector UInt8 16):(jg v).j=16:=by simp[jg]
theorem jL(v:Vector Int 6):(Kz v).j=6:=by simp[Kz]
theorem aa1(v:Vector UInt8 6):(AO v).all (·.h)=true:=by simp[AO];intro x _;rfl
theorem apW(v:Vector Int 6):(Kz v).all (·.h)=true:=by simp[Kz];intro x _;rfl
@[go_sem]theorem asa:eO #[bQ false,aB,aB,aB,aB,aB,aB,aB,aB,aB,aB,aB,aB,aB,aB,aB,aB] 27=eO nE.aA 27:=rfl
@[go_sem]theorem awH:cK #[bQ false,aB,aB,aB,aB,aB,aB,aB,aB,aB,aB,aB,aB,aB,aB,aB,aB]=cK nE.aA:=rfl
theorem aa2:oW 27 17 nE.aA:=⟨⟨_,fC,rfl⟩,by kernel_rfl,by kernel_rfl,fE.I _⟩
theorem kTu:oW 81 37 ae4.aA:=⟨⟨_,jY,rfl⟩,by kernel_rfl,by kernel_rfl,Tu.I _⟩
@[go_sem ↓]theorem aGJ(v x:aC):eU 27 v x=zk 27 v x:=rfl
@[go_sem]theorem aBi(W:au)(c:Array aC)(x:fE)(b:Nat)(hb:b=W.a.j)(hc:eF c=17):(zk 27 (.c (some ⟨b,0,none⟩)) (.d x.aA)).J aj (W.alloc (.D c 27))=.ok () (W.alloc (.D x.aA 27)):=aa2.stN W c x.aA b hb hc (fE.I x) (fE.cO x)
@[go_sem]theorem aDk(W:au)(b o:Nat)(x:fE)(h:W.O b o 17):(zk 27 (.c (some ⟨b,o,none⟩)) (.d x.aA)).J aj W=.ok () (gZ W b o x.aA):=aa2.st W b o x.aA h (fE.I x) (fE.cO x)
@[go_sem]theorem fE.all(x:fE):x.aA.m 0 17=x.aA:=qc (fE.I x)
theorem asb(x:aC)(b:Array aC)(j:Nat):(#[x]++b)[j+1]? = b[j]?:=by simp[aG]
section
variable {T:bF} {n:Nat} {z:Array aC} {fn:Func} {p u:Tmp} {W:au} {b:Nat} {c:Array aC}
theorem oW.zm(K:oW T n z)(h:fn.results = #[.cell p T])(tmps:Array aC)(hp:tmps.c p undef=.c (some ⟨b,0,none⟩))(hb:dN W b c)(hc:c.j=n):(results fn tmps).J aj W=.ok (.d c) W:=by
 obtain⟨t,hb⟩:=hb;obtain⟨d,h1,h2⟩:=K.row;exact results_cell_row h tmps W b t c (0,0) d hp hb h1 (by cases d<;>simp_all[TypeDesc.isRow]) (by rw[hc];exact K.j)
theorem oW.qK(K:oW T n z)(h:fn.results = #[.cell p T,.tmp u])(tmps:Array aC)(hp:tmps.c p undef=.c (some ⟨b,0,none⟩))(hb:dN W b c)(hc:c.j=n):(results fn tmps).J aj W=.ok (.K #[.d c,tmps.c u undef]) W:=by
 obtain⟨_,_,h3,h4⟩:=hb.M;have hl:=K.ld W b 0 (by rw[h3 0 n (by unfold eF;omega)];trivial);rw[h4 0 n (by unfold eF;omega),bl,<-hc,Array.extract_size]at hl;unfold xK at hl;simp only[cZ,Instr.sureAddr,Sem.run_bind,Sem.run_pure,gT]at hl;rw[results_cell_tmp h,hp];simp[asAddr,iI,hl]
end
structure Vp where
 h:fE
 aR:Int
 nu:Int
 Vy:Bool
deriving DecidableEq
def Vp.aA(x:Vp):Array aC:=x.h.aA ++ #[.b .a x.aR,.b .a x.nu,.e x.Vy]
theorem Vp.I(x:Vp):x.aA.j=20:=by simp[Vp.aA,fE.I]
theorem Vp.cO(x:Vp):x.aA.all (·.h)=true:=iq (fE.cO _) ((by simp[dx]))
@[go_sem]theorem Vp.eF(x:Vp):eF x.aA=20:=Vp.I x
@[go_sem]theorem Vp.all(x:Vp):x.aA.m 0 20=x.aA:=by have:=Vp.I x;rw[<-this];simp
@[go_sem]theorem Vp.Dr(x:Vp):x.aA.m 0 17=x.h.aA:=by simp[Vp.aA,dD,fE.I,qc,tX]
@[go_sem]theorem Vp.BZ(x:Vp):x.aA[17]? = some (.b .a x.aR):=by simp[Vp.aA,aG,fE.I]
@[go_sem]theorem Vp.Kc(x:Vp):x.aA[18]? = some (.b .a x.nu):=by simp[Vp.aA,aG,fE.I]
@[go_sem]theorem Vp.ajh(x:Vp):x.aA[19]? = some (.e x.Vy):=by simp[Vp.aA,aG,fE.I]
def og:Vp:=⟨nE,0,0,false⟩
@[go_sem]theorem ayk:cK #[bQ false,aB,aB,aB,aB,aB,aB,aB,aB,aB,aB,aB,aB,aB,aB,aB,aB,bg,bg,bQ false]=cK og.aA:=rfl
@[go_sem]theorem auh:eO #[bQ false,aB,aB,aB,aB,aB,aB,aB,aB,aB,aB,aB,aB,aB,aB,aB,aB,bg,bg,bQ false] 98=eO og.aA 98:=rfl
theorem kVp:oW 98 20 og.aA:=⟨⟨_,r9,rfl⟩,by kernel_rfl,by kernel_rfl,Vp.I _⟩
@[go_sem ↓]theorem aJp(v:aC):cZ 98 v=xK 98 v:=rfl
@[go_sem ↓]theorem aJq(v x:aC):eU 98 v x=zk 98 v x:=rfl
@[go_sem]theorem aGK(W:au)(b o:Nat)(h:vE W b o 20):(xK 98 (.c (some ⟨b,o,none⟩))).J aj W=.ok (.d (dQ W b o 20)) W:=kVp.ld W b o h
@[go_sem]theorem aDl(W:au)(c:Array aC)(x:Vp)(b:Nat)(hb:b=W.a.j)(hc:eF c=20):(zk 98 (.c (some ⟨b,0,none⟩)) (.d x.aA)).J aj (W.alloc (.D c 98))=.ok () (W.alloc (.D x.aA 98)):=kVp.stN W c x.aA b hb hc (Vp.I x) (Vp.cO x)
@[go_sem]theorem aGL(W:au)(b o:Nat)(x:Vp)(h:W.O b o 20):(zk 98 (.c (some ⟨b,o,none⟩)) (.d x.aA)).J aj W=.ok () (gZ W b o x.aA):=kVp.st W b o x.aA h (Vp.I x) (Vp.cO x)
@[go_sem ↓]theorem aJr(ps:Array (Nat×aC)):fM 98 ps=uJ 98 ps:=rfl
theorem ayl(w:au)(fs:Array oh)(h:aj.k 98=some (.d fs)):(iG (fun f=>Prod.mk f.Z <$> sizeOf f.p) fs:xA (Array (Nat×Nat))).J aj w=.ok #[(0,17),(17,1),(18,1),(19,1)] w:=by
 have e:=r9;rw[h]at e;cases e;show _=_
 kernel_rfl
@[go_sem]theorem aDm(W:au):(uJ 98 #[]).J aj W=.ok (.d og.aA) W:=kVp.bd0 W _ r9 ⟨_,ayl W _ r9⟩
structure Cn where
 qj:Option aU
 Y:Nat
 ql:Nat
 j:Int
 dX:Int
 kD:Vector Int 6
 kr:Int
 fall:Int
 Bj:Vector UInt8 6
 Cz:fE
 h:fE
 afV:Int
 keep:Int
 Vz:Int
def Cn.aA(x:Cn):Array aC:=#[.a x.qj x.Y x.ql,.b .a x.j,.b .a x.dX]++(Kz x.kD++(#[.b .a x.kr,.b .a x.fall]++(AO x.Bj++(x.Cz.aA++(x.h.aA ++ #[.b .a x.afV,.b .a x.keep,.b .a x.Vz])))))
theorem Cn.I(x:Cn):x.aA.j=54:=by simp[Cn.aA,fE.I,gM,jL]
theorem Cn.cO(x:Cn):x.aA.all (·.h)=true:=iq ((by simp[dx])) (iq (apW _) (iq ((by simp[dx])) (iq (aa1 _) (iq (fE.cO _) (iq (fE.cO _) ((by simp[dx])))))))
@[go_sem]theorem Cn.eF(x:Cn):eF x.aA=54:=Cn.I x
@[go_sem]theorem Cn.all(x:Cn):x.aA.m 0 54=x.aA:=by have:=Cn.I x;rw[<-this];simp
@[go_sem]theorem Cn.AQ(x:Cn):x.aA[0]? = some (.a x.qj x.Y x.ql):=by simp[Cn.aA,aG,fE.I,gM,jL]
@[go_sem]theorem Cn.Gv(x:Cn):x.aA[1]? = some (.b .a x.j):=by simp[Cn.aA,aG,fE.I,gM,jL]
@[go_sem]theorem Cn.Tt(x:Cn):x.aA[2]? = some (.b .a x.dX):=by simp[Cn.aA,aG,fE.I,gM,jL]
@[go_sem]theorem Cn.Tv(x:Cn):x.aA.m 3 9=Kz x.kD:=by simp[Cn.aA,dD,fE.I,gM,jL,qc,tX]
@[go_sem]theorem Cn.Tw(x:Cn):x.aA[9]? = some (.b .a x.kr):=by simp[Cn.aA,aG,fE.I,gM,jL]
@[go_sem]theorem Cn.Tx(x:Cn):x.aA[10]? = some (.b .a x.fall):=by simp[Cn.aA,aG,fE.I,gM,jL]
@[go_sem]theorem Cn.afW(x:Cn):x.aA.m 11 17=AO x.Bj:=by simp[Cn.aA,dD,fE.I,gM,jL,qc,tX]
@[go_sem]theorem Cn.aa3(x:Cn):x.aA.m 17 34=x.Cz.aA:=by simp[Cn.aA,dD,fE.I,gM,jL,qc,tX]
@[go_sem]theorem Cn.afX(x:Cn):x.aA.m 34 51=x.h.aA:=by simp[Cn.aA,dD,fE.I,gM,jL,qc,tX]
@[go_sem]theorem Cn.aBj(x:Cn):x.aA[51]? = some (.b .a x.afV):=by simp[Cn.aA,aG,fE.I,gM,jL]
@[go_sem]theorem Cn.aa4(x:Cn):x.aA[52]? = some (.b .a x.keep):=by simp[Cn.aA,aG,fE.I,gM,jL]
@[go_sem]theorem Cn.aym(x:Cn):x.aA[53]? = some (.b .a x.Vz):=by simp[Cn.aA,aG,fE.I,gM,jL]
theorem Cn.Ji(x:Cn)(A:Option aU)(n c:Nat):x.aA.b 0 (.a A n c)=({x with qj:=A,Y:=n,ql:=c}:Cn).aA:=by simp[Cn.aA,aN,fE.I,gM,jL]
def PN:Cn:=⟨none,0,0,0,0,(bH 6 0),0,0,(bH 6 0),nE,nE,0,0,0⟩
@[go_sem]theorem ayn:cK #[bC none 0 0,bg,bg,bg,bg,bg,bg,bg,bg,bg,bg,aB,aB,aB,aB,aB,aB,bQ false,aB,aB,aB,aB,aB,aB,aB,aB,aB,aB,aB,aB,aB,aB,aB,aB,bQ false,aB,aB,aB,aB,aB,aB,aB,aB,aB,aB,aB,aB,aB,aB,aB,aB,bg,bg,bg]=cK PN.aA:=rfl
@[go_sem]theorem aui:eO #[bC none 0 0,bg,bg,bg,bg,bg,bg,bg,bg,bg,bg,aB,aB,aB,aB,aB,aB,bQ false,aB,aB,aB,aB,aB,aB,aB,aB,aB,aB,aB,aB,aB,aB,aB,aB,bQ false,aB,aB,aB,aB,aB,aB,aB,aB,aB,aB,aB,aB,aB,aB,aB,aB,bg,bg,bg] 29=eO PN.aA 29:=rfl
theorem TD:oW 29 54 PN.aA:=⟨⟨_,nD,rfl⟩,by kernel_rfl,by kernel_rfl,Cn.I _⟩
@[go_sem ↓]theorem aJs(v:aC):cZ 29 v=xK 29 v:=rfl
@[go_sem ↓]theorem aJt(v x:aC):eU 29 v x=zk 29 v x:=rfl
@[go_sem]theorem aGM(W:au)(b o:Nat)(h:vE W b o 54):(xK 29 (.c (some ⟨b,o,none⟩))).J aj W=.ok (.d (dQ W b o 54)) W:=TD.ld W b o h
@[go_sem]theorem aDn(W:au)(c:Array aC)(x:Cn)(b:Nat)(hb:b=W.a.j)(hc:eF c=54):(zk 29 (.c (some ⟨b,0,none⟩)) (.d x.aA)).J aj (W.alloc (.D c 29))=.ok () (W.alloc (.D x.aA 29)):=TD.stN W c x.aA b hb hc (Cn.I x) (Cn.cO x)
@[go_sem]theorem aGN(W:au)(b o:Nat)(x:Cn)(h:W.O b o 54):(zk 29 (.c (some ⟨b,o,none⟩)) (.d x.aA)).J aj W=.ok () (gZ W b o x.aA):=TD.st W b o x.aA h (Cn.I x) (Cn.cO x)
@[go_sem ↓]theorem aJu(ps:Array (Nat×aC)):fM 29 ps=uJ 29 ps:=rfl
theorem auj(w:au)(fs:Array oh)(h:aj.k 29=some (.d fs)):(iG (fun f=>Prod.mk f.Z <$> sizeOf f.p) fs:xA (Array (Nat×Nat))).J aj w=.ok #[(0,1),(1,1),(2,1),(3,6),(9,1),(10,1),(11,6),(17,17),(34,17),(51,1),(52,1),(53,1)] w:=by
 have e:=nD;rw[h]at e;cases e;show _=_
 kernel_rfl
@[go_sem]theorem aDo(W:au):(uJ 29 #[]).J aj W=.ok (.d PN.aA) W:=TD.bd0 W _ nD ⟨_,auj W _ nD⟩
def adw(v:Vp):Bool:=qN v.h&&(v.aR==6||v.aR==17)&&(decide (1<=v.nu)&&decide (v.nu<=65535))
def yt(a:fE)(p q:Int)(v:Vp):Bool:=decide (v.h=a)&&v.aR==p&&v.nu==q
def zo(l:List Vp)(a:fE)(p q:Int):Option Nat:=l.findIdx? (yt a p q)
def Ea(l:List Vp)(i:Nat):Bool:=adw (l.c i og) && !(l.d i).any (yt (l.c i og).h (l.c i og).aR (l.c i og).nu)
def yV(l:List Vp):Bool:=decide (l.a<=64)&&(dS l.a).all (Ea l)
def Ca(v:Vector Int 6):Bool:=v.a.c 0 0==0&&(dS 6).all fun i=>decide (0<=v.a.c i 0)&&decide (v.a.c i 0<=1000000)
def yu(x:Cn)(l:List Vp):Bool:=Ca x.kD&&yV l&&(decide (2<=x.j)&&decide (x.j<=65537)&&lK x.j.e)&&(decide (1<=x.dX)&&decide (x.dX<=4096))&&(decide (1<=x.kr)&&decide (x.kr<=100))&&(decide (1<=x.fall)&&decide (x.fall<=100))
 && (!x.Cz.h&&qN x.Cz)&&x.h.h&&(decide (1000<=x.afV)&&decide (x.afV<=1048576))&&(decide (1<=x.keep)&&decide (x.keep<=100))&&(decide (1<=x.Vz)&&decide (x.Vz<=1000))
abbrev RdV:=iF Vp.aA 20
structure Fo where
 head:Int
 dA:Int
 OL:Int
 id:Int
 oN:Bool
 keep:Bool
 LZ:Int
 aR:Int
 h:fE
 Y:fE
def Fo.aA(x:Fo):Array aC:=#[.b .a x.head,.b .a x.dA,.b .a x.OL,.b .a x.id,.e x.oN,.e x.keep,.b .a x.LZ,.b .a x.aR]++(x.h.aA++x.Y.aA)
theorem Fo.I(x:Fo):x.aA.j=42:=by simp[Fo.aA,fE.I]
theorem Fo.cO(x:Fo):x.aA.all (·.h)=true:=iq ((by simp[dx])) (iq (fE.cO _) (fE.cO _))
@[go_sem]theorem Fo.eF(x:Fo):eF x.aA=42:=Fo.I x
@[go_sem]theorem Fo.Ke(x:Fo):x.aA[0]? = some (.b .a x.head):=by simp[Fo.aA,aG,fE.I]
@[go_sem]theorem Fo.yw(x:Fo):x.aA[1]? = some (.b .a x.dA):=by simp[Fo.aA,aG,fE.I]
@[go_sem]theorem Fo.auk(x:Fo):x.aA[2]? = some (.b .a x.OL):=by simp[Fo.aA,aG,fE.I]
@[go_sem]theorem Fo.ayp(x:Fo):x.aA[3]? = some (.b .a x.id):=by simp[Fo.aA,aG,fE.I]
@[go_sem]theorem Fo.TJ(x:Fo):x.aA[4]? = some (.e x.oN):=by simp[Fo.aA,aG,fE.I]
@[go_sem]theorem Fo.aa4(x:Fo):x.aA[5]? = some (.e x.keep):=by simp[Fo.aA,aG,fE.I]
@[go_sem]theorem Fo.aul(x:Fo):x.aA[6]? = some (.b .a x.LZ):=by simp[Fo.aA,aG,fE.I]
@[go_sem]theorem Fo.BZ(x:Fo):x.aA[7]? = some (.b .a x.aR):=by simp[Fo.aA,aG,fE.I]
@[go_sem]theorem Fo.Jj(x:Fo):x.aA.m 8 25=x.h.aA:=by simp[Fo.aA,dD,fE.I,qc,tX]
@[go_sem]theorem Fo.Jk(x:Fo):x.aA.m 25 42=x.Y.aA:=by simp[Fo.aA,dD,fE.I,qc,tX]
def xq:Fo:=⟨0,0,0,0,false,false,0,0,nE,nE⟩
@[go_sem]theorem ayq:cK #[bg,bg,bg,bg,bQ false,bQ false,bg,bg,bQ false,aB,aB,aB,aB,aB,aB,aB,aB,aB,aB,aB,aB,aB,aB,aB,aB,bQ false,aB,aB,aB,aB,aB,aB,aB,aB,aB,aB,aB,aB,aB,aB,aB,aB]=cK xq.aA:=rfl
@[go_sem]theorem aum:eO #[bg,bg,bg,bg,bQ false,bQ false,bg,bg,bQ false,aB,aB,aB,aB,aB,aB,aB,aB,aB,aB,aB,aB,aB,aB,aB,aB,bQ false,aB,aB,aB,aB,aB,aB,aB,aB,aB,aB,aB,aB,aB,aB,aB,aB] 192=eO xq.aA 192:=rfl
theorem kFo:oW 192 42 xq.aA:=⟨⟨_,pF,rfl⟩,by kernel_rfl,by kernel_rfl,Fo.I _⟩
@[go_sem ↓]theorem aJv(v:aC):cZ 192 v=xK 192 v:=rfl
@[go_sem ↓]theorem aJw(v x:aC):eU 192 v x=zk 192 v x:=rfl
@[go_sem]theorem aDp(W:au)(c:Array aC)(x:Fo)(b:Nat)(hb:b=W.a.j)(hc:eF c=42):(zk 192 (.c (some ⟨b,0,none⟩)) (.d x.aA)).J aj (W.alloc (.D c 192))=.ok () (W.alloc (.D x.aA 192)):=kFo.stN W c x.aA b hb hc (Fo.I x) (Fo.cO x)
@[go_sem]theorem aGO(W:au)(b o:Nat)(x:Fo)(h:W.O b o 42):(zk 192 (.c (some ⟨b,o,none⟩)) (.d x.aA)).J aj W=.ok () (gZ W b o x.aA):=kFo.st W b o x.aA h (Fo.I x) (Fo.cO x)
@[go_sem ↓]theorem aJx(ps:Array (Nat×aC)):fM 192 ps=uJ 192 ps:=rfl
theorem aun(w:au)(fs:Array oh)(h:aj.k 192=some (.d fs)):(iG (fun f=>Prod.mk f.Z <$> sizeOf f.p) fs:xA (Array (Nat×Nat))).J aj w=.ok #[(0,1),(1,1),(2,1),(3,1),(4,1),(5,1),(6,1),(7,1),(8,17),(25,17)] w:=by
 have e:=pF;rw[h]at e;cases e;show _=_
 kernel_rfl
@[go_sem]theorem aDq(W:au):(uJ 192 #[]).J aj W=.ok (.d xq.aA) W:=kFo.bd0 W _ pF ⟨_,aun W _ pF⟩
@[go_sem]theorem ayr(W:au)(head:Int)(dA:Int)(OL:Int)(id:Int)(oN:Bool)(keep:Bool)(LZ:Int)(aR:Int)(src:fE)(dst:fE):(uJ 192 #[(0,.b .a head),(1,.b .a dA),(2,.b .a OL),(3,.b .a id),(4,.e oN),(5,.e keep),(6,.b .a LZ),(7,.b .a aR),(8,.d (src.aA)),(9,.d (dst.aA))]).J aj W=.ok (.d (Fo.mk head dA OL id oN keep LZ aR src dst).aA) W:=kFo.bd W _ _ _ _ pF (aun W _ pF) (by
 refine uS (Fo.I _) ?_ ?_
 ·simp[rM,bZ,fE.I]
 ·simp[qW,bZ,Fo.aA]<;>(simp only[<-gB];rfl))
structure Sx where
 head:Int
 dA:Int
 Ij:Int
 oN:Bool
 Ik:Int
 aR:Int
 h:fE
 Y:fE
def Sx.aA(x:Sx):Array aC:=#[.b .a x.head,.b .a x.dA,.b .a x.Ij,.e x.oN,.b .a x.Ik,.b .a x.aR]++(x.h.aA++x.Y.aA)
theorem Sx.I(x:Sx):x.aA.j=40:=by simp[Sx.aA,fE.I]
theorem Sx.cO(x:Sx):x.aA.all (·.h)=true:=iq ((by simp[dx])) (iq (fE.cO _) (fE.cO _))
@[go_sem]theorem Sx.eF(x:Sx):eF x.aA=40:=Sx.I x
@[go_sem]theorem Sx.all(x:Sx):x.aA.m 0 40=x.aA:=by have:=Sx.I x;rw[<-this];simp
@[go_sem]theorem Sx.Ke(x:Sx):x.aA[0]? = some (.b .a x.head):=by simp[Sx.aA,aG,fE.I]
@[go_sem]theorem Sx.yw(x:Sx):x.aA[1]? = some (.b .a x.dA):=by simp[Sx.aA,aG,fE.I]
@[go_sem]theorem Sx.auo(x:Sx):x.aA[2]? = some (.b .a x.Ij):=by simp[Sx.aA,aG,fE.I]
@[go_sem]theorem Sx.TJ(x:Sx):x.aA[3]? = some (.e x.oN):=by simp[Sx.aA,aG,fE.I]
@[go_sem]theorem Sx.apY(x:Sx):x.aA[4]? = some (.b .a x.Ik):=by simp[Sx.aA,aG,fE.I]
@[go_sem]theorem Sx.BZ(x:Sx):x.aA[5]? = some (.b .a x.aR):=by simp[Sx.aA,aG,fE.I]
@[go_sem]theorem Sx.Jj(x:Sx):x.aA.m 6 23=x.h.aA:=by simp[Sx.aA,dD,fE.I,qc,tX]
@[go_sem]theorem Sx.Jk(x:Sx):x.aA.m 23 40=x.Y.aA:=by simp[Sx.aA,dD,fE.I,qc,tX]
theorem Sx.NG(x:Sx)(v:Int):x.aA.b 0 (.b .a v)=({x with head:=v}:Sx).aA:=by simp[Sx.aA,aN,fE.I]
theorem Sx.ams(x:Sx)(v:Bool):x.aA.b 3 (.e v)=({x with oN:=v}:Sx).aA:=by simp[Sx.aA,aN,fE.I]
theorem Sx.amt(x:Sx)(v:Int):x.aA.b 4 (.b .a v)=({x with Ik:=v}:Sx).aA:=by simp[Sx.aA,aN,fE.I]
theorem Sx.YM(x:Sx)(v:Int):x.aA.b 5 (.b .a v)=({x with aR:=v}:Sx).aA:=by simp[Sx.aA,aN,fE.I]
def qL:Sx:=⟨0,0,0,false,0,0,nE,nE⟩
@[go_sem]theorem ays:cK #[bg,bg,bg,bQ false,bg,bg,bQ false,aB,aB,aB,aB,aB,aB,aB,aB,aB,aB,aB,aB,aB,aB,aB,aB,bQ false,aB,aB,aB,aB,aB,aB,aB,aB,aB,aB,aB,aB,aB,aB,aB,aB]=cK qL.aA:=rfl
@[go_sem]theorem aup:eO #[bg,bg,bg,bQ false,bg,bg,bQ false,aB,aB,aB,aB,aB,aB,aB,aB,aB,aB,aB,aB,aB,aB,aB,aB,bQ false,aB,aB,aB,aB,aB,aB,aB,aB,aB,aB,aB,aB,aB,aB,aB,aB] 189=eO qL.aA 189:=rfl
theorem kSx:oW 189 40 qL.aA:=⟨⟨_,pG,rfl⟩,by kernel_rfl,by kernel_rfl,Sx.I _⟩
@[go_sem ↓]theorem aJy(v:aC):cZ 189 v=xK 189 v:=rfl
@[go_sem ↓]theorem aJz(v x:aC):eU 189 v x=zk 189 v x:=rfl
@[go_sem]theorem aGP(W:au)(b o:Nat)(h:vE W b o 40):(xK 189 (.c (some ⟨b,o,none⟩))).J aj W=.ok (.d (dQ W b o 40)) W:=kSx.ld W b o h
@[go_sem]theorem aDr(W:au)(c:Array aC)(x:Sx)(b:Nat)(hb:b=W.a.j)(hc:eF c=40):(zk 189 (.c (some ⟨b,0,none⟩)) (.d x.aA)).J aj (W.alloc (.D c 189))=.ok () (W.alloc (.D x.aA 189)):=kSx.stN W c x.aA b hb hc (Sx.I x) (Sx.cO x)
@[go_sem]theorem aGQ(W:au)(b o:Nat)(x:Sx)(h:W.O b o 40):(zk 189 (.c (some ⟨b,o,none⟩)) (.d x.aA)).J aj W=.ok () (gZ W b o x.aA):=kSx.st W b o x.aA h (Sx.I x) (Sx.cO x)
@[go_sem ↓]theorem aJA(ps:Array (Nat×aC)):fM 189 ps=uJ 189 ps:=rfl
theorem auq(w:au)(fs:Array oh)(h:aj.k 189=some (.d fs)):(iG (fun f=>Prod.mk f.Z <$> sizeOf f.p) fs:xA (Array (Nat×Nat))).J aj w=.ok #[(0,1),(1,1),(2,1),(3,1),(4,1),(5,1),(6,17),(23,17)] w:=by
 have e:=pG;rw[h]at e;cases e;show _=_
 kernel_rfl
@[go_sem]theorem aDs(W:au):(uJ 189 #[]).J aj W=.ok (.d qL.aA) W:=kSx.bd0 W _ pG ⟨_,auq W _ pG⟩
structure Pt where
 kT:Int
 j4:Int
 uT:Int
 head:Int
 dA:Int
def Pt.aA(x:Pt):Array aC:=#[.b .a x.kT,.b .a x.j4,.b .a x.uT,.b .a x.head,.b .a x.dA]
theorem Pt.I(x:Pt):x.aA.j=5:=by simp[Pt.aA]
theorem Pt.cO(x:Pt):x.aA.all (·.h)=true:=by simp[Pt.aA,dx]
@[go_sem]theorem Pt.eF(x:Pt):eF x.aA=5:=Pt.I x
@[go_sem]theorem Pt.all(x:Pt):x.aA.m 0 5=x.aA:=by have:=Pt.I x;rw[<-this];simp
@[go_sem]theorem Pt.ayt(x:Pt):x.aA[0]? = some (.b .a x.kT):=by simp[Pt.aA,aG]
@[go_sem]theorem Pt.ayu(x:Pt):x.aA[1]? = some (.b .a x.j4):=by simp[Pt.aA,aG]
@[go_sem]theorem Pt.NH(x:Pt):x.aA[2]? = some (.b .a x.uT):=by simp[Pt.aA,aG]
@[go_sem]theorem Pt.Ke(x:Pt):x.aA[3]? = some (.b .a x.head):=by simp[Pt.aA,aG]
@[go_sem]theorem Pt.yw(x:Pt):x.aA[4]? = some (.b .a x.dA):=by simp[Pt.aA,aG]
theorem Pt.PW(x:Pt)(v:Int):x.aA.b 2 (.b .a v)=({x with uT:=v}:Pt).aA:=by simp[Pt.aA,aN]
theorem Pt.NG(x:Pt)(v:Int):x.aA.b 3 (.b .a v)=({x with head:=v}:Pt).aA:=by simp[Pt.aA,aN]
theorem Pt.PX(x:Pt)(v:Int):x.aA.b 4 (.b .a v)=({x with dA:=v}:Pt).aA:=by simp[Pt.aA,aN]
def qP:Pt:=⟨0,0,0,0,0⟩
@[go_sem]theorem ayv:cK #[bg,bg,bg,bg,bg]=cK qP.aA:=rfl
@[go_sem]theorem aur:eO #[bg,bg,bg,bg,bg] 172=eO qP.aA 172:=rfl
theorem TL:oW 172 5 qP.aA:=⟨⟨_,pI,rfl⟩,by kernel_rfl,by kernel_rfl,Pt.I _⟩
@[go_sem ↓]theorem aJB(v:aC):cZ 172 v=xK 172 v:=rfl
@[go_sem ↓]theorem aJC(v x:aC):eU 172 v x=zk 172 v x:=rfl
@[go_sem]theorem aGR(W:au)(b o:Nat)(h:vE W b o 5):(xK 172 (.c (some ⟨b,o,none⟩))).J aj W=.ok (.d (dQ W b o 5)) W:=TL.ld W b o h
@[go_sem]theorem aDt(W:au)(c:Array aC)(x:Pt)(b:Nat)(hb:b=W.a.j)(hc:eF c=5):(zk 172 (.c (some ⟨b,0,none⟩)) (.d x.aA)).J aj (W.alloc (.D c 172))=.ok () (W.alloc (.D x.aA 172)):=TL.stN W c x.aA b hb hc (Pt.I x) (Pt.cO x)
@[go_sem]theorem aGS(W:au)(b o:Nat)(x:Pt)(h:W.O b o 5):(zk 172 (.c (some ⟨b,o,none⟩)) (.d x.aA)).J aj W=.ok () (gZ W b o x.aA):=TL.st W b o x.aA h (Pt.I x) (Pt.cO x)
@[go_sem ↓]theorem aJD(ps:Array (Nat×aC)):fM 172 ps=uJ 172 ps:=rfl
theorem aus(w:au)(fs:Array oh)(h:aj.k 172=some (.d fs)):(iG (fun f=>Prod.mk f.Z <$> sizeOf f.p) fs:xA (Array (Nat×Nat))).J aj w=.ok #[(0,1),(1,1),(2,1),(3,1),(4,1)] w:=by
 have e:=pI;rw[h]at e;cases e;show _=_
 kernel_rfl
@[go_sem]theorem aDu(W:au):(uJ 172 #[]).J aj W=.ok (.d qP.aA) W:=TL.bd0 W _ pI ⟨_,aus W _ pI⟩
@[go_sem]theorem ayw(W:au)(kT:Int)(j4:Int)(uT:Int)(head:Int)(dA:Int):(uJ 172 #[(0,.b .a kT),(1,.b .a j4),(2,.b .a uT),(3,.b .a head),(4,.b .a dA)]).J aj W=.ok (.d (Pt.mk kT j4 uT head dA).aA) W:=TL.bd W _ _ _ _ pI (aus W _ pI) (by
 refine uS (Pt.I _) ?_ ?_
 ·simp[rM,bZ]
 ·simp[qW,bZ,Pt.aA]<;>(simp only[<-gB];rfl))
structure Nt where
 head:Int
 dA:Int
 aR:Int
 oN:Bool
 h:fE
 Y:fE
def Nt.aA(x:Nt):Array aC:=#[.b .a x.head,.b .a x.dA,.b .a x.aR,.e x.oN]++(x.h.aA++x.Y.aA)
theorem Nt.I(x:Nt):x.aA.j=38:=by simp[Nt.aA,fE.I]
theorem Nt.cO(x:Nt):x.aA.all (·.h)=true:=iq ((by simp[dx])) (iq (fE.cO _) (fE.cO _))
@[go_sem]theorem Nt.eF(x:Nt):eF x.aA=38:=Nt.I x
@[go_sem]theorem Nt.Ke(x:Nt):x.aA[0]? = some (.b .a x.head):=by simp[Nt.aA,aG,fE.I]
@[go_sem]theorem Nt.yw(x:Nt):x.aA[1]? = some (.b .a x.dA):=by simp[Nt.aA,aG,fE.I]
@[go_sem]theorem Nt.BZ(x:Nt):x.aA[2]? = some (.b .a x.aR):=by simp[Nt.aA,aG,fE.I]
@[go_sem]theorem Nt.TJ(x:Nt):x.aA[3]? = some (.e x.oN):=by simp[Nt.aA,aG,fE.I]
@[go_sem]theorem Nt.Jj(x:Nt):x.aA.m 4 21=x.h.aA:=by simp[Nt.aA,dD,fE.I,qc,tX]
@[go_sem]theorem Nt.Jk(x:Nt):x.aA.m 21 38=x.Y.aA:=by simp[Nt.aA,dD,fE.I,qc,tX]
def aa5:Nt:=⟨0,0,0,false,nE,nE⟩
@[go_sem]theorem ayx:cK #[bg,bg,bg,bQ false,bQ false,aB,aB,aB,aB,aB,aB,aB,aB,aB,aB,aB,aB,aB,aB,aB,aB,bQ false,aB,aB,aB,aB,aB,aB,aB,aB,aB,aB,aB,aB,aB,aB,aB,aB]=cK aa5.aA:=rfl
@[go_sem]theorem aut:eO #[bg,bg,bg,bQ false,bQ false,aB,aB,aB,aB,aB,aB,aB,aB,aB,aB,aB,aB,aB,aB,aB,aB,bQ false,aB,aB,aB,aB,aB,aB,aB,aB,aB,aB,aB,aB,aB,aB,aB,aB] 168=eO aa5.aA 168:=rfl
theorem kNt:oW 168 38 aa5.aA:=⟨⟨_,DJ,rfl⟩,by kernel_rfl,by kernel_rfl,Nt.I _⟩
@[go_sem ↓]theorem aJE(v:aC):cZ 168 v=xK 168 v:=rfl
@[go_sem ↓]theorem aJF(v x:aC):eU 168 v x=zk 168 v x:=rfl
@[go_sem]theorem aGT(W:au)(b o:Nat)(x:Nt)(h:W.O b o 38):(zk 168 (.c (some ⟨b,o,none⟩)) (.d x.aA)).J aj W=.ok () (gZ W b o x.aA):=kNt.st W b o x.aA h (Nt.I x) (Nt.cO x)
@[go_sem ↓]theorem aJG(ps:Array (Nat×aC)):fM 168 ps=uJ 168 ps:=rfl
theorem aDv(w:au)(fs:Array oh)(h:aj.k 168=some (.d fs)):(iG (fun f=>Prod.mk f.Z <$> sizeOf f.p) fs:xA (Array (Nat×Nat))).J aj w=.ok #[(0,1),(1,1),(2,1),(3,1),(4,17),(21,17)] w:=by
 have e:=DJ;rw[h]at e;cases e;show _=_
 kernel_rfl
@[go_sem]theorem ayy(W:au)(head:Int)(dA:Int)(aR:Int)(oN:Bool)(src:fE)(dst:fE):(uJ 168 #[(0,.b .a head),(1,.b .a dA),(2,.b .a aR),(3,.e oN),(4,.d (src.aA)),(5,.d (dst.aA))]).J aj W=.ok (.d (Nt.mk head dA aR oN src dst).aA) W:=kNt.bd W _ _ _ _ DJ (aDv W _ DJ) (by
 refine uS (Nt.I _) ?_ ?_
 ·simp[rM,bZ,fE.I]
 ·simp[qW,bZ,Nt.aA]<;>(simp only[<-gB];rfl))
structure Pk where
 kind:Int
 K:Tu
 uT:Int
 C8:Int
 tu:Int
 Gw:Int
def Pk.aA(x:Pk):Array aC:=#[.b .a x.kind]++(x.K.aA ++ #[.b .a x.uT,.b .a x.C8,.b .a x.tu,.b .a x.Gw])
theorem Pk.I(x:Pk):x.aA.j=42:=by simp[Pk.aA,Tu.I]
theorem Pk.cO(x:Pk):x.aA.all (·.h)=true:=iq ((by simp[dx])) (iq (Tu.cO _) ((by simp[dx])))
@[go_sem]theorem Pk.eF(x:Pk):eF x.aA=42:=Pk.I x
@[go_sem]theorem Pk.zG(x:Pk):x.aA[0]? = some (.b .a x.kind):=by simp[Pk.aA,aG,Tu.I]
@[go_sem]theorem Pk.Jl(x:Pk):x.aA.m 1 38=x.K.aA:=by simp[Pk.aA,dD,Tu.I,qc,tX]
@[go_sem]theorem Pk.NH(x:Pk):x.aA[38]? = some (.b .a x.uT):=by simp[Pk.aA,aG,Tu.I]
@[go_sem]theorem Pk.amu(x:Pk):x.aA[39]? = some (.b .a x.C8):=by simp[Pk.aA,aG,Tu.I]
@[go_sem]theorem Pk.amv(x:Pk):x.aA[40]? = some (.b .a x.tu):=by simp[Pk.aA,aG,Tu.I]
@[go_sem]theorem Pk.apZ(x:Pk):x.aA[41]? = some (.b .a x.Gw):=by simp[Pk.aA,aG,Tu.I]
def NI:Pk:=⟨0,ae4,0,0,0,0⟩
@[go_sem]theorem ayz:cK #[bg,bQ false,aB,aB,aB,aB,aB,aB,aB,aB,aB,aB,aB,aB,aB,aB,aB,aB,bQ false,aB,aB,aB,aB,aB,aB,aB,aB,aB,aB,aB,aB,aB,aB,aB,aB,bg,bg,bg,bg,bg,bg,bg]=cK NI.aA:=rfl
@[go_sem]theorem auu:eO #[bg,bQ false,aB,aB,aB,aB,aB,aB,aB,aB,aB,aB,aB,aB,aB,aB,aB,aB,bQ false,aB,aB,aB,aB,aB,aB,aB,aB,aB,aB,aB,aB,aB,aB,aB,aB,bg,bg,bg,bg,bg,bg,bg] 83=eO NI.aA 83:=rfl
theorem kPk:oW 83 42 NI.aA:=⟨⟨_,vB,rfl⟩,by kernel_rfl,by kernel_rfl,Pk.I _⟩
@[go_sem ↓]theorem aJH(v:aC):cZ 83 v=xK 83 v:=rfl
@[go_sem ↓]theorem aJI(v x:aC):eU 83 v x=zk 83 v x:=rfl
@[go_sem]theorem aDw(W:au)(c:Array aC)(x:Pk)(b:Nat)(hb:b=W.a.j)(hc:eF c=42):(zk 83 (.c (some ⟨b,0,none⟩)) (.d x.aA)).J aj (W.alloc (.D c 83))=.ok () (W.alloc (.D x.aA 83)):=kPk.stN W c x.aA b hb hc (Pk.I x) (Pk.cO x)
@[go_sem]theorem aGU(W:au)(b o:Nat)(x:Pk)(h:W.O b o 42):(zk 83 (.c (some ⟨b,o,none⟩)) (.d x.aA)).J aj W=.ok () (gZ W b o x.aA):=kPk.st W b o x.aA h (Pk.I x) (Pk.cO x)
@[go_sem ↓]theorem aJJ(ps:Array (Nat×aC)):fM 83 ps=uJ 83 ps:=rfl
theorem ayA(w:au)(fs:Array oh)(h:aj.k 83=some (.d fs)):(iG (fun f=>Prod.mk f.Z <$> sizeOf f.p) fs:xA (Array (Nat×Nat))).J aj w=.ok #[(0,1),(1,37),(38,1),(39,1),(40,1),(41,1)] w:=by
 have e:=vB;rw[h]at e;cases e;show _=_
 kernel_rfl
structure Tn where
 head:Int
 dA:Int
 aR:Int
 oN:Bool
 ok:Bool
def Tn.aA(x:Tn):Array aC:=#[.b .a x.head,.b .a x.dA,.b .a x.aR,.e x.oN,.e x.ok]
theorem Tn.I(x:Tn):x.aA.j=5:=by simp[Tn.aA]
theorem Tn.cO(x:Tn):x.aA.all (·.h)=true:=by simp[Tn.aA,dx]
@[go_sem]theorem Tn.yw(x:Tn):x.aA[1]? = some (.b .a x.dA):=by simp[Tn.aA,aG]
@[go_sem]theorem Tn.ayB(x:Tn):x.aA[4]? = some (.e x.ok):=by simp[Tn.aA,aG]
def sS:Tn:=⟨0,0,0,false,false⟩
@[go_sem]theorem ayC:cK #[aJ bU 0,aJ bU 0,aJ bU 0,bQ false,bQ false]=cK sS.aA:=rfl
@[go_sem]theorem auw:eO #[aJ bU 0,aJ bU 0,aJ bU 0,bQ false,bQ false] 179=eO sS.aA 179:=rfl
theorem kTn:oW 179 5 sS.aA:=⟨⟨_,uh,rfl⟩,by kernel_rfl,by kernel_rfl,Tn.I _⟩
@[go_sem ↓]theorem aJK(v:aC):cZ 179 v=xK 179 v:=rfl
@[go_sem ↓]theorem aJL(v x:aC):eU 179 v x=zk 179 v x:=rfl
@[go_sem]theorem aGV(W:au)(b o:Nat)(x:Tn)(h:W.O b o 5):(zk 179 (.c (some ⟨b,o,none⟩)) (.d x.aA)).J aj W=.ok () (gZ W b o x.aA):=kTn.st W b o x.aA h (Tn.I x) (Tn.cO x)
@[go_sem ↓]theorem aJM(ps:Array (Nat×aC)):fM 179 ps=uJ 179 ps:=rfl
theorem ayD(w:au)(fs:Array oh)(h:aj.k 179=some (.d fs)):(iG (fun f=>Prod.mk f.Z <$> sizeOf f.p) fs:xA (Array (Nat×Nat))).J aj w=.ok #[(0,1),(1,1),(2,1),(3,1),(4,1)] w:=by
 have e:=uh;rw[h]at e;cases e;show _=_
 kernel_rfl
@[go_sem]theorem aDx(W:au):(uJ 179 #[]).J aj W=.ok (.d sS.aA) W:=kTn.bd0 W _ uh ⟨_,ayD W _ uh⟩
@[go_sem]theorem ayE(W:au)(head:Int)(dA:Int)(aR:Int)(oN:Bool)(ok:Bool):(uJ 179 #[(0,.b .a head),(1,.b .a dA),(2,.b .a aR),(3,.e oN),(4,.e ok)]).J aj W=.ok (.d (Tn.mk head dA aR oN ok).aA) W:=kTn.bd W _ _ _ _ uh (ayD W _ uh) (by
 refine uS (Tn.I _) ?_ ?_
 ·simp[rM,bZ]
 ·simp[qW,bZ,Tn.aA]<;>(simp only[<-gB];rfl))
structure Lc where
 Y:Vector UInt8 6
 h:Vector UInt8 6
 VD:Option aU
 EP:Nat
 ahC:Nat
 oG:Int
 fG:Int
def Lc.aA(x:Lc):Array aC:=AO x.Y++(AO x.h ++ #[.a x.VD x.EP x.ahC,.b .a x.oG,.b .a x.fG])
theorem Lc.I(x:Lc):x.aA.j=15:=by simp[Lc.aA,gM]
theorem Lc.cO(x:Lc):x.aA.all (·.h)=true:=iq (aa1 _) (iq (aa1 _) ((by simp[dx])))
@[go_sem]theorem Lc.eF(x:Lc):eF x.aA=15:=Lc.I x
@[go_sem]theorem Lc.all(x:Lc):x.aA.m 0 15=x.aA:=by have:=Lc.I x;rw[<-this];simp
@[go_sem]theorem Lc.Jk(x:Lc):x.aA.m 0 6=AO x.Y:=by simp[Lc.aA,dD,gM,qc,tX]
@[go_sem]theorem Lc.Jj(x:Lc):x.aA.m 6 12=AO x.h:=by simp[Lc.aA,dD,gM,qc,tX]
@[go_sem]theorem Lc.aa6(x:Lc):x.aA[12]? = some (.a x.VD x.EP x.ahC):=by simp[Lc.aA,aG,gM]
@[go_sem]theorem Lc.Eb(x:Lc):x.aA[13]? = some (.b .a x.oG):=by simp[Lc.aA,aG,gM]
@[go_sem]theorem Lc.Ma(x:Lc):x.aA[14]? = some (.b .a x.fG):=by simp[Lc.aA,aG,gM]
theorem Lc.amw(x:Lc)(A:Option aU)(n c:Nat):x.aA.b 12 (.a A n c)=({x with VD:=A,EP:=n,ahC:=c}:Lc).aA:=by simp[Lc.aA,aN,gM]
theorem Lc.TM(x:Lc)(v:Int):x.aA.b 13 (.b .a v)=({x with oG:=v}:Lc).aA:=by simp[Lc.aA,aN,gM]
theorem Lc.ap1(x:Lc)(v:Int):x.aA.b 14 (.b .a v)=({x with fG:=v}:Lc).aA:=by simp[Lc.aA,aN,gM]
def qQ:Lc:=⟨(bH 6 0),(bH 6 0),none,0,0,0,0⟩
@[go_sem]theorem ayF:cK #[aB,aB,aB,aB,aB,aB,aB,aB,aB,aB,aB,aB,bC none 0 0,bg,bg]=cK qQ.aA:=rfl
@[go_sem]theorem auy:eO #[aB,aB,aB,aB,aB,aB,aB,aB,aB,aB,aB,aB,bC none 0 0,bg,bg] 108=eO qQ.aA 108:=rfl
theorem kLc:oW 108 15 qQ.aA:=⟨⟨_,uj,rfl⟩,by kernel_rfl,by kernel_rfl,Lc.I _⟩
@[go_sem ↓]theorem aJN(v:aC):cZ 108 v=xK 108 v:=rfl
@[go_sem ↓]theorem aJO(v x:aC):eU 108 v x=zk 108 v x:=rfl
@[go_sem]theorem aGW(W:au)(b o:Nat)(h:vE W b o 15):(xK 108 (.c (some ⟨b,o,none⟩))).J aj W=.ok (.d (dQ W b o 15)) W:=kLc.ld W b o h
@[go_sem]theorem aDy(W:au)(c:Array aC)(x:Lc)(b:Nat)(hb:b=W.a.j)(hc:eF c=15):(zk 108 (.c (some ⟨b,0,none⟩)) (.d x.aA)).J aj (W.alloc (.D c 108))=.ok () (W.alloc (.D x.aA 108)):=kLc.stN W c x.aA b hb hc (Lc.I x) (Lc.cO x)
@[go_sem]theorem aGX(W:au)(b o:Nat)(x:Lc)(h:W.O b o 15):(zk 108 (.c (some ⟨b,o,none⟩)) (.d x.aA)).J aj W=.ok () (gZ W b o x.aA):=kLc.st W b o x.aA h (Lc.I x) (Lc.cO x)
@[go_sem ↓]theorem aJP(ps:Array (Nat×aC)):fM 108 ps=uJ 108 ps:=rfl
theorem ayG(w:au)(fs:Array oh)(h:aj.k 108=some (.d fs)):(iG (fun f=>Prod.mk f.Z <$> sizeOf f.p) fs:xA (Array (Nat×Nat))).J aj w=.ok #[(0,6),(6,6),(12,1),(13,1),(14,1)] w:=by
 have e:=uj;rw[h]at e;cases e;show _=_
 kernel_rfl
@[go_sem]theorem aDz(W:au):(uJ 108 #[]).J aj W=.ok (.d qQ.aA) W:=kLc.bd0 W _ uj ⟨_,ayG W _ uj⟩
structure Tg where
 oG:Int
 tci:Int
def Tg.aA(x:Tg):Array aC:=#[.b .a x.oG,.b .a x.tci]
theorem Tg.I(x:Tg):x.aA.j=2:=by simp[Tg.aA]
theorem Tg.cO(x:Tg):x.aA.all (·.h)=true:=by simp[Tg.aA,dx]
@[go_sem]theorem Tg.Eb(x:Tg):x.aA[0]? = some (.b .a x.oG):=by simp[Tg.aA,aG]
@[go_sem]theorem Tg.amx(x:Tg):x.aA[1]? = some (.b .a x.tci):=by simp[Tg.aA,aG]
def Sj:Tg:=⟨0,0⟩
@[go_sem]theorem ayH:cK #[aJ bU 0,aJ bU 0]=cK Sj.aA:=rfl
@[go_sem]theorem auz:eO #[aJ bU 0,aJ bU 0] 268=eO Sj.aA 268:=rfl
theorem kTg:oW 268 2 Sj.aA:=⟨⟨_,DK,rfl⟩,by kernel_rfl,by kernel_rfl,Tg.I _⟩
@[go_sem ↓]theorem aJQ(v:aC):cZ 268 v=xK 268 v:=rfl
@[go_sem ↓]theorem aJR(v x:aC):eU 268 v x=zk 268 v x:=rfl
@[go_sem]theorem aGY(W:au)(b o:Nat)(h:vE W b o 2):(xK 268 (.c (some ⟨b,o,none⟩))).J aj W=.ok (.d (dQ W b o 2)) W:=kTg.ld W b o h
@[go_sem]theorem aDA(W:au)(c:Array aC)(x:Tg)(b:Nat)(hb:b=W.a.j)(hc:eF c=2):(zk 268 (.c (some ⟨b,0,none⟩)) (.d x.aA)).J aj (W.alloc (.D c 268))=.ok () (W.alloc (.D x.aA 268)):=kTg.stN W c x.aA b hb hc (Tg.I x) (Tg.cO x)
@[go_sem ↓]theorem aJS(ps:Array (Nat×aC)):fM 268 ps=uJ 268 ps:=rfl
theorem aDB(w:au)(fs:Array oh)(h:aj.k 268=some (.d fs)):(iG (fun f=>Prod.mk f.Z <$> sizeOf f.p) fs:xA (Array (Nat×Nat))).J aj w=.ok #[(0,1),(1,1)] w:=by
 have e:=DK;rw[h]at e;cases e;show _=_
 kernel_rfl
@[go_sem]theorem ayJ(W:au)(oG:Int)(tci:Int):(uJ 268 #[(0,.b .a oG),(1,.b .a tci)]).J aj W=.ok (.d (Tg.mk oG tci).aA) W:=kTg.bd W _ _ _ _ DK (aDB W _ DK) (by
 refine uS (Tg.I _) ?_ ?_
 ·simp[rM,bZ]
 ·simp[qW,bZ,Tg.aA]<;>(simp only[<-gB];rfl))
def fq(l:List UInt8)(k:Nat):Nat:=256*(l.c k 0).e+(l.c (k+1) 0).e
theorem vH(l:List UInt8)(k:Nat):fq l k<=65535:=by
 have h1:=(l.c k 0).a;have h2:=(l.c (k+1) 0).a;unfold fq;omega
theorem Jm(l:List UInt8)(k:Nat)(h:k+1<l.a):oL (((l.f k).d 2).d 8)=fq l k:=by
 rw[UL l k h];simp[oL,fq];omega
theorem jV(n:Int)(h : -9223372036854775808<=n/\n<=9223372036854775807):bU.wrap n=n:=by simp[vK,nY,lZ];omega
section
variable (W:au) (A:Option aU) (n c B:Nat) (l:List UInt8) (k:Nat)
theorem ajj(hk:k+1<n)(hnc:n<=c)(hc:c<=9223372036854775807)(hr:fZ W W.a.j A n l):aQ aj 246 #[.a A n c,.b .a k] W (gy W (.b .a (fq l k:Nat))):=by
 have hl:=hr.len;have h0:=ah (vH l k);have h1:(k:Int)+2<=c:=by omega
 have h2:(k:Int)<=(k:Int)+2:=by omega
 have P:=hr.QE (z:=k) (b:=k+2) (c:=c) (by omega) (by omega) (by omega);rw[kI,if_neg (by omega)]at P;have C:=ah (MI _ 2 (c-k) _ W (by omega) (by omega) P);rw[Jm l k (by omega)]at C;have h3:wrap64 (fq l k:Nat)=(fq l k:Nat):=by have:=h0.i;unfold wrap64;omega
 generalize fq l k=x at *;clear P hr;go_enter Tryz.func246,Tryz.ntmps246;go_wp2_with (go_at_call 180;with_reducible refine C.i.g ?_;rintro e w' ⟨rfl,hb⟩);go_ret;exact⟨congrArg (fun z=>ug (.b .a z)) h3,hb⟩
theorem aa8(i:Int)(hi:i=k)(hk:k+1<n)(hnc:n<=c)(hc:c<=9223372036854775807)(hr:fZ W W.a.j A n l):aQ aj 246 #[.a A n c,.b .a i] W (gy W (.b .a (fq l k:Nat))):=by subst hi;exact ajj W A n c l k hk hnc hc hr
theorem amy(hk:k+1<n)(hnc:n<=c)(hc:c<=9223372036854775807)(hr:fZ W W.a.j A n l):aQ aj 249 #[.a A n c,.b .a k] W (gy W (.b .a (fq l k:Nat))):=by
 have hl:=hr.len;have h0:=ah (vH l k);have h1:(k:Int)+2<=c:=by omega
 have h2:(k:Int)<=(k:Int)+2:=by omega
 have P:=hr.QE (z:=k) (b:=k+2) (c:=c) (by omega) (by omega) (by omega);rw[kI,if_neg (by omega)]at P;have C:=ah (MI _ 2 (c-k) _ W (by omega) (by omega) P);rw[Jm l k (by omega)]at C;have h3:wrap64 (fq l k:Nat)=(fq l k:Nat):=by have:=h0.i;unfold wrap64;omega
 generalize fq l k=x at *;clear P hr;go_enter Tryz.func249,Tryz.ntmps249;go_wp2_with (go_at_call 180;with_reducible refine C.i.g ?_;rintro e w' ⟨rfl,hb⟩);go_ret;exact⟨congrArg (fun z=>ug (.b .a z)) h3,hb⟩
theorem amA(i:Int)(hi:i=k)(hk:k+1<n)(hnc:n<=c)(hc:c<=9223372036854775807)(hr:fZ W W.a.j A n l):aQ aj 249 #[.a A n c,.b .a i] W (gy W (.b .a (fq l k:Nat))):=by subst hi;exact amy W A n c l k hk hnc hc hr
theorem ajk(hk:k+1<n)(hnc:n<=c)(hc:c<=9223372036854775807)(hr:fZ W W.a.j A n l):aQ aj 177 #[.a A n c,.b .a k] W (gy W (.b .a (fq l k:Nat))):=by
 have hl:=hr.len;have h0:=ah (vH l k);have h1:(k:Int)+2<=c:=by omega
 have h2:(k:Int)<=(k:Int)+2:=by omega
 have P:=hr.QE (z:=k) (b:=k+2) (c:=c) (by omega) (by omega) (by omega);rw[kI,if_neg (by omega)]at P;have C:=ah (MI _ 2 (c-k) _ W (by omega) (by omega) P);rw[Jm l k (by omega)]at C;have h3:wrap64 (fq l k:Nat)=(fq l k:Nat):=by have:=h0.i;unfold wrap64;omega
 generalize fq l k=x at *;clear P hr;go_enter Tryz.func177,Tryz.ntmps177;go_wp2_with (go_at_call 180;with_reducible refine C.i.g ?_;rintro e w' ⟨rfl,hb⟩);go_ret;exact⟨congrArg (fun z=>ug (.b .a z)) h3,hb⟩
theorem NJ(i:Int)(hi:i=k)(hk:k+1<n)(hnc:n<=c)(hc:c<=9223372036854775807)(hr:fZ W W.a.j A n l):aQ aj 177 #[.a A n c,.b .a i] W (gy W (.b .a (fq l k:Nat))):=by subst hi;exact ajk W A n c l k hk hnc hc hr
theorem afY(hk:k+1<n)(hnn:n<=1000000000)(hr:fZ W B A n l):aQ aj 299 #[.a A n c,.b .a k] W fun e W'=>e=.a (.b .a (fq l k:Nat))/\∃q,W'=W.drewN q:=by
 obtain⟨a,rfl,_,h1⟩:=hr.fG (show k<n by omega);obtain⟨a',e,_,h2⟩:=hr.fG hk;injection e with e
 subst e;have h3:=h2;unfold qH at h3;rw[if_neg (by omega)]at h3;have H:=ah (show fq l k=256*(l.c k 0).e+(l.c (k+1) 0).e from rfl);have b1:=(l.c k 0).a;have b2:=(l.c (k+1) 0).a;unfold bv at h1 h2 h3;generalize(l.c k 0).e=x at *;generalize(l.c (k+1) 0).e=y at *;have hk1:(k:Int)<n:=by omega
 have hk2:(k:Int)+1<n:=by omega
 have hk3:(0:Int)<=(k:Int)+1:=by omega
 have w1:=jV ((k:Int)+1) (by omega);have w2:=jV (x:Int) (by omega);have w3:=jV (y:Int) (by omega);have w4:=jV (256*(x:Int)) (by omega);have w5:=jV (256*(x:Int)+y) (by omega);clear hr;go_enter Tryz.func299,Tryz.ntmps299;go_wp2_with fail;go_quiet (fail);go_wp2;go_ret;exact⟨by rw[H.i];rfl,_,rfl⟩
theorem Jo(hk:2<=n)(hnc:n<=c)(hc:c<=9223372036854775807)(hr:fZ W W.a.j A n l):aQ aj 173 #[.a A n c] W (gy W (.b .a (fq l 0:Nat))):=by
 have hl:=hr.len;have h0:=ah (vH l 0);have h1:(2:Int)<=c:=by omega
 have P:fZ W W.a.j A 2 (l.d 2):=by
  have:=Rd.upto hr (k:=2) (by omega);rw[gL,<-Ap]at this;exact this
 have C:=ah (MI _ 2 c _ W (by omega) (by omega) P);rw[show oL ((l.d 2).d 8)=fq l 0 from Jm l 0 (by omega)]at C;have h3:wrap64 (fq l 0:Nat)=(fq l 0:Nat):=by have:=h0.i;unfold wrap64;omega
 generalize fq l 0=x at *;clear P hr;go_enter Tryz.func173,Tryz.ntmps173;go_wp2_with (go_at_call 180;with_reducible refine C.i.g ?_;rintro e w' ⟨rfl,hb⟩);go_ret;exact⟨congrArg (fun z=>ug (.b .a z)) h3,hb⟩
def tY(n:Int):Bool:=decide (n=33024\/n=34984)
theorem aa9(n:Int):aQ aj 174 #[.b .a n] W fun e W'=>e=.a (.e (tY n))/\W=W':=by
 go_enter Tryz.func174,Tryz.ntmps174;go_wp2
 all_goals(go_ret;refine⟨?_,rfl⟩;(by_cases h1:n=33024<;>by_cases h2:n=34984<;>simp_all[tY]))
end
structure Lk where
 Y:Vector UInt8 6
 h:Vector UInt8 6
 fK:List Tg
 oG:Int
 fG:Nat
def ER:Lk:=⟨bH 6 0,bH 6 0,[],0,0⟩
def C9(l:List UInt8):Nat->Nat->List Tg->Lk×Int
 | m,k,fK=>if tY (fq l (k-2))then(match m with
  | 0=>(ER,4)
  | m+1=>if l.a<k+4 then(ER,2)else C9 l m (k+4) (fK++[⟨fq l (k-2),fq l k⟩]))
   else(⟨qh 6 l,qh 6 (l.f 6),fK,fq l (k-2),k⟩,0)
theorem zQ{l:List UInt8}{m k:Nat}{fK:List Tg}(h:tY (fq l (k-2):Nat)=false):C9 l m k fK=(⟨qh 6 l,qh 6 (l.f 6),fK,fq l (k-2),k⟩,0):=by cases m<;>simp[C9,h]
theorem Kh{l:List UInt8}{k:Nat}{fK:List Tg}(h:tY (fq l (k-2):Nat)=true):C9 l 0 k fK=(ER,4):=by simp[C9,h]
theorem Cb{l:List UInt8}{m k:Nat}{fK:List Tg}(h:tY (fq l (k-2):Nat)=true)(h2:l.a<k+4):C9 l (m+1) k fK=(ER,2):=by simp[C9,h,h2]
theorem ET{l:List UInt8}{m k:Nat}{fK:List Tg}(h:tY (fq l (k-2):Nat)=true)(h2:¬l.a<k+4):C9 l (m+1) k fK=C9 l m (k+4) (fK++[⟨(fq l (k-2):Nat),(fq l k:Nat)⟩]):=by simp[C9,h,h2]
def mJ(l:List UInt8):Lk×Int:=if l.a<14 then(ER,2)else C9 l 2 14 []
def Lk.cell(x:Lk)(A:Option aU)(c:Nat):Lc:=⟨x.Y,x.h,A,x.fK.a,c,x.oG,x.fG⟩
def LkP(W:au)(r:Lk×Int)(e:lu)(W':au):Prop:=∃A c,e=.a (.K #[.d (r.1.cell A c).aA,.b .a r.2])/\iF Tg.aA 2 W' W'.a.j A r.1.fK.a r.1.fK/\aM W.a.j W W'
theorem Gy{q r v:Array aC}(h:v.j=q.j):sG (q++r) 0 v=v++r:=by
 have:=Vx #[] (q++r) v (by simp;omega);simp only[Array.empty_append,Array.size_empty]at this;rw[this,h];simp[dD,tX]
theorem qR{p q r v:Array aC}(h:v.j=q.j)(k:Nat)(hk:p.j=k):sG (p++(q++r)) k v=p++(v++r):=by
 subst hk;rw[Vx p (q++r) v (by simp;omega),h,gB];simp[dD,tX]
theorem dN.setCells{W:au}{b:Nat}{c:Array aC}(h:dN W b c)(o:Nat)(vs:List aC):dN (W.setCells b o vs) b (sG c o vs.b):=by
 obtain⟨t,h⟩:=h;exact⟨t,Ui b t vs o c W h⟩
theorem Lc.aa'(x:Lc)(v:Vector UInt8 6):sG x.aA 0 (AO v)=({x with Y:=v}:Lc).aA:=by
 unfold Lc.aA;exact Gy (by rw[gM,gM])
theorem Lc.abb(x:Lc)(v:Vector UInt8 6):sG x.aA 6 (AO v)=({x with h:=v}:Lc).aA:=by
 unfold Lc.aA;exact qR (by rw[gM,gM]) 6 (gM _)
theorem EU{P:eX}(W:au){B y o m n c d:Nat}{A:Option aU}{l:List UInt8}(hR:fZ W B A n l)(hm:m<=n)(hm0:0<m)(hth:W.O y o m)(T ty e:bF)(hu:P.k T=some (.a e))(hs:(P.l e).map (·.j)=some 1):
 (qI #[T,T] ty #[.a (some ⟨y,o,none⟩) m d,.a A n c]).J P W=.ok (goInt m) (W.setCells y o ((l.d m).map bv)):=by
 have hn:=hR.len;obtain⟨a,rfl,_,hc⟩:=hR.2 (by omega);have hl:((l.d m).map bv).a=m:=by simp;omega
 have:=run_copy_cells (P:=P) W T T ty e y o m d a n c ((l.d m).map bv) hu hs (by rw[hl];exact(Nat.min_eq_right hm).symm) (fun j v hj=>hc j v (by
  have hj2:j<m:=by
   rcases aZ j m with h|h
   ·exact h
   ·rw[aT (by rw[hl];exact h)]at hj;cases hj
  rw[jm,iy hj2,<-jm]at hj;exact hj)) (fun j hj=>(hth j (by rw[hl]at hj;exact hj)).1) (fun j hj=>(hth j (by rw[hl]at hj;exact hj)).2) (Di _)
 rw[hl]at this;exact this
theorem NK(k:Nat)(l:List UInt8)(h:k<=l.a):(l.d k).map bv=(qh k l).a.map bv:=by
 congr 1;apply iN;intro j;rcases aZ j k with hj|hj
 ·rw[iy hj]
  simp[qh,hj,av,aD (show j<l.a by omega)]
 ·rw[aT (by simp;omega),aT (by simpa using hj)]
theorem ap2:aaY 106 268 Tg.aA 2:=by
 obtain⟨i,h1,h2,h3⟩:=kTg.afU;have h4:(aj.l 268).map (fun i=>decide (i.bytes<=1000))=some true:=by kernel_rfl
 rw[h1]at h4;simp at h4;exact⟨i,_,Tryz.underlying106,h1,h3,h2,Tg.I _,by omega,h4,Tg.I,Tg.cO⟩
def ase(n:Nat)(ps:Array (Nat×aC)):xA aC:=bK 106 n ps
@[go_sem ↓]theorem ayK(n:Nat)(ps:Array (Nat×aC)):bK 106 n ps=ase n ps:=rfl
@[go_sem]theorem awI(w:au)(x:Tg):(ase 1 #[(0,.d x.aA)]).J aj w=.ok (.a (some ⟨w.a.j,0,none⟩) 1 1) (w.alloc (.D x.aA 268)):=by
 obtain⟨i,h1,h2,h3⟩:=kTg.afU;exact rR w _ _ i (.d Sj.aA) 2 Tryz.underlying106 h1 h3 h2 (Tg.I _) (by omega) (by omega) x.aA (Tg.I x)
section
variable {α:Type} {f:α->Array aC} {sz:Nat} {e:bF} {L:List (Nat×Array aC)} {w0 W:au} {v:aC} {l:List α} {q:Nat} {c:Array aC}
theorem Rz.amB(h:Rz f sz e ((q,c)::L) w0 W v l)(hq:w0.a.j<=q)(hL:∀p∈L,p.1≠q)(j:Nat)(u:aC):Rz f sz e ((q,c.b j u)::L) w0 (W.G ⟨q,j,none⟩ u) v l:=
 ⟨Uh h.vD (h.I (q,c) (by simp)).2 u,h.R.G hq u,fun p hp=>by
  rcases bE.1 hp with rfl|hp
  ·exact⟨h.X.eH j u,(h.I (q,c) (by simp)).2⟩
  ·obtain⟨h1,h2⟩:=h.I p (by simp[hp]);exact⟨h1.dR _ u (fun e=>hL p hp e.symm),h2⟩⟩
theorem abd{base size n:Nat}{xs:List aC}(vs:List aC):∀(o:Nat)(W:au),W.c base e size v n xs->v.f≠some q->(W.setCells q o vs).c base e size v n xs:=by
 induction vs with
 | nil=>exact fun _ _ h _=>h
 | cons u vs ih=>intro o W h hq;exact ih (o+1) _ (Uh h hq u) hq
theorem Rz.auA(h:Rz f sz e ((q,c)::L) w0 W v l)(hq:w0.a.j<=q)(hL:∀p∈L,p.1≠q)(o:Nat)(x:Array aC):Rz f sz e ((q,sG c o x)::L) w0 (gZ W q o x) v l:=
 ⟨abd _ _ _ h.vD (h.I (q,c) (by simp)).2,lg h.R q o x hq,fun p hp=>by
  rcases bE.1 hp with rfl|hp
  ·exact⟨by have:=h.X.setCells o x.a;simpa[gZ]using this,(h.I (q,c) (by simp)).2⟩
  ·obtain⟨h1,h2⟩:=h.I p (by simp[hp]);exact⟨h1.gK (hL p hp),h2⟩⟩
theorem Rz.swap{p1 p2:Nat×Array aC}(h:Rz f sz e (p1::p2::L) w0 W v l):Rz f sz e (p2::p1::L) w0 W v l:=
 ⟨h.vD,h.R,fun p hp=>h.I p (by simp at hp⊢;rcases hp with h|h|h<;>simp[h])⟩
end
theorem Rz.ans{α:Type}{f:α->Array aC}{sz:Nat}{e:bF}{w0 W:au}{v:aC}{l:List α}{q r:Nat}{c d x:Array aC}(h:Rz f sz e [(q,c),(r,d)] w0 W v l)(hr:w0.a.j<=r)(hne:r≠q)(hx:x.j=d.j):Rz f sz e [(r,x),(q,c)] w0 (gZ W r 0 x) v l:=by
 have h1:=h.swap.auA hr (fun p hp=>by rw[fT.1 hp];exact fun e=>hne e.symm) 0 x;refine⟨h1.vD,h1.R,fun p hp=>?_⟩;rcases bE.1 hp with rfl|hp
 ·exact⟨h.b1.put x hx,(h.I (r,d) (by simp)).2⟩
 ·exact h1.I p (by simp[hp])
theorem auB{ops:Array je}{o:je}{a:qY}{W:au}{K:qY->au->Prop}{Q:zW->qY->au->Prop}{E:Prop}(hgd:o.guard=none)(h:nI aj o a W K Q):if fF o (yielded ops a.tmps)=true then nI aj o a W K Q else E:=by
 have hw:fF o (yielded ops a.tmps)=true:=by simp[fF,hgd]
 rw[if_pos hw];exact h
theorem auC{α:Type}{f:α->Array aC}{sz:Nat}{e t:bF}{L:List (Nat×Array aC)}{w0 W:au}{l ys:List α}(T:aaY t e f sz){ops:Array je}{o:je}{a:qY}{K:qY->au->Prop}{Q:zW->qY->au->Prop}{E:Prop}(hgd:o.guard=none)(s x:pR)
 (ho:o.op=.call {callee:=.builtin .append,args:=#[s,x],argTypes:=#[t,t]}) (v:aC) (A:Option aU) (m c:Nat) (hs:a.eval s=v) (H:Rz f sz e L w0 W v l) {C:Nat} (hx:a.eval x=.a A m c) (hr:iF f sz W C A m ys)
 (hlen:l.a+m<=1000000)
 (h:∀A' n' c' w',Rz f sz e L w0 w' (.a A' n' c') (l++ys)->W.d w' v.f->K (a.put o.Y (.a A' n' c')) w'):if fF o (yielded ops a.tmps)=true then nI aj o a W K Q else E:=
 apO T hgd s x ho hs H hx hr hlen h
@[go_sem]theorem ayL(W:au)(t k:Int):(uJ 108 #[(3,.b .a t),(4,.b .a k)]).J aj W=.ok (.d (Lc.mk (bH 6 0) (bH 6 0) none 0 0 t k).aA) W:=
 kLc.bd W _ _ _ _ uj (ayG W _ uj) rfl
def nX(l:List UInt8)(k:Nat):Nat:=(l.c k 0).e
theorem uU(l:List UInt8)(k:Nat):nX l k<256:=(l.c k 0).a
def Jp(l:List UInt8):fE:=⟨false,qh 16 (l.d 4)⟩
def Mc(l:List UInt8):Nat:=nX l 0%16*4
def PY(l:List UInt8):Fo:=⟨Mc l,fq l 2,nX l 1,fq l 4,decide (fq l 6%16384≠0),decide (fq l 6/16384%2=1),nX l 8,nX l 9,Jp (l.f 12),Jp (l.f 16)⟩
def Dt(l:List UInt8):Int:=
 if l.a<20 then 2 else if nX l 0/16≠4\/Mc l<20 then 3 else if l.a<Mc l then 2 else if fq l 2<Mc l then 3
 else if l.a<fq l 2 then 2 else if wX (l.d (Mc l))≠0 then 8 else 0
def zZ(l:List UInt8):Fo×Int:=if Dt l=0 then(PY l,0)else(xq,Dt l)
theorem fE.Jq(a:fE):a.aA = #[.e a.h]++jg a.b:=by simp[fE.aA,jg]
section
variable (W:au) (A:Option aU) (n c B:Nat) (l:List UInt8)
theorem aDD(l:List UInt8)(h:4<=l.a):sG nE.aA 1 ((l.d 4).map bv).b=(Jp l).aA:=by
 apply eB;intro j;rw[Ep,fE.Jq,fE.Jq];rcases j with _|j
 ·simp[nE,Jp,aG]
 ·rw[asb,asb]
  have hs:((l.d 4).map bv).b.j=4:=by simp;omega
  rw[hs,om,dL];have hb:∀v:Vector UInt8 16,∀k,k<16->(jg v)[k]? = some (bv (v.a.c k 0)):=by
   intro v k hk;simp[jg,av,hk]
  rcases(show j<4\/(4<=j/\j<16)\/16<=j by omega)with h|⟨h,h'⟩|h
  ·rw[if_pos ⟨by omega,by omega,by simp;omega⟩,hb _ _ (by omega)]
   simp[Jp,qh,show j<16 by omega,h,av,iy h,aD (show j<l.a by omega)]
  ·rw[if_neg (by omega),hb _ _ h',hb _ _ h']
   have:(l.d 4).a<=j:=by simp;omega
   congr 2;rw[show nE.b.a=eu 16 0 from Vector.toList_replicate,av,List.getElem?_replicate,if_pos h'];simp[Jp,qh,h',av,aT this]
  ·rw[if_neg (by omega),aV (by rw[dL];exact h),aV (by rw[dL];exact h)]
theorem YN(hn:4<=n)(hr:fZ W W.a.j A n l):aQ aj 248 #[.a A n c] W (gy W (.d (Jp l).aA)):=by
 have hl:=hr.len;have B1:=ah (((aH W.a.j W).alloc (ay _) (.D nE.aA 27)).alloc (by simp) (.D nE.aA 27));have x1:=ah (dN.Rb W (.D nE.aA 27) nE.aA 27);have x0:=ah ((dN.new W nE.aA 27).alloc (.D nE.aA 27));have R1:=ah ((hr.S B1.i).lH B1.i.j:fZ ((W.alloc (.D nE.aA 27)).alloc (.D nE.aA 27)) ((W.alloc (.D nE.aA 27)).alloc (.D nE.aA 27)).a.j A n l);go_enter Tryz.func248,Tryz.ntmps248;generalize hw1:(W.alloc (.D nE.aA 27)).alloc (.D nE.aA 27)=w1 at B1 x1 x0 R1;have cp:∀ty,(qI #[56,56] ty #[.a (some ⟨W.a.j+1,1,none⟩) 4 16,.a A n c]).J aj w1=.ok (goInt 4) (gZ w1 (W.a.j+1) 1 ((l.d 4).map bv).b):=fun ty=>by
  have h1:=x1.i.O 1 4 (by rw[fE.I];omega);have:=EU (c:=c) (d:=16) w1 R1.i (m:=4) hn (by omega) h1 56 ty 5 cu amc;rw[this];simp only[gZ,List.toList_toArray];rfl
 have x2:=ah (x1.i.setCells 1 ((l.d 4).map bv));rw[aDD l (by omega)]at x2;have x3:=ah (show dN (gZ w1 (W.a.j+1) 1 ((l.d 4).map bv).b) (W.a.j+1) (Jp l).aA by have:=x2.i;simp only[gZ,List.toList_toArray];exact this);have x4:=ah (show dN (gZ w1 (W.a.j+1) 1 ((l.d 4).map bv).b) W.a.j nE.aA from x0.i.gK (by omega));have B2:=ah (lg B1.i (W.a.j+1) 1 ((l.d 4).map bv).b (by omega));obtain⟨a,ha⟩:=dw (Jp l);rw[<-ha]at x3 ⊢;clear ha;obtain⟨v,hv⟩:=dw (((l.d 4).map bv).b);rw[<-hv]at cp x3 x4 B2;clear hv x2;obtain⟨y1,y2,y3,y4⟩:=x3.i.M;have th:=x4.i.O 0 17 (by rw[fE.I];omega);go_upto_region 2 with fail
 clear hw1;go_wp2;have x5:=ah (x4.i.put a.aA (by rw[fE.I,fE.I]));refine aO (aa2.zm rfl _ rfl x5.i (fE.I _)) rfl ?_;exact⟨rfl,lg B2.i _ _ _ (ay _)⟩
end
theorem ayM(b:Nat)(h:b<256):bits .and .b (b:Int) 15=((b%16:Nat):Int):=(by decide +kernel:∀b:Fin 256,bits .and .b ((b.val:Nat):Int) 15=((b.val%16:Nat):Int)) ⟨b,h⟩
theorem ayN(x:Nat)(hx:x<=65535):(bits .and .a (x:Int) 16383 != 0)=decide (x%16384≠0):=by
 have h1:(gD 64 (x:Int)).e=x:=by rw[mh,nK];exact fP (by omega)
 have:bits .and .a (x:Int) 16383=((x%16384:Nat):Int):=by
  show bU.wrap ((gD 64 (x:Int) &&& gD 64 16383).e:Int)=_;rw[FL,h1,show(gD 64 16383).e=2^14-1 by decide,Nat.and_two_pow_sub_one_eq_mod,jV _ (by omega)]
 rw[this,cB];simp;omega
theorem ap3(x k:Nat):(x &&& 2^k=0)↔x.testBit k=false:=by
 constructor
 ·intro h
  have:=congrArg (fun z=>Nat.testBit z k) h;simpa[Nat.testBit_and,Nat.testBit_two_pow]using this
 ·intro h
  apply Nat.eq_of_testBit_eq;intro i;rw[Nat.testBit_and,Nat.testBit_two_pow,Nat.zero_testBit];by_cases hi:k=i
  ·subst hi;simp[h]
  ·simp[hi]
theorem ajl(x:Nat)(hx:x<=65535):(bits .and .a (x:Int) 16384 != 0)=decide (x/16384%2=1):=by
 have h1:(gD 64 (x:Int)).e=x:=by rw[mh,nK];exact fP (by omega)
 have h2:x &&& 2^14<=x:=Nat.and_le_left;have:bits .and .a (x:Int) 16384=((x &&& 2^14:Nat):Int):=by
  show bU.wrap ((gD 64 (x:Int) &&& gD 64 16384).e:Int)=_;rw[FL,h1,show(gD 64 16384).e=2^14 by decide,jV _ (by omega)]
 have h3:=ap3 x 14;rw[Nat.testBit_eq_decide_div_mod_eq]at h3;have h4:((x &&& 2^14:Nat):Int)=0↔x &&& 2^14=0:=by omega
 rw[this,cB,bne_iff_ne,decide_eq_true_eq,Ne,h4,h3,decide_eq_false_iff_not,Classical.not_not]
theorem Gz{l:List UInt8}{k:Int}(h:Dt l=k)(hk:k≠0):zZ l=(xq,k):=by unfold zZ;rw[h,if_neg hk]
theorem auD{l:List UInt8}(h:Dt l=0):zZ l=(PY l,0):=by unfold zZ;rw[if_pos h]
def FoP(W:au)(r:Fo×Int)(e:lu)(W':au):Prop:=e=.a (.K #[.d r.1.aA,.b .a r.2])/\aM W.a.j W W'
theorem ap4:lD 1 = #[0]:=by apply o9;rw[j5];rfl
@[go_sem]theorem asf(w:au)(A:Option aU)(a b:Nat):(Gu 1 #[(0,.a A a b)]).J aj w=.ok (.a (some ⟨w.a.j,0,none⟩) 1 1) (w.alloc (.D #[.a A a b] 56)):=by
 obtain⟨i0,hi0,hz0,hz1⟩:=Tp;simp[Gu,bK,dJ DF,zeroValue,sizeOf,typeInfo,hi0,hz0,hz1,fD,newRow,bZ,ap4]
theorem fZ.Xz{w:au}{B n:Nat}{A:Option aU}{l:List UInt8}(h:fZ w B A n l)(k:Nat)(hk:k+1<n):∃a,A=some a/\w.b ⟨a.block,a.off+(k+1),none⟩=some (.b .b (nX l (k+1))):=by
 obtain⟨a,e,_,h1⟩:=h.fG hk;unfold qH at h1;rw[if_neg (by omega)]at h1;exact⟨a,e,h1⟩
theorem NM(W:au)(A:Option aU)(n c:Nat)(l:List UInt8)(hnc:n<=c)(hc:c<=9223372036854775807/\n<=1000000000)(hr:fZ W W.a.j A n l):aQ aj 175 #[.a A n c] W (FoP W (zZ l)):=by
 have HR:=ah hr;have hl:=ah hr.len;have b0:=ah (dN.new W xq.aA 192);have B0:=ah ((aH W.a.j W).alloc (ay _) (.D xq.aA 192));clear hr;go_enter Tryz.func175,Tryz.ntmps175;by_cases h20:n<20
 ·have ap5:(n:Int)<20:=by omega
  have H:=ah (show zZ l=(xq,2)from Gz (by unfold Dt;rw[if_pos (by rw[hl.i];exact h20)]) (by decide));go_wp2;refine aO (kFo.qK rfl _ rfl b0.i (Fo.I _)) rfl ?_;rw[H.i];exact⟨rfl,B0.i⟩
 have ap5:¬(n:Int)<20:=by omega
 have i0:(0:Int)<n:=by omega
 have i0':0<n:=by omega
 generalize hw1:W.alloc (.D xq.aA 192)=w1 at b0 B0;obtain⟨T,f,n0,E0,es,ew⟩:=EC (fun W'=>aM W.a.j W W'/\dN W' W.a.j xq.aA) w1 ⟨B0.i.drew,b0.i.drew⟩;have hT:Nonempty T:=⟨n0⟩
 have ES:=ah es;have EW:=ah ew;clear es ew;have RF:=ah (fun m=>(HR.i.S (ES.i m).1).lH (ES.i m).1.j:∀m,fZ (f m) (f m).a.j A n l);have C2:=ah (fun m=>aa8 (f m) A n c l 2 2 rfl (by omega) hnc (by omega) (RF.i m));have C6:=ah (fun m=>aa8 (f m) A n c l 6 6 rfl (by omega) hnc (by omega) (RF.i m));obtain⟨a,rfl,hab,hc0⟩:=HR.i.fG (show 0<n by omega);rw[OP]at hc0;have hf0:∀m,(f m).b a=some (.b .b (nX l 0)):=fun m=>((ES.i m).1.cell hab).trans hc0
 have hb:=uU l 0;have hA:=ayM _ hb;have hw16:=jV ((nX l 0%16:Nat):Int) (by omega);have hw64:=jV (((nX l 0%16:Nat):Int)*4) (by omega);clear hc0;go_upto_region 3 with fail
 clear hw1;refine nW f (by kernel_rfl) (by kernel_rfl) n0 E0 ?_
 repeat(go_big_quiet_step ((first
  | (go_at_call 246;with_reducible refine(C2.i _).g ?_;rintro e w2 ⟨rfl,hb⟩;exact⟨rfl,EW.i _ ⟨(ES.i _).1.trans (hb.g (ES.i _).1.j),(ES.i _).2.go hb⟩⟩)
  | (go_at_call 246;with_reducible refine(C6.i _).g ?_;rintro e w2 ⟨rfl,hb⟩;exact⟨rfl,EW.i _ ⟨(ES.i _).1.trans (hb.g (ES.i _).1.j),(ES.i _).2.go hb⟩⟩))))
 refine gN ?_;rintro _ ⟨m,rfl⟩;obtain⟨hS1,hS2⟩:=ES.i m;have S1:=ah hS1;have S2:=ah hS2;have R2:=ah (RF.i m);have cb:=hf0 m;clear hS1 hS2 ES EW RF C2 C6 hf0 E0 hT n0 hA hw16 hw64;generalize f m=w2 at *;have HE:=ah (fun(x:Fo)=>show dN (gZ w2 W.a.j 0 x.aA) W.a.j x.aA/\aM W.a.j W (gZ w2 W.a.j 0 x.aA)from⟨S2.i.put x.aA (by rw[Fo.I,Fo.I]),lg S1.i _ _ _ (ay _)⟩);have yO:=S2.i.O 0 42 (by rw[Fo.I];omega);obtain⟨hd,hhd⟩:=dw (Mc l);have HD:=ah hhd.symm;have ehd:(nX l 0:Int)%16*4=(hd:Int):=by rw[hhd];unfold Mc;omega
 obtain⟨t,ht⟩:=dw (fq l 2);have HT:=ah ht.symm;have htl:t<=65535:=by rw[ht];exact vH l 2
 rw[<-ht];clear hhd ht;have N20:=ah (show¬l.a<20 by rw[hl.i];exact h20);by_cases e1:¬nX l 0/16=4
 ·have q:((nX l 0:Int)/16 != 4)=true:=by rw[bne_iff_ne];omega
  have H:=ah (show zZ l=(xq,3)from Gz (by unfold Dt;rw[if_neg N20.i,if_pos (.a e1)]) (by decide));go_wp2;refine aO (kFo.qK rfl _ rfl (HE.i xq).1 (Fo.I _)) rfl ?_;rw[H.i];exact⟨rfl,(HE.i xq).2⟩
 have qe1:((nX l 0:Int)/16 != 4)=false:=by simp;omega
 by_cases e2:hd<20
 ·have q:(hd:Int)<20:=by omega
  have H:=ah (show zZ l=(xq,3)from Gz (by unfold Dt;rw[if_neg N20.i,if_pos (.b (by rw[HD.i];exact e2))]) (by decide));go_wp2;refine aO (kFo.qK rfl _ rfl (HE.i xq).1 (Fo.I _)) rfl ?_;rw[H.i];exact⟨rfl,(HE.i xq).2⟩
 have qe2:¬(hd:Int)<20:=by omega
 by_cases e3:n<hd
 ·have q:(n:Int)<hd:=by omega
  have H:=ah (show zZ l=(xq,2)from Gz (by unfold Dt;rw[if_neg N20.i,if_neg (fun h=>h.elim e1 (by rw[HD.i];exact e2)),if_pos (by rw[hl.i,HD.i];exact e3)]) (by decide));go_wp2;refine aO (kFo.qK rfl _ rfl (HE.i xq).1 (Fo.I _)) rfl ?_;rw[H.i];exact⟨rfl,(HE.i xq).2⟩
 have qe3:¬(n:Int)<hd:=by omega
 by_cases e4:t<hd
 ·have q:(t:Int)<hd:=by omega
  have H:=ah (show zZ l=(xq,3)from Gz (by unfold Dt;rw[if_neg N20.i,if_neg (fun h=>h.elim e1 (by rw[HD.i];exact e2)),if_neg (by rw[hl.i,HD.i];exact e3),if_pos (by rw[HT.i,HD.i];exact e4)]) (by decide));go_wp2;refine aO (kFo.qK rfl _ rfl (HE.i xq).1 (Fo.I _)) rfl ?_;rw[H.i];exact⟨rfl,(HE.i xq).2⟩
 have qe4:¬(t:Int)<hd:=by omega
 by_cases e5:n<t
 ·have q:(n:Int)<t:=by omega
  have H:=ah (show zZ l=(xq,2)from Gz (by unfold Dt;rw[if_neg N20.i,if_neg (fun h=>h.elim e1 (by rw[HD.i];exact e2)),if_neg (by rw[hl.i,HD.i];exact e3),if_neg (by rw[HT.i,HD.i];exact e4),if_pos (by rw[hl.i,HT.i];exact e5)]) (by decide));go_wp2;refine aO (kFo.qK rfl _ rfl (HE.i xq).1 (Fo.I _)) rfl ?_;rw[H.i];exact⟨rfl,(HE.i xq).2⟩
 have qe5:¬(n:Int)<t:=by omega
 have FE:=ah (show Dt l=if wX (l.d hd)≠0 then 8 else 0 by
  unfold Dt;rw[if_neg N20.i,if_neg (fun h=>h.elim e1 (by rw[HD.i];exact e2)),if_neg (by rw[hl.i,HD.i];exact e3),if_neg (by rw[HT.i,HD.i];exact e4),if_neg (by rw[hl.i,HT.i];exact e5),HD.i])
 have PH:fZ w2 w2.a.j (some a) hd (l.d hd):=by
  have:=Rd.upto R2.i (k:=hd) (by omega);rw[gL,<-Ap]at this;exact this
 have S3:=ah (S1.i.alloc S1.i.j (.D #[.a (some a) hd c] 56));have C13:=ah (ac2 (w2.alloc (.D #[.a (some a) hd c] 56)) w2.a.j (some a) hd c w2.a.j (l.d hd) (by omega) (ni _ _ _ _) (PH.alloc (ay _) _));have S4:=ah (S2.i.alloc (.D #[.a (some a) hd c] 56));have R4:=ah ((R2.i.alloc (ay _) (.D #[.a (some a) hd c] 56)).lH (by simp):fZ (w2.alloc (.D #[.a (some a) hd c] 56)) (w2.alloc (.D #[.a (some a) hd c] 56)).a.j (some a) n l);have i4:(hd:Int)<=c:=by omega
 have hn4:=ac1;clear PH HE yO S1 S2 R2;obtain⟨d,hd⟩:=dw (decide (wX (l.d hd)=0));have DD:=ah hd;rw[<-hd]at C13;clear hd;cases d with
 | false=>
   go_upto_region 14 with(go_at_call 247;with_reducible refine C13.i.g ?_;rintro e w3 ⟨rfl,rfl⟩)
   obtain⟨w3,hw3⟩:=dw (w2.alloc (.D #[.a (some a) hd c] 56));rw[<-hw3]at S3 S4 R4 ⊢;clear hw3 C13;have HE:=ah (fun(x:Fo)=>show dN (gZ w3 W.a.j 0 x.aA) W.a.j x.aA/\aM W.a.j W (gZ w3 W.a.j 0 x.aA)from⟨S4.i.put x.aA (by rw[Fo.I,Fo.I]),lg S3.i _ _ _ (ay _)⟩);have yO:=S4.i.O 0 42 (by rw[Fo.I];omega);have e6:¬wX (l.d hd)=0:=of_decide_eq_false DD.i.symm;have H:=ah (show zZ l=(xq,8)from Gz (by rw[FE.i,if_pos e6]) (by decide));go_wp2;refine aO (kFo.qK rfl _ rfl (HE.i xq).1 (Fo.I _)) rfl ?_;rw[H.i];exact⟨rfl,(HE.i xq).2⟩
 | true=>
   go_upto_region 15 with(go_at_call 247;with_reducible refine C13.i.g ?_;rintro e w3 ⟨rfl,rfl⟩)
   obtain⟨w3,hw3⟩:=dw (w2.alloc (.D #[.a (some a) hd c] 56));rw[<-hw3]at S3 S4 R4 ⊢;clear hw3 C13;have e6:wX (l.d hd)=0:=of_decide_eq_true DD.i.symm;have H0:=ah (show zZ l=(PY l,0)from auD (by rw[FE.i,if_neg (by simp[e6])]));obtain⟨f1,f2,f3⟩:8<n/\9<n/\12+4<=n:=by omega
   obtain⟨u,hu⟩:=dw (fq l 6);have hu0:u<=65535:=by rw[hu];exact vH l 6
   have HU:=ah hu;clear hu;have H:=ah (show zZ l=((⟨(hd:Int),(t:Int),(nX l 1:Nat),(fq l 4:Nat),decide (u%16384≠0),decide (u/16384%2=1),(nX l 8:Nat),(nX l 9:Nat),Jp (l.f 12),Jp (l.f 16)⟩:Fo),0)by rw[H0.i];unfold PY;rw[HD.i,HT.i,<-HU.i]);have HU:=ah HU.i.symm;clear H0;rw[HU.i];have G14:=ayN u hu0;have G15:=ajl u hu0;obtain⟨T,f,n0,E0,es,ew⟩:=EC (fun W'=>aM W.a.j W W'/\dN W' W.a.j xq.aA) w3 ⟨S3.i.drew,S4.i.drew⟩;have hT:Nonempty T:=⟨n0⟩
   have ES:=ah es;have EW:=ah ew;clear es ew;have RF:=ah (fun m=>(HR.i.S (ES.i m).1).lH (ES.i m).1.j:∀m,fZ (f m) (f m).a.j (some a) n l);have C4:=ah (fun m=>aa8 (f m) (some a) n c l 4 4 rfl (by omega) hnc (by omega) (RF.i m));have R12:=ah (fun m=>(RF.i m).from (z:=12) (c:=c) (by omega) hnc);have R16:=ah (fun m=>(RF.i m).from (z:=16) (c:=c) (by omega) hnc);have cne:¬c=12/\¬c=16:=by omega
   simp only[if_neg cne.1,if_neg cne.2,Option.map_some,show a.add 12=⟨a.block,a.off+12,none⟩by simp[qH],show a.add 16=⟨a.block,a.off+16,none⟩by simp[qH]]at R12 R16;have C12:=ah (fun m=>YN (f m) _ (n-12) (c-12) _ (by omega) (R12.i m));have C16:=ah (fun m=>YN (f m) _ (n-16) (c-16) _ (by omega) (R16.i m));obtain⟨_,he1,hc1⟩:=R4.i.Xz 0 (by omega);obtain⟨_,he8,hc8⟩:=R4.i.Xz 7 (by omega);obtain⟨_,he9,hc9⟩:=R4.i.Xz 8 (by omega);cases he1;cases he8;cases he9;have hf1:∀m,(f m).b ⟨a.block,a.off+1,none⟩=some (.b .b (nX l 1)):=fun m=>by
    obtain⟨_,he,hc⟩:=(RF.i m).Xz 0 (by omega);cases he;exact hc
   have hf8:∀m,(f m).b ⟨a.block,a.off+8,none⟩=some (.b .b (nX l 8)):=fun m=>by
    obtain⟨_,he,hc⟩:=(RF.i m).Xz 7 (by omega);cases he;exact hc
   have hf9:∀m,(f m).b ⟨a.block,a.off+9,none⟩=some (.b .b (nX l 9)):=fun m=>by
    obtain⟨_,he,hc⟩:=(RF.i m).Xz 8 (by omega);cases he;exact hc
   have hx1:=jV (nX l 1) (by have:=uU l 1;omega);have hx8:=jV (nX l 8) (by have:=uU l 8;omega);have hx9:=jV (nX l 9) (by have:=uU l 9;omega);clear hc1 hc8 hc9;clear R12 R16 S3 S4 R4 RF FE N20 DD HR B0 b0;refine UM f 29 (by kernel_rfl) (by kernel_rfl) n0 E0 ?_;simp only[jP,jZ,jQ,kZ]
   repeat(go_big_quiet_step ((first
    | (go_at_call 246;with_reducible refine(C4.i _).g ?_;rintro e w2 ⟨rfl,hb⟩;exact⟨rfl,EW.i _ ⟨(ES.i _).1.trans (hb.g (ES.i _).1.j),(ES.i _).2.go hb⟩⟩)
    | (go_at_call 248;with_reducible refine(C12.i _).g ?_;rintro e w2 ⟨rfl,hb⟩;exact⟨rfl,EW.i _ ⟨(ES.i _).1.trans (hb.g (ES.i _).1.j),(ES.i _).2.go hb⟩⟩)
    | (go_at_call 248;with_reducible refine(C16.i _).g ?_;rintro e w2 ⟨rfl,hb⟩;exact⟨rfl,EW.i _ ⟨(ES.i _).1.trans (hb.g (ES.i _).1.j),(ES.i _).2.go hb⟩⟩))))
   refine gN ?_;rintro _ ⟨m',rfl⟩;obtain⟨hS1,hS2⟩:=ES.i m';clear ES EW C12 C16 C4 hf1 hf8 hf9 E0;generalize f m'=w5 at *;clear hT n0;have HE:=ah (fun(x:Fo)=>show dN (gZ w5 W.a.j 0 x.aA) W.a.j x.aA/\aM W.a.j W (gZ w5 W.a.j 0 x.aA)from⟨hS2.put x.aA (by rw[Fo.I,Fo.I]),lg hS1 _ _ _ (ay _)⟩);have yO:=hS2.O 0 42 (by rw[Fo.I];omega);clear hS1 hS2;obtain⟨X,hX⟩:=dw ((⟨(hd:Int),(t:Int),(nX l 1:Nat),(fq l 4:Nat),!decide (u%16384=0),decide (u/16384%2=1),(nX l 8:Nat),(nX l 9:Nat),Jp (l.f 12),Jp (l.f 16)⟩:Fo));have H:=ah (show zZ l=(X,0)by rw[H.i,hX];simp only[ne_eq,decide_not]);rw[<-hX];clear hX;have hE:=HE.i X;clear HE G14 G15 hx1 hx8 hx9 cne;go_step;go_simp;go_step;go_step;go_simp;go_step;go_step;go_wp2;refine aO (kFo.qK rfl _ rfl hE.1 (Fo.I _)) rfl ?_;rw[H.i];exact⟨rfl,hE.2⟩
structure ajm(g:FuncId):Prop where
 J:∀(c:Nat)(w:au),aQ aj g #[.b .b c] w fun e w'=>e=.a (.e ((c:Int) != 0))/\w=w'
 enter:∀(args:Array aC)(w:au),(callFunc g args).J aj w=.ok (.enter g args) w
def nzB(l:List UInt8):Bool:=l.any fun b=>b != 0
theorem amC{l:List UInt8}(h:∀j,j<l.a->l.c j 0=0):nzB l=false:=by
 unfold nzB;rw[List.any_eq_false];intro b hb;obtain⟨j,hj,rfl⟩:=List.getElem_of_mem hb;have:=h j hj;simp[av,hj]at this;simp[this]
theorem auF{l:List UInt8}{j:Nat}(hj:j<l.a)(h:l.c j 0≠0):nzB l=true:=by
 unfold nzB;rw[List.any_eq_true];refine⟨l[j],eY _,?_⟩;simp[av,hj]at h;simp[h]
theorem ayP(g:FuncId)(G:ajm g)(A:Option aU)(n c B:Nat)(w:au)(l:List UInt8)(hc:n<=1000000000)(hr:fZ w B A n l):
 aQ aj 260 #[.a A n c,.func (.func g) #[] #[]] w fun e w'=>∃r:Int,e=.a (.b .a r)/\(decide (0<=r)=nzB l)/\w=w':=by
 have hen:=G.enter;have GG:=ah G.J;have HR:=ah hr;have hl:=ah hr.len;clear hr;go_enter Tryz.func260,Tryz.ntmps260;go_wp2;go_loop [8] (fun s8=>∃i:Nat,i<=n/\s8=.b .a i/\∀j,j<i->l.c j 0=0) (fun s8=>n-(intOf s8).e)
 case atStart=>exact⟨0,by omega,rfl,fun j h1=>by omega⟩
 case round=>
  obtain⟨i,hi,rfl,hall⟩:=hrel;have HA:=ah hall;clear hall;by_cases hlt:i<n
  ·have hin:(i:Int)<n:=by omega
   obtain⟨a,rfl,hab,hcell⟩:=HR.i.fG hlt;unfold bv at hcell;have hz:((l.c i 0).e:Int)=0↔l.c i 0=0:=by
    constructor
    ·intro h;apply mE.1;have:(0:UInt8).e=0:=rfl;omega
    ·intro h;rw[h];rfl
   have HZ:=ah hz;clear hz hab;obtain⟨m,hm⟩:∃m:Nat,m=(l.c i 0).e:=⟨_,rfl⟩
   rw[<-hm]at hcell HZ;clear hm;by_cases h0:m=0
   ·have h1:((m:Int) != 0)=false:=by rw[h0];rfl
    have hz0:l.c i 0=0:=HZ.i.1 (by omega);have HZ0:=ah hz0;clear hz0 h0;go_wp2_with (refine(GG.i m _).g ?_;rintro e w' ⟨rfl,rfl⟩);go_round
    case rel=>exact⟨i+1,by omega,by go_num,fun j h1=>by
     by_cases hji:j=i
     ·rw[hji];exact HZ0.i
     ·exact HA.i j (by omega)⟩
    case measure=>simp[intOf]<;>omega
   ·have h1:((m:Int) != 0)=true:=by rw[bne_iff_ne];omega
    have FW:=ah (auF (l:=l) (j:=i) (by rw[hl.i];exact hlt) (fun h=>h0 (by have:=HZ.i.2 h;omega)));clear h0;go_wp2_with (refine(GG.i m _).g ?_;rintro e w' ⟨rfl,rfl⟩);go_ret;exact⟨_,rfl,by rw[FW.i];simp,rfl⟩
  ·obtain rfl:i=n:=by omega
   have HS:=ah (amC (l:=l) (fun j hj=>HA.i j (by rw[hl.i]at hj;exact hj)));go_wp2;go_ret;exact⟨_,rfl,by rw[HS.i];simp,rfl⟩
theorem ahD(g:FuncId)(G:ajm g)(A:Option aU)(n c B:Nat)(w:au)(l:List UInt8)(hc:n<=1000000000)(hr:fZ w B A n l):
 aQ aj 189 #[.a A n c,.func (.func g) #[] #[]] w fun e w'=>e=.a (.e (nzB l))/\w=w':=by
 have I:=ah (ayP g G A n c B w l hc hr);clear hr;go_enter Tryz.func189,Tryz.ntmps189;go_wp2_with (go_at_call 260;refine I.i.g ?_;rintro e w' ⟨r,rfl,hr,rfl⟩);go_ret;exact⟨by simp,rfl⟩
theorem amD:ajm 354:=⟨fun c w=>by
 go_enter Tryz.func354,Tryz.ntmps354;go_wp2;go_ret;exact⟨rfl,rfl⟩,fun args w=>by kernel_rfl⟩
theorem fZ.NQ{w:au}{B b o:Nat}{l:List UInt8}(hb:b<B)(h:∀j,j<l.a->w.b ⟨b,o+j,none⟩=some (bv (l.c j 0))):fZ w B (some ⟨b,o,none⟩) l.a l:=by
 refine⟨by simp,fun h0=>⟨⟨b,o,none⟩,rfl,hb,fun j u hu=>?_⟩⟩;have hj:j<l.a:=by
  rcases aZ j l.a with h1|h1
  ·exact h1
  ·rw[aT (by simpa using h1)]at hu;cases hu
 rw[show(⟨b,o,none⟩:aU).add j=⟨b,o+j,none⟩by unfold qH;split<;>simp_all,h j hj];rw[jm,aD hj]at hu;simp only[Option.map_some,Option.some.injEq]at hu;rw[<-hu,av,aD hj];rfl
theorem Ki(a:fE):nzB (a.b.a.f 4) = !a.mU:=by
 unfold nzB fE.mU;rw[List.any_eq_not_all_not];congr 2;funext c;show(!(c != 0))=(c==0);unfold bne;rw[Bool.not_not]
theorem fZ.tail{w:au}{B h:Nat}{a:fE}(hb:h<B)(x:dN w h a.aA):fZ w B (some ⟨h,5,none⟩) 12 (a.b.a.f 4):=by
 have hl:(a.b.a.f 4).a=12:=by rw[jG,fE.axH]
 have:=fZ.NQ (w:=w) (o:=5) (l:=a.b.a.f 4) hb (fun j hj=>by
  rw[hl]at hj;rw[x.M.1 (5+j),show 5+j=(4+j)+1 by omega,fE.Ew a (4+j) (by omega)];simp[av])
 rwa [hl]at this
theorem af0(k m:Int)(w:au):aQ aj 316 #[.b .a k,.b .a m] w (gy w (.e (decide (0<=k)&&decide (k<=m)))):=by
 go_enter Tryz.func316,Tryz.ntmps316;by_cases h1:0<=k<;>by_cases h2:k<=m
 all_goals
  go_wp2;go_ret;exact⟨by simp[h1,h2],aH _ _⟩
theorem VE(a:fE)(w:au):aQ aj 317 #[.d a.aA] w (gy w (.e (!a.h&&a.mU))):=by
 have HB:=ah ((aH w.a.j w).alloc (ay _) (.D a.aA 27));have x0:=dN.new w a.aA 27;have C:=ah (ahD _ amD _ 12 12 _ _ _ (by omega) (fZ.tail (B:=w.a.j+1) (mP _) x0));have HS:=ah (Ki a);obtain⟨z,hz⟩:=dw (nzB (a.b.a.f 4));rw[<-hz]at C HS;clear hz;cases h6:a.h
 ·have H6:=ah h6
  go_enter Tryz.func317,Tryz.ntmps317;go_wp2_with fail;refine C.i.g ?_;rintro e w' ⟨rfl,rfl⟩;cases z
  all_goals
   go_wp2;go_ret;exact⟨by have:=HS.i;simp at this;simp[<-this],HB.i⟩
 ·go_enter Tryz.func317,Tryz.ntmps317
  go_wp2;go_ret;exact⟨rfl,HB.i⟩
theorem ajo(k:Int)(w:au):aQ aj 313 #[.b .a k] w (gy w (.b .a (if k=6 then 16 else if k=17 then 6 else 0))):=by
 go_enter Tryz.func313,Tryz.ntmps313;by_cases h1:k=6
 ·subst h1
  go_wp2;go_ret;exact⟨rfl,aH _ _⟩
 by_cases h2:k=17
 ·subst h2
  go_wp2;go_ret;exact⟨rfl,aH _ _⟩
 have q1:(k==6)=false:=by simp[h1]
 have q2:(k==17)=false:=by simp[h2]
 go_wp2;go_ret;exact⟨rfl,aH _ _⟩
@[go_sem]theorem aDI(W:au)(a b c d:Int):(uJ 172 #[(0,.b .a a),(1,.b .a b),(3,.b .a c),(4,.b .a d)]).J aj W=.ok (.d (Pt.mk a b 0 c d).aA) W:=TL.bd W _ _ _ _ pI (aus W _ pI) rfl
def qD(aR:Int)(l:List UInt8):Pt:=if aR=6 then⟨fq l 0,fq l 2,(nX l 13%64:Nat),(nX l 12/16*4:Nat),l.a⟩else⟨fq l 0,fq l 2,0,8,fq l 4⟩
def uV(aR:Int)(l:List UInt8):Int:=
 if aR≠6/\aR≠17 then 5 else if l.a<(if aR=6 then 20 else 8)then 2
 else if(aR=6/\(qD aR l).head<20)\/(qD aR l).dA<8 then 3 else if(l.a:Int)<max (qD aR l).head (qD aR l).dA then 2 else 0
def Jr(aR:Int)(l:List UInt8):Pt×Int:=if uV aR l=0 then(qD aR l,0)else(qP,uV aR l)
theorem uG{p:Int}{l:List UInt8}{k:Int}(h:uV p l=k)(hk:k≠0):Jr p l=(qP,k):=by unfold Jr;rw[h,if_neg hk]
theorem VF{p:Int}{l:List UInt8}(h:uV p l=0):Jr p l=(qD p l,0):=by unfold Jr;rw[if_pos h]
def PtP(W:au)(r:Pt×Int)(e:lu)(W':au):Prop:=e=.a (.K #[.d r.1.aA,.b .a r.2])/\aM W.a.j W W'
theorem fZ.upon{W w1:au}{n:Nat}{A:Option aU}{l:List UInt8}(h:fZ W W.a.j A n l)(hb:aM W.a.j W w1):fZ w1 w1.a.j A n l:=(h.S hb).lH hb.j
theorem ayQ(b:Nat)(h:b<256):bits .and .b (b:Int) 63=((b%64:Nat):Int):=(by decide +kernel:∀b:Fin 256,bits .and .b ((b.val:Nat):Int) 63=((b.val%64:Nat):Int)) ⟨b,h⟩
theorem abe(W:au)(p:Int)(A:Option aU)(n c:Nat)(l:List UInt8)(hnc:n<=c)(hc:c<=9223372036854775807/\n<=1000000000)(hr:fZ W W.a.j A n l):aQ aj 95 #[.b .a p,.a A n c] W (PtP W (Jr p l)):=by
 have HR:=ah hr;have hl:=ah hr.len;have b0:=ah (dN.new W qP.aA 172);have B0:=ah ((aH W.a.j W).alloc (ay _) (.D qP.aA 172));clear hr;go_enter Tryz.func95,Tryz.ntmps95;by_cases hp:p≠6/\p≠17
 ·have q1:(p==6)=false:=by simp[hp.1]
  have q2:(p != 17)=true:=by simp[hp.2]
  have H:=ah (show Jr p l=(qP,5)from uG (by unfold uV;rw[if_pos hp]) (by decide));go_wp2;refine aO (TL.qK rfl _ rfl b0.i (Pt.I _)) rfl ?_;rw[H.i];exact⟨rfl,B0.i⟩
 have HP:=ah hp;by_cases p6:p=6
 ·subst p6
  by_cases h20:n<20
  ·have ap5:(n:Int)<20:=by omega
   have H:=ah (show Jr 6 l=(qP,2)from uG (by unfold uV;rw[if_neg HP.i,if_pos rfl,if_pos (by rw[hl.i];exact h20)]) (by decide));go_wp2;refine aO (TL.qK rfl _ rfl b0.i (Pt.I _)) rfl ?_;rw[H.i];exact⟨rfl,B0.i⟩
  have ap5:¬(n:Int)<20:=by omega
  have h8':¬(n:Int)<8:=by omega
  have R1:=HR.i.upon B0.i;have C0:=ah (NJ _ A n c l 0 0 rfl (by omega) hnc (by omega) R1);go_upto_region 9 with(go_at_call 177;first|(refine C0.i.g ?_;rintro e w1 ⟨rfl,hb1⟩;have C2:=ah (NJ w1 A n c l 2 2 rfl (by omega) hnc (by omega) ((HR.i.upon B0.i).upon hb1));clear C0)|(refine C2.i.g ?_;rintro e w2 ⟨rfl,hb2⟩))
  have B2:=ah (B0.i.trans (hb1.g B0.i.j));have B3:=ah (B2.i.trans (hb2.g B2.i.j));have R2:=ah (HR.i.upon B3.i);have b2:=ah ((b0.i.go hb1).go hb2);clear hb1 hb2 C2;obtain⟨k,hk⟩:=dw w2.a.j;obtain⟨w3,hw3⟩:=dw (w2.alloc (.D (Pt.mk (fq l 0) (fq l 2) 0 8 n).aA 172));have x3:=ah (show dN w3 k (Pt.mk (fq l 0) (fq l 2) 0 8 n).aA by rw[hw3,hk];exact dN.new _ _ _);have b3:=ah (show dN w3 W.a.j qP.aA by rw[hw3];exact b2.i.alloc _);have R3:=ah (show fZ w3 k A n l by rw[hw3,hk];exact R2.i.alloc (ay _) _);have hlt:=b2.i.lt;have hs3:W.a.j<k:=by rw[hk];exact hlt
  rw[<-hw3,<-hk];have B4:=ah (show aM W.a.j W w3 by rw[hw3];exact B3.i.alloc B3.i.j _);clear hk hw3 hlt R2 b2 B2 B3 B0 b0;obtain⟨a,ea,hab,_⟩:=R3.i.fG (show 0<n by omega);subst ea;obtain⟨_,e12,h12⟩:=R3.i.Xz 11 (by omega);cases e12;obtain⟨_,e13,h13⟩:=R3.i.Xz 12 (by omega);cases e13;have hne:a.block≠k:=by omega
  have hne':k≠a.block:=by omega
  obtain⟨x1,x2,x4,x5⟩:=x3.i.M;obtain⟨i12,i13⟩:12<n/\13<n:=by omega
  have aDJ:=uU l 12;have hA:=ah (ayQ _ (uU l 13));have hw1:bU.wrap ((nX l 12:Int)/16)=(nX l 12:Int)/16:=jV _ (by omega);have hw2:bU.wrap ((nX l 12:Int)/16*4)=(nX l 12:Int)/16*4:=jV _ (by omega);have hw3:wrap64 ((nX l 13%64:Nat):Int)=((nX l 13%64:Nat):Int):=by unfold wrap64;omega
  have hw1:=ah hw1;have hw2:=ah hw2;have hw3:=ah hw3;have hw4:bU.wrap ((nX l 13%64:Nat):Int)=((nX l 13%64:Nat):Int):=jV _ (by omega);have hw4:=ah hw4;clear aDJ;go_region_held_law (fun W'=>W'.b ⟨a.block,a.off+12,none⟩=some (.b .b (nX l 12))/\W'.b ⟨a.block,a.off+13,none⟩=some (.b .b (nX l 13)))
   (first|exact⟨h12,h13⟩|go_keep) (fail)
  all_goals
   go_upto_region 11 with fail
  all_goals
   have eh:(nX l 12:Int)/16*4=((nX l 12/16*4:Nat):Int):=by omega
   simp only[hA.i,hw1.i,hw2.i,hw3.i,hw4.i,eh];obtain⟨g,hg⟩:=dw (nX l 13%64);obtain⟨h,hh⟩:=dw (nX l 12/16*4);have G0:=ah (show qD 6 l=⟨fq l 0,fq l 2,(g:Nat),(h:Nat),n⟩by unfold qD;rw[if_pos rfl,<-hg,<-hh,hl.i]);rw[<-hg,<-hh];clear hg hh eh hA hw1 hw2 hw3 hw4 h12 h13 x1 x2 x4 x5;have X1:=x3.i.eH 3 (.b .a (h:Int));rw[Pt.NG]at X1;have X2:=X1.eH 2 (.b .a (g:Int));rw[Pt.PW]at X2;have b5:=(b3.i.dR ⟨k,3,none⟩ (.b .a (h:Int)) (by show k≠_;omega)).dR ⟨k,2,none⟩ (.b .a (g:Int)) (by show k≠_;omega);have B5:=((B4.i.G (p:=⟨k,3,none⟩) (mQ hs3) (.b .a (h:Int))).G (p:=⟨k,2,none⟩) (mQ hs3) (.b .a (g:Int))).drew;have X2:=X2.drew;have b5:=b5.drew;clear x3 b3 B4 R3 X1;generalize((w3.G ⟨k,3,none⟩ (.b .a (h:Int))).G ⟨k,2,none⟩ (.b .a (g:Int))).drew=w5 at *;have N20:=ah (show¬l.a<(if(6:Int)=6 then 20 else 8)by rw[if_pos rfl,hl.i];exact h20);have HE:=ah (fun(x:Pt)=>show dN (gZ w5 W.a.j 0 x.aA) W.a.j x.aA/\aM W.a.j W (gZ w5 W.a.j 0 x.aA)from⟨b5.put x.aA (by rw[Pt.I,Pt.I]),lg B5 _ _ _ (ay _)⟩);have yO:=b5.O 0 5 (by rw[Pt.I];omega);obtain⟨y1,y2,y3,y4⟩:=X2.M;clear b5 B5 X2;have n8:¬(n:Int)<8:=by omega
   by_cases e1:h<20
   ·have q:(h:Int)<20:=by omega
    have H:=ah (show Jr 6 l=(qP,3)from uG (by unfold uV;rw[if_neg HP.i,if_neg N20.i,if_pos (.a ⟨rfl,by rw[G0.i];exact q⟩)]) (by decide));go_wp2;refine aO (TL.qK rfl _ rfl (HE.i qP).1 (Pt.I _)) rfl ?_;rw[H.i];exact⟨rfl,(HE.i qP).2⟩
   have q:¬(h:Int)<20:=by omega
   by_cases e2:n<h
   ·have q2:max (h:Int) n>n:=by omega
    have H:=ah (show Jr 6 l=(qP,2)from uG (by unfold uV;rw[if_neg HP.i,if_neg N20.i,if_neg (by rw[G0.i];rintro(h|h);exact q h.2;exact n8 h),if_pos (by rw[G0.i,hl.i];exact q2)]) (by decide));go_wp2;refine aO (TL.qK rfl _ rfl (HE.i qP).1 (Pt.I _)) rfl ?_;rw[H.i];exact⟨rfl,(HE.i qP).2⟩
   have q2:¬max (h:Int) n>n:=by omega
   have H:=ah (show Jr 6 l=(qD 6 l,0)from VF (by unfold uV;rw[if_neg HP.i,if_neg N20.i,if_neg (by rw[G0.i];rintro(h|h);exact q h.2;exact n8 h),if_neg (by rw[G0.i,hl.i];exact q2)]));rw[G0.i]at H;go_wp2;refine aO (TL.qK rfl _ rfl (HE.i ⟨fq l 0,fq l 2,(g:Nat),(h:Nat),n⟩).1 (Pt.I _)) rfl ?_;rw[H.i];exact⟨rfl,(HE.i _).2⟩
 ·obtain rfl:p=17:=by omega
  by_cases h20:n<8
  ·have ap5:(n:Int)<8:=by omega
   have H:=ah (show Jr 17 l=(qP,2)from uG (by unfold uV;rw[if_neg HP.i,if_neg p6,if_pos (by rw[hl.i];exact h20)]) (by decide));go_wp2;refine aO (TL.qK rfl _ rfl b0.i (Pt.I _)) rfl ?_;rw[H.i];exact⟨rfl,B0.i⟩
  have h8':¬(n:Int)<8:=by omega
  have R1:=HR.i.upon B0.i;have C0:=ah (NJ _ A n c l 0 0 rfl (by omega) hnc (by omega) R1);have q6:((17:Int)==6)=false:=rfl;go_upto_region 10 with(go_at_call 177;first|(refine C0.i.g ?_;rintro e w1 ⟨rfl,hb1⟩;have C2:=ah (NJ w1 A n c l 2 2 rfl (by omega) hnc (by omega) ((HR.i.upon B0.i).upon hb1));clear C0)|(refine C2.i.g ?_;rintro e w2 ⟨rfl,hb2⟩))
  have B2:=ah (B0.i.trans (hb1.g B0.i.j));have B3:=ah (B2.i.trans (hb2.g B2.i.j));have R2:=ah (HR.i.upon B3.i);have b2:=ah ((b0.i.go hb1).go hb2);clear hb1 hb2 C2;obtain⟨k,hk⟩:=dw w2.a.j;obtain⟨w3,hw3⟩:=dw (w2.alloc (.D (Pt.mk (fq l 0) (fq l 2) 0 8 n).aA 172));have x3:=ah (show dN w3 k (Pt.mk (fq l 0) (fq l 2) 0 8 n).aA by rw[hw3,hk];exact dN.new _ _ _);have b3:=ah (show dN w3 W.a.j qP.aA by rw[hw3];exact b2.i.alloc _);have R3:=ah (show fZ w3 w3.a.j A n l by rw[hw3];exact(R2.i.alloc (ay _) _).lH (by simp));have hlt:=b2.i.lt;have hs3:W.a.j<k:=by rw[hk];exact hlt
  rw[<-hw3,<-hk];have B4:=ah (show aM W.a.j W w3 by rw[hw3];exact B3.i.alloc B3.i.j _);clear hk hw3 hlt R2 b2 B2 B3 B0 b0;have C4:=ah (NJ w3 A n c l 4 4 rfl (by omega) hnc (by omega) R3.i);have hk3:=x3.i.lt;go_upto_region 11 with(go_at_call 177;refine C4.i.g ?_;rintro e w4 ⟨rfl,hb4⟩;have b4:=ah (b3.i.go hb4);have x4:=ah (x3.i.go hb4);have B5:=ah (B4.i.trans (hb4.g B4.i.j));obtain⟨x5,x6,x7,x8⟩:=x4.i.M;clear hb4)
  obtain⟨t,ht⟩:=dw (fq l 4);have G0:=ah (show qD 17 l=⟨fq l 0,fq l 2,0,8,(t:Nat)⟩by unfold qD;rw[if_neg (by decide),<-ht]);rw[<-ht];clear ht;have X2:=x4.i.eH 4 (.b .a (t:Int));rw[Pt.PX]at X2;have b5:=b4.i.dR ⟨k,4,none⟩ (.b .a (t:Int)) (by show k≠_;omega);have B6:=B5.i.G (p:=⟨k,4,none⟩) (mQ hs3) (.b .a (t:Int));clear x3 b3 B4 R3 x4 b4 B5 x5 x6 x7 x8 C4;generalize w4.G ⟨k,4,none⟩ (.b .a (t:Int))=w5 at *;have N20:=ah (show¬l.a<(if(17:Int)=6 then 20 else 8)by rw[if_neg (by decide),hl.i];exact h20);have HE:=ah (fun(x:Pt)=>show dN (gZ w5 W.a.j 0 x.aA) W.a.j x.aA/\aM W.a.j W (gZ w5 W.a.j 0 x.aA)from⟨b5.put x.aA (by rw[Pt.I,Pt.I]),lg B6 _ _ _ (ay _)⟩);have yO:=b5.O 0 5 (by rw[Pt.I];omega);obtain⟨y1,y2,y3,y4⟩:=X2.M;clear b5 B6 X2;by_cases e1:t<8
  ·have q:(t:Int)<8:=by omega
   have H:=ah (show Jr 17 l=(qP,3)from uG (by unfold uV;rw[if_neg HP.i,if_neg N20.i,if_pos (.b (by rw[G0.i];exact q))]) (by decide));go_wp2;refine aO (TL.qK rfl _ rfl (HE.i qP).1 (Pt.I _)) rfl ?_;rw[H.i];exact⟨rfl,(HE.i qP).2⟩
  have q:¬(t:Int)<8:=by omega
  by_cases e2:n<t
  ·have q2:max (8:Int) t>n:=by omega
   have H:=ah (show Jr 17 l=(qP,2)from uG (by unfold uV;rw[if_neg HP.i,if_neg N20.i,if_neg (by rw[G0.i];rintro(h|h);exact p6 h.1;exact q h),if_pos (by rw[G0.i,hl.i];exact q2)]) (by decide));go_wp2;refine aO (TL.qK rfl _ rfl (HE.i qP).1 (Pt.I _)) rfl ?_;rw[H.i];exact⟨rfl,(HE.i qP).2⟩
  have q2:¬max (8:Int) t>n:=by omega
  have H:=ah (show Jr 17 l=(qD 17 l,0)from VF (by unfold uV;rw[if_neg HP.i,if_neg N20.i,if_neg (by rw[G0.i];rintro(h|h);exact p6 h.1;exact q h),if_neg (by rw[G0.i,hl.i];exact q2)]));rw[G0.i]at H;go_wp2;refine aO (TL.qK rfl _ rfl (HE.i ⟨fq l 0,fq l 2,0,8,(t:Nat)⟩).1 (Pt.I _)) rfl ?_;rw[H.i];exact⟨rfl,(HE.i _).2⟩
def Js(n:Nat):Array aC:=((eu n (0:UInt8)).map bv).b
theorem ady(n:Nat):(Js n).j=n:=by simp[Js]
theorem af2(n:Nat):madeCells (aJ .b 0).D n=Js n:=by
 apply eB;intro j;rcases aZ j n with h|h
 ·simp[madeCells,Js,bZ,bv,h,Nat.mod_one]
 ·rw[aV (by simp[madeCells];omega),aV (by rw[ady];omega)]
theorem ajp(n:Nat)(hn:n<=16777216)(w:au):(xP 56 (.b .a (n:Int)) (.b .a (n:Int))).J aj w=.ok (.a (some ⟨w.a.j,0,none⟩) n n) (w.alloc (.D (Js n) 5)):=by
 obtain⟨i0,hi0,hz0,hz1,hz2⟩:=zF;have:=run_makeSlice w 56 5 i0 _ cu hi0 hz0 .a .a (n:Int) (n:Int) (by omega) (Int.le_refl _) (by rw[hz1];simp;omega) (by rw[hz2];omega) (by omega);rw[this,hz1,Int.toNat_natCast,gL,af2]
def qX(p:Int)(l:List UInt8):Nat:=if p=0\/p=43\/p=60 then nX l 1*4+nX l 1*4+8 else if p=51 then nX l 1*4+8 else if p=44 then 8 else 0
def zR(p:Int):Bool:=decide (p=0\/p=43\/p=60\/p=51\/p=44)
theorem QI(p:Int)(l:List UInt8):(0<qX p l)↔zR p=true:=by
 unfold qX zR;rw[decide_eq_true_eq];split
 ·rename_i h;constructor
  ·intro _;rcases h with h|h|h<;>simp[h]
  ·intro _;omega
 ·split
  ·rename_i h;simp[h]
  ·split
   ·rename_i h;simp[h]
   ·simp;omega
theorem af3(p:Int)(l:List UInt8):qX p l<=2048:=by
 have:=uU l 1;unfold qX
 repeat(first|split|omega)
theorem QJ(p:Int)(A:Option aU)(n c B:Nat)(l:List UInt8)(W:au)(h2:2<=n)(hr:fZ W B A n l):aQ aj 251 #[.b .a p,.a A n c] W fun e W'=>e=.a (.b .a (qX p l))/\W=W':=by
 obtain⟨a,rfl,hc⟩:=hr.Xz 0 (by omega);have i1:1<n:=by omega
 have E:=ah (show∀b,b=nX l 1->qX p l=if p=0\/p=43\/p=60 then b*4+b*4+8 else if p=51 then b*4+8 else if p=44 then 8 else 0 from fun b h=>by rw[h];rfl);obtain⟨b,hb⟩:=dw (nX l 1);have XQ:b<256:=by rw[hb];exact uU l 1
 have E:=ah (E.i b hb);rw[<-hb]at hc;clear hb hr;have w1:=jV (b:Int) (by omega);have w2:=jV ((b:Int)*4) (by omega);have w3:=jV ((b:Int)*4+b*4) (by omega);have w4:=jV ((b:Int)*4+b*4+8) (by omega);have w5:=jV ((b:Int)*4+8) (by omega);by_cases p0:p=0
 ·subst p0
  go_enter Cw,Aq;go_wp2;go_ret;exact⟨by rw[E.i];simp,rfl⟩
 by_cases p43:p=43
 ·subst p43
  go_enter Cw,Aq;go_wp2;go_ret;exact⟨by rw[E.i];simp,rfl⟩
 by_cases p60:p=60
 ·subst p60
  go_enter Cw,Aq;go_wp2;go_ret;exact⟨by rw[E.i];simp,rfl⟩
 by_cases p51:p=51
 ·subst p51
  go_enter Cw,Aq;go_wp2;go_ret;exact⟨by rw[E.i];simp,rfl⟩
 by_cases p44:p=44
 ·subst p44
  go_enter Cw,Aq;go_wp2;go_ret;exact⟨by rw[E.i];simp,rfl⟩
 have q0:(p==0)=false:=by simp[p0]
 have q43:(p==43)=false:=by simp[p43]
 have q60:(p==60)=false:=by simp[p60]
 have q51:(p==51)=false:=by simp[p51]
 have q44:(p==44)=false:=by simp[p44]
 go_enter Cw,Aq;go_wp2;go_ret;exact⟨by rw[E.i];simp[p0,p43,p60,p51,p44],rfl⟩
@[go_sem]theorem auG(w:au):(xP 56 (.b .a 8) (.b .a 8)).J aj w=.ok (.a (some ⟨w.a.j,0,none⟩) 8 8) (w.alloc (.D (Js 8) 5)):=ajp 8 (by decide) w
theorem fZ.auH(W:au):fZ (W.alloc (.D (Js 8) 5)) (W.a.j+1) (some ⟨W.a.j,0,none⟩) 8 (eu 8 0):=by
 refine fZ.NQ (l:=eu 8 0) (mP _) (fun j hj=>?_);rw[ni,bl];rcases j with _|_|_|_|_|_|_|_|j
 all_goals first|rfl|(simp at hj;omega)
theorem VG(p:Int)(W:au):aQ aj 250 #[.b .a p] W (gy W (.e (zR p))):=by
 have C:=ah (QJ p _ 8 8 _ _ _ (by decide) (fZ.auH W));have B:=ah ((aH W.a.j W).alloc (ay _) (.D (Js 8) 5));have E:=ah (QI p (eu 8 0));generalize qX p (eu 8 0)=x at *;go_enter Tryz.func250,Tryz.ntmps250;go_wp2_with (go_at_call 251;refine C.i.g ?_;rintro e w ⟨rfl,rfl⟩);go_ret;have e:decide (0<x)=zR p:=by rw[cB,<-E.i,decide_eq_true_eq]
 exact⟨congrArg (fun z=>ug (.e z)) e,B.i⟩
def Md(r:List UInt8):Bool:=decide (nX r 2≠0\/nX r 3/8≠0\/nX r 3%2=1)
theorem ajq:∀a:Fin 256,∀b:Fin 256,((256*a.val+b.val) &&& 65529==0) = !(decide (a.val≠0\/b.val/8≠0\/b.val%2=1)):=by decide +kernel
theorem ap6(l:List UInt8)(k:Nat):fq l k=256*nX l k+nX l (k+1):=rfl
theorem amE(r:List UInt8):(bits .and .a (fq r 2:Nat) 65529 != 0)=Md r:=by
 have h1:(gD 64 (fq r 2:Nat)).e=fq r 2:=by rw[mh,nK];exact fP (by have:=vH r 2;omega)
 have h2:fq r 2 &&& 65529<=fq r 2:=Nat.and_le_left;have h3:=vH r 2;have:bits .and .a (fq r 2:Nat) 65529=((fq r 2 &&& 65529:Nat):Int):=by
  show bU.wrap ((gD 64 (fq r 2:Nat) &&& gD 64 65529).e:Int)=_;rw[FL,h1,show(gD 64 65529).e=65529 by decide,jV _ (by omega)]
 rw[this];have h4:=ajq ⟨nX r 2,uU r 2⟩ ⟨nX r 3,uU r 3⟩;simp only at h4;rw[<-ap6]at h4;unfold Md;rw[cB,bne_iff_ne];have h5:=congrArg (fun z=>!z) h4;simp only[Bool.not_not]at h5;rw[<-h5];simp
def yP:Nat->Sx->List UInt8->Sx×Int
 | 0,x,_=>if x.oN=true\/zR x.aR=false then(x,0)else(qL,4)
 | f+1,x,r=>
   if x.oN=true\/zR x.aR=false then(x,0)
   else if r.a<8\/r.a<qX x.aR r then(qL,2)
   else yP f ⟨x.head+qX x.aR r,x.dA,x.Ij,decide (x.aR=44)&&Md r,x.Ik+1,(nX r 0:Nat),x.h,x.Y⟩ (r.f (qX x.aR r))
def ajr(l:List UInt8):fE:=⟨true,qh 16 l⟩
def sx0(l:List UInt8):Sx:=⟨40,40+fq l 4,(nX l 7:Nat),false,0,(nX l 6:Nat),ajr (l.f 8),ajr (l.f 24)⟩
def AU(l:List UInt8):Sx×Int:=
 if l.a<40 then(qL,2)else if nX l 0/16≠6 then(qL,3)else if l.a<40+fq l 4 then(qL,2)
 else yP 8 (sx0 l) ((l.d (40+fq l 4)).f 40)
theorem NR{f:Nat}{x:Sx}{r:List UInt8}(h:x.oN=true\/zR x.aR=false):yP f x r=(x,0):=by cases f<;>simp[yP,h]
theorem YO{x:Sx}{r:List UInt8}(h:x.oN=false)(h':zR x.aR=true):yP 0 x r=(qL,4):=by simp[yP,h,h']
theorem Me{f:Nat}{x:Sx}{r:List UInt8}(h:x.oN=false)(h':zR x.aR=true)(hs:r.a<8\/r.a<qX x.aR r):yP (f+1) x r=(qL,2):=by simp[yP,h,h',hs]
theorem YP{f:Nat}{x:Sx}{r:List UInt8}(h:x.oN=false)(h':zR x.aR=true)(hs:¬(r.a<8\/r.a<qX x.aR r)):
 yP (f+1) x r=yP f ⟨x.head+qX x.aR r,x.dA,x.Ij,decide (x.aR=44)&&Md r,x.Ik+1,(nX r 0:Nat),x.h,x.Y⟩ (r.f (qX x.aR r)):=by simp[yP,h,h',hs]
theorem iC{place:Nat->Option (Nat×Nat)}{cells c':Array aC}{i off:Nat}{v:aC}{rest:List (Nat×aC)}(hp:place i=some (off,1))(hv:v.D = #[v])(hf:off+1<=cells.j)(h:cells.b off v=c'):fD place cells ((i,v)::rest)=fD place c' rest:=by
 rw[Er place cells i off 1 v rest hp (by rw[hv];rfl) hf,hv,akV,h]
theorem sM{place:Nat->Option (Nat×Nat)}{cells c' x:Array aC}{i off n:Nat}{rest:List (Nat×aC)}(hp:place i=some (off,n))(hx:x.j=n)(hf:off+n<=cells.j)(h:sG cells off x=c'):fD place cells ((i,.d x)::rest)=fD place c' rest:=by
 rw[Er place cells i off n (.d x) rest hp (by rw[OQ];exact hx) hf,OQ,h]
theorem Sx.PX(x:Sx)(v:Int):x.aA.b 1 (.b .a v)=({x with dA:=v}:Sx).aA:=by simp[Sx.aA,aN,fE.I]
theorem Sx.ap7(x:Sx)(v:Int):x.aA.b 2 (.b .a v)=({x with Ij:=v}:Sx).aA:=by simp[Sx.aA,aN,fE.I]
theorem Sx.abf(x:Sx)(t:fE):sG x.aA 6 t.aA=({x with h:=t}:Sx).aA:=by
 unfold Sx.aA;exact qR (by rw[fE.I,fE.I]) 6 rfl
theorem Sx.TN(x:Sx)(t:fE):sG x.aA 23 t.aA=({x with Y:=t}:Sx).aA:=by
 unfold Sx.aA;have:=qR (p:=#[.b .a x.head,.b .a x.dA,.b .a x.Ij,.e x.oN,.b .a x.Ik,.b .a x.aR]++x.h.aA) (q:=x.Y.aA) (r:=#[]) (v:=t.aA) (by rw[fE.I,fE.I]) 23 (by simp[fE.I]);simpa[gB]using this
theorem Sx.abb(x:Sx)(v:Vector UInt8 16):sG x.aA 7 (jg v)=({x with h:=⟨x.h.h,v⟩}:Sx).aA:=by
 unfold Sx.aA;rw[fE.Jq x.h,fE.Jq ⟨x.h.h,v⟩];have:=qR (p:=#[.b .a x.head,.b .a x.dA,.b .a x.Ij,.e x.oN,.b .a x.Ik,.b .a x.aR] ++ #[.e x.h.h]) (q:=jg x.h.b) (r:=x.Y.aA) (v:=jg v) (by rw[dL,dL]) 7 rfl;simpa[gB]using this
theorem Sx.aa'(x:Sx)(v:Vector UInt8 16):sG x.aA 24 (jg v)=({x with Y:=⟨x.Y.h,v⟩}:Sx).aA:=by
 unfold Sx.aA;rw[fE.Jq x.Y,fE.Jq ⟨x.Y.h,v⟩];have:=qR (p:=#[.b .a x.head,.b .a x.dA,.b .a x.Ij,.e x.oN,.b .a x.Ik,.b .a x.aR]++x.h.aA ++ #[.e x.Y.h]) (q:=jg x.Y.b) (r:=#[]) (v:=jg v) (by rw[dL,dL]) 24 (by simp[fE.I]);simpa[gB]using this
@[go_sem]theorem aDK(W:au)(a b c d:Int)(s t:fE):(uJ 189 #[(0,.b .a a),(1,.b .a b),(5,.b .a c),(2,.b .a d),(6,.d s.aA),(7,.d t.aA)]).J aj W=.ok (.d (Sx.mk a b d false 0 c s t).aA) W:=kSx.bd W _ _ _ _ pG (auq W _ pG) (by
 refine(iC rfl rfl (by rw[Sx.I];omega) (Sx.NG _ _)).trans ?_;refine(iC rfl rfl (by rw[Sx.I];omega) (Sx.PX _ _)).trans ?_;refine(iC rfl rfl (by rw[Sx.I];omega) (Sx.YM _ _)).trans ?_;refine(iC rfl rfl (by rw[Sx.I];omega) (Sx.ap7 _ _)).trans ?_;refine(sM rfl (fE.I _) (by rw[Sx.I];omega) (Sx.abf _ _)).trans ?_;refine(sM rfl (fE.I _) (by rw[Sx.I];omega) (Sx.TN _ _)).trans ?_;rfl)
@[go_sem ↓]theorem aG2(ps:Array (Nat×aC)):fM 27 ps=uJ 27 ps:=rfl
theorem ayR(w:au)(fs:Array oh)(h:aj.k 27=some (.d fs)):(iG (fun f=>Prod.mk f.Z <$> sizeOf f.p) fs:xA (Array (Nat×Nat))).J aj w=.ok #[(0,1),(1,16)] w:=by
 have e:=fC;rw[h]at e;cases e;show _=_
 kernel_rfl
theorem fE.ap8(x:fE)(v:Bool):x.aA.b 0 (.e v)=({x with h:=v}:fE).aA:=by rw[fE.Jq,fE.Jq];simp[aN]
@[go_sem]theorem awJ(W:au)(v:Bool):(uJ 27 #[(0,.e v)]).J aj W=.ok (.d (fE.mk v nE.b).aA) W:=aa2.bd W _ _ _ _ fC (ayR W _ fC) (by
 refine(iC rfl rfl (by rw[fE.I];omega) (fE.ap8 _ _)).trans ?_;rfl)
def Bx(L:List (Nat×Array aC))(W0 W:au):Prop:=aM W0.a.j W0 W/\∀p∈L,W0.a.j<=p.1/\dN W p.1 p.2
section
variable {L:List (Nat×Array aC)} {W0 W W':au} {q:Nat} {c:Array aC}
theorem Bx.start(W0:au):Bx [] W0 W0:=⟨aH _ _,fun p hp=>by cases hp⟩
theorem Bx.R(h:Bx L W0 W):aM W0.a.j W0 W:=h.1
theorem Bx.go(h:Bx L W0 W)(hb:aM W.a.j W W'):Bx L W0 W':=⟨h.1.trans (hb.g h.1.j),fun p hp=>⟨(h.2 p hp).1,(h.2 p hp).2.go hb⟩⟩
theorem Bx.drew(h:Bx L W0 W):Bx L W0 W.drew:=⟨h.1.drew,fun p hp=>⟨(h.2 p hp).1,(h.2 p hp).2.drew⟩⟩
theorem Bx.drewN(h:Bx L W0 W)(k:Nat):Bx L W0 (W.drewN k):=⟨fJ h.1 k,fun p hp=>⟨(h.2 p hp).1,(h.2 p hp).2.drewN k⟩⟩
theorem Bx.alloc(h:Bx L W0 W)(ob:Obj):Bx L W0 (W.alloc ob):=h.go ((aH _ _).alloc (ay _) ob)
theorem Bx.new(h:Bx L W0 W)(c:Array aC)(t:bF):Bx ((W.a.j,c)::L) W0 (W.alloc (.D c t)):=
 ⟨h.1.alloc h.1.j _,fun p hp=>by
  rcases bE.1 hp with rfl|hp
  ·exact⟨h.1.j,dN.new W c t⟩
  ·exact⟨(h.2 p hp).1,(h.2 p hp).2.alloc _⟩⟩
theorem Bx.X(h:Bx ((q,c)::L) W0 W):dN W q c:=(h.2 (q,c) (by simp)).2
theorem Bx.g0(h:Bx ((q,c)::L) W0 W):W0.a.j<=q:=(h.2 (q,c) (by simp)).1
theorem Bx.Vu{p:Nat×Array aC}(h:Bx (p::L) W0 W):Bx L W0 W:=⟨h.1,fun r hr=>h.2 r (jX _ hr)⟩
theorem Bx.b1{p:Nat×Array aC}(h:Bx (p::(q,c)::L) W0 W):dN W q c:=h.Vu.X
theorem Bx.b2{p p2:Nat×Array aC}(h:Bx (p::p2::(q,c)::L) W0 W):dN W q c:=h.Vu.Vu.X
theorem Bx.b3{p p2 p3:Nat×Array aC}(h:Bx (p::p2::p3::(q,c)::L) W0 W):dN W q c:=h.Vu.Vu.Vu.X
theorem Bx.swap{p p2:Nat×Array aC}(h:Bx (p::p2::L) W0 W):Bx (p2::p::L) W0 W:=⟨h.1,fun r hr=>h.2 r (by simp at hr⊢;rcases hr with h|h|h<;>simp[h])⟩
theorem Bx.sub{L':List (Nat×Array aC)}(h:Bx L W0 W)(hs:∀p∈L',p∈L):Bx L' W0 W:=⟨h.1,fun p hp=>h.2 p (hs p hp)⟩
theorem Bx.set(h:Bx ((q,c)::L) W0 W)(hL:∀p∈L,p.1≠q)(j:Nat)(u:aC):Bx ((q,c.b j u)::L) W0 (W.G ⟨q,j,none⟩ u):=
 ⟨h.1.G h.g0 u,fun p hp=>by
  rcases bE.1 hp with rfl|hp
  ·exact⟨h.g0,h.X.eH j u⟩
  ·have:=h.2 p (by simp[hp]);exact⟨this.1,this.2.dR _ u (fun e=>hL p hp e.symm)⟩⟩
theorem Bx.lay(h:Bx ((q,c)::L) W0 W)(hL:∀p∈L,p.1≠q)(o:Nat)(x:Array aC):Bx ((q,sG c o x)::L) W0 (gZ W q o x):=
 ⟨lg h.1 q o x h.g0,fun p hp=>by
  rcases bE.1 hp with rfl|hp
  ·exact⟨h.g0,by have:=h.X.setCells o x.a;simpa[gZ]using this⟩
  ·have:=h.2 p (by simp[hp]);exact⟨this.1,this.2.gK (hL p hp)⟩⟩
theorem Bx.put(h:Bx ((q,c)::L) W0 W)(hL:∀p∈L,p.1≠q)(x:Array aC)(hx:x.j=c.j):Bx ((q,x)::L) W0 (gZ W q 0 x):=
 ⟨lg h.1 q 0 x h.g0,fun p hp=>by
  rcases bE.1 hp with rfl|hp
  ·exact⟨h.g0,h.X.put x hx⟩
  ·have:=h.2 p (by simp[hp]);exact⟨this.1,this.2.gK (hL p hp)⟩⟩
theorem Bx.Mf{A:Option aU}{n:Nat}{l:List UInt8}(h:Bx L W0 W)(hr:fZ W0 W0.a.j A n l):fZ W W.a.j A n l:=(hr.S h.1).lH h.1.j
theorem Bx.rdR{α:Type}{f:α->Array aC}{s:Nat}{A:Option aU}{n:Nat}{l:List α}(h:Bx L W0 W)(hr:iF f s W0 W0.a.j A n l):iF f s W W.a.j A n l:=(hr.S h.1).lH h.1.j
end
theorem fZ.VH{w:au}{B n:Nat}{a:aU}{l:List UInt8}(h:fZ w B (some a) n l)(k:Nat)(hk:k+1<n):w.b ⟨a.block,a.off+(k+1),none⟩=some (.b .b (nX l (k+1))):=by
 obtain⟨_,he,hc⟩:=h.Xz k hk;cases he;exact hc
theorem fZ.asg{w:au}{B n:Nat}{a:aU}{l:List UInt8}(h:fZ w B (some a) n l)(hk:0<n):w.b a=some (.b .b (nX l 0)):=by
 obtain⟨_,he,_,hc⟩:=h.fG hk;cases he;rw[OP]at hc;exact hc
theorem fZ.ahE{w:au}{B n:Nat}{A:Option aU}{l:List UInt8}(h:fZ w B A n l)(hk:0<n):∃a,A=some a/\a.block<B:=by
 obtain⟨a,he,hb,_⟩:=h.fG hk;exact⟨a,he,hb⟩
def vI(A:Option aU)(z c s:Nat):Option aU:=if c=z then A else A.map (·.add (z*s))
theorem fZ.adz{w:au}{B n:Nat}{A:Option aU}{l:List UInt8}(h:fZ w B A n l){z b c:Nat}(hz:z<=b)(hb:b<=n)(hc:n<=c):fZ w B (vI A z c 1) (b-z) ((l.d b).f z):=by
 have:=h.QE hz hb hc;rw[<-List.drop_take]at this;unfold vI;rw[gL];exact this
theorem fZ.yN{w:au}{B n:Nat}{A:Option aU}{l:List UInt8}(h:fZ w B A n l){z c:Nat}(hz:z<=n)(hc:n<=c):fZ w B (vI A z c 1) (n-z) (l.f z):=by
 have:=h.from hz hc
 unfold vI;rw[gL];exact this
section
variable {P:eX} (w:au) (t:bF) (a:Option aU) (len cap:Nat) (ht:P.k t=some (.a (P.elem t)))
include ht
theorem jc(kl kh:IntKind)(l h:Int)(h0:0<=l)(h1:l<=h)(h2:h<=cap):
 (Instr.slice t (.a a len cap) (some (.b kl l)) (some (.b kh h)) none).J P w =
  ((sizeOf (P.elem t)).J P w).andThen fun s w=>.ok (.a (vI a l.e cap s) (h.e-l.e) (cap-l.e)) w:=by
 rw[run_slice_lh w t a len cap ht kl kh l h h0 h1 h2];rfl
theorem jK(kl:IntKind)(l:Int)(h0:0<=l)(h1:l<=len):
 (Instr.slice t (.a a len cap) (some (.b kl l)) none none).J P w =
  ((sizeOf (P.elem t)).J P w).andThen fun s w=>.ok (.a (vI a l.e cap s) (len-l.e) (cap-l.e)) w:=by
 rw[run_slice_l w t a len cap ht kl l h0 h1];rfl
end
section
variable {P:eX} {md:Region.Mode}
def kV(o:je):je:={o with op:=.move (.const undef)}
def GD(ops:Array je)(k n d:Nat):Bool:=(dS n).all fun j=>j==k||(match ops[j]? with|some o=>!(o.looksAt ops).contains d&&o.Y != some d|none=>true)
def QK:List je->Bool
 | []=>true
 | o::l=>(match o.Y with|some d=>l.all fun p=>p.Y != some d|none=>true)&&QK l
theorem GH:∀{l:List je},QK l=true->∀{i j:Nat} {oi oj:je} {d:Nat},l[i]? = some oi->l[j]? = some oj->oi.Y=some d->oj.Y=some d->i=j
 | [],_,i,j,oi,oj,d,hi,_,_,_=>by simp at hi
 | o::l,h,i,j,oi,oj,d,hi,hj,di,dj=>by
   simp only[QK,bB]at h;obtain⟨h1,h2⟩:=h;rcases i with _|i<;>rcases j with _|j
   ·rfl
   ·simp at hi hj
    subst hi;rw[di]at h1;have:=fV.1 h1 oj (List.mem_of_getElem? hj);simp[dj]at this
   ·simp at hi hj
    subst hj;rw[dj]at h1;have:=fV.1 h1 oi (List.mem_of_getElem? hi);simp[di]at this
   ·simp at hi hj
    rw[GH h2 hi hj di dj]
def XB(P:eX)(md:Region.Mode)(ops:Array je)(C:au->Prop)(n g:Nat)(aF:qY):Nat->Array Bool->qY->Prop:=
 wqL P md ops C n (fun listed a=>lC md ops g n listed=true/\a=aF)
theorem NT{listed:Array Bool}{j:Nat}(h:listed.c j true=false){i:Nat}(hij:j≠i):(listed.b i true).c j true=false:=by rw[xC true (jy hij)];exact h
theorem Ec{listed:Array Bool}{i j:Nat}(h:(listed.b i true).c j true=false):listed.c j true=false:=by
 by_cases hij:i=j
 ·subst hij
  rcases aZ i listed.j with h1|h1
  ·simp[h1]at h
  ·simp[aV h1]at h
 ·rwa [xC true hij]at h
theorem zS{listed:Array Bool}{i j:Nat}(h:(listed.b i true).c j true=false):j≠i:=by
 rintro rfl;rcases aZ j listed.j with h1|h1
 ·simp[h1]at h
 ·simp[aV h1]at h
theorem Cc{ops:Array je}{C:au->Prop}{n g:Nat}{aF:qY}:∀(f:Nat)(listed:Array Bool)(a:qY),XB P md ops C n g aF f listed a ->
 aF.defers=a.defers/\aF.tmps.j=a.tmps.j/\∀d,(∀j oj,ops[j]? = some oj->listed.c j true=false->oj.Y≠some d)->aF.tmps[d]? = a.tmps[d]?
 | 0,listed,a,h=>by obtain⟨_,rfl⟩:=h;exact⟨rfl,rfl,fun _ _=>rfl⟩
 | f+1,listed,a,h=>by
   obtain⟨h0,h1⟩:=h;obtain⟨i,hi⟩:=List.exists_mem_of_ne_nil _ h0;obtain⟨hun,oi,hoi,_⟩:=kF.1 hi;obtain⟨v,_,hK⟩:=qU hoi (h1 i hi).2;obtain⟨e1,e2,e3⟩:=Cc f _ _ hK;have ed:(a.put oi.Y v).defers=a.defers:=by cases oi.Y<;>rfl
   have es:(a.put oi.Y v).tmps.j=a.tmps.j:=by cases oi.Y<;>simp[lG]
   refine⟨e1.trans ed,e2.trans es,fun d hd=>?_⟩;rw[e3 d fun j oj hj hl=>hd j oj hj (Ec hl)];have:=hd i oi hoi hun;cases h2:oi.Y with
   | none=>rfl
   | some e=>
     have:e≠d:=fun e'=>this (by rw[h2,e'])
     simp[lG,dU,this]
theorem adA{l:List je}(hD:QK l=true){C C':au->Prop}{n g f:Nat}{aF:qY}{listed:Array Bool}{a:qY}{i:Nat}{oi:je}(hi:i∈gF md l.b listed)(hoi:l.b[i]? = some oi)
 (h:XB P md l.b C n g aF (f+1) listed a) (h':XB P md l.b C' n g aF (f+1) listed a) :
 ∃v v',YieldsIn P l.b C oi v a/\XB P md l.b C n g aF f (listed.b i true) (a.put oi.Y v)/\YieldsIn P l.b C' oi v' a/\XB P md l.b C' n g aF f (listed.b i true) (a.put oi.Y v')/\a.put oi.Y v=a.put oi.Y v':=by
 obtain⟨v,hy,hK⟩:=qU hoi (h.2 i hi).2;obtain⟨v',hy',hK'⟩:=qU hoi (h'.2 i hi).2;refine⟨v,v',hy,hK,hy',hK',?_⟩;cases hd:oi.Y with
 | none=>rfl
 | some d=>
   have hno:∀j oj,l.b[j]? = some oj->(listed.b i true).c j true=false->oj.Y≠some d:=fun j oj hj hl hdj=>by
    have:=GH hD (by simpa using hoi) (by simpa using hj) hd hdj;exact zS hl this.symm
   have e1:=(Cc f _ _ hK).2.2 d hno;have e2:=(Cc f _ _ hK').2.2 d hno;rw[hd]at e1 e2;have e:=e1.symm.trans e2;simp only[lG,dU,if_pos]at e ⊢;by_cases hs:d<a.tmps.j
   ·simp[hs]at e;rw[e]
   ·have hs':=Nat.le_of_not_lt hs
    rw[jR hs',jR hs']
theorem NU(a:qY)(d:Nat)(u v:aC):(a.put (some d) u).put (some d) v=a.put (some d) v:=by simp[lG]
theorem Hu{ops:Array je}{C:au->Prop}{o:je}{a:qY}{K:qY->Prop}{K':qY->au->Prop}{Q':zW->qY->au->Prop}{w:au}{d:Nat}{u:aC}(hs:∀cs b,o.op≠.select cs b)(hl:d∉o.looksAt ops)(hd:o.Y≠some d)
 (hw:C w) (h:∀a w',C w'->K a->K' (a.put (some d) u) w') (hh:o.quiet P a C K):o.wp P (a.put (some d) u) w K' Q':=by
 obtain⟨v,h1,h2⟩:=hh;have h3:=h1 w hw;have e:execOp (a.put (some d) u).eval o=execOp a.eval o:=execOp_put o hs a (some d) u (fun e he=>by cases he;exact hl);have c:∀x,(a.put (some d) u).put o.Y x=(a.put o.Y x).put (some d) u:=fun x=>Act.put_comm a u x (fun e he=>by cases he;exact hd)
 unfold Oper.quietAt at h3;unfold nI;rw[e];generalize(execOp a.eval o).J P w=r at *;cases r with
 | ok n w'=>
   cases n<;>simp only[Oper.quietUpon]at h3<;>simp only[Mx]
   case value x=>
    obtain⟨e1,e2⟩:=h3;rw[e1,e2,c];exact h _ _ hw h2
   case skip=>
    obtain⟨e1,e2⟩:=h3;rw[e1,c,<-e2];exact h _ _ hw h2
   case enter f args=>
    obtain⟨e1,hc⟩:=h3;rw[e1];exact hc.g fun e w'' ⟨he,hw''⟩=>by subst he;dsimp only;rw[c];exact h _ _ hw'' h2
 | halt x w'=>simp only[Oper.quietUpon]at h3
def Shut(S:au->Prop):Prop:=∀w w',S w->aM w.a.j w w'->S w'
theorem adB{l:List je}{k:Nat}{o:je}(hk:l[k]? = some o)(tmps:Array aC):yielded (l.set k (kV o)).b tmps=yielded l.b tmps:=by
 funext j;unfold yielded;have:((l.set k (kV o)).b[j]?).bind (·.Y)=(l.b[j]?).bind (·.Y):=by
  simp only[dY,fI];split
  ·rename_i h
   subst h;have:=(iJ.1 hk).1;rw[hk];simp[this,kV]
  ·rfl
 rw[this]
theorem adC{l:List je}{k:Nat}{o:je}(hk:l[k]? = some o)(listed:Array Bool):gF md (l.set k (kV o)).b listed=gF md l.b listed:=by
 unfold gF;have hsz:(l.set k (kV o)).b.j=l.b.j:=by simp
 rw[hsz];refine Fz fun i _=>?_
 by_cases hik:i=k
 ·subst hik
  obtain⟨hl,hlo⟩:=iJ.1 hk;simp[fI,hl,hlo,kV]
 ·simp[fI,jy hik]
theorem Kj{l:List je}{k:Nat}{o:je}(hk:l[k]? = some o)(listed:Array Bool)(i:Nat):i∈gF md (l.set k (kV o)).b listed↔i∈gF md l.b listed:=by rw[adC hk]
section
variable {l:List je} {k n g d:Nat} {o:je} {T:bF} {z:Array aC} {aF:qY} {Q:zW->qY->au->Prop}
theorem YQ(hk:l[k]? = some o){i:Nat}(hik:i≠k):(l.set k (kV o)).b[i]? = l.b[i]?:=by
 simp[fI,jy hik]
theorem VI(hA:GD l.b k n d=true){i:Nat}{oi:je}(hin:i<n)(hik:i≠k)(hoi:l.b[i]? = some oi):d∉oi.looksAt l.b/\oi.Y≠some d:=by
 have:=fV.1 hA i (eG.2 hin);simp only[hoi,nJ,beq_iff_eq,bB]at this;rcases this with h|h
 ·exact absurd h hik
 ·exact⟨by simpa using h.1,by simpa using h.2⟩
theorem VJ(hk:l[k]? = some o)(oi:je)(tmps:Array aC):fF oi (yielded (l.set k (kV o)).b tmps)=fF oi (yielded l.b tmps):=by rw[adB hk]
theorem Mh(hk:l[k]? = some o)(hA:GD l.b k n d=true)(hsel:∀(j:Nat)(o:je) cs b,l.b[j]? = some o->o.op≠.select cs b){C:au->Prop}{u:aC}
 (hend:∀listed w',C w'->lC md (l.set k (kV o)).b g n listed=true->wpAny P md l.b Q g listed (aF.put (some d) u) w') :
 ∀(f:Nat)(listed:Array Bool)(a:qY)(w:au),listed.c k true=true->C w->XB P md (l.set k (kV o)).b C n g aF f listed a->wpAny P md l.b Q (f+g) listed (a.put (some d) u) w
 | 0,listed,a,w,hun,hw,h=>by
   obtain⟨h1,rfl⟩:=h;rw[bl];exact hend _ _ hw h1
 | f+1,listed,a,w,hun,hw,h=>by
   rw[show f+1+g=(f+g)+1 by omega];refine⟨fun h0=>absurd ?_ h.1,fun i hi=>?_⟩
   ·rw[tK]
    intro i hi;rw[Kj hk]at hi;rw[h0]at hi;cases hi
   ·have hi':=(Kj hk listed i).2 hi
    have hik:i≠k:=fun e=>by
     subst e;have:=(kF.1 hi).1;rw[hun]at this;cases this
    obtain⟨_,oi,hoi,_⟩:=kF.1 hi;obtain⟨hin,hq⟩:=h.2 i hi';obtain⟨hl,hd⟩:=VI hA hin hik hoi;have hun':∀i,(listed.b i true).c k true=true:=fun i=>by
     by_cases e:i=k
     ·subst e
      rcases aZ i listed.j with h1|h1
      ·simp[h1]
      ·simp[aV h1]
     ·rw[xC true e];exact hun
    unfold qOp at hq;rw[YQ hk hik,hoi]at hq;unfold wpOp;simp only[hoi];simp only[VJ hk]at hq;rw[wanted_put oi a (some d) u (fun e he=>by cases he;exact hl)];split
    ·rename_i hw2
     simp only[hw2,if_true]at hq;exact .a (Hu (fun cs b=>hsel i oi cs b hoi) hl hd hw (fun a' w' hw' h'=>Mh hk hA hsel hend f _ a' w' (hun' i) hw' h') hq)
    ·rename_i hw2
     simp only[hw2]at hq;rw[Act.put_comm a u undef (fun e he=>by cases he;exact hd)];exact Mh hk hA hsel hend f _ _ w (hun' i) hw hq
theorem VK{S:au->Prop}(hS:Shut S)(w0:au):Shut fun w=>S w/\aM w0.a.j w0 w:=fun w w' h hb=>⟨hS w w' h.1 hb,h.2.trans (hb.g h.2.j)⟩
theorem YR(hk:l[k]? = some o)(hkn:k<n)(hA:GD l.b k n d=true)(hD:QK (l.set k (kV o))=true)(hsel:∀(j:Nat)(o:je) cs b,l.b[j]? = some o->o.op≠.select cs b)
 (hod:o.Y=some d) (hog:o.guard=none) (hoa:o.after = #[]) (hrun:∀(a:qY) w,(execOp a.eval o).J P w=.ok (.value (.c (some ⟨w.a.j,0,none⟩))) (w.alloc (.D z T))) {S:au->Prop} (hS:Shut S)
 (hend:∀listed w1 w',S w1->S w'->aM (w1.alloc (.D z T)).a.j (w1.alloc (.D z T)) w'->lC md (l.set k (kV o)).b g n listed=true->wpAny P md l.b Q g listed (aF.put (some d) (.c (some ⟨w1.a.j,0,none⟩))) w') :
 ∀(f:Nat)(listed:Array Bool)(a:qY)(w:au),listed.j=l.a->listed.c k true=false->S w->(∀C:au->Prop,(∀w,C w->S w)->Shut C->(∃w,C w)->XB P md (l.set k (kV o)).b C n g aF f listed a)->wpAny P md l.b Q (f+g) listed a w
 | 0,listed,a,w,hsz,hun,hw,H=>by
   obtain⟨h1,_⟩:=H S (fun _ h=>h) hS ⟨w,hw⟩;have hkl:k<l.a:=(iJ.1 hk).1;have:k∈gF md (l.set k (kV o)).b listed:=kF.2 ⟨hun,kV o,by simp[fI,hkl],fun e he=>by simp[kV,hoa]at he⟩;have:=seqB_ready h1 k this;omega
 | f+1,listed,a,w,hsz,hun,hw,H=>by
   rw[show f+1+g=(f+g)+1 by omega];have H0:=H S (fun _ h=>h) hS ⟨w,hw⟩;have hkl:k<l.a:=(iJ.1 hk).1;refine⟨fun h0=>absurd ?_ H0.1,fun i hi=>?_⟩
   ·rw[tK]
    intro i hi;rw[Kj hk]at hi;rw[h0]at hi;cases hi
   ·have hi':=(Kj hk listed i).2 hi
    by_cases hik:i=k
    ·subst hik
     unfold wpOp;simp only[dY,hk];rw[if_pos (by simp[fF,hog])];refine .a ?_;unfold nI;rw[hrun];simp only[Mx,hod];have hC:=H (fun w'=>S w'/\aM (w.alloc (.D z T)).a.j (w.alloc (.D z T)) w') (fun _ h=>h.1) (VK hS _) ⟨_,hS _ _ hw ((aH _ _).alloc (ay _) _),aH _ _⟩;obtain⟨v,_,hK⟩:=qU (o:=kV o) (by simp[fI,hkl]) (hC.2 i hi').2;have:=Mh (C:=fun w'=>S w'/\aM (w.alloc (.D z T)).a.j (w.alloc (.D z T)) w') (u:=.c (some ⟨w.a.j,0,none⟩)) hk hA hsel (fun listed' w' hw' hB=>hend listed' w w' hw hw'.1 hw'.2 hB) f _ _ (w.alloc (.D z T)) (by
      have:i<listed.j:=by rw[hsz];exact hkl
      simp[this]) ⟨hS _ _ hw ((aH _ _).alloc (ay _) _),aH _ _⟩ hK
     have e:(kV o).Y=some d:=hod;rw[e,NU]at this;exact this
    ·obtain⟨_,oi,hoi,_⟩:=kF.1 hi
     have af4:(l.set k (kV o)).b[i]? = some oi:=by rw[YQ hk hik];exact hoi
     obtain⟨v,hy,hK⟩:=qU af4 (H0.2 i hi').2;have hq:qOp P l.b S i (fun a'=>a'=a.put oi.Y v) a:=by
      unfold qOp;simp only[hoi];unfold YieldsIn at hy;simp only[VJ hk]at hy;rcases hy with⟨h1,h2⟩|⟨h1,rfl⟩
      ·simp only[h1,if_true];exact⟨v,h2,rfl⟩
      ·simp only[h1,jr,if_false]
     refine wpOp_of_qOp hw (fun a' w' hw' e=>?_) hq;subst e;refine YR hk hkn hA hD hsel hod hog hoa hrun hS hend f _ _ w' (by simp[hsz]) (NT hun (jy hik)) hw' (fun C hC1 hC2 hC3=>?_);obtain⟨_,v2,_,_,_,hK2,_⟩:=adA hD hi' af4 H0 (H C hC1 hC2 hC3);have e1:a.put oi.Y v=a.put oi.Y v2:=by
      cases hd:oi.Y with
      | none=>rfl
      | some dd=>
        have hno:∀j oj,(l.set k (kV o)).b[j]? = some oj->(listed.b i true).c j true=false->oj.Y≠some dd:=fun j oj hj hl hdj=>by
         have:=GH hD (by simpa using af4) (by simpa using hj) hd hdj;exact zS hl this.symm
        have q1:=(Cc f _ _ hK).2.2 dd hno;have q2:=(Cc f _ _ hK2).2.2 dd hno;rw[hd]at q1 q2;have q:=q1.symm.trans q2;simp only[lG,dU,if_pos]at q ⊢;by_cases hs:dd<a.tmps.j
        ·simp[hs]at q;rw[q]
        ·have hs':=Nat.le_of_not_lt hs
         rw[jR hs',jR hs']
     rw[e1];exact hK2
end
theorem Bx.abg(L:List (Nat×Array aC))(W0:au):Shut (Bx L W0):=fun _ _ h hb=>h.go hb
theorem P5{S:au->Prop}(hS:Shut S)(k n d:Nat){id:Nat}{Q:zW->qY->au->Prop}{a:qY}{w:au}{l:List je}{o:je}(T:bF)(z:Array aC)(hm:P.follows .mixedOrders=true)
 (hk:l[k]? = some o) (hB:xD .any (l.set k (kV o)).b n=true) (hkn:k<n) (hn':n<l.a) (hA:GD l.b k n d=true) (hD:QK (l.set k (kV o))=true) (hsel:Region.noSelect l.b=true)
 (hod:o.Y=some d) (hog:o.guard=none) (hoa:o.after = #[]) (hrun:∀(a:qY) w,(execOp a.eval o).J P w=.ok (.value (.c (some ⟨w.a.j,0,none⟩))) (w.alloc (.D z T))) (h0:S w.drew)
 (hh:∃aF:qY,(∀(T:Type)(f:T->au),Nonempty T->(∀m,S (f m))->(∀m w',aM (f m).a.j (f m) w'->∃m',w'=f m')->wpQuiet P (l.set k (kV o)).b (fun w'=>∃m,w'=f m) (fun a'=>a'=aF) ((l.set k (kV o)).d n) a)
 /\ (∀w1 w',S w1->S w'->aM (w1.alloc (.D z T)).a.j (w1.alloc (.D z T)) w'->wpList P l.b Q (l.f n) (aF.put (some d) (.c (some ⟨w1.a.j,0,none⟩))) w')):(Code.region id l.b true).wp P Q a w:=by
 obtain⟨aF,h,h2⟩:=hh;simp only[xD,bB,decide_eq_true_eq]at hB;obtain⟨⟨⟨⟨amF,hn⟩,hs⟩,hc⟩,hlex⟩:=hB;have hlen:(l.set k (kV o)).a=l.a:=by simp
 have hsz:(l.set k (kV o)).b.j=l.b.j:=by simp
 have htl:((l.set k (kV o)).d n).a=n:=by simp;omega
 have hdl:(l.f n).a=l.b.j-n:=by simp
 have inv0:HeadInv .any (l.set k (kV o)).b n (nH l.b.j false):=
  ⟨by simp,fun j oj _ hl=>(by rw[mR]at hl;cases hl),fun t _ ht=>getD_in (by simpa using ht) (mR _ _)⟩
 refine wp_region_any hm ?_;rw[hsz]at hlex;have hseq:∀listed,lC .any (l.set k (kV o)).b (l.b.j-n) n listed=true->lC .any l.b (l.b.j-n) n listed=true:=by
  have:∀(g:Nat)(j:Nat) listed,lC .any (l.set k (kV o)).b g j listed=true->lC .any l.b g j listed=true:=by
   have he:∀listed,gF .any (l.set k (kV o)).b listed=gF .any l.b listed:=adC hk;intro g
   induction g with
   | zero=>intro j listed h;simp only[lC]at h⊢;rwa [he]at h
   | succ g ih=>intro j listed h;simp only[lC,bB]at h⊢;rw[he]at h;exact⟨h.1,ih _ _ h.2⟩
  exact fun listed=>this _ _ listed
 have:=YR (P:=P) (md:=.any) (g:=l.b.j-n) (aF:=aF) (Q:=Q) hk hkn hA hD (Region.noSelect_spec hsel) hod hog hoa hrun hS (fun listed w1 w' hw1 hw' hb hq=>by
  have:=wpAny_of_seq (P:=P) (md:=.any) (Q':=Q) (ops:=l.b) (l.f n) n listed (aF.put (some d) (.c (some ⟨w1.a.j,0,none⟩))) w' (fun j=>by simp[jq]) (by rw[hdl];exact hseq _ hq) (h2 w1 w' hw1 hw' hb)
  rwa [hdl]at this) n (nH l.b.j false) a {w with drawn:=w.drawn+1} (by simp) (getD_in (by simp;omega) (mR _ _)) h0 (fun C hC1 hC2 hC3=>by
  have hq:=h {w // C w} Subtype.val (let⟨w,hw⟩:=hC3;⟨⟨w,hw⟩⟩) (fun m=>hC1 _ m.2) (fun m w' hb=>⟨⟨w',hC2 _ _ m.2 hb⟩,rfl⟩);have e:(fun w':au=>∃m:{w // C w},w'=m.val)=C:=by
   funext w';rw[eq_iff_iff];exact⟨fun⟨m,hm⟩=>by rw[hm];exact m.2,fun h=>⟨⟨w',h⟩,rfl⟩⟩
  rw[e]at hq;have:=aaA (md:=.any) (C:=C) (g:=l.b.j-n) amF hs hc hn ((l.set k (kV o)).d n) 0 (nH l.b.j false) a (fun j hj=>by
   have hj':j<n:=by rw[htl]at hj;exact hj
   rw[iy hj',bl];simp) (by simpa using htl) inv0 (by rw[htl];exact hlex) hq
  rw[htl]at this;exact this)
 rw[show n+(l.b.j-n)=l.b.j by simp;omega]at this;exact this
end
section
attribute [local go_sem high] jc jK
def slN:aC->Nat
 | .a _ n _=>n
 | _=>0
def SxP(W:au)(r:Sx×Int)(e:lu)(W':au):Prop:=e=.a (.K #[.d r.1.aA,.b .a r.2])/\aM W.a.j W W'
theorem QM(W:au)(A:Option aU)(n c:Nat)(l:List UInt8)(hnc:n<=c)(hc:c<=9223372036854775807/\n<=1000000000)(hr:fZ W W.a.j A n l):aQ aj 176 #[.a A n c] W (SxP W (AU l)):=by
 have HR:=ah hr;have hl:=ah hr.len;have b0:=ah ((Bx.start W).new qL.aA 189);clear hr;go_enter Tryz.func176,Tryz.ntmps176;by_cases h40:n<40
 ·have aDN:(n:Int)<40:=by omega
  have H:=ah (show AU l=(qL,2)by unfold AU;rw[if_pos (by rw[hl.i];exact h40)]);go_wp2;refine aO (kSx.qK rfl _ rfl b0.i.X (Sx.I _)) rfl ?_;rw[H.i];exact⟨rfl,b0.i.R⟩
 have aDN:¬(n:Int)<40:=by omega
 have N40:=ah (show¬l.a<40 by rw[hl.i];exact h40);go_upto_region 3 with fail
 generalize hw1:W.alloc (.D qL.aA 189)=w1 at b0 ⊢;obtain⟨a,rfl,hab⟩:=HR.i.ahE (show 0<n by omega);have KS:=ah (show∀W',Bx [(W.a.j,qL.aA)] W W'->W'.b ⟨a.block,a.off+6,none⟩=some (.b .b (nX l 6))/\W'.b ⟨a.block,a.off+7,none⟩=some (.b .b (nX l 7))from fun W' h=>⟨(h.Mf HR.i).VH 5 (by omega),(h.Mf HR.i).VH 6 (by omega)⟩);obtain⟨i6,i7⟩:6<n/\7<n:=by omega
 have hx6:=jV (nX l 6) (by have:=uU l 6;omega);have hx7:=jV (nX l 7) (by have:=uU l 7;omega);obtain⟨t,ht⟩:=dw (fq l 4);have HT:=ah ht.symm;have htl:t<=65535:=by rw[ht];exact vH l 4
 have hx4:=jV (40+(t:Int)) (by omega);have C4:=ah (fun(W':au) (h:Bx [(W.a.j,qL.aA)] W W')=>amA W' (some a) n c l 4 4 rfl (by omega) hnc (by omega) (h.Mf HR.i));rw[<-ht]at C4;clear ht;have HX0:∃X:Sx,X=Sx.mk 40 (40+(t:Int)) (nX l 7) false 0 (nX l 6) ⟨true,nE.b⟩ ⟨true,nE.b⟩:=⟨_,rfl⟩
 clear hw1;have hWy:=ah b0.i.X.lt;refine P5 (Bx.abg [(W.a.j,qL.aA)] W) 14 15 4 189 qL.aA (by kernel_rfl) rfl (by kernel_rfl) (by decide) (by decide) (by kernel_rfl) (by kernel_rfl) (by kernel_rfl) rfl rfl rfl (fun a w=>by simp[go_sem]) b0.i.drew ?_;apply Exists.intro;refine⟨fun T f hT es ew=>?_,?_⟩
 ·have KF:=fun m=>KS.i _ (es m)
  have CF:=ah (fun m=>C4.i _ (es m));have EW:=ah ew;obtain⟨k1,k2⟩:(∀m,(f m).b ⟨a.block,a.off+6,none⟩=some (.b .b (nX l 6)))/\(∀m,(f m).b ⟨a.block,a.off+7,none⟩=some (.b .b (nX l 7))):=⟨fun m=>(KF m).1,fun m=>(KF m).2⟩
  clear KF;simp only[kV,bI,bM,jP,jZ]
  repeat(go_big_quiet_step ((first
   | (go_at_call 249;with_reducible refine(CF.i _).g ?_;rintro e w2 ⟨rfl,hb⟩;exact⟨rfl,EW.i _ _ hb⟩))))
  exact gN rfl
 ·intro w2 w3 hw2 _ hb
  have Z2:=ah ((hw2.new qL.aA 189).go hb);have hy:=hw2.X.lt;generalize w2.a.j=y at *;clear hw2 hb;simp only[lG,List.setIfInBounds_toArray,bI,bM,jQ,kZ];obtain⟨X0,hX0⟩:∃X:Sx,X=Sx.mk 40 (40+(t:Int)) (nX l 7) false 0 (nX l 6) ⟨true,nE.b⟩ ⟨true,nE.b⟩:=⟨_,rfl⟩
  have HX0:=ah hX0;rw[<-hX0];clear hX0 hx4 hx6 hx7;have hne:∀p∈[(W.a.j,qL.aA)],p.1≠y:=fun p hp=>by rw[fT.1 hp];exact jN hy
  have hne:=ah hne;have yO:=Z2.i.X.O 0 40 (by rw[Sx.I];omega);have Z3:=ah (Z2.i.put hne.i X0.aA (by rw[Sx.I,Sx.I]));clear C4 KS;go_step;go_simp;go_step;go_step;clear yO Z2;generalize gZ w3 y 0 X0.aA=w4 at Z3 ⊢;obtain⟨m,hm⟩:=dw (40+t);have hm':40+(t:Int)=m:=by omega
  rw[hm']at HX0;have HM:=ah (show m=40+fq l 4 by rw[HT.i];exact hm);have hm1:40<=m/\m<=65575:=by omega
  clear hm hm' htl;have i8:(8:Int)<=n:=by omega
  have i24:(24:Int)<=n:=by omega
  have R8:=(Z3.i.drew.Mf HR.i).yN (z:=8) (c:=c) (by omega) hnc;have cp1:∀ty,(qI #[56,56] ty #[.a (some ⟨y,7,none⟩) 16 16,.a (vI (some a) 8 c 1) (n-8) (c-8)]).J aj w4.drew=.ok (goInt 16) (gZ w4.drew y 7 (jg (qh 16 (l.f 8)))):=fun ty=>by
   have:=EU (c:=c-8) (d:=16) _ R8 (m:=16) (by omega) (by omega) (Z3.i.drew.X.O 7 16 (by rw[Sx.I];omega)) 56 ty 5 cu amc;rw[NK 16 _ (by rw[jG,hl.i];omega)]at this;exact this
  have Z4:=ah (Z3.i.drew.lay hne.i 7 (jg (qh 16 (l.f 8))));rw[Sx.abb]at Z4;go_upto_region 4 with fail
  go_region;clear cp1 R8 Z3;generalize gZ w4.drew y 7 (jg (qh 16 (l.f 8)))=w5 at Z4 ⊢;have R24:=(Z4.i.drew.Mf HR.i).yN (z:=24) (c:=c) (by omega) hnc;have cp2:∀ty,(qI #[56,56] ty #[.a (some ⟨y,24,none⟩) 16 16,.a (vI (some a) 24 c 1) (n-24) (c-24)]).J aj w5.drew=.ok (goInt 16) (gZ w5.drew y 24 (jg (qh 16 (l.f 24)))):=fun ty=>by
   have:=EU (c:=c-24) (d:=16) _ R24 (m:=16) (by omega) (by omega) (Z4.i.drew.X.O 24 16 (by rw[Sx.I];omega)) 56 ty 5 cu amc;rw[NK 16 _ (by rw[jG,hl.i];omega)]at this;exact this
  have Z5:=ah (Z4.i.drew.lay hne.i 24 (jg (qh 16 (l.f 24))));rw[Sx.aa',HX0.i]at Z5;go_upto_region 5 with fail
  go_region;clear cp2 R24 Z4 i8 i24;generalize gZ w5.drew y 24 (jg (qh 16 (l.f 24)))=w6 at Z5 ⊢;simp only at Z5;have S0:=ah (show sx0 l=Sx.mk 40 m (nX l 7) false 0 (nX l 6) ⟨true,qh 16 (l.f 8)⟩ ⟨true,qh 16 (l.f 24)⟩by unfold sx0 ajr;rw[HM.i];simp);obtain⟨X1,hX1⟩:∃X,X=sx0 l:=⟨_,rfl⟩
  rw[<-S0.i,<-hX1]at Z5;have HX1:=ah hX1;have ht1:X1.dA=m:=by rw[hX1,S0.i]
  have HT1:=ah ht1;clear hX1 HX0 ht1;have HE:=ah (fun(w':au) (x z:Sx) (h:Bx [(y,x.aA),(W.a.j,qL.aA)] W w')=>show dN (gZ w' W.a.j 0 z.aA) W.a.j z.aA/\aM W.a.j W (gZ w' W.a.j 0 z.aA)from
   have k:=h.swap.put (fun p hp=>by rw[fT.1 hp];exact uD hy) z.aA (by rw[Sx.I,Sx.I])
   ⟨k.X,k.R⟩)
  have TH:=ah (fun(w':au) (x:Sx) (h:Bx [(y,x.aA),(W.a.j,qL.aA)] W w')=>show w'.O W.a.j 0 40 from h.b1.O 0 40 (by rw[Sx.I];omega));have yO:=TH.i _ _ Z5.i;have cb:=(Z5.i.Mf HR.i).asg (by omega);obtain⟨x1,x2,x3,x4⟩:=Z5.i.X.M;have ht1:=HT1.i;have i0:(0:Int)<n:=by omega
  have i0':0<n:=by omega
  by_cases e1:¬nX l 0/16=6
  ·have q:((nX l 0:Int)/16 != 6)=true:=by rw[bne_iff_ne];omega
   have H:=ah (show AU l=(qL,3)by unfold AU;rw[if_neg N40.i,if_pos e1]);go_wp2;refine aO (kSx.qK rfl _ rfl (HE.i _ _ qL Z5.i).1 (Sx.I _)) rfl ?_;rw[H.i];exact⟨rfl,(HE.i _ _ qL Z5.i).2⟩
  have q:((nX l 0:Int)/16 != 6)=false:=by simp;omega
  by_cases e2:n<m
  ·have q2:(n:Int)<m:=by omega
   have H:=ah (show AU l=(qL,2)by unfold AU;rw[if_neg N40.i,if_neg e1,if_pos (by rw[hl.i,<-HM.i];exact e2)]);go_wp2;refine aO (kSx.qK rfl _ rfl (HE.i _ _ qL Z5.i).1 (Sx.I _)) rfl ?_;rw[H.i];exact⟨rfl,(HE.i _ _ qL Z5.i).2⟩
  have q2:¬(n:Int)<m:=by omega
  have H1:=ah (show AU l=yP 8 (sx0 l) ((l.d m).f 40)by unfold AU;rw[if_neg N40.i,if_neg e1,if_neg (by rw[hl.i,<-HM.i];exact e2),<-HM.i]);have RP:=ah (HR.i.adz (z:=40) (b:=m) (c:=c) (by omega) (by omega) hnc);have j1:(40:Int)<=m:=by omega
  have j2:(m:Int)<=c:=by omega
  have hy':=ah hy;clear hy;go_wp2_with fail;clear j1 j2 q q2 i0 i0' yO cb x1 x2 x3 x4 ht1;obtain⟨A0,hA0⟩:=dw (vI (some a) 40 c 1);rw[<-hA0]at RP ⊢;clear hA0;go_loopw [5] (fun s5 wr=>∃(x:Sx)(A':Option aU)(n' c':Nat)(r:List UInt8) (f:Nat),s5=.a A' n' c'/\n'<=c'/\c'<=c/\Bx [(y,x.aA),(W.a.j,qL.aA)] W wr/\fZ W W.a.j A' n' r/\AU l=yP f x r/\x.Ik+f=8/\0<=x.head/\x.head+2048*f<=20000)
   (fun s5 wr=>slN s5)
  case atStart=>exact⟨X1,A0,m-40,c-40,_,8,rfl,by omega,by omega,Z5.i,RP.i,by rw[HX1.i];exact H1.i,by rw[HX1.i];rfl,by rw[HX1.i];simp[sx0],by rw[HX1.i];simp[sx0]⟩
  case round=>
   obtain⟨x,A',n',c',r,f,rfl,hn',hc',hz,hr,hsx,hf,hh0,hh1⟩:=hrel;have HZ:=ah hz;have HRr:=ah hr;have HSX:=ah hsx;have hrl:=ah hr.len;obtain⟨x1,x2,x3,x4⟩:=hz.X.M;have CE:=ah (VG x.aR wr);have GO:=ah (fun(w1:au) (hb:aM wr.a.j wr w1)=>HZ.i.go hb);have yO:=TH.i _ _ hz;have HFn:=ah hf;have HH0:=ah hh0;have HH1:=ah hh1;clear hz hr hsx Z5 RP HX1 H1 HT1 HX0 S0 HM HT;by_cases hfr:x.oN=true
   ·have H:=ah (show AU l=(x,0)by rw[HSX.i,NR (.a hfr)])
    go_wp2;refine aO (kSx.qK rfl _ rfl (HE.i _ _ x HZ.i).1 (Sx.I _)) rfl ?_;rw[H.i];exact⟨rfl,(HE.i _ _ x HZ.i).2⟩
   have hfr:x.oN=false:=by simpa using hfr
   by_cases hex:zR x.aR=false
   ·have H:=ah (show AU l=(x,0)by rw[HSX.i,NR (.b hex)])
    go_wp2_with (go_at_call 250;with_reducible refine CE.i.g ?_;rintro e w1 ⟨rfl,hb1⟩;have Z1:=ah (GO.i w1 hb1);have t1:=TH.i _ _ Z1.i;obtain⟨y1,y2,y3,y4⟩:=Z1.i.X.M;clear hb1);refine aO (kSx.qK rfl _ rfl (HE.i _ _ x Z1.i).1 (Sx.I _)) rfl ?_;rw[H.i];exact⟨rfl,(HE.i _ _ x Z1.i).2⟩
   have hex:zR x.aR=true:=by simpa using hex
   clear yO x1 x2 x3 x4;obtain⟨x1,x2,x3,x4⟩:=HZ.i.X.M;rcases f with _|f
   ·have hx8:x.Ik=8:=by have:=HFn.i;simpa using this
    have H:=ah (show AU l=(qL,4)by rw[HSX.i,YO hfr hex]);go_wp2_with (go_at_call 250;with_reducible refine CE.i.g ?_;rintro e w1 ⟨rfl,hb1⟩;have Z1:=ah (GO.i w1 hb1);have t1:=TH.i _ _ Z1.i;obtain⟨y1,y2,y3,y4⟩:=Z1.i.X.M;clear hb1);refine aO (kSx.qK rfl _ rfl (HE.i _ _ qL Z1.i).1 (Sx.I _)) rfl ?_;rw[H.i];exact⟨rfl,(HE.i _ _ qL Z1.i).2⟩
   have hx8:(x.Ik==8)=false:=by rw[beq_eq_false_iff_ne];omega
   by_cases hs8:n'<8
   ·have q8:(n':Int)<8:=by omega
    have H:=ah (show AU l=(qL,2)by rw[HSX.i,Me hfr hex (.a (by rw[hrl.i];exact hs8))]);go_wp2_with (go_at_call 250;with_reducible refine CE.i.g ?_;rintro e w1 ⟨rfl,hb1⟩;have Z1:=ah (GO.i w1 hb1);have t1:=TH.i _ _ Z1.i;obtain⟨y1,y2,y3,y4⟩:=Z1.i.X.M;clear hb1);refine aO (kSx.qK rfl _ rfl (HE.i _ _ qL Z1.i).1 (Sx.I _)) rfl ?_;rw[H.i];exact⟨rfl,(HE.i _ _ qL Z1.i).2⟩
   have q8:¬(n':Int)<8:=by omega
   have CS:=ah (fun(w1:au) (h:Bx [(y,x.aA),(W.a.j,qL.aA)] W w1)=>QJ x.aR A' n' c' _ r w1 (by omega) (h.Mf HRr.i));obtain⟨sz,hsz⟩:=dw (qX x.aR r);have HSZ:=ah hsz;have SZ1:=ah (show 0<sz by rw[hsz];exact(QI _ _).2 hex);have SZ2:=ah (show sz<=2048 by rw[hsz];exact af3 _ _);rw[<-hsz]at CS;clear hsz;by_cases hss:n'<sz
   ·have q9:(n':Int)<sz:=by omega
    have H:=ah (show AU l=(qL,2)by rw[HSX.i,Me hfr hex (.b (by rw[hrl.i,<-HSZ.i];exact hss))]);go_wp2_with (first|(go_at_call 250;with_reducible refine CE.i.g ?_;rintro e w1 ⟨rfl,hb1⟩;have Z1:=ah (GO.i w1 hb1);have t1:=TH.i _ _ Z1.i;obtain⟨y1,y2,y3,y4⟩:=Z1.i.X.M;clear hb1)|(go_at_call 251;with_reducible refine(CS.i _ Z1.i).g ?_;rintro e w2 ⟨rfl,rfl⟩));refine aO (kSx.qK rfl _ rfl (HE.i _ _ qL Z1.i).1 (Sx.I _)) rfl ?_;rw[H.i];exact⟨rfl,(HE.i _ _ qL Z1.i).2⟩
   have q9:¬(n':Int)<sz:=by omega
   have H:=ah (show AU l=yP f ⟨x.head+sz,x.dA,x.Ij,decide (x.aR=44)&&Md r,x.Ik+1,(nX r 0:Nat),x.h,x.Y⟩ (r.f sz)by
    rw[HSX.i,YP hfr hex (by rw[hrl.i,<-HSZ.i];rintro(h|h);exact hs8 h;exact hss h),<-HSZ.i])
   have wh:bU.wrap (x.head+sz)=x.head+sz:=jV _ (by have:=SZ2.i;omega);have we:bU.wrap (x.Ik+1)=x.Ik+1:=jV _ (by omega);have wb:bU.wrap ((nX r 0:Nat):Int)=((nX r 0:Nat):Int):=jV _ (by have:=uU r 0;omega);obtain⟨a',rfl,hab'⟩:=HRr.i.ahE (show 0<n' by omega);have hne1:a'.block≠y:=by have:=hy'.i;omega
   have hne2:∀o,¬(⟨y,o,none⟩:aU)=a':=fun o e=>hne1 (by rw[<-e])
   have aJZ:∀o,¬a'=(⟨y,o,none⟩:aU):=fun o e=>hne1 (by rw[e])
   have ip:(0:Int)<n':=by omega
   have ip':0<n':=by omega
   have is2:(sz:Int)<=n':=by omega
   have BY:=ah (fun(w1:au) (h:Bx [(y,x.aA),(W.a.j,qL.aA)] W w1)=>(h.Mf HRr.i).asg ip');have ZE:=ah (fun(w':au) (fr:Bool) (p h e:Int) (hz:Bx [(y,x.aA),(W.a.j,qL.aA)] W w')=>show Bx [(y,(Sx.mk h x.dA x.Ij fr e p x.h x.Y).aA),(W.a.j,qL.aA)] W ((((w'.G ⟨y,3,none⟩ (.e fr)).G ⟨y,5,none⟩ (.b .a p)).G ⟨y,0,none⟩ (.b .a h)).G ⟨y,4,none⟩ (.b .a e))by
    have:=(((hz.set hne.i 3 (.e fr)).set hne.i 5 (.b .a p)).set hne.i 0 (.b .a h)).set hne.i 4 (.b .a e);rw[Sx.ams,Sx.YM,Sx.NG,Sx.amt]at this;exact this)
   by_cases p44:x.aR=44
   ·have C2:=ah (fun(w1:au) (h:Bx [(y,x.aA),(W.a.j,qL.aA)] W w1)=>amA w1 _ n' c' r 2 2 rfl (by omega) hn' (by omega) (h.Mf HRr.i))
    have hpt:=amE r;have aDR:(x.aR==44)=true:=by simp[p44]
    have aDS:=ah p44;clear p44;obtain⟨fr,hfr2⟩:=dw (Md r);rw[<-hfr2]at hpt;have HF2:=ah hfr2;clear hfr2;go_wp2_with (first|(go_at_call 250;with_reducible refine CE.i.g ?_;rintro e w1 ⟨rfl,hb1⟩;have Z1:=ah (GO.i w1 hb1);have t1:=TH.i _ _ Z1.i;obtain⟨y1,y2,y3,y4⟩:=Z1.i.X.M;clear hb1)|(go_at_call 251;with_reducible refine(CS.i _ Z1.i).g ?_;rintro e w2 ⟨rfl,rfl⟩)|(go_at_call 249;with_reducible refine(C2.i _ Z1.i).g ?_;rintro e w3 ⟨rfl,hb3⟩;have Z3:=ah (Z1.i.go hb3);obtain⟨z1,z2,z3,z4⟩:=Z3.i.X.M;have bz:=BY.i _ Z3.i;clear hb3));refine⟨⟨⟨x.head+sz,x.dA,x.Ij,fr,x.Ik+1,(nX r 0:Nat),x.h,x.Y⟩,vI (some a') sz c' 1,n'-sz,c'-sz,r.f sz,f,rfl,by omega,by omega,ZE.i _ _ _ _ _ Z3.i,HRr.i.yN (by omega) hn',?_,?_,?_,?_⟩,?_⟩
    ·rw[H.i,HF2.i];simp[aDS.i]
    ·have:=HFn.i;simp only;omega
    ·have:=HH0.i;simp only;omega
    ·have:=HH1.i;have:=SZ2.i;simp only;omega
    ·have:=SZ1.i;simp only[slN];omega
   ·have aDR:(x.aR==44)=false:=by simp[p44]
    go_wp2_with (first|(go_at_call 250;with_reducible refine CE.i.g ?_;rintro e w1 ⟨rfl,hb1⟩;have Z1:=ah (GO.i w1 hb1);have t1:=TH.i _ _ Z1.i;obtain⟨y1,y2,y3,y4⟩:=Z1.i.X.M;have bz:=BY.i _ Z1.i;clear hb1)|(go_at_call 251;with_reducible refine(CS.i _ Z1.i).g ?_;rintro e w2 ⟨rfl,rfl⟩));refine⟨⟨⟨x.head+sz,x.dA,x.Ij,false,x.Ik+1,(nX r 0:Nat),x.h,x.Y⟩,vI (some a') sz c' 1,n'-sz,c'-sz,r.f sz,f,rfl,by omega,by omega,ZE.i _ _ _ _ _ Z1.i,HRr.i.yN (by omega) hn',?_,?_,?_,?_⟩,?_⟩
    ·rw[H.i];simp[p44]
    ·have:=HFn.i;simp only;omega
    ·have:=HH0.i;simp only;omega
    ·have:=HH1.i;have:=SZ2.i;simp only;omega
    ·have:=SZ1.i;simp only[slN];omega
end
theorem NV(W:au)(A:Option aU)(n c:Nat)(l:List UInt8)(hnc:n<=c)(hc:c<=9223372036854775807/\n<=1000000000)(hr:fZ W W.a.j A n l):aQ aj 91 #[.a A n c] W (LkP W (mJ l)):=by
 have HR:=ah hr;have hl:=ah hr.len;have b0:=ah (dN.new W qQ.aA 108);have B0:=ah ((aH W.a.j W).alloc (ay _) (.D qQ.aA 108));have HR0:=ah ((hr.S B0.i).lH B0.i.j:fZ (W.alloc (.D qQ.aA 108)) (W.alloc (.D qQ.aA 108)).a.j A n l);clear hr;go_enter Tryz.func91,Tryz.ntmps91;by_cases h14:n<14
 ·have aDT:(n:Int)<14:=by omega
  have H:=ah (show mJ l=(ER,2)by unfold mJ;rw[if_pos (by rw[hl.i];exact h14)]);go_wp2;refine aO (kLc.qK rfl _ rfl b0.i (Lc.I _)) rfl ?_;rw[H.i];exact⟨none,0,rfl,iF.nil _ _,B0.i⟩
 have aDT:¬(n:Int)<14:=by omega
 have i1:(12:Int)<=c:=by omega
 obtain⟨w1,hw1⟩:=dw (W.alloc (.D qQ.aA 108));have PC:=HR0.i.QE (z:=12) (b:=n) (c:=c) (by omega) (by omega) (by omega);rw[if_neg (by omega),show(fun x:aU=>x.add 12)=fun x=>⟨x.block,x.off+12,none⟩from funext fun x=>by simp[qH]]at PC;have C1:=ah (Jo _ _ (n-12) (c-12) _ (by omega) (by omega) (by omega) PC);rw[show fq ((l.f 12).d (n-12)) 0=fq l 12 by rw[<-hl.i,<-jG,List.take_length];simp[fq,av]]at C1;clear PC;go_upto_region 4 with(go_at_call 173;with_reducible refine C1.i.g ?_;rintro e w2 ⟨rfl,hb2⟩)
 have d0:=ah (b0.i.S hb2 b0.i.lt);have B2:=ah (show aM W.a.j W w2 from B0.i.trans (hb2.g B0.i.j));have hs2:W.a.j<w2.a.j:=by have:=hb2.j;simp at this;omega
 clear hb2 C1 HR0 B0 b0 hw1;obtain⟨X0,hX0⟩:∃X:Lc,X=Lc.mk (bH 6 0) (bH 6 0) none 0 0 (fq l 12:Nat) 14:=⟨_,rfl⟩
 have Z3:=ah (show Rz Tg.aA 2 268 [(w2.a.j,X0.aA),(W.a.j,qQ.aA)] W (w2.alloc (.D X0.aA 108)) (.a none 0 0) []from
  Rz.new ⟨fB _ _ _ _,B2.i,fun p hp=>by rw[fT.1 hp];exact⟨d0.i,by simp[Value.ownBlock]⟩⟩ X0.aA _)
 rw[<-hX0];generalize hw3:w2.alloc (.D X0.aA 108)=w3 at Z3 ⊢;generalize w2.a.j=y at *;clear hw3 d0 B2;have R3:=ah ((HR.i.S Z3.i.R).lH Z3.i.R.j:fZ w3 w3.a.j A n l);have cp1:∀ty,(qI #[56,56] ty #[.a (some ⟨y,0,none⟩) 6 6,.a A n c]).J aj w3=.ok (goInt 6) (gZ w3 y 0 (AO (qh 6 l))):=fun ty=>by
  have:=EU (c:=c) (d:=6) w3 R3.i (m:=6) (by omega) (by omega) (Z3.i.X.O 0 6 (by rw[Lc.I];omega)) 56 ty 5 cu amc;rw[NK 6 l (by rw[hl.i];omega)]at this;exact this
 have hne:∀p∈[(W.a.j,qQ.aA)],p.1≠y:=fun p hp=>by rw[fT.1 hp];exact jN hs2
 have Z4:=ah ((Z3.i.auA (mQ hs2) hne 0 (AO (qh 6 l))).drew);rw[Lc.aa']at Z4;go_upto_region 5 with fail
 have R4:=ah ((HR.i.S Z4.i.R).lH Z4.i.R.j:fZ (gZ w3 y 0 (AO (qh 6 l))).drew (gZ w3 y 0 (AO (qh 6 l))).drew.a.j A n l);have cp2:∀ty,(qI #[56,56] ty #[.a (some ⟨y,6,none⟩) 6 6,.a (Option.map (fun x=>⟨x.block,x.off+6,none⟩) A) (n-6) (c-6)]).J aj (gZ w3 y 0 (AO (qh 6 l))).drew=.ok (goInt 6) (gZ (gZ w3 y 0 (AO (qh 6 l))).drew y 6 (AO (qh 6 (l.f 6)))):=fun ty=>by
  have P:=R4.i.QE (z:=6) (b:=n) (c:=c) (by omega) (by omega) (by omega);rw[if_neg (by omega),show(fun x:aU=>x.add 6)=fun x=>⟨x.block,x.off+6,none⟩from funext fun x=>by simp[qH]]at P;rw[aL (by simp;have:=hl.i;omega)]at P;have:=EU (c:=c-6) (d:=6) _ P (m:=6) (by omega) (by omega) (Z4.i.X.O 6 6 (by rw[Lc.I];omega)) 56 ty 5 cu amc;rw[NK 6 _ (by simp;have:=hl.i;omega)]at this;exact this
 have i6:(6:Int)<=c:=by omega
 go_region;have Z5:=ah (Z4.i.auA (mQ hs2) hne 6 (AO (qh 6 (l.f 6))));rw[Lc.abb,hX0]at Z5;simp only at Z5;clear Z3 Z4 R3 R4 cp1 cp2 i6 hX0;generalize gZ (gZ w3 y 0 (AO (qh 6 l))).drew y 6 (AO (qh 6 (l.f 6)))=w5 at Z5 ⊢;go_wp2_with fail;go_loopw [] (fun wr=>∃(fK:List Tg)(A':Option aU)(c' k:Nat),fK.a<=2/\14<=k/\k<=n/\Rz Tg.aA 2 268 [(y,(Lc.mk (qh 6 l) (qh 6 (l.f 6)) A' fK.a c' (fq l (k-2):Nat) k).aA),(W.a.j,qQ.aA)] W wr (.a A' fK.a c') fK/\mJ l=C9 l (2-fK.a) k fK)
  (fun wr=>n-(intOf ((wr.b ⟨y,14,none⟩).c undef)).e)
 case atStart=>exact⟨[],none,0,14,by simp,by omega,by omega,Z5.i,by unfold mJ;rw[if_neg (by rw[hl.i];exact h14)];rfl⟩
 case round=>
  obtain⟨fK,A',c',k,ht2,aJ2,hkn,hz,hlk⟩:=hrel;have HZ:=ah hz;have HK:=ah hlk;have HT:=ah (fun W=>aa9 W (fq l (k-2):Nat));have T0:=HZ.i.X;obtain⟨x1,x2,x3,x4⟩:=T0.M;have hWy:W.a.j≠y:=jN hs2;have hA:=ah (fun(x:Lc)=>HZ.i.ans (x:=x.aA) (ay _) hWy (by rw[Lc.I,Lc.I]));have yO:=HZ.i.b1.O 0 15 (by rw[Lc.I];omega);clear hz hlk T0 Z5;cases htag:tY (fq l (k-2):Nat)
  ·rw[htag]at HT
   have H:=ah (show mJ l=(⟨qh 6 l,qh 6 (l.f 6),fK,(fq l (k-2):Nat),k⟩,0)by rw[HK.i,zQ htag]);go_wp2_with (go_at_call 174;with_reducible refine(HT.i _).g ?_;rintro e w' ⟨rfl,rfl⟩);have hz2:=hA.i (Lc.mk (qh 6 l) (qh 6 (l.f 6)) A' fK.a c' (fq l (k-2):Nat) k);refine aO (kLc.qK rfl _ rfl hz2.X (Lc.I _)) rfl ?_;rw[H.i];exact⟨A',c',rfl,hz2.rd,hz2.R⟩
  rw[htag]at HT;by_cases h2:fK.a=2
  ·have h2':((fK.a:Int)==2)=true:=by rw[h2];rfl
   have H:=ah (show mJ l=(ER,4)by rw[HK.i,h2];exact Kh htag);go_wp2_with (go_at_call 174;with_reducible refine(HT.i _).g ?_;rintro e w' ⟨rfl,rfl⟩);have hz2:=hA.i qQ;refine aO (kLc.qK rfl _ rfl hz2.X (Lc.I _)) rfl ?_;rw[H.i];exact⟨none,0,rfl,iF.nil _ _,hz2.R⟩
  have h2':((fK.a:Int)==2)=false:=by rw[beq_eq_false_iff_ne];omega
  by_cases h4:n<k+4
  ·have h4':(n:Int)<(k:Int)+4:=by omega
   have H:=ah (show mJ l=(ER,2)by rw[HK.i,show 2-fK.a=(1-fK.a)+1 by omega];exact Cb htag (by rw[hl.i];exact h4));go_wp2_with (go_at_call 174;with_reducible refine(HT.i _).g ?_;rintro e w' ⟨rfl,rfl⟩);have hz2:=hA.i qQ;refine aO (kLc.qK rfl _ rfl hz2.X (Lc.I _)) rfl ?_;rw[H.i];exact⟨none,0,rfl,iF.nil _ _,hz2.R⟩
  have h4':¬(n:Int)<(k:Int)+4:=by omega
  have H:=ah (show mJ l=C9 l (2-(fK.a+1)) (k+4) (fK++[⟨(fq l (k-2):Nat),(fq l k:Nat)⟩])by rw[HK.i,show 2-fK.a=(2-(fK.a+1))+1 by omega];exact ET htag (by rw[hl.i];exact h4));go_upto_region 11 with(go_at_call 174;with_reducible refine(HT.i _).g ?_;rintro e w' ⟨rfl,rfl⟩)
  obtain⟨vr,hvr⟩:∃v,v=wr:=⟨_,rfl⟩
  rw[<-hvr]at HZ x1 x2 x3 x4 ⊢;have HV:=ah hvr;clear hA yO HT h2' h4' HK hvr;obtain⟨X,hX⟩:∃X:Lc,X=Lc.mk (qh 6 l) (qh 6 (l.f 6)) A' fK.a c' (fq l (k-2):Nat) k:=⟨_,rfl⟩
  have hi4:(k:Int)<=c:=by omega
  have hck:¬c=k:=by omega
  have PC:=(((HR.i.S HZ.i.R).lH HZ.i.R.j:fZ vr vr.a.j A n l)).QE (z:=k) (b:=n) (c:=c) (by omega) (by omega) (by omega);rw[if_neg (by omega),aL (by simp;have:=hl.i;omega)]at PC;have PD:=ah PC;have C2:=ah (Jo vr.drew _ (n-k) (c-k) _ (by omega) (by omega) (by omega) PC);rw[show fq (l.f k) 0=fq l k by simp[fq,av]]at C2;have KG:=ah (fun(W':au) (h:dN W' y X.aA)=>show W'.b ⟨y,12,none⟩=some (.a A' fK.a c')/\W'.b ⟨y,13,none⟩=some (.b .a (fq l (k-2):Nat))/\W'.b ⟨y,14,none⟩=some (.b .a k)by
   rw[hX]at h;exact⟨(h.M.1 12).trans (Lc.aa6 _),(h.M.1 13).trans (Lc.Eb _),(h.M.1 14).trans (Lc.Ma _)⟩)
  rw[<-hX]at HZ;have ZG:=ah (fun(wa:au) (h:aM vr.drew.a.j vr.drew wa)=>HZ.i.drew.go h);have HGL:=ah (show fK.a+1<=1000000 by omega);obtain⟨k1,k2,k3⟩:=KG.i vr.drew HZ.i.drew.X;clear PC;go_cut []from 37 to 49 (fun wx=>∃A5 c5,Rz Tg.aA 2 268 [(y,(Lc.mk (qh 6 l) (qh 6 (l.f 6)) A5 (fK.a+1) c5 (fq l (k-2):Nat) k).aA),(W.a.j,qQ.aA)] W wx (.a A5 (fK.a+1) c5) (fK++[⟨(fq l (k-2):Nat),(fq l k:Nat)⟩]))
  case first=>
   go_region_law (first|(refine auB (o:=⟨some 45,_,_,_,_,_⟩) rfl ?_;go_simp;go_at_call 173;(with_reducible refine C2.i.g ?_);rintro e wa ⟨rfl,hba⟩;have Za:=ah (ZG.i wa hba);have ka:=KG.i wa Za.i.X;have Zb:=ah (Za.i.alloc (.D (Tg.mk (fq l (k-2):Nat) (fq l k:Nat)).aA 268));have kb:=KG.i _ Zb.i.X;have RO:=ah (iF.one (f:=Tg.aA) (Tg.mk (fq l (k-2):Nat) (fq l k:Nat)) Tg.I wa 268);clear hba)|(refine auC (o:=⟨some 48,_,_,_,_,_⟩) ap2 rfl (.tmp 38) (.tmp 47) rfl (.a A' fK.a c') (some ⟨wa.a.j,0,none⟩) 1 1 (by kernel_rfl) Zb.i (by kernel_rfl) RO.i HGL.i ?_;intro A5 n5 c5 w5 h5 h6;have Z5:=ah h5;have k5:=(h5.X.M.1 12).trans (Lc.aa6 _);have f5:=h5.X.M.2.1 12;clear h5 h6))
   all_goals
    have Z6:=ah (Z5.i.amB (mQ hs2) hne 12 (.a A5 n5 c5));rw[Lc.amw]at Z6;obtain rfl:n5=fK.a+1:=by have:=Z5.i.len;simpa using this
    rw[hX]at Z6;clear Z5 k5 f5 k1 k2 k3 ka kb;go_wp2_with fail;go_meet
    case rel=>exact⟨A5,c5,Z6.i⟩
  obtain⟨A5,c5,Z6⟩:=hcut;have Z6:=ah Z6;generalize wc=w6 at Z6 ⊢;obtain⟨x1,x2,x3,x4⟩:=Z6.i.X.M;obtain⟨m,hm⟩:=dw (k+2);have PC:=(((HR.i.S Z6.i.R).lH Z6.i.R.j:fZ w6 w6.a.j A n l)).QE (z:=m) (b:=n) (c:=c) (by omega) (by omega) (by omega);rw[if_neg (by omega),aL (by simp;have:=hl.i;omega)]at PC;have C3:=ah (Jo w6 _ (n-m) (c-m) _ (by omega) (by omega) (by omega) PC);rw[show fq (l.f m) 0=fq l m by simp[fq,av,Nat.add_assoc]]at C3;have hi2:(m:Int)<=c:=by omega
  have aJ3:¬c=m:=by omega
  have hm2:(k:Int)+2=m:=by omega
  have HM:=ah hm;have HX:=ah hX;clear PC C2 PD KG ZG hX k1 k2 k3 hm;go_wp2_with (go_at_call 173;with_reducible refine C3.i.g ?_;rintro e w7 ⟨rfl,hb7⟩;have Z7:=ah (Z6.i.go hb7);have k7:=(Z7.i.X.M.1 13).trans (Lc.Eb _);have f7:=Z7.i.X.M.2.1;have k8:=(Z7.i.X.M.1 14).trans (Lc.Ma _);clear hb7);have Z8:=ah ((Z7.i.amB (mQ hs2) hne 13 (.b .a (fq l m:Nat))));rw[Lc.TM]at Z8;have Z9:=ah (Z8.i.amB (mQ hs2) hne 14 (.b .a ((k:Int)+4)));rw[Lc.ap1]at Z9;have q1:=(Z9.i.X.M.1 14).trans (Lc.Ma _);have q2:=(HZ.i.X.M.1 14)
  rw[HX.i,HV.i]at q2;have q2:=q2.trans (Lc.Ma _);simp only at q1 q2;refine⟨?_,?_⟩
  ·refine⟨fK++[⟨(fq l (k-2):Nat),(fq l k:Nat)⟩],A5,c5,k+4,by simp;omega,by omega,by omega,?_,by rw[H.i];simp⟩
   obtain rfl:=HM.i;simpa using Z9.i
  ·rw[q1,q2]
   simp[intOf]<;>omega
section
attribute [local go_sem high] jc jK
def YS(k:Int)(l:List UInt8):Nt×Int:=if k=2048 then(⟨(zZ l).1.head,(zZ l).1.dA,(zZ l).1.aR,(zZ l).1.oN,(zZ l).1.h,(zZ l).1.Y⟩,(zZ l).2)
 else(⟨(AU l).1.head,(AU l).1.dA,(AU l).1.aR,(AU l).1.oN,(AU l).1.h,(AU l).1.Y⟩,(AU l).2)
def xL(k:Int):Pk:=⟨k,ae4,0,0,0,0⟩
def mZ(l:List UInt8):Nt×Int:=YS (mJ l).1.oG (l.f (mJ l).1.fG)
def Mi(l:List UInt8):Pt×Int:=Jr (mZ l).1.aR ((l.d ((mJ l).1.fG+(mZ l).1.dA.e)).f ((mJ l).1.fG+(mZ l).1.head.e))
def vW(l:List UInt8):Pk:=
 if(mJ l).2≠0 then xL 1 else if(mJ l).1.oG≠2048/\(mJ l).1.oG≠34525 then xL 2 else if(mZ l).2≠0 then xL 3 else if(mZ l).1.oN=true then xL 4
 else if(mZ l).1.aR≠6/\(mZ l).1.aR≠17 then xL 5 else if(Mi l).2≠0 then xL 6
 else⟨0,⟨(mZ l).1.h,(mZ l).1.Y,(mZ l).1.aR,(Mi l).1.kT,(Mi l).1.j4⟩,(Mi l).1.uT,(mJ l).1.fG,(mJ l).1.fG+(mZ l).1.head,(mJ l).1.fG+(mZ l).1.dA⟩
theorem ahF{l:List UInt8}:∀(m k:Nat)(fK:List Tg),14<=k->k<=l.a->(C9 l m k fK).2=0->14<=(C9 l m k fK).1.fG/\(C9 l m k fK).1.fG<=l.a
 | 0,k,fK,h1,h2,h=>by
   cases ht:tY (fq l (k-2):Nat)with
   | false=>rw[zQ ht]at h⊢;exact⟨h1,h2⟩
   | true=>rw[Kh ht]at h;cases h
 | m+1,k,fK,h1,h2,h=>by
   cases ht:tY (fq l (k-2):Nat)with
   | false=>rw[zQ ht]at h⊢;exact⟨h1,h2⟩
   | true=>
     by_cases h4:l.a<k+4
     ·rw[Cb ht h4]at h;cases h
     ·rw[ET ht h4]at h⊢;exact ahF m (k+4) _ (by omega) (by omega) h
theorem af5{l:List UInt8}(h:(mJ l).2=0):14<=(mJ l).1.fG/\(mJ l).1.fG<=l.a:=by
 unfold mJ at h ⊢;split at h
 ·cases h
 ·rename_i hl;rw[if_neg hl];exact ahF 2 14 [] (by omega) (by omega) h
theorem amG{l:List UInt8}(h:(zZ l).2=0):20<=(zZ l).1.head/\(zZ l).1.head<=(zZ l).1.dA/\(zZ l).1.dA<=l.a:=by
 unfold zZ at h ⊢;split at h
 ·rename_i he
  rw[if_pos he];unfold Dt at he;simp only[PY]
  repeat(first|(split at he;(first|(cases he;done)|skip))|(exact absurd he (by decide)))
  all_goals(first|omega|(simp at he;done))
 ·exact absurd h ‹_›
theorem aqa(f:Nat):∀(x:Sx)(r:List UInt8),40<=x.head->x.head+r.a=x.dA->(yP f x r).2=0->40<=(yP f x r).1.head/\(yP f x r).1.head<=(yP f x r).1.dA/\(yP f x r).1.dA=x.dA:=by
 induction f with
 | zero=>
   intro x r h1 h2 h;by_cases hx:x.oN=true\/zR x.aR=false
   ·rw[NR hx]at h⊢;exact⟨h1,by simp only;omega,rfl⟩
   ·have hf:x.oN=false:=by simpa using fun e=>hx (.a e)
    have he:zR x.aR=true:=by simpa using fun e=>hx (.b e)
    rw[YO hf he]at h;cases h
 | succ f ih=>
   intro x r h1 h2 h;by_cases hx:x.oN=true\/zR x.aR=false
   ·rw[NR hx]at h⊢;exact⟨h1,by simp only;omega,rfl⟩
   ·have hf:x.oN=false:=by simpa using fun e=>hx (.a e)
    have he:zR x.aR=true:=by simpa using fun e=>hx (.b e)
    by_cases hs:r.a<8\/r.a<qX x.aR r
    ·rw[Me hf he hs]at h;cases h
    ·rw[YP hf he hs]at h ⊢
     exact ih ⟨x.head+qX x.aR r,x.dA,x.Ij,decide (x.aR=44)&&Md r,x.Ik+1,(nX r 0:Nat),x.h,x.Y⟩ (r.f (qX x.aR r)) (by simp only;omega) (by simp only[jG];omega) h
theorem amH{l:List UInt8}(h:(AU l).2=0):40<=(AU l).1.head/\(AU l).1.head<=(AU l).1.dA/\(AU l).1.dA<=l.a:=by
 unfold AU at h ⊢;split at h
 ·cases h
 ·rename_i h1
  rw[if_neg h1];split at h
  ·cases h
  ·rename_i h2
   rw[if_neg h2];split at h
   ·cases h
   ·rename_i h3
    rw[if_neg h3];obtain⟨e1,e2,e3⟩:=aqa 8 (sx0 l) _ (by simp[sx0]) (by simp[sx0];omega) h;refine⟨e1,e2,?_⟩;rw[e3];simp only[sx0];omega
theorem amI{k:Int}{l:List UInt8}(h:(YS k l).2=0):20<=(YS k l).1.head/\(YS k l).1.head<=(YS k l).1.dA/\(YS k l).1.dA<=l.a:=by
 unfold YS at h ⊢;split at h
 ·rename_i hk;rw[if_pos hk];exact amG h
 ·rename_i hk;rw[if_neg hk];have:=amH h;simp only;omega
@[go_sem ↓]theorem aJ4(ps:Array (Nat×aC)):fM 81 ps=uJ 81 ps:=rfl
theorem aDW(w:au)(fs:Array oh)(h:aj.k 81=some (.d fs)):(iG (fun f=>Prod.mk f.Z <$> sizeOf f.p) fs:xA (Array (Nat×Nat))).J aj w=.ok #[(0,17),(17,17),(34,1),(35,1),(36,1)] w:=by
 have e:=jY;rw[h]at e;cases e;show _=_
 kernel_rfl
theorem Tu.abf(x:Tu)(t:fE):sG x.aA 0 t.aA=({x with h:=t}:Tu).aA:=by unfold Tu.aA;exact Gy (by rw[fE.I,fE.I])
theorem Tu.TN(x:Tu)(t:fE):sG x.aA 17 t.aA=({x with Y:=t}:Tu).aA:=by unfold Tu.aA;exact qR (by rw[fE.I,fE.I]) 17 (fE.I _)
@[go_sem]theorem aDX(W:au)(s t:fE)(p a b:Int):(uJ 81 #[(0,.d s.aA),(1,.d t.aA),(2,.b .a p),(3,.b .a a),(4,.b .a b)]).J aj W=.ok (.d (Tu.mk s t p a b).aA) W:=kTu.bd W _ _ _ _ jY (aDW W _ jY) (by
 refine(sM rfl (fE.I _) (by rw[Tu.I];omega) (Tu.abf _ _)).trans ?_;refine(sM rfl (fE.I _) (by rw[Tu.I];omega) (Tu.TN _ _)).trans ?_;refine(iC rfl rfl (by rw[Tu.I];omega) (Tu.ax1 _ _)).trans ?_;refine(iC rfl rfl (by rw[Tu.I];omega) (Tu.ax2 _ _)).trans ?_;refine(iC rfl rfl (by rw[Tu.I];omega) (Tu.ar2 _ _)).trans ?_;rfl)
theorem Pk.EX(x:Pk)(v:Int):x.aA.b 0 (.b .a v)=({x with kind:=v}:Pk).aA:=by simp[Pk.aA,aN,Tu.I]
theorem Pk.PW(x:Pk)(v:Int):x.aA.b 38 (.b .a v)=({x with uT:=v}:Pk).aA:=by simp[Pk.aA,aN,Tu.I]
theorem Pk.aqb(x:Pk)(v:Int):x.aA.b 39 (.b .a v)=({x with C8:=v}:Pk).aA:=by simp[Pk.aA,aN,Tu.I]
theorem Pk.aqc(x:Pk)(v:Int):x.aA.b 40 (.b .a v)=({x with tu:=v}:Pk).aA:=by simp[Pk.aA,aN,Tu.I]
theorem Pk.amJ(x:Pk)(v:Int):x.aA.b 41 (.b .a v)=({x with Gw:=v}:Pk).aA:=by simp[Pk.aA,aN,Tu.I]
theorem Pk.aju(x:Pk)(t:Tu):sG x.aA 1 t.aA=({x with K:=t}:Pk).aA:=by unfold Pk.aA;exact qR (by rw[Tu.I,Tu.I]) 1 rfl
@[go_sem]theorem aDY(W:au)(k:Int):(uJ 83 #[(0,.b .a k)]).J aj W=.ok (.d (xL k).aA) W:=kPk.bd W _ _ _ _ vB (ayA W _ vB) (by
 refine(iC rfl rfl (by rw[Pk.I];omega) (Pk.EX _ _)).trans ?_;rfl)
@[go_sem]theorem aDZ(W:au)(t:Tu)(a b c d:Int):(uJ 83 #[(1,.d t.aA),(2,.b .a a),(3,.b .a b),(4,.b .a c),(5,.b .a d)]).J aj W=.ok (.d (Pk.mk 0 t a b c d).aA) W:=kPk.bd W _ _ _ _ vB (ayA W _ vB) (by
 refine(sM rfl (Tu.I _) (by rw[Pk.I];omega) (Pk.aju _ _)).trans ?_;refine(iC rfl rfl (by rw[Pk.I];omega) (Pk.PW _ _)).trans ?_;refine(iC rfl rfl (by rw[Pk.I];omega) (Pk.aqb _ _)).trans ?_;refine(iC rfl rfl (by rw[Pk.I];omega) (Pk.aqc _ _)).trans ?_;refine(iC rfl rfl (by rw[Pk.I];omega) (Pk.amJ _ _)).trans ?_;rfl)
theorem adD(p:Int)(W:au):aQ aj 94 #[.b .a p] W fun e W'=>e=.a (.e (decide (p=6)||decide (p=17)))/\W=W':=by
 go_enter Tryz.func94,Tryz.ntmps94;by_cases h:p=6
 ·have q:(p==6)=true:=by simp[h]
  go_wp2;go_ret;exact⟨by simp[h],rfl⟩
 ·have q:(p==6)=false:=by simp[h]
  go_wp2;go_ret;exact⟨by simp[h];rw[cB];simp,rfl⟩
def adE(k:Int):aC:=.iface 162 (.b .a k)
theorem aqd(k:Int)(W:au):aQ aj 92 #[.e true,.b .a k] W fun e W'=>e=.a (.K #[])/\W=W':=by
 go_enter Tryz.func92,Tryz.ntmps92;go_wp2;go_end0;exact⟨rfl,rfl⟩
theorem aqe(k:Int)(W:au):aQ aj 92 #[.e false,.b .a k] W fun e W'=>e=.panicked [{v:=adE k,recovered:=false}]/\W=W':=by
 go_enter Tryz.func92,Tryz.ntmps92;go_wp2;exact⟨rfl,rfl,rfl⟩
theorem af6(W:au)(k:Int)(A:Option aU)(n c:Nat)(l:List UInt8)(hnc:n<=c)(hc:c<=9223372036854775807/\n<=1000000000)(hr:fZ W W.a.j A n l):aQ aj 93 #[.b .a k,.a A n c] W (gy W (.K #[.d (YS k l).1.aA,.b .a (YS k l).2])):=by
 have b0:=ah ((Bx.start W).new aa5.aA 168);have R0:=b0.i.Mf hr;have C4:=ah (NM _ A n c l hnc hc R0);have C6:=ah (QM _ A n c l hnc hc R0);clear R0 hr;have hne:∀(w:au),W.a.j<w.a.j->∀p∈[(w.a.j,(#[]:Array aC))],True:=fun _ _ _ _=>trivial
 go_enter Tryz.func93,Tryz.ntmps93;by_cases hk:k=2048
 ·have q:(k==2048)=true:=by simp[hk]
  have H:=ah (show YS k l=(⟨(zZ l).1.head,(zZ l).1.dA,(zZ l).1.aR,(zZ l).1.oN,(zZ l).1.h,(zZ l).1.Y⟩,(zZ l).2)by unfold YS;rw[if_pos hk]);obtain⟨x,hx⟩:=dw ((zZ l));obtain⟨x,er⟩:=x;rw[<-hx]at H;unfold FoP at C4;rw[<-hx]at C4;clear hx hk;go_wp2_with (go_at_call 175;with_reducible refine C4.i.g ?_;rintro e w1 ⟨rfl,hb1⟩;have Z1:=ah (b0.i.go hb1);have Z2:=ah (Z1.i.new x.aA 192);obtain⟨y1,y2,y3,y4⟩:=Z2.i.X.M;have yO:=Z2.i.b1.O 0 38 (aY (Nt.I aa5).symm);clear hb1);have Z3:=ah (Z2.i.swap.put (fun p hp=>by rw[fT.1 hp];exact uD Z1.i.X.lt) (Nt.mk x.head x.dA x.aR x.oN x.h x.Y).aA (by rw[Nt.I,Nt.I]));refine aO (kNt.qK rfl _ rfl Z3.i.X (Nt.I _)) rfl ?_;rw[H.i];exact⟨rfl,Z3.i.R⟩
 ·have q:(k==2048)=false:=by simp[hk]
  have H:=ah (show YS k l=(⟨(AU l).1.head,(AU l).1.dA,(AU l).1.aR,(AU l).1.oN,(AU l).1.h,(AU l).1.Y⟩,(AU l).2)by unfold YS;rw[if_neg hk]);obtain⟨x,hx⟩:=dw ((AU l));obtain⟨x,er⟩:=x;rw[<-hx]at H;unfold SxP at C6;rw[<-hx]at C6;clear hx hk;go_wp2_with (go_at_call 176;with_reducible refine C6.i.g ?_;rintro e w1 ⟨rfl,hb1⟩;have Z1:=ah (b0.i.go hb1);have Z2:=ah (Z1.i.new x.aA 189);obtain⟨y1,y2,y3,y4⟩:=Z2.i.X.M;have yO:=Z2.i.b1.O 0 38 (aY (Nt.I aa5).symm);clear hb1);have Z3:=ah (Z2.i.swap.put (fun p hp=>by rw[fT.1 hp];exact uD Z1.i.X.lt) (Nt.mk x.head x.dA x.aR x.oN x.h x.Y).aA (by rw[Nt.I,Nt.I]));refine aO (kNt.qK rfl _ rfl Z3.i.X (Nt.I _)) rfl ?_;rw[H.i];exact⟨rfl,Z3.i.R⟩
theorem VL{P:eX}{t:bF}{ik:IntKind}(hu:P.k t=some (.b ik))(v:aC)(xT:bF)(w:au):(GY (.iface t v) xT t true).J P w=.ok (.K #[v,.e true]) w:=by
 simp[GY,dJ hu]
theorem Sk(q:Nat)(k:Int)(lQ:List PanicEntry)(w:au)(hth:w.O q 0 42):
 CallsD aj 90 #[.c (some ⟨q,0,none⟩)] (.panicking ({v:=adE k,recovered:=false}::lQ)) w fun e u' w'=>
  e=.a (.K #[])/\u'=.panicking ({v:=adE k,recovered:=true}::lQ)/\w'=gZ w q 0 (xL k).aA:=by
 refine callsD_of_wpS Tryz.func90 rfl fun c₀ cs hu=>?_
 simp only[Iz,dP,bD,gQ,Nat.reduceAdd,Nat.reduceSub,Array.replicate_succ,Array.replicate_zero,List.push_toArray,List.append_toArray,List.nil_append,List.cons_append];apply IB;apply Cm;simp[wpOpsS,go_sem,recoverD,hu,Iz,Exit.thenS];apply IB;apply Cm;simp[wpOpsS,go_sem,recoverD,hu,Iz,Exit.thenS,adE];refine wpS_cond (t:=true) (by simp[Act.eval,nH]) ?_;simp only[if_true];refine wpS_of_wp ?_;have hty:=fun v xT w=>VL (P:=aj) Tryz.underlying162 v xT w
 have aJ5:=hth;go_wp2;exact⟨rfl,_,rfl,_,results_none rfl _ _ _,rfl,rfl,rfl⟩
theorem af7(q:Nat)(w:au):
 CallsD aj 90 #[.c (some ⟨q,0,none⟩)] .returning w fun e u' w'=>e=.a (.K #[])/\u'=.returning/\w'=w:=by
 refine callsD_of_wpS Tryz.func90 rfl fun c₀ cs hu=>?_
 apply IB;apply Cm;simp[wpOpsS,go_sem,recoverD,hu,Iz,Exit.thenS];apply IB;apply Cm;simp[wpOpsS,go_sem,recoverD,hu,Iz,Exit.thenS];refine wpS_cond (t:=false) (by simp[Act.eval,nH]) ?_;simp only[jr,if_false];refine wpS_of_wp (wp_skip ?_);cases c₀;simp_all[bodyPostS,results,Tryz.results90]
end
def yx(o:je)(e:Nat):je:={o with after:=o.after.push {on:=e,ground:=.data}}
theorem Lg{listed:Array Bool}{k i:Nat}{b:Bool}(h:listed.c k b=true):(listed.b i true).c k b=true:=by
 by_cases e:i=k
 ·subst e
  rcases aZ i listed.j with h1|h1
  ·simp[h1]
  ·rw[jR h1];exact h
 ·rw[xC b e];exact h
def amK(ops:Array je)(k s e d:Nat):Bool:=match ops[s]?,ops[e]?,ops[s+1]? with
 | some os,some oe,some ot=>((dS s).all fun i=>i==e||os.after.any fun x=>qJ .any x&&x.on==i)&&(oe.after.all fun x=>!qJ .any x||os.after.any fun y=>qJ .any y&&y.on==x.on)
  && (ot.after.any fun x=>qJ .any x&&x.on==e)&&os.Y==none&&os.guard==none&&oe.guard==none&&decide (e<s)&&decide (k<s)&&e != k&&(match oe.Y with|some x=>!(os.looksAt ops).contains x&&x != d|none=>false) && !(oe.looksAt ops).contains d
  && ((dS ops.j).all fun t=>decide (t<=s+1)||Region.waitsFor .any ops t (t-1))
 | _,_,_=>false
section
variable {P:eX}
section
variable {l:List je} {k s e g d:Nat} {o os oe:je} {T:bF} {z:Array aC} {aF:qY} {Q:zW->qY->au->Prop}
def mV(l:List je)(k s e:Nat)(o os:je):List je:=(l.set k (kV o)).set s (yx os e)
theorem zq(i:Nat)(hk:i≠k)(hs:i≠s):(mV l k s e o os).b[i]? = l.b[i]?:=by
 simp[mV,fI,jy hk,jy hs]
theorem abh(hs:l[s]? = some os):(mV l k s e o os).b[s]? = some (yx os e):=by
 have:=(iJ.1 hs).1;simp[mV,fI,this]
theorem VO(hk:l[k]? = some o)(hks:k≠s):(mV l k s e o os).b[k]? = some (kV o):=by
 have:=(iJ.1 hk).1;simp[mV,fI,this,jy hks]
theorem VQ(hk:l[k]? = some o)(hs:l[s]? = some os)(hks:k≠s)(tmps:Array aC):yielded (mV l k s e o os).b tmps=yielded l.b tmps:=by
 funext j;unfold yielded;have:((mV l k s e o os).b[j]?).bind (·.Y)=(l.b[j]?).bind (·.Y):=by
  by_cases h1:j=s
  ·subst h1;rw[abh hs];simp[hs,yx]
  ·by_cases h2:j=k
   ·subst h2;rw[VO hk hks];simp[hk,kV]
   ·rw[zq j h2 h1]
 rw[this]
theorem Mj(hk:l[k]? = some o)(hs:l[s]? = some os)(hks:k≠s){listed:Array Bool}{i:Nat}(h:i∈gF .any (mV l k s e o os).b listed):i∈gF .any l.b listed:=by
 obtain⟨h1,p,hp,h2⟩:=kF.1 h;by_cases e1:i=s
 ·subst e1
  rw[abh hs]at hp;cases hp;exact kF.2 ⟨h1,os,by simpa using hs,fun x hx hb=>h2 x (by simp[yx,hx]) hb⟩
 ·by_cases e2:i=k
  ·subst e2
   rw[VO hk hks]at hp;cases hp;exact kF.2 ⟨h1,o,by simpa using hk,h2⟩
  ·rw[zq i e2 e1]at hp
   exact kF.2 ⟨h1,p,hp,h2⟩
theorem Mk(hk:l[k]? = some o)(hs:l[s]? = some os)(hks:k≠s){listed:Array Bool}{i:Nat}(h:i∈gF .any l.b listed):i∈gF .any (mV l k s e o os).b listed\/(i=s/\listed.c e false=false):=by
 obtain⟨h1,p,hp,h2⟩:=kF.1 h;by_cases e1:i=s
 ·subst e1
  cases he:listed.c e false with
  | false=>exact .b ⟨rfl,rfl⟩
  | true=>
    have:p=os:=by simp[hs]at hp;exact hp.symm
    subst this;refine .a (kF.2 ⟨h1,yx p e,abh hs,fun x hx hb=>?_⟩);simp only[yx,Array.mem_push]at hx;rcases hx with hx|rfl
    ·exact h2 x hx hb
    ·exact he
 ·left
  by_cases e2:i=k
  ·subst e2
   have:p=o:=by simp[hk]at hp;exact hp.symm
   subst this;exact kF.2 ⟨h1,kV p,VO hk hks,h2⟩
  ·exact kF.2 ⟨h1,p,by rw[zq i e2 e1];exact hp,h2⟩
theorem YT(hk:l[k]? = some o)(hs:l[s]? = some os)(hks:k≠s){listed:Array Bool}(he:listed.c e false=true):gF .any (mV l k s e o os).b listed=gF .any l.b listed:=by
 have hiff:∀i,i∈gF .any (mV l k s e o os).b listed↔i∈gF .any l.b listed:=fun i=>
  ⟨Mj hk hs hks,fun h=>(Mk hk hs hks h).resolve_right fun h2=>by rw[he]at h2;cases h2.2⟩
 have hsz:(mV l k s e o os).b.j=l.b.j:=by simp[mV]
 unfold gF at hiff ⊢;rw[hsz]at hiff ⊢;refine Fz fun i hi=>?_
 have:=hiff i;rw[mH,mH]at this;rw[cB];exact⟨fun h=>(this.1 ⟨hi,h⟩).2,fun h=>(this.2 ⟨hi,h⟩).2⟩
theorem abj(hk:l[k]? = some o)(hs:l[s]? = some os)(hks:k≠s):∀(g j:Nat)(listed:Array Bool),listed.c e false=true->listed.j=l.a->lC .any (mV l k s e o os).b g j listed=true->lC .any l.b g j listed=true
 | 0,j,listed,he,hz,h=>by simp only[lC]at h⊢;rwa [YT hk hs hks he]at h
 | g+1,j,listed,he,hz,h=>by
   simp only[lC,bB]at h ⊢;rw[YT hk hs hks he]at h;exact⟨h.1,abj hk hs hks g (j+1) _ (getD_set_true he) (by simp[hz]) h.2⟩
def Pure(P:eX)(oe:je):Prop:=∀(a:qY)(w w':au)(n:Next)(w1:au),(execOp a.eval oe).J P w=.ok n w1->∃v,n=.value v/\w1=w/\(execOp a.eval oe).J P w'=.ok (.value v) w'
structure P9(l:List je)(k s e d x:Nat)(o os oe ot:je):Prop where
 hk:l[k]? = some o
 hs:l[s]? = some os
 he:l[e]? = some oe
 ht:l[s+1]? = some ot
 all:∀i,i<s->i≠e->∃y∈os.after,qJ .any y=true/\y.on=i
 sub:∀y∈oe.after,qJ .any y=true->∃z∈os.after,qJ .any z=true/\z.on=y.on
 wt:∃y∈ot.after,qJ .any y=true/\y.on=e
 sd:os.Y=none
 sg:os.guard=none
 eg:oe.guard=none
 es:e<s
 ks:k<s
 ek:e≠k
 ed:oe.Y=some x
 sx:x∉os.looksAt l.b
 xd:x≠d
 edl:d∉oe.looksAt l.b
 chain:∀t,t<l.a->s+1<t->Region.waitsFor .any l.b t (t-1)=true
theorem P9.of{x:Nat}{ot:je}(hk:l[k]? = some o)(hs:l[s]? = some os)(he:l[e]? = some oe)(ht:l[s+1]? = some ot)(hx:oe.Y=some x)(h:amK l.b k s e d=true):P9 l k s e d x o os oe ot:=by
 unfold amK at h;simp only[dY,hs,he,ht,bB,decide_eq_true_eq,hx,beq_iff_eq,bne_iff_ne]at h;obtain⟨⟨⟨⟨⟨⟨⟨⟨⟨⟨⟨h1,h2⟩,h3⟩,h4⟩,h5⟩,h6⟩,h7⟩,h8⟩,h9⟩,h10,h11⟩,h12⟩,h13⟩:=h;refine⟨hk,hs,he,ht,fun i hi hie=>?_,fun y hy hb=>?_,?_,h4,h5,h6,h7,h8,h9,hx,by simpa using h10,h11,by simpa using h12,fun t ht1 ht2=>?_⟩
 ·have:=fV.1 h1 i (eG.2 hi)
  simp only[nJ,beq_iff_eq]at this;obtain⟨y,hy,hy2⟩:=Array.any_eq_true'.1 (this.resolve_left hie);simp only[bB,beq_iff_eq]at hy2;exact⟨y,hy,hy2⟩
 ·have:=Array.all_eq_true'.1 h2 y hy
  simp only[nJ,Bool.not_eq_true',hb]at this;obtain⟨z,hz,hz2⟩:=Array.any_eq_true'.1 (this.resolve_left (by simp));simp only[bB,beq_iff_eq]at hz2;exact⟨z,hz,hz2⟩
 ·obtain⟨y,hy,hy2⟩:=Array.any_eq_true'.1 h3
  simp only[bB,beq_iff_eq]at hy2;exact⟨y,hy,hy2⟩
 ·have:=fV.1 h13 t (eG.2 (by simpa using ht1))
  simp only[nJ,decide_eq_true_eq]at this;exact this.resolve_left (by omega)
theorem ajv{x:Nat}{ot:je}(H:P9 l k s e d x o os oe ot)(hsel:∀(j:Nat)(o:je) cs b,l.b[j]? = some o->o.op≠.select cs b)(hp:Pure P oe){C:au->Prop}{u:aC}{f:Nat}{listed:Array Bool}{a:qY}{w:au}
 (hsz:listed.j=l.a) (htail:∀t,s<=t->t<l.a->listed.c t true=false) (hq:XB P .any (mV l k s e o os).b C s (l.a-s) aF (f+1) listed a) (hw:C w) (hsr:s∈gF .any l.b listed) (hel:listed.c e false=false)
 (hst:∀w',C w'->∃w2,(execOp (aF.put (some d) u).eval os).J P w'=.ok .skip w2/\wpList P l.b Q (l.f (s+1)) (aF.put (some d) u) w2) :
 wpOp P l.b Q s (wpAny P .any l.b Q (f+(l.a-s)) (listed.b s true)) (a.put (some d) u) w:=by
 have hks:=jN H.ks;have hes:=jN H.es;obtain⟨_,p,hpo,hall⟩:=kF.1 hsr;have:p=os:=by have:=H.hs;simp[this]at hpo;exact hpo.symm
 subst this;have hlt:s+1<l.a:=(iJ.1 H.ht).1;have auK:e<listed.j:=by rw[hsz];have:=H.es;omega
 have he':e∈gF .any (mV l k s e o p).b listed:=kF.2 ⟨getD_in auK hel,oe,by rw[zq e H.ek hes];simpa using H.he,fun y hy hb=>by
  obtain⟨z,hz,hzb,hzo⟩:=H.sub y hy hb;rw[<-hzo];exact hall z hz hzb⟩
 obtain⟨v,hy,hK⟩:=qU (by rw[zq e H.ek hes];simpa using H.he) (hq.2 e he').2;have ahG:∀i,i<s->i≠e->listed.c i false=true:=fun i hi hie=>by
  obtain⟨y,hy,hb,ho⟩:=H.all i hi hie;rw[<-ho];exact hall y hy hb
 obtain rfl:f=0:=by
  rcases f with _|f
  ·rfl
  ·exfalso
   obtain⟨i,hi⟩:=List.exists_mem_of_ne_nil _ hK.1;have hin:=(hK.2 i hi).1;have hun:=(kF.1 hi).1;have h1:=zS hun;have h2:=Ec hun;have h3:=ahG i hin h1;rw[getD_both h2]at h3;cases h3
 obtain⟨hseq,hact⟩:=hK;rw[H.ed]at hact;have hA:aF.put (some d) u=(a.put (some d) u).put (some x) v:=by rw[<-hact];exact Act.put_comm a v u (fun e he=>by cases he;simpa using jy H.xd)
 unfold wpOp;rw[hpo];simp only;rw[if_pos (by simp[fF,H.sg])];refine .a ?_;obtain⟨w2,hrun,hrest⟩:=hst w hw;rw[hA,execOp_put p (fun cs b=>hsel s p cs b hpo) (a.put (some d) u) (some x) v (fun e he=>by cases he;exact H.sx)]at hrun;unfold nI;rw[hrun];simp only[Mx,H.sd,lG];rw[bl];obtain⟨g,hg⟩:∃g,l.a-s=g+1:=⟨l.a-s-1,by omega⟩
 rw[hg]at hseq ⊢;simp only[lC,bB,decide_eq_true_eq]at hseq;have ayT:(listed.b s true).c e false=false:=by rw[xC false (jy hes)];exact hel
 have her:e∈gF .any l.b (listed.b s true):=kF.2 ⟨getD_in (by simpa using auK) ayT,oe,by simpa using H.he,fun y hy hb=>by
  obtain⟨z,hz,hzb,hzo⟩:=H.sub y hy hb;rw[<-hzo];exact getD_set_true (hall z hz hzb)⟩
 refine⟨fun h0=>(by rw[h0]at her;cases her),fun i hi=>?_⟩;obtain rfl:i=e:=by
  obtain⟨hun,q,hqo,hqa⟩:=kF.1 hi;have h1:=zS hun;have h2:=Ec hun;by_cases hie:i=e
  ·exact hie
  ·exfalso
   rcases aZ i s with h3|h3
   ·have h4:=ahG i h3 hie
    rw[getD_both h2]at h4;cases h4
   ·have hil:i<l.a:=by have:=(Array.getElem?_eq_some_iff.1 hqo).1;simpa using this
    rcases aZ (s+1) i with h4|h4
    ·obtain⟨q',hq',y,hy,hb,ho⟩:=Region.waitsFor_spec (H.chain i hil h4)
     have:q'=q:=Option.some.inj (hq'.symm.trans hqo);subst this;have h5:=hqa y hy hb;rw[ho,xC false (by omega),getD_both (htail (i-1) (by omega) (by omega))]at h5;cases h5
    ·obtain rfl:i=s+1:=by omega
     have:q=ot:=by have:=H.ht;simp[this]at hqo;exact hqo.symm
     subst this;obtain⟨y,hy,hb,ho⟩:=H.wt;have h5:=hqa y hy hb;rw[ho,ayT]at h5;cases h5
 have heo:l.b[i]? = some oe:=by simpa using H.he
 unfold wpOp;simp only[heo];rw[if_pos (by simp[fF,H.eg])];refine .a ?_;have hyv:(execOp a.eval oe).J P w2=.ok (.value v) w2:=by
  rcases hy with⟨_,h2⟩|⟨h1,_⟩
  ·have h3:=h2 w hw
   unfold Oper.quietAt at h3;generalize hr:(execOp a.eval oe).J P w=r at h3;cases r with
   | halt y w'=>cases h3
   | ok n w'=>
     obtain⟨v',rfl,rfl,h4⟩:=hp a w w2 n w' hr;simp only[Oper.quietUpon]at h3;rw[<-h3.2];exact h4
  ·simp[fF,H.eg]at h1
 unfold nI;have hex:execOp (a.put (some d) u).eval oe=execOp a.eval oe:=execOp_put oe (fun cs b=>hsel i oe cs b heo) a (some d) u (fun e he=>by cases he;exact H.edl);have ha2:({tmps:=a.tmps.b d u,defers:=a.defers}:qY)=a.put (some d) u:=rfl;rw[ha2,hex,hyv];simp only[Mx,H.ed];rw[<-hA];have hdl:(l.f (s+1)).a=g:=by simp;omega
 have:=wpAny_of_seq (P:=P) (md:=.any) (Q':=Q) (ops:=l.b) (l.f (s+1)) (s+1) ((listed.b s true).b i true) (aF.put (some d) u) w2 (fun j=>by simp[jq]) (by
  rw[hdl,Array.setIfInBounds_comm _ _ (jy hes)];refine abj H.hk H.hs hks g (s+1) _ ?_ (by simp[hsz]) hseq.2;rw[xC false (jy hes)];simp[auK]) hrest
 rw[hdl]at this;exact this
theorem NW{listed:Array Bool}{i:Nat}(h:∀t,s<=t->t<l.a->listed.c t true=false)(hi:i<s):∀t,s<=t->t<l.a->(listed.b i true).c t true=false:=fun t h1 h2=>by rw[xC true (by omega)];exact h t h1 h2
theorem Jt{x:Nat}{ot:je}(H:P9 l k s e d x o os oe ot)(hA:GD l.b k s d=true)(hsel:∀(j:Nat)(o:je) cs b,l.b[j]? = some o->o.op≠.select cs b)(hp:Pure P oe){C:au->Prop}{u:aC}
 (hst:∀w',C w'->∃w2,(execOp (aF.put (some d) u).eval os).J P w'=.ok .skip w2/\wpList P l.b Q (l.f (s+1)) (aF.put (some d) u) w2)
 (hend:∀listed w',listed.j=l.a->C w'->lC .any (mV l k s e o os).b (l.a-s) s listed=true->wpAny P .any l.b Q (l.a-s) listed (aF.put (some d) u) w') :
 ∀(f:Nat)(listed:Array Bool)(a:qY)(w:au),listed.j=l.a->(∀t,s<=t->t<l.a->listed.c t true=false)->listed.c k true=true->C w->XB P .any (mV l k s e o os).b C s (l.a-s) aF f listed a->wpAny P .any l.b Q (f+(l.a-s)) listed (a.put (some d) u) w
 | 0,listed,a,w,hsz,_,_,hw,h=>by
   obtain⟨h1,rfl⟩:=h;rw[bl];exact hend _ _ hsz hw h1
 | f+1,listed,a,w,hsz,htl,hkt,hw,h=>by
   rw[show f+1+(l.a-s)=(f+(l.a-s))+1 by omega];have hks:=jN H.ks;refine⟨fun h0=>absurd ?_ h.1,fun i hi=>?_⟩
   ·rw[tK]
    intro i hi;have:=Mj H.hk H.hs hks hi;rw[h0]at this;cases this
   ·rcases Mk (e:=e) H.hk H.hs hks hi with hi'|⟨rfl,hel⟩
    ·obtain⟨hin,hq⟩:=h.2 i hi'
     obtain⟨hun,oi,hoi,_⟩:=kF.1 hi;have hik:i≠k:=fun e=>by rw[e,hkt]at hun;cases hun
     have his:i≠s:=jN hin;obtain⟨hl,hd⟩:=VI hA hin hik hoi;unfold qOp at hq;rw[zq i hik his,hoi]at hq;unfold wpOp;simp only[hoi];simp only[VQ H.hk H.hs hks]at hq;rw[wanted_put oi a (some d) u (fun e he=>by cases he;exact hl)];split
     ·rename_i hw2
      simp only[hw2,if_true]at hq;exact .a (Hu (fun cs b=>hsel i oi cs b hoi) hl hd hw (fun a' w' hw' h'=>Jt H hA hsel hp hst hend f _ a' w' (by simp[hsz]) (NW htl hin) (Lg hkt) hw' h') hq)
     ·rename_i hw2
      simp only[hw2]at hq;rw[Act.put_comm a u undef (fun e he=>by cases he;exact hd)];exact Jt H hA hsel hp hst hend f _ _ w (by simp[hsz]) (NW htl hin) (Lg hkt) hw hq
    ·exact ajv H hsel hp hsz htl h hw hi hel hst
theorem VR{x:Nat}{ot:je}(H:P9 l k s e d x o os oe ot)(hA:GD l.b k s d=true)(hD:QK (mV l k s e o os)=true)(hsel:∀(j:Nat)(o:je) cs b,l.b[j]? = some o->o.op≠.select cs b)(hp:Pure P oe)
 (hod:o.Y=some d) (hog:o.guard=none) (hoa:o.after = #[]) (hrun:∀(a:qY) w,(execOp a.eval o).J P w=.ok (.value (.c (some ⟨w.a.j,0,none⟩))) (w.alloc (.D z T))) {S:au->Prop} (hS:Shut S)
 (hst:∀w1 w',S w1->S w'->aM (w1.alloc (.D z T)).a.j (w1.alloc (.D z T)) w'->∃w2,(execOp (aF.put (some d) (.c (some ⟨w1.a.j,0,none⟩))).eval os).J P w'=.ok .skip w2/\wpList P l.b Q (l.f (s+1)) (aF.put (some d) (.c (some ⟨w1.a.j,0,none⟩))) w2)
 (hend:∀listed w1 w',listed.j=l.a->S w1->S w'->aM (w1.alloc (.D z T)).a.j (w1.alloc (.D z T)) w'->lC .any (mV l k s e o os).b (l.a-s) s listed=true->wpAny P .any l.b Q (l.a-s) listed (aF.put (some d) (.c (some ⟨w1.a.j,0,none⟩))) w') :
 ∀(f:Nat)(listed:Array Bool)(a:qY)(w:au),listed.j=l.a->(∀t,s<=t->t<l.a->listed.c t true=false)->listed.c k true=false->S w->(∀C:au->Prop,(∀w,C w->S w)->Shut C->(∃w,C w)->XB P .any (mV l k s e o os).b C s (l.a-s) aF f listed a)->wpAny P .any l.b Q (f+(l.a-s)) listed a w
 | 0,listed,a,w,hsz,_,hun,hw,HH=>by
   obtain⟨h1,_⟩:=HH S (fun _ h=>h) hS ⟨w,hw⟩;have:k∈gF .any (mV l k s e o os).b listed:=kF.2 ⟨hun,kV o,VO H.hk (jN H.ks),fun e he=>by simp[kV,hoa]at he⟩;have:=seqB_ready h1 k this;have:=H.ks;omega
 | f+1,listed,a,w,hsz,htl,hun,hw,HH=>by
   rw[show f+1+(l.a-s)=(f+(l.a-s))+1 by omega];have hks:=jN H.ks;have H0:=HH S (fun _ h=>h) hS ⟨w,hw⟩;have hkl:k<l.a:=(iJ.1 H.hk).1;refine⟨fun h0=>absurd ?_ H0.1,fun i hi=>?_⟩
   ·rw[tK]
    intro i hi;have:=Mj H.hk H.hs hks hi;rw[h0]at this;cases this
   ·rcases Mk (e:=e) H.hk H.hs hks hi with hi'|⟨rfl,hel⟩
    ·have hin:=(H0.2 i hi').1
     by_cases hik:i=k
     ·subst hik
      unfold wpOp;simp only[dY,H.hk];rw[if_pos (by simp[fF,hog])];refine .a ?_;unfold nI;rw[hrun];simp only[Mx,hod];have hC:=HH (fun w'=>S w'/\aM (w.alloc (.D z T)).a.j (w.alloc (.D z T)) w') (fun _ h=>h.1) (VK hS _) ⟨_,hS _ _ hw ((aH _ _).alloc (ay _) _),aH _ _⟩;obtain⟨v,_,hK⟩:=qU (o:=kV o) (VO H.hk hks) (hC.2 i hi').2;have:=Jt (C:=fun w'=>S w'/\aM (w.alloc (.D z T)).a.j (w.alloc (.D z T)) w') (u:=.c (some ⟨w.a.j,0,none⟩)) H hA hsel hp (fun w' hw'=>hst w w' hw hw'.1 hw'.2) (fun listed' w' hz hw' hB=>hend listed' w w' hz hw hw'.1 hw'.2 hB) f _ _ (w.alloc (.D z T)) (by simp[hsz]) (NW htl hin) (by
       have:i<listed.j:=by rw[hsz];exact hkl
       simp[this]) ⟨hS _ _ hw ((aH _ _).alloc (ay _) _),aH _ _⟩ hK
      have e1:(kV o).Y=some d:=hod;rw[e1,NU]at this;exact this
     ·obtain⟨_,oi,hoi,_⟩:=kF.1 hi
      have his:i≠s:=jN hin;have af4:(mV l k s e o os).b[i]? = some oi:=by rw[zq i hik his];exact hoi
      obtain⟨v,hy,hK⟩:=qU af4 (H0.2 i hi').2;have hq:qOp P l.b S i (fun a'=>a'=a.put oi.Y v) a:=by
       unfold qOp;simp only[hoi];unfold YieldsIn at hy;simp only[VQ H.hk H.hs hks]at hy;rcases hy with⟨h1,h2⟩|⟨h1,rfl⟩
       ·simp only[h1,if_true];exact⟨v,h2,rfl⟩
       ·simp only[h1,jr,if_false]
      refine wpOp_of_qOp hw (fun a' w' hw' e1=>?_) hq;subst e1;refine VR H hA hD hsel hp hod hog hoa hrun hS hst hend f _ _ w' (by simp[hsz]) (NW htl hin) (NT hun (jy hik)) hw' (fun C hC1 hC2 hC3=>?_);obtain⟨_,v2,_,_,_,hK2,_⟩:=adA hD hi' af4 H0 (HH C hC1 hC2 hC3);have e1:a.put oi.Y v=a.put oi.Y v2:=by
       cases hd:oi.Y with
       | none=>rfl
       | some dd=>
         have hno:∀j oj,(mV l k s e o os).b[j]? = some oj->(listed.b i true).c j true=false->oj.Y≠some dd:=fun j oj hj hl hdj=>by
          have:=GH hD (by simpa using af4) (by simpa using hj) hd hdj;exact zS hl this.symm
         have q1:=(Cc f _ _ hK).2.2 dd hno;have q2:=(Cc f _ _ hK2).2.2 dd hno;rw[hd]at q1 q2;have q:=q1.symm.trans q2;simp only[lG,dU,if_pos]at q ⊢;by_cases hs:dd<a.tmps.j
         ·simp[hs]at q;rw[q]
         ·have hs':=Nat.le_of_not_lt hs
          rw[jR hs',jR hs']
      rw[e1];exact hK2
    ·exfalso
     obtain⟨_,p,hpo,hall⟩:=kF.1 hi;have:p=os:=by have:=H.hs;simp[this]at hpo;exact hpo.symm
     subst this;obtain⟨y,hy,hb,ho⟩:=H.all k H.ks (jy H.ek);have:=hall y hy hb;rw[ho,getD_both hun]at this;cases this
theorem xu{S:au->Prop}(hS:Shut S)(k s e d x:Nat){id:Nat}{Q:zW->qY->au->Prop}{a:qY}{w:au}{l:List je}{o os oe ot:je}(T:bF)(z:Array aC)(hm:P.follows .mixedOrders=true)
 (hk:l[k]? = some o) (hs:l[s]? = some os) (he:l[e]? = some oe) (ht:l[s+1]? = some ot) (hx:oe.Y=some x) (hL:amK l.b k s e d=true) (hB:xD .any (mV l k s e o os).b s=true) (hA:GD l.b k s d=true) (hD:QK (mV l k s e o os)=true) (hsel:Region.noSelect l.b=true)
 (hod:o.Y=some d) (hog:o.guard=none) (hoa:o.after = #[]) (hrun:∀(a:qY) w,(execOp a.eval o).J P w=.ok (.value (.c (some ⟨w.a.j,0,none⟩))) (w.alloc (.D z T))) (hp:Pure P oe) (h0:S w.drew)
 (hh:∃aF:qY,(∀(T:Type)(f:T->au),Nonempty T->(∀m,S (f m))->(∀m w',aM (f m).a.j (f m) w'->∃m',w'=f m')->wpQuiet P (mV l k s e o os).b (fun w'=>∃m,w'=f m) (fun a'=>a'=aF) ((mV l k s e o os).d s) a)
 /\ (∀w1 w',S w1->S w'->aM (w1.alloc (.D z T)).a.j (w1.alloc (.D z T)) w'->∃w2,(execOp (aF.put (some d) (.c (some ⟨w1.a.j,0,none⟩))).eval os).J P w'=.ok .skip w2/\wpList P l.b Q (l.f (s+1)) (aF.put (some d) (.c (some ⟨w1.a.j,0,none⟩))) w2)):(Code.region id l.b true).wp P Q a w:=by
 obtain⟨aF,h,h2⟩:=hh;have H:=P9.of hk hs he ht hx hL;have hks:=jN H.ks;have hsl:s<l.a:=(iJ.1 hs).1;simp only[xD,bB,decide_eq_true_eq]at hB;obtain⟨⟨⟨⟨amF,hn⟩,hs'⟩,hc⟩,hlex⟩:=hB;have hsz:(mV l k s e o os).b.j=l.a:=by simp[mV]
 have htl:((mV l k s e o os).d s).a=s:=by simp[mV];omega
 have inv0:HeadInv .any (mV l k s e o os).b s (nH l.b.j false):=
  ⟨by simp[mV],fun j oj _ hl=>(by rw[mR]at hl;cases hl),fun t _ ht=>getD_in (by rw[hsz]at ht;simpa using ht) (mR _ _)⟩
 refine wp_region_any hm ?_;rw[hsz]at hlex;have hdl:(l.f s).a=l.a-s:=by simp
 have:=VR (P:=P) (aF:=aF) (Q:=Q) H hA hD (Region.noSelect_spec hsel) hp hod hog hoa hrun hS h2 (fun listed w1 w' hz hw1 hw' hb hq=>by
  obtain⟨w2,hr,hrest⟩:=h2 w1 w' hw1 hw' hb;have hel:listed.c e false=true:=by
   obtain⟨g,hg⟩:∃g,l.a-s=g+1:=⟨l.a-s-1,by omega⟩
   rw[hg]at hq;simp only[lC,bB,decide_eq_true_eq]at hq;have:s∈gF .any (mV l k s e o os).b listed:=by rw[hq.1];simp
   obtain⟨_,p,hpo,hall⟩:=kF.1 this;rw[abh hs]at hpo;cases hpo;exact hall {on:=e,ground:=.data} (by simp[yx]) rfl
  have:=wpAny_of_seq (P:=P) (md:=.any) (Q':=Q) (ops:=l.b) (l.f s) s listed (aF.put (some d) (.c (some ⟨w1.a.j,0,none⟩))) w' (fun j=>by simp[jq]) (by rw[hdl];exact abj H.hk H.hs hks _ _ _ hel hz hq) (by
   have hd:l.f s=os::l.f (s+1):=by
    have:=List.drop_eq_getElem_cons hsl;have h3:=(iJ.1 hs).2;rw[this,h3]
   rw[hd];unfold wpList;rw[if_pos (by simp[fF,H.sg])];refine .a ?_;unfold nI;rw[hr];simp only[Mx,H.sd];exact hrest)
  rwa [hdl]at this) s (nH l.b.j false) a {w with drawn:=w.drawn+1} (by simp) (fun t _ ht=>getD_in (by simpa using ht) (mR _ _)) (getD_in (by simp;have:=H.ks;omega) (mR _ _)) h0 (fun C hC1 hC2 hC3=>by
  have hq:=h {w // C w} Subtype.val (let⟨w,hw⟩:=hC3;⟨⟨w,hw⟩⟩) (fun m=>hC1 _ m.2) (fun m w' hb=>⟨⟨w',hC2 _ _ m.2 hb⟩,rfl⟩);have e:(fun w':au=>∃m:{w // C w},w'=m.val)=C:=by
   funext w';rw[eq_iff_iff];exact⟨fun⟨m,hm⟩=>by rw[hm];exact m.2,fun h=>⟨⟨w',h⟩,rfl⟩⟩
  rw[e]at hq;have:=aaA (md:=.any) (C:=C) (g:=l.a-s) amF hs' hc hn ((mV l k s _ o os).d s) 0 (nH l.b.j false) a (fun j hj=>by
   have hj':j<s:=by rw[htl]at hj;exact hj
   rw[iy hj',bl];simp) (by simpa using htl) inv0 (by rw[htl];simpa using hlex) hq
  rw[htl]at this;exact this)
 rw[show s+(l.a-s)=l.b.j by simp;omega]at this;exact this
theorem tN{oe:je}{t:pR}{i:Nat}(h:oe.op=.m t i):Pure P oe:=by
 intro a w w' n w1 hr;simp only[execOp,h]at hr ⊢;generalize a.eval t=v at hr ⊢;unfold Instr.extract at hr ⊢;split at hr
 ·rename_i vs
  split at hr
  ·rename_i u hu
   simp at hr;exact⟨u,hr.1.symm,hr.2.symm,by simp⟩
  ·simp at hr
 ·simp at hr
end
end
section
attribute [local go_sem high] jc jK
theorem VT:∀(l:List UInt8)(i:Nat),i%2=0->i<l.a->words (l.d (i+2))=words (l.d i)++[256*nX l i+nX l (i+1)]
 | [],i,_,h=>by simp at h
 | [a],0,_,_=>by simp[words,nX]
 | [a],i+1,h1,h=>by simp at h
 | a::b::l,0,_,_=>by simp[words,nX]
 | a::b::l,1,h1,_=>by omega
 | a::b::l,i+2,h1,h=>by
   have:=VT l i (by omega) (by simp at h;omega);show(256*a.e+b.e)::words (l.d (i+2))=((256*a.e+b.e)::words (l.d i))++[256*nX l i+nX l (i+1)];rw[this];rfl
theorem Qa:∀l:List UInt8,(words l).a=(l.a+1)/2
 | []=>rfl
 | [a]=>by simp[words]
 | a::b::l=>by have:=Qa l;simp[words,this];omega
theorem adF:aaY 70 3 Gt 1:=by
 obtain⟨i,hi,hz,hs⟩:=Tm;have h4:(aj.l 3).map (fun i=>decide (i.bytes<=1000))=some true:=by kernel_rfl
 rw[hi]at h4;simp at h4;exact⟨i,_,oC,hi,hz,hs,rfl,by omega,h4,YF,fun s=>by simp[Gt,dx]⟩
def zu(l:List UInt8):List Int:=(words l).map fun n:Nat=>(n:Int)
theorem adG:∀(l:List UInt8)(x:Nat),x∈words l->x<=65535
 | [],x,h=>by simp[words]at h
 | [a],x,h=>by have:=a.a;simp[words]at h;omega
 | a::b::l,x,h=>by
   have:=a.a;have:=b.a;simp only[words,bE]at h;rcases h with rfl|h
   ·omega
   ·exact adG l x h
def WdP(W:au)(l:List UInt8)(e:lu)(W':au):Prop:=∃A' m c',e=.a (.a A' m c')/\YG W' W'.a.j A' m (zu l)/\aM W.a.j W W'
theorem abk(W:au)(A:Option aU)(n c:Nat)(l:List UInt8)(hn:n<=1000000)(hr:fZ W W.a.j A n l):aQ aj 257 #[.a A n c] W (WdP W l):=by
 have HR:=ah hr;have hl:=ah hr.len;clear hr;go_enter Tryz.func257,Tryz.ntmps257;go_wp2;go_loopw [3,4] (fun s3 s4 wr=>∃(i:Nat)(A':Option aU)(m c':Nat),i%2=0/\i<=n+1/\s4=.b .a i/\s3=.a A' m c'/\Rz Gt 1 3 [] W wr (.a A' m c') (zu (l.d i)))
  (fun s3 s4 wr=>n+2-(intOf s4).e)
 case atStart=>exact⟨0,none,0,0,rfl,by omega,rfl,rfl,by simpa[zu,words]using Rz.nil (f:=Gt) (sz:=1) (e:=3) W⟩
 case round=>
  obtain⟨i,A',m,c',hi2,hin,rfl,rfl,hz⟩:=hrel;have HZ:=ah hz;have hm:=hz.len;clear hz;by_cases hlt:i<n
  ·have q:(i:Int)<n:=by omega
   obtain⟨a,rfl,hab⟩:=HR.i.ahE (show 0<n by omega);have RW:=ah ((HR.i.S HZ.i.R).lH HZ.i.R.j:fZ wr wr.a.j (some a) n l);obtain⟨_,e1,_,hc1⟩:=RW.i.fG hlt;cases e1;unfold bv at hc1;have hb0:((l.c i 0).e:Int)=(nX l i:Nat):=rfl;rw[hb0]at hc1;have auL:=uU l i;have hlt1:=uU l (i+1);have HML:=ah (show(zu (l.d i)).a+1<=1000000 by simp[zu,Qa];omega);have w1:=jV (nX l i:Nat) (by omega);have w2:=jV (256*(nX l i:Int)) (by omega);have w3:=jV ((i:Int)+1) (by omega);have HS:=ah (VT l i hi2 (by rw[hl.i];exact hlt));have FIN:=ah (fun(v:Int) (A5:Option aU) (n5 c5:Nat) (w5:au) (hv:v=((256*nX l i+nX l (i+1):Nat):Int)) (h:Rz Gt 1 3 [] W w5 (.a A5 n5 c5) (zu (l.d i)++[v]))=>show Rz Gt 1 3 [] W w5 (.a A5 n5 c5) (zu (l.d (i+2)))by
    unfold zu at h ⊢;rw[HS.i,iW];rw[hv]at h;exact h)
   by_cases h1:i+1<n
   ·have q1:(i:Int)+1<n:=by omega
    have hc2:=RW.i.VH i h1;have w4:=jV (nX l (i+1):Nat) (by omega);have w5:=jV (256*(nX l i:Int)+(nX l (i+1):Nat)) (by omega);have Za:=ah (HZ.i.alloc (.D (sK [256*(nX l i:Int)+(nX l (i+1):Nat)]) 3));have RO:=ah (YG.lit wr [256*(nX l i:Int)+(nX l (i+1):Nat)] 3);go_wp2_with (at_builtin;refine PL adF rfl (.tmp 31) (.tmp 33) rfl rfl Za.i rfl RO.i HML.i ?_;intro A5 n5 c5 w5 h5 h6;have Z5:=ah h5;clear h5 h6);exact⟨⟨i+2,A5,n5,c5,by omega,by omega,by rw[show((i+2:Nat):Int)=(i:Int)+2 by omega],rfl,FIN.i _ _ _ _ _ (by omega) Z5.i⟩,by simp only[intOf];omega⟩
   ·have q1:¬(i:Int)+1<n:=by omega
    have HB0:=ah (show nX l (i+1)=0 by unfold nX;rw[av,aT (by rw[hl.i];omega)];rfl);have Za:=ah (HZ.i.alloc (.D (sK [256*(nX l i:Int)]) 3));have RO:=ah (YG.lit wr [256*(nX l i:Int)] 3);go_wp2_with (at_builtin;refine PL adF rfl (.tmp 31) (.tmp 33) rfl rfl Za.i rfl RO.i HML.i ?_;intro A5 n5 c5 w5 h5 h6;have Z5:=ah h5;clear h5 h6);exact⟨⟨i+2,A5,n5,c5,by omega,by omega,by rw[show((i+2:Nat):Int)=(i:Int)+2 by omega],rfl,FIN.i _ _ _ _ _ (by rw[HB0.i];omega) Z5.i⟩,by simp only[intOf];omega⟩
  ·have q:¬(i:Int)<n:=by omega
   have H:=ah (show zu (l.d i)=zu l by rw[aL (by rw[hl.i];omega)]);clear hm;go_wp2;go_ret;rw[H.i]at HZ;exact⟨A',m,c',rfl,HZ.i.rd,HZ.i.R⟩
theorem ajw(l:List Nat)(i:Nat)(h:i<l.a):(l.d (i+1)).foldl vG 0=vG ((l.d i).foldl vG 0) (l.c i 0):=by
 rw[List.take_succ_eq_append_getElem h,List.foldl_append];simp[av,h]
theorem NY:∀(l:List Nat)(a:Nat),a<=65535->(∀x∈l,x<=65535)->l.foldl vG a<=65535
 | [],a,h,_=>h
 | x::l,a,h,hl=>NY l _ (Gj h (hl x (by simp))) (fun y hy=>hl y (by simp[hy]))
theorem VU(W:au)(A:Option aU)(n c:Nat)(l:List UInt8)(hn:n<=1000000)(hr:fZ W W.a.j A n l):aQ aj 186 #[.a A n c] W (gy W (.b .a (wX l:Nat))):=by
 have hl:=hr.len;have hwl:=Qa l;have CW:=ah (abk W A n c l hn hr);unfold WdP at CW;clear hr;have HW:=ah (adG l);go_enter Tryz.func186,Tryz.ntmps186;go_wp2_with (go_at_call 257;(with_reducible refine CW.i.g ?_);rintro e w1 ⟨A',m,c',rfl,h1,h2⟩;have R1:=ah h1;have B1:=ah h2;clear h1 h2);have hm:=R1.i.len;unfold zu at hm;rw[bV]at hm;have hmb:m<=1000000:=by omega
 clear hl hwl;go_loopw [4,5] (fun s4 s5 wr=>∃i:Nat,i<=m/\s5=.b .a i/\s4=.b .a (((words l).d i).foldl vG 0:Nat)/\wr=w1)
  (fun s4 s5 wr=>m-(intOf s5).e)
 case atStart=>exact⟨0,by omega,rfl,rfl,rfl⟩
 case round=>
  obtain⟨i,him,rfl,rfl,hwr⟩:=hrel;rw[hwr];clear hwr;by_cases hlt:i<m
  ·have q:(i:Int)<m:=by omega
   obtain⟨b,o,rfl,_,hcell⟩:=R1.i.cell YF 0 hlt;have hc:=hcell 0 (by omega);have hv:(Gt ((zu l).c i 0))[0]? = some (.b .a ((words l).c i 0:Nat)):=by
    unfold zu Gt;rw[av,jm,aD (by omega)];simp[av,aD (show i<(words l).a by omega)]
   rw[hv]at hc;simp only[gL,Nat.add_zero]at hc;clear hcell hv;have HS:=ah (ajw (words l) i (by omega));have hx:(words l).c i 0<=65535:=HW.i _ (by rw[av,aD (show i<(words l).a by omega)];exact eY _);obtain⟨x,hx1⟩:=dw ((words l).c i 0);obtain⟨y,hy1⟩:=dw (((words l).d i).foldl vG 0);have hy:y<=65535:=by rw[hy1];exact NY _ _ (by omega) (fun z hz=>HW.i z (List.mem_of_mem_take hz))
   rw[<-hx1]at hc hx HS;rw[<-hy1]at HS ⊢;have CR:=ah (acZ y x w1 hy hx);clear hx1 hy1;go_wp2_with (go_at_call 258;(with_reducible refine CR.i.g ?_);rintro e w2 ⟨rfl,rfl⟩);exact⟨⟨i+1,by omega,by rw[show((i+1:Nat):Int)=(i:Int)+1 by omega],by rw[HS.i],trivial⟩,by simp only[intOf];omega⟩
  ·have q:¬(i:Int)<m:=by omega
   have H:=ah (show((words l).d i).foldl vG 0=Nc 0 l by rw[aL (by omega)];rfl);have hle:=aay l 0 (by omega);rw[H.i];have HB:=ah (show(65535:Int)-(Nc 0 l:Nat)=(wX l:Nat)by unfold wX;omega);generalize Nc 0 l=z at *;go_wp2;go_ret;exact⟨by rw[<-HB.i];rfl,B1.i⟩
end
section
attribute [local go_sem high] jc jK
end
section
attribute [local go_sem high] jc jK
theorem aqf{p:Int}{l:List UInt8}(h6:p≠6)(h17:p≠17):Jr p l=(qP,5):=uG (by unfold uV;rw[if_pos ⟨h6,h17⟩]) (by decide)
theorem asj(l:List UInt8):Jr 6 l=if l.a<20 then(qP,2)else if nX l 12/16*4<20 then(qP,3)else if l.a<nX l 12/16*4 then(qP,2)else(⟨fq l 0,fq l 2,(nX l 13%64:Nat),(nX l 12/16*4:Nat),l.a⟩,0):=by
 split
 ·rename_i h;exact uG (by unfold uV;rw[if_neg (by simp),if_pos (by rw[if_pos rfl];exact h)]) (by decide)
 ·rename_i h
  have hg:qD 6 l=⟨fq l 0,fq l 2,(nX l 13%64:Nat),(nX l 12/16*4:Nat),l.a⟩:=by unfold qD;rw[if_pos rfl]
  have e1:¬l.a<(if(6:Int)=6 then 20 else 8):=by rw[if_pos rfl];exact h
  split
  ·rename_i h2;exact uG (by unfold uV;rw[if_neg (by simp),if_neg e1,if_pos (.a ⟨rfl,by rw[hg];simp only;omega⟩)]) (by decide)
  ·rename_i h2
   have e2:¬(((6:Int)=6/\(qD 6 l).head<20)\/(qD 6 l).dA<8):=by rw[hg];simp only;omega
   split
   ·rename_i h3;exact uG (by unfold uV;rw[if_neg (by simp),if_neg e1,if_neg e2,if_pos (by rw[hg];simp only;omega)]) (by decide)
   ·rename_i h3
    have:=VF (p:=6) (l:=l) (by unfold uV;rw[if_neg (by simp),if_neg e1,if_neg e2,if_neg (by rw[hg];simp only;omega)]);rw[this,hg]
theorem amL(l:List UInt8):Jr 17 l=if l.a<8 then(qP,2)else if fq l 4<8 then(qP,3)else if l.a<fq l 4 then(qP,2)else(⟨fq l 0,fq l 2,0,8,fq l 4⟩,0):=by
 split
 ·rename_i h;exact uG (by unfold uV;rw[if_neg (by simp),if_pos (by rw[if_neg (by decide)];exact h)]) (by decide)
 ·rename_i h
  have hg:qD 17 l=⟨fq l 0,fq l 2,0,8,fq l 4⟩:=by unfold qD;rw[if_neg (by decide)]
  have e1:¬l.a<(if(17:Int)=6 then 20 else 8):=by rw[if_neg (by decide)];exact h
  split
  ·rename_i h2;exact uG (by unfold uV;rw[if_neg (by simp),if_neg e1,if_pos (.b (by rw[hg];simp only;omega))]) (by decide)
  ·rename_i h2
   have e2:¬(((17:Int)=6/\(qD 17 l).head<20)\/(qD 17 l).dA<8):=by rw[hg];simp only;omega
   split
   ·rename_i h3;exact uG (by unfold uV;rw[if_neg (by simp),if_neg e1,if_neg e2,if_pos (by rw[hg];simp only;omega)]) (by decide)
   ·rename_i h3
    have:=VF (p:=17) (l:=l) (by unfold uV;rw[if_neg (by simp),if_neg e1,if_neg e2,if_neg (by rw[hg];simp only;omega)]);rw[this,hg]
theorem VW(W:au)(A:Option aU)(n c B:Nat)(l:List UInt8)(k:Nat)(i:Int)(hi:i=k)(hk:k+1<n)(hnn:n<=1000000000)(hr:fZ W B A n l):aQ aj 299 #[.a A n c,.b .a i] W fun e W'=>e=.a (.b .a (fq l k:Nat))/\∃q,W'=W.drewN q:=by subst hi;exact afY W A n c B l k hk hnn hr
theorem adH(W:au)(p:Int)(A:Option aU)(n c:Nat)(l:List UInt8)(hc:n<=1000000000)(hr:fZ W W.a.j A n l):aQ aj 227 #[.b .a p,.a A n c] W (PtP W (Jr p l)):=by
 have HR:=ah hr;have hl:=ah hr.len;have b0:=ah ((Bx.start W).new qP.aA 172);clear hr;go_enter Tryz.func227,Tryz.ntmps227;by_cases p6:p=6
 ·subst p6
  have HP:=ah (asj l);rw[hl.i]at HP;by_cases h20:n<20
  ·have q:(n:Int)<20:=by omega
   go_wp2;refine aO (TL.qK rfl _ rfl b0.i.X (Pt.I _)) rfl ?_;rw[HP.i,if_pos h20];exact⟨rfl,b0.i.R⟩
  have q:¬(n:Int)<20:=by omega
  obtain⟨a,rfl,hab⟩:=HR.i.ahE (show 0<n by omega);have c12:=(b0.i.Mf HR.i).VH 11 (by omega);have i12:12<n:=by omega
  obtain⟨k,hk⟩:∃k:Nat,k=nX l 12/16*4:=⟨_,rfl⟩
  have hkk:4*((nX l 12:Int)/16)=(k:Int):=by omega
  have hkl:k<100:=by have:=uU l 12;omega
  have w13:4*((nX l 12:Int)/16%256)=(k:Int):=by have:=uU l 12;omega
  rw[<-hk]at HP;clear hk hkk;by_cases h2:k<20
  ·have q2:(k:Int)<20:=by omega
   go_wp2;refine aO (TL.qK rfl _ rfl b0.i.X (Pt.I _)) rfl ?_;rw[HP.i,if_neg h20,if_pos h2];exact⟨rfl,b0.i.R⟩
  have q2:¬(k:Int)<20:=by omega
  by_cases h3:n<k
  ·have q3:(n:Int)<k:=by omega
   go_wp2;refine aO (TL.qK rfl _ rfl b0.i.X (Pt.I _)) rfl ?_;rw[HP.i,if_neg h20,if_neg h2,if_pos h3];exact⟨rfl,b0.i.R⟩
  have q3:¬(n:Int)<k:=by omega
  have i13:13<n:=by omega
  obtain⟨g,hg⟩:∃g:Nat,g=nX l 13%64:=⟨_,rfl⟩
  have hgg:(nX l 13:Int)%64=(g:Int):=by omega
  have w14:(nX l 13:Int)%64%256=(g:Int):=by omega
  have w15:(nX l 13:Int)%64=(g:Int):=by omega
  rw[<-hg]at HP;clear hg hgg;go_upto_region 9 with fail
  generalize W.alloc (.D qP.aA 172)=w1 at b0 ⊢;obtain⟨T,f,n0,E0,es,ew⟩:=EC (Bx ([(W.a.j,qP.aA)]) W) (w1) (b0.i.drew);have hT:Nonempty T:=⟨n0⟩
  have ES:=ah es;have EW:=ah ew;clear es ew;have RF:=ah (fun m=>(ES.i m).Mf HR.i);have k13:∀m,(f m).b ⟨a.block,a.off+13,none⟩=some (.b .b (nX l 13)):=fun m=>(RF.i m).VH 12 (by omega)
  have C0:=ah (fun m=>VW (f m) (some a) n c _ l 0 0 rfl (by omega) hc (RF.i m));have C2:=ah (fun m=>VW (f m) (some a) n c _ l 2 2 rfl (by omega) hc (RF.i m));refine UM f 13 (by kernel_rfl) (by kernel_rfl) n0 E0 ?_;simp only[jP,jZ,jQ,kZ]
  repeat(go_big_quiet_step ((first|(go_at_call 299;(with_reducible refine(C0.i _).g ?_);rintro e w2 ⟨rfl,q,rfl⟩;exact⟨rfl,EW.i _ ((ES.i _).drewN q)⟩)|(go_at_call 299;(with_reducible refine(C2.i _).g ?_);rintro e w2 ⟨rfl,q,rfl⟩;exact⟨rfl,EW.i _ ((ES.i _).drewN q)⟩))))
  refine gN ?_;rintro _ ⟨m',rfl⟩;have ZT:=ah (ES.i m');clear ES EW C0 C2 E0 RF k13;generalize f m'=w8 at *;clear hT n0;have yO:=ZT.i.X.O 0 5 (aY (Pt.I qP).symm);have Z2:=ah (ZT.i.put (fun p hp=>by cases hp) (Pt.mk (fq l 0) (fq l 2) g k n).aA (by rw[Pt.I,Pt.I]));go_step;go_simp;go_step;go_step;go_wp2;refine aO (TL.qK rfl _ rfl Z2.i.X (Pt.I _)) rfl ?_;rw[HP.i,if_neg h20,if_neg h2,if_neg h3];exact⟨rfl,Z2.i.R⟩
 have q6:(p==6)=false:=by simp[p6]
 by_cases p17:¬p=17
 ·have q17:(p != 17)=true:=by simp[p17]
  go_wp2;refine aO (TL.qK rfl _ rfl b0.i.X (Pt.I _)) rfl ?_;rw[aqf p6 p17];exact⟨rfl,b0.i.R⟩
 obtain rfl:p=17:=by simpa using p17
 have HP:=ah (amL l);rw[hl.i]at HP;by_cases h20:n<8
 ·have q:(n:Int)<8:=by omega
  go_wp2;refine aO (TL.qK rfl _ rfl b0.i.X (Pt.I _)) rfl ?_;rw[HP.i,if_pos h20];exact⟨rfl,b0.i.R⟩
 have q:¬(n:Int)<8:=by omega
 have CT:=ah (fun(w:au) (h:Bx [(W.a.j,qP.aA)] W w) (k:Nat) (i:Int) (hi:i=k) (hk:k<6)=>VW w A n c _ l k i hi (by omega) hc (h.Mf HR.i));have C4:=ah (fun w h=>CT.i w h 4 4 rfl (by omega));have C0:=ah (fun w h=>CT.i w h 0 0 rfl (by omega));have C2:=ah (fun w h=>CT.i w h 2 2 rfl (by omega));obtain⟨t,ht⟩:=dw (fq l 4);rw[<-ht]at C4 HP;clear ht;generalize hw1:W.alloc (.D qP.aA 172)=w1 at b0 ⊢;have b1:=ah (fun q=>b0.i.drewN q);by_cases h2:t<8
 ·have q2:(t:Int)<8:=by omega
  go_wp2_with (go_at_call 299;(with_reducible refine(C4.i _ b0.i).g ?_);rintro e w2 ⟨rfl,q,rfl⟩;have yO:=(b1.i q).X.O 0 5 (aY (Pt.I qP).symm);have Z2:=ah ((b1.i q).put (fun p hp=>by cases hp) qP.aA rfl));refine aO (TL.qK rfl _ rfl Z2.i.X (Pt.I _)) rfl ?_;rw[HP.i,if_neg h20,if_pos h2];exact⟨rfl,Z2.i.R⟩
 have q2:¬(t:Int)<8:=by omega
 have TH:=ah (fun q=>((b1.i q).X.O 0 5 (aY (Pt.I qP).symm):(w1.drewN q).O W.a.j 0 5));have PU:=ah (fun q (x:Pt)=>(b1.i q).put (fun p hp=>by cases hp) x.aA (by rw[Pt.I,Pt.I]));by_cases h3:n<t
 ·have q3:(n:Int)<t:=by omega
  go_upto_region 17 with(first|(go_at_call 299;(with_reducible refine(C4.i _ b0.i).g ?_);rintro e w2 ⟨rfl,qq,rfl⟩)|(go_at_call 299;(with_reducible refine(C4.i _ (b1.i _)).g ?_);rintro e w2 ⟨rfl,qq,rfl⟩)|(go_at_call 299;(with_reducible refine(C0.i _ b0.i).g ?_);rintro e w2 ⟨rfl,qq,rfl⟩)|(go_at_call 299;(with_reducible refine(C0.i _ (b1.i _)).g ?_);rintro e w2 ⟨rfl,qq,rfl⟩)|(go_at_call 299;(with_reducible refine(C2.i _ b0.i).g ?_);rintro e w2 ⟨rfl,qq,rfl⟩)|(go_at_call 299;(with_reducible refine(C2.i _ (b1.i _)).g ?_);rintro e w2 ⟨rfl,qq,rfl⟩))
  have th2:=TH.i;go_wp2;refine aO (TL.qK rfl _ rfl (PU.i _ qP).X (Pt.I _)) rfl ?_;rw[HP.i,if_neg h20,if_neg h2,if_pos h3];exact⟨rfl,(PU.i _ qP).R⟩
 have q3:¬(n:Int)<t:=by omega
 have th2:=TH.i;go_wp2_with (first|(go_at_call 299;(with_reducible refine(C4.i _ b0.i).g ?_);rintro e w2 ⟨rfl,qq,rfl⟩)|(go_at_call 299;(with_reducible refine(C4.i _ (b1.i _)).g ?_);rintro e w2 ⟨rfl,qq,rfl⟩)|(go_at_call 299;(with_reducible refine(C0.i _ b0.i).g ?_);rintro e w2 ⟨rfl,qq,rfl⟩)|(go_at_call 299;(with_reducible refine(C0.i _ (b1.i _)).g ?_);rintro e w2 ⟨rfl,qq,rfl⟩)|(go_at_call 299;(with_reducible refine(C2.i _ b0.i).g ?_);rintro e w2 ⟨rfl,qq,rfl⟩)|(go_at_call 299;(with_reducible refine(C2.i _ (b1.i _)).g ?_);rintro e w2 ⟨rfl,qq,rfl⟩));refine aO (TL.qK rfl _ rfl (PU.i _ (Pt.mk (fq l 0) (fq l 2) 0 8 t)).X (Pt.I _)) rfl ?_;rw[HP.i,if_neg h20,if_neg h2,if_neg h3];exact⟨rfl,(PU.i _ _).R⟩
end
section
attribute [local go_sem high] jc jK
end
section
attribute [local go_sem high] jc jK
end
section
attribute [local go_sem high] jc jK
end
end Go.Proofs.YtkjojjopamaoiaaGreat
