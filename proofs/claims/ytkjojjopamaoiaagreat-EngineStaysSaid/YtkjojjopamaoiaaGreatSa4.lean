/- Parts. -/
import Derived.Test.YtkjojjopamaoiaaGreatSa3
import Derived.Test.YtkjojjopamaoiaaGreatSa2
import Derived.Deep.RegionHeldLaw
import Derived.Shelf.SlIter.Sorted
set_option linter.unusedSimpArgs false
set_option linter.unusedVariables false
set_option linter.unusedSectionVars false
set_option maxRecDepth 100000
set_option maxHeartbeats 8000000
open Array renaming getElem?_setIfInBounds->dO,mapM->iA,getElem?_append->aD,ext_getElem?->dU,getElem?_eq_none->aU,size_extract->jB,size_append->nW,range->lS,ext'->oP,toList_range->j3,append_assoc->fQ,extract_append->dA,setIfInBounds_append->aL,setIfInBounds_eq_of_size_le->jO,replicate->ni,size->Array.j,toList->Array.a,getD->Array.c,setIfInBounds->Array.b,extract->Array.m
open BitVec renaming ofInt->fT,ofInt_natCast->lQ,toNat_ofNat->nC,toNat_and->EO,toNat->BitVec.e
open Bool renaming false_eq_true->jF,and_eq_true->bf,eq_iff_iff->bZ,or_eq_true->ny
open ByteArray renaming size->ByteArray.j,extract->ByteArray.m
open Go renaming Value->aB,Sem->xk,World->ak,Field->nU,run_storeAt_new->yV,run_storeAt_mid->DL,TypeInfo->nJ,Calls->aQ,Addr->aT,Program->eG,Oper->iV,Act->qQ,Exit->zO,Operand->pG,TypeId->bK,wpList_plain->sV,info_parts->BM,Ending->kZ,run_underlying->dJ,run_equalIn_struct->zq,bodyPost_ret->aN,wpQuiet_nil->gW,getD_set_ne->xq,mem_ready->kD,yieldsIn_of_qOp->qN,getD_replicate_false->mJ,wpS_seq->Ho,wpS_region->BR,underlying->Go.k
open Go.Act renaming put->lJ
open Go.Addr renaming add_mid->iD,add->qX
open Go.BoundsCode renaming toNat->Go.BoundsCode.e
open Go.Builtin renaming append_->zW,firstCells->tO,zeroCells->nR,copy_->qB
open Go.Calls renaming mono->Go.Calls.g
open Go.CallsD renaming mono->Go.CallsD.g
open Go.DataW renaming agg->Go.DataW.d
open Go.Ending renaming returned->ug,returned->Go.Ending.a
open Go.Field renaming name->Go.Field.E,offset->Go.Field.Z,type->Go.Field.p
open Go.FrameMode renaming run->Go.FrameMode.I
open Go.Instr renaming build->fI,loadAt->cu,storeAt->eF,buildSlice->bI,fill->fu,makeSlice->xI,typeAssert->Gd,slice->Go.Instr.a,extract->Go.Instr.m
open Go.IntKind renaming u64->jo,wrap_u64->jR,u8->aW,wrap_u8->Gz,i64->bR,wrap->vK,bits->nQ,signed->lN,i64->Go.IntKind.a,u8->Go.IntKind.b
open Go.Lib renaming hid->ab
open Go.Obj renaming cells->eB,cells->Go.Obj.D
open Go.Op renaming eqItems->JX,equalIn->ji,eqFields->wC,bytesLess->bP,slice->Go.Op.a,extract->Go.Op.m
open Go.Oper renaming wp->nu,upon->Ls,dst->Go.Oper.Y,type->Go.Oper.p
open Go.Program renaming fieldsOf->jQ,underlying->Go.Program.k
open Go.Proofs.Tryz renaming prog->ah,underlying81->jX,underlying86->mV,underlying37->rX,underlying35->EH,underlying56->cB,underlying3->gM,underlying70->og,underlying276->Dl,underlying27->eY,underlying98->rY,underlying29->mW,underlying192->oU,underlying189->oV,underlying172->oW,underlying168->Dm,underlying83->vB,underlying179->uh,underlying108->uj,underlying268->Dn,func251->Ce,ntmps251->Ag,ntmps90->Hg
open Go.Region renaming wanted->fB,seqB->lg,ready->fU,lexTailB->xu,binds->qC
open Go.Result renaming andThen->iE,andThen_ok->gH
open Go.RowKit renaming Below->aM
open Go.RowKit.Below renaming refl->aG,size->Go.RowKit.Below.j,mono->Go.RowKit.Below.g,setCell->Go.RowKit.Below.F
open Go.RowKit.Hid renaming out->Go.RowKit.Hid.i
open Go.Sem renaming run->Go.Sem.I
open Go.Shut renaming out->Go.Shut.i
open Go.Tables renaming info?->Go.Tables.l
open Go.TypeDesc renaming slice->Go.TypeDesc.a,int->Go.TypeDesc.b,pointer->Go.TypeDesc.c,tuple->Go.TypeDesc.J,bool->Go.TypeDesc.e,struct->Go.TypeDesc.d
open Go.TypeInfo renaming size->Go.TypeInfo.j
open Go.Value renaming oneCell'->cO,bool->bL,string->iC,agg->bY,int->aI,slice->bD,cells->bW,pointer->su,cells->Go.Value.D,slice->Go.Value.a,int->Go.Value.b,pointer->Go.Value.c,agg->Go.Value.d,tuple->Go.Value.J,bool->Go.Value.e,ownBlock->Go.Value.f,oneCell'->Go.Value.h
open Go.World renaming ownsRow_nil->fE,heap->Go.World.a,cell?->Go.World.b,setCell->Go.World.F,ownsRow->Go.World.c,there->Go.World.O,grownBy->Go.World.d
open Go.World.grownBy renaming size->Go.World.grownBy.j
open Int renaming toNat->Int.e
open List renaming getElem?_toArray->dZ,getD_eq_getElem?_getD->au,size_toArray->dI,length_nil->gG,take_append_drop->iG,map_append->jg,length_append->aR,length_map->bT,take_of_length_le->aK,flatMap_cons->iK,ext_getElem?->iJ,getElem?_take_of_lt->gZ,getElem?_eq_none->aS,append_assoc->dB,mem_cons->bC,mem_cons_of_mem->iX,range->dV,all_eq_true->gF,mem_range->eu,mem_iff_getElem->kR,pairwise_cons->gI,length_cons->bB,mem_filter->kF,replicate->dS,filter_eq_self->wO,map_take->Ae,getElem?_map->jA,getElem?_eq_getElem->aC,mem_singleton->fM,take_succ_cons->jM,take_zero->jY,drop_succ_cons->jN,drop_zero->kW,getElem_mem->dX,length_drop->jw,getElem?_set->fF,getElem?_eq_some_iff->iF,filter_congr->EI,eq_nil_iff_forall_not_mem->tJ,getElem?_drop->je,set_cons_succ->bG,set_cons_zero->bM,setIfInBounds_toArray->bH,length->List.a,toArray->List.b,getD->List.c,take->List.d,drop->List.f,flatMap->List.h,below->List.S,extract->List.m
open List.Perm renaming length_eq->List.Perm.t
open Nat renaming le_refl->av,lt_or_ge->aZ,zero_add->bl,add_comm->uE,add_sub_cancel_left->kG,mul_one->gB,le_trans->aO,lt_of_lt_of_le->eO,le_succ->Lp,lt_succ_self->mG,mod_eq_of_lt->fK,le_succ_of_le->qo,le_of_eq->aX,le_of_lt->mH,ne_of_lt->jJ,ne_of_gt->uD,below->Nat.S
open Ne renaming symm->jl
open Option renaming toList->Option.a,getD->Option.c
open Or renaming inl->Or.a,inr->Or.b
open UInt8 renaming toNat_inj->lV,ofNat->aJ,toNat->UInt8.e,toNat_lt->UInt8.a
open Vector renaming replicate->bF,toList->Vector.a
namespace Go.Proofs.YtkjojjopamaoiaaGreat
open Go.RowKit
theorem ZL(c:Array aB)(i j:Nat)(v:aB)(hi:i<c.j):(c.b i v)[j]? = if i=j then some v else c[j]?:=by
 rw[dO];split
 ·rename_i h;subst h;simp[hi]
 ·rfl
def awL(ps:Array (Nat×aB)):xk aB:=fI 62 ps
@[go_sem ↓]theorem az1(ps:Array (Nat×aB)):fI 62 ps=awL ps:=rfl
theorem ais(w:ak)(fs:Array nU)(h:ah.k 62=some (.d fs)):(iA (fun f=>Prod.mk f.Z <$> sizeOf f.p) fs:xk (Array (Nat×Nat))).I ah w=.ok #[(0,1),(1,17),(18,1),(19,6),(25,1),(26,1)] w:=by
 have e:=Tryz.underlying62;rw[h]at e;cases e;show _=_
 kernel_rfl
theorem aly:(ah.l 5).map (·.j)=some 1:=by kernel_rfl
theorem Aq(a b:Array aB)(k j:Nat)(ha:a.j=k):(a++b)[j]? = if j<k then a[j]? else b[j-k]?:=by
 rw[aD,ha]
def tuT(t:Tu):Array aB:=#[.b .a t.aP,.b .a t.kT,.b .a t.jP]
def Tu.ay(t:Tu):Array aB:=t.h.ay++(t.Y.ay++tuT t)
theorem Tu.G(t:Tu):t.ay.j=37:=by simp[Tu.ay,tuT,fq.G]
theorem Tu.Mt(t:Tu)(j:Nat)(hj:j<17):t.ay[j]? = t.h.ay[j]?:=by
 unfold Tu.ay;rw[Aq _ _ 17 _ (fq.G _),if_pos hj]
theorem Tu.Kq(t:Tu)(j:Nat)(hj:j<17):t.ay[j+17]? = t.Y.ay[j]?:=by
 unfold Tu.ay;rw[Aq _ _ 17 _ (fq.G _),if_neg (by omega),Aq _ _ 17 _ (fq.G _),if_pos (by omega)];congr 1
theorem Tu.Bp(t:Tu)(j:Nat)(hj:j<3):t.ay[j+34]? = (tuT t)[j]?:=by
 unfold Tu.ay;rw[Aq _ _ 17 _ (fq.G _),if_neg (by omega),Aq _ _ 17 _ (fq.G _),if_neg (by omega)];congr 1
@[go_sem]theorem Tu.pX(t:Tu):t.ay[0]? = some (.e t.h.h):=(Tu.Mt t 0 (by omega)).trans (fq.pX _)
@[go_sem]theorem Tu.asV(t:Tu):t.ay[17]? = some (.e t.Y.h):=(Tu.Kq t 0 (by omega)).trans (fq.pX _)
@[go_sem]theorem Tu.Uy(t:Tu):t.ay[34]? = some (.b .a t.aP):=Tu.Bp t 0 (by omega)
@[go_sem]theorem Tu.aeZ(t:Tu):t.ay[35]? = some (.b .a t.kT):=Tu.Bp t 1 (by omega)
@[go_sem]theorem Tu.ZO(t:Tu):t.ay[36]? = some (.b .a t.jP):=Tu.Bp t 2 (by omega)
theorem gX{a b:Array aB}(h1:a.all (·.h)=true)(h2:b.all (·.h)=true):(a++b).all (·.h)=true:=by
 rw[Array.all_append,h1,h2];rfl
theorem Tu.cK(t:Tu):t.ay.all (·.h)=true:=gX (fq.cK _) (gX (fq.cK _) (by simp[tuT,cO]))
theorem Tu.ZU{c:Array aB}{t:Tu}(hc:c.j=37)(h0:∀j,j<17->c[j]? = t.h.ay[j]?)(h1:∀j,j<17->c[j+17]? = t.Y.ay[j]?)(h2:∀j,j<3->c[j+34]? = (tuT t)[j]?):c=t.ay:=by
 apply dU;intro j;rcases(show j<17\/(17<=j/\j<34)\/(34<=j/\j<37)\/37<=j by omega)with h|⟨h,h'⟩|⟨h,h'⟩|h
 ·rw[h0 j h,Tu.Mt t j h]
 ·obtain⟨i,rfl⟩:∃i,j=i+17:=⟨j-17,by omega⟩
  rw[h1 i (by omega),Tu.Kq t i (by omega)]
 ·obtain⟨i,rfl⟩:∃i,j=i+34:=⟨j-34,by omega⟩
  rw[h2 i (by omega),Tu.Bp t i (by omega)]
 ·rw[aU (by omega),aU (by rw[Tu.G];exact h)]
@[go_sem]theorem Tu.eD(x:Tu):eD x.ay=37:=Tu.G x
@[go_sem]theorem Tu.jC(x:Tu):x.ay.m 0 37=x.ay:=by
 have:=Tu.G x;rw[<-this];simp
def wW(v:aB):xk aB:=cu 81 v
def agT(v x:aB):xk Unit:=eF 81 v x
@[go_sem ↓]theorem avu(v:aB):cu 81 v=wW v:=rfl
@[go_sem ↓]theorem asW(v x:aB):eF 81 v x=agT v x:=rfl
@[go_sem]theorem Rq(W:ak)(b o:Nat)(h:xA W b o 37):(wW (.c (some ⟨b,o,none⟩))).I ah W=.ok (.d (dY W b o 37)) W:=
 j5 W b o 37 _ _ jX rfl (by kernel_rfl) h
@[go_sem]theorem ao0(W:ak)(c:Array aB)(x:Tu)(b:Nat)(hb:b=W.a.j)(hc:eD c=37):
 (agT (.c (some ⟨b,0,none⟩)) (.d x.ay)).I ah (W.alloc (.D c 81))=.ok () (W.alloc (.D x.ay 81)):=by
 subst hb;exact yV W _ c x.ay (by rw[Tu.G];kernel_rfl) (by rw[Tu.G];exact hc) (Tu.cK x)
def Tu.to0(t:Tu)(n:Int):Tu:={t with aP:=n}
def Tu.to1(t:Tu)(n:Int):Tu:={t with kT:=n}
def Tu.to2(t:Tu)(n:Int):Tu:={t with jP:=n}
theorem Tu.awM(t:Tu)(u:Int):t.ay.b 34 (.b .a u)=(t.to0 u).ay:=by
 refine Tu.ZU (by simp[Tu.G]) ?_ ?_ ?_<;>intro j hj<;>rw[ZL _ _ _ _ (by rw[Tu.G];omega)]
 ·rw[if_neg (by omega),Tu.Mt t j hj];rfl
 ·rw[if_neg (by omega),Tu.Kq t j hj];rfl
 ·rcases(show j=0\/j=1\/j=2 by omega)with rfl|rfl|rfl
  ·rw[if_pos (by omega)];rfl
  ·rw[if_neg (by omega),Tu.Bp t 1 (by omega)];rfl
  ·rw[if_neg (by omega),Tu.Bp t 2 (by omega)];rfl
theorem Tu.awN(t:Tu)(u:Int):t.ay.b 35 (.b .a u)=(t.to1 u).ay:=by
 refine Tu.ZU (by simp[Tu.G]) ?_ ?_ ?_<;>intro j hj<;>rw[ZL _ _ _ _ (by rw[Tu.G];omega)]
 ·rw[if_neg (by omega),Tu.Mt t j hj];rfl
 ·rw[if_neg (by omega),Tu.Kq t j hj];rfl
 ·rcases(show j=0\/j=1\/j=2 by omega)with rfl|rfl|rfl
  ·rw[if_neg (by omega),Tu.Bp t 0 (by omega)];rfl
  ·rw[if_pos (by omega)];rfl
  ·rw[if_neg (by omega),Tu.Bp t 2 (by omega)];rfl
theorem Tu.aq9(t:Tu)(u:Int):t.ay.b 36 (.b .a u)=(t.to2 u).ay:=by
 refine Tu.ZU (by simp[Tu.G]) ?_ ?_ ?_<;>intro j hj<;>rw[ZL _ _ _ _ (by rw[Tu.G];omega)]
 ·rw[if_neg (by omega),Tu.Mt t j hj];rfl
 ·rw[if_neg (by omega),Tu.Kq t j hj];rfl
 ·rcases(show j=0\/j=1\/j=2 by omega)with rfl|rfl|rfl
  ·rw[if_neg (by omega),Tu.Bp t 0 (by omega)];rfl
  ·rw[if_neg (by omega),Tu.Bp t 1 (by omega)];rfl
  ·rw[if_pos (by omega)];rfl
def fwT(x:Fw):Array aB:=#[.string (bU x.E),.b .a x.vN,.b .a x.seen,.b .a x.no]
def Fw.ay(x:Fw):Array aB:=x.key.ay++fwT x
theorem Fw.G(x:Fw):x.ay.j=41:=by simp[Fw.ay,fwT,Tu.G]
theorem Fw.awP(x:Fw)(j:Nat)(hj:j<37):x.ay[j]? = x.key.ay[j]?:=by
 unfold Fw.ay;rw[Aq _ _ 37 _ (Tu.G _),if_pos hj]
theorem Fw.Bp(x:Fw)(j:Nat)(hj:j<4):x.ay[j+37]? = (fwT x)[j]?:=by
 unfold Fw.ay;rw[Aq _ _ 37 _ (Tu.G _),if_neg (by omega)];congr 1
@[go_sem]theorem Fw.ae0(x:Fw):x.ay[37]? = some (.string (bU x.E)):=Fw.Bp x 0 (by omega)
@[go_sem]theorem Fw.ae1(x:Fw):x.ay[38]? = some (.b .a x.vN):=Fw.Bp x 1 (by omega)
@[go_sem]theorem Fw.ae2(x:Fw):x.ay[39]? = some (.b .a x.seen):=Fw.Bp x 2 (by omega)
@[go_sem]theorem Fw.ZV(x:Fw):x.ay[40]? = some (.b .a x.no):=Fw.Bp x 3 (by omega)
theorem Fw.cK(x:Fw):x.ay.all (·.h)=true:=gX (Tu.cK _) (by simp[fwT,cO])
@[go_sem]theorem Fw.eD(x:Fw):eD x.ay=41:=Fw.G x
@[go_sem]theorem Fw.jC(x:Fw):x.ay.m 0 41=x.ay:=by
 have:=Fw.G x;rw[<-this];simp
def Oy(v:aB):xk aB:=cu 86 v
def ZW(v x:aB):xk Unit:=eF 86 v x
@[go_sem ↓]theorem avv(v:aB):cu 86 v=Oy v:=rfl
@[go_sem ↓]theorem asX(v x:aB):eF 86 v x=ZW v x:=rfl
@[go_sem]theorem agU(W:ak)(b o:Nat)(h:xA W b o 41):(Oy (.c (some ⟨b,o,none⟩))).I ah W=.ok (.d (dY W b o 41)) W:=
 j5 W b o 41 _ _ mV rfl (by kernel_rfl) h
@[go_sem]theorem ao1(W:ak)(c:Array aB)(x:Fw)(b:Nat)(hb:b=W.a.j)(hc:eD c=41):
 (ZW (.c (some ⟨b,0,none⟩)) (.d x.ay)).I ah (W.alloc (.D c 86))=.ok () (W.alloc (.D x.ay 86)):=by
 subst hb;exact yV W _ c x.ay (by rw[Fw.G];kernel_rfl) (by rw[Fw.G];exact hc) (Fw.cK x)
def Ak(W:ak)(b o:Nat)(x:Fw):ak:=W.setCells b o x.ay.a
@[go_sem]theorem awQ(W:ak)(b o:Nat)(x:Fw)(h:W.O b o 41):(ZW (.c (some ⟨b,o,none⟩)) (.d x.ay)).I ah W=.ok () (Ak W b o x):=
 DL W b o _ x.ay (by rw[Fw.G];exact h) (by rw[Fw.G];kernel_rfl) (Fw.cK x)
theorem ae3:∃i:nJ,ah.l 86=some i/\i.zero=some (.d kN.ay)/\i.j=41/\i.bytes<=400:=by
 cases h:ah.l 86 with
 | none=>exact absurd h (by have:(ah.l 86).isSome=true:=by kernel_rfl
                            intro e;rw[e]at this;cases this)
 | some i=>
   have h1:(ah.l 86).map (·.j)=some 41:=by kernel_rfl
   have h2:(ah.l 86).map (fun i=>decide (i.bytes<=400))=some true:=by kernel_rfl
   have h3:(ah.l 86).map (·.zero)=some (some (.d kN.ay)):=by kernel_rfl
   rw[h]at h1 h2 h3;simp at h1 h2 h3;exact⟨i,rfl,h3,h1,h2⟩
def asY(ps:Array (Nat×aB)):xk aB:=fI 86 ps
@[go_sem ↓]theorem az2(ps:Array (Nat×aB)):fI 86 ps=asY ps:=rfl
def ara(n:Nat)(ps:Array (Nat×aB)):xk aB:=bI 34 n ps
@[go_sem ↓]theorem awR(n:Nat)(ps:Array (Nat×aB)):bI 34 n ps=ara n ps:=rfl
@[go_sem]theorem avw(w:ak)(x:Fw):(ara 1 #[(0,.d x.ay)]).I ah w=.ok (.a (some ⟨w.a.j,0,none⟩) 1 1) (w.alloc (.D x.ay 86)):=by
 obtain⟨i0,hi0,hz0,hz1,hzb⟩:=ae3;exact rO w _ _ i0 (.d kN.ay) 41 Tryz.underlying34 hi0 hz0 hz1 (Fw.G kN) (by omega) (by omega) x.ay (Fw.G x)
@[go_sem]theorem asZ:eB #[bL false,aA,aA,aA,aA,aA,aA,aA,aA,aA,aA,aA,aA,aA,aA,aA,aA,bL false,aA,aA,aA,aA,aA,aA,aA,aA,aA,aA,aA,aA,aA,aA,aA,aA,bg,bg,bg] 81=eB ael.ay 81:=rfl
@[go_sem]theorem as0:eB #[bL false,aA,aA,aA,aA,aA,aA,aA,aA,aA,aA,aA,aA,aA,aA,aA,aA,bL false,aA,aA,aA,aA,aA,aA,aA,aA,aA,aA,aA,aA,aA,aA,aA,aA,bg,bg,bg,iC {data:=#[]},bg,bg,bg] 86=eB kN.ay 86:=rfl
@[go_sem]theorem awS:bY #[bL false,aA,aA,aA,aA,aA,aA,aA,aA,aA,aA,aA,aA,aA,aA,aA,aA,bL false,aA,aA,aA,aA,aA,aA,aA,aA,aA,aA,aA,aA,aA,aA,aA,aA,bg,bg,bg]=bY ael.ay:=rfl
@[go_sem]theorem awT:bY #[bL false,aA,aA,aA,aA,aA,aA,aA,aA,aA,aA,aA,aA,aA,aA,aA,aA,bL false,aA,aA,aA,aA,aA,aA,aA,aA,aA,aA,aA,aA,aA,aA,aA,aA,bg,bg,bg,iC {data:=#[]},bg,bg,bg]=bY kN.ay:=rfl
theorem pF{W:ak}{b:Nat}{t:Tu}(h:dL W b t.ay):(wW (.c (some ⟨b,0,none⟩))).I ah W=.ok (.d t.ay) W:=by
 obtain⟨_,_,h3,h4⟩:=h.K;rw[Rq _ _ _ (by rw[h3 0 37 (by rw[Tu.eD];omega)];trivial),h4 0 37 (by rw[Tu.eD];omega),Tu.jC]
theorem acC(c:Nat)(w:ak):aQ ah 262 #[.b .b c] w fun e w'=>e=.a (.e ((c:Int) != 0))/\w=w':=by
 go_enter Tryz.func262,Tryz.ntmps262;go_wp2;go_ret;exact⟨rfl,rfl⟩
theorem Uz(args:Array aB)(w:ak):(callFunc 262 args).I ah w=.ok (.enter 262 args) w:=by kernel_rfl
theorem alz(a:fq)(b o c:Nat)(w:ak)(hc:∀j,j<12->w.b ⟨b,o+j,none⟩=some (.b .b ((a.fD (4+j)).e:Nat))):
 aQ ah 260 #[.a (some ⟨b,o,none⟩) 12 c,.func (.func 262) #[] #[]] w fun e w'=>∃r:Int,e=.a (.b .a r)/\(decide (0<=r) = !a.mK)/\w=w':=by
 have hen:=Uz;have HC:=ab hc;clear hc;go_enter Tryz.func260,Tryz.ntmps260;go_wp2;go_loop [8] (fun s8=>∃i:Nat,i<=12/\s8=.b .a i/\∀j,4<=j->j<4+i->a.fD j=0) (fun s8=>12-(intOf s8).e)
 case atStart=>exact⟨0,by omega,rfl,fun j h1 h2=>by omega⟩
 case round=>
  obtain⟨i,hi,rfl,hall⟩:=hrel;have HA:=ab hall;clear hall;by_cases hlt:i<12
  ·have hin:(i:Int)<12:=by omega
   have hcell:=HC.i i hlt;have hz:((a.fD (4+i)).e:Int)=0↔a.fD (4+i)=0:=by
    constructor
    ·intro h;apply lV.1;have:(0:UInt8).e=0:=rfl;omega
    ·intro h;rw[h];rfl
   have HZ:=ab hz;clear hz;obtain⟨n,hn⟩:∃n:Nat,n=(a.fD (4+i)).e:=⟨_,rfl⟩
   rw[<-hn]at hcell HZ;clear hn;by_cases h0:n=0
   ·have h1:((n:Int) != 0)=false:=by rw[h0];rfl
    have hz0:a.fD (4+i)=0:=HZ.i.1 (by omega);have HZ0:=ab hz0;clear hz0 h0;go_wp2_with (go_at_call 262;refine(acC n _).g ?_;rintro e w' ⟨rfl,rfl⟩);go_round
    case rel=>exact⟨i+1,by omega,by go_num,fun j h1 h2=>by
     by_cases hji:j=4+i
     ·rw[hji];exact HZ0.i
     ·exact HA.i j h1 (by omega)⟩
    case measure=>simp[intOf]<;>omega
   ·have h1:((n:Int) != 0)=true:=by rw[bne_iff_ne];omega
    have hno:a.mK=false:=fq.Tj (i:=4+i) (by omega) (by omega) (fun h=>h0 (by have:=HZ.i.2 h;omega));have EZ:=ab hno;clear hno h0;go_wp2_with (go_at_call 262;refine(acC n _).g ?_;rintro e w' ⟨rfl,rfl⟩);go_ret;exact⟨_,rfl,by rw[EZ.i];simp,rfl⟩
  ·obtain rfl:i=12:=by omega
   have hs:a.mK=true:=a.Jy.2 HA.i;have HS:=ab hs;clear hs;go_wp2;go_ret;exact⟨_,rfl,by rw[HS.i];simp,rfl⟩
theorem alA(a:fq)(b o c:Nat)(w:ak)(hc:∀j,j<12->w.b ⟨b,o+j,none⟩=some (.b .b ((a.fD (4+j)).e:Nat))):
 aQ ah 189 #[.a (some ⟨b,o,none⟩) 12 c,.func (.func 262) #[] #[]] w fun e w'=>e=.a (.e (!a.mK))/\w=w':=by
 have HC:=ab hc;clear hc;go_enter Tryz.func189,Tryz.ntmps189;go_wp2_with (go_at_call 260;refine(alz a b o c _ HC.i).g ?_;rintro e w' ⟨r,rfl,hr,rfl⟩);go_ret;exact⟨by simp,rfl⟩
theorem fq.qG(a:fq):qG a=(a.h||a.mK):=rfl
theorem IB(a:fq)(w:ak):aQ ah 193 #[.d a.ay] w (gU w (.e (qG a))):=by
 have HB:=ab ((aG w.a.j w).alloc (av _) (.D a.ay 27));have HT:=ab (show∀j,j<12->(w.alloc (.D a.ay 27)).b ⟨w.a.j,5+j,none⟩=some (.b .b ((a.fD (4+j)).e:Nat))from fun j hj=>by
  rw[mR,show 5+j=(4+j)+1 by omega];exact fq.DZ a (4+j) (by omega))
 have HK:=ab (fq.qG a);cases h6:a.h
 ·have H6:=ab h6
  obtain⟨K,hK⟩:=tV a.mK;have HKK:=ab hK;clear hK;go_enter Tryz.func193,Tryz.ntmps193;go_wp2_with fail;refine(alA a _ 5 _ _ HT.i).g ?_;rintro e w' ⟨rfl,rfl⟩;rw[HKK.i];cases K
  all_goals
   go_wp2;go_ret;exact⟨by rw[HK.i,HKK.i,H6.i];rfl,HB.i⟩
 ·have H6:=ab h6
  go_enter Tryz.func193,Tryz.ntmps193;go_wp2;go_ret;exact⟨by rw[HK.i,H6.i];rfl,HB.i⟩
@[go_sem]theorem Tu.ait(t:Tu):t.ay.m 0 17=t.h.ay:=by
 apply dU;intro j;rcases aZ j 17 with h|h
 ·rw[nX t.ay 0 17 j h (by rw[Tu.G];omega),bl,Tu.Mt t j h]
 ·rw[aU (by rw[jB,Tu.G];omega),aU (by rw[fq.G];exact h)]
@[go_sem]theorem Tu.aiu(t:Tu):t.ay.m 17 34=t.Y.ay:=by
 apply dU;intro j;rcases aZ j 17 with h|h
 ·rw[show(34:Nat)=17+17 from rfl,nX t.ay 17 17 j h (by rw[Tu.G];omega),uE,Tu.Kq t j h]
 ·rw[aU (by rw[jB,Tu.G];omega),aU (by rw[fq.G];exact h)]
@[go_sem]theorem Fw.P5(x:Fw):x.ay.m 0 37=x.key.ay:=by
 apply dU;intro j;rcases aZ j 37 with h|h
 ·rw[nX x.ay 0 37 j h (by rw[Fw.G];omega),bl,Fw.awP x j h]
 ·rw[aU (by rw[jB,Fw.G];omega),aU (by rw[Tu.G];exact h)]
theorem Rs(t:Tu):Fe t=(decide (t.h.h=t.Y.h)&&qG t.h&&qG t.Y&&(decide (0<=t.aP)&&decide (t.aP<=255))&&(decide (0<=t.kT)&&decide (t.kT<=65535))&&(decide (0<=t.jP)&&decide (t.jP<=65535))):=rfl
theorem JG(t:Tu)(w:ak):aQ ah 115 #[.d t.ay] w (gU w (.e (Fe t))):=by
 have HB0:=ab ((aG w.a.j w).alloc (av _) (.D t.ay 81));have B0:=ab (dL.new w t.ay 81);obtain⟨x1,x2,x3,x4⟩:=B0.i.K;have hl0:=B0.i.lt;obtain⟨K1,h1⟩:∃K,qG t.h=K:=⟨_,rfl⟩
 obtain⟨K2,h2⟩:∃K,qG t.Y=K:=⟨_,rfl⟩
 have Rp:=ab h1;have HS2:=ab h2;clear h1 h2;obtain⟨s6,h6⟩:∃s,t.h.h=s:=⟨_,rfl⟩
 obtain⟨d6,g6⟩:∃s,t.Y.h=s:=⟨_,rfl⟩
 by_cases he:s6=d6;rotate_left
 ·have HE:=ab (show¬t.h.h=t.Y.h by rw[h6,g6];exact he)
  have hne:(s6==d6)=false:=by simpa using he
  clear he;go_enter Tryz.func115,Tryz.ntmps115;go_wp2;go_ret;exact⟨by rw[Rs];simp[HE.i]<;>omega,HB0.i⟩
 have HE:=ab (show t.h.h=t.Y.h by rw[h6,g6];exact he);have hne:(s6==d6)=true:=by simpa using he
 clear he;cases K1
 ·skip
  go_enter Tryz.func115,Tryz.ntmps115;go_wp2_with fail;refine(IB t.h _).g ?_;rintro e w1 ⟨rfl,hb1⟩;rw[Rp.i];have B1:=ab (B0.i.go hb1);have HB1:=ab (jh HB0.i hb1);obtain⟨y1,y2,y3,y4⟩:=B1.i.K;have hl1:=B1.i.lt;clear hb1;go_wp2;go_ret;exact⟨by rw[Rs];simp[HE.i,Rp.i]<;>omega,HB1.i⟩
 cases K2
 ·skip
  go_enter Tryz.func115,Tryz.ntmps115;go_wp2_with fail;refine(IB t.h _).g ?_;rintro e w1 ⟨rfl,hb1⟩;rw[Rp.i];have B1:=ab (B0.i.go hb1);have HB1:=ab (jh HB0.i hb1);obtain⟨y1,y2,y3,y4⟩:=B1.i.K;have hl1:=B1.i.lt;clear hb1;go_wp2_with fail;refine(IB t.Y _).g ?_;rintro e w2 ⟨rfl,hb2⟩;rw[HS2.i];have B2:=ab (B1.i.go hb2);have HB2:=ab (jh HB1.i hb2);obtain⟨z1,z2,z3,z4⟩:=B2.i.K;have hl2:=B2.i.lt;clear hb2 y1 y2 y3 y4 hl1;go_wp2;go_ret;exact⟨by rw[Rs];simp_all[HE.i,Rp.i,HS2.i]<;>omega,HB2.i⟩
 go_enter Tryz.func115,Tryz.ntmps115;go_wp2_with fail;refine(IB t.h _).g ?_;rintro e w1 ⟨rfl,hb1⟩;rw[Rp.i];have B1:=ab (B0.i.go hb1);have HB1:=ab (jh HB0.i hb1);obtain⟨y1,y2,y3,y4⟩:=B1.i.K;have hl1:=B1.i.lt;clear hb1;go_wp2_with fail;refine(IB t.Y _).g ?_;rintro e w2 ⟨rfl,hb2⟩;rw[HS2.i];have B2:=ab (B1.i.go hb2);have HB2:=ab (jh HB1.i hb2);obtain⟨z1,z2,z3,z4⟩:=B2.i.K;have hl2:=B2.i.lt;clear hb2 y1 y2 y3 y4 hl1;by_cases p0:0<=t.aP;by_cases p1:t.aP<=255;by_cases p2:0<=t.kT;by_cases p3:t.kT<=65535;by_cases p4:0<=t.jP;by_cases p5:t.jP<=65535
 all_goals
  go_wp2;go_ret;exact⟨by rw[Rs];simp_all[HE.i,Rp.i,HS2.i]<;>omega,HB2.i⟩
theorem aac(x:Fw):zR x=(Fe x.key&&uO x.E&&decide (1<=x.vN)&&decide (x.vN<=5)&&(decide (0<=x.seen)&&decide (x.seen<=1099511627776))&&(decide (0<=x.no)&&decide (x.no<=1152921504606846976))):=rfl
theorem Kr(x:Fw)(w:ak)(hn:x.E.a<=9223372036854775807):aQ ah 48 #[.d x.ay] w (gU w (.e (zR x))):=by
 have HB0:=ab ((aG w.a.j w).alloc (av _) (.D x.ay 86));have B0:=ab (dL.new w x.ay 86);obtain⟨x1,x2,x3,x4⟩:=B0.i.K;have hl0:=B0.i.lt;obtain⟨K1,h1⟩:∃K,Fe x.key=K:=⟨_,rfl⟩
 obtain⟨K2,h2⟩:∃K,uO x.E=K:=⟨_,rfl⟩
 have Rp:=ab h1;have HS2:=ab h2;clear h1 h2;cases K1
 ·skip
  go_enter Tryz.func48,Tryz.ntmps48;go_wp2_with fail;refine(JG x.key _).g ?_;rintro e w1 ⟨rfl,hb1⟩;rw[Rp.i];have B1:=ab (B0.i.go hb1);have HB1:=ab (jh HB0.i hb1);obtain⟨y1,y2,y3,y4⟩:=B1.i.K;have hl1:=B1.i.lt;clear hb1;go_wp2;go_ret;exact⟨by rw[aac];simp[Rp.i]<;>omega,HB1.i⟩
 cases K2
 ·skip
  go_enter Tryz.func48,Tryz.ntmps48;go_wp2_with fail;refine(JG x.key _).g ?_;rintro e w1 ⟨rfl,hb1⟩;rw[Rp.i];have B1:=ab (B0.i.go hb1);have HB1:=ab (jh HB0.i hb1);obtain⟨y1,y2,y3,y4⟩:=B1.i.K;have hl1:=B1.i.lt;clear hb1;go_wp2_with fail;refine(SC x.E _ hn).g ?_;rintro e w2 ⟨rfl,hb2⟩;rw[HS2.i];have B2:=ab (B1.i.go hb2);have HB2:=ab (jh HB1.i hb2);obtain⟨z1,z2,z3,z4⟩:=B2.i.K;have hl2:=B2.i.lt;clear hb2 y1 y2 y3 y4 hl1;go_wp2;go_ret;exact⟨by rw[aac];simp_all[Rp.i,HS2.i]<;>omega,HB2.i⟩
 go_enter Tryz.func48,Tryz.ntmps48;go_wp2_with fail;refine(JG x.key _).g ?_;rintro e w1 ⟨rfl,hb1⟩;rw[Rp.i];have B1:=ab (B0.i.go hb1);have HB1:=ab (jh HB0.i hb1);obtain⟨y1,y2,y3,y4⟩:=B1.i.K;have hl1:=B1.i.lt;clear hb1;go_wp2_with fail;refine(SC x.E _ hn).g ?_;rintro e w2 ⟨rfl,hb2⟩;rw[HS2.i];have B2:=ab (B1.i.go hb2);have HB2:=ab (jh HB1.i hb2);obtain⟨z1,z2,z3,z4⟩:=B2.i.K;have hl2:=B2.i.lt;clear hb2 y1 y2 y3 y4 hl1;by_cases p0:1<=x.vN;by_cases p1:x.vN<=5;by_cases p2:0<=x.seen;by_cases p3:x.seen<=1099511627776;by_cases p4:0<=x.no;by_cases p5:x.no<=1152921504606846976
 all_goals
  go_wp2;go_ret;exact⟨by rw[aac];simp_all[Rp.i,HS2.i]<;>omega,HB2.i⟩
structure WL where
 A:Option aT
 n:Nat
 c:Nat
deriving DecidableEq
structure Sh where
 mQ:Int
 b:WL
 h:WL
 f:WL
 gL:Int
 no:Int
 Y:Vector Int 11
deriving DecidableEq
def shT(x:Sh):Array aB:=#[.b .a x.mQ,.a x.b.A x.b.n x.b.c,.a x.h.A x.h.n x.h.c,.a x.f.A x.f.n x.f.c,.b .a x.gL,.b .a x.no]
def yE(v:Vector Int 11):Array aB:=(v.a.map (aI .a)).b
def Sh.ay(x:Sh):Array aB:=shT x++yE x.Y
theorem jZ(v:Vector Int 11):(yE v).j=11:=by simp[yE]
theorem Sh.G(x:Sh):x.ay.j=17:=by simp[Sh.ay,shT,jZ]
theorem Sh.UA(x:Sh)(j:Nat)(hj:j<6):x.ay[j]? = (shT x)[j]?:=by unfold Sh.ay;rw[Aq _ _ 6 _ rfl,if_pos hj]
theorem UC(v:Vector Int 11)(j:Nat)(hj:j<11):(yE v)[j]? = some (.b .a (v.a.c j 0)):=by
 simp[yE,dZ,hj,au]
theorem Sh.agV(x:Sh)(j:Nat)(hj:j<11):x.ay[6+j]? = some (.b .a (x.Y.a.c j 0)):=by
 unfold Sh.ay;rw[Aq _ _ 6 _ rfl,if_neg (by omega),kG,UC _ _ hj]
@[go_sem]theorem Sh.pX(x:Sh):x.ay[0]? = some (.b .a x.mQ):=Sh.UA x 0 (by omega)
@[go_sem]theorem Sh.DY(x:Sh):x.ay[1]? = some (.a x.b.A x.b.n x.b.c):=Sh.UA x 1 (by omega)
@[go_sem]theorem Sh.Xd(x:Sh):x.ay[2]? = some (.a x.h.A x.h.n x.h.c):=Sh.UA x 2 (by omega)
@[go_sem]theorem Sh.agz(x:Sh):x.ay[3]? = some (.a x.f.A x.f.n x.f.c):=Sh.UA x 3 (by omega)
@[go_sem]theorem Sh.alB(x:Sh):x.ay[4]? = some (.b .a x.gL):=Sh.UA x 4 (by omega)
@[go_sem]theorem Sh.alC(x:Sh):x.ay[5]? = some (.b .a x.no):=Sh.UA x 5 (by omega)
theorem alD(l:List Int):((l.map (aI .a)).b).all (·.h)=true:=by
 rw[Array.all_eq_true_iff_forall_mem];intro v hv;simp at hv;obtain⟨z,_,rfl⟩:=hv;rfl
theorem Sh.cK(x:Sh):x.ay.all (·.h)=true:=gX (by simp[shT,cO]) (alD _)
def C9:WL:=⟨none,0,0⟩
def IC:Sh:=⟨0,C9,C9,C9,0,0,bF 11 0⟩
@[go_sem]theorem as1:eB #[bg,bD none 0 0,bD none 0 0,bD none 0 0,bg,bg,bg,bg,bg,bg,bg,bg,bg,bg,bg,bg,bg] 37=eB IC.ay 37:=rfl
@[go_sem]theorem awV:bY #[bg,bD none 0 0,bD none 0 0,bD none 0 0,bg,bg,bg,bg,bg,bg,bg,bg,bg,bg,bg,bg,bg]=bY IC.ay:=rfl
@[go_sem]theorem Sh.eD(x:Sh):eD x.ay=17:=Sh.G x
@[go_sem]theorem Sh.jC(x:Sh):x.ay.m 0 17=x.ay:=by
 have:=Sh.G x;rw[<-this];simp
def ae4(v:aB):xk aB:=cu 37 v
def aad(v x:aB):xk Unit:=eF 37 v x
@[go_sem ↓]theorem avx(v:aB):cu 37 v=ae4 v:=rfl
@[go_sem ↓]theorem as2(v x:aB):eF 37 v x=aad v x:=rfl
@[go_sem]theorem az3(W:ak)(b o:Nat)(h:xA W b o 17):(ae4 (.c (some ⟨b,o,none⟩))).I ah W=.ok (.d (dY W b o 17)) W:=
 j5 W b o 17 _ _ rX rfl (by kernel_rfl) h
@[go_sem]theorem ao2(W:ak)(c:Array aB)(x:Sh)(b:Nat)(hb:b=W.a.j)(hc:eD c=17):
 (aad (.c (some ⟨b,0,none⟩)) (.d x.ay)).I ah (W.alloc (.D c 37))=.ok () (W.alloc (.D x.ay 37)):=by
 subst hb;exact yV W _ c x.ay (by rw[Sh.G];kernel_rfl) (by rw[Sh.G];exact hc) (Sh.cK x)
def alE(W:ak)(b o:Nat)(x:Sh):ak:=W.setCells b o x.ay.a
@[go_sem]theorem awX(W:ak)(b o:Nat)(x:Sh)(h:W.O b o 17):(aad (.c (some ⟨b,o,none⟩)) (.d x.ay)).I ah W=.ok () (alE W b o x):=
 DL W b o _ x.ay (by rw[Sh.G];exact h) (by rw[Sh.G];kernel_rfl) (Sh.cK x)
theorem as3:∃i:nJ,ah.l 37=some i/\i.zero=some (.d IC.ay)/\i.j=17/\i.bytes<=400:=by
 cases h:ah.l 37 with
 | none=>exact absurd h (by have:(ah.l 37).isSome=true:=by kernel_rfl
                            intro e;rw[e]at this;cases this)
 | some i=>
   have h1:(ah.l 37).map (·.j)=some 17:=by kernel_rfl
   have h2:(ah.l 37).map (fun i=>decide (i.bytes<=400))=some true:=by kernel_rfl
   have h3:(ah.l 37).map (·.zero)=some (some (.d IC.ay)):=by kernel_rfl
   rw[h]at h1 h2 h3;simp at h1 h2 h3;exact⟨i,rfl,h3,h1,h2⟩
def as4(ps:Array (Nat×aB)):xk aB:=fI 37 ps
@[go_sem ↓]theorem az4(ps:Array (Nat×aB)):fI 37 ps=as4 ps:=rfl
theorem XI(w:ak)(fs:Array nU)(h:ah.k 37=some (.d fs)):(iA (fun f=>Prod.mk f.Z <$> sizeOf f.p) fs:xk (Array (Nat×Nat))).I ah w=.ok #[(0,2),(2,1),(3,1),(4,1),(5,1),(6,11)] w:=by
 have e:=rX;rw[h]at e;cases e;show _=_
 kernel_rfl
@[go_sem]theorem as5(w:ak):(as4 #[]).I ah w=.ok (.d IC.ay) w:=by
 obtain⟨i0,hi0,hz0,_,_⟩:=as3;exact NT w _ _ i0 IC.ay _ _ _ rX hi0 hz0 (XI w _ rX) rfl
@[go_sem]theorem Sh.Mv(x:Sh):x.ay.m 0 2 = #[.b .a x.mQ,.a x.b.A x.b.n x.b.c]:=by
 apply dU;intro j;rcases aZ j 2 with h|h
 ·rw[nX x.ay 0 2 j h (by rw[Sh.G];omega),bl,Sh.UA x j (by omega)]
  rcases(show j=0\/j=1 by omega)with rfl|rfl<;>rfl
 ·rw[aU (by rw[jB,Sh.G];omega),aU (by simp;omega)]
@[go_sem]theorem Sh.arb(x:Sh):x.ay.m 6 17=yE x.Y:=by
 apply dU;intro j;rcases aZ j 11 with h|h
 ·rw[show(17:Nat)=6+11 from rfl,nX x.ay 6 11 j h (by rw[Sh.G];omega),Sh.agV x j h,UC _ _ h]
 ·rw[aU (by rw[jB,Sh.G];omega),aU (by rw[jZ];exact h)]
structure StR(w:ak)(B:Nat)(x:Sh)(s:oM):Prop where
 mQ:x.mQ=s.mQ
 b:iR Bk.ay 27 w B x.b.A x.b.n s.rZ
 h:iR Hl.ay 3 w B x.h.A x.h.n s.h
 f:iR Fw.ay 41 w B x.f.A x.f.n s.G
 gL:x.gL=s.gL
 no:x.no=s.no
 Y:x.Y=s.Y
 rE:∀y∈s.rZ,y.rE
 ard:∀y∈s.h,y.E.a<=9223372036854775807
 alF:∀y∈s.G,y.E.a<=9223372036854775807
 nb:x.b.n<=4611686018427387903
 nh:x.h.n<=4611686018427387903
 nf:x.f.n<=4611686018427387903
theorem StR.go{w w':ak}{x:Sh}{s:oM}(h:StR w w.a.j x s)(hb:aM w.a.j w w'):StR w' w'.a.j x s:=⟨h.mQ,h.b.go hb,h.h.go hb,h.f.go hb,h.gL,h.no,h.Y,h.rE,h.ard,h.alF,h.nb,h.nh,h.nf⟩
def alG(v:aB):xk aB:=cu 35 v
@[go_sem ↓]theorem avy(v:aB):cu 35 v=alG v:=rfl
@[go_sem]theorem az5(W:ak)(b o:Nat)(h:xA W b o 11):(alG (.c (some ⟨b,o,none⟩))).I ah W=.ok (.d (dY W b o 11)) W:=
 j5 W b o 11 _ _ EH rfl (by kernel_rfl) h
theorem ae5(l:List Bk)(hf:∀x∈l,x.rE)(v:Int)(A:Option aT)(n c:Nat)(w:ak)(hR:iR Bk.ay 27 w w.a.j A n l)(hn:n<=4611686018427387903)(K:Bool)(hK:xQ v l=K):
 aQ ah 45 #[.d #[.b .a v,.a A n c]] w (gU w (.e K)):=by
 subst hK;obtain rfl:=hR.1;exact Wv l hf v A c w hR (by omega)
theorem iR.fw{W:ak}{B n:Nat}{A:Option aT}{l:List Fw}{k:Nat}(h:iR Fw.ay 41 W B A n l)(hk:k<n):∃b o,A=some ⟨b,o,none⟩/\b<B/\xA W b (o+k*41) 41/\dY W b (o+k*41) 41=(l.c k kN).ay:=iR.fD Fw.G kN h hk
section
variable {P:eG}
theorem UD{w:ak}{ops:Array iV}{rest:List iV}{o:iV}{a:qQ}{Q:zO->qQ->ak->Prop}(hgd:o.guard=none)(s x:pG)(t tn:bK)
 (ho:o.op=.call {callee:=.builtin .append,args:=#[s,x],argTypes:=#[t,tn]}) (u v r:aB) (hs:a.eval s=u) (hx:a.eval x=v) (w2:ak)
 (hrun:∀ty,(zW #[t,tn] ty #[u,v]).I P w=.ok r w2) (h:wpList P ops Q rest (a.put o.Y r) w2):wpList P ops Q (o::rest) a w:=by
 refine sV hgd fun K hK=>?_
 unfold nu;simp[execOp,ho,resolve,invoke,builtin,hs,hx,hrun,iE];exact hK _ _ h
end
theorem alH(k:Nat)(hk:k<=1000000000)(w:ak):
 aQ ah 253 #[.a none 0 0,.b .a k] w fun e w'=>∃v,e=.a v/\w'.c w.a.j 5 1 v 0 []/\aM w.a.j w w':=by
 obtain⟨i0,hi0,hz0,hz1,hz2⟩:=BM KE;rcases Nat.eq_zero_or_pos k with h0|h0
 ·subst h0
  go_enter Tryz.func253,Tryz.ntmps253;go_wp2;go_ret;exact⟨_,rfl,fE _ _ _ _,aG _ _⟩
 ·have hrun:=fun ty=>Lib.run_append_grow_zeros (P:=ah) w 56 3 ty 5 i0 (.b .b 0) .a .a cB gM hi0 hz0 none 0 0 [] (by simp[tO]) k h0 (by omega) (by omega) (by omega) (by rw[hz2];omega) (growslice_fits (by omega) (by rw[hz2];omega))
  have hge:=grownCap_ge w (0+k) 0 5;have hle:=grownCap_le_maxLen w (0+k) 0 5 (by unfold maxLen;omega);rw[bl]at hrun hge hle;obtain⟨cap,hcap⟩:=tV (grownCap w k 0 5);rw[hcap]at hrun hge hle;obtain⟨cells,hcells⟩:=dw (([]:List aB).b++nR (aI .b 0).D k++nR (aI .b 0).D (cap-k));have hsz:cells.j=cap*1:=by
   rw[hcells];simp only[nW,dI,gG,size_zeroCells,show(aI .b 0).D.j=1 from rfl];omega
  rw[<-hcells]at hrun;have O1:=ab (World.ownsRow_made w.drew cells cap (base:=w.a.j) (e:=5) (size:=1) (av _) hle hsz);have hc0:(0:Int)<=(cap:Int):=by omega
  have aHT:¬cap=0:=by omega
  have hle2:(cap:Int)<=9223372036854775807:=by unfold maxLen at hle;omega
  have aBS:=ab hrun;clear hcells hcap hsz hle hrun;go_enter Tryz.func253,Tryz.ntmps253;go_wp2_with (at_builtin;refine UD rfl (.tmp 20) (.tmp 21) _ _ rfl (.a none 0 0) (.b .a k) _ rfl rfl _ aBS.i ?_);go_ret;exact⟨_,rfl,O1.i,((aG w.a.j w).drew).alloc (av _) _⟩
def alI(x:WL):Array aB:=#[.a x.A x.n x.c]
theorem XJ(x:WL):(alI x).j=1:=rfl
abbrev RdS:=iR alI 1
def yF(l:List WL):Nat:=(l.map (·.n)).sum
theorem OB(l:List WL)(i:Nat)(hi:i<l.a):yF (l.d (i+1))=yF (l.d i)+(l.c i C9).n:=by
 rw[<-oD C9 l i hi];simp[yF]
theorem aae(l:List WL)(i:Nat):yF (l.d i)<=yF l:=by
 unfold yF
 conv=>rhs;rw[<-iG i l,jg,List.sum_append]
 omega
def Mw(W:ak)(B:Nat)(l:List WL)(bss:List (List UInt8)):Prop:=l.a=bss.a/\∀i,i<l.a->fP W B (l.c i C9).A (l.c i C9).n (bss.c i [])
theorem XK(l:List (List UInt8))(i:Nat)(hi:i<l.a):(l.d (i+1)).flatten=(l.d i).flatten++l.c i []:=by
 rw[<-oD [] l i hi];simp
theorem UE{W:ak}{B:Nat}{l:List WL}{bss:List (List UInt8)}(h:Mw W B l bss)(i:Nat)(hi:i<=l.a):(bss.d i).flatten.a=yF (l.d i):=by
 induction i with
 | zero=>simp[yF]
 | succ i ih=>
   have h1:=(h.2 i (by omega)).len;rw[XK bss i (by have:=h.1;omega),aR,ih (by omega),OB l i (by omega),h1]
def as6(bss:List (List UInt8))(w:ak)(e:kZ)(w':ak):Prop:=∃v,e=.a v/\w'.c w.a.j 5 1 v bss.flatten.a (bss.flatten.map bv)/\aM w.a.j w w'
theorem ao3{w wr:ak}{A':Option aT}{m c' j:Nat}{bss:List (List UInt8)}(ho:wr.c w.a.j 5 1 (.a A' m c') m ((bss.d j).flatten.map bv))(hf:bss.d j=bss)(hb:aM w.a.j w wr):as6 bss w (.a (.a A' m c')) wr:=by
 rw[hf]at ho;have h2:=ho.1;rw[bT,gB]at h2;refine⟨_,rfl,?_,hb⟩;rw[h2];exact ho
theorem KW(l:List WL)(bss:List (List UInt8))(A:Option aT)(n c:Nat)(w:ak)(hR:RdS w w.a.j A n l)(hH:Mw w w.a.j l bss)(hn:n<=1000)(hs:yF l<=1000000000):
 aQ ah 181 #[.a A n c] w (as6 bss w):=by
 obtain⟨i0,hi0,hz0,hz1,hz2⟩:=BM KE;have HR:=ab hR;have HH:=ab hH;have HN:=ab hR.1;have HS:=ab hs;clear hR hH;go_enter Tryz.func181,Tryz.ntmps181;go_wp2;go_loop [3,11] (fun s3 s11=>∃i:Nat,i<=n/\s11=.b .a i/\s3=.b .a (yF (l.d i):Nat)) (fun _ s11=>n-(intOf s11).e)
 case atStart=>exact⟨0,by omega,rfl,rfl⟩
 case round=>
  obtain⟨i,hi,rfl,rfl⟩:=hrel;by_cases hlt:i<n
  ·have hlt2:(i:Int)<n:=by omega
   obtain⟨b,o,rfl,hbb,hcell⟩:=iR.cell XJ C9 HR.i hlt;have hc0:=hcell 0 (by omega);have hst:=OB l i (by rw[HN.i];exact hlt);have hsl:=aae l (i+1);obtain⟨y,hy⟩:=tV (l.c i C9);rw[hy]at hc0 hst;have hc1:w.b ⟨b,o+i,none⟩=some (.a y.A y.n y.c):=by simpa[alI]using hc0
   obtain⟨z,hz⟩:=tV (yF (l.d i));have hzb:z+y.n<=1000000000:=by have:=HS.i;omega
   rw[hz]at hst ⊢;have HST:=ab hst;clear hcell hc0 hy hz hst hsl;go_wp2;go_round
   case rel=>exact⟨i+1,by omega,by go_num,by rw[HST.i];go_num⟩
   case measure=>simp[intOf]<;>omega
  ·have hge:¬(i:Int)<n:=by omega
   have HT:=ab (show yF (l.d i)=yF l by rw[aK (by rw[HN.i];omega)]);obtain⟨z,hz⟩:=tV (yF (l.d i));rw[hz]at HT ⊢;have hzb:z<=1000000000:=by rw[HT.i];exact HS.i
   clear hz;go_wp2_with fail;refine(alH z hzb w).g ?_;rintro e w1 ⟨v,rfl,ho,hb⟩;obtain⟨A0,c0,rfl,_,_⟩:=jS ho;have O0:=ab ho;have B0:=ab hb;clear ho hb;go_wp2;go_loopw [6,27] (fun s6 s27 wr=>∃(j m:Nat)(A':Option aT)(c':Nat),j<=n/\s27=.b .a j/\s6=.a A' m c'/\wr.c w.a.j 5 1 (.a A' m c') m ((bss.d j).flatten.map bv)/\aM w.a.j w wr) (fun _ s27 _=>n-(intOf s27).e)
   case atStart=>exact⟨0,0,A0,c0,by omega,rfl,rfl,O0.i,B0.i⟩
   case round=>
    obtain⟨j,m,A',c',hj,rfl,rfl,ho,hb⟩:=hrel;have HO:=ab ho;have HB:=ab hb;have HM:=ab (show m<=1000000000 by
     have h1:=ho.1;rw[bT,UE HH.i j (by rw[HN.i];exact hj)]at h1;have:=aae l j;have:=HS.i;omega)
    clear ho hb;by_cases hlt:j<n
    ·have hlt2:(j:Int)<n:=by omega
     obtain⟨b,o,rfl,hbb,hcell⟩:=iR.cell XJ C9 (HR.i.to HB.i (av _)) hlt;have hc0:=hcell 0 (by omega);have hrd:=(HH.i.2 j (by rw[HN.i];exact hlt)).to HB.i (av _);have hst:=OB l j (by rw[HN.i];exact hlt);have hsl:=aae l (j+1);have HFL:=ab (XK bss j (by have:=HH.i.1;have:=HN.i;omega));have HML:=ab (show m=yF (l.d j)by have h1:=HO.i.1;rw[bT,UE HH.i j (by rw[HN.i];exact hj)]at h1;omega);obtain⟨y,hy⟩:=tV (l.c j C9);rw[hy]at hc0 hst hrd;have hc1:wr.b ⟨b,o+j,none⟩=some (.a y.A y.n y.c):=by simpa[alI]using hc0
     have HRD:=ab hrd;have Rn:=ab (show m+y.n<=maxLen by have:=HS.i;have:=HML.i;unfold maxLen;omega);have Ro:=ab (show(m+y.n)*1<=140737488355328 by have:=HS.i;have:=HML.i;omega);have BS:=ab HB.i.j;have ON:=ab (Jp (bss.c j []));have GR:=ab (fun w5 (hg:wr.d w5 (bD A' m c').f)=>show aM w.a.j w w5 from HB.i.grown hg HB.i.j (fun x hx=>(HO.i.lt x hx).1));clear hcell hc0 hy hst hsl hrd;go_wp2_with (at_builtin;refine jG _ rfl (.tmp 31) (.tmp 32) _ rfl w.a.j 5 i0 (.b .b 0) 1 1 cB hi0 hz0 hz1 hz2 rfl (av 1) (.a A' m c') m ((bss.d j).flatten.map bv) rfl HO.i w.a.j y.A y.n y.c ((bss.c j []).map bv) rfl HRD.i ON.i Rn.i Ro.i BS.i ?_;intro v1 w5 hown1 hg1 xJ;have O5:=ab hown1;have G5:=ab (GR.i _ hg1);clear hown1 hg1 xJ);obtain⟨A5,c5,rfl,_,_⟩:=jS O5.i;go_roundw
     case rel=>exact⟨j+1,m+y.n,A5,c5,by omega,by go_num,rfl,by rw[HFL.i,jg];exact O5.i,G5.i⟩
     case measure=>simp[intOf]<;>omega
    ·have aHU:¬(j:Int)<n:=by omega
     have HF:=ab (show bss.d j=bss from aK (by have:=HH.i.1;have:=HN.i;omega));go_wp2;go_ret;exact ao3 HO.i HF.i HB.i
structure Ow(B:Nat)(g0:Option Nat)(w0:ak)(v:aB)(bs:List UInt8)(w:ak):Prop where
 vC:w.c B 5 1 v bs.a (bs.map bv)
 gr:w0.d w g0
 vY:v.f=g0\/∃k,v.f=some k/\w0.a.j<=k
 hB:B<=w0.a.j
 gb:∀k,g0=some k->B<=k/\k<w0.a.j
theorem as7{a w:ak}{g:Option Nat}(h:a.d w g){p:aT}(hp:some p.block=g\/a.a.j<=p.block)(u:aB):a.d (w.F p u) g:=
 ⟨h.os,h.tape,h.output,by simpa[World.setCell]using h.j,fun i hi hne=>(Below.heap_setCell w p u i (by
  rintro rfl;rcases hp with hp|hp
  ·exact hne hp
  ·omega)).trans (h.block i hi hne)⟩
section
variable {B:Nat} {g0:Option Nat} {w0 W W':ak} {v v':aB} {bs bs':List UInt8}
theorem Ow.nil(w:ak):Ow w.a.j none w (.a none 0 0) [] w:=⟨fE _ _ _ _,World.grownBy.refl _ _,.a rfl,av _,fun k h=>by cases h⟩
theorem Ow.iY{w:ak}{n:Nat}(h:w.c B 5 1 v n (bs.map bv))(hB:B<=w.a.j):Ow B v.f w v bs w:=by
 have h1:=h.1;rw[bT,gB]at h1;subst h1;exact⟨h,World.grownBy.refl _ _,.a rfl,hB,fun k hk=>h.lt k hk⟩
theorem Ow.go(h:Ow B g0 w0 v bs W)(hb:aM W.a.j W W'):Ow B g0 w0 v bs W':=
 ⟨jq h.vC hb,⟨hb.os.trans h.gr.os,hb.tape.trans h.gr.tape,hb.output.trans h.gr.output,aO h.gr.j hb.j,fun k hk hn=>(hb.block k (eO hk h.gr.j)).trans (h.gr.block k hk hn)⟩,h.vY,h.hB,h.gb⟩
theorem Ow.drew(h:Ow B g0 w0 v bs W):Ow B g0 w0 v bs W.drew:=⟨h.vC,⟨h.gr.os,h.gr.tape,h.gr.output,h.gr.j,h.gr.block⟩,h.vY,h.hB,h.gb⟩
theorem Ow.step(h:Ow B g0 w0 v bs W)(k:Ow B v.f W v' bs' W'):Ow B g0 w0 v' bs' W':=by
 refine⟨k.vC,⟨k.gr.os.trans h.gr.os,k.gr.tape.trans h.gr.tape,k.gr.output.trans h.gr.output,aO h.gr.j k.gr.j,fun i hi hn=>(k.gr.block i (eO hi h.gr.j) (fun e=>?_)).trans (h.gr.block i hi hn)⟩,?_,h.hB,h.gb⟩
 ·rcases h.vY with h1|⟨j,h1,h2⟩
  ·exact hn (e.trans h1)
  ·rw[h1]at e;injection e with e;omega
 ·rcases k.vY with h1|⟨j,h1,h2⟩
  ·rw[h1];exact h.vY
  ·exact .b ⟨j,h1,aO h.gr.j h2⟩
theorem Ow.box{q:Nat}{c:Array aB}(h:Ow B g0 w0 v bs W)(hb:dL w0 q c)(hq:some q≠g0):dL W q c:=hb.grown h.gr hq
theorem Ow.S(h:Ow B g0 w0 v bs W):aM B w0 W:=⟨h.gr.os,h.gr.tape,h.gr.output,h.gr.j,fun k hk=>h.gr.block k (eO hk h.hB) (fun e=>by have:=(h.gb k e.symm).1;omega)⟩
theorem Ow.R(h:Ow B none w0 v bs W):aM w0.a.j w0 W:=⟨h.gr.os,h.gr.tape,h.gr.output,h.gr.j,fun k hk=>h.gr.block k hk (fun e=>by cases e)⟩
theorem Ow.Ch(h:Ow B g0 w0 v bs W):∃A c,v=.a A bs.a c:=by obtain⟨A,c,e,_⟩:=jS h.vC;exact⟨A,c,e⟩
theorem Ow.lt(h:Ow B g0 w0 v bs W){k:Nat}(hk:v.f=some k):k<W.a.j:=(h.vC.lt k hk).2
theorem Ow.j(h:Ow B g0 w0 v bs W):B<=W.a.j:=aO h.hB h.gr.j
end
section
variable {P:eG} {w:ak}
theorem zy:∃i:nJ,ah.l 5=some i/\i.zero=some (.b .b 0)/\i.j=1/\i.bytes=1:=BM KE
theorem ko{ops:Array iV}{rest:List iV}{o:iV}{a:qQ}{Q:zO->qQ->ak->Prop}(hgd:o.guard=none)(s x:pG)
 (ho:o.op=.call {callee:=.builtin .append,args:=#[s,x],argTypes:=#[56,56]})
 {B:Nat} {g0:Option Nat} {w0:ak} {v:aB} {bs ys:List UInt8} (hs:a.eval s=v) (H:Ow B g0 w0 v bs w) {C:Nat} {A:Option aT} {m c:Nat} (hx:a.eval x=.a A m c) (hr:fP w C A m ys)
 (hlen:bs.a+m<=1000000000)
 (h:∀A' n' c' w',Ow B g0 w0 (.a A' n' c') (bs++ys) w'->Ow B v.f w (.a A' n' c') (bs++ys) w'->wpList ah ops Q rest (a.put o.Y (.a A' n' c')) w'):wpList ah ops Q (o::rest) a w:=by
 obtain⟨i0,hi0,hz0,hz1,hz2⟩:=zy;have hm:=hr.len;refine jG w hgd s x _ ho B 5 i0 (.b .b 0) 1 1 cB hi0 hz0 hz1 hz2 rfl (av 1) v bs.a (bs.map bv) hs H.vC C A m c (ys.map bv) hx hr (Jp ys) (by unfold maxLen;omega) (by omega) H.j ?_;intro v1 w1 h1 h2 h3;rw[<-jg,<-hm,<-aR]at h1;have hk:Ow B v.f w v1 (bs++ys) w1:=⟨h1,h2,by rcases h3 with h|h;exact .a h;exact .b ⟨_,h,av _⟩,H.j,fun k hk=>H.vC.lt k hk⟩
 obtain⟨A',c',rfl⟩:=hk.Ch;exact h A' _ c' w1 (H.step hk) hk
theorem awZ{o:iV}{a:qQ}{K:qQ->ak->Prop}{Q:zO->qQ->ak->Prop}(s x:pG)
 (ho:o.op=.call {callee:=.builtin .append,args:=#[s,x],argTypes:=#[56,56]})
 {B:Nat} {g0:Option Nat} {w0:ak} {v:aB} {bs ys:List UInt8} (hs:a.eval s=v) (H:Ow B g0 w0 v bs w) {C:Nat} {A:Option aT} {m c:Nat} (hx:a.eval x=.a A m c) (hr:fP w C A m ys)
 (hlen:bs.a+m<=1000000000)
 (h:∀A' n' c' w',Ow B g0 w0 (.a A' n' c') (bs++ys) w'->Ow B v.f w (.a A' n' c') (bs++ys) w'->K (a.put o.Y (.a A' n' c')) w'):o.wp ah a w K Q:=by
 obtain⟨i0,hi0,hz0,hz1,hz2⟩:=zy;have hm:=hr.len;refine Jq w s x _ ho B 5 i0 (.b .b 0) 1 1 cB hi0 hz0 hz1 hz2 rfl (av 1) v bs.a (bs.map bv) hs H.vC C A m c (ys.map bv) hx hr (Jp ys) (by unfold maxLen;omega) (by omega) H.j ?_;intro v1 w1 h1 h2 h3;rw[<-jg,<-hm,<-aR]at h1;have hk:Ow B v.f w v1 (bs++ys) w1:=⟨h1,h2,by rcases h3 with h|h;exact .a h;exact .b ⟨_,h,av _⟩,H.j,fun k hk=>H.vC.lt k hk⟩
 obtain⟨A',c',rfl⟩:=hk.Ch;exact h A' _ c' w1 (H.step hk) hk
end
def FC(z:Int):Array aB:=#[.b .a z]
theorem XL(z:Int):(FC z).j=1:=rfl
abbrev RdI:=iR FC 1
theorem Rt:∃i:nJ,ah.l 3=some i/\i.zero=some (.b .a 0)/\i.j=1:=by
 cases h:ah.l 3 with
 | none=>exact absurd h (by have:(ah.l 3).isSome=true:=by kernel_rfl
                            intro e;rw[e]at this;cases this)
 | some i=>
   have h1:(ah.l 3).map (·.j)=some 1:=by kernel_rfl
   have h3:(ah.l 3).map (·.zero)=some (some (.b .a 0)):=by kernel_rfl
   rw[h]at h1 h3;simp at h1 h3;exact⟨i,rfl,h3,h1⟩
theorem ae6:lS 1 = #[0]:=by apply oP;rw[j3];rfl
theorem ae7:lS 2 = #[0,1]:=by apply oP;rw[j3];rfl
theorem as8:lS 3 = #[0,1,2]:=by apply oP;rw[j3];rfl
def KX(n:Nat)(ps:Array (Nat×aB)):xk aB:=bI 70 n ps
@[go_sem ↓]theorem avz(n:Nat)(ps:Array (Nat×aB)):bI 70 n ps=KX n ps:=rfl
def sN(l:List Int):Array aB:=(l.map (aI .a)).b
@[go_sem]theorem arf(w:ak)(a:Int):(KX 1 #[(0,.b .a a)]).I ah w=.ok (.a (some ⟨w.a.j,0,none⟩) 1 1) (w.alloc (.D (sN [a]) 3)):=by
 obtain⟨i0,hi0,hz0,hz1⟩:=Rt;simp[KX,bI,dJ og,zeroValue,sizeOf,typeInfo,hi0,hz0,hz1,fu,newRow,sN,bW,ae6,ae7,as8]
theorem RdI.lit(w:ak)(l:List Int)(t:bK):RdI (w.alloc (.D (sN l) t)) (w.alloc (.D (sN l) t)).a.j (some ⟨w.a.j,0,none⟩) l.a l:=by
 have hf:(l.h fun x=>(FC x).a)=l.map (aI .a):=by induction l with
  | nil=>rfl
  | cons z l ih=>simp only[iK,ih];rfl
 refine⟨rfl,⟨by rw[hf];simp,fun _=>⟨_,rfl,by simp,?_⟩⟩,fun a h _=>by injection h with h;rw[<-h]⟩;intro j v hv;rw[hf]at hv;rw[iD,bl];have:=mR w (sN l) t j;rw[this];simpa[sN]using hv
def FD(n:Nat)(ps:Array (Nat×aB)):xk aB:=bI 276 n ps
@[go_sem ↓]theorem avA(n:Nat)(ps:Array (Nat×aB)):bI 276 n ps=FD n ps:=rfl
theorem Ru:∃i:nJ,ah.l 56=some i/\i.zero=some (.a none 0 0)/\i.j=1:=by
 cases h:ah.l 56 with
 | none=>exact absurd h (by have:(ah.l 56).isSome=true:=by kernel_rfl
                            intro e;rw[e]at this;cases this)
 | some i=>
   have h1:(ah.l 56).map (·.j)=some 1:=by kernel_rfl
   have h3:(ah.l 56).map (·.zero)=some (some (.a none 0 0)):=by kernel_rfl
   rw[h]at h1 h3;simp at h1 h3;exact⟨i,rfl,h3,h1⟩
def yQ(l:List WL):Array aB:=(l.map fun x=>bD x.A x.n x.c).b
theorem as9:lS 5 = #[0,1,2,3,4]:=by apply oP;rw[j3];rfl
@[go_sem]theorem arh(w:ak)(A B:Option aT)(a b c d:Nat):(FD 2 #[(0,.a A a b),(1,.a B c d)]).I ah w=.ok (.a (some ⟨w.a.j,0,none⟩) 2 2) (w.alloc (.D (yQ [⟨A,a,b⟩,⟨B,c,d⟩]) 56)):=by
 obtain⟨i0,hi0,hz0,hz1⟩:=Ru;simp[FD,bI,dJ Dl,zeroValue,sizeOf,typeInfo,hi0,hz0,hz1,fu,newRow,yQ,bW,ae7]
@[go_sem]theorem ari(w:ak)(A0 A1 A2 A3 A4:Option aT)(n0 n1 n2 n3 n4 c0 c1 c2 c3 c4:Nat):(FD 5 #[(0,.a A0 n0 c0),(1,.a A1 n1 c1),(2,.a A2 n2 c2),(3,.a A3 n3 c3),(4,.a A4 n4 c4)]).I ah w=.ok (.a (some ⟨w.a.j,0,none⟩) 5 5) (w.alloc (.D (yQ [⟨A0,n0,c0⟩,⟨A1,n1,c1⟩,⟨A2,n2,c2⟩,⟨A3,n3,c3⟩,⟨A4,n4,c4⟩]) 56)):=by
 obtain⟨i0,hi0,hz0,hz1⟩:=Ru;simp[FD,bI,dJ Dl,zeroValue,sizeOf,typeInfo,hi0,hz0,hz1,fu,newRow,yQ,bW,as9]
theorem RdS.lit(w:ak)(l:List WL)(t:bK):RdS (w.alloc (.D (yQ l) t)) (w.alloc (.D (yQ l) t)).a.j (some ⟨w.a.j,0,none⟩) l.a l:=by
 have hf:(l.h fun x=>(alI x).a)=l.map (fun x=>bD x.A x.n x.c):=by induction l with
  | nil=>rfl
  | cons z l ih=>simp only[iK,ih];rfl
 refine⟨rfl,⟨by rw[hf];simp,fun _=>⟨_,rfl,by simp,?_⟩⟩,fun a h _=>by injection h with h;rw[<-h]⟩;intro j v hv;rw[hf]at hv;rw[iD,bl];have:=mR w (yQ l) t j;rw[this];simpa[yQ]using hv
theorem Mw.cons{w:ak}{B:Nat}{x:WL}{l:List WL}{ys:List UInt8}{bss:List (List UInt8)}(h:fP w B x.A x.n ys)(k:Mw w B l bss):Mw w B (x::l) (ys::bss):=by
 refine⟨by simp[k.1],fun i hi=>?_⟩;cases i with
 | zero=>exact h
 | succ i=>exact k.2 i (by simpa using hi)
theorem Mw.nil{w:ak}{B:Nat}:Mw w B [] []:=⟨rfl,fun i hi=>by simp at hi⟩
theorem Br(l:List WL)(bss:List (List UInt8))(t:bK)(n:Nat)(w:ak)(hn:l.a=n)(hH:Mw w w.a.j l bss)(h1:n<=1000)(hs:yF l<=1000000000):
 aQ ah 181 #[.a (some ⟨w.a.j,0,none⟩) n n] (w.alloc (.D (yQ l) t)) fun e w'=>∃A m c,e=.a (.a A m c)/\m=bss.flatten.a/\fP w' w'.a.j A m bss.flatten/\w'.c (w.a.j+1) 5 1 (.a A m c) m (bss.flatten.map bv)/\aM w.a.j w w':=by
 subst hn;refine(KW l bss _ _ _ _ (RdS.lit w l t) ⟨hH.1,fun i hi=>((hH.2 i hi).alloc (av _) _).lu (by simp)⟩ h1 hs).g ?_;rintro e w' ⟨v,rfl,ho,hb⟩;obtain⟨A,c,rfl,_,_⟩:=jS ho;exact⟨A,_,c,rfl,rfl,fP.iY ho,by simpa using ho,awf (aG _ _) hb⟩
theorem ao4(w:ak)(s:List UInt8):fP (sD w 5 s) (sD w 5 s).a.j (some ⟨w.a.j,0,none⟩) s.a s/\aM w.a.j w (sD w 5 s):=
 ⟨(Gi w _ s).lu (by unfold sD;rw[Lib.bytesWorld_size];omega),Gh w _ s⟩
theorem uT(n k:Nat)(big:Bool):(iN n k big).a=k:=by cases big<;>simp[iN,vU]
theorem Mx{w:ak}{ops:Array iV}{o:iV}{a:qQ}{K:qQ->ak->Prop}{Q:zO->qQ->ak->Prop}{E:Prop}(hgd:o.guard=none)(s x:pG)
 (ho:o.op=.call {callee:=.builtin .append,args:=#[s,x],argTypes:=#[56,56]})
 (v:aB) (A:Option aT) (m c:Nat) {B:Nat} {g0:Option Nat} {w0:ak} {bs ys:List UInt8} (hs:a.eval s=v) (H:Ow B g0 w0 v bs w) {C:Nat} (hx:a.eval x=.a A m c) (hr:fP w C A m ys)
 (hlen:bs.a+m<=1000000000)
 (h:∀A' n' c' w',Ow B g0 w0 (.a A' n' c') (bs++ys) w'->Ow B v.f w (.a A' n' c') (bs++ys) w'->K (a.put o.Y (.a A' n' c')) w') :
 if fB o (yielded ops a.tmps)=true then nu ah o a w K Q else E:=by
 have hw:fB o (yielded ops a.tmps)=true:=by simp[fB,hgd]
 rw[if_pos hw];exact awZ s x ho hs H hx hr hlen h
def TwP(w:ak)(bs:List UInt8)(e:kZ)(w':ak):Prop:=∃A,e=.a (.a A 2 2)/\Ow w.a.j none w (.a A 2 2) bs w'/\aM w.a.j w w'
theorem aaf{w:ak}{g k B:Nat}{f:Nat->aB}{l:List UInt8}(h:w.rowIs g 5 k f)(hl:l.a=k)(hk:k<=1000)(hB:B<=g)(hf:∀j,j<k->f j=bv (l.c j 0)):w.c B 5 1 (.a (some ⟨g,0,none⟩) k k) k (l.map bv):=by
 obtain⟨c,hc,hs,hg⟩:=h;refine⟨by simp[hl],.b ⟨g,k,c,rfl,hB,hc,av _,by unfold maxLen;omega,by omega,?_⟩⟩;apply iJ;intro j;by_cases hj:j<k
 ·rw[gZ (by omega),Array.getElem?_toList,hg j hj,hf j hj]
  simp[au,hl,hj]
 ·rw[aS (by simp;omega),aS (by simp[hl];omega)]
theorem wE(n:Nat)(hn:n<=65535)(w:ak):aQ ah 184 #[.b .u64 n,.b .a 2,.e true] w (TwP w (iN n 2 true)):=by
 refine(aod n 2 (by omega) (by omega) true w).g ?_;rintro e w' ⟨rfl,hr,hb⟩;have ho:=aaf (B:=w.a.j) (l:=iN n 2 true) hr (uT _ _ _) (by omega) (av _) (fun j hj=>rfl);refine⟨_,rfl,⟨by rw[uT];exact ho,⟨hb.os,hb.tape,hb.output,hb.j,fun k hk _=>hb.block k hk⟩,.b ⟨_,rfl,av _⟩,av _,fun k hk=>by cases hk⟩,hb⟩
theorem arj{B B':Nat}{w1 w w':ak}{v:aB}{bs:List UInt8}(h:Ow B' none w v bs w')(h1:B<=B')(hb:aM w'.a.j w' w1):Ow B v.f w1 v bs w1:=Ow.iY (iH (jq h.vC hb) h1) (aO (aO h1 h.j) hb.j)
theorem Da{B n c:Nat}{w1 w w':ak}{A:Option aT}{bs:List UInt8}(h:Ow B none w (.a A n c) bs w')(hb:aM w'.a.j w' w1):fP w1 w1.a.j A n bs:=by
 have h2:=jq h.vC hb;obtain⟨A',c',e⟩:=h.Ch;injection e with e1 e2 e3
 subst e2;exact fP.iY h2
theorem MB{W W':ak}(h:aM W.drew.a.j W.drew W'):aM W.a.j W W':=⟨h.os,h.tape,h.output,h.j,h.block⟩
theorem ao5{w w1 w2:ak}{g0:Option Nat}{v':aB}{bs:List UInt8}{c0:Array aB}(h:Ow (w.a.j+1) g0 w1 v' bs w2)(hB:aM w.a.j w w1)(hT:dL w1 w.a.j c0):
 (∃A n c,v'=.a A n c/\w2.c w.a.j 5 1 (.a A n c) n (bs.map bv)/\aM w.a.j w w2)/\dL w2 w.a.j c0:=by
 obtain⟨A,c,rfl⟩:=h.Ch;have hb:=h.S;exact⟨⟨A,_,c,rfl,iH h.vC (Lp _),hB.trans (hb.g (Lp _))⟩,hT.S hb (mG _)⟩
def Bt(n:Nat)(ps:Array (Nat×aB)):xk aB:=bI 56 n ps
@[go_sem ↓]theorem aw9(n:Nat)(ps:Array (Nat×aB)):bI 56 n ps=Bt n ps:=rfl
@[go_sem]theorem ata(w:ak)(a:Int):(Bt 1 #[(0,.b .b a)]).I ah w=.ok (.a (some ⟨w.a.j,0,none⟩) 1 1) (w.alloc (.D #[.b .b a] 5)):=by
 obtain⟨i0,hi0,hz0,hz1,hz2⟩:=zy;simp[Bt,bI,dJ cB,zeroValue,sizeOf,typeInfo,hi0,hz0,hz1,fu,newRow,bW,ae6]
theorem Ej(w:ak)(b:UInt8)(a:Int)(ha:a=(b.e:Int)):fP (w.alloc (.D #[.b .b a] 5)) (w.a.j+1) (some ⟨w.a.j,0,none⟩) 1 [b]:=by
 subst ha;refine⟨rfl,fun _=>⟨_,rfl,by simp,fun j u hu=>?_⟩⟩;rw[iD,bl];have:=mR w #[.b .b (b.e:Int)] 5 j;rw[this];simpa[bv]using hu
theorem Tu.rdS{W:ak}{q:Nat}{t:Tu}(h:dL W q t.ay):fP W W.a.j (some ⟨q,1,none⟩) 16 t.h.b.a:=by
 refine⟨by simp,fun _=>⟨_,rfl,h.lt,fun j u hu=>?_⟩⟩;have hj:j<16:=by
  rcases aZ j 16 with hj|hj
  ·exact hj
  ·rw[aS (by simp;omega)]at hu;cases hu
 rw[iD,h.K.1,uE 1 j,Tu.Mt t (j+1) (by omega),fq.DZ _ j hj,<-hu];simp[au,hj]
theorem Tu.rdD{W:ak}{q:Nat}{t:Tu}(h:dL W q t.ay):fP W W.a.j (some ⟨q,18,none⟩) 16 t.Y.b.a:=by
 refine⟨by simp,fun _=>⟨_,rfl,h.lt,fun j u hu=>?_⟩⟩;have hj:j<16:=by
  rcases aZ j 16 with hj|hj
  ·exact hj
  ·rw[aS (by simp;omega)]at hu;cases hu
 rw[iD,h.K.1,show 18+j=(j+1)+17 by omega,Tu.Kq t (j+1) (by omega),fq.DZ _ j hj,<-hu];simp[au,hj]
def J7(w:ak)(bs:List UInt8)(e:kZ)(w':ak):Prop:=∃A n c,e=.a (.a A n c)/\n=bs.a/\w'.c w.a.j 5 1 (.a A n c) n (bs.map bv)/\aM w.a.j w w'
def aw'(w:ak)(q:Nat)(c:Array aB)(bs:List UInt8)(e:kZ)(w':ak):Prop:=∃A n c2,e=.a (.a A n c2)/\n=bs.a/\w'.c w.a.j 5 1 (.a A n c2) n (bs.map bv)/\aM w.a.j w w'/\dL w' q c
theorem acD(t:Tu)(f p:UInt8)(hf:f=if t.h.h then 6 else 4)(hp:p=aJ t.aP.e)(l:List UInt8)(hl:l=iN t.kT.e 2 true++iN t.jP.e 2 true):[[f],t.h.b.a,t.Y.b.a,[p],l].flatten=Lv t:=by
 subst hf hp hl;simp[Lv]
theorem ao6(t:Tu):(Lv t).a=38:=by simp[Lv,uT]
def wX(t:Tu):Prop:=(0<=t.aP/\t.aP<=255)/\(0<=t.kT/\t.kT<=65535)/\(0<=t.jP/\t.jP<=65535)
theorem aBV(W w0:ak)(q:Nat)(t:Tu)(f p:UInt8)(fi pi:Int)(A:Option aT)(n c:Nat)(l:List UInt8)(hf:f=if t.h.h then 6 else 4)(hp:p=aJ t.aP.e)(hl:l=iN t.kT.e 2 true++iN t.jP.e 2 true)
 (hfi:fi=(f.e:Int)) (hpi:pi=(p.e:Int)) (hB:dL W q t.ay) (hr:fP W W.a.j A n l) (hn:n=4) (h0:aM w0.a.j w0 W) :
 aQ ah 181 #[.a (some ⟨W.a.j+1+1,0,none⟩) 5 5] (((W.alloc (.D #[.b .b fi] 5)).alloc (.D #[.b .b pi] 5)).alloc (.D (yQ [⟨some ⟨W.a.j,0,none⟩,1,1⟩,⟨some ⟨q,1,none⟩,16,16⟩,⟨some ⟨q,18,none⟩,16,16⟩,⟨some ⟨W.a.j+1,0,none⟩,1,1⟩,⟨A,n,c⟩]) 56)) (aw' w0 q t.ay (Lv t)):=by
 have e1:(W.alloc (.D #[.b .b fi] 5)).a.j=W.a.j+1:=by simp
 have e2:((W.alloc (.D #[.b .b fi] 5)).alloc (.D #[.b .b pi] 5)).a.j=W.a.j+1+1:=by simp
 have up:∀{A:Option aT} {n:Nat} {l:List UInt8},fP W W.a.j A n l->fP ((W.alloc (.D #[.b .b fi] 5)).alloc (.D #[.b .b pi] 5)) ((W.alloc (.D #[.b .b fi] 5)).alloc (.D #[.b .b pi] 5)).a.j A n l:=fun h=>
  ((h.alloc (av _) _).alloc (by rw[e1];omega) _).lu (by rw[e2];omega)
 have h1:=((Ej W f fi hfi).alloc (by rw[e1];omega) (.D #[.b .b pi] 5)).lu (show W.a.j+1<=((W.alloc (.D #[.b .b fi] 5)).alloc (.D #[.b .b pi] 5)).a.j by rw[e2];omega);have h4:=(Ej (W.alloc (.D #[.b .b fi] 5)) p pi hpi).lu (show _<=((W.alloc (.D #[.b .b fi] 5)).alloc (.D #[.b .b pi] 5)).a.j by rw[e2,e1];omega);rw[e1]at h4;have:=Br [⟨some ⟨W.a.j,0,none⟩,1,1⟩,⟨some ⟨q,1,none⟩,16,16⟩,⟨some ⟨q,18,none⟩,16,16⟩,⟨some ⟨W.a.j+1,0,none⟩,1,1⟩,⟨A,n,c⟩] [[f],t.h.b.a,t.Y.b.a,[p],l] 56 5 _ rfl (.cons h1 (.cons (up (Tu.rdS hB)) (.cons (up (Tu.rdD hB)) (.cons h4 (.cons (up hr) .nil))))) (by omega) (by simp[yF,hn]);rw[e2,acD t f p hf hp l hl]at this;refine this.g ?_;rintro e w' ⟨A',m,c',rfl,hm,_,ho,hb⟩;have hsz:=h0.j;have hWb:=(((aG W.a.j W).alloc (av _) _).alloc (by simp) _).trans (hb.g (by omega));exact⟨A',m,c',rfl,hm,iH ho (by omega),jh h0 hWb,hB.go hWb⟩
theorem aBW(W w0:ak)(q:Nat)(t:Tu)(f p:UInt8)(fi pi:Int)(A:Option aT)(n c:Nat)(l:List UInt8)(hf:f=if t.h.h then 6 else 4)(hp:p=aJ t.aP.e)(hl:l=iN t.kT.e 2 true++iN t.jP.e 2 true)
 (hfi:fi=(f.e:Int)) (hpi:pi=(p.e:Int)) (hB:dL W q t.ay) (hr:fP W W.a.j A n l) (hn:n=4) (h0:aM w0.a.j w0 W) :
 aQ ah 181 #[.a (some ⟨W.a.j+1+1,0,none⟩) 5 5] (((W.alloc (.D #[.b .b pi] 5)).alloc (.D #[.b .b fi] 5)).alloc (.D (yQ [⟨some ⟨W.a.j+1,0,none⟩,1,1⟩,⟨some ⟨q,1,none⟩,16,16⟩,⟨some ⟨q,18,none⟩,16,16⟩,⟨some ⟨W.a.j,0,none⟩,1,1⟩,⟨A,n,c⟩]) 56)) (aw' w0 q t.ay (Lv t)):=by
 have e1:(W.alloc (.D #[.b .b pi] 5)).a.j=W.a.j+1:=by simp
 have e2:((W.alloc (.D #[.b .b pi] 5)).alloc (.D #[.b .b fi] 5)).a.j=W.a.j+1+1:=by simp
 have up:∀{A:Option aT} {n:Nat} {l:List UInt8},fP W W.a.j A n l->fP ((W.alloc (.D #[.b .b pi] 5)).alloc (.D #[.b .b fi] 5)) ((W.alloc (.D #[.b .b pi] 5)).alloc (.D #[.b .b fi] 5)).a.j A n l:=fun h=>
  ((h.alloc (av _) _).alloc (by rw[e1];omega) _).lu (by rw[e2];omega)
 have h4:=((Ej W p pi hpi).alloc (by rw[e1];omega) (.D #[.b .b fi] 5)).lu (show W.a.j+1<=((W.alloc (.D #[.b .b pi] 5)).alloc (.D #[.b .b fi] 5)).a.j by rw[e2];omega);have h1:=(Ej (W.alloc (.D #[.b .b pi] 5)) f fi hfi).lu (show _<=((W.alloc (.D #[.b .b pi] 5)).alloc (.D #[.b .b fi] 5)).a.j by rw[e2,e1];omega);rw[e1]at h1;have:=Br [⟨some ⟨W.a.j+1,0,none⟩,1,1⟩,⟨some ⟨q,1,none⟩,16,16⟩,⟨some ⟨q,18,none⟩,16,16⟩,⟨some ⟨W.a.j,0,none⟩,1,1⟩,⟨A,n,c⟩] [[f],t.h.b.a,t.Y.b.a,[p],l] 56 5 _ rfl (.cons h1 (.cons (up (Tu.rdS hB)) (.cons (up (Tu.rdD hB)) (.cons h4 (.cons (up hr) .nil))))) (by omega) (by simp[yF,hn]);rw[e2,acD t f p hf hp l hl]at this;refine this.g ?_;rintro e w' ⟨A',m,c',rfl,hm,_,ho,hb⟩;have hsz:=h0.j;have hWb:=(((aG W.a.j W).alloc (av _) _).alloc (by simp) _).trans (hb.g (by omega));exact⟨A',m,c',rfl,hm,iH ho (by omega),jh h0 hWb,hB.go hWb⟩
theorem aag(t:Tu)(ht:wX t)(w:ak):aQ ah 98 #[.d t.ay] w (J7 w (Lv t)):=by
 obtain⟨⟨p1,p2⟩,⟨s1,s2⟩,d1,d2⟩:=ht;have T0:=ab (dL.new w t.ay 81);have B0:=ab ((aG w.a.j w).alloc (av _) (.D t.ay 81));obtain⟨w1,hw1⟩:=dw (w.alloc (.D t.ay 81));obtain⟨sn,hsn⟩:∃sn:Nat,t.kT=(sn:Int):=⟨t.kT.e,by omega⟩
 obtain⟨dn,hdn⟩:∃dn:Nat,t.jP=(dn:Int):=⟨t.jP.e,by omega⟩
 have PS:=ab (fun W=>wE sn (by omega) W);have PD:=ab (fun W=>wE dn (by omega) W);have cs:jo.wrap t.kT=(sn:Int):=by rw[jR];omega
 have cd:jo.wrap t.jP=(dn:Int):=by rw[jR];omega
 have cp:aW.wrap t.aP=t.aP:=by rw[Gz];omega
 obtain⟨f,hf⟩:∃f:UInt8,f=if t.h.h then 6 else 4:=⟨_,rfl⟩
 have HL:=ab (show iN sn 2 true++iN dn 2 true=iN t.kT.e 2 true++iN t.jP.e 2 true by rw[show sn=t.kT.e by omega,show dn=t.jP.e by omega]);have HPI:=ab (show t.aP=((aJ t.aP.e).e:Int)by rw[dig _ (by omega)];omega);obtain⟨fi,hfi⟩:∃fi:Int,fi=(f.e:Int):=⟨_,rfl⟩
 have KS:=ab (show∀W',dL W' w.a.j t.ay->W'.b ⟨w.a.j,35,none⟩=some (.b .a t.kT)/\W'.b ⟨w.a.j,36,none⟩=some (.b .a t.jP)from fun W' h=>⟨by rw[h.K.1];exact Tu.aeZ t,by rw[h.K.1];exact Tu.ZO t⟩);have KP:=ab (show∀W',dL W' w.a.j t.ay->W'.b ⟨w.a.j,34,none⟩=some (.b .a t.aP)from fun W' h=>by rw[h.K.1];exact Tu.Uy t);have CA:=ab (fun W A n c (hB:dL W w.a.j t.ay) (hr:fP W W.a.j A n (iN sn 2 true++iN dn 2 true)) (hn:n=4) (h0:aM w.a.j w W)=>aBV W w w.a.j t f _ fi t.aP A n c _ hf rfl HL.i hfi HPI.i hB hr hn h0);have CB:=ab (fun W A n c (hB:dL W w.a.j t.ay) (hr:fP W W.a.j A n (iN sn 2 true++iN dn 2 true)) (hn:n=4) (h0:aM w.a.j w W)=>aBW W w w.a.j t f _ fi t.aP A n c _ hf rfl HL.i hfi HPI.i hB hr hn h0);have HFI:=ab (show fi=if t.h.h then 6 else 4 by rw[hfi,hf];cases t.h.h<;>rfl);rw[<-hw1]at T0 B0;have hb1:w.a.j<w1.a.j:=by rw[hw1];simp
 have LB0:=ab (show w.a.j+1<=w1.drew.a.j from hb1);have LB1:=ab (show∀W,aM w1.drew.a.j w1.drew W->w.a.j+1<=W.a.j from fun W h=>aO hb1 h.j);have H4:=ab (show(iN sn 2 true).a+2<=1000000000 by rw[uT];omega);clear hf hfi hsn hdn p1 p2 s1 s2 d1 d2;obtain⟨j4,aBY⟩:∃b,t.h.h=b:=⟨_,rfl⟩
 rw[aBY]at HFI;subst hw1;cases j4
 all_goals
  have axb:=HFI.i;simp only[jF,if_false,if_true]at axb;subst axb;clear HFI;go_enter Tryz.func98,Tryz.ntmps98;go_wp2_with fail;go_cut [4]from 8 to 16 (fun s4 wx=>∃A n c,s4=.a A n c/\wx.c w.a.j 5 1 (.a A n c) n ((iN sn 2 true++iN dn 2 true).map bv)/\aM w.a.j w wx/\dL wx w.a.j t.ay)
  case first=>
   go_region_held_law (fun W'=>W'.b ⟨w.a.j,35,none⟩=some (.b .a t.kT)/\W'.b ⟨w.a.j,36,none⟩=some (.b .a t.jP))
    (first|exact KS.i _ T0.i.drew|exact KS.i _ Ta.i|exact KS.i _ Tb.i|exact KS.i _ Tc.i|exact KS.i _ Td.i|exact KS.i _ Tz.i|go_keep)
    (first|(go_at_call 184;(with_reducible refine(PS.i _).g ?_);rintro e wa ⟨Awa,rfl,ho,hb⟩;have Oa:=ab ho;have Ta:=ab (T0.i.drew.go hb);have Ba:=ab (jh B0.i (MB hb));clear ho hb)|(go_at_call 184;(with_reducible refine(PD.i _).g ?_);rintro e wb ⟨Awb,rfl,ho,hb⟩;have Ob:=ab ho;have Tb:=ab (T0.i.drew.go hb);have Bb:=ab (jh B0.i (MB hb));have Lb:=ab (LB1.i _ hb);clear ho hb)|(go_at_call 184;(with_reducible refine(PD.i _).g ?_);rintro e wc2 ⟨aBZ,rfl,ho,hb⟩;have Tc:=ab (Ta.i.go hb);have Bc:=ab (jh Ba.i hb);have Q1:=ab (arj Oa.i LB0.i hb);have Q2:=ab (Da ho (aG _ _));clear ho hb)|(go_at_call 184;(with_reducible refine(PS.i _).g ?_);rintro e wd ⟨Awd,rfl,ho,hb⟩;have Td:=ab (Tb.i.go hb);have Bd:=ab (jh Bb.i hb);have Q3:=ab (arj ho Lb.i (aG _ _));have Q4:=ab (Da Ob.i hb);clear ho hb)|(refine Mx (o:=⟨some 16,_,_,_,_,_⟩) rfl (.tmp 11) (.tmp 15) rfl (.a Awd 2 2) Awb 2 2 rfl Q3.i rfl Q4.i H4.i ?_;intro A3 n3 c3 w3 h2 h3;have Tz:=ab (ao5 h2 Bd.i Td.i).2;have Oz:=ab (ao5 h2 Bd.i Td.i).1;clear h2 h3)|(refine Mx (o:=⟨some 16,_,_,_,_,_⟩) rfl (.tmp 11) (.tmp 15) rfl (.a Awa 2 2) aBZ 2 2 rfl Q1.i rfl Q2.i H4.i ?_;intro A3 n3 c3 w3 h2 h3;have Tz:=ab (ao5 h2 Bc.i Tc.i).2;have Oz:=ab (ao5 h2 Bc.i Tc.i).1;clear h2 h3))
   all_goals
    go_wp2_with fail;go_meet
    case rel=>obtain⟨A9,n9,c9,e9,ho9,hb9⟩:=Oz.i;exact⟨A9,n9,c9,e9,ho9,hb9,Tz.i⟩
  case rest=>
   obtain⟨A,n,c,rfl,ho,hb,hT⟩:=hcut;have hn4:n=4:=by have:=ho.1;rw[bT,aR,uT,uT]at this;omega
   subst hn4;have HT:=ab hT;have HB:=ab hb;have HR:=ab (fP.iY ho);clear ho hb hT;go_wp2_with fail;have CA1:=CA.i wc.drew A 4 c HT.i.drew HR.i rfl HB.i.drew;have CB1:=CB.i wc.drew A 4 c HT.i.drew HR.i rfl HB.i.drew;simp only[show wc.drew.a.j=wc.a.j from rfl,show∀(w:ak) ob,w.drew.alloc ob=(w.alloc ob).drew from fun _ _=>rfl]at CA1 CB1;have CA2:=ab CA1;have CB2:=ab CB1;clear CA1 CB1;go_region_held_law (fun W'=>W'.b ⟨w.a.j,34,none⟩=some (.b .a t.aP))
    (first|exact KP.i _ HT.i.drew|exact KP.i _ (HT.i.drew.alloc _)|exact KP.i _ ((HT.i.drew.alloc _).alloc _)|exact KP.i _ (((HT.i.drew.alloc _).alloc _).alloc _)|exact KP.i _ FX.i|go_keep)
    (first|(go_at_call 181;(with_reducible refine CA2.i.g ?_);rintro e w2 ⟨A2,n2,c2,rfl,hn2,ho2,hb2,hx2⟩;have FX:=ab hx2;have FN:=ab hn2;have FO:=ab ho2;have FB:=ab hb2;clear hn2 ho2 hb2 hx2)|(go_at_call 181;(with_reducible refine CB2.i.g ?_);rintro e w2 ⟨A2,n2,c2,rfl,hn2,ho2,hb2,hx2⟩;have FX:=ab hx2;have FN:=ab hn2;have FO:=ab ho2;have FB:=ab hb2;clear hn2 ho2 hb2 hx2))
   all_goals
    go_wp2_with fail;go_ret;exact⟨_,_,_,rfl,FN.i,FO.i,FB.i⟩
theorem ae8(l:List UInt8):iN (oC l) l.a true=l:=by
 simp[iN,Qs]
theorem UF(l:List UInt8)(k:Nat)(h:l.a=k):iN (oC l) k true=l:=by rw[<-h];exact ae8 l
theorem acE{n m k:Nat}(hn:n<2^(8*k))(hm:m<2^(8*k))(h:iN n k true=iN m k true):n=m:=by
 have h1:vU n k=vU m k:=by
  have:=congrArg List.reverse h;simpa[iN]using this
 have h2:∀i,i<k->Ht n i=Ht m i:=fun i hi=>by
  have:=congrArg (fun l:List UInt8=>l[i]?) h1;simpa[vU,hi]using this
 have h3:=abF k h2;rw[fK hn,fK hm]at h3;exact h3
theorem UG(l:List UInt8):oC l<2^(8*l.a):=by
 have:=Jr l;rw[Nat.pow_mul];exact this
theorem ae9{n k:Nat}(hn:n<2^(8*k)):oC (iN n k true)=n:=by
 have hl:(iN n k true).a=k:=uT _ _ _;have h:=UF (iN n k true) k hl;have h2:=UG (iN n k true);rw[hl]at h2;exact acE h2 hn h
theorem OD(l t:List UInt8)(k:Nat)(h:l.a=k):Gm k (some (l++t))=(l,some t):=by
 subst h;simp[Gm]
theorem OE{k:Nat}{s:RS}{l t:List UInt8}(h:Gm k s=(l,some t)):s=some (l++t)/\l.a=k:=by
 cases s with
 | none=>simp[Gm]at h
 | some b=>
   unfold Gm at h;simp only at h;split at h
   ·rename_i hk
    injection h with h1 h2
    injection h2 with h2
    subst h1 h2;exact⟨by rw[iG],by rw[List.length_take];omega⟩
   ·injection h with h1 h2;cases h2
theorem MC(n k:Nat)(t:List UInt8)(hn:n<2^(8*k)):abJ k (some (iN n k true++t))=(n,some t):=by
 unfold abJ;rw[OD (iN n k true) t k (uT _ _ _)];simp only[ae9 hn]
theorem ME{k n:Nat}{s:RS}{t:List UInt8}(h:abJ k s=(n,some t)):s=some (iN n k true++t)/\n<2^(8*k):=by
 unfold abJ at h;injection h with h1 h2
 have h3:Gm k s=((Gm k s).1,some t):=by rw[<-h2]
 obtain⟨h4,h5⟩:=OE h3;refine⟨?_,?_⟩
 ·rw[<-h1,UF _ k h5];exact h4
 ·have:=UG (Gm k s).1
  rw[h5]at this;rw[<-h1];exact this
theorem agW(n:Nat)(hn:n<256):iN n 1 true=[aJ n]:=by
 simp[iN,vU,Ht]
theorem alK{n:Nat}(v:Vector UInt8 n):pY n v.a=v:=by
 apply Vector.ext;intro i hi;simp[pY,hi]
theorem acG{n:Nat}(l:List UInt8)(h:l.a=n):(pY n l).a=l:=by
 apply List.ext_getElem
 ·simp[h]
 ·intro i h1 h2
  simp[pY,h2]
structure Cdc{α:Type}(one:RS->(α×Bool)×RS)(lay:α->List UInt8)(ok:α->Prop):Prop where
 fwd:∀x t,ok x->one (some (lay x++t))=((x,true),some t)
 inv:∀s x t,one s=((x,true),some t)->ok x->s=some (lay x++t)
theorem AO{α:Type}{p:α×RS}{t:List UInt8}(h:p.2=some t):p=(p.1,some t):=Prod.ext rfl h
def XM(t:Tu):Prop:=t.h.h=t.Y.h/\(0<=t.aP/\t.aP<=255)/\(0<=t.kT/\t.kT<=65535)/\0<=t.jP/\t.jP<=65535
theorem alL:Cdc tuO Lv XM where
 fwd:=by
  intro x t ⟨h0,⟨h1,h2⟩,⟨h3,h4⟩,h5,h6⟩;have hf:∀b:Bool,(if b then 6 else 4:Nat)<2^(8*1):=by intro b;cases b<;>decide
  have e0:Lv x++t=iN (if x.h.h then 6 else 4) 1 true++(x.h.b.a++(x.Y.b.a++(iN x.aP.e 1 true++(iN x.kT.e 2 true++(iN x.jP.e 2 true++t))))):=by
   have:∀b:Bool,iN (if b then 6 else 4) 1 true=[if b then 6 else 4]:=by intro b;cases b<;>decide
   rw[agW x.aP.e (by omega),this];simp[Lv,dB]
  rw[e0];unfold tuO;simp only[MC _ 1 _ (hf _),OD x.h.b.a _ 16 (by simp),OD x.Y.b.a _ 16 (by simp),MC x.aP.e 1 _ (by omega),MC x.kT.e 2 _ (by omega),MC x.jP.e 2 _ (by omega),alK];have g:∀b:Bool,(((if b then 6 else 4:Nat)==6)=b)/\(b||((if b then 6 else 4:Nat)==4))=true:=by intro b;cases b<;>decide
  simp only[(g _).1,(g _).2];congr 2;obtain⟨⟨a,b⟩,⟨c,d⟩,p,q,r⟩:=x;simp only at h0 h1 h2 h3 h4 h5 h6 ⊢;subst h0;congr<;>omega
 inv:=by
  intro s x t h _;unfold tuO at h;simp only[Prod.mk.injEq]at h;obtain⟨⟨h1,c⟩,h2⟩:=h;obtain⟨i6,_⟩:=ME (AO h2);obtain⟨i5,_⟩:=ME (AO i6);obtain⟨i4,l4⟩:=ME (AO i5);obtain⟨i3,l3⟩:=OE (AO i4);obtain⟨i2,l2⟩:=OE (AO i3);obtain⟨i1,_⟩:=ME (AO i2);rw[i1,<-h1];congr 1;unfold Lv;have:∀n:Nat,((n==6)||(n==4))=true->iN n 1 true=[if(n==6)=true then 6 else 4]:=by
   intro n hn;simp at hn;rcases hn with rfl|rfl<;>decide
  rw[this _ c];have e4:∀n:Nat,n<2^(8*1)->[aJ n]=iN n 1 true:=fun n hn=>(agW n (by omega)).symm
  simp only[dB,acG _ l2,acG _ l3,Int.toNat_natCast,e4 _ l4]
theorem ao7(n m:Int):Wx n m=true↔0<=n/\n<=m:=by simp[Wx]
theorem MF{x:Tu}(h:Fe x=true):XM x:=by
 unfold Fe at h;simp only[bf,decide_eq_true_eq,ao7]at h;exact⟨h.1.1.1.1.1,h.1.1.2,h.1.2,h.2⟩
structure Ly(B:Nat)(L:List (Nat×Array aB))(w0 W:ak)(v:aB)(bs:List UInt8):Prop where
 o:Ow B none w0 v bs W
 G:∀p∈L,dL W p.1 p.2/\v.f≠some p.1
section
variable {B:Nat} {L:List (Nat×Array aB)} {w0 W W':ak} {v v':aB} {bs bs':List UInt8}
theorem Ly.go(h:Ly B L w0 W v bs)(hb:aM W.a.j W W'):Ly B L w0 W' v bs:=⟨h.o.go hb,fun p hp=>⟨(h.G p hp).1.go hb,(h.G p hp).2⟩⟩
theorem Ly.alloc(h:Ly B L w0 W v bs)(ob:Obj):Ly B L w0 (W.alloc ob) v bs:=h.go ((aG _ _).alloc (av _) ob)
theorem Ly.drew(h:Ly B L w0 W v bs):Ly B L w0 W.drew v bs:=⟨h.o.drew,fun p hp=>⟨(h.G p hp).1.drew,(h.G p hp).2⟩⟩
theorem Ly.new(h:Ly B L w0 W v bs)(c:Array aB)(t:bK):Ly B ((W.a.j,c)::L) w0 (W.alloc (.D c t)) v bs:=
 ⟨(h.alloc _).o,fun p hp=>by
   rcases bC.1 hp with rfl|hp
   ·exact⟨dL.new W c t,fun e=>absurd (h.o.lt e) (Nat.lt_irrefl _)⟩
   ·exact(h.alloc _).G p hp⟩
theorem Ly.add(h:Ly B L w0 W v bs){q:Nat}{c:Array aB}(hb:dL W q c)(hq:v.f≠some q):Ly B ((q,c)::L) w0 W v bs:=
 ⟨h.o,fun p hp=>by
  rcases bC.1 hp with rfl|hp
  ·exact⟨hb,hq⟩
  ·exact h.G p hp⟩
theorem Ly.step(h:Ly B L w0 W v bs)(k:Ow B v.f W v' bs' W'):Ly B L w0 W' v' bs':=
 ⟨h.o.step k,fun p hp=>⟨k.box (h.G p hp).1 (fun e=>(h.G p hp).2 e.symm),by
  rcases k.vY with e|⟨j,e,e2⟩
  ·rw[e];exact(h.G p hp).2
  ·rw[e];intro e3;injection e3 with e3;have:=(h.G p hp).1.lt;omega⟩⟩
theorem Ly.NH{p:Nat×Array aB}(h:Ly B (p::L) w0 W v bs):Ly B L w0 W v bs:=⟨h.o,fun q hq=>h.G q (iX _ hq)⟩
theorem Ly.X{q:Nat}{c:Array aB}(h:Ly B ((q,c)::L) w0 W v bs):dL W q c:=(h.G (q,c) (by simp)).1
theorem Ly.b1{p:Nat×Array aB}{q:Nat}{c:Array aB}(h:Ly B (p::(q,c)::L) w0 W v bs):dL W q c:=h.NH.X
theorem Ly.b2{p p2:Nat×Array aB}{q:Nat}{c:Array aB}(h:Ly B (p::p2::(q,c)::L) w0 W v bs):dL W q c:=h.NH.NH.X
end
theorem RdI.box{W:ak}{q o:Nat}{l:List Int}{c:Array aB}(h:dL W q c)(hc:∀j,j<l.a->c[o+j]? = some (.b .a (l.c j 0))):RdI W W.a.j (some ⟨q,o,none⟩) l.a l:=by
 have hf:(l.h fun x=>(FC x).a)=l.map (aI .a):=by
  clear hc
  induction l with
  | nil=>rfl
  | cons z l ih=>simp only[iK,ih];rfl
 refine⟨rfl,⟨by rw[hf];simp,fun _=>⟨_,rfl,h.lt,?_⟩⟩,fun a h _=>by injection h with h;rw[<-h]⟩;intro j v hv;rw[hf]at hv;have hj:j<l.a:=by
  rcases aZ j l.a with hj|hj
  ·exact hj
  ·rw[aS (by simpa using hj)]at hv;cases hv
 rw[iD,h.K.1,hc j hj,<-hv];simp[au,hj]
theorem XO(l:List Int)(j:Nat)(hj:j<l.a):(sN l)[0+j]? = some (.b .a (l.c j 0)):=by
 simp[sN,au,hj]
theorem Ly.nil{w:ak}:Ly w.a.j [] w w (.a none 0 0) []:=⟨Ow.nil w,fun p hp=>by cases hp⟩
def aah{α:Type}(t e:bK)(f:α->Array aB)(sz:Nat):Prop:=∃(i:nJ)(z:aB),ah.k t=some (.a e)/\ah.l e=some i/\i.zero=some z/\i.j=sz/\z.D.j=sz/\0<sz/\i.bytes<=1000/\(∀x,(f x).j=sz)/\∀x,(f x).all (·.h)=true
structure Rz{α:Type}(f:α->Array aB)(sz:Nat)(e:bK)(L:List (Nat×Array aB))(w0 W:ak)(v:aB)(l:List α):Prop where
 vC:W.c w0.a.j e sz v l.a (l.h fun x=>(f x).a)
 R:aM w0.a.j w0 W
 G:∀p∈L,dL W p.1 p.2/\v.f≠some p.1
section
variable {α:Type} {f:α->Array aB} {sz:Nat} {e t:bK} {L:List (Nat×Array aB)} {w0 W W':ak} {v v':aB} {l ys:List α}
theorem Rz.nil(w:ak):Rz f sz e [] w w (.a none 0 0) []:=⟨fE _ _ _ _,aG _ _,fun p hp=>by cases hp⟩
theorem Rz.go(h:Rz f sz e L w0 W v l)(hb:aM W.a.j W W'):Rz f sz e L w0 W' v l:=⟨jq h.vC hb,jh h.R hb,fun p hp=>⟨(h.G p hp).1.go hb,(h.G p hp).2⟩⟩
theorem Rz.alloc(h:Rz f sz e L w0 W v l)(ob:Obj):Rz f sz e L w0 (W.alloc ob) v l:=h.go ((aG _ _).alloc (av _) ob)
theorem Rz.drew(h:Rz f sz e L w0 W v l):Rz f sz e L w0 W.drew v l:=⟨h.vC,h.R.drew,fun p hp=>⟨(h.G p hp).1.drew,(h.G p hp).2⟩⟩
theorem Rz.lt(h:Rz f sz e L w0 W v l){k:Nat}(hk:v.f=some k):w0.a.j<=k/\k<W.a.j:=h.vC.lt k hk
theorem Rz.new(h:Rz f sz e L w0 W v l)(c:Array aB)(t:bK):Rz f sz e ((W.a.j,c)::L) w0 (W.alloc (.D c t)) v l:=
 ⟨(h.alloc _).vC,(h.alloc _).R,fun p hp=>by
   rcases bC.1 hp with rfl|hp
   ·exact⟨dL.new W c t,fun e=>absurd (h.lt e).2 (Nat.lt_irrefl _)⟩
   ·exact(h.alloc _).G p hp⟩
theorem Rz.NH{p:Nat×Array aB}(h:Rz f sz e (p::L) w0 W v l):Rz f sz e L w0 W v l:=⟨h.vC,h.R,fun q hq=>h.G q (iX _ hq)⟩
theorem Rz.X{q:Nat}{c:Array aB}(h:Rz f sz e ((q,c)::L) w0 W v l):dL W q c:=(h.G (q,c) (by simp)).1
theorem Rz.b1{p:Nat×Array aB}{q:Nat}{c:Array aB}(h:Rz f sz e (p::(q,c)::L) w0 W v l):dL W q c:=h.NH.X
theorem Rz.Ch(h:Rz f sz e L w0 W v l):∃A c,v=.a A l.a c:=by obtain⟨A,c,e,_⟩:=jS h.vC;exact⟨A,c,e⟩
theorem Rz.rd{A:Option aT}{n c:Nat}(h:Rz f sz e L w0 W (.a A n c) l):iR f sz W W.a.j A n l:=by
 obtain⟨A2,c2,e2⟩:=h.Ch;injection e2 with e3 e4 e5
 subst e3 e4 e5;exact iR.iY rfl h.vC
theorem Rz.len{A:Option aT}{n c:Nat}(h:Rz f sz e L w0 W (.a A n c) l):n=l.a:=h.rd.1.symm
theorem Rz.grown(h:Rz f sz e L w0 W v l)(hg:W.d W' v.f)(h1:W'.c w0.a.j e sz v' ys.a (ys.h fun x=>(f x).a))(h2:v'.f=v.f\/v'.f=some W.a.j):Rz f sz e L w0 W' v' ys:=by
 refine⟨h1,⟨hg.os.trans h.R.os,hg.tape.trans h.R.tape,hg.output.trans h.R.output,aO h.R.j hg.j,fun k hk=>(hg.block k (eO hk h.R.j) (fun e=>by have:=(h.lt e.symm).1;omega)).trans (h.R.block k hk)⟩,fun p hp=>⟨(h.G p hp).1.grown hg (fun e=>(h.G p hp).2 e.symm),?_⟩⟩;rcases h2 with e|e
 ·rw[e];exact(h.G p hp).2
 ·rw[e];intro e3;injection e3 with e3;have:=(h.G p hp).1.lt;omega
theorem ark(T:aah t e f sz){o:iV}{a:qQ}{K:qQ->ak->Prop}{Q:zO->qQ->ak->Prop}(s x:pG)
 (ho:o.op=.call {callee:=.builtin .append,args:=#[s,x],argTypes:=#[t,t]}) (hs:a.eval s=v) (H:Rz f sz e L w0 W v l) {C:Nat} {A:Option aT} {m c:Nat} (hx:a.eval x=.a A m c) (hr:iR f sz W C A m ys)
 (hlen:l.a+m<=1000000)
 (h:∀A' n' c' w',Rz f sz e L w0 w' (.a A' n' c') (l++ys)->W.d w' v.f->K (a.put o.Y (.a A' n' c')) w'):o.wp ah a W K Q:=by
 obtain⟨i,z,ht,hi,hz,h1,h2,h3,h4,h5,h6⟩:=T;have hm:=hr.1;refine Jq W s x t ho w0.a.j e i z sz i.bytes ht hi hz h1 rfl h2 h3 v l.a _ hs H.vC C A m c _ hx hr.2.1 (DX f h6 ys) (by unfold maxLen;omega) (aO (Nat.mul_le_mul hlen h4) (by omega)) H.R.j ?_;intro v1 w1 k1 k2 k3;rw[abr,<-hm,<-aR]at k1;have hk:=H.grown k2 k1 k3;obtain⟨A',c',rfl⟩:=hk.Ch;exact h A' _ c' w1 hk k2
theorem OG(T:aah t e f sz){ops:Array iV}{rest:List iV}{o:iV}{a:qQ}{Q:zO->qQ->ak->Prop}(hgd:o.guard=none)(s x:pG)
 (ho:o.op=.call {callee:=.builtin .append,args:=#[s,x],argTypes:=#[t,t]}) (hs:a.eval s=v) (H:Rz f sz e L w0 W v l) {C:Nat} {A:Option aT} {m c:Nat} (hx:a.eval x=.a A m c) (hr:iR f sz W C A m ys)
 (hlen:l.a+m<=1000000)
 (h:∀A' n' c' w',Rz f sz e L w0 w' (.a A' n' c') (l++ys)->W.d w' v.f->wpList ah ops Q rest (a.put o.Y (.a A' n' c')) w'):wpList ah ops Q (o::rest) a W:=
 sV hgd fun _ hK=>ark T s x ho hs H hx hr hlen fun A' n' c' w' h2 h3=>hK _ _ (h A' n' c' w' h2 h3)
theorem ao8(T:aah t e f sz){ops:Array iV}{o:iV}{a:qQ}{K:qQ->ak->Prop}{Q:zO->qQ->ak->Prop}{E:Prop}(hgd:o.guard=none)(s x:pG)
 (ho:o.op=.call {callee:=.builtin .append,args:=#[s,x],argTypes:=#[t,t]}) (hs:a.eval s=v) (H:Rz f sz e L w0 W v l) {C:Nat} {A:Option aT} {m c:Nat} (hx:a.eval x=.a A m c) (hr:iR f sz W C A m ys)
 (hlen:l.a+m<=1000000)
 (h:∀A' n' c' w',Rz f sz e L w0 w' (.a A' n' c') (l++ys)->W.d w' v.f->K (a.put o.Y (.a A' n' c')) w'):if fB o (yielded ops a.tmps)=true then nu ah o a W K Q else E:=by
 have hw:fB o (yielded ops a.tmps)=true:=by simp[fB,hgd]
 rw[if_pos hw];exact ark T s x ho hs H hx hr hlen h
end
theorem aiw(l:List Bk)(hs:DN l)(s:List UInt8)(v:Int)(A:Option aT)(n c:Nat)(w:ak)(hR:iR Bk.ay 27 w w.a.j A n l)(hn:n<=100000)(K:Bool)(g:Bk)(h1:rP l s=K)(h2:pO l s=g):
 aQ ah 33 #[.d #[.b .a v,.a A n c],.string (bU s)] w (gU w (.J #[.d g.ay,.e K])):=by
 obtain rfl:=hR.1;subst h1 h2;exact AZ l hs s v A c w hR (by omega)
theorem Ly.rd{B:Nat}{L:List (Nat×Array aB)}{w0 W:ak}{A:Option aT}{n c:Nat}{bs:List UInt8}(h:Ly B L w0 W (.a A n c) bs):fP W W.a.j A n bs:=by
 obtain⟨A2,c2,e2⟩:=h.o.Ch;injection e2 with e3 e4 e5
 subst e3 e4 e5;exact fP.iY h.o.vC
theorem MG(d:Nat)(l m:List Int)(W:ak):∀is:List Nat,(∀i∈is,i<l.a/\i<m.a)->(JX (d+1) 3 1 (sN l) (sN m) is).I ah W=.ok (is.all fun i=>l.c i 0==m.c i 0) W
 | [],_=>by simp[JX]
 | i::is,h=>by
   have hi:=h i (by simp);have ih:=MG d l m W is (fun j hj=>h j (by simp[hj]));have p1:∀l:List Int,i<l.a->(part 3 (sN l) (i*1)).I ah W=.ok (.b .a (l.c i 0)) W:=fun l hl=>
    o9 (by simp only[gM]) (by rw[gB];have:=XO l i hl;rwa [bl]at this) W
   simp only[JX,Sem.run_bind,p1 l hi.1,p1 m hi.2,gH,ET,List.all_cons];cases hb:(l.c i 0==m.c i 0)
   ·simp
   ·simpa using ih
theorem XP(v:Vector Int 11):yE v=sN v.a:=rfl
theorem ao9(a b:Vector Int 11):((dV 11).all fun i=>a.a.c i 0==b.a.c i 0)=decide (a=b):=by
 rw[bZ];simp only[gF,eu,beq_iff_eq,decide_eq_true_eq];constructor
 ·intro h
  apply Vector.ext;intro i hi;have:=h i hi;simpa[au,hi]using this
 ·rintro rfl i _
  rfl
theorem ae'(a b:Vector Int 11)(d:Nat)(W:ak):(ji (d+2) 35 (.d (yE a)) (.d (yE b))).I ah W=.ok (decide (a=b)) W:=by
 obtain⟨i0,hi0,_,_⟩:=Rt;rw[run_equalIn_array W (d+1) _ _ EH hi0,show ah.cellsOf 3=1 by kernel_rfl,XP,XP,MG d _ _ W _ (fun i hi=>by simp at hi⊢;exact hi),ao9]
@[go_sem ↓]theorem aB3(a b:Vector Int 11)(W:ak):(ji 10000 35 (.d (yE a)) (.d (yE b))).I ah W=.ok (decide (a=b)) W:=ae' a b 9998 W
theorem aix:ah.k 81=some (.d (ah.fieldsOf 81)):=by
 simp only[jQ,jX]
theorem ao':∃f1 f2 f3 f4 f5:nU,(ah.fieldsOf 81).a=[f1,f2,f3,f4,f5]/\(f1.E ≠ "_" /\ f2.E ≠ "_" /\ f3.E ≠ "_" /\ f4.E ≠ "_" /\ f5.E ≠ "_")/\(f1.p=27/\f1.Z=0)/\(f2.p=27/\f2.Z=17)/\(f3.p=3/\f3.Z=34)/\(f4.p=3/\f4.Z=35)/\(f5.p=3/\f5.Z=36):=by
 refine⟨_,_,_,_,_,by simp only[jQ,jX];rfl,⟨?_,?_,?_,?_,?_⟩,⟨rfl,rfl⟩,⟨rfl,rfl⟩,⟨rfl,rfl⟩,⟨rfl,rfl⟩,⟨rfl,rfl⟩⟩<;>decide
theorem XQ(x y:Tu)(d:Nat)(W:ak):(ji (d+4) 81 (.d x.ay) (.d y.ay)).I ah W=.ok (decide (x=y)) W:=by
 rw[zq W (d+3) _ _ _ aix Tryz.stoodInHeld81];obtain⟨f1,f2,f3,f4,f5,hl,⟨n1,n2,n3,n4,n5⟩,⟨t1,o1⟩,⟨t2,o2⟩,⟨t3,o3⟩,⟨t4,o4⟩,⟨t5,o5⟩⟩:=ao';rw[hl];have p1:∀z:Tu,(part f1.p z.ay f1.Z).I ah W=.ok (.d z.h.ay) W:=fun z=>by
  rw[t1,o1,DW (n:=17) (by simp only[eY]) (by kernel_rfl) z.ay 0 W,Tu.ait]
 have p2:∀z:Tu,(part f2.p z.ay f2.Z).I ah W=.ok (.d z.Y.ay) W:=fun z=>by
  rw[t2,o2,DW (n:=17) (by simp only[eY]) (by kernel_rfl) z.ay 17 W,show 17+17=34 from rfl,Tu.aiu]
 have p3:∀z:Tu,(part f3.p z.ay f3.Z).I ah W=.ok (.b .a z.aP) W:=fun z=>by
  rw[t3,o3];exact o9 (by simp only[gM]) (Tu.Uy z) W
 have p4:∀z:Tu,(part f4.p z.ay f4.Z).I ah W=.ok (.b .a z.kT) W:=fun z=>by
  rw[t4,o4];exact o9 (by simp only[gM]) (Tu.aeZ z) W
 have p5:∀z:Tu,(part f5.p z.ay f5.Z).I ah W=.ok (.b .a z.jP) W:=fun z=>by
  rw[t5,o5];exact o9 (by simp only[gM]) (Tu.ZO z) W
 rw[show decide (x=y)=(decide (x.h=y.h)&&(decide (x.Y=y.Y)&&((x.aP==y.aP)&&((x.kT==y.kT)&&((x.jP==y.jP)&&true)))))by
  rw[bZ];cases x;cases y;simp]
 exact iO _ _ _ _ _ n1 W _ _ _ _ (p1 x) (p1 y) (by rw[t1];exact Fg _ _ d W)
  (iO _ _ _ _ _ n2 W _ _ _ _ (p2 x) (p2 y) (by rw[t2];exact Fg _ _ d W)
  (iO _ _ _ _ _ n3 W _ _ _ _ (p3 x) (p3 y) (by rw[t3];exact ET _ _ _ W)
  (iO _ _ _ _ _ n4 W _ _ _ _ (p4 x) (p4 y) (by rw[t4];exact ET _ _ _ W)
  (iO _ _ _ _ _ n5 W _ _ _ _ (p5 x) (p5 y) (by rw[t5];exact ET _ _ _ W) (by simp[wC])))))
@[go_sem ↓]theorem aFt(x y:Tu)(W:ak):(ji 10000 81 (.d x.ay) (.d y.ay)).I ah W=.ok (decide (x=y)) W:=XQ x y 9996 W
theorem aiy:ah.k 86=some (.d (ah.fieldsOf 86)):=by
 simp only[jQ,mV]
theorem apa:∃f1 f2 f3 f4 f5:nU,(ah.fieldsOf 86).a=[f1,f2,f3,f4,f5]/\(f1.E ≠ "_" /\ f2.E ≠ "_" /\ f3.E ≠ "_" /\ f4.E ≠ "_" /\ f5.E ≠ "_")/\(f1.p=81/\f1.Z=0)/\(f2.p=9/\f2.Z=37)/\(f3.p=3/\f3.Z=38)/\(f4.p=3/\f4.Z=39)/\(f5.p=3/\f5.Z=40):=by
 refine⟨_,_,_,_,_,by simp only[jQ,mV];rfl,⟨?_,?_,?_,?_,?_⟩,⟨rfl,rfl⟩,⟨rfl,rfl⟩,⟨rfl,rfl⟩,⟨rfl,rfl⟩,⟨rfl,rfl⟩⟩<;>decide
theorem aiz(x y:Fw)(d:Nat)(W:ak):(ji (d+5) 86 (.d x.ay) (.d y.ay)).I ah W=.ok (decide (x=y)) W:=by
 rw[zq W (d+4) _ _ _ aiy Tryz.stoodInHeld86];obtain⟨f1,f2,f3,f4,f5,hl,⟨n1,n2,n3,n4,n5⟩,⟨t1,o1⟩,⟨t2,o2⟩,⟨t3,o3⟩,⟨t4,o4⟩,⟨t5,o5⟩⟩:=apa;rw[hl];have p1:∀z:Fw,(part f1.p z.ay f1.Z).I ah W=.ok (.d z.key.ay) W:=fun z=>by
  rw[t1,o1,DW (n:=37) (by simp only[jX]) (by kernel_rfl) z.ay 0 W,bl,Fw.P5]
 have p2:∀z:Fw,(part f2.p z.ay f2.Z).I ah W=.ok (.string (bU z.E)) W:=fun z=>by
  rw[t2,o2];exact o9 (by simp only[Tryz.underlying9]) (Fw.ae0 z) W
 have p3:∀z:Fw,(part f3.p z.ay f3.Z).I ah W=.ok (.b .a z.vN) W:=fun z=>by
  rw[t3,o3];exact o9 (by simp only[gM]) (Fw.ae1 z) W
 have p4:∀z:Fw,(part f4.p z.ay f4.Z).I ah W=.ok (.b .a z.seen) W:=fun z=>by
  rw[t4,o4];exact o9 (by simp only[gM]) (Fw.ae2 z) W
 have p5:∀z:Fw,(part f5.p z.ay f5.Z).I ah W=.ok (.b .a z.no) W:=fun z=>by
  rw[t5,o5];exact o9 (by simp only[gM]) (Fw.ZV z) W
 rw[show decide (x=y)=(decide (x.key=y.key)&&((x.E==y.E)&&((x.vN==y.vN)&&((x.seen==y.seen)&&((x.no==y.no)&&true)))))by
  rw[bZ];cases x;cases y;simp]
 exact iO _ _ _ _ _ n1 W _ _ _ _ (p1 x) (p1 y) (by rw[t1];exact XQ _ _ d W)
  (iO _ _ _ _ _ n2 W _ _ _ _ (p2 x) (p2 y) (by rw[t2];exact NU _ _ _ W)
  (iO _ _ _ _ _ n3 W _ _ _ _ (p3 x) (p3 y) (by rw[t3];exact ET _ _ _ W)
  (iO _ _ _ _ _ n4 W _ _ _ _ (p4 x) (p4 y) (by rw[t4];exact ET _ _ _ W)
  (iO _ _ _ _ _ n5 W _ _ _ _ (p5 x) (p5 y) (by rw[t5];exact ET _ _ _ W) (by simp[wC])))))
@[go_sem ↓]theorem aFu(x y:Fw)(W:ak):(ji 10000 86 (.d x.ay) (.d y.ay)).I ah W=.ok (decide (x=y)) W:=aiz x y 9995 W
def afa(s t:oM):Bool:=Tp s.mQ s.rZ t.mQ t.rZ&&decide (s.h=t.h)&&decide (s.G=t.G)&&(s.gL==t.gL)&&(s.no==t.no)&&decide (s.Y=t.Y)
theorem apb(l m:List Hl)(A B:Option aT)(n k c d:Nat)(w:ak)(hR:RdH w w.a.j A n l)(hT:RdH w w.a.j B k m)(hn:n<=4611686018427387904)(hk:k<=4611686018427387904):
 aQ ah 54 #[.a A n c,.a B k d] w (gU w (.e (decide (l=m)))):=by
 have HR:=ab hR;have HT:=ab hT;have HN:=ab hR.1;have HK:=ab hT.1;clear hR hT;by_cases hlm:n=k;rotate_left
 ·have hne:((n:Int) != (k:Int))=true:=by rw[bne_iff_ne];omega
  have HF:=ab (show decide (l=m)=false from decide_eq_false (fun e=>hlm (by rw[<-HN.i,<-HK.i,e])));clear hlm;go_enter Tryz.func54,Tryz.ntmps54;go_wp2;go_ret;exact⟨by rw[HF.i];rfl,aG _ _⟩
 subst hlm;have hbn:((n:Int) != (n:Int))=false:=by simp
 go_enter Tryz.func54,Tryz.ntmps54;go_wp2;go_loopw [13] (fun s5 wr=>∃i:Nat,i<=n/\s5=.b .a i/\l.d i=m.d i/\aM w.a.j w wr) (fun s5 _=>n-(intOf s5).e)
 case atStart=>exact⟨0,by omega,rfl,rfl,aG _ _⟩
 case round=>
  obtain⟨i,hin,rfl,hall,hb⟩:=hrel;have HA:=ab hall;have HB:=ab hb;clear hall hb;by_cases hlt:i<n
  ·have hi:(i:Int)<n:=by omega
   obtain⟨b,o,rfl,hbb,hh,hc,_,_⟩:=(HR.i.S HB.i).hl hlt;obtain⟨b2,o2,rfl,abM,hh2,hc2,_,_⟩:=(HT.i.S HB.i).hl hlt;obtain⟨x,hx⟩:=dw (l.c i lC);obtain⟨y,hy⟩:=dw (m.c i lC);rw[<-hx]at hc;rw[<-hy]at hc2;have HX:=ab hx;have HY:=ab hy;clear hx hy hbb abM;by_cases hq:x=y
   ·have he:ahC x y=true:=by rw[agq];simpa using hq
    have HS:=ab (show l.d (i+1)=m.d (i+1)by
     rw[<-oD lC l i (by rw[HN.i];exact hlt),<-oD lC m i (by rw[HK.i];exact hlt),HA.i,<-HX.i,<-HY.i,hq])
    clear hq;go_wp2;go_quiet (fail);go_wp2;go_roundw
    case rel=>exact⟨i+1,by omega,by go_num,HS.i,fH HB.i _⟩
    case measure=>simp[intOf]<;>omega
   ·have he:ahC x y=false:=by rw[agq];simpa using hq
    have HF:=ab (show decide (l=m)=false from decide_eq_false (fun e=>hq (by rw[HX.i,HY.i,e])));clear hq;go_wp2;go_quiet (fail);go_wp2;go_ret;exact⟨by rw[HF.i];rfl,fH HB.i _⟩
  ·obtain rfl:i=n:=by omega
   have hd:decide ((i:Int)<i)=false:=by simp
   have HT2:=ab (show decide (l=m)=true from decide_eq_true (by
    have:=HA.i
    rwa [aK (by rw[HN.i];omega),aK (by rw[HK.i];omega)]at this))
   go_wp2;go_ret;exact⟨by rw[HT2.i];rfl,HB.i⟩
theorem apc(l m:List Fw)(A B:Option aT)(n k c d:Nat)(w:ak)(hR:iR Fw.ay 41 w w.a.j A n l)(hT:iR Fw.ay 41 w w.a.j B k m)(hn:n<=4611686018427387904)(hk:k<=4611686018427387904):
 aQ ah 55 #[.a A n c,.a B k d] w (gU w (.e (decide (l=m)))):=by
 have HR:=ab hR;have HT:=ab hT;have HN:=ab hR.1;have HK:=ab hT.1;clear hR hT;by_cases hlm:n=k;rotate_left
 ·have hne:((n:Int) != (k:Int))=true:=by rw[bne_iff_ne];omega
  have HF:=ab (show decide (l=m)=false from decide_eq_false (fun e=>hlm (by rw[<-HN.i,<-HK.i,e])));clear hlm;go_enter Tryz.func55,Tryz.ntmps55;go_wp2;go_ret;exact⟨by rw[HF.i];rfl,aG _ _⟩
 subst hlm;have hbn:((n:Int) != (n:Int))=false:=by simp
 go_enter Tryz.func55,Tryz.ntmps55;go_wp2;go_loopw [13] (fun s5 wr=>∃i:Nat,i<=n/\s5=.b .a i/\l.d i=m.d i/\aM w.a.j w wr) (fun s5 _=>n-(intOf s5).e)
 case atStart=>exact⟨0,by omega,rfl,rfl,aG _ _⟩
 case round=>
  obtain⟨i,hin,rfl,hall,hb⟩:=hrel;have HA:=ab hall;have HB:=ab hb;clear hall hb;by_cases hlt:i<n
  ·have hi:(i:Int)<n:=by omega
   obtain⟨b,o,rfl,hbb,hh,hc⟩:=iR.fw (HR.i.S HB.i) hlt;obtain⟨b2,o2,rfl,abM,hh2,hc2⟩:=iR.fw (HT.i.S HB.i) hlt;obtain⟨x,hx⟩:=dw (l.c i kN);obtain⟨y,hy⟩:=dw (m.c i kN);rw[<-hx]at hc;rw[<-hy]at hc2;have HX:=ab hx;have HY:=ab hy;clear hx hy hbb abM;by_cases hq:x=y
   ·have he:decide (x=y)=true:=by simpa using hq
    have HS:=ab (show l.d (i+1)=m.d (i+1)by
     rw[<-oD kN l i (by rw[HN.i];exact hlt),<-oD kN m i (by rw[HK.i];exact hlt),HA.i,<-HX.i,<-HY.i,hq])
    clear hq;go_wp2;go_quiet (fail);go_wp2;go_roundw
    case rel=>exact⟨i+1,by omega,by go_num,HS.i,fH HB.i _⟩
    case measure=>simp[intOf]<;>omega
   ·have he:decide (x=y)=false:=by simpa using hq
    have HF:=ab (show decide (l=m)=false from decide_eq_false (fun e=>hq (by rw[HX.i,HY.i,e])));clear hq;go_wp2;go_quiet (fail);go_wp2;go_ret;exact⟨by rw[HF.i];rfl,fH HB.i _⟩
  ·obtain rfl:i=n:=by omega
   have hd:decide ((i:Int)<i)=false:=by simp
   have HT2:=ab (show decide (l=m)=true from decide_eq_true (by
    have:=HA.i
    rwa [aK (by rw[HN.i];omega),aK (by rw[HK.i];omega)]at this))
   go_wp2;go_ret;exact⟨by rw[HT2.i];rfl,HB.i⟩
theorem aiA(l m:List Bk)(hf:∀x∈l,x.rE)(hg:∀x∈m,x.rE)(v v':Int)(A B:Option aT)(n n' c d:Nat)(w:ak)(hR:iR Bk.ay 27 w w.a.j A n l)(hT:iR Bk.ay 27 w w.a.j B n' m)(hn:n<=4611686018427387903)(hm:n'<=4611686018427387903)(K:Bool)(hK:Tp v l v' m=K):
 aQ ah 53 #[.d #[.b .a v,.a A n c],.d #[.b .a v',.a B n' d]] w (gU w (.e K)):=by
 rw[<-ah2 v v' hf hg]at hK;subst hK;obtain rfl:=hR.1;obtain rfl:=hT.1;exact Y1 l m v v' A B c d w hR hT (by omega) (by omega)
theorem acI(s:oM):afa s s=true:=by unfold afa;simp[aer]
theorem afb(x y:Sh)(s t:oM)(w:ak)(h:StR w w.a.j x s)(k:StR w w.a.j y t)(J:Bool)(hJ:afa s t=J):
 aQ ah 17 #[.d x.ay,.d y.ay] w (gU w (.e J)):=by
 obtain⟨v1,⟨bA,bn,bc⟩,⟨gA,gn,gc⟩,⟨fA,fn,fc⟩,tk,nn,ct⟩:=x;obtain⟨v2,⟨bA2,bn2,bc2⟩,⟨gA2,gn2,gc2⟩,⟨fA2,fn2,fc2⟩,tk2,nn2,ct2⟩:=y;obtain rfl:v1=s.mQ:=h.mQ;obtain rfl:tk=s.gL:=h.gL;obtain rfl:nn=s.no:=h.no;obtain rfl:ct=s.Y:=h.Y;obtain rfl:v2=t.mQ:=k.mQ;obtain rfl:tk2=t.gL:=k.gL;obtain rfl:nn2=t.no:=k.no;obtain rfl:ct2=t.Y:=k.Y;obtain⟨W1,hW1⟩:=dw ((w.alloc (.D (Sh.mk s.mQ ⟨bA,bn,bc⟩ ⟨gA,gn,gc⟩ ⟨fA,fn,fc⟩ s.gL s.no s.Y).ay 37)).alloc (.D (Sh.mk t.mQ ⟨bA2,bn2,bc2⟩ ⟨gA2,gn2,gc2⟩ ⟨fA2,fn2,fc2⟩ t.gL t.no t.Y).ay 37));have HB0:=ab (show aM w.a.j w W1 by rw[hW1];exact((aG w.a.j w).alloc (av _) _).alloc (by simp) _);have B0:=ab (show dL W1 w.a.j (Sh.mk s.mQ ⟨bA,bn,bc⟩ ⟨gA,gn,gc⟩ ⟨fA,fn,fc⟩ s.gL s.no s.Y).ay by rw[hW1];exact(dL.new w _ _).alloc _);have C0:=ab (show dL W1 (w.a.j+1) (Sh.mk t.mQ ⟨bA2,bn2,bc2⟩ ⟨gA2,gn2,gc2⟩ ⟨fA2,fn2,fc2⟩ t.gL t.no t.Y).ay by rw[hW1];exact dL.Sq w _ _ _);have HS:=ab h;have HT:=ab k;obtain⟨x1,x2,x3,x4⟩:=B0.i.K;have hl0:=B0.i.lt;obtain⟨y1,y2,y3,y4⟩:=C0.i.K;have hl1:=C0.i.lt;obtain⟨K1,hK1⟩:∃K,Tp s.mQ s.rZ t.mQ t.rZ=K:=⟨_,rfl⟩
 obtain⟨K2,hK2⟩:∃K,decide (s.h=t.h)=K:=⟨_,rfl⟩
 obtain⟨K3,hK3⟩:∃K,decide (s.G=t.G)=K:=⟨_,rfl⟩
 have HJ:=ab (show J=(K1&&K2&&K3&&(s.gL==t.gL)&&(s.no==t.no)&&decide (s.Y=t.Y))by rw[<-hJ,<-hK1,<-hK2,<-hK3];rfl);have P1:=ab (aiA s.rZ t.rZ h.rE k.rE s.mQ t.mQ bA bA2 bn bn2 bc bc2 W1 ((h.go HB0.i).b) ((k.go HB0.i).b) h.nb k.nb K1 hK1);have P2:=ab (fun W (hb:aM w.a.j w W)=>apb s.h t.h gA gA2 gn gn2 gc gc2 W (HS.i.h.go hb) (HT.i.h.go hb) (qo HS.i.nh) (qo HT.i.nh));have P3:=ab (fun W (hb:aM w.a.j w W)=>apc s.G t.G fA fA2 fn fn2 fc fc2 W (HS.i.f.go hb) (HT.i.f.go hb) (qo HS.i.nf) (qo HT.i.nf));rw[hK2]at P2;rw[hK3]at P3;clear h k hK1 hK2 hK3 hJ;subst hW1;go_enter Tryz.func17,Tryz.ntmps17;go_wp2_with fail
 (with_reducible refine P1.i.g ?_)
 rintro e w1 ⟨rfl,hb1⟩;have HB1:=ab (jh HB0.i hb1);have B1:=ab (B0.i.go hb1);have C1:=ab (C0.i.go hb1);clear hb1 x1 x2 x3 x4 hl0 y1 y2 y3 y4 hl1;obtain⟨x1,x2,x3,x4⟩:=B1.i.K;have hl0:=B1.i.lt;obtain⟨y1,y2,y3,y4⟩:=C1.i.K;have hl1:=C1.i.lt;cases K1
 ·go_wp2
  go_ret;exact⟨by rw[HJ.i];rfl,HB1.i⟩
 go_wp2_with fail
 (with_reducible refine(P2.i _ HB1.i).g ?_)
 rintro e w2 ⟨rfl,hb2⟩;have HB2:=ab (jh HB1.i hb2);have B2:=ab (B1.i.go hb2);have C2:=ab (C1.i.go hb2);clear hb2 x1 x2 x3 x4 hl0 y1 y2 y3 y4 hl1;obtain⟨x1,x2,x3,x4⟩:=B2.i.K;have hl0:=B2.i.lt;obtain⟨y1,y2,y3,y4⟩:=C2.i.K;have hl1:=C2.i.lt;cases K2
 ·go_wp2
  go_ret;exact⟨by rw[HJ.i];rfl,HB2.i⟩
 go_wp2_with fail
 (with_reducible refine(P3.i _ HB2.i).g ?_)
 rintro e w3 ⟨rfl,hb3⟩;have HB3:=ab (jh HB2.i hb3);have B3:=ab (B2.i.go hb3);have C3:=ab (C2.i.go hb3);clear hb3 x1 x2 x3 x4 hl0 y1 y2 y3 y4 hl1;obtain⟨x1,x2,x3,x4⟩:=B3.i.K;have hl0:=B3.i.lt;obtain⟨y1,y2,y3,y4⟩:=C3.i.K;have hl1:=C3.i.lt;cases K3
 ·go_wp2
  go_ret;exact⟨by rw[HJ.i];rfl,HB3.i⟩
 obtain⟨K4,hK4⟩:∃K,(s.gL==t.gL)=K:=⟨_,rfl⟩
 have HK4:=ab hK4;cases K4
 ·go_wp2
  go_ret;exact⟨by rw[HJ.i,HK4.i];rfl,HB3.i⟩
 obtain⟨K5,hK5⟩:∃K,(s.no==t.no)=K:=⟨_,rfl⟩
 have HK5:=ab hK5;cases K5
 ·go_wp2
  go_ret;exact⟨by rw[HJ.i,HK4.i,HK5.i];rfl,HB3.i⟩
 go_wp2;go_ret;exact⟨by rw[HJ.i,HK4.i,HK5.i];rfl,HB3.i⟩
section
theorem apd{a b:Tu}(ha:XM a)(hb:XM b)(h:Lv a=Lv b):a=b:=by
 have h1:=alL.fwd a [] ha;have h2:=alL.fwd b [] hb;rw[h,h2]at h1;injection h1 with h3 h4
 injection h3 with h5 h6
 exact h5.symm
theorem wK{f:Fw}(h:zR f=true):Fe f.key=true:=by
 unfold zR at h;simp only[bf]at h;exact h.1.1.1.1.1
def kP(a b:Fw):Bool:=if a.no=b.no then bP (Lv a.key) (Lv b.key)else decide (a.no<b.no)
theorem tK:Il kP:=by
 refine⟨fun x=>by simp[kP,sM],fun x y z h1 h2=>?_⟩;unfold kP at *;by_cases e1:x.no=y.no
 ·rw[if_pos e1]at h1
  by_cases e2:y.no=z.no
  ·rw[if_pos e2]at h2
   rw[if_pos (e1.trans e2)];exact xX _ _ _ h1 h2
  ·rw[if_neg e2]at h2
   rw[if_neg (by omega)];simp only[decide_eq_true_eq]at h2 ⊢;omega
 ·rw[if_neg e1]at h1
  simp only[decide_eq_true_eq]at h1;by_cases e2:y.no=z.no
  ·rw[if_neg (by omega)]
   simp only[decide_eq_true_eq];omega
  ·rw[if_neg e2]at h2
   simp only[decide_eq_true_eq]at h2;rw[if_neg (by omega)];simp only[decide_eq_true_eq];omega
theorem P7{a b:Fw}(ha:XM a.key)(hb:XM b.key)(hne:a.key≠b.key):kP a b=true\/kP b a=true:=by
 unfold kP;by_cases e:a.no=b.no
 ·rw[if_pos e,if_pos e.symm]
  cases h1:bP (Lv a.key) (Lv b.key)
  ·cases h2:bP (Lv b.key) (Lv a.key)
   ·exact absurd (apd ha hb (zH _ _ h1 h2)) hne
   ·exact .b rfl
  ·exact .a rfl
 ·rw[if_neg e,if_neg (jl e)]
  simp only[decide_eq_true_eq];omega
theorem aiB{a b:Fw}(h:a.no<b.no):kP b a=false/\kP a b=true:=by
 unfold kP;rw[if_neg (by omega),if_neg (by omega)];simp only[decide_eq_false_iff_not,decide_eq_true_eq];omega
def rV(k:Tu)(x:Fw):Bool:=decide (x.key=k)
def nL(l:List Fw)(k:Tu):Option Fw:=l.find? (rV k)
def yG(l:List Fw)(k:Tu):List Fw:=l.filter fun x=>!rV k x
def Bu(room:Int)(l:List Fw)(f:Fw):List Fw:=
 if zR f then(if(nL l f.key).isSome then ins kP f (yG l f.key)else if room<=l.a then ins kP f l.tail else ins kP f l)else l
def KY(now:Int)(kr:Vector Int 6)(l:List Fw):List Fw:=l.filter fun x=>!Dx x.vN x.seen now kr
structure wF(room:Int)(l:List Fw):Prop where
 asc:Zj kP l
 one:l.Pairwise fun x y=>x.key≠y.key
 ok:∀x∈l,zR x=true
 len:(l.a:Int)<=room
theorem wF.sub{room:Int}{l m:List Fw}(h:wF room l)(hs:m.Sublist l):wF room m:=
 ⟨h.asc.sub hs,h.one.sublist hs,fun x hx=>h.ok x (hs.subset hx),by have:=hs.length_le;have:=h.len;omega⟩
theorem wF.nil{room:Int}(h:0<=room):wF room []:=⟨List.Pairwise.nil,.nil,(fun x hx=>by cases hx),by simpa using h⟩
theorem vF{l:List Fw}{k:Tu}{x:Fw}(h:nL l k=some x):x∈l/\x.key=k:=by
 unfold nL at h;exact⟨List.mem_of_find?_eq_some h,by simpa[rV]using List.find?_some h⟩
theorem zf{l:List Fw}{k:Tu}(h:nL l k=none):∀x∈l,x.key≠k:=by
 unfold nL at h;rw[List.find?_eq_none]at h;intro x hx e;exact h x hx (by simp[rV,e])
theorem wF.UH{room:Int}{l:List Fw}(h:wF room l){x:Fw}(hx:x∈l):nL l x.key=some x:=by
 cases hf:nL l x.key with
 | none=>exact absurd rfl (zf hf x hx)
 | some y=>
   obtain⟨h1,h2⟩:=vF hf;obtain⟨i,hi,e1⟩:=kR.1 h1;obtain⟨j,hj,e2⟩:=kR.1 hx;have:=List.pairwise_iff_getElem.1 h.one;rcases Nat.lt_trichotomy i j with hij|hij|hij
   ·exact absurd (by rw[e1,e2,h2]) (this i j hi hj hij)
   ·subst hij;rw[<-e1,<-e2]
   ·exact absurd (by rw[e1,e2,h2]) (this j i hj hi hij)
theorem wF.ins{room:Int}{l:List Fw}(h:wF room l){f:Fw}(hf:zR f=true)(hn:∀x∈l,x.key≠f.key)(hl:(l.a:Int)+1<=room):wF room (ins kP f l):=by
 have p:=Bh (lt:=kP) f l;refine⟨agy tK h.asc (fun x hx=>P7 (MF (wK hf)) (MF (wK (h.ok x hx))) (jl (hn x hx))),?_,?_,?_⟩
 ·refine(p.pairwise_iff (fun{a b} (hab:a.key≠b.key)=>jl hab)).2 (gI.2 ⟨fun x hx=>jl (hn x hx),h.one⟩)
 ·intro x hx
  rcases bC.1 (p.subset hx)with rfl|hx
  ·exact hf
  ·exact h.ok x hx
 ·rw[p.t,bB]
  simpa using hl
theorem MH(l:List Fw)(k:Tu):(yG l k).Sublist l:=List.filter_sublist
theorem alM{l:List Fw}{k:Tu}:∀x∈yG l k,x.key≠k:=by
 intro x hx;have:=(kF.1 hx).2;simpa[rV]using this
theorem ape{l:List Fw}{k:Tu}(h:(nL l k).isSome=true):(yG l k).a+1<=l.a:=by
 obtain⟨x,hx⟩:=Option.isSome_iff_exists.1 h;obtain⟨h1,h2⟩:=vF hx;have:=List.length_filter_lt_length_iff_exists (l:=l) (p:=fun x=>!rV k x);exact this.2 ⟨x,h1,by simp[rV,h2]⟩
theorem wF.put{room:Int}{l:List Fw}(h:wF room l)(h0:1<=room)(f:Fw):wF room (Bu room l f):=by
 unfold Bu;split
 ·rename_i hf
  split
  ·rename_i hs
   have:=ape hs;have:=h.len;exact(h.sub (MH l f.key)).ins hf alM (by omega)
  ·rename_i hs
   have hno:∀x∈l,x.key≠f.key:=zf (by simpa using hs);split
   ·refine(h.sub (List.tail_sublist l)).ins hf (fun x hx=>hno x (List.mem_of_mem_tail hx)) ?_
    have:=h.len;rw[List.length_tail];omega
   ·exact h.ins hf hno (by omega)
 ·exact h
theorem wF.axe{room:Int}{l:List Fw}(h:wF room l)(now:Int)(kr:Vector Int 6):wF room (KY now kr l):=h.sub List.filter_sublist
structure TbR(hm:Tu->Nat)(s:List (Option Fw))(l:List Fw):Prop where
 tab:Tab Fw.key hm s
 Oj:(iq s).Perm l
variable {hm:Tu->Nat} {s:List (Option Fw)} {l:List Fw}
theorem TbR.mem(h:TbR hm s l){x:Fw}:x∈l↔∃i,i<s.a/\fD s i=some x:=(h.Oj.mem_iff.symm).trans Oi
theorem TbR.stop{room:Int}(h:TbR hm s l)(ho:wF room l){k:Tu}{d:Nat}(hd:Found hm Fw.key s k d):fD s ((hm k+d)%s.a)=nL l k:=by
 have hN:0<s.a:=by have:=hd.1;omega
 cases hf:nL l k with
 | none=>
   have hno:=zf hf;obtain⟨e,he,h1⟩:=h.tab.agx (k:=k) (fun j x hj hx=>hno x (h.mem.2 ⟨j,hj,hx⟩));rw[hd.GJ he];exact h1
 | some x=>
   obtain⟨h1,h2⟩:=vF hf;obtain⟨j,hj,hx⟩:=h.mem.1 h1;obtain⟨e,he,h3⟩:=h.tab.Zi hj hx h2;rw[hd.GJ he,h3];exact hx
theorem TbR.new{N:Nat}(hN:0<N)(h:∀k,hm k<N):TbR hm (dS N none) []:=⟨Tab.new hN h,by rw[TJ]⟩
theorem UJ{room:Int}(ho:wF room l){x:Fw}(hx:x∈l){m:List Fw}(hm':l.Perm (x::m)):m.Perm (yG l x.key):=by
 have h1:(l.filter fun y=>!rV x.key y).Perm ((x::m).filter fun y=>!rV x.key y):=hm'.filter _;have e:(x::m).filter (fun y=>!rV x.key y)=m:=by
  rw[List.filter_cons_of_neg (by simp[rV])];refine wO.2 (fun y hy=>?_);have:=(hm'.pairwise_iff (fun{a b:Fw} (hab:a.key≠b.key)=>jl hab)).1 ho.one;have:=(gI.1 this).1 y hy;simp[rV,jl this]
 rw[e]at h1;exact h1.symm
theorem TbR.put{room:Int}(h:TbR hm s l)(ho:wF room l){f:Fw}{d:Nat}(hd:Found hm Fw.key s f.key d)(hl:l.a+1<s.a)(m:List Fw)(hm':m.Perm (f::yG l f.key)):TbR hm (s.set ((hm f.key+d)%s.a) (some f)) m:=by
 have hN:0<s.a:=by omega
 have hj:(hm f.key+d)%s.a<s.a:=Nat.mod_lt _ hN;have hst:=h.stop ho hd;have hfull:=fun hlt=>(KQ s).1 hlt
 have hel:=h.Oj.t;cases hf:nL l f.key with
 | none=>
   rw[hf]at hst;have hc:yG l f.key=l:=wO.2 (fun x hx=>by have:=zf hf x hx;simp[rV,this]);have he:=KO s _ f hj hst;obtain⟨z,hz1,hz2⟩:=(KQ (s.set ((hm f.key+d)%s.a) (some f))).1 (by rw[he.t];simp;omega);rw[Fh _ _ _ _ hj]at hz2;split at hz2
   ·cases hz2
   rename_i hne;refine⟨h.tab.put hd (by simpa using hz1) hz2 (jl hne),he.trans (((h.Oj.cons f)).trans ?_)⟩;rw[hc]at hm';exact hm'.symm
 | some x=>
   rw[hf]at hst;obtain⟨h1,h2⟩:=vF hf;obtain⟨z,hz1,hz2⟩:=hfull (by omega);refine⟨h.tab.put hd hz1 hz2 (fun e=>by rw[e,hst]at hz2;cases hz2),?_⟩;have e1:=ze s _ f hj;have e2:=Oh s _ x hj hst;have e3:=UJ ho h1 (h.Oj.symm.trans e2);rw[h2]at e3;exact e1.trans ((e3.cons f).trans hm'.symm)
theorem aiC{room:Int}(h:TbR hm s l)(ho:wF room l):(iq s).foldl (least kP) none=l.head?:=by
 cases l with
 | nil=>
   have:=h.Oj.t;rw[gG]at this;rw[List.eq_nil_of_length_eq_zero this];rfl
 | cons m t=>
   rw[List.head?_cons];refine ab0 tK (iq s) none (.a (h.Oj.symm.subset (by simp))) (fun x hx=>?_) (fun y hy=>by cases hy);rcases bC.1 (h.Oj.subset hx)with rfl|hx
   ·exact .a rfl
   ·exact .b (ho.asc.aou hx)
theorem alN{room:Int}{x:Fw}{t:List Fw}(ho:wF room (x::t)):yG (x::t) x.key=t:=by
 unfold yG;rw[List.filter_cons_of_neg (by simp[rV])];refine wO.2 (fun y hy=>?_);have:=(gI.1 ho.one).1 y hy;simp[rV,jl this]
end
structure oN(T:bK)(n:Nat)(z:Array aB):Prop where
 row:∃d,ah.k T=some d/\d.isRow=true
 j:(ah.l T).map (·.j)=some n
 zero:(ah.l T).map (·.zero)=some (some (.d z))
 zs:z.j=n
def yH(T:bK)(v:aB):xk aB:=cu T v
def yR(T:bK)(v x:aB):xk Unit:=eF T v x
def uL(T:bK)(ps:Array (Nat×aB)):xk aB:=fI T ps
def gN(W:ak)(b o:Nat)(c:Array aB):ak:=W.setCells b o c.a
section
variable {T:bK} {n:Nat} {z:Array aB}
theorem oN.afd(K:oN T n z):∃i,ah.l T=some i/\i.j=n/\i.zero=some (.d z):=by
 have h1:=K.j;have h2:=K.zero;cases h:ah.l T with
 | none=>rw[h]at h1;cases h1
 | some i=>rw[h]at h1 h2;simp at h1 h2;exact⟨i,rfl,h1,h2⟩
theorem oN.ld(K:oN T n z)(W:ak)(b o:Nat)(h:xA W b o n):(yH T (.c (some ⟨b,o,none⟩))).I ah W=.ok (.d (dY W b o n)) W:=by
 obtain⟨d,h1,h2⟩:=K.row;exact j5 W b o n T d h1 h2 K.j h
theorem oN.stN(K:oN T n z)(W:ak)(c x:Array aB)(b:Nat)(hb:b=W.a.j)(hc:eD c=n)(hx:x.j=n)(h1:x.all (·.h)=true):(yR T (.c (some ⟨b,0,none⟩)) (.d x)).I ah (W.alloc (.D c T))=.ok () (W.alloc (.D x T)):=by
 subst hb;exact yV W _ c x (by rw[hx];exact K.j) (by rw[hx];exact hc) h1
theorem oN.st(K:oN T n z)(W:ak)(b o:Nat)(x:Array aB)(h:W.O b o n)(hx:x.j=n)(h1:x.all (·.h)=true):(yR T (.c (some ⟨b,o,none⟩)) (.d x)).I ah W=.ok () (gN W b o x):=
 DL W b o _ x (by rw[hx];exact h) (by rw[hx];exact K.j) h1
theorem oN.bd(K:oN T n z)(W:ak)(ps:Array (Nat×aB))(cells:Array aB)(fs:Array nU)(places:Array (Nat×Nat))(hu:ah.k T=some (.d fs))
 (hp:(iA (fun f=>Prod.mk f.Z <$> sizeOf f.p) fs:xk (Array (Nat×Nat))).I ah W=.ok places W) (hf:fu (places[·]?) z ps.a=some cells):(uL T ps).I ah W=.ok (.d cells) W:=by
 obtain⟨i,h1,h2,h3⟩:=K.afd;exact NT W T fs i z ps cells places hu h1 h3 hp hf
end
theorem kX{w W:ak}{B:Nat}(h:aM B w W)(b o:Nat)(x:Array aB)(hb:B<=b):aM B w (gN W b o x):=xO hb _ o W h
theorem lM{w W:ak}{g:Nat}(h:w.d W (some g))(o:Nat)(x:Array aB):w.d (gN W g o x) (some g):=Sy _ o W h
theorem dL.put{W:ak}{b:Nat}{c:Array aB}(h:dL W b c)(x:Array aB)(hx:x.j=c.j):dL (gN W b 0 x) b x:=h.akl x hx
theorem dL.gy{W:ak}{b b2 o:Nat}{c x:Array aB}(h:dL W b c)(hne:b≠b2):dL (gN W b2 o x) b c:=by
 have:∀(vs:List aB)(o:Nat)(W:ak),dL W b c->dL (W.setCells b2 o vs) b c:=by
  intro vs
  induction vs with
  | nil=>exact fun _ _ h=>h
  | cons v vs ih=>intro o W h;exact ih (o+1) _ (h.dM _ v (fun e=>hne e.symm))
 exact this _ _ _ h
def rF(place:Nat->Option (Nat×Nat)):Nat->List (Nat×aB)->Nat->Prop
 | off,[],n=>off=n
 | off,(i,v)::ps,n=>place i=some (off,v.D.j)/\rF place (off+v.D.j) ps n
def qO:List (Nat×aB)->Array aB
 | []=>#[]
 | (_,v)::ps=>v.D++qO ps
theorem UK(p r v:Array aB)(h:v.j<=r.j):sF (p++r) p.j v=(p++v)++r.m v.j r.j:=by
 apply dU;intro j;rw[DU];simp only[nW,aD,Array.getElem?_extract];split
 ·rename_i h1
  rw[if_pos (by omega),if_neg (by omega)]
 ·rename_i h1
  split
  ·rename_i h2
   rw[if_pos (by omega)]
  ·rename_i h2
   by_cases h3:j<p.j+v.j
   ·omega
   ·rw[if_neg h3]
    by_cases h4:j-p.j<r.j
    ·rw[if_pos (by omega)];congr 1;omega
    ·rw[if_neg (by omega),aU (by omega)]
theorem Rv(place:Nat->Option (Nat×Nat)):∀(ps:List (Nat×aB))(p r:Array aB),rF place p.j ps (p.j+r.j)->fu place (p++r) ps=some (p++qO ps)
 | [],p,r,h=>by
   have:r = #[]:=Array.eq_empty_of_size_eq_zero (by have h':p.j=p.j+r.j:=h;omega);subst this;simp[fu,qO]
 | (i,v)::ps,p,r,h=>by
   obtain⟨h1,h2⟩:=h;have hle:∀(ps:List (Nat×aB))(a b:Nat),rF place a ps b->a<=b:=by
    intro ps
    induction ps with
    | nil=>intro a b h;exact aX h
    | cons q ps ih=>intro a b h;have:=ih _ _ h.2;omega
   have hl:=hle _ _ _ h2;rw[DV place _ i p.j v.D.j v ps h1 rfl (by rw[nW];omega),UK p r v.D (by omega)];have:=Rv place ps (p++v.D) (r.m v.D.j r.j) (by
    rw[nW,jB]
    rwa [show p.j+v.D.j+(min r.j r.j-v.D.j)=p.j+r.j by omega])
   rw[this,qO,fQ]
theorem uU{place:Nat->Option (Nat×Nat)}{ps:List (Nat×aB)}{z c:Array aB}{n:Nat}(hz:z.j=n)(h:rF place 0 ps n)(hc:qO ps=c):fu place z ps=some c:=by
 have:=Rv place ps #[] z (by simpa[hz]using h);simpa[hc]using this
theorem oN.bd0{T:bK}{n:Nat}{z:Array aB}(K:oN T n z)(W:ak)(fs:Array nU)(hu:ah.k T=some (.d fs))(hp:∃places,(iA (fun f=>Prod.mk f.Z <$> sizeOf f.p) fs:xk (Array (Nat×Nat))).I ah W=.ok places W):(uL T #[]).I ah W=.ok (.d z) W:=by
 obtain⟨places,hp⟩:=hp;exact K.bd W _ _ fs places hu hp (by simp[fu])
theorem pR{c:Array aB}{n:Nat}(h:c.j=n):c.m 0 n=c:=by rw[<-h];simp
theorem tX{c:Array aB}{k m:Nat}(h:c.j<=k):c.m k m = #[]:=by apply Array.eq_empty_of_size_eq_zero;simp;omega
def Ar(v:Vector UInt8 6):Array aB:=(v.a.map bv).b
def iZ(v:Vector UInt8 16):Array aB:=(v.a.map bv).b
theorem gD(v:Vector UInt8 6):(Ar v).j=6:=by simp[Ar]
theorem dK(v:Vector UInt8 16):(iZ v).j=16:=by simp[iZ]
theorem jH(v:Vector Int 6):(J4 v).j=6:=by simp[J4]
theorem aai(v:Vector UInt8 6):(Ar v).all (·.h)=true:=by simp[Ar];intro x _;rfl
theorem apf(v:Vector Int 6):(J4 v).all (·.h)=true:=by simp[J4];intro x _;rfl
@[go_sem]theorem arl:eB #[bL false,aA,aA,aA,aA,aA,aA,aA,aA,aA,aA,aA,aA,aA,aA,aA,aA] 27=eB mY.ay 27:=rfl
@[go_sem]theorem avD:bY #[bL false,aA,aA,aA,aA,aA,aA,aA,aA,aA,aA,aA,aA,aA,aA,aA,aA]=bY mY.ay:=rfl
theorem aaj:oN 27 17 mY.ay:=⟨⟨_,eY,rfl⟩,by kernel_rfl,by kernel_rfl,fq.G _⟩
theorem kTu:oN 81 37 ael.ay:=⟨⟨_,jX,rfl⟩,by kernel_rfl,by kernel_rfl,Tu.G _⟩
@[go_sem ↓]theorem aFv(v x:aB):eF 27 v x=yR 27 v x:=rfl
@[go_sem]theorem az7(W:ak)(c:Array aB)(x:fq)(b:Nat)(hb:b=W.a.j)(hc:eD c=17):(yR 27 (.c (some ⟨b,0,none⟩)) (.d x.ay)).I ah (W.alloc (.D c 27))=.ok () (W.alloc (.D x.ay 27)):=aaj.stN W c x.ay b hb hc (fq.G x) (fq.cK x)
@[go_sem]theorem aCb(W:ak)(b o:Nat)(x:fq)(h:W.O b o 17):(yR 27 (.c (some ⟨b,o,none⟩)) (.d x.ay)).I ah W=.ok () (gN W b o x.ay):=aaj.st W b o x.ay h (fq.G x) (fq.cK x)
@[go_sem]theorem fq.all(x:fq):x.ay.m 0 17=x.ay:=pR (fq.G x)
theorem arn(x:aB)(b:Array aB)(j:Nat):(#[x]++b)[j+1]? = b[j]?:=by simp[aD]
section
variable {T:bK} {n:Nat} {z:Array aB} {fn:Func} {p u:Tmp} {W:ak} {b:Nat} {c:Array aB}
theorem oN.zh(K:oN T n z)(h:fn.results = #[.cell p T])(tmps:Array aB)(hp:tmps.c p undef=.c (some ⟨b,0,none⟩))(hb:dL W b c)(hc:c.j=n):(results fn tmps).I ah W=.ok (.d c) W:=by
 obtain⟨t,hb⟩:=hb;obtain⟨d,h1,h2⟩:=K.row;exact results_cell_row h tmps W b t c (0,0) d hp hb h1 (by cases d<;>simp_all[TypeDesc.isRow]) (by rw[hc];exact K.j)
theorem oN.qD(K:oN T n z)(h:fn.results = #[.cell p T,.tmp u])(tmps:Array aB)(hp:tmps.c p undef=.c (some ⟨b,0,none⟩))(hb:dL W b c)(hc:c.j=n):(results fn tmps).I ah W=.ok (.J #[.d c,tmps.c u undef]) W:=by
 obtain⟨_,_,h3,h4⟩:=hb.K;have hl:=K.ld W b 0 (by rw[h3 0 n (by unfold eD;omega)];trivial);rw[h4 0 n (by unfold eD;omega),bl,<-hc,Array.extract_size]at hl;unfold yH at hl;simp only[cu,Instr.sureAddr,Sem.run_bind,Sem.run_pure,gH]at hl;rw[results_cell_tmp h,hp];simp[asAddr,iE,hl]
end
structure Vp where
 h:fq
 aP:Int
 Y:Int
 UL:Bool
deriving DecidableEq
def Vp.ay(x:Vp):Array aB:=x.h.ay ++ #[.b .a x.aP,.b .a x.Y,.e x.UL]
theorem Vp.G(x:Vp):x.ay.j=20:=by simp[Vp.ay,fq.G]
theorem Vp.cK(x:Vp):x.ay.all (·.h)=true:=gX (fq.cK _) ((by simp[cO]))
@[go_sem]theorem Vp.eD(x:Vp):eD x.ay=20:=Vp.G x
@[go_sem]theorem Vp.all(x:Vp):x.ay.m 0 20=x.ay:=by have:=Vp.G x;rw[<-this];simp
@[go_sem]theorem Vp.Db(x:Vp):x.ay.m 0 17=x.h.ay:=by simp[Vp.ay,dA,fq.G,pR,tX]
@[go_sem]theorem Vp.Bv(x:Vp):x.ay[17]? = some (.b .a x.aP):=by simp[Vp.ay,aD,fq.G]
@[go_sem]theorem Vp.JH(x:Vp):x.ay[18]? = some (.b .a x.Y):=by simp[Vp.ay,aD,fq.G]
@[go_sem]theorem Vp.aiD(x:Vp):x.ay[19]? = some (.e x.UL):=by simp[Vp.ay,aD,fq.G]
def nD:Vp:=⟨mY,0,0,false⟩
@[go_sem]theorem axf:bY #[bL false,aA,aA,aA,aA,aA,aA,aA,aA,aA,aA,aA,aA,aA,aA,aA,aA,bg,bg,bL false]=bY nD.ay:=rfl
@[go_sem]theorem ate:eB #[bL false,aA,aA,aA,aA,aA,aA,aA,aA,aA,aA,aA,aA,aA,aA,aA,aA,bg,bg,bL false] 98=eB nD.ay 98:=rfl
theorem kVp:oN 98 20 nD.ay:=⟨⟨_,rY,rfl⟩,by kernel_rfl,by kernel_rfl,Vp.G _⟩
@[go_sem ↓]theorem aH7(v:aB):cu 98 v=yH 98 v:=rfl
@[go_sem ↓]theorem aH8(v x:aB):eF 98 v x=yR 98 v x:=rfl
@[go_sem]theorem aFw(W:ak)(b o:Nat)(h:xA W b o 20):(yH 98 (.c (some ⟨b,o,none⟩))).I ah W=.ok (.d (dY W b o 20)) W:=kVp.ld W b o h
@[go_sem]theorem aCc(W:ak)(c:Array aB)(x:Vp)(b:Nat)(hb:b=W.a.j)(hc:eD c=20):(yR 98 (.c (some ⟨b,0,none⟩)) (.d x.ay)).I ah (W.alloc (.D c 98))=.ok () (W.alloc (.D x.ay 98)):=kVp.stN W c x.ay b hb hc (Vp.G x) (Vp.cK x)
@[go_sem]theorem aFx(W:ak)(b o:Nat)(x:Vp)(h:W.O b o 20):(yR 98 (.c (some ⟨b,o,none⟩)) (.d x.ay)).I ah W=.ok () (gN W b o x.ay):=kVp.st W b o x.ay h (Vp.G x) (Vp.cK x)
@[go_sem ↓]theorem aH9(ps:Array (Nat×aB)):fI 98 ps=uL 98 ps:=rfl
theorem axg(w:ak)(fs:Array nU)(h:ah.k 98=some (.d fs)):(iA (fun f=>Prod.mk f.Z <$> sizeOf f.p) fs:xk (Array (Nat×Nat))).I ah w=.ok #[(0,17),(17,1),(18,1),(19,1)] w:=by
 have e:=rY;rw[h]at e;cases e;show _=_
 kernel_rfl
@[go_sem]theorem aCd(W:ak):(uL 98 #[]).I ah W=.ok (.d nD.ay) W:=kVp.bd0 W _ rY ⟨_,axg W _ rY⟩
structure Cn where
 qH:Option aT
 iI:Nat
 qI:Nat
 j:Int
 Y:Int
 kr:Vector Int 6
 kg:Int
 fall:Int
 Cg:Vector UInt8 6
 Ci:fq
 h:fq
 afe:Int
 keep:Int
 UM:Int
def Cn.ay(x:Cn):Array aB:=#[.a x.qH x.iI x.qI,.b .a x.j,.b .a x.Y]++(J4 x.kr++(#[.b .a x.kg,.b .a x.fall]++(Ar x.Cg++(x.Ci.ay++(x.h.ay ++ #[.b .a x.afe,.b .a x.keep,.b .a x.UM])))))
theorem Cn.G(x:Cn):x.ay.j=54:=by simp[Cn.ay,fq.G,gD,jH]
theorem Cn.cK(x:Cn):x.ay.all (·.h)=true:=gX ((by simp[cO])) (gX (apf _) (gX ((by simp[cO])) (gX (aai _) (gX (fq.cK _) (gX (fq.cK _) ((by simp[cO])))))))
@[go_sem]theorem Cn.eD(x:Cn):eD x.ay=54:=Cn.G x
@[go_sem]theorem Cn.all(x:Cn):x.ay.m 0 54=x.ay:=by have:=Cn.G x;rw[<-this];simp
@[go_sem]theorem Cn.JI(x:Cn):x.ay[0]? = some (.a x.qH x.iI x.qI):=by simp[Cn.ay,aD,fq.G,gD,jH]
@[go_sem]theorem Cn.FH(x:Cn):x.ay[1]? = some (.b .a x.j):=by simp[Cn.ay,aD,fq.G,gD,jH]
@[go_sem]theorem Cn.Rw(x:Cn):x.ay[2]? = some (.b .a x.Y):=by simp[Cn.ay,aD,fq.G,gD,jH]
@[go_sem]theorem Cn.Rx(x:Cn):x.ay.m 3 9=J4 x.kr:=by simp[Cn.ay,dA,fq.G,gD,jH,pR,tX]
@[go_sem]theorem Cn.Ry(x:Cn):x.ay[9]? = some (.b .a x.kg):=by simp[Cn.ay,aD,fq.G,gD,jH]
@[go_sem]theorem Cn.RJ(x:Cn):x.ay[10]? = some (.b .a x.fall):=by simp[Cn.ay,aD,fq.G,gD,jH]
@[go_sem]theorem Cn.aff(x:Cn):x.ay.m 11 17=Ar x.Cg:=by simp[Cn.ay,dA,fq.G,gD,jH,pR,tX]
@[go_sem]theorem Cn.aak(x:Cn):x.ay.m 17 34=x.Ci.ay:=by simp[Cn.ay,dA,fq.G,gD,jH,pR,tX]
@[go_sem]theorem Cn.afg(x:Cn):x.ay.m 34 51=x.h.ay:=by simp[Cn.ay,dA,fq.G,gD,jH,pR,tX]
@[go_sem]theorem Cn.az8(x:Cn):x.ay[51]? = some (.b .a x.afe):=by simp[Cn.ay,aD,fq.G,gD,jH]
@[go_sem]theorem Cn.aal(x:Cn):x.ay[52]? = some (.b .a x.keep):=by simp[Cn.ay,aD,fq.G,gD,jH]
@[go_sem]theorem Cn.axh(x:Cn):x.ay[53]? = some (.b .a x.UM):=by simp[Cn.ay,aD,fq.G,gD,jH]
theorem Cn.MI(x:Cn)(A:Option aT)(n c:Nat):x.ay.b 0 (.a A n c)=({x with qH:=A,iI:=n,qI:=c}:Cn).ay:=by simp[Cn.ay,aL,fq.G,gD,jH]
def OH:Cn:=⟨none,0,0,0,0,(bF 6 0),0,0,(bF 6 0),mY,mY,0,0,0⟩
@[go_sem]theorem axi:bY #[bD none 0 0,bg,bg,bg,bg,bg,bg,bg,bg,bg,bg,aA,aA,aA,aA,aA,aA,bL false,aA,aA,aA,aA,aA,aA,aA,aA,aA,aA,aA,aA,aA,aA,aA,aA,bL false,aA,aA,aA,aA,aA,aA,aA,aA,aA,aA,aA,aA,aA,aA,aA,aA,bg,bg,bg]=bY OH.ay:=rfl
@[go_sem]theorem atf:eB #[bD none 0 0,bg,bg,bg,bg,bg,bg,bg,bg,bg,bg,aA,aA,aA,aA,aA,aA,bL false,aA,aA,aA,aA,aA,aA,aA,aA,aA,aA,aA,aA,aA,aA,aA,aA,bL false,aA,aA,aA,aA,aA,aA,aA,aA,aA,aA,aA,aA,aA,aA,aA,aA,bg,bg,bg] 29=eB OH.ay 29:=rfl
theorem NI:oN 29 54 OH.ay:=⟨⟨_,mW,rfl⟩,by kernel_rfl,by kernel_rfl,Cn.G _⟩
@[go_sem ↓]theorem aH'(v:aB):cu 29 v=yH 29 v:=rfl
@[go_sem ↓]theorem aIa(v x:aB):eF 29 v x=yR 29 v x:=rfl
@[go_sem]theorem aFy(W:ak)(b o:Nat)(h:xA W b o 54):(yH 29 (.c (some ⟨b,o,none⟩))).I ah W=.ok (.d (dY W b o 54)) W:=NI.ld W b o h
@[go_sem]theorem aCe(W:ak)(c:Array aB)(x:Cn)(b:Nat)(hb:b=W.a.j)(hc:eD c=54):(yR 29 (.c (some ⟨b,0,none⟩)) (.d x.ay)).I ah (W.alloc (.D c 29))=.ok () (W.alloc (.D x.ay 29)):=NI.stN W c x.ay b hb hc (Cn.G x) (Cn.cK x)
@[go_sem]theorem aFz(W:ak)(b o:Nat)(x:Cn)(h:W.O b o 54):(yR 29 (.c (some ⟨b,o,none⟩)) (.d x.ay)).I ah W=.ok () (gN W b o x.ay):=NI.st W b o x.ay h (Cn.G x) (Cn.cK x)
@[go_sem ↓]theorem aIb(ps:Array (Nat×aB)):fI 29 ps=uL 29 ps:=rfl
theorem atg(w:ak)(fs:Array nU)(h:ah.k 29=some (.d fs)):(iA (fun f=>Prod.mk f.Z <$> sizeOf f.p) fs:xk (Array (Nat×Nat))).I ah w=.ok #[(0,1),(1,1),(2,1),(3,6),(9,1),(10,1),(11,6),(17,17),(34,17),(51,1),(52,1),(53,1)] w:=by
 have e:=mW;rw[h]at e;cases e;show _=_
 kernel_rfl
@[go_sem]theorem aCf(W:ak):(uL 29 #[]).I ah W=.ok (.d OH.ay) W:=NI.bd0 W _ mW ⟨_,atg W _ mW⟩
def acL(v:Vp):Bool:=qG v.h&&(v.aP==6||v.aP==17)&&(decide (1<=v.Y)&&decide (v.Y<=65535))
def xY(a:fq)(p q:Int)(v:Vp):Bool:=decide (v.h=a)&&v.aP==p&&v.Y==q
def vZ(l:List Vp)(a:fq)(p q:Int):Option Nat:=l.findIdx? (xY a p q)
def Dy(l:List Vp)(i:Nat):Bool:=acL (l.c i nD) && !(l.d i).any (xY (l.c i nD).h (l.c i nD).aP (l.c i nD).Y)
def yS(l:List Vp):Bool:=decide (l.a<=64)&&(dV l.a).all (Dy l)
def Bw(v:Vector Int 6):Bool:=v.a.c 0 0==0&&(dV 6).all fun i=>decide (0<=v.a.c i 0)&&decide (v.a.c i 0<=1000000)
def xZ(x:Cn)(l:List Vp):Bool:=Bw x.kr&&yS l&&(decide (2<=x.j)&&decide (x.j<=65537)&&lG x.j.e)&&(decide (1<=x.Y)&&decide (x.Y<=4096))&&(decide (1<=x.kg)&&decide (x.kg<=100))&&(decide (1<=x.fall)&&decide (x.fall<=100))
 && (!x.Ci.h&&qG x.Ci)&&x.h.h&&(decide (1000<=x.afe)&&decide (x.afe<=1048576))&&(decide (1<=x.keep)&&decide (x.keep<=100))&&(decide (1<=x.UM)&&decide (x.UM<=1000))
abbrev RdV:=iR Vp.ay 20
structure Fo where
 head:Int
 dz:Int
 NK:Int
 id:Int
 oG:Bool
 keep:Bool
 KZ:Int
 aP:Int
 h:fq
 Y:fq
def Fo.ay(x:Fo):Array aB:=#[.b .a x.head,.b .a x.dz,.b .a x.NK,.b .a x.id,.e x.oG,.e x.keep,.b .a x.KZ,.b .a x.aP]++(x.h.ay++x.Y.ay)
theorem Fo.G(x:Fo):x.ay.j=42:=by simp[Fo.ay,fq.G]
theorem Fo.cK(x:Fo):x.ay.all (·.h)=true:=gX ((by simp[cO])) (gX (fq.cK _) (fq.cK _))
@[go_sem]theorem Fo.eD(x:Fo):eD x.ay=42:=Fo.G x
@[go_sem]theorem Fo.JJ(x:Fo):x.ay[0]? = some (.b .a x.head):=by simp[Fo.ay,aD,fq.G]
@[go_sem]theorem Fo.yc(x:Fo):x.ay[1]? = some (.b .a x.dz):=by simp[Fo.ay,aD,fq.G]
@[go_sem]theorem Fo.ath(x:Fo):x.ay[2]? = some (.b .a x.NK):=by simp[Fo.ay,aD,fq.G]
@[go_sem]theorem Fo.axk(x:Fo):x.ay[3]? = some (.b .a x.id):=by simp[Fo.ay,aD,fq.G]
@[go_sem]theorem Fo.RL(x:Fo):x.ay[4]? = some (.e x.oG):=by simp[Fo.ay,aD,fq.G]
@[go_sem]theorem Fo.aal(x:Fo):x.ay[5]? = some (.e x.keep):=by simp[Fo.ay,aD,fq.G]
@[go_sem]theorem Fo.ati(x:Fo):x.ay[6]? = some (.b .a x.KZ):=by simp[Fo.ay,aD,fq.G]
@[go_sem]theorem Fo.Bv(x:Fo):x.ay[7]? = some (.b .a x.aP):=by simp[Fo.ay,aD,fq.G]
@[go_sem]theorem Fo.IE(x:Fo):x.ay.m 8 25=x.h.ay:=by simp[Fo.ay,dA,fq.G,pR,tX]
@[go_sem]theorem Fo.IG(x:Fo):x.ay.m 25 42=x.Y.ay:=by simp[Fo.ay,dA,fq.G,pR,tX]
def wY:Fo:=⟨0,0,0,0,false,false,0,0,mY,mY⟩
@[go_sem]theorem axl:bY #[bg,bg,bg,bg,bL false,bL false,bg,bg,bL false,aA,aA,aA,aA,aA,aA,aA,aA,aA,aA,aA,aA,aA,aA,aA,aA,bL false,aA,aA,aA,aA,aA,aA,aA,aA,aA,aA,aA,aA,aA,aA,aA,aA]=bY wY.ay:=rfl
@[go_sem]theorem atj:eB #[bg,bg,bg,bg,bL false,bL false,bg,bg,bL false,aA,aA,aA,aA,aA,aA,aA,aA,aA,aA,aA,aA,aA,aA,aA,aA,bL false,aA,aA,aA,aA,aA,aA,aA,aA,aA,aA,aA,aA,aA,aA,aA,aA] 192=eB wY.ay 192:=rfl
theorem kFo:oN 192 42 wY.ay:=⟨⟨_,oU,rfl⟩,by kernel_rfl,by kernel_rfl,Fo.G _⟩
@[go_sem ↓]theorem aIc(v:aB):cu 192 v=yH 192 v:=rfl
@[go_sem ↓]theorem aId(v x:aB):eF 192 v x=yR 192 v x:=rfl
@[go_sem]theorem aCg(W:ak)(c:Array aB)(x:Fo)(b:Nat)(hb:b=W.a.j)(hc:eD c=42):(yR 192 (.c (some ⟨b,0,none⟩)) (.d x.ay)).I ah (W.alloc (.D c 192))=.ok () (W.alloc (.D x.ay 192)):=kFo.stN W c x.ay b hb hc (Fo.G x) (Fo.cK x)
@[go_sem]theorem aFA(W:ak)(b o:Nat)(x:Fo)(h:W.O b o 42):(yR 192 (.c (some ⟨b,o,none⟩)) (.d x.ay)).I ah W=.ok () (gN W b o x.ay):=kFo.st W b o x.ay h (Fo.G x) (Fo.cK x)
@[go_sem ↓]theorem aIe(ps:Array (Nat×aB)):fI 192 ps=uL 192 ps:=rfl
theorem atl(w:ak)(fs:Array nU)(h:ah.k 192=some (.d fs)):(iA (fun f=>Prod.mk f.Z <$> sizeOf f.p) fs:xk (Array (Nat×Nat))).I ah w=.ok #[(0,1),(1,1),(2,1),(3,1),(4,1),(5,1),(6,1),(7,1),(8,17),(25,17)] w:=by
 have e:=oU;rw[h]at e;cases e;show _=_
 kernel_rfl
@[go_sem]theorem aCh(W:ak):(uL 192 #[]).I ah W=.ok (.d wY.ay) W:=kFo.bd0 W _ oU ⟨_,atl W _ oU⟩
@[go_sem]theorem axn(W:ak)(head:Int)(dz:Int)(NK:Int)(id:Int)(oG:Bool)(keep:Bool)(KZ:Int)(aP:Int)(src:fq)(dst:fq):(uL 192 #[(0,.b .a head),(1,.b .a dz),(2,.b .a NK),(3,.b .a id),(4,.e oG),(5,.e keep),(6,.b .a KZ),(7,.b .a aP),(8,.d (src.ay)),(9,.d (dst.ay))]).I ah W=.ok (.d (Fo.mk head dz NK id oG keep KZ aP src dst).ay) W:=kFo.bd W _ _ _ _ oU (atl W _ oU) (by
 refine uU (Fo.G _) ?_ ?_
 ·simp[rF,bW,fq.G]
 ·simp[qO,bW,Fo.ay]<;>(simp only[<-fQ];rfl))
structure Sx where
 head:Int
 dz:Int
 Ei:Int
 oG:Bool
 GL:Int
 aP:Int
 h:fq
 Y:fq
def Sx.ay(x:Sx):Array aB:=#[.b .a x.head,.b .a x.dz,.b .a x.Ei,.e x.oG,.b .a x.GL,.b .a x.aP]++(x.h.ay++x.Y.ay)
theorem Sx.G(x:Sx):x.ay.j=40:=by simp[Sx.ay,fq.G]
theorem Sx.cK(x:Sx):x.ay.all (·.h)=true:=gX ((by simp[cO])) (gX (fq.cK _) (fq.cK _))
@[go_sem]theorem Sx.eD(x:Sx):eD x.ay=40:=Sx.G x
@[go_sem]theorem Sx.all(x:Sx):x.ay.m 0 40=x.ay:=by have:=Sx.G x;rw[<-this];simp
@[go_sem]theorem Sx.JJ(x:Sx):x.ay[0]? = some (.b .a x.head):=by simp[Sx.ay,aD,fq.G]
@[go_sem]theorem Sx.yc(x:Sx):x.ay[1]? = some (.b .a x.dz):=by simp[Sx.ay,aD,fq.G]
@[go_sem]theorem Sx.atm(x:Sx):x.ay[2]? = some (.b .a x.Ei):=by simp[Sx.ay,aD,fq.G]
@[go_sem]theorem Sx.RL(x:Sx):x.ay[3]? = some (.e x.oG):=by simp[Sx.ay,aD,fq.G]
@[go_sem]theorem Sx.aph(x:Sx):x.ay[4]? = some (.b .a x.GL):=by simp[Sx.ay,aD,fq.G]
@[go_sem]theorem Sx.Bv(x:Sx):x.ay[5]? = some (.b .a x.aP):=by simp[Sx.ay,aD,fq.G]
@[go_sem]theorem Sx.IE(x:Sx):x.ay.m 6 23=x.h.ay:=by simp[Sx.ay,dA,fq.G,pR,tX]
@[go_sem]theorem Sx.IG(x:Sx):x.ay.m 23 40=x.Y.ay:=by simp[Sx.ay,dA,fq.G,pR,tX]
theorem Sx.MJ(x:Sx)(v:Int):x.ay.b 0 (.b .a v)=({x with head:=v}:Sx).ay:=by simp[Sx.ay,aL,fq.G]
theorem Sx.alO(x:Sx)(v:Bool):x.ay.b 3 (.e v)=({x with oG:=v}:Sx).ay:=by simp[Sx.ay,aL,fq.G]
theorem Sx.alP(x:Sx)(v:Int):x.ay.b 4 (.b .a v)=({x with GL:=v}:Sx).ay:=by simp[Sx.ay,aL,fq.G]
theorem Sx.XT(x:Sx)(v:Int):x.ay.b 5 (.b .a v)=({x with aP:=v}:Sx).ay:=by simp[Sx.ay,aL,fq.G]
def qE:Sx:=⟨0,0,0,false,0,0,mY,mY⟩
@[go_sem]theorem axo:bY #[bg,bg,bg,bL false,bg,bg,bL false,aA,aA,aA,aA,aA,aA,aA,aA,aA,aA,aA,aA,aA,aA,aA,aA,bL false,aA,aA,aA,aA,aA,aA,aA,aA,aA,aA,aA,aA,aA,aA,aA,aA]=bY qE.ay:=rfl
@[go_sem]theorem atn:eB #[bg,bg,bg,bL false,bg,bg,bL false,aA,aA,aA,aA,aA,aA,aA,aA,aA,aA,aA,aA,aA,aA,aA,aA,bL false,aA,aA,aA,aA,aA,aA,aA,aA,aA,aA,aA,aA,aA,aA,aA,aA] 189=eB qE.ay 189:=rfl
theorem kSx:oN 189 40 qE.ay:=⟨⟨_,oV,rfl⟩,by kernel_rfl,by kernel_rfl,Sx.G _⟩
@[go_sem ↓]theorem aIf(v:aB):cu 189 v=yH 189 v:=rfl
@[go_sem ↓]theorem aIg(v x:aB):eF 189 v x=yR 189 v x:=rfl
@[go_sem]theorem aFB(W:ak)(b o:Nat)(h:xA W b o 40):(yH 189 (.c (some ⟨b,o,none⟩))).I ah W=.ok (.d (dY W b o 40)) W:=kSx.ld W b o h
@[go_sem]theorem aCi(W:ak)(c:Array aB)(x:Sx)(b:Nat)(hb:b=W.a.j)(hc:eD c=40):(yR 189 (.c (some ⟨b,0,none⟩)) (.d x.ay)).I ah (W.alloc (.D c 189))=.ok () (W.alloc (.D x.ay 189)):=kSx.stN W c x.ay b hb hc (Sx.G x) (Sx.cK x)
@[go_sem]theorem aFC(W:ak)(b o:Nat)(x:Sx)(h:W.O b o 40):(yR 189 (.c (some ⟨b,o,none⟩)) (.d x.ay)).I ah W=.ok () (gN W b o x.ay):=kSx.st W b o x.ay h (Sx.G x) (Sx.cK x)
@[go_sem ↓]theorem aIh(ps:Array (Nat×aB)):fI 189 ps=uL 189 ps:=rfl
theorem ato(w:ak)(fs:Array nU)(h:ah.k 189=some (.d fs)):(iA (fun f=>Prod.mk f.Z <$> sizeOf f.p) fs:xk (Array (Nat×Nat))).I ah w=.ok #[(0,1),(1,1),(2,1),(3,1),(4,1),(5,1),(6,17),(23,17)] w:=by
 have e:=oV;rw[h]at e;cases e;show _=_
 kernel_rfl
@[go_sem]theorem aCj(W:ak):(uL 189 #[]).I ah W=.ok (.d qE.ay) W:=kSx.bd0 W _ oV ⟨_,ato W _ oV⟩
structure Pt where
 kT:Int
 jP:Int
 uV:Int
 head:Int
 dz:Int
def Pt.ay(x:Pt):Array aB:=#[.b .a x.kT,.b .a x.jP,.b .a x.uV,.b .a x.head,.b .a x.dz]
theorem Pt.G(x:Pt):x.ay.j=5:=by simp[Pt.ay]
theorem Pt.cK(x:Pt):x.ay.all (·.h)=true:=by simp[Pt.ay,cO]
@[go_sem]theorem Pt.eD(x:Pt):eD x.ay=5:=Pt.G x
@[go_sem]theorem Pt.all(x:Pt):x.ay.m 0 5=x.ay:=by have:=Pt.G x;rw[<-this];simp
@[go_sem]theorem Pt.axp(x:Pt):x.ay[0]? = some (.b .a x.kT):=by simp[Pt.ay,aD]
@[go_sem]theorem Pt.axq(x:Pt):x.ay[1]? = some (.b .a x.jP):=by simp[Pt.ay,aD]
@[go_sem]theorem Pt.ML(x:Pt):x.ay[2]? = some (.b .a x.uV):=by simp[Pt.ay,aD]
@[go_sem]theorem Pt.JJ(x:Pt):x.ay[3]? = some (.b .a x.head):=by simp[Pt.ay,aD]
@[go_sem]theorem Pt.yc(x:Pt):x.ay[4]? = some (.b .a x.dz):=by simp[Pt.ay,aD]
theorem Pt.OI(x:Pt)(v:Int):x.ay.b 2 (.b .a v)=({x with uV:=v}:Pt).ay:=by simp[Pt.ay,aL]
theorem Pt.MJ(x:Pt)(v:Int):x.ay.b 3 (.b .a v)=({x with head:=v}:Pt).ay:=by simp[Pt.ay,aL]
theorem Pt.OJ(x:Pt)(v:Int):x.ay.b 4 (.b .a v)=({x with dz:=v}:Pt).ay:=by simp[Pt.ay,aL]
def qJ:Pt:=⟨0,0,0,0,0⟩
@[go_sem]theorem axr:bY #[bg,bg,bg,bg,bg]=bY qJ.ay:=rfl
@[go_sem]theorem atp:eB #[bg,bg,bg,bg,bg] 172=eB qJ.ay 172:=rfl
theorem RV:oN 172 5 qJ.ay:=⟨⟨_,oW,rfl⟩,by kernel_rfl,by kernel_rfl,Pt.G _⟩
@[go_sem ↓]theorem aIi(v:aB):cu 172 v=yH 172 v:=rfl
@[go_sem ↓]theorem aIj(v x:aB):eF 172 v x=yR 172 v x:=rfl
@[go_sem]theorem aFD(W:ak)(b o:Nat)(h:xA W b o 5):(yH 172 (.c (some ⟨b,o,none⟩))).I ah W=.ok (.d (dY W b o 5)) W:=RV.ld W b o h
@[go_sem]theorem aCk(W:ak)(c:Array aB)(x:Pt)(b:Nat)(hb:b=W.a.j)(hc:eD c=5):(yR 172 (.c (some ⟨b,0,none⟩)) (.d x.ay)).I ah (W.alloc (.D c 172))=.ok () (W.alloc (.D x.ay 172)):=RV.stN W c x.ay b hb hc (Pt.G x) (Pt.cK x)
@[go_sem]theorem aFE(W:ak)(b o:Nat)(x:Pt)(h:W.O b o 5):(yR 172 (.c (some ⟨b,o,none⟩)) (.d x.ay)).I ah W=.ok () (gN W b o x.ay):=RV.st W b o x.ay h (Pt.G x) (Pt.cK x)
@[go_sem ↓]theorem aIk(ps:Array (Nat×aB)):fI 172 ps=uL 172 ps:=rfl
theorem atq(w:ak)(fs:Array nU)(h:ah.k 172=some (.d fs)):(iA (fun f=>Prod.mk f.Z <$> sizeOf f.p) fs:xk (Array (Nat×Nat))).I ah w=.ok #[(0,1),(1,1),(2,1),(3,1),(4,1)] w:=by
 have e:=oW;rw[h]at e;cases e;show _=_
 kernel_rfl
@[go_sem]theorem aCl(W:ak):(uL 172 #[]).I ah W=.ok (.d qJ.ay) W:=RV.bd0 W _ oW ⟨_,atq W _ oW⟩
@[go_sem]theorem axt(W:ak)(kT:Int)(jP:Int)(uV:Int)(head:Int)(dz:Int):(uL 172 #[(0,.b .a kT),(1,.b .a jP),(2,.b .a uV),(3,.b .a head),(4,.b .a dz)]).I ah W=.ok (.d (Pt.mk kT jP uV head dz).ay) W:=RV.bd W _ _ _ _ oW (atq W _ oW) (by
 refine uU (Pt.G _) ?_ ?_
 ·simp[rF,bW]
 ·simp[qO,bW,Pt.ay]<;>(simp only[<-fQ];rfl))
structure Nt where
 head:Int
 dz:Int
 aP:Int
 oG:Bool
 h:fq
 Y:fq
def Nt.ay(x:Nt):Array aB:=#[.b .a x.head,.b .a x.dz,.b .a x.aP,.e x.oG]++(x.h.ay++x.Y.ay)
theorem Nt.G(x:Nt):x.ay.j=38:=by simp[Nt.ay,fq.G]
theorem Nt.cK(x:Nt):x.ay.all (·.h)=true:=gX ((by simp[cO])) (gX (fq.cK _) (fq.cK _))
@[go_sem]theorem Nt.eD(x:Nt):eD x.ay=38:=Nt.G x
@[go_sem]theorem Nt.JJ(x:Nt):x.ay[0]? = some (.b .a x.head):=by simp[Nt.ay,aD,fq.G]
@[go_sem]theorem Nt.yc(x:Nt):x.ay[1]? = some (.b .a x.dz):=by simp[Nt.ay,aD,fq.G]
@[go_sem]theorem Nt.Bv(x:Nt):x.ay[2]? = some (.b .a x.aP):=by simp[Nt.ay,aD,fq.G]
@[go_sem]theorem Nt.RL(x:Nt):x.ay[3]? = some (.e x.oG):=by simp[Nt.ay,aD,fq.G]
@[go_sem]theorem Nt.IE(x:Nt):x.ay.m 4 21=x.h.ay:=by simp[Nt.ay,dA,fq.G,pR,tX]
@[go_sem]theorem Nt.IG(x:Nt):x.ay.m 21 38=x.Y.ay:=by simp[Nt.ay,dA,fq.G,pR,tX]
def aam:Nt:=⟨0,0,0,false,mY,mY⟩
@[go_sem]theorem axu:bY #[bg,bg,bg,bL false,bL false,aA,aA,aA,aA,aA,aA,aA,aA,aA,aA,aA,aA,aA,aA,aA,aA,bL false,aA,aA,aA,aA,aA,aA,aA,aA,aA,aA,aA,aA,aA,aA,aA,aA]=bY aam.ay:=rfl
@[go_sem]theorem atr:eB #[bg,bg,bg,bL false,bL false,aA,aA,aA,aA,aA,aA,aA,aA,aA,aA,aA,aA,aA,aA,aA,aA,bL false,aA,aA,aA,aA,aA,aA,aA,aA,aA,aA,aA,aA,aA,aA,aA,aA] 168=eB aam.ay 168:=rfl
theorem kNt:oN 168 38 aam.ay:=⟨⟨_,Dm,rfl⟩,by kernel_rfl,by kernel_rfl,Nt.G _⟩
@[go_sem ↓]theorem aIl(v:aB):cu 168 v=yH 168 v:=rfl
@[go_sem ↓]theorem aIm(v x:aB):eF 168 v x=yR 168 v x:=rfl
@[go_sem]theorem aFF(W:ak)(b o:Nat)(x:Nt)(h:W.O b o 38):(yR 168 (.c (some ⟨b,o,none⟩)) (.d x.ay)).I ah W=.ok () (gN W b o x.ay):=kNt.st W b o x.ay h (Nt.G x) (Nt.cK x)
@[go_sem ↓]theorem aIn(ps:Array (Nat×aB)):fI 168 ps=uL 168 ps:=rfl
theorem aCm(w:ak)(fs:Array nU)(h:ah.k 168=some (.d fs)):(iA (fun f=>Prod.mk f.Z <$> sizeOf f.p) fs:xk (Array (Nat×Nat))).I ah w=.ok #[(0,1),(1,1),(2,1),(3,1),(4,17),(21,17)] w:=by
 have e:=Dm;rw[h]at e;cases e;show _=_
 kernel_rfl
@[go_sem]theorem axv(W:ak)(head:Int)(dz:Int)(aP:Int)(oG:Bool)(src:fq)(dst:fq):(uL 168 #[(0,.b .a head),(1,.b .a dz),(2,.b .a aP),(3,.e oG),(4,.d (src.ay)),(5,.d (dst.ay))]).I ah W=.ok (.d (Nt.mk head dz aP oG src dst).ay) W:=kNt.bd W _ _ _ _ Dm (aCm W _ Dm) (by
 refine uU (Nt.G _) ?_ ?_
 ·simp[rF,bW,fq.G]
 ·simp[qO,bW,Nt.ay]<;>(simp only[<-fQ];rfl))
structure Pk where
 kind:Int
 J:Tu
 uV:Int
 Cj:Int
 tu:Int
 FJ:Int
def Pk.ay(x:Pk):Array aB:=#[.b .a x.kind]++(x.J.ay ++ #[.b .a x.uV,.b .a x.Cj,.b .a x.tu,.b .a x.FJ])
theorem Pk.G(x:Pk):x.ay.j=42:=by simp[Pk.ay,Tu.G]
theorem Pk.cK(x:Pk):x.ay.all (·.h)=true:=gX ((by simp[cO])) (gX (Tu.cK _) ((by simp[cO])))
@[go_sem]theorem Pk.eD(x:Pk):eD x.ay=42:=Pk.G x
@[go_sem]theorem Pk.Au(x:Pk):x.ay[0]? = some (.b .a x.kind):=by simp[Pk.ay,aD,Tu.G]
@[go_sem]theorem Pk.II(x:Pk):x.ay.m 1 38=x.J.ay:=by simp[Pk.ay,dA,Tu.G,pR,tX]
@[go_sem]theorem Pk.ML(x:Pk):x.ay[38]? = some (.b .a x.uV):=by simp[Pk.ay,aD,Tu.G]
@[go_sem]theorem Pk.alQ(x:Pk):x.ay[39]? = some (.b .a x.Cj):=by simp[Pk.ay,aD,Tu.G]
@[go_sem]theorem Pk.alR(x:Pk):x.ay[40]? = some (.b .a x.tu):=by simp[Pk.ay,aD,Tu.G]
@[go_sem]theorem Pk.apj(x:Pk):x.ay[41]? = some (.b .a x.FJ):=by simp[Pk.ay,aD,Tu.G]
def MO:Pk:=⟨0,ael,0,0,0,0⟩
@[go_sem]theorem axw:bY #[bg,bL false,aA,aA,aA,aA,aA,aA,aA,aA,aA,aA,aA,aA,aA,aA,aA,aA,bL false,aA,aA,aA,aA,aA,aA,aA,aA,aA,aA,aA,aA,aA,aA,aA,aA,bg,bg,bg,bg,bg,bg,bg]=bY MO.ay:=rfl
@[go_sem]theorem att:eB #[bg,bL false,aA,aA,aA,aA,aA,aA,aA,aA,aA,aA,aA,aA,aA,aA,aA,aA,bL false,aA,aA,aA,aA,aA,aA,aA,aA,aA,aA,aA,aA,aA,aA,aA,aA,bg,bg,bg,bg,bg,bg,bg] 83=eB MO.ay 83:=rfl
theorem kPk:oN 83 42 MO.ay:=⟨⟨_,vB,rfl⟩,by kernel_rfl,by kernel_rfl,Pk.G _⟩
@[go_sem ↓]theorem aIo(v:aB):cu 83 v=yH 83 v:=rfl
@[go_sem ↓]theorem aIp(v x:aB):eF 83 v x=yR 83 v x:=rfl
@[go_sem]theorem aCn(W:ak)(c:Array aB)(x:Pk)(b:Nat)(hb:b=W.a.j)(hc:eD c=42):(yR 83 (.c (some ⟨b,0,none⟩)) (.d x.ay)).I ah (W.alloc (.D c 83))=.ok () (W.alloc (.D x.ay 83)):=kPk.stN W c x.ay b hb hc (Pk.G x) (Pk.cK x)
@[go_sem]theorem aFG(W:ak)(b o:Nat)(x:Pk)(h:W.O b o 42):(yR 83 (.c (some ⟨b,o,none⟩)) (.d x.ay)).I ah W=.ok () (gN W b o x.ay):=kPk.st W b o x.ay h (Pk.G x) (Pk.cK x)
@[go_sem ↓]theorem aIq(ps:Array (Nat×aB)):fI 83 ps=uL 83 ps:=rfl
theorem axx(w:ak)(fs:Array nU)(h:ah.k 83=some (.d fs)):(iA (fun f=>Prod.mk f.Z <$> sizeOf f.p) fs:xk (Array (Nat×Nat))).I ah w=.ok #[(0,1),(1,37),(38,1),(39,1),(40,1),(41,1)] w:=by
 have e:=vB;rw[h]at e;cases e;show _=_
 kernel_rfl
structure Tn where
 head:Int
 dz:Int
 aP:Int
 oG:Bool
 ok:Bool
def Tn.ay(x:Tn):Array aB:=#[.b .a x.head,.b .a x.dz,.b .a x.aP,.e x.oG,.e x.ok]
theorem Tn.G(x:Tn):x.ay.j=5:=by simp[Tn.ay]
theorem Tn.cK(x:Tn):x.ay.all (·.h)=true:=by simp[Tn.ay,cO]
@[go_sem]theorem Tn.yc(x:Tn):x.ay[1]? = some (.b .a x.dz):=by simp[Tn.ay,aD]
@[go_sem]theorem Tn.axy(x:Tn):x.ay[4]? = some (.e x.ok):=by simp[Tn.ay,aD]
def sU:Tn:=⟨0,0,0,false,false⟩
@[go_sem]theorem axz:bY #[aI bR 0,aI bR 0,aI bR 0,bL false,bL false]=bY sU.ay:=rfl
@[go_sem]theorem atv:eB #[aI bR 0,aI bR 0,aI bR 0,bL false,bL false] 179=eB sU.ay 179:=rfl
theorem kTn:oN 179 5 sU.ay:=⟨⟨_,uh,rfl⟩,by kernel_rfl,by kernel_rfl,Tn.G _⟩
@[go_sem ↓]theorem aIr(v:aB):cu 179 v=yH 179 v:=rfl
@[go_sem ↓]theorem aIs(v x:aB):eF 179 v x=yR 179 v x:=rfl
@[go_sem]theorem aFH(W:ak)(b o:Nat)(x:Tn)(h:W.O b o 5):(yR 179 (.c (some ⟨b,o,none⟩)) (.d x.ay)).I ah W=.ok () (gN W b o x.ay):=kTn.st W b o x.ay h (Tn.G x) (Tn.cK x)
@[go_sem ↓]theorem aIt(ps:Array (Nat×aB)):fI 179 ps=uL 179 ps:=rfl
theorem axA(w:ak)(fs:Array nU)(h:ah.k 179=some (.d fs)):(iA (fun f=>Prod.mk f.Z <$> sizeOf f.p) fs:xk (Array (Nat×Nat))).I ah w=.ok #[(0,1),(1,1),(2,1),(3,1),(4,1)] w:=by
 have e:=uh;rw[h]at e;cases e;show _=_
 kernel_rfl
@[go_sem]theorem aCo(W:ak):(uL 179 #[]).I ah W=.ok (.d sU.ay) W:=kTn.bd0 W _ uh ⟨_,axA W _ uh⟩
@[go_sem]theorem axB(W:ak)(head:Int)(dz:Int)(aP:Int)(oG:Bool)(ok:Bool):(uL 179 #[(0,.b .a head),(1,.b .a dz),(2,.b .a aP),(3,.e oG),(4,.e ok)]).I ah W=.ok (.d (Tn.mk head dz aP oG ok).ay) W:=kTn.bd W _ _ _ _ uh (axA W _ uh) (by
 refine uU (Tn.G _) ?_ ?_
 ·simp[rF,bW]
 ·simp[qO,bW,Tn.ay]<;>(simp only[<-fQ];rfl))
structure Lc where
 Y:Vector UInt8 6
 h:Vector UInt8 6
 UN:Option aT
 El:Nat
 agY:Nat
 oq:Int
 fD:Int
def Lc.ay(x:Lc):Array aB:=Ar x.Y++(Ar x.h ++ #[.a x.UN x.El x.agY,.b .a x.oq,.b .a x.fD])
theorem Lc.G(x:Lc):x.ay.j=15:=by simp[Lc.ay,gD]
theorem Lc.cK(x:Lc):x.ay.all (·.h)=true:=gX (aai _) (gX (aai _) ((by simp[cO])))
@[go_sem]theorem Lc.eD(x:Lc):eD x.ay=15:=Lc.G x
@[go_sem]theorem Lc.all(x:Lc):x.ay.m 0 15=x.ay:=by have:=Lc.G x;rw[<-this];simp
@[go_sem]theorem Lc.IG(x:Lc):x.ay.m 0 6=Ar x.Y:=by simp[Lc.ay,dA,gD,pR,tX]
@[go_sem]theorem Lc.IE(x:Lc):x.ay.m 6 12=Ar x.h:=by simp[Lc.ay,dA,gD,pR,tX]
@[go_sem]theorem Lc.aan(x:Lc):x.ay[12]? = some (.a x.UN x.El x.agY):=by simp[Lc.ay,aD,gD]
@[go_sem]theorem Lc.Dz(x:Lc):x.ay[13]? = some (.b .a x.oq):=by simp[Lc.ay,aD,gD]
@[go_sem]theorem Lc.K6(x:Lc):x.ay[14]? = some (.b .a x.fD):=by simp[Lc.ay,aD,gD]
theorem Lc.alS(x:Lc)(A:Option aT)(n c:Nat):x.ay.b 12 (.a A n c)=({x with UN:=A,El:=n,agY:=c}:Lc).ay:=by simp[Lc.ay,aL,gD]
theorem Lc.RX(x:Lc)(v:Int):x.ay.b 13 (.b .a v)=({x with oq:=v}:Lc).ay:=by simp[Lc.ay,aL,gD]
theorem Lc.apl(x:Lc)(v:Int):x.ay.b 14 (.b .a v)=({x with fD:=v}:Lc).ay:=by simp[Lc.ay,aL,gD]
def qK:Lc:=⟨(bF 6 0),(bF 6 0),none,0,0,0,0⟩
@[go_sem]theorem axC:bY #[aA,aA,aA,aA,aA,aA,aA,aA,aA,aA,aA,aA,bD none 0 0,bg,bg]=bY qK.ay:=rfl
@[go_sem]theorem atw:eB #[aA,aA,aA,aA,aA,aA,aA,aA,aA,aA,aA,aA,bD none 0 0,bg,bg] 108=eB qK.ay 108:=rfl
theorem kLc:oN 108 15 qK.ay:=⟨⟨_,uj,rfl⟩,by kernel_rfl,by kernel_rfl,Lc.G _⟩
@[go_sem ↓]theorem aIu(v:aB):cu 108 v=yH 108 v:=rfl
@[go_sem ↓]theorem aIv(v x:aB):eF 108 v x=yR 108 v x:=rfl
@[go_sem]theorem aFI(W:ak)(b o:Nat)(h:xA W b o 15):(yH 108 (.c (some ⟨b,o,none⟩))).I ah W=.ok (.d (dY W b o 15)) W:=kLc.ld W b o h
@[go_sem]theorem aCp(W:ak)(c:Array aB)(x:Lc)(b:Nat)(hb:b=W.a.j)(hc:eD c=15):(yR 108 (.c (some ⟨b,0,none⟩)) (.d x.ay)).I ah (W.alloc (.D c 108))=.ok () (W.alloc (.D x.ay 108)):=kLc.stN W c x.ay b hb hc (Lc.G x) (Lc.cK x)
@[go_sem]theorem aFJ(W:ak)(b o:Nat)(x:Lc)(h:W.O b o 15):(yR 108 (.c (some ⟨b,o,none⟩)) (.d x.ay)).I ah W=.ok () (gN W b o x.ay):=kLc.st W b o x.ay h (Lc.G x) (Lc.cK x)
@[go_sem ↓]theorem aIw(ps:Array (Nat×aB)):fI 108 ps=uL 108 ps:=rfl
theorem axD(w:ak)(fs:Array nU)(h:ah.k 108=some (.d fs)):(iA (fun f=>Prod.mk f.Z <$> sizeOf f.p) fs:xk (Array (Nat×Nat))).I ah w=.ok #[(0,6),(6,6),(12,1),(13,1),(14,1)] w:=by
 have e:=uj;rw[h]at e;cases e;show _=_
 kernel_rfl
@[go_sem]theorem aCq(W:ak):(uL 108 #[]).I ah W=.ok (.d qK.ay) W:=kLc.bd0 W _ uj ⟨_,axD W _ uj⟩
structure Tg where
 oq:Int
 tci:Int
def Tg.ay(x:Tg):Array aB:=#[.b .a x.oq,.b .a x.tci]
theorem Tg.G(x:Tg):x.ay.j=2:=by simp[Tg.ay]
theorem Tg.cK(x:Tg):x.ay.all (·.h)=true:=by simp[Tg.ay,cO]
@[go_sem]theorem Tg.Dz(x:Tg):x.ay[0]? = some (.b .a x.oq):=by simp[Tg.ay,aD]
@[go_sem]theorem Tg.alT(x:Tg):x.ay[1]? = some (.b .a x.tci):=by simp[Tg.ay,aD]
def QW:Tg:=⟨0,0⟩
@[go_sem]theorem axE:bY #[aI bR 0,aI bR 0]=bY QW.ay:=rfl
@[go_sem]theorem atx:eB #[aI bR 0,aI bR 0] 268=eB QW.ay 268:=rfl
theorem kTg:oN 268 2 QW.ay:=⟨⟨_,Dn,rfl⟩,by kernel_rfl,by kernel_rfl,Tg.G _⟩
@[go_sem ↓]theorem aIx(v:aB):cu 268 v=yH 268 v:=rfl
@[go_sem ↓]theorem aIy(v x:aB):eF 268 v x=yR 268 v x:=rfl
@[go_sem]theorem aFK(W:ak)(b o:Nat)(h:xA W b o 2):(yH 268 (.c (some ⟨b,o,none⟩))).I ah W=.ok (.d (dY W b o 2)) W:=kTg.ld W b o h
@[go_sem]theorem aCr(W:ak)(c:Array aB)(x:Tg)(b:Nat)(hb:b=W.a.j)(hc:eD c=2):(yR 268 (.c (some ⟨b,0,none⟩)) (.d x.ay)).I ah (W.alloc (.D c 268))=.ok () (W.alloc (.D x.ay 268)):=kTg.stN W c x.ay b hb hc (Tg.G x) (Tg.cK x)
@[go_sem ↓]theorem aIz(ps:Array (Nat×aB)):fI 268 ps=uL 268 ps:=rfl
theorem aCs(w:ak)(fs:Array nU)(h:ah.k 268=some (.d fs)):(iA (fun f=>Prod.mk f.Z <$> sizeOf f.p) fs:xk (Array (Nat×Nat))).I ah w=.ok #[(0,1),(1,1)] w:=by
 have e:=Dn;rw[h]at e;cases e;show _=_
 kernel_rfl
@[go_sem]theorem axG(W:ak)(oq:Int)(tci:Int):(uL 268 #[(0,.b .a oq),(1,.b .a tci)]).I ah W=.ok (.d (Tg.mk oq tci).ay) W:=kTg.bd W _ _ _ _ Dn (aCs W _ Dn) (by
 refine uU (Tg.G _) ?_ ?_
 ·simp[rF,bW]
 ·simp[qO,bW,Tg.ay]<;>(simp only[<-fQ];rfl))
def eU(l:List UInt8)(k:Nat):Nat:=256*(l.c k 0).e+(l.c (k+1) 0).e
theorem vG(l:List UInt8)(k:Nat):eU l k<=65535:=by
 have h1:=(l.c k 0).a;have h2:=(l.c (k+1) 0).a;unfold eU;omega
theorem IJ(l:List UInt8)(k:Nat)(h:k+1<l.a):oC (((l.f k).d 2).d 8)=eU l k:=by
 rw[TP l k h];simp[oC,eU];omega
theorem jT(n:Int)(h : -9223372036854775808<=n/\n<=9223372036854775807):bR.wrap n=n:=by simp[vK,nQ,lN];omega
section
variable (W:ak) (A:Option aT) (n c B:Nat) (l:List UInt8) (k:Nat)
theorem aiF(hk:k+1<n)(hnc:n<=c)(hc:c<=9223372036854775807)(hr:fP W W.a.j A n l):aQ ah 246 #[.a A n c,.b .a k] W (gU W (.b .a (eU l k:Nat))):=by
 have hl:=hr.len;have h0:=ab (vG l k);have h1:(k:Int)+2<=c:=by omega
 have h2:(k:Int)<=(k:Int)+2:=by omega
 have P:=hr.PY (z:=k) (b:=k+2) (c:=c) (by omega) (by omega) (by omega);rw[kG,if_neg (by omega)]at P;have C:=ab (LG _ 2 (c-k) _ W (by omega) (by omega) P);rw[IJ l k (by omega)]at C;have h3:wrap64 (eU l k:Nat)=(eU l k:Nat):=by have:=h0.i;unfold wrap64;omega
 generalize eU l k=x at *;clear P hr;go_enter Tryz.func246,Tryz.ntmps246;go_wp2_with (go_at_call 180;with_reducible refine C.i.g ?_;rintro e w' ⟨rfl,hb⟩);go_ret;exact⟨congrArg (fun z=>ug (.b .a z)) h3,hb⟩
theorem aap(i:Int)(hi:i=k)(hk:k+1<n)(hnc:n<=c)(hc:c<=9223372036854775807)(hr:fP W W.a.j A n l):aQ ah 246 #[.a A n c,.b .a i] W (gU W (.b .a (eU l k:Nat))):=by subst hi;exact aiF W A n c l k hk hnc hc hr
theorem alU(hk:k+1<n)(hnc:n<=c)(hc:c<=9223372036854775807)(hr:fP W W.a.j A n l):aQ ah 249 #[.a A n c,.b .a k] W (gU W (.b .a (eU l k:Nat))):=by
 have hl:=hr.len;have h0:=ab (vG l k);have h1:(k:Int)+2<=c:=by omega
 have h2:(k:Int)<=(k:Int)+2:=by omega
 have P:=hr.PY (z:=k) (b:=k+2) (c:=c) (by omega) (by omega) (by omega);rw[kG,if_neg (by omega)]at P;have C:=ab (LG _ 2 (c-k) _ W (by omega) (by omega) P);rw[IJ l k (by omega)]at C;have h3:wrap64 (eU l k:Nat)=(eU l k:Nat):=by have:=h0.i;unfold wrap64;omega
 generalize eU l k=x at *;clear P hr;go_enter Tryz.func249,Tryz.ntmps249;go_wp2_with (go_at_call 180;with_reducible refine C.i.g ?_;rintro e w' ⟨rfl,hb⟩);go_ret;exact⟨congrArg (fun z=>ug (.b .a z)) h3,hb⟩
theorem alV(i:Int)(hi:i=k)(hk:k+1<n)(hnc:n<=c)(hc:c<=9223372036854775807)(hr:fP W W.a.j A n l):aQ ah 249 #[.a A n c,.b .a i] W (gU W (.b .a (eU l k:Nat))):=by subst hi;exact alU W A n c l k hk hnc hc hr
theorem aiG(hk:k+1<n)(hnc:n<=c)(hc:c<=9223372036854775807)(hr:fP W W.a.j A n l):aQ ah 177 #[.a A n c,.b .a k] W (gU W (.b .a (eU l k:Nat))):=by
 have hl:=hr.len;have h0:=ab (vG l k);have h1:(k:Int)+2<=c:=by omega
 have h2:(k:Int)<=(k:Int)+2:=by omega
 have P:=hr.PY (z:=k) (b:=k+2) (c:=c) (by omega) (by omega) (by omega);rw[kG,if_neg (by omega)]at P;have C:=ab (LG _ 2 (c-k) _ W (by omega) (by omega) P);rw[IJ l k (by omega)]at C;have h3:wrap64 (eU l k:Nat)=(eU l k:Nat):=by have:=h0.i;unfold wrap64;omega
 generalize eU l k=x at *;clear P hr;go_enter Tryz.func177,Tryz.ntmps177;go_wp2_with (go_at_call 180;with_reducible refine C.i.g ?_;rintro e w' ⟨rfl,hb⟩);go_ret;exact⟨congrArg (fun z=>ug (.b .a z)) h3,hb⟩
theorem MP(i:Int)(hi:i=k)(hk:k+1<n)(hnc:n<=c)(hc:c<=9223372036854775807)(hr:fP W W.a.j A n l):aQ ah 177 #[.a A n c,.b .a i] W (gU W (.b .a (eU l k:Nat))):=by subst hi;exact aiG W A n c l k hk hnc hc hr
theorem afh(hk:k+1<n)(hnn:n<=1000000000)(hr:fP W B A n l):aQ ah 299 #[.a A n c,.b .a k] W fun e W'=>e=.a (.b .a (eU l k:Nat))/\∃q,W'=W.drewN q:=by
 obtain⟨a,rfl,_,h1⟩:=hr.fD (show k<n by omega);obtain⟨a',e,_,h2⟩:=hr.fD hk;injection e with e
 subst e;have h3:=h2;unfold qX at h3;rw[if_neg (by omega)]at h3;have H:=ab (show eU l k=256*(l.c k 0).e+(l.c (k+1) 0).e from rfl);have b1:=(l.c k 0).a;have b2:=(l.c (k+1) 0).a;unfold bv at h1 h2 h3;generalize(l.c k 0).e=x at *;generalize(l.c (k+1) 0).e=y at *;have hk1:(k:Int)<n:=by omega
 have hk2:(k:Int)+1<n:=by omega
 have hk3:(0:Int)<=(k:Int)+1:=by omega
 have w1:=jT ((k:Int)+1) (by omega);have w2:=jT (x:Int) (by omega);have w3:=jT (y:Int) (by omega);have w4:=jT (256*(x:Int)) (by omega);have w5:=jT (256*(x:Int)+y) (by omega);clear hr;go_enter Tryz.func299,Tryz.ntmps299;go_wp2_with fail;go_quiet (fail);go_wp2;go_ret;exact⟨by rw[H.i];rfl,_,rfl⟩
theorem IK(hk:2<=n)(hnc:n<=c)(hc:c<=9223372036854775807)(hr:fP W W.a.j A n l):aQ ah 173 #[.a A n c] W (gU W (.b .a (eU l 0:Nat))):=by
 have hl:=hr.len;have h0:=ab (vG l 0);have h1:(2:Int)<=c:=by omega
 have P:fP W W.a.j A 2 (l.d 2):=by
  have:=Rd.upto hr (k:=2) (by omega);rw[gB,<-Ae]at this;exact this
 have C:=ab (LG _ 2 c _ W (by omega) (by omega) P);rw[show oC ((l.d 2).d 8)=eU l 0 from IJ l 0 (by omega)]at C;have h3:wrap64 (eU l 0:Nat)=(eU l 0:Nat):=by have:=h0.i;unfold wrap64;omega
 generalize eU l 0=x at *;clear P hr;go_enter Tryz.func173,Tryz.ntmps173;go_wp2_with (go_at_call 180;with_reducible refine C.i.g ?_;rintro e w' ⟨rfl,hb⟩);go_ret;exact⟨congrArg (fun z=>ug (.b .a z)) h3,hb⟩
def tY(n:Int):Bool:=decide (n=33024\/n=34984)
theorem aaq(n:Int):aQ ah 174 #[.b .a n] W fun e W'=>e=.a (.e (tY n))/\W=W':=by
 go_enter Tryz.func174,Tryz.ntmps174;go_wp2
 all_goals(go_ret;refine⟨?_,rfl⟩;(by_cases h1:n=33024<;>by_cases h2:n=34984<;>simp_all[tY]))
end
structure Lk where
 Y:Vector UInt8 6
 h:Vector UInt8 6
 fG:List Tg
 oq:Int
 fD:Nat
def Em:Lk:=⟨bF 6 0,bF 6 0,[],0,0⟩
def Ck(l:List UInt8):Nat->Nat->List Tg->Lk×Int
 | m,k,fG=>if tY (eU l (k-2))then(match m with
  | 0=>(Em,4)
  | m+1=>if l.a<k+4 then(Em,2)else Ck l m (k+4) (fG++[⟨eU l (k-2),eU l k⟩]))
   else(⟨pY 6 l,pY 6 (l.f 6),fG,eU l (k-2),k⟩,0)
theorem zI{l:List UInt8}{m k:Nat}{fG:List Tg}(h:tY (eU l (k-2):Nat)=false):Ck l m k fG=(⟨pY 6 l,pY 6 (l.f 6),fG,eU l (k-2),k⟩,0):=by cases m<;>simp[Ck,h]
theorem JK{l:List UInt8}{k:Nat}{fG:List Tg}(h:tY (eU l (k-2):Nat)=true):Ck l 0 k fG=(Em,4):=by simp[Ck,h]
theorem By{l:List UInt8}{m k:Nat}{fG:List Tg}(h:tY (eU l (k-2):Nat)=true)(h2:l.a<k+4):Ck l (m+1) k fG=(Em,2):=by simp[Ck,h,h2]
theorem Eo{l:List UInt8}{m k:Nat}{fG:List Tg}(h:tY (eU l (k-2):Nat)=true)(h2:¬l.a<k+4):Ck l (m+1) k fG=Ck l m (k+4) (fG++[⟨(eU l (k-2):Nat),(eU l k:Nat)⟩]):=by simp[Ck,h,h2]
def mh(l:List UInt8):Lk×Int:=if l.a<14 then(Em,2)else Ck l 2 14 []
def Lk.cell(x:Lk)(A:Option aT)(c:Nat):Lc:=⟨x.Y,x.h,A,x.fG.a,c,x.oq,x.fD⟩
def LkP(W:ak)(r:Lk×Int)(e:kZ)(W':ak):Prop:=∃A c,e=.a (.J #[.d (r.1.cell A c).ay,.b .a r.2])/\iR Tg.ay 2 W' W'.a.j A r.1.fG.a r.1.fG/\aM W.a.j W W'
theorem FK{q r v:Array aB}(h:v.j=q.j):sF (q++r) 0 v=v++r:=by
 have:=UK #[] (q++r) v (by simp;omega);simp only[Array.empty_append,Array.size_empty]at this;rw[this,h];simp[dA,tX]
theorem qL{p q r v:Array aB}(h:v.j=q.j)(k:Nat)(hk:p.j=k):sF (p++(q++r)) k v=p++(v++r):=by
 subst hk;rw[UK p (q++r) v (by simp;omega),h,fQ];simp[dA,tX]
theorem dL.setCells{W:ak}{b:Nat}{c:Array aB}(h:dL W b c)(o:Nat)(vs:List aB):dL (W.setCells b o vs) b (sF c o vs.b):=by
 obtain⟨t,h⟩:=h;exact⟨t,Sz b t vs o c W h⟩
theorem Lc.aar(x:Lc)(v:Vector UInt8 6):sF x.ay 0 (Ar v)=({x with Y:=v}:Lc).ay:=by
 unfold Lc.ay;exact FK (by rw[gD,gD])
theorem Lc.aas(x:Lc)(v:Vector UInt8 6):sF x.ay 6 (Ar v)=({x with h:=v}:Lc).ay:=by
 unfold Lc.ay;exact qL (by rw[gD,gD]) 6 (gD _)
theorem Ep{P:eG}(W:ak){B y o m n c d:Nat}{A:Option aT}{l:List UInt8}(hR:fP W B A n l)(hm:m<=n)(hm0:0<m)(hth:W.O y o m)(T ty e:bK)(hu:P.k T=some (.a e))(hs:(P.l e).map (·.j)=some 1):
 (qB #[T,T] ty #[.a (some ⟨y,o,none⟩) m d,.a A n c]).I P W=.ok (goInt m) (W.setCells y o ((l.d m).map bv)):=by
 have hn:=hR.len;obtain⟨a,rfl,_,hc⟩:=hR.2 (by omega);have hl:((l.d m).map bv).a=m:=by simp;omega
 have:=run_copy_cells (P:=P) W T T ty e y o m d a n c ((l.d m).map bv) hu hs (by rw[hl];exact(Nat.min_eq_right hm).symm) (fun j v hj=>hc j v (by
  have hj2:j<m:=by
   rcases aZ j m with h|h
   ·exact h
   ·rw[aS (by rw[hl];exact h)]at hj;cases hj
  rw[jA,gZ hj2,<-jA]at hj;exact hj)) (fun j hj=>(hth j (by rw[hl]at hj;exact hj)).1) (fun j hj=>(hth j (by rw[hl]at hj;exact hj)).2) (Jp _)
 rw[hl]at this;exact this
theorem MQ(k:Nat)(l:List UInt8)(h:k<=l.a):(l.d k).map bv=(pY k l).a.map bv:=by
 congr 1;apply iJ;intro j;rcases aZ j k with hj|hj
 ·rw[gZ hj]
  simp[pY,hj,au,aC (show j<l.a by omega)]
 ·rw[aS (by simp;omega),aS (by simpa using hj)]
theorem apm:aah 106 268 Tg.ay 2:=by
 obtain⟨i,h1,h2,h3⟩:=kTg.afd;have h4:(ah.l 268).map (fun i=>decide (i.bytes<=1000))=some true:=by kernel_rfl
 rw[h1]at h4;simp at h4;exact⟨i,_,Tryz.underlying106,h1,h3,h2,Tg.G _,by omega,h4,Tg.G,Tg.cK⟩
def aro(n:Nat)(ps:Array (Nat×aB)):xk aB:=bI 106 n ps
@[go_sem ↓]theorem axH(n:Nat)(ps:Array (Nat×aB)):bI 106 n ps=aro n ps:=rfl
@[go_sem]theorem avE(w:ak)(x:Tg):(aro 1 #[(0,.d x.ay)]).I ah w=.ok (.a (some ⟨w.a.j,0,none⟩) 1 1) (w.alloc (.D x.ay 268)):=by
 obtain⟨i,h1,h2,h3⟩:=kTg.afd;exact rO w _ _ i (.d QW.ay) 2 Tryz.underlying106 h1 h3 h2 (Tg.G _) (by omega) (by omega) x.ay (Tg.G x)
section
variable {α:Type} {f:α->Array aB} {sz:Nat} {e:bK} {L:List (Nat×Array aB)} {w0 W:ak} {v:aB} {l:List α} {q:Nat} {c:Array aB}
theorem Rz.alW(h:Rz f sz e ((q,c)::L) w0 W v l)(hq:w0.a.j<=q)(hL:∀p∈L,p.1≠q)(j:Nat)(u:aB):Rz f sz e ((q,c.b j u)::L) w0 (W.F ⟨q,j,none⟩ u) v l:=
 ⟨Sw h.vC (h.G (q,c) (by simp)).2 u,h.R.F hq u,fun p hp=>by
  rcases bC.1 hp with rfl|hp
  ·exact⟨h.X.eH j u,(h.G (q,c) (by simp)).2⟩
  ·obtain⟨h1,h2⟩:=h.G p (by simp[hp]);exact⟨h1.dM _ u (fun e=>hL p hp e.symm),h2⟩⟩
theorem aat{base size n:Nat}{xs:List aB}(vs:List aB):∀(o:Nat)(W:ak),W.c base e size v n xs->v.f≠some q->(W.setCells q o vs).c base e size v n xs:=by
 induction vs with
 | nil=>exact fun _ _ h _=>h
 | cons u vs ih=>intro o W h hq;exact ih (o+1) _ (Sw h hq u) hq
theorem Rz.aty(h:Rz f sz e ((q,c)::L) w0 W v l)(hq:w0.a.j<=q)(hL:∀p∈L,p.1≠q)(o:Nat)(x:Array aB):Rz f sz e ((q,sF c o x)::L) w0 (gN W q o x) v l:=
 ⟨aat _ _ _ h.vC (h.G (q,c) (by simp)).2,kX h.R q o x hq,fun p hp=>by
  rcases bC.1 hp with rfl|hp
  ·exact⟨by have:=h.X.setCells o x.a;simpa[gN]using this,(h.G (q,c) (by simp)).2⟩
  ·obtain⟨h1,h2⟩:=h.G p (by simp[hp]);exact⟨h1.gy (hL p hp),h2⟩⟩
theorem Rz.swap{p1 p2:Nat×Array aB}(h:Rz f sz e (p1::p2::L) w0 W v l):Rz f sz e (p2::p1::L) w0 W v l:=
 ⟨h.vC,h.R,fun p hp=>h.G p (by simp at hp⊢;rcases hp with h|h|h<;>simp[h])⟩
end
theorem Rz.ans{α:Type}{f:α->Array aB}{sz:Nat}{e:bK}{w0 W:ak}{v:aB}{l:List α}{q r:Nat}{c d x:Array aB}(h:Rz f sz e [(q,c),(r,d)] w0 W v l)(hr:w0.a.j<=r)(hne:r≠q)(hx:x.j=d.j):Rz f sz e [(r,x),(q,c)] w0 (gN W r 0 x) v l:=by
 have h1:=h.swap.aty hr (fun p hp=>by rw[fM.1 hp];exact fun e=>hne e.symm) 0 x;refine⟨h1.vC,h1.R,fun p hp=>?_⟩;rcases bC.1 hp with rfl|hp
 ·exact⟨h.b1.put x hx,(h.G (r,d) (by simp)).2⟩
 ·exact h1.G p (by simp[hp])
theorem atz{ops:Array iV}{o:iV}{a:qQ}{W:ak}{K:qQ->ak->Prop}{Q:zO->qQ->ak->Prop}{E:Prop}(hgd:o.guard=none)(h:nu ah o a W K Q):if fB o (yielded ops a.tmps)=true then nu ah o a W K Q else E:=by
 have hw:fB o (yielded ops a.tmps)=true:=by simp[fB,hgd]
 rw[if_pos hw];exact h
theorem atA{α:Type}{f:α->Array aB}{sz:Nat}{e t:bK}{L:List (Nat×Array aB)}{w0 W:ak}{l ys:List α}(T:aah t e f sz){ops:Array iV}{o:iV}{a:qQ}{K:qQ->ak->Prop}{Q:zO->qQ->ak->Prop}{E:Prop}(hgd:o.guard=none)(s x:pG)
 (ho:o.op=.call {callee:=.builtin .append,args:=#[s,x],argTypes:=#[t,t]}) (v:aB) (A:Option aT) (m c:Nat) (hs:a.eval s=v) (H:Rz f sz e L w0 W v l) {C:Nat} (hx:a.eval x=.a A m c) (hr:iR f sz W C A m ys)
 (hlen:l.a+m<=1000000)
 (h:∀A' n' c' w',Rz f sz e L w0 w' (.a A' n' c') (l++ys)->W.d w' v.f->K (a.put o.Y (.a A' n' c')) w'):if fB o (yielded ops a.tmps)=true then nu ah o a W K Q else E:=
 ao8 T hgd s x ho hs H hx hr hlen h
@[go_sem]theorem axI(W:ak)(t k:Int):(uL 108 #[(3,.b .a t),(4,.b .a k)]).I ah W=.ok (.d (Lc.mk (bF 6 0) (bF 6 0) none 0 0 t k).ay) W:=
 kLc.bd W _ _ _ _ uj (axD W _ uj) rfl
def nP(l:List UInt8)(k:Nat):Nat:=(l.c k 0).e
theorem uW(l:List UInt8)(k:Nat):nP l k<256:=(l.c k 0).a
def IL(l:List UInt8):fq:=⟨false,pY 16 (l.d 4)⟩
def K7(l:List UInt8):Nat:=nP l 0%16*4
def OL(l:List UInt8):Fo:=⟨K7 l,eU l 2,nP l 1,eU l 4,decide (eU l 6%16384≠0),decide (eU l 6/16384%2=1),nP l 8,nP l 9,IL (l.f 12),IL (l.f 16)⟩
def Dc(l:List UInt8):Int:=
 if l.a<20 then 2 else if nP l 0/16≠4\/K7 l<20 then 3 else if l.a<K7 l then 2 else if eU l 2<K7 l then 3
 else if l.a<eU l 2 then 2 else if wU (l.d (K7 l))≠0 then 8 else 0
def zS(l:List UInt8):Fo×Int:=if Dc l=0 then(OL l,0)else(wY,Dc l)
theorem fq.IQ(a:fq):a.ay = #[.e a.h]++iZ a.b:=by simp[fq.ay,iZ]
section
variable (W:ak) (A:Option aT) (n c B:Nat) (l:List UInt8)
theorem aCu(l:List UInt8)(h:4<=l.a):sF mY.ay 1 ((l.d 4).map bv).b=(IL l).ay:=by
 apply dU;intro j;rw[DU,fq.IQ,fq.IQ];rcases j with _|j
 ·simp[mY,IL,aD]
 ·rw[arn,arn]
  have hs:((l.d 4).map bv).b.j=4:=by simp;omega
  rw[hs,nW,dK];have hb:∀v:Vector UInt8 16,∀k,k<16->(iZ v)[k]? = some (bv (v.a.c k 0)):=by
   intro v k hk;simp[iZ,au,hk]
  rcases(show j<4\/(4<=j/\j<16)\/16<=j by omega)with h|⟨h,h'⟩|h
  ·rw[if_pos ⟨by omega,by omega,by simp;omega⟩,hb _ _ (by omega)]
   simp[IL,pY,show j<16 by omega,h,au,gZ h,aC (show j<l.a by omega)]
  ·rw[if_neg (by omega),hb _ _ h',hb _ _ h']
   have:(l.d 4).a<=j:=by simp;omega
   congr 2;rw[show mY.b.a=dS 16 0 from Vector.toList_replicate,au,List.getElem?_replicate,if_pos h'];simp[IL,pY,h',au,aS this]
  ·rw[if_neg (by omega),aU (by rw[dK];exact h),aU (by rw[dK];exact h)]
theorem XU(hn:4<=n)(hr:fP W W.a.j A n l):aQ ah 248 #[.a A n c] W (gU W (.d (IL l).ay)):=by
 have hl:=hr.len;have B1:=ab (((aG W.a.j W).alloc (av _) (.D mY.ay 27)).alloc (by simp) (.D mY.ay 27));have x1:=ab (dL.Sq W (.D mY.ay 27) mY.ay 27);have x0:=ab ((dL.new W mY.ay 27).alloc (.D mY.ay 27));have R1:=ab ((hr.S B1.i).lu B1.i.j:fP ((W.alloc (.D mY.ay 27)).alloc (.D mY.ay 27)) ((W.alloc (.D mY.ay 27)).alloc (.D mY.ay 27)).a.j A n l);go_enter Tryz.func248,Tryz.ntmps248;generalize hw1:(W.alloc (.D mY.ay 27)).alloc (.D mY.ay 27)=w1 at B1 x1 x0 R1;have cp:∀ty,(qB #[56,56] ty #[.a (some ⟨W.a.j+1,1,none⟩) 4 16,.a A n c]).I ah w1=.ok (goInt 4) (gN w1 (W.a.j+1) 1 ((l.d 4).map bv).b):=fun ty=>by
  have h1:=x1.i.O 1 4 (by rw[fq.G];omega);have:=Ep (c:=c) (d:=16) w1 R1.i (m:=4) hn (by omega) h1 56 ty 5 cB aly;rw[this];simp only[gN,List.toList_toArray];rfl
 have x2:=ab (x1.i.setCells 1 ((l.d 4).map bv));rw[aCu l (by omega)]at x2;have x3:=ab (show dL (gN w1 (W.a.j+1) 1 ((l.d 4).map bv).b) (W.a.j+1) (IL l).ay by have:=x2.i;simp only[gN,List.toList_toArray];exact this);have x4:=ab (show dL (gN w1 (W.a.j+1) 1 ((l.d 4).map bv).b) W.a.j mY.ay from x0.i.gy (by omega));have B2:=ab (kX B1.i (W.a.j+1) 1 ((l.d 4).map bv).b (by omega));obtain⟨a,ha⟩:=dw (IL l);rw[<-ha]at x3 ⊢;clear ha;obtain⟨v,hv⟩:=dw (((l.d 4).map bv).b);rw[<-hv]at cp x3 x4 B2;clear hv x2;obtain⟨y1,y2,y3,y4⟩:=x3.i.K;have th:=x4.i.O 0 17 (by rw[fq.G];omega);go_upto_region 2 with fail
 clear hw1;go_wp2;have x5:=ab (x4.i.put a.ay (by rw[fq.G,fq.G]));refine aN (aaj.zh rfl _ rfl x5.i (fq.G _)) rfl ?_;exact⟨rfl,kX B2.i _ _ _ (av _)⟩
end
theorem axJ(b:Nat)(h:b<256):bits .and .b (b:Int) 15=((b%16:Nat):Int):=(by decide +kernel:∀b:Fin 256,bits .and .b ((b.val:Nat):Int) 15=((b.val%16:Nat):Int)) ⟨b,h⟩
theorem axK(x:Nat)(hx:x<=65535):(bits .and .a (x:Int) 16383 != 0)=decide (x%16384≠0):=by
 have h1:(fT 64 (x:Int)).e=x:=by rw[lQ,nC];exact fK (by omega)
 have:bits .and .a (x:Int) 16383=((x%16384:Nat):Int):=by
  show bR.wrap ((fT 64 (x:Int) &&& fT 64 16383).e:Int)=_;rw[EO,h1,show(fT 64 16383).e=2^14-1 by decide,Nat.and_two_pow_sub_one_eq_mod,jT _ (by omega)]
 rw[this,bZ];simp;omega
theorem apn(x k:Nat):(x &&& 2^k=0)↔x.testBit k=false:=by
 constructor
 ·intro h
  have:=congrArg (fun z=>Nat.testBit z k) h;simpa[Nat.testBit_and,Nat.testBit_two_pow]using this
 ·intro h
  apply Nat.eq_of_testBit_eq;intro i;rw[Nat.testBit_and,Nat.testBit_two_pow,Nat.zero_testBit];by_cases hi:k=i
  ·subst hi;simp[h]
  ·simp[hi]
theorem aiH(x:Nat)(hx:x<=65535):(bits .and .a (x:Int) 16384 != 0)=decide (x/16384%2=1):=by
 have h1:(fT 64 (x:Int)).e=x:=by rw[lQ,nC];exact fK (by omega)
 have h2:x &&& 2^14<=x:=Nat.and_le_left;have:bits .and .a (x:Int) 16384=((x &&& 2^14:Nat):Int):=by
  show bR.wrap ((fT 64 (x:Int) &&& fT 64 16384).e:Int)=_;rw[EO,h1,show(fT 64 16384).e=2^14 by decide,jT _ (by omega)]
 have h3:=apn x 14;rw[Nat.testBit_eq_decide_div_mod_eq]at h3;have h4:((x &&& 2^14:Nat):Int)=0↔x &&& 2^14=0:=by omega
 rw[this,bZ,bne_iff_ne,decide_eq_true_eq,Ne,h4,h3,decide_eq_false_iff_not,Classical.not_not]
theorem FL{l:List UInt8}{k:Int}(h:Dc l=k)(hk:k≠0):zS l=(wY,k):=by unfold zS;rw[h,if_neg hk]
theorem atB{l:List UInt8}(h:Dc l=0):zS l=(OL l,0):=by unfold zS;rw[if_pos h]
def FoP(W:ak)(r:Fo×Int)(e:kZ)(W':ak):Prop:=e=.a (.J #[.d r.1.ay,.b .a r.2])/\aM W.a.j W W'
theorem apo:lS 1 = #[0]:=by apply oP;rw[j3];rfl
@[go_sem]theorem arp(w:ak)(A:Option aT)(a b:Nat):(FD 1 #[(0,.a A a b)]).I ah w=.ok (.a (some ⟨w.a.j,0,none⟩) 1 1) (w.alloc (.D #[.a A a b] 56)):=by
 obtain⟨i0,hi0,hz0,hz1⟩:=Ru;simp[FD,bI,dJ Dl,zeroValue,sizeOf,typeInfo,hi0,hz0,hz1,fu,newRow,bW,apo]
theorem fP.WM{w:ak}{B n:Nat}{A:Option aT}{l:List UInt8}(h:fP w B A n l)(k:Nat)(hk:k+1<n):∃a,A=some a/\w.b ⟨a.block,a.off+(k+1),none⟩=some (.b .b (nP l (k+1))):=by
 obtain⟨a,e,_,h1⟩:=h.fD hk;unfold qX at h1;rw[if_neg (by omega)]at h1;exact⟨a,e,h1⟩
theorem MS(W:ak)(A:Option aT)(n c:Nat)(l:List UInt8)(hnc:n<=c)(hc:c<=9223372036854775807/\n<=1000000000)(hr:fP W W.a.j A n l):aQ ah 175 #[.a A n c] W (FoP W (zS l)):=by
 have HR:=ab hr;have hl:=ab hr.len;have b0:=ab (dL.new W wY.ay 192);have B0:=ab ((aG W.a.j W).alloc (av _) (.D wY.ay 192));clear hr;go_enter Tryz.func175,Tryz.ntmps175;by_cases h20:n<20
 ·have apq:(n:Int)<20:=by omega
  have H:=ab (show zS l=(wY,2)from FL (by unfold Dc;rw[if_pos (by rw[hl.i];exact h20)]) (by decide));go_wp2;refine aN (kFo.qD rfl _ rfl b0.i (Fo.G _)) rfl ?_;rw[H.i];exact⟨rfl,B0.i⟩
 have apq:¬(n:Int)<20:=by omega
 have i0:(0:Int)<n:=by omega
 have i0':0<n:=by omega
 generalize hw1:W.alloc (.D wY.ay 192)=w1 at b0 B0;obtain⟨T,f,n0,E0,es,ew⟩:=Ic (fun W'=>aM W.a.j W W'/\dL W' W.a.j wY.ay) w1 ⟨B0.i.drew,b0.i.drew⟩;have hT:Nonempty T:=⟨n0⟩
 have ES:=ab es;have EW:=ab ew;clear es ew;have RF:=ab (fun m=>(HR.i.S (ES.i m).1).lu (ES.i m).1.j:∀m,fP (f m) (f m).a.j A n l);have C2:=ab (fun m=>aap (f m) A n c l 2 2 rfl (by omega) hnc (by omega) (RF.i m));have C6:=ab (fun m=>aap (f m) A n c l 6 6 rfl (by omega) hnc (by omega) (RF.i m));obtain⟨a,rfl,hab,hc0⟩:=HR.i.fD (show 0<n by omega);rw[NQ]at hc0;have hf0:∀m,(f m).b a=some (.b .b (nP l 0)):=fun m=>((ES.i m).1.cell hab).trans hc0
 have hb:=uW l 0;have hA:=axJ _ hb;have hw16:=jT ((nP l 0%16:Nat):Int) (by omega);have hw64:=jT (((nP l 0%16:Nat):Int)*4) (by omega);clear hc0;go_upto_region 3 with fail
 clear hw1;refine pE f (by kernel_rfl) (by kernel_rfl) n0 E0 ?_
 repeat(go_big_quiet_step ((first
  | (go_at_call 246;with_reducible refine(C2.i _).g ?_;rintro e w2 ⟨rfl,hb⟩;exact⟨rfl,EW.i _ ⟨(ES.i _).1.trans (hb.g (ES.i _).1.j),(ES.i _).2.go hb⟩⟩)
  | (go_at_call 246;with_reducible refine(C6.i _).g ?_;rintro e w2 ⟨rfl,hb⟩;exact⟨rfl,EW.i _ ⟨(ES.i _).1.trans (hb.g (ES.i _).1.j),(ES.i _).2.go hb⟩⟩))))
 refine gW ?_;rintro _ ⟨m,rfl⟩;obtain⟨hS1,hS2⟩:=ES.i m;have S1:=ab hS1;have S2:=ab hS2;have R2:=ab (RF.i m);have cb:=hf0 m;clear hS1 hS2 ES EW RF C2 C6 hf0 E0 hT n0 hA hw16 hw64;generalize f m=w2 at *;have HE:=ab (fun(x:Fo)=>show dL (gN w2 W.a.j 0 x.ay) W.a.j x.ay/\aM W.a.j W (gN w2 W.a.j 0 x.ay)from⟨S2.i.put x.ay (by rw[Fo.G,Fo.G]),kX S1.i _ _ _ (av _)⟩);have yI:=S2.i.O 0 42 (by rw[Fo.G];omega);obtain⟨hd,hhd⟩:=dw (K7 l);have HD:=ab hhd.symm;have ehd:(nP l 0:Int)%16*4=(hd:Int):=by rw[hhd];unfold K7;omega
 obtain⟨t,ht⟩:=dw (eU l 2);have HT:=ab ht.symm;have htl:t<=65535:=by rw[ht];exact vG l 2
 rw[<-ht];clear hhd ht;have N20:=ab (show¬l.a<20 by rw[hl.i];exact h20);by_cases e1:¬nP l 0/16=4
 ·have q:((nP l 0:Int)/16 != 4)=true:=by rw[bne_iff_ne];omega
  have H:=ab (show zS l=(wY,3)from FL (by unfold Dc;rw[if_neg N20.i,if_pos (.a e1)]) (by decide));go_wp2;refine aN (kFo.qD rfl _ rfl (HE.i wY).1 (Fo.G _)) rfl ?_;rw[H.i];exact⟨rfl,(HE.i wY).2⟩
 have qe1:((nP l 0:Int)/16 != 4)=false:=by simp;omega
 by_cases e2:hd<20
 ·have q:(hd:Int)<20:=by omega
  have H:=ab (show zS l=(wY,3)from FL (by unfold Dc;rw[if_neg N20.i,if_pos (.b (by rw[HD.i];exact e2))]) (by decide));go_wp2;refine aN (kFo.qD rfl _ rfl (HE.i wY).1 (Fo.G _)) rfl ?_;rw[H.i];exact⟨rfl,(HE.i wY).2⟩
 have qe2:¬(hd:Int)<20:=by omega
 by_cases e3:n<hd
 ·have q:(n:Int)<hd:=by omega
  have H:=ab (show zS l=(wY,2)from FL (by unfold Dc;rw[if_neg N20.i,if_neg (fun h=>h.elim e1 (by rw[HD.i];exact e2)),if_pos (by rw[hl.i,HD.i];exact e3)]) (by decide));go_wp2;refine aN (kFo.qD rfl _ rfl (HE.i wY).1 (Fo.G _)) rfl ?_;rw[H.i];exact⟨rfl,(HE.i wY).2⟩
 have qe3:¬(n:Int)<hd:=by omega
 by_cases e4:t<hd
 ·have q:(t:Int)<hd:=by omega
  have H:=ab (show zS l=(wY,3)from FL (by unfold Dc;rw[if_neg N20.i,if_neg (fun h=>h.elim e1 (by rw[HD.i];exact e2)),if_neg (by rw[hl.i,HD.i];exact e3),if_pos (by rw[HT.i,HD.i];exact e4)]) (by decide));go_wp2;refine aN (kFo.qD rfl _ rfl (HE.i wY).1 (Fo.G _)) rfl ?_;rw[H.i];exact⟨rfl,(HE.i wY).2⟩
 have qe4:¬(t:Int)<hd:=by omega
 by_cases e5:n<t
 ·have q:(n:Int)<t:=by omega
  have H:=ab (show zS l=(wY,2)from FL (by unfold Dc;rw[if_neg N20.i,if_neg (fun h=>h.elim e1 (by rw[HD.i];exact e2)),if_neg (by rw[hl.i,HD.i];exact e3),if_neg (by rw[HT.i,HD.i];exact e4),if_pos (by rw[hl.i,HT.i];exact e5)]) (by decide));go_wp2;refine aN (kFo.qD rfl _ rfl (HE.i wY).1 (Fo.G _)) rfl ?_;rw[H.i];exact⟨rfl,(HE.i wY).2⟩
 have qe5:¬(n:Int)<t:=by omega
 have FE:=ab (show Dc l=if wU (l.d hd)≠0 then 8 else 0 by
  unfold Dc;rw[if_neg N20.i,if_neg (fun h=>h.elim e1 (by rw[HD.i];exact e2)),if_neg (by rw[hl.i,HD.i];exact e3),if_neg (by rw[HT.i,HD.i];exact e4),if_neg (by rw[hl.i,HT.i];exact e5),HD.i])
 have PH:fP w2 w2.a.j (some a) hd (l.d hd):=by
  have:=Rd.upto R2.i (k:=hd) (by omega);rw[gB,<-Ae]at this;exact this
 have S3:=ab (S1.i.alloc S1.i.j (.D #[.a (some a) hd c] 56));have C13:=ab (ab5 (w2.alloc (.D #[.a (some a) hd c] 56)) w2.a.j (some a) hd c w2.a.j (l.d hd) (by omega) (mR _ _ _ _) (PH.alloc (av _) _));have S4:=ab (S2.i.alloc (.D #[.a (some a) hd c] 56));have R4:=ab ((R2.i.alloc (av _) (.D #[.a (some a) hd c] 56)).lu (by simp):fP (w2.alloc (.D #[.a (some a) hd c] 56)) (w2.alloc (.D #[.a (some a) hd c] 56)).a.j (some a) n l);have i4:(hd:Int)<=c:=by omega
 have hn4:=ab4;clear PH HE yI S1 S2 R2;obtain⟨d,hd⟩:=dw (decide (wU (l.d hd)=0));have DD:=ab hd;rw[<-hd]at C13;clear hd;cases d with
 | false=>
   go_upto_region 14 with(go_at_call 247;with_reducible refine C13.i.g ?_;rintro e w3 ⟨rfl,rfl⟩)
   obtain⟨w3,hw3⟩:=dw (w2.alloc (.D #[.a (some a) hd c] 56));rw[<-hw3]at S3 S4 R4 ⊢;clear hw3 C13;have HE:=ab (fun(x:Fo)=>show dL (gN w3 W.a.j 0 x.ay) W.a.j x.ay/\aM W.a.j W (gN w3 W.a.j 0 x.ay)from⟨S4.i.put x.ay (by rw[Fo.G,Fo.G]),kX S3.i _ _ _ (av _)⟩);have yI:=S4.i.O 0 42 (by rw[Fo.G];omega);have e6:¬wU (l.d hd)=0:=of_decide_eq_false DD.i.symm;have H:=ab (show zS l=(wY,8)from FL (by rw[FE.i,if_pos e6]) (by decide));go_wp2;refine aN (kFo.qD rfl _ rfl (HE.i wY).1 (Fo.G _)) rfl ?_;rw[H.i];exact⟨rfl,(HE.i wY).2⟩
 | true=>
   go_upto_region 15 with(go_at_call 247;with_reducible refine C13.i.g ?_;rintro e w3 ⟨rfl,rfl⟩)
   obtain⟨w3,hw3⟩:=dw (w2.alloc (.D #[.a (some a) hd c] 56));rw[<-hw3]at S3 S4 R4 ⊢;clear hw3 C13;have e6:wU (l.d hd)=0:=of_decide_eq_true DD.i.symm;have H0:=ab (show zS l=(OL l,0)from atB (by rw[FE.i,if_neg (by simp[e6])]));obtain⟨f1,f2,f3⟩:8<n/\9<n/\12+4<=n:=by omega
   obtain⟨u,hu⟩:=dw (eU l 6);have hu0:u<=65535:=by rw[hu];exact vG l 6
   have HU:=ab hu;clear hu;have H:=ab (show zS l=((⟨(hd:Int),(t:Int),(nP l 1:Nat),(eU l 4:Nat),decide (u%16384≠0),decide (u/16384%2=1),(nP l 8:Nat),(nP l 9:Nat),IL (l.f 12),IL (l.f 16)⟩:Fo),0)by rw[H0.i];unfold OL;rw[HD.i,HT.i,<-HU.i]);have HU:=ab HU.i.symm;clear H0;rw[HU.i];have G14:=axK u hu0;have G15:=aiH u hu0;obtain⟨T,f,n0,E0,es,ew⟩:=Ic (fun W'=>aM W.a.j W W'/\dL W' W.a.j wY.ay) w3 ⟨S3.i.drew,S4.i.drew⟩;have hT:Nonempty T:=⟨n0⟩
   have ES:=ab es;have EW:=ab ew;clear es ew;have RF:=ab (fun m=>(HR.i.S (ES.i m).1).lu (ES.i m).1.j:∀m,fP (f m) (f m).a.j (some a) n l);have C4:=ab (fun m=>aap (f m) (some a) n c l 4 4 rfl (by omega) hnc (by omega) (RF.i m));have R12:=ab (fun m=>(RF.i m).from (z:=12) (c:=c) (by omega) hnc);have R16:=ab (fun m=>(RF.i m).from (z:=16) (c:=c) (by omega) hnc);have cne:¬c=12/\¬c=16:=by omega
   simp only[if_neg cne.1,if_neg cne.2,Option.map_some,show a.add 12=⟨a.block,a.off+12,none⟩by simp[qX],show a.add 16=⟨a.block,a.off+16,none⟩by simp[qX]]at R12 R16;have C12:=ab (fun m=>XU (f m) _ (n-12) (c-12) _ (by omega) (R12.i m));have C16:=ab (fun m=>XU (f m) _ (n-16) (c-16) _ (by omega) (R16.i m));obtain⟨_,he1,hc1⟩:=R4.i.WM 0 (by omega);obtain⟨_,he8,hc8⟩:=R4.i.WM 7 (by omega);obtain⟨_,he9,hc9⟩:=R4.i.WM 8 (by omega);cases he1;cases he8;cases he9;have hf1:∀m,(f m).b ⟨a.block,a.off+1,none⟩=some (.b .b (nP l 1)):=fun m=>by
    obtain⟨_,he,hc⟩:=(RF.i m).WM 0 (by omega);cases he;exact hc
   have hf8:∀m,(f m).b ⟨a.block,a.off+8,none⟩=some (.b .b (nP l 8)):=fun m=>by
    obtain⟨_,he,hc⟩:=(RF.i m).WM 7 (by omega);cases he;exact hc
   have hf9:∀m,(f m).b ⟨a.block,a.off+9,none⟩=some (.b .b (nP l 9)):=fun m=>by
    obtain⟨_,he,hc⟩:=(RF.i m).WM 8 (by omega);cases he;exact hc
   have hx1:=jT (nP l 1) (by have:=uW l 1;omega);have hx8:=jT (nP l 8) (by have:=uW l 8;omega);have hx9:=jT (nP l 9) (by have:=uW l 9;omega);clear hc1 hc8 hc9;clear R12 R16 S3 S4 R4 RF FE N20 DD HR B0 b0;refine TQ f 29 (by kernel_rfl) (by kernel_rfl) n0 E0 ?_;simp only[jM,jY,jN,kW]
   repeat(go_big_quiet_step ((first
    | (go_at_call 246;with_reducible refine(C4.i _).g ?_;rintro e w2 ⟨rfl,hb⟩;exact⟨rfl,EW.i _ ⟨(ES.i _).1.trans (hb.g (ES.i _).1.j),(ES.i _).2.go hb⟩⟩)
    | (go_at_call 248;with_reducible refine(C12.i _).g ?_;rintro e w2 ⟨rfl,hb⟩;exact⟨rfl,EW.i _ ⟨(ES.i _).1.trans (hb.g (ES.i _).1.j),(ES.i _).2.go hb⟩⟩)
    | (go_at_call 248;with_reducible refine(C16.i _).g ?_;rintro e w2 ⟨rfl,hb⟩;exact⟨rfl,EW.i _ ⟨(ES.i _).1.trans (hb.g (ES.i _).1.j),(ES.i _).2.go hb⟩⟩))))
   refine gW ?_;rintro _ ⟨m',rfl⟩;obtain⟨hS1,hS2⟩:=ES.i m';clear ES EW C12 C16 C4 hf1 hf8 hf9 E0;generalize f m'=w5 at *;clear hT n0;have HE:=ab (fun(x:Fo)=>show dL (gN w5 W.a.j 0 x.ay) W.a.j x.ay/\aM W.a.j W (gN w5 W.a.j 0 x.ay)from⟨hS2.put x.ay (by rw[Fo.G,Fo.G]),kX hS1 _ _ _ (av _)⟩);have yI:=hS2.O 0 42 (by rw[Fo.G];omega);clear hS1 hS2;obtain⟨X,hX⟩:=dw ((⟨(hd:Int),(t:Int),(nP l 1:Nat),(eU l 4:Nat),!decide (u%16384=0),decide (u/16384%2=1),(nP l 8:Nat),(nP l 9:Nat),IL (l.f 12),IL (l.f 16)⟩:Fo));have H:=ab (show zS l=(X,0)by rw[H.i,hX];simp only[ne_eq,decide_not]);rw[<-hX];clear hX;have hE:=HE.i X;clear HE G14 G15 hx1 hx8 hx9 cne;go_step;go_simp;go_step;go_step;go_simp;go_step;go_step;go_wp2;refine aN (kFo.qD rfl _ rfl hE.1 (Fo.G _)) rfl ?_;rw[H.i];exact⟨rfl,hE.2⟩
structure aiI(g:FuncId):Prop where
 I:∀(c:Nat)(w:ak),aQ ah g #[.b .b c] w fun e w'=>e=.a (.e ((c:Int) != 0))/\w=w'
 enter:∀(args:Array aB)(w:ak),(callFunc g args).I ah w=.ok (.enter g args) w
def nzB(l:List UInt8):Bool:=l.any fun b=>b != 0
theorem alX{l:List UInt8}(h:∀j,j<l.a->l.c j 0=0):nzB l=false:=by
 unfold nzB;rw[List.any_eq_false];intro b hb;obtain⟨j,hj,rfl⟩:=List.getElem_of_mem hb;have:=h j hj;simp[au,hj]at this;simp[this]
theorem atD{l:List UInt8}{j:Nat}(hj:j<l.a)(h:l.c j 0≠0):nzB l=true:=by
 unfold nzB;rw[List.any_eq_true];refine⟨l[j],dX _,?_⟩;simp[au,hj]at h;simp[h]
theorem axM(g:FuncId)(G:aiI g)(A:Option aT)(n c B:Nat)(w:ak)(l:List UInt8)(hc:n<=1000000000)(hr:fP w B A n l):
 aQ ah 260 #[.a A n c,.func (.func g) #[] #[]] w fun e w'=>∃r:Int,e=.a (.b .a r)/\(decide (0<=r)=nzB l)/\w=w':=by
 have hen:=G.enter;have GG:=ab G.I;have HR:=ab hr;have hl:=ab hr.len;clear hr;go_enter Tryz.func260,Tryz.ntmps260;go_wp2;go_loop [8] (fun s8=>∃i:Nat,i<=n/\s8=.b .a i/\∀j,j<i->l.c j 0=0) (fun s8=>n-(intOf s8).e)
 case atStart=>exact⟨0,by omega,rfl,fun j h1=>by omega⟩
 case round=>
  obtain⟨i,hi,rfl,hall⟩:=hrel;have HA:=ab hall;clear hall;by_cases hlt:i<n
  ·have hin:(i:Int)<n:=by omega
   obtain⟨a,rfl,hab,hcell⟩:=HR.i.fD hlt;unfold bv at hcell;have hz:((l.c i 0).e:Int)=0↔l.c i 0=0:=by
    constructor
    ·intro h;apply lV.1;have:(0:UInt8).e=0:=rfl;omega
    ·intro h;rw[h];rfl
   have HZ:=ab hz;clear hz hab;obtain⟨m,hm⟩:∃m:Nat,m=(l.c i 0).e:=⟨_,rfl⟩
   rw[<-hm]at hcell HZ;clear hm;by_cases h0:m=0
   ·have h1:((m:Int) != 0)=false:=by rw[h0];rfl
    have hz0:l.c i 0=0:=HZ.i.1 (by omega);have HZ0:=ab hz0;clear hz0 h0;go_wp2_with (refine(GG.i m _).g ?_;rintro e w' ⟨rfl,rfl⟩);go_round
    case rel=>exact⟨i+1,by omega,by go_num,fun j h1=>by
     by_cases hji:j=i
     ·rw[hji];exact HZ0.i
     ·exact HA.i j (by omega)⟩
    case measure=>simp[intOf]<;>omega
   ·have h1:((m:Int) != 0)=true:=by rw[bne_iff_ne];omega
    have EZ:=ab (atD (l:=l) (j:=i) (by rw[hl.i];exact hlt) (fun h=>h0 (by have:=HZ.i.2 h;omega)));clear h0;go_wp2_with (refine(GG.i m _).g ?_;rintro e w' ⟨rfl,rfl⟩);go_ret;exact⟨_,rfl,by rw[EZ.i];simp,rfl⟩
  ·obtain rfl:i=n:=by omega
   have HS:=ab (alX (l:=l) (fun j hj=>HA.i j (by rw[hl.i]at hj;exact hj)));go_wp2;go_ret;exact⟨_,rfl,by rw[HS.i];simp,rfl⟩
theorem agZ(g:FuncId)(G:aiI g)(A:Option aT)(n c B:Nat)(w:ak)(l:List UInt8)(hc:n<=1000000000)(hr:fP w B A n l):
 aQ ah 189 #[.a A n c,.func (.func g) #[] #[]] w fun e w'=>e=.a (.e (nzB l))/\w=w':=by
 have I:=ab (axM g G A n c B w l hc hr);clear hr;go_enter Tryz.func189,Tryz.ntmps189;go_wp2_with (go_at_call 260;refine I.i.g ?_;rintro e w' ⟨r,rfl,hr,rfl⟩);go_ret;exact⟨by simp,rfl⟩
theorem alY:aiI 354:=⟨fun c w=>by
 go_enter Tryz.func354,Tryz.ntmps354;go_wp2;go_ret;exact⟨rfl,rfl⟩,fun args w=>by kernel_rfl⟩
theorem fP.MV{w:ak}{B b o:Nat}{l:List UInt8}(hb:b<B)(h:∀j,j<l.a->w.b ⟨b,o+j,none⟩=some (bv (l.c j 0))):fP w B (some ⟨b,o,none⟩) l.a l:=by
 refine⟨by simp,fun h0=>⟨⟨b,o,none⟩,rfl,hb,fun j u hu=>?_⟩⟩;have hj:j<l.a:=by
  rcases aZ j l.a with h1|h1
  ·exact h1
  ·rw[aS (by simpa using h1)]at hu;cases hu
 rw[show(⟨b,o,none⟩:aT).add j=⟨b,o+j,none⟩by unfold qX;split<;>simp_all,h j hj];rw[jA,aC hj]at hu;simp only[Option.map_some,Option.some.injEq]at hu;rw[<-hu,au,aC hj];rfl
theorem JL(a:fq):nzB (a.b.a.f 4) = !a.mK:=by
 unfold nzB fq.mK;rw[List.any_eq_not_all_not];congr 2;funext c;show(!(c != 0))=(c==0);unfold bne;rw[Bool.not_not]
theorem fP.tail{w:ak}{B h:Nat}{a:fq}(hb:h<B)(x:dL w h a.ay):fP w B (some ⟨h,5,none⟩) 12 (a.b.a.f 4):=by
 have hl:(a.b.a.f 4).a=12:=by rw[jw,fq.awp]
 have:=fP.MV (w:=w) (o:=5) (l:=a.b.a.f 4) hb (fun j hj=>by
  rw[hl]at hj;rw[x.K.1 (5+j),show 5+j=(4+j)+1 by omega,fq.DZ a (4+j) (by omega)];simp[au])
 rwa [hl]at this
theorem afj(k m:Int)(w:ak):aQ ah 316 #[.b .a k,.b .a m] w (gU w (.e (decide (0<=k)&&decide (k<=m)))):=by
 go_enter Tryz.func316,Tryz.ntmps316;by_cases h1:0<=k<;>by_cases h2:k<=m
 all_goals
  go_wp2;go_ret;exact⟨by simp[h1,h2],aG _ _⟩
theorem UO(a:fq)(w:ak):aQ ah 317 #[.d a.ay] w (gU w (.e (!a.h&&a.mK))):=by
 have HB:=ab ((aG w.a.j w).alloc (av _) (.D a.ay 27));have x0:=dL.new w a.ay 27;have C:=ab (agZ _ alY _ 12 12 _ _ _ (by omega) (fP.tail (B:=w.a.j+1) (mG _) x0));have HS:=ab (JL a);obtain⟨z,hz⟩:=dw (nzB (a.b.a.f 4));rw[<-hz]at C HS;clear hz;cases h6:a.h
 ·have H6:=ab h6
  go_enter Tryz.func317,Tryz.ntmps317;go_wp2_with fail;refine C.i.g ?_;rintro e w' ⟨rfl,rfl⟩;cases z
  all_goals
   go_wp2;go_ret;exact⟨by have:=HS.i;simp at this;simp[<-this],HB.i⟩
 ·go_enter Tryz.func317,Tryz.ntmps317
  go_wp2;go_ret;exact⟨rfl,HB.i⟩
theorem aiK(k:Int)(w:ak):aQ ah 313 #[.b .a k] w (gU w (.b .a (if k=6 then 16 else if k=17 then 6 else 0))):=by
 go_enter Tryz.func313,Tryz.ntmps313;by_cases h1:k=6
 ·subst h1
  go_wp2;go_ret;exact⟨rfl,aG _ _⟩
 by_cases h2:k=17
 ·subst h2
  go_wp2;go_ret;exact⟨rfl,aG _ _⟩
 have q1:(k==6)=false:=by simp[h1]
 have q2:(k==17)=false:=by simp[h2]
 go_wp2;go_ret;exact⟨rfl,aG _ _⟩
@[go_sem]theorem aCz(W:ak)(a b c d:Int):(uL 172 #[(0,.b .a a),(1,.b .a b),(3,.b .a c),(4,.b .a d)]).I ah W=.ok (.d (Pt.mk a b 0 c d).ay) W:=RV.bd W _ _ _ _ oW (atq W _ oW) rfl
def qv(aP:Int)(l:List UInt8):Pt:=if aP=6 then⟨eU l 0,eU l 2,(nP l 13%64:Nat),(nP l 12/16*4:Nat),l.a⟩else⟨eU l 0,eU l 2,0,8,eU l 4⟩
def uX(aP:Int)(l:List UInt8):Int:=
 if aP≠6/\aP≠17 then 5 else if l.a<(if aP=6 then 20 else 8)then 2
 else if(aP=6/\(qv aP l).head<20)\/(qv aP l).dz<8 then 3 else if(l.a:Int)<max (qv aP l).head (qv aP l).dz then 2 else 0
def IU(aP:Int)(l:List UInt8):Pt×Int:=if uX aP l=0 then(qv aP l,0)else(qJ,uX aP l)
theorem uI{p:Int}{l:List UInt8}{k:Int}(h:uX p l=k)(hk:k≠0):IU p l=(qJ,k):=by unfold IU;rw[h,if_neg hk]
theorem UQ{p:Int}{l:List UInt8}(h:uX p l=0):IU p l=(qv p l,0):=by unfold IU;rw[if_pos h]
def PtP(W:ak)(r:Pt×Int)(e:kZ)(W':ak):Prop:=e=.a (.J #[.d r.1.ay,.b .a r.2])/\aM W.a.j W W'
theorem fP.upon{W w1:ak}{n:Nat}{A:Option aT}{l:List UInt8}(h:fP W W.a.j A n l)(hb:aM W.a.j W w1):fP w1 w1.a.j A n l:=(h.S hb).lu hb.j
theorem axN(b:Nat)(h:b<256):bits .and .b (b:Int) 63=((b%64:Nat):Int):=(by decide +kernel:∀b:Fin 256,bits .and .b ((b.val:Nat):Int) 63=((b.val%64:Nat):Int)) ⟨b,h⟩
theorem aau(W:ak)(p:Int)(A:Option aT)(n c:Nat)(l:List UInt8)(hnc:n<=c)(hc:c<=9223372036854775807/\n<=1000000000)(hr:fP W W.a.j A n l):aQ ah 95 #[.b .a p,.a A n c] W (PtP W (IU p l)):=by
 have HR:=ab hr;have hl:=ab hr.len;have b0:=ab (dL.new W qJ.ay 172);have B0:=ab ((aG W.a.j W).alloc (av _) (.D qJ.ay 172));clear hr;go_enter Tryz.func95,Tryz.ntmps95;by_cases hp:p≠6/\p≠17
 ·have q1:(p==6)=false:=by simp[hp.1]
  have q2:(p != 17)=true:=by simp[hp.2]
  have H:=ab (show IU p l=(qJ,5)from uI (by unfold uX;rw[if_pos hp]) (by decide));go_wp2;refine aN (RV.qD rfl _ rfl b0.i (Pt.G _)) rfl ?_;rw[H.i];exact⟨rfl,B0.i⟩
 have HP:=ab hp;by_cases p6:p=6
 ·subst p6
  by_cases h20:n<20
  ·have apq:(n:Int)<20:=by omega
   have H:=ab (show IU 6 l=(qJ,2)from uI (by unfold uX;rw[if_neg HP.i,if_pos rfl,if_pos (by rw[hl.i];exact h20)]) (by decide));go_wp2;refine aN (RV.qD rfl _ rfl b0.i (Pt.G _)) rfl ?_;rw[H.i];exact⟨rfl,B0.i⟩
  have apq:¬(n:Int)<20:=by omega
  have h8':¬(n:Int)<8:=by omega
  have R1:=HR.i.upon B0.i;have C0:=ab (MP _ A n c l 0 0 rfl (by omega) hnc (by omega) R1);go_upto_region 9 with(go_at_call 177;first|(refine C0.i.g ?_;rintro e w1 ⟨rfl,hb1⟩;have C2:=ab (MP w1 A n c l 2 2 rfl (by omega) hnc (by omega) ((HR.i.upon B0.i).upon hb1));clear C0)|(refine C2.i.g ?_;rintro e w2 ⟨rfl,hb2⟩))
  have B2:=ab (B0.i.trans (hb1.g B0.i.j));have B3:=ab (B2.i.trans (hb2.g B2.i.j));have R2:=ab (HR.i.upon B3.i);have b2:=ab ((b0.i.go hb1).go hb2);clear hb1 hb2 C2;obtain⟨k,hk⟩:=dw w2.a.j;obtain⟨w3,hw3⟩:=dw (w2.alloc (.D (Pt.mk (eU l 0) (eU l 2) 0 8 n).ay 172));have x3:=ab (show dL w3 k (Pt.mk (eU l 0) (eU l 2) 0 8 n).ay by rw[hw3,hk];exact dL.new _ _ _);have b3:=ab (show dL w3 W.a.j qJ.ay by rw[hw3];exact b2.i.alloc _);have R3:=ab (show fP w3 k A n l by rw[hw3,hk];exact R2.i.alloc (av _) _);have hlt:=b2.i.lt;have hs3:W.a.j<k:=by rw[hk];exact hlt
  rw[<-hw3,<-hk];have B4:=ab (show aM W.a.j W w3 by rw[hw3];exact B3.i.alloc B3.i.j _);clear hk hw3 hlt R2 b2 B2 B3 B0 b0;obtain⟨a,ea,hab,_⟩:=R3.i.fD (show 0<n by omega);subst ea;obtain⟨_,e12,h12⟩:=R3.i.WM 11 (by omega);cases e12;obtain⟨_,e13,h13⟩:=R3.i.WM 12 (by omega);cases e13;have hne:a.block≠k:=by omega
  have hne':k≠a.block:=by omega
  obtain⟨x1,x2,x4,x5⟩:=x3.i.K;obtain⟨i12,i13⟩:12<n/\13<n:=by omega
  have aCA:=uW l 12;have hA:=ab (axN _ (uW l 13));have hw1:bR.wrap ((nP l 12:Int)/16)=(nP l 12:Int)/16:=jT _ (by omega);have hw2:bR.wrap ((nP l 12:Int)/16*4)=(nP l 12:Int)/16*4:=jT _ (by omega);have hw3:wrap64 ((nP l 13%64:Nat):Int)=((nP l 13%64:Nat):Int):=by unfold wrap64;omega
  have hw1:=ab hw1;have hw2:=ab hw2;have hw3:=ab hw3;have hw4:bR.wrap ((nP l 13%64:Nat):Int)=((nP l 13%64:Nat):Int):=jT _ (by omega);have hw4:=ab hw4;clear aCA;go_region_held_law (fun W'=>W'.b ⟨a.block,a.off+12,none⟩=some (.b .b (nP l 12))/\W'.b ⟨a.block,a.off+13,none⟩=some (.b .b (nP l 13)))
   (first|exact⟨h12,h13⟩|go_keep) (fail)
  all_goals
   go_upto_region 11 with fail
  all_goals
   have eh:(nP l 12:Int)/16*4=((nP l 12/16*4:Nat):Int):=by omega
   simp only[hA.i,hw1.i,hw2.i,hw3.i,hw4.i,eh];obtain⟨g,hg⟩:=dw (nP l 13%64);obtain⟨h,hh⟩:=dw (nP l 12/16*4);have G0:=ab (show qv 6 l=⟨eU l 0,eU l 2,(g:Nat),(h:Nat),n⟩by unfold qv;rw[if_pos rfl,<-hg,<-hh,hl.i]);rw[<-hg,<-hh];clear hg hh eh hA hw1 hw2 hw3 hw4 h12 h13 x1 x2 x4 x5;have X1:=x3.i.eH 3 (.b .a (h:Int));rw[Pt.MJ]at X1;have X2:=X1.eH 2 (.b .a (g:Int));rw[Pt.OI]at X2;have b5:=(b3.i.dM ⟨k,3,none⟩ (.b .a (h:Int)) (by show k≠_;omega)).dM ⟨k,2,none⟩ (.b .a (g:Int)) (by show k≠_;omega);have B5:=((B4.i.F (p:=⟨k,3,none⟩) (mH hs3) (.b .a (h:Int))).F (p:=⟨k,2,none⟩) (mH hs3) (.b .a (g:Int))).drew;have X2:=X2.drew;have b5:=b5.drew;clear x3 b3 B4 R3 X1;generalize((w3.F ⟨k,3,none⟩ (.b .a (h:Int))).F ⟨k,2,none⟩ (.b .a (g:Int))).drew=w5 at *;have N20:=ab (show¬l.a<(if(6:Int)=6 then 20 else 8)by rw[if_pos rfl,hl.i];exact h20);have HE:=ab (fun(x:Pt)=>show dL (gN w5 W.a.j 0 x.ay) W.a.j x.ay/\aM W.a.j W (gN w5 W.a.j 0 x.ay)from⟨b5.put x.ay (by rw[Pt.G,Pt.G]),kX B5 _ _ _ (av _)⟩);have yI:=b5.O 0 5 (by rw[Pt.G];omega);obtain⟨y1,y2,y3,y4⟩:=X2.K;clear b5 B5 X2;have n8:¬(n:Int)<8:=by omega
   by_cases e1:h<20
   ·have q:(h:Int)<20:=by omega
    have H:=ab (show IU 6 l=(qJ,3)from uI (by unfold uX;rw[if_neg HP.i,if_neg N20.i,if_pos (.a ⟨rfl,by rw[G0.i];exact q⟩)]) (by decide));go_wp2;refine aN (RV.qD rfl _ rfl (HE.i qJ).1 (Pt.G _)) rfl ?_;rw[H.i];exact⟨rfl,(HE.i qJ).2⟩
   have q:¬(h:Int)<20:=by omega
   by_cases e2:n<h
   ·have q2:max (h:Int) n>n:=by omega
    have H:=ab (show IU 6 l=(qJ,2)from uI (by unfold uX;rw[if_neg HP.i,if_neg N20.i,if_neg (by rw[G0.i];rintro(h|h);exact q h.2;exact n8 h),if_pos (by rw[G0.i,hl.i];exact q2)]) (by decide));go_wp2;refine aN (RV.qD rfl _ rfl (HE.i qJ).1 (Pt.G _)) rfl ?_;rw[H.i];exact⟨rfl,(HE.i qJ).2⟩
   have q2:¬max (h:Int) n>n:=by omega
   have H:=ab (show IU 6 l=(qv 6 l,0)from UQ (by unfold uX;rw[if_neg HP.i,if_neg N20.i,if_neg (by rw[G0.i];rintro(h|h);exact q h.2;exact n8 h),if_neg (by rw[G0.i,hl.i];exact q2)]));rw[G0.i]at H;go_wp2;refine aN (RV.qD rfl _ rfl (HE.i ⟨eU l 0,eU l 2,(g:Nat),(h:Nat),n⟩).1 (Pt.G _)) rfl ?_;rw[H.i];exact⟨rfl,(HE.i _).2⟩
 ·obtain rfl:p=17:=by omega
  by_cases h20:n<8
  ·have apq:(n:Int)<8:=by omega
   have H:=ab (show IU 17 l=(qJ,2)from uI (by unfold uX;rw[if_neg HP.i,if_neg p6,if_pos (by rw[hl.i];exact h20)]) (by decide));go_wp2;refine aN (RV.qD rfl _ rfl b0.i (Pt.G _)) rfl ?_;rw[H.i];exact⟨rfl,B0.i⟩
  have h8':¬(n:Int)<8:=by omega
  have R1:=HR.i.upon B0.i;have C0:=ab (MP _ A n c l 0 0 rfl (by omega) hnc (by omega) R1);have q6:((17:Int)==6)=false:=rfl;go_upto_region 10 with(go_at_call 177;first|(refine C0.i.g ?_;rintro e w1 ⟨rfl,hb1⟩;have C2:=ab (MP w1 A n c l 2 2 rfl (by omega) hnc (by omega) ((HR.i.upon B0.i).upon hb1));clear C0)|(refine C2.i.g ?_;rintro e w2 ⟨rfl,hb2⟩))
  have B2:=ab (B0.i.trans (hb1.g B0.i.j));have B3:=ab (B2.i.trans (hb2.g B2.i.j));have R2:=ab (HR.i.upon B3.i);have b2:=ab ((b0.i.go hb1).go hb2);clear hb1 hb2 C2;obtain⟨k,hk⟩:=dw w2.a.j;obtain⟨w3,hw3⟩:=dw (w2.alloc (.D (Pt.mk (eU l 0) (eU l 2) 0 8 n).ay 172));have x3:=ab (show dL w3 k (Pt.mk (eU l 0) (eU l 2) 0 8 n).ay by rw[hw3,hk];exact dL.new _ _ _);have b3:=ab (show dL w3 W.a.j qJ.ay by rw[hw3];exact b2.i.alloc _);have R3:=ab (show fP w3 w3.a.j A n l by rw[hw3];exact(R2.i.alloc (av _) _).lu (by simp));have hlt:=b2.i.lt;have hs3:W.a.j<k:=by rw[hk];exact hlt
  rw[<-hw3,<-hk];have B4:=ab (show aM W.a.j W w3 by rw[hw3];exact B3.i.alloc B3.i.j _);clear hk hw3 hlt R2 b2 B2 B3 B0 b0;have C4:=ab (MP w3 A n c l 4 4 rfl (by omega) hnc (by omega) R3.i);have hk3:=x3.i.lt;go_upto_region 11 with(go_at_call 177;refine C4.i.g ?_;rintro e w4 ⟨rfl,hb4⟩;have b4:=ab (b3.i.go hb4);have x4:=ab (x3.i.go hb4);have B5:=ab (B4.i.trans (hb4.g B4.i.j));obtain⟨x5,x6,x7,x8⟩:=x4.i.K;clear hb4)
  obtain⟨t,ht⟩:=dw (eU l 4);have G0:=ab (show qv 17 l=⟨eU l 0,eU l 2,0,8,(t:Nat)⟩by unfold qv;rw[if_neg (by decide),<-ht]);rw[<-ht];clear ht;have X2:=x4.i.eH 4 (.b .a (t:Int));rw[Pt.OJ]at X2;have b5:=b4.i.dM ⟨k,4,none⟩ (.b .a (t:Int)) (by show k≠_;omega);have B6:=B5.i.F (p:=⟨k,4,none⟩) (mH hs3) (.b .a (t:Int));clear x3 b3 B4 R3 x4 b4 B5 x5 x6 x7 x8 C4;generalize w4.F ⟨k,4,none⟩ (.b .a (t:Int))=w5 at *;have N20:=ab (show¬l.a<(if(17:Int)=6 then 20 else 8)by rw[if_neg (by decide),hl.i];exact h20);have HE:=ab (fun(x:Pt)=>show dL (gN w5 W.a.j 0 x.ay) W.a.j x.ay/\aM W.a.j W (gN w5 W.a.j 0 x.ay)from⟨b5.put x.ay (by rw[Pt.G,Pt.G]),kX B6 _ _ _ (av _)⟩);have yI:=b5.O 0 5 (by rw[Pt.G];omega);obtain⟨y1,y2,y3,y4⟩:=X2.K;clear b5 B6 X2;by_cases e1:t<8
  ·have q:(t:Int)<8:=by omega
   have H:=ab (show IU 17 l=(qJ,3)from uI (by unfold uX;rw[if_neg HP.i,if_neg N20.i,if_pos (.b (by rw[G0.i];exact q))]) (by decide));go_wp2;refine aN (RV.qD rfl _ rfl (HE.i qJ).1 (Pt.G _)) rfl ?_;rw[H.i];exact⟨rfl,(HE.i qJ).2⟩
  have q:¬(t:Int)<8:=by omega
  by_cases e2:n<t
  ·have q2:max (8:Int) t>n:=by omega
   have H:=ab (show IU 17 l=(qJ,2)from uI (by unfold uX;rw[if_neg HP.i,if_neg N20.i,if_neg (by rw[G0.i];rintro(h|h);exact p6 h.1;exact q h),if_pos (by rw[G0.i,hl.i];exact q2)]) (by decide));go_wp2;refine aN (RV.qD rfl _ rfl (HE.i qJ).1 (Pt.G _)) rfl ?_;rw[H.i];exact⟨rfl,(HE.i qJ).2⟩
  have q2:¬max (8:Int) t>n:=by omega
  have H:=ab (show IU 17 l=(qv 17 l,0)from UQ (by unfold uX;rw[if_neg HP.i,if_neg N20.i,if_neg (by rw[G0.i];rintro(h|h);exact p6 h.1;exact q h),if_neg (by rw[G0.i,hl.i];exact q2)]));rw[G0.i]at H;go_wp2;refine aN (RV.qD rfl _ rfl (HE.i ⟨eU l 0,eU l 2,0,8,(t:Nat)⟩).1 (Pt.G _)) rfl ?_;rw[H.i];exact⟨rfl,(HE.i _).2⟩
def IV(n:Nat):Array aB:=((dS n (0:UInt8)).map bv).b
theorem acN(n:Nat):(IV n).j=n:=by simp[IV]
theorem afk(n:Nat):madeCells (aI .b 0).D n=IV n:=by
 apply dU;intro j;rcases aZ j n with h|h
 ·simp[madeCells,IV,bW,bv,h,Nat.mod_one]
 ·rw[aU (by simp[madeCells];omega),aU (by rw[acN];omega)]
theorem aiL(n:Nat)(hn:n<=16777216)(w:ak):(xI 56 (.b .a (n:Int)) (.b .a (n:Int))).I ah w=.ok (.a (some ⟨w.a.j,0,none⟩) n n) (w.alloc (.D (IV n) 5)):=by
 obtain⟨i0,hi0,hz0,hz1,hz2⟩:=zy;have:=run_makeSlice w 56 5 i0 _ cB hi0 hz0 .a .a (n:Int) (n:Int) (by omega) (Int.le_refl _) (by rw[hz1];simp;omega) (by rw[hz2];omega) (by omega);rw[this,hz1,Int.toNat_natCast,gB,afk]
def qP(p:Int)(l:List UInt8):Nat:=if p=0\/p=43\/p=60 then nP l 1*4+nP l 1*4+8 else if p=51 then nP l 1*4+8 else if p=44 then 8 else 0
def zJ(p:Int):Bool:=decide (p=0\/p=43\/p=60\/p=51\/p=44)
theorem P9(p:Int)(l:List UInt8):(0<qP p l)↔zJ p=true:=by
 unfold qP zJ;rw[decide_eq_true_eq];split
 ·rename_i h;constructor
  ·intro _;rcases h with h|h|h<;>simp[h]
  ·intro _;omega
 ·split
  ·rename_i h;simp[h]
  ·split
   ·rename_i h;simp[h]
   ·simp;omega
theorem afl(p:Int)(l:List UInt8):qP p l<=2048:=by
 have:=uW l 1;unfold qP
 repeat(first|split|omega)
theorem Qa(p:Int)(A:Option aT)(n c B:Nat)(l:List UInt8)(W:ak)(h2:2<=n)(hr:fP W B A n l):aQ ah 251 #[.b .a p,.a A n c] W fun e W'=>e=.a (.b .a (qP p l))/\W=W':=by
 obtain⟨a,rfl,hc⟩:=hr.WM 0 (by omega);have i1:1<n:=by omega
 have E:=ab (show∀b,b=nP l 1->qP p l=if p=0\/p=43\/p=60 then b*4+b*4+8 else if p=51 then b*4+8 else if p=44 then 8 else 0 from fun b h=>by rw[h];rfl);obtain⟨b,hb⟩:=dw (nP l 1);have Xb:b<256:=by rw[hb];exact uW l 1
 have E:=ab (E.i b hb);rw[<-hb]at hc;clear hb hr;have w1:=jT (b:Int) (by omega);have w2:=jT ((b:Int)*4) (by omega);have w3:=jT ((b:Int)*4+b*4) (by omega);have w4:=jT ((b:Int)*4+b*4+8) (by omega);have w5:=jT ((b:Int)*4+8) (by omega);by_cases p0:p=0
 ·subst p0
  go_enter Ce,Ag;go_wp2;go_ret;exact⟨by rw[E.i];simp,rfl⟩
 by_cases p43:p=43
 ·subst p43
  go_enter Ce,Ag;go_wp2;go_ret;exact⟨by rw[E.i];simp,rfl⟩
 by_cases p60:p=60
 ·subst p60
  go_enter Ce,Ag;go_wp2;go_ret;exact⟨by rw[E.i];simp,rfl⟩
 by_cases p51:p=51
 ·subst p51
  go_enter Ce,Ag;go_wp2;go_ret;exact⟨by rw[E.i];simp,rfl⟩
 by_cases p44:p=44
 ·subst p44
  go_enter Ce,Ag;go_wp2;go_ret;exact⟨by rw[E.i];simp,rfl⟩
 have q0:(p==0)=false:=by simp[p0]
 have q43:(p==43)=false:=by simp[p43]
 have q60:(p==60)=false:=by simp[p60]
 have q51:(p==51)=false:=by simp[p51]
 have q44:(p==44)=false:=by simp[p44]
 go_enter Ce,Ag;go_wp2;go_ret;exact⟨by rw[E.i];simp[p0,p43,p60,p51,p44],rfl⟩
@[go_sem]theorem atE(w:ak):(xI 56 (.b .a 8) (.b .a 8)).I ah w=.ok (.a (some ⟨w.a.j,0,none⟩) 8 8) (w.alloc (.D (IV 8) 5)):=aiL 8 (by decide) w
theorem fP.atF(W:ak):fP (W.alloc (.D (IV 8) 5)) (W.a.j+1) (some ⟨W.a.j,0,none⟩) 8 (dS 8 0):=by
 refine fP.MV (l:=dS 8 0) (mG _) (fun j hj=>?_);rw[mR,bl];rcases j with _|_|_|_|_|_|_|_|j
 all_goals first|rfl|(simp at hj;omega)
theorem UU(p:Int)(W:ak):aQ ah 250 #[.b .a p] W (gU W (.e (zJ p))):=by
 have C:=ab (Qa p _ 8 8 _ _ _ (by decide) (fP.atF W));have B:=ab ((aG W.a.j W).alloc (av _) (.D (IV 8) 5));have E:=ab (P9 p (dS 8 0));generalize qP p (dS 8 0)=x at *;go_enter Tryz.func250,Tryz.ntmps250;go_wp2_with (go_at_call 251;refine C.i.g ?_;rintro e w ⟨rfl,rfl⟩);go_ret;have e:decide (0<x)=zJ p:=by rw[bZ,<-E.i,decide_eq_true_eq]
 exact⟨congrArg (fun z=>ug (.e z)) e,B.i⟩
def K8(r:List UInt8):Bool:=decide (nP r 2≠0\/nP r 3/8≠0\/nP r 3%2=1)
theorem aiM:∀a:Fin 256,∀b:Fin 256,((256*a.val+b.val) &&& 65529==0) = !(decide (a.val≠0\/b.val/8≠0\/b.val%2=1)):=by decide +kernel
theorem apr(l:List UInt8)(k:Nat):eU l k=256*nP l k+nP l (k+1):=rfl
theorem alZ(r:List UInt8):(bits .and .a (eU r 2:Nat) 65529 != 0)=K8 r:=by
 have h1:(fT 64 (eU r 2:Nat)).e=eU r 2:=by rw[lQ,nC];exact fK (by have:=vG r 2;omega)
 have h2:eU r 2 &&& 65529<=eU r 2:=Nat.and_le_left;have h3:=vG r 2;have:bits .and .a (eU r 2:Nat) 65529=((eU r 2 &&& 65529:Nat):Int):=by
  show bR.wrap ((fT 64 (eU r 2:Nat) &&& fT 64 65529).e:Int)=_;rw[EO,h1,show(fT 64 65529).e=65529 by decide,jT _ (by omega)]
 rw[this];have h4:=aiM ⟨nP r 2,uW r 2⟩ ⟨nP r 3,uW r 3⟩;simp only at h4;rw[<-apr]at h4;unfold K8;rw[bZ,bne_iff_ne];have h5:=congrArg (fun z=>!z) h4;simp only[Bool.not_not]at h5;rw[<-h5];simp
def yJ:Nat->Sx->List UInt8->Sx×Int
 | 0,x,_=>if x.oG=true\/zJ x.aP=false then(x,0)else(qE,4)
 | f+1,x,r=>
   if x.oG=true\/zJ x.aP=false then(x,0)
   else if r.a<8\/r.a<qP x.aP r then(qE,2)
   else yJ f ⟨x.head+qP x.aP r,x.dz,x.Ei,decide (x.aP=44)&&K8 r,x.GL+1,(nP r 0:Nat),x.h,x.Y⟩ (r.f (qP x.aP r))
def aiN(l:List UInt8):fq:=⟨true,pY 16 l⟩
def sx0(l:List UInt8):Sx:=⟨40,40+eU l 4,(nP l 7:Nat),false,0,(nP l 6:Nat),aiN (l.f 8),aiN (l.f 24)⟩
def Av(l:List UInt8):Sx×Int:=
 if l.a<40 then(qE,2)else if nP l 0/16≠6 then(qE,3)else if l.a<40+eU l 4 then(qE,2)
 else yJ 8 (sx0 l) ((l.d (40+eU l 4)).f 40)
theorem MW{f:Nat}{x:Sx}{r:List UInt8}(h:x.oG=true\/zJ x.aP=false):yJ f x r=(x,0):=by cases f<;>simp[yJ,h]
theorem XV{x:Sx}{r:List UInt8}(h:x.oG=false)(h':zJ x.aP=true):yJ 0 x r=(qE,4):=by simp[yJ,h,h']
theorem K9{f:Nat}{x:Sx}{r:List UInt8}(h:x.oG=false)(h':zJ x.aP=true)(hs:r.a<8\/r.a<qP x.aP r):yJ (f+1) x r=(qE,2):=by simp[yJ,h,h',hs]
theorem XW{f:Nat}{x:Sx}{r:List UInt8}(h:x.oG=false)(h':zJ x.aP=true)(hs:¬(r.a<8\/r.a<qP x.aP r)):
 yJ (f+1) x r=yJ f ⟨x.head+qP x.aP r,x.dz,x.Ei,decide (x.aP=44)&&K8 r,x.GL+1,(nP r 0:Nat),x.h,x.Y⟩ (r.f (qP x.aP r)):=by simp[yJ,h,h',hs]
theorem iw{place:Nat->Option (Nat×Nat)}{cells c':Array aB}{i off:Nat}{v:aB}{rest:List (Nat×aB)}(hp:place i=some (off,1))(hv:v.D = #[v])(hf:off+1<=cells.j)(h:cells.b off v=c'):fu place cells ((i,v)::rest)=fu place c' rest:=by
 rw[DV place cells i off 1 v rest hp (by rw[hv];rfl) hf,hv,akj,h]
theorem sO{place:Nat->Option (Nat×Nat)}{cells c' x:Array aB}{i off n:Nat}{rest:List (Nat×aB)}(hp:place i=some (off,n))(hx:x.j=n)(hf:off+n<=cells.j)(h:sF cells off x=c'):fu place cells ((i,.d x)::rest)=fu place c' rest:=by
 rw[DV place cells i off n (.d x) rest hp (by rw[NR];exact hx) hf,NR,h]
theorem Sx.OJ(x:Sx)(v:Int):x.ay.b 1 (.b .a v)=({x with dz:=v}:Sx).ay:=by simp[Sx.ay,aL,fq.G]
theorem Sx.aps(x:Sx)(v:Int):x.ay.b 2 (.b .a v)=({x with Ei:=v}:Sx).ay:=by simp[Sx.ay,aL,fq.G]
theorem Sx.aav(x:Sx)(t:fq):sF x.ay 6 t.ay=({x with h:=t}:Sx).ay:=by
 unfold Sx.ay;exact qL (by rw[fq.G,fq.G]) 6 rfl
theorem Sx.RY(x:Sx)(t:fq):sF x.ay 23 t.ay=({x with Y:=t}:Sx).ay:=by
 unfold Sx.ay;have:=qL (p:=#[.b .a x.head,.b .a x.dz,.b .a x.Ei,.e x.oG,.b .a x.GL,.b .a x.aP]++x.h.ay) (q:=x.Y.ay) (r:=#[]) (v:=t.ay) (by rw[fq.G,fq.G]) 23 (by simp[fq.G]);simpa[fQ]using this
theorem Sx.aas(x:Sx)(v:Vector UInt8 16):sF x.ay 7 (iZ v)=({x with h:=⟨x.h.h,v⟩}:Sx).ay:=by
 unfold Sx.ay;rw[fq.IQ x.h,fq.IQ ⟨x.h.h,v⟩];have:=qL (p:=#[.b .a x.head,.b .a x.dz,.b .a x.Ei,.e x.oG,.b .a x.GL,.b .a x.aP] ++ #[.e x.h.h]) (q:=iZ x.h.b) (r:=x.Y.ay) (v:=iZ v) (by rw[dK,dK]) 7 rfl;simpa[fQ]using this
theorem Sx.aar(x:Sx)(v:Vector UInt8 16):sF x.ay 24 (iZ v)=({x with Y:=⟨x.Y.h,v⟩}:Sx).ay:=by
 unfold Sx.ay;rw[fq.IQ x.Y,fq.IQ ⟨x.Y.h,v⟩];have:=qL (p:=#[.b .a x.head,.b .a x.dz,.b .a x.Ei,.e x.oG,.b .a x.GL,.b .a x.aP]++x.h.ay ++ #[.e x.Y.h]) (q:=iZ x.Y.b) (r:=#[]) (v:=iZ v) (by rw[dK,dK]) 24 (by simp[fq.G]);simpa[fQ]using this
@[go_sem]theorem aCB(W:ak)(a b c d:Int)(s t:fq):(uL 189 #[(0,.b .a a),(1,.b .a b),(5,.b .a c),(2,.b .a d),(6,.d s.ay),(7,.d t.ay)]).I ah W=.ok (.d (Sx.mk a b d false 0 c s t).ay) W:=kSx.bd W _ _ _ _ oV (ato W _ oV) (by
 refine(iw rfl rfl (by rw[Sx.G];omega) (Sx.MJ _ _)).trans ?_;refine(iw rfl rfl (by rw[Sx.G];omega) (Sx.OJ _ _)).trans ?_;refine(iw rfl rfl (by rw[Sx.G];omega) (Sx.XT _ _)).trans ?_;refine(iw rfl rfl (by rw[Sx.G];omega) (Sx.aps _ _)).trans ?_;refine(sO rfl (fq.G _) (by rw[Sx.G];omega) (Sx.aav _ _)).trans ?_;refine(sO rfl (fq.G _) (by rw[Sx.G];omega) (Sx.RY _ _)).trans ?_;rfl)
@[go_sem ↓]theorem aFO(ps:Array (Nat×aB)):fI 27 ps=uL 27 ps:=rfl
theorem axO(w:ak)(fs:Array nU)(h:ah.k 27=some (.d fs)):(iA (fun f=>Prod.mk f.Z <$> sizeOf f.p) fs:xk (Array (Nat×Nat))).I ah w=.ok #[(0,1),(1,16)] w:=by
 have e:=eY;rw[h]at e;cases e;show _=_
 kernel_rfl
theorem fq.apt(x:fq)(v:Bool):x.ay.b 0 (.e v)=({x with h:=v}:fq).ay:=by rw[fq.IQ,fq.IQ];simp[aL]
@[go_sem]theorem avF(W:ak)(v:Bool):(uL 27 #[(0,.e v)]).I ah W=.ok (.d (fq.mk v mY.b).ay) W:=aaj.bd W _ _ _ _ eY (axO W _ eY) (by
 refine(iw rfl rfl (by rw[fq.G];omega) (fq.apt _ _)).trans ?_;rfl)
def Bx(L:List (Nat×Array aB))(W0 W:ak):Prop:=aM W0.a.j W0 W/\∀p∈L,W0.a.j<=p.1/\dL W p.1 p.2
section
variable {L:List (Nat×Array aB)} {W0 W W':ak} {q:Nat} {c:Array aB}
theorem Bx.start(W0:ak):Bx [] W0 W0:=⟨aG _ _,fun p hp=>by cases hp⟩
theorem Bx.R(h:Bx L W0 W):aM W0.a.j W0 W:=h.1
theorem Bx.go(h:Bx L W0 W)(hb:aM W.a.j W W'):Bx L W0 W':=⟨h.1.trans (hb.g h.1.j),fun p hp=>⟨(h.2 p hp).1,(h.2 p hp).2.go hb⟩⟩
theorem Bx.drew(h:Bx L W0 W):Bx L W0 W.drew:=⟨h.1.drew,fun p hp=>⟨(h.2 p hp).1,(h.2 p hp).2.drew⟩⟩
theorem Bx.drewN(h:Bx L W0 W)(k:Nat):Bx L W0 (W.drewN k):=⟨fH h.1 k,fun p hp=>⟨(h.2 p hp).1,(h.2 p hp).2.drewN k⟩⟩
theorem Bx.alloc(h:Bx L W0 W)(ob:Obj):Bx L W0 (W.alloc ob):=h.go ((aG _ _).alloc (av _) ob)
theorem Bx.new(h:Bx L W0 W)(c:Array aB)(t:bK):Bx ((W.a.j,c)::L) W0 (W.alloc (.D c t)):=
 ⟨h.1.alloc h.1.j _,fun p hp=>by
  rcases bC.1 hp with rfl|hp
  ·exact⟨h.1.j,dL.new W c t⟩
  ·exact⟨(h.2 p hp).1,(h.2 p hp).2.alloc _⟩⟩
theorem Bx.X(h:Bx ((q,c)::L) W0 W):dL W q c:=(h.2 (q,c) (by simp)).2
theorem Bx.g0(h:Bx ((q,c)::L) W0 W):W0.a.j<=q:=(h.2 (q,c) (by simp)).1
theorem Bx.NH{p:Nat×Array aB}(h:Bx (p::L) W0 W):Bx L W0 W:=⟨h.1,fun r hr=>h.2 r (iX _ hr)⟩
theorem Bx.b1{p:Nat×Array aB}(h:Bx (p::(q,c)::L) W0 W):dL W q c:=h.NH.X
theorem Bx.b2{p p2:Nat×Array aB}(h:Bx (p::p2::(q,c)::L) W0 W):dL W q c:=h.NH.NH.X
theorem Bx.b3{p p2 p3:Nat×Array aB}(h:Bx (p::p2::p3::(q,c)::L) W0 W):dL W q c:=h.NH.NH.NH.X
theorem Bx.swap{p p2:Nat×Array aB}(h:Bx (p::p2::L) W0 W):Bx (p2::p::L) W0 W:=⟨h.1,fun r hr=>h.2 r (by simp at hr⊢;rcases hr with h|h|h<;>simp[h])⟩
theorem Bx.sub{L':List (Nat×Array aB)}(h:Bx L W0 W)(hs:∀p∈L',p∈L):Bx L' W0 W:=⟨h.1,fun p hp=>h.2 p (hs p hp)⟩
theorem Bx.set(h:Bx ((q,c)::L) W0 W)(hL:∀p∈L,p.1≠q)(j:Nat)(u:aB):Bx ((q,c.b j u)::L) W0 (W.F ⟨q,j,none⟩ u):=
 ⟨h.1.F h.g0 u,fun p hp=>by
  rcases bC.1 hp with rfl|hp
  ·exact⟨h.g0,h.X.eH j u⟩
  ·have:=h.2 p (by simp[hp]);exact⟨this.1,this.2.dM _ u (fun e=>hL p hp e.symm)⟩⟩
theorem Bx.lay(h:Bx ((q,c)::L) W0 W)(hL:∀p∈L,p.1≠q)(o:Nat)(x:Array aB):Bx ((q,sF c o x)::L) W0 (gN W q o x):=
 ⟨kX h.1 q o x h.g0,fun p hp=>by
  rcases bC.1 hp with rfl|hp
  ·exact⟨h.g0,by have:=h.X.setCells o x.a;simpa[gN]using this⟩
  ·have:=h.2 p (by simp[hp]);exact⟨this.1,this.2.gy (hL p hp)⟩⟩
theorem Bx.put(h:Bx ((q,c)::L) W0 W)(hL:∀p∈L,p.1≠q)(x:Array aB)(hx:x.j=c.j):Bx ((q,x)::L) W0 (gN W q 0 x):=
 ⟨kX h.1 q 0 x h.g0,fun p hp=>by
  rcases bC.1 hp with rfl|hp
  ·exact⟨h.g0,h.X.put x hx⟩
  ·have:=h.2 p (by simp[hp]);exact⟨this.1,this.2.gy (hL p hp)⟩⟩
theorem Bx.MX{A:Option aT}{n:Nat}{l:List UInt8}(h:Bx L W0 W)(hr:fP W0 W0.a.j A n l):fP W W.a.j A n l:=(hr.S h.1).lu h.1.j
theorem Bx.rdR{α:Type}{f:α->Array aB}{s:Nat}{A:Option aT}{n:Nat}{l:List α}(h:Bx L W0 W)(hr:iR f s W0 W0.a.j A n l):iR f s W W.a.j A n l:=(hr.S h.1).lu h.1.j
end
theorem fP.UW{w:ak}{B n:Nat}{a:aT}{l:List UInt8}(h:fP w B (some a) n l)(k:Nat)(hk:k+1<n):w.b ⟨a.block,a.off+(k+1),none⟩=some (.b .b (nP l (k+1))):=by
 obtain⟨_,he,hc⟩:=h.WM k hk;cases he;exact hc
theorem fP.arq{w:ak}{B n:Nat}{a:aT}{l:List UInt8}(h:fP w B (some a) n l)(hk:0<n):w.b a=some (.b .b (nP l 0)):=by
 obtain⟨_,he,_,hc⟩:=h.fD hk;cases he;rw[NQ]at hc;exact hc
theorem fP.ag0{w:ak}{B n:Nat}{A:Option aT}{l:List UInt8}(h:fP w B A n l)(hk:0<n):∃a,A=some a/\a.block<B:=by
 obtain⟨a,he,hb,_⟩:=h.fD hk;exact⟨a,he,hb⟩
def vH(A:Option aT)(z c s:Nat):Option aT:=if c=z then A else A.map (·.add (z*s))
theorem fP.acO{w:ak}{B n:Nat}{A:Option aT}{l:List UInt8}(h:fP w B A n l){z b c:Nat}(hz:z<=b)(hb:b<=n)(hc:n<=c):fP w B (vH A z c 1) (b-z) ((l.d b).f z):=by
 have:=h.PY hz hb hc;rw[<-List.drop_take]at this;unfold vH;rw[gB];exact this
theorem fP.yG{w:ak}{B n:Nat}{A:Option aT}{l:List UInt8}(h:fP w B A n l){z c:Nat}(hz:z<=n)(hc:n<=c):fP w B (vH A z c 1) (n-z) (l.f z):=by
 have:=h.from hz hc
 unfold vH;rw[gB];exact this
section
variable {P:eG} (w:ak) (t:bK) (a:Option aT) (len cap:Nat) (ht:P.k t=some (.a (P.elem t)))
include ht
theorem iU(kl kh:IntKind)(l h:Int)(h0:0<=l)(h1:l<=h)(h2:h<=cap):
 (Instr.slice t (.a a len cap) (some (.b kl l)) (some (.b kh h)) none).I P w =
  ((sizeOf (P.elem t)).I P w).andThen fun s w=>.ok (.a (vH a l.e cap s) (h.e-l.e) (cap-l.e)) w:=by
 rw[run_slice_lh w t a len cap ht kl kh l h h0 h1 h2];rfl
theorem jE(kl:IntKind)(l:Int)(h0:0<=l)(h1:l<=len):
 (Instr.slice t (.a a len cap) (some (.b kl l)) none none).I P w =
  ((sizeOf (P.elem t)).I P w).andThen fun s w=>.ok (.a (vH a l.e cap s) (len-l.e) (cap-l.e)) w:=by
 rw[run_slice_l w t a len cap ht kl l h0 h1];rfl
end
section
variable {P:eG} {md:Region.Mode}
def kV(o:iV):iV:={o with op:=.move (.const undef)}
def FM(ops:Array iV)(k n d:Nat):Bool:=(dV n).all fun j=>j==k||(match ops[j]? with|some o=>!(o.looksAt ops).contains d&&o.Y != some d|none=>true)
def Qb:List iV->Bool
 | []=>true
 | o::l=>(match o.Y with|some d=>l.all fun p=>p.Y != some d|none=>true)&&Qb l
theorem FP:∀{l:List iV},Qb l=true->∀{i j:Nat} {oi oj:iV} {d:Nat},l[i]? = some oi->l[j]? = some oj->oi.Y=some d->oj.Y=some d->i=j
 | [],_,i,j,oi,oj,d,hi,_,_,_=>by simp at hi
 | o::l,h,i,j,oi,oj,d,hi,hj,di,dj=>by
   simp only[Qb,bf]at h;obtain⟨h1,h2⟩:=h;rcases i with _|i<;>rcases j with _|j
   ·rfl
   ·simp at hi hj
    subst hi;rw[di]at h1;have:=gF.1 h1 oj (List.mem_of_getElem? hj);simp[dj]at this
   ·simp at hi hj
    subst hj;rw[dj]at h1;have:=gF.1 h1 oi (List.mem_of_getElem? hi);simp[di]at this
   ·simp at hi hj
    rw[FP h2 hi hj di dj]
def WO(P:eG)(md:Region.Mode)(ops:Array iV)(C:ak->Prop)(n g:Nat)(aF:qQ):Nat->Array Bool->qQ->Prop:=
 wqL P md ops C n (fun listed a=>lg md ops g n listed=true/\a=aF)
theorem MZ{listed:Array Bool}{j:Nat}(h:listed.c j true=false){i:Nat}(hij:j≠i):(listed.b i true).c j true=false:=by rw[xq true (jl hij)];exact h
theorem DC{listed:Array Bool}{i j:Nat}(h:(listed.b i true).c j true=false):listed.c j true=false:=by
 by_cases hij:i=j
 ·subst hij
  rcases aZ i listed.j with h1|h1
  ·simp[h1]at h
  ·simp[aU h1]at h
 ·rwa [xq true hij]at h
theorem zK{listed:Array Bool}{i j:Nat}(h:(listed.b i true).c j true=false):j≠i:=by
 rintro rfl;rcases aZ j listed.j with h1|h1
 ·simp[h1]at h
 ·simp[aU h1]at h
theorem Bz{ops:Array iV}{C:ak->Prop}{n g:Nat}{aF:qQ}:∀(f:Nat)(listed:Array Bool)(a:qQ),WO P md ops C n g aF f listed a ->
 aF.defers=a.defers/\aF.tmps.j=a.tmps.j/\∀d,(∀j oj,ops[j]? = some oj->listed.c j true=false->oj.Y≠some d)->aF.tmps[d]? = a.tmps[d]?
 | 0,listed,a,h=>by obtain⟨_,rfl⟩:=h;exact⟨rfl,rfl,fun _ _=>rfl⟩
 | f+1,listed,a,h=>by
   obtain⟨h0,h1⟩:=h;obtain⟨i,hi⟩:=List.exists_mem_of_ne_nil _ h0;obtain⟨hun,oi,hoi,_⟩:=kD.1 hi;obtain⟨v,_,hK⟩:=qN hoi (h1 i hi).2;obtain⟨e1,e2,e3⟩:=Bz f _ _ hK;have ed:(a.put oi.Y v).defers=a.defers:=by cases oi.Y<;>rfl
   have es:(a.put oi.Y v).tmps.j=a.tmps.j:=by cases oi.Y<;>simp[lJ]
   refine⟨e1.trans ed,e2.trans es,fun d hd=>?_⟩;rw[e3 d fun j oj hj hl=>hd j oj hj (DC hl)];have:=hd i oi hoi hun;cases h2:oi.Y with
   | none=>rfl
   | some e=>
     have:e≠d:=fun e'=>this (by rw[h2,e'])
     simp[lJ,dO,this]
theorem acP{l:List iV}(hD:Qb l=true){C C':ak->Prop}{n g f:Nat}{aF:qQ}{listed:Array Bool}{a:qQ}{i:Nat}{oi:iV}(hi:i∈fU md l.b listed)(hoi:l.b[i]? = some oi)
 (h:WO P md l.b C n g aF (f+1) listed a) (h':WO P md l.b C' n g aF (f+1) listed a) :
 ∃v v',YieldsIn P l.b C oi v a/\WO P md l.b C n g aF f (listed.b i true) (a.put oi.Y v)/\YieldsIn P l.b C' oi v' a/\WO P md l.b C' n g aF f (listed.b i true) (a.put oi.Y v')/\a.put oi.Y v=a.put oi.Y v':=by
 obtain⟨v,hy,hK⟩:=qN hoi (h.2 i hi).2;obtain⟨v',hy',hK'⟩:=qN hoi (h'.2 i hi).2;refine⟨v,v',hy,hK,hy',hK',?_⟩;cases hd:oi.Y with
 | none=>rfl
 | some d=>
   have hno:∀j oj,l.b[j]? = some oj->(listed.b i true).c j true=false->oj.Y≠some d:=fun j oj hj hl hdj=>by
    have:=FP hD (by simpa using hoi) (by simpa using hj) hd hdj;exact zK hl this.symm
   have e1:=(Bz f _ _ hK).2.2 d hno;have e2:=(Bz f _ _ hK').2.2 d hno;rw[hd]at e1 e2;have e:=e1.symm.trans e2;simp only[lJ,dO,if_pos]at e ⊢;by_cases hs:d<a.tmps.j
   ·simp[hs]at e;rw[e]
   ·have hs':=Nat.le_of_not_lt hs
    rw[jO hs',jO hs']
theorem M7(a:qQ)(d:Nat)(u v:aB):(a.put (some d) u).put (some d) v=a.put (some d) v:=by simp[lJ]
theorem Gq{ops:Array iV}{C:ak->Prop}{o:iV}{a:qQ}{K:qQ->Prop}{K':qQ->ak->Prop}{Q':zO->qQ->ak->Prop}{w:ak}{d:Nat}{u:aB}(hs:∀cs b,o.op≠.select cs b)(hl:d∉o.looksAt ops)(hd:o.Y≠some d)
 (hw:C w) (h:∀a w',C w'->K a->K' (a.put (some d) u) w') (hh:o.quiet P a C K):o.wp P (a.put (some d) u) w K' Q':=by
 obtain⟨v,h1,h2⟩:=hh;have h3:=h1 w hw;have e:execOp (a.put (some d) u).eval o=execOp a.eval o:=execOp_put o hs a (some d) u (fun e he=>by cases he;exact hl);have c:∀x,(a.put (some d) u).put o.Y x=(a.put o.Y x).put (some d) u:=fun x=>Act.put_comm a u x (fun e he=>by cases he;exact hd)
 unfold Oper.quietAt at h3;unfold nu;rw[e];generalize(execOp a.eval o).I P w=r at *;cases r with
 | ok n w'=>
   cases n<;>simp only[Oper.quietUpon]at h3<;>simp only[Ls]
   case value x=>
    obtain⟨e1,e2⟩:=h3;rw[e1,e2,c];exact h _ _ hw h2
   case skip=>
    obtain⟨e1,e2⟩:=h3;rw[e1,c,<-e2];exact h _ _ hw h2
   case enter f args=>
    obtain⟨e1,hc⟩:=h3;rw[e1];exact hc.g fun e w'' ⟨he,hw''⟩=>by subst he;dsimp only;rw[c];exact h _ _ hw'' h2
 | halt x w'=>simp only[Oper.quietUpon]at h3
def Shut(S:ak->Prop):Prop:=∀w w',S w->aM w.a.j w w'->S w'
theorem acQ{l:List iV}{k:Nat}{o:iV}(hk:l[k]? = some o)(tmps:Array aB):yielded (l.set k (kV o)).b tmps=yielded l.b tmps:=by
 funext j;unfold yielded;have:((l.set k (kV o)).b[j]?).bind (·.Y)=(l.b[j]?).bind (·.Y):=by
  simp only[dZ,fF];split
  ·rename_i h
   subst h;have:=(iF.1 hk).1;rw[hk];simp[this,kV]
  ·rfl
 rw[this]
theorem acR{l:List iV}{k:Nat}{o:iV}(hk:l[k]? = some o)(listed:Array Bool):fU md (l.set k (kV o)).b listed=fU md l.b listed:=by
 unfold fU;have hsz:(l.set k (kV o)).b.j=l.b.j:=by simp
 rw[hsz];refine EI fun i _=>?_
 by_cases hik:i=k
 ·subst hik
  obtain⟨hl,hlo⟩:=iF.1 hk;simp[fF,hl,hlo,kV]
 ·simp[fF,jl hik]
theorem JM{l:List iV}{k:Nat}{o:iV}(hk:l[k]? = some o)(listed:Array Bool)(i:Nat):i∈fU md (l.set k (kV o)).b listed↔i∈fU md l.b listed:=by rw[acR hk]
section
variable {l:List iV} {k n g d:Nat} {o:iV} {T:bK} {z:Array aB} {aF:qQ} {Q:zO->qQ->ak->Prop}
theorem XZ(hk:l[k]? = some o){i:Nat}(hik:i≠k):(l.set k (kV o)).b[i]? = l.b[i]?:=by
 simp[fF,jl hik]
theorem UY(hA:FM l.b k n d=true){i:Nat}{oi:iV}(hin:i<n)(hik:i≠k)(hoi:l.b[i]? = some oi):d∉oi.looksAt l.b/\oi.Y≠some d:=by
 have:=gF.1 hA i (eu.2 hin);simp only[hoi,ny,beq_iff_eq,bf]at this;rcases this with h|h
 ·exact absurd h hik
 ·exact⟨by simpa using h.1,by simpa using h.2⟩
theorem UZ(hk:l[k]? = some o)(oi:iV)(tmps:Array aB):fB oi (yielded (l.set k (kV o)).b tmps)=fB oi (yielded l.b tmps):=by rw[acQ hk]
theorem La(hk:l[k]? = some o)(hA:FM l.b k n d=true)(hsel:∀(j:Nat)(o:iV) cs b,l.b[j]? = some o->o.op≠.select cs b){C:ak->Prop}{u:aB}
 (hend:∀listed w',C w'->lg md (l.set k (kV o)).b g n listed=true->wpAny P md l.b Q g listed (aF.put (some d) u) w') :
 ∀(f:Nat)(listed:Array Bool)(a:qQ)(w:ak),listed.c k true=true->C w->WO P md (l.set k (kV o)).b C n g aF f listed a->wpAny P md l.b Q (f+g) listed (a.put (some d) u) w
 | 0,listed,a,w,hun,hw,h=>by
   obtain⟨h1,rfl⟩:=h;rw[bl];exact hend _ _ hw h1
 | f+1,listed,a,w,hun,hw,h=>by
   rw[show f+1+g=(f+g)+1 by omega];refine⟨fun h0=>absurd ?_ h.1,fun i hi=>?_⟩
   ·rw[tJ]
    intro i hi;rw[JM hk]at hi;rw[h0]at hi;cases hi
   ·have hi':=(JM hk listed i).2 hi
    have hik:i≠k:=fun e=>by
     subst e;have:=(kD.1 hi).1;rw[hun]at this;cases this
    obtain⟨_,oi,hoi,_⟩:=kD.1 hi;obtain⟨hin,hq⟩:=h.2 i hi';obtain⟨hl,hd⟩:=UY hA hin hik hoi;have hun':∀i,(listed.b i true).c k true=true:=fun i=>by
     by_cases e:i=k
     ·subst e
      rcases aZ i listed.j with h1|h1
      ·simp[h1]
      ·simp[aU h1]
     ·rw[xq true e];exact hun
    unfold qOp at hq;rw[XZ hk hik,hoi]at hq;unfold wpOp;simp only[hoi];simp only[UZ hk]at hq;rw[wanted_put oi a (some d) u (fun e he=>by cases he;exact hl)];split
    ·rename_i hw2
     simp only[hw2,if_true]at hq;exact .a (Gq (fun cs b=>hsel i oi cs b hoi) hl hd hw (fun a' w' hw' h'=>La hk hA hsel hend f _ a' w' (hun' i) hw' h') hq)
    ·rename_i hw2
     simp only[hw2]at hq;rw[Act.put_comm a u undef (fun e he=>by cases he;exact hd)];exact La hk hA hsel hend f _ _ w (hun' i) hw hq
theorem U0{S:ak->Prop}(hS:Shut S)(w0:ak):Shut fun w=>S w/\aM w0.a.j w0 w:=fun w w' h hb=>⟨hS w w' h.1 hb,h.2.trans (hb.g h.2.j)⟩
theorem Ya(hk:l[k]? = some o)(hkn:k<n)(hA:FM l.b k n d=true)(hD:Qb (l.set k (kV o))=true)(hsel:∀(j:Nat)(o:iV) cs b,l.b[j]? = some o->o.op≠.select cs b)
 (hod:o.Y=some d) (hog:o.guard=none) (hoa:o.after = #[]) (hrun:∀(a:qQ) w,(execOp a.eval o).I P w=.ok (.value (.c (some ⟨w.a.j,0,none⟩))) (w.alloc (.D z T))) {S:ak->Prop} (hS:Shut S)
 (hend:∀listed w1 w',S w1->S w'->aM (w1.alloc (.D z T)).a.j (w1.alloc (.D z T)) w'->lg md (l.set k (kV o)).b g n listed=true->wpAny P md l.b Q g listed (aF.put (some d) (.c (some ⟨w1.a.j,0,none⟩))) w') :
 ∀(f:Nat)(listed:Array Bool)(a:qQ)(w:ak),listed.j=l.a->listed.c k true=false->S w->(∀C:ak->Prop,(∀w,C w->S w)->Shut C->(∃w,C w)->WO P md (l.set k (kV o)).b C n g aF f listed a)->wpAny P md l.b Q (f+g) listed a w
 | 0,listed,a,w,hsz,hun,hw,H=>by
   obtain⟨h1,_⟩:=H S (fun _ h=>h) hS ⟨w,hw⟩;have hkl:k<l.a:=(iF.1 hk).1;have:k∈fU md (l.set k (kV o)).b listed:=kD.2 ⟨hun,kV o,by simp[fF,hkl],fun e he=>by simp[kV,hoa]at he⟩;have:=seqB_ready h1 k this;omega
 | f+1,listed,a,w,hsz,hun,hw,H=>by
   rw[show f+1+g=(f+g)+1 by omega];have H0:=H S (fun _ h=>h) hS ⟨w,hw⟩;have hkl:k<l.a:=(iF.1 hk).1;refine⟨fun h0=>absurd ?_ H0.1,fun i hi=>?_⟩
   ·rw[tJ]
    intro i hi;rw[JM hk]at hi;rw[h0]at hi;cases hi
   ·have hi':=(JM hk listed i).2 hi
    by_cases hik:i=k
    ·subst hik
     unfold wpOp;simp only[dZ,hk];rw[if_pos (by simp[fB,hog])];refine .a ?_;unfold nu;rw[hrun];simp only[Ls,hod];have hC:=H (fun w'=>S w'/\aM (w.alloc (.D z T)).a.j (w.alloc (.D z T)) w') (fun _ h=>h.1) (U0 hS _) ⟨_,hS _ _ hw ((aG _ _).alloc (av _) _),aG _ _⟩;obtain⟨v,_,hK⟩:=qN (o:=kV o) (by simp[fF,hkl]) (hC.2 i hi').2;have:=La (C:=fun w'=>S w'/\aM (w.alloc (.D z T)).a.j (w.alloc (.D z T)) w') (u:=.c (some ⟨w.a.j,0,none⟩)) hk hA hsel (fun listed' w' hw' hB=>hend listed' w w' hw hw'.1 hw'.2 hB) f _ _ (w.alloc (.D z T)) (by
      have:i<listed.j:=by rw[hsz];exact hkl
      simp[this]) ⟨hS _ _ hw ((aG _ _).alloc (av _) _),aG _ _⟩ hK
     have e:(kV o).Y=some d:=hod;rw[e,M7]at this;exact this
    ·obtain⟨_,oi,hoi,_⟩:=kD.1 hi
     have afm:(l.set k (kV o)).b[i]? = some oi:=by rw[XZ hk hik];exact hoi
     obtain⟨v,hy,hK⟩:=qN afm (H0.2 i hi').2;have hq:qOp P l.b S i (fun a'=>a'=a.put oi.Y v) a:=by
      unfold qOp;simp only[hoi];unfold YieldsIn at hy;simp only[UZ hk]at hy;rcases hy with⟨h1,h2⟩|⟨h1,rfl⟩
      ·simp only[h1,if_true];exact⟨v,h2,rfl⟩
      ·simp only[h1,jF,if_false]
     refine wpOp_of_qOp hw (fun a' w' hw' e=>?_) hq;subst e;refine Ya hk hkn hA hD hsel hod hog hoa hrun hS hend f _ _ w' (by simp[hsz]) (MZ hun (jl hik)) hw' (fun C hC1 hC2 hC3=>?_);obtain⟨_,v2,_,_,_,hK2,_⟩:=acP hD hi' afm H0 (H C hC1 hC2 hC3);have e1:a.put oi.Y v=a.put oi.Y v2:=by
      cases hd:oi.Y with
      | none=>rfl
      | some dd=>
        have hno:∀j oj,(l.set k (kV o)).b[j]? = some oj->(listed.b i true).c j true=false->oj.Y≠some dd:=fun j oj hj hl hdj=>by
         have:=FP hD (by simpa using afm) (by simpa using hj) hd hdj;exact zK hl this.symm
        have q1:=(Bz f _ _ hK).2.2 dd hno;have q2:=(Bz f _ _ hK2).2.2 dd hno;rw[hd]at q1 q2;have q:=q1.symm.trans q2;simp only[lJ,dO,if_pos]at q ⊢;by_cases hs:dd<a.tmps.j
        ·simp[hs]at q;rw[q]
        ·have hs':=Nat.le_of_not_lt hs
         rw[jO hs',jO hs']
     rw[e1];exact hK2
end
theorem Bx.aaw(L:List (Nat×Array aB))(W0:ak):Shut (Bx L W0):=fun _ _ h hb=>h.go hb
theorem OO{S:ak->Prop}(hS:Shut S)(k n d:Nat){id:Nat}{Q:zO->qQ->ak->Prop}{a:qQ}{w:ak}{l:List iV}{o:iV}(T:bK)(z:Array aB)(hm:P.follows .mixedOrders=true)
 (hk:l[k]? = some o) (hB:xu .any (l.set k (kV o)).b n=true) (hkn:k<n) (hn':n<l.a) (hA:FM l.b k n d=true) (hD:Qb (l.set k (kV o))=true) (hsel:Region.noSelect l.b=true)
 (hod:o.Y=some d) (hog:o.guard=none) (hoa:o.after = #[]) (hrun:∀(a:qQ) w,(execOp a.eval o).I P w=.ok (.value (.c (some ⟨w.a.j,0,none⟩))) (w.alloc (.D z T))) (h0:S w.drew)
 (hh:∃aF:qQ,(∀(T:Type)(f:T->ak),Nonempty T->(∀m,S (f m))->(∀m w',aM (f m).a.j (f m) w'->∃m',w'=f m')->wpQuiet P (l.set k (kV o)).b (fun w'=>∃m,w'=f m) (fun a'=>a'=aF) ((l.set k (kV o)).d n) a)
 /\ (∀w1 w',S w1->S w'->aM (w1.alloc (.D z T)).a.j (w1.alloc (.D z T)) w'->wpList P l.b Q (l.f n) (aF.put (some d) (.c (some ⟨w1.a.j,0,none⟩))) w')):(Code.region id l.b true).wp P Q a w:=by
 obtain⟨aF,h,h2⟩:=hh;simp only[xu,bf,decide_eq_true_eq]at hB;obtain⟨⟨⟨⟨al0,hn⟩,hs⟩,hc⟩,hlex⟩:=hB;have hlen:(l.set k (kV o)).a=l.a:=by simp
 have hsz:(l.set k (kV o)).b.j=l.b.j:=by simp
 have htl:((l.set k (kV o)).d n).a=n:=by simp;omega
 have hdl:(l.f n).a=l.b.j-n:=by simp
 have inv0:HeadInv .any (l.set k (kV o)).b n (ni l.b.j false):=
  ⟨by simp,fun j oj _ hl=>(by rw[mJ]at hl;cases hl),fun t _ ht=>getD_in (by simpa using ht) (mJ _ _)⟩
 refine wp_region_any hm ?_;rw[hsz]at hlex;have hseq:∀listed,lg .any (l.set k (kV o)).b (l.b.j-n) n listed=true->lg .any l.b (l.b.j-n) n listed=true:=by
  have:∀(g:Nat)(j:Nat) listed,lg .any (l.set k (kV o)).b g j listed=true->lg .any l.b g j listed=true:=by
   have he:∀listed,fU .any (l.set k (kV o)).b listed=fU .any l.b listed:=acR hk;intro g
   induction g with
   | zero=>intro j listed h;simp only[lg]at h⊢;rwa [he]at h
   | succ g ih=>intro j listed h;simp only[lg,bf]at h⊢;rw[he]at h;exact⟨h.1,ih _ _ h.2⟩
  exact fun listed=>this _ _ listed
 have:=Ya (P:=P) (md:=.any) (g:=l.b.j-n) (aF:=aF) (Q:=Q) hk hkn hA hD (Region.noSelect_spec hsel) hod hog hoa hrun hS (fun listed w1 w' hw1 hw' hb hq=>by
  have:=wpAny_of_seq (P:=P) (md:=.any) (Q':=Q) (ops:=l.b) (l.f n) n listed (aF.put (some d) (.c (some ⟨w1.a.j,0,none⟩))) w' (fun j=>by simp[je]) (by rw[hdl];exact hseq _ hq) (h2 w1 w' hw1 hw' hb)
  rwa [hdl]at this) n (ni l.b.j false) a {w with drawn:=w.drawn+1} (by simp) (getD_in (by simp;omega) (mJ _ _)) h0 (fun C hC1 hC2 hC3=>by
  have hq:=h {w // C w} Subtype.val (let⟨w,hw⟩:=hC3;⟨⟨w,hw⟩⟩) (fun m=>hC1 _ m.2) (fun m w' hb=>⟨⟨w',hC2 _ _ m.2 hb⟩,rfl⟩);have e:(fun w':ak=>∃m:{w // C w},w'=m.val)=C:=by
   funext w';rw[eq_iff_iff];exact⟨fun⟨m,hm⟩=>by rw[hm];exact m.2,fun h=>⟨⟨w',h⟩,rfl⟩⟩
  rw[e]at hq;have:=Zp (md:=.any) (C:=C) (g:=l.b.j-n) al0 hs hc hn ((l.set k (kV o)).d n) 0 (ni l.b.j false) a (fun j hj=>by
   have hj':j<n:=by rw[htl]at hj;exact hj
   rw[gZ hj',bl];simp) (by simpa using htl) inv0 (by rw[htl];exact hlex) hq
  rw[htl]at this;exact this)
 rw[show n+(l.b.j-n)=l.b.j by simp;omega]at this;exact this
end
section
attribute [local go_sem high] iU jE
def slN:aB->Nat
 | .a _ n _=>n
 | _=>0
def SxP(W:ak)(r:Sx×Int)(e:kZ)(W':ak):Prop:=e=.a (.J #[.d r.1.ay,.b .a r.2])/\aM W.a.j W W'
theorem Qc(W:ak)(A:Option aT)(n c:Nat)(l:List UInt8)(hnc:n<=c)(hc:c<=9223372036854775807/\n<=1000000000)(hr:fP W W.a.j A n l):aQ ah 176 #[.a A n c] W (SxP W (Av l)):=by
 have HR:=ab hr;have hl:=ab hr.len;have b0:=ab ((Bx.start W).new qE.ay 189);clear hr;go_enter Tryz.func176,Tryz.ntmps176;by_cases h40:n<40
 ·have aCE:(n:Int)<40:=by omega
  have H:=ab (show Av l=(qE,2)by unfold Av;rw[if_pos (by rw[hl.i];exact h40)]);go_wp2;refine aN (kSx.qD rfl _ rfl b0.i.X (Sx.G _)) rfl ?_;rw[H.i];exact⟨rfl,b0.i.R⟩
 have aCE:¬(n:Int)<40:=by omega
 have N40:=ab (show¬l.a<40 by rw[hl.i];exact h40);go_upto_region 3 with fail
 generalize hw1:W.alloc (.D qE.ay 189)=w1 at b0 ⊢;obtain⟨a,rfl,hab⟩:=HR.i.ag0 (show 0<n by omega);have KS:=ab (show∀W',Bx [(W.a.j,qE.ay)] W W'->W'.b ⟨a.block,a.off+6,none⟩=some (.b .b (nP l 6))/\W'.b ⟨a.block,a.off+7,none⟩=some (.b .b (nP l 7))from fun W' h=>⟨(h.MX HR.i).UW 5 (by omega),(h.MX HR.i).UW 6 (by omega)⟩);obtain⟨i6,i7⟩:6<n/\7<n:=by omega
 have hx6:=jT (nP l 6) (by have:=uW l 6;omega);have hx7:=jT (nP l 7) (by have:=uW l 7;omega);obtain⟨t,ht⟩:=dw (eU l 4);have HT:=ab ht.symm;have htl:t<=65535:=by rw[ht];exact vG l 4
 have hx4:=jT (40+(t:Int)) (by omega);have C4:=ab (fun(W':ak) (h:Bx [(W.a.j,qE.ay)] W W')=>alV W' (some a) n c l 4 4 rfl (by omega) hnc (by omega) (h.MX HR.i));rw[<-ht]at C4;clear ht;have HX0:∃X:Sx,X=Sx.mk 40 (40+(t:Int)) (nP l 7) false 0 (nP l 6) ⟨true,mY.b⟩ ⟨true,mY.b⟩:=⟨_,rfl⟩
 clear hw1;have hWy:=ab b0.i.X.lt;refine OO (Bx.aaw [(W.a.j,qE.ay)] W) 14 15 4 189 qE.ay (by kernel_rfl) rfl (by kernel_rfl) (by decide) (by decide) (by kernel_rfl) (by kernel_rfl) (by kernel_rfl) rfl rfl rfl (fun a w=>by simp[go_sem]) b0.i.drew ?_;apply Exists.intro;refine⟨fun T f hT es ew=>?_,?_⟩
 ·have KF:=fun m=>KS.i _ (es m)
  have CF:=ab (fun m=>C4.i _ (es m));have EW:=ab ew;obtain⟨k1,k2⟩:(∀m,(f m).b ⟨a.block,a.off+6,none⟩=some (.b .b (nP l 6)))/\(∀m,(f m).b ⟨a.block,a.off+7,none⟩=some (.b .b (nP l 7))):=⟨fun m=>(KF m).1,fun m=>(KF m).2⟩
  clear KF;simp only[kV,bG,bM,jM,jY]
  repeat(go_big_quiet_step ((first
   | (go_at_call 249;with_reducible refine(CF.i _).g ?_;rintro e w2 ⟨rfl,hb⟩;exact⟨rfl,EW.i _ _ hb⟩))))
  exact gW rfl
 ·intro w2 w3 hw2 _ hb
  have Z2:=ab ((hw2.new qE.ay 189).go hb);have hy:=hw2.X.lt;generalize w2.a.j=y at *;clear hw2 hb;simp only[lJ,bH,bG,bM,jN,kW];obtain⟨X0,hX0⟩:∃X:Sx,X=Sx.mk 40 (40+(t:Int)) (nP l 7) false 0 (nP l 6) ⟨true,mY.b⟩ ⟨true,mY.b⟩:=⟨_,rfl⟩
  have HX0:=ab hX0;rw[<-hX0];clear hX0 hx4 hx6 hx7;have hne:∀p∈[(W.a.j,qE.ay)],p.1≠y:=fun p hp=>by rw[fM.1 hp];exact jJ hy
  have hne:=ab hne;have yI:=Z2.i.X.O 0 40 (by rw[Sx.G];omega);have Z3:=ab (Z2.i.put hne.i X0.ay (by rw[Sx.G,Sx.G]));clear C4 KS;go_step;go_simp;go_step;go_step;clear yI Z2;generalize gN w3 y 0 X0.ay=w4 at Z3 ⊢;obtain⟨m,hm⟩:=dw (40+t);have hm':40+(t:Int)=m:=by omega
  rw[hm']at HX0;have HM:=ab (show m=40+eU l 4 by rw[HT.i];exact hm);have hm1:40<=m/\m<=65575:=by omega
  clear hm hm' htl;have i8:(8:Int)<=n:=by omega
  have i24:(24:Int)<=n:=by omega
  have R8:=(Z3.i.drew.MX HR.i).yG (z:=8) (c:=c) (by omega) hnc;have cp1:∀ty,(qB #[56,56] ty #[.a (some ⟨y,7,none⟩) 16 16,.a (vH (some a) 8 c 1) (n-8) (c-8)]).I ah w4.drew=.ok (goInt 16) (gN w4.drew y 7 (iZ (pY 16 (l.f 8)))):=fun ty=>by
   have:=Ep (c:=c-8) (d:=16) _ R8 (m:=16) (by omega) (by omega) (Z3.i.drew.X.O 7 16 (by rw[Sx.G];omega)) 56 ty 5 cB aly;rw[MQ 16 _ (by rw[jw,hl.i];omega)]at this;exact this
  have Z4:=ab (Z3.i.drew.lay hne.i 7 (iZ (pY 16 (l.f 8))));rw[Sx.aas]at Z4;go_upto_region 4 with fail
  go_region;clear cp1 R8 Z3;generalize gN w4.drew y 7 (iZ (pY 16 (l.f 8)))=w5 at Z4 ⊢;have R24:=(Z4.i.drew.MX HR.i).yG (z:=24) (c:=c) (by omega) hnc;have cp2:∀ty,(qB #[56,56] ty #[.a (some ⟨y,24,none⟩) 16 16,.a (vH (some a) 24 c 1) (n-24) (c-24)]).I ah w5.drew=.ok (goInt 16) (gN w5.drew y 24 (iZ (pY 16 (l.f 24)))):=fun ty=>by
   have:=Ep (c:=c-24) (d:=16) _ R24 (m:=16) (by omega) (by omega) (Z4.i.drew.X.O 24 16 (by rw[Sx.G];omega)) 56 ty 5 cB aly;rw[MQ 16 _ (by rw[jw,hl.i];omega)]at this;exact this
  have Z5:=ab (Z4.i.drew.lay hne.i 24 (iZ (pY 16 (l.f 24))));rw[Sx.aar,HX0.i]at Z5;go_upto_region 5 with fail
  go_region;clear cp2 R24 Z4 i8 i24;generalize gN w5.drew y 24 (iZ (pY 16 (l.f 24)))=w6 at Z5 ⊢;simp only at Z5;have S0:=ab (show sx0 l=Sx.mk 40 m (nP l 7) false 0 (nP l 6) ⟨true,pY 16 (l.f 8)⟩ ⟨true,pY 16 (l.f 24)⟩by unfold sx0 aiN;rw[HM.i];simp);obtain⟨X1,hX1⟩:∃X,X=sx0 l:=⟨_,rfl⟩
  rw[<-S0.i,<-hX1]at Z5;have HX1:=ab hX1;have ht1:X1.dz=m:=by rw[hX1,S0.i]
  have HT1:=ab ht1;clear hX1 HX0 ht1;have HE:=ab (fun(w':ak) (x z:Sx) (h:Bx [(y,x.ay),(W.a.j,qE.ay)] W w')=>show dL (gN w' W.a.j 0 z.ay) W.a.j z.ay/\aM W.a.j W (gN w' W.a.j 0 z.ay)from
   have k:=h.swap.put (fun p hp=>by rw[fM.1 hp];exact uD hy) z.ay (by rw[Sx.G,Sx.G])
   ⟨k.X,k.R⟩)
  have TH:=ab (fun(w':ak) (x:Sx) (h:Bx [(y,x.ay),(W.a.j,qE.ay)] W w')=>show w'.O W.a.j 0 40 from h.b1.O 0 40 (by rw[Sx.G];omega));have yI:=TH.i _ _ Z5.i;have cb:=(Z5.i.MX HR.i).arq (by omega);obtain⟨x1,x2,x3,x4⟩:=Z5.i.X.K;have ht1:=HT1.i;have i0:(0:Int)<n:=by omega
  have i0':0<n:=by omega
  by_cases e1:¬nP l 0/16=6
  ·have q:((nP l 0:Int)/16 != 6)=true:=by rw[bne_iff_ne];omega
   have H:=ab (show Av l=(qE,3)by unfold Av;rw[if_neg N40.i,if_pos e1]);go_wp2;refine aN (kSx.qD rfl _ rfl (HE.i _ _ qE Z5.i).1 (Sx.G _)) rfl ?_;rw[H.i];exact⟨rfl,(HE.i _ _ qE Z5.i).2⟩
  have q:((nP l 0:Int)/16 != 6)=false:=by simp;omega
  by_cases e2:n<m
  ·have q2:(n:Int)<m:=by omega
   have H:=ab (show Av l=(qE,2)by unfold Av;rw[if_neg N40.i,if_neg e1,if_pos (by rw[hl.i,<-HM.i];exact e2)]);go_wp2;refine aN (kSx.qD rfl _ rfl (HE.i _ _ qE Z5.i).1 (Sx.G _)) rfl ?_;rw[H.i];exact⟨rfl,(HE.i _ _ qE Z5.i).2⟩
  have q2:¬(n:Int)<m:=by omega
  have H1:=ab (show Av l=yJ 8 (sx0 l) ((l.d m).f 40)by unfold Av;rw[if_neg N40.i,if_neg e1,if_neg (by rw[hl.i,<-HM.i];exact e2),<-HM.i]);have RP:=ab (HR.i.acO (z:=40) (b:=m) (c:=c) (by omega) (by omega) hnc);have j1:(40:Int)<=m:=by omega
  have j2:(m:Int)<=c:=by omega
  have hy':=ab hy;clear hy;go_wp2_with fail;clear j1 j2 q q2 i0 i0' yI cb x1 x2 x3 x4 ht1;obtain⟨A0,hA0⟩:=dw (vH (some a) 40 c 1);rw[<-hA0]at RP ⊢;clear hA0;go_loopw [5] (fun s5 wr=>∃(x:Sx)(A':Option aT)(n' c':Nat)(r:List UInt8) (f:Nat),s5=.a A' n' c'/\n'<=c'/\c'<=c/\Bx [(y,x.ay),(W.a.j,qE.ay)] W wr/\fP W W.a.j A' n' r/\Av l=yJ f x r/\x.GL+f=8/\0<=x.head/\x.head+2048*f<=20000)
   (fun s5 wr=>slN s5)
  case atStart=>exact⟨X1,A0,m-40,c-40,_,8,rfl,by omega,by omega,Z5.i,RP.i,by rw[HX1.i];exact H1.i,by rw[HX1.i];rfl,by rw[HX1.i];simp[sx0],by rw[HX1.i];simp[sx0]⟩
  case round=>
   obtain⟨x,A',n',c',r,f,rfl,hn',hc',hz,hr,hsx,hf,hh0,hh1⟩:=hrel;have HZ:=ab hz;have HRr:=ab hr;have HSX:=ab hsx;have hrl:=ab hr.len;obtain⟨x1,x2,x3,x4⟩:=hz.X.K;have CE:=ab (UU x.aP wr);have GO:=ab (fun(w1:ak) (hb:aM wr.a.j wr w1)=>HZ.i.go hb);have yI:=TH.i _ _ hz;have HFn:=ab hf;have HH0:=ab hh0;have HH1:=ab hh1;clear hz hr hsx Z5 RP HX1 H1 HT1 HX0 S0 HM HT;by_cases hfr:x.oG=true
   ·have H:=ab (show Av l=(x,0)by rw[HSX.i,MW (.a hfr)])
    go_wp2;refine aN (kSx.qD rfl _ rfl (HE.i _ _ x HZ.i).1 (Sx.G _)) rfl ?_;rw[H.i];exact⟨rfl,(HE.i _ _ x HZ.i).2⟩
   have hfr:x.oG=false:=by simpa using hfr
   by_cases hex:zJ x.aP=false
   ·have H:=ab (show Av l=(x,0)by rw[HSX.i,MW (.b hex)])
    go_wp2_with (go_at_call 250;with_reducible refine CE.i.g ?_;rintro e w1 ⟨rfl,hb1⟩;have Z1:=ab (GO.i w1 hb1);have t1:=TH.i _ _ Z1.i;obtain⟨y1,y2,y3,y4⟩:=Z1.i.X.K;clear hb1);refine aN (kSx.qD rfl _ rfl (HE.i _ _ x Z1.i).1 (Sx.G _)) rfl ?_;rw[H.i];exact⟨rfl,(HE.i _ _ x Z1.i).2⟩
   have hex:zJ x.aP=true:=by simpa using hex
   clear yI x1 x2 x3 x4;obtain⟨x1,x2,x3,x4⟩:=HZ.i.X.K;rcases f with _|f
   ·have hx8:x.GL=8:=by have:=HFn.i;simpa using this
    have H:=ab (show Av l=(qE,4)by rw[HSX.i,XV hfr hex]);go_wp2_with (go_at_call 250;with_reducible refine CE.i.g ?_;rintro e w1 ⟨rfl,hb1⟩;have Z1:=ab (GO.i w1 hb1);have t1:=TH.i _ _ Z1.i;obtain⟨y1,y2,y3,y4⟩:=Z1.i.X.K;clear hb1);refine aN (kSx.qD rfl _ rfl (HE.i _ _ qE Z1.i).1 (Sx.G _)) rfl ?_;rw[H.i];exact⟨rfl,(HE.i _ _ qE Z1.i).2⟩
   have hx8:(x.GL==8)=false:=by rw[beq_eq_false_iff_ne];omega
   by_cases hs8:n'<8
   ·have q8:(n':Int)<8:=by omega
    have H:=ab (show Av l=(qE,2)by rw[HSX.i,K9 hfr hex (.a (by rw[hrl.i];exact hs8))]);go_wp2_with (go_at_call 250;with_reducible refine CE.i.g ?_;rintro e w1 ⟨rfl,hb1⟩;have Z1:=ab (GO.i w1 hb1);have t1:=TH.i _ _ Z1.i;obtain⟨y1,y2,y3,y4⟩:=Z1.i.X.K;clear hb1);refine aN (kSx.qD rfl _ rfl (HE.i _ _ qE Z1.i).1 (Sx.G _)) rfl ?_;rw[H.i];exact⟨rfl,(HE.i _ _ qE Z1.i).2⟩
   have q8:¬(n':Int)<8:=by omega
   have CS:=ab (fun(w1:ak) (h:Bx [(y,x.ay),(W.a.j,qE.ay)] W w1)=>Qa x.aP A' n' c' _ r w1 (by omega) (h.MX HRr.i));obtain⟨sz,hsz⟩:=dw (qP x.aP r);have HSZ:=ab hsz;have SZ1:=ab (show 0<sz by rw[hsz];exact(P9 _ _).2 hex);have SZ2:=ab (show sz<=2048 by rw[hsz];exact afl _ _);rw[<-hsz]at CS;clear hsz;by_cases hss:n'<sz
   ·have q9:(n':Int)<sz:=by omega
    have H:=ab (show Av l=(qE,2)by rw[HSX.i,K9 hfr hex (.b (by rw[hrl.i,<-HSZ.i];exact hss))]);go_wp2_with (first|(go_at_call 250;with_reducible refine CE.i.g ?_;rintro e w1 ⟨rfl,hb1⟩;have Z1:=ab (GO.i w1 hb1);have t1:=TH.i _ _ Z1.i;obtain⟨y1,y2,y3,y4⟩:=Z1.i.X.K;clear hb1)|(go_at_call 251;with_reducible refine(CS.i _ Z1.i).g ?_;rintro e w2 ⟨rfl,rfl⟩));refine aN (kSx.qD rfl _ rfl (HE.i _ _ qE Z1.i).1 (Sx.G _)) rfl ?_;rw[H.i];exact⟨rfl,(HE.i _ _ qE Z1.i).2⟩
   have q9:¬(n':Int)<sz:=by omega
   have H:=ab (show Av l=yJ f ⟨x.head+sz,x.dz,x.Ei,decide (x.aP=44)&&K8 r,x.GL+1,(nP r 0:Nat),x.h,x.Y⟩ (r.f sz)by
    rw[HSX.i,XW hfr hex (by rw[hrl.i,<-HSZ.i];rintro(h|h);exact hs8 h;exact hss h),<-HSZ.i])
   have wh:bR.wrap (x.head+sz)=x.head+sz:=jT _ (by have:=SZ2.i;omega);have we:bR.wrap (x.GL+1)=x.GL+1:=jT _ (by omega);have wb:bR.wrap ((nP r 0:Nat):Int)=((nP r 0:Nat):Int):=jT _ (by have:=uW r 0;omega);obtain⟨a',rfl,hab'⟩:=HRr.i.ag0 (show 0<n' by omega);have hne1:a'.block≠y:=by have:=hy'.i;omega
   have hne2:∀o,¬(⟨y,o,none⟩:aT)=a':=fun o e=>hne1 (by rw[<-e])
   have aIG:∀o,¬a'=(⟨y,o,none⟩:aT):=fun o e=>hne1 (by rw[e])
   have ip:(0:Int)<n':=by omega
   have ip':0<n':=by omega
   have is2:(sz:Int)<=n':=by omega
   have BY:=ab (fun(w1:ak) (h:Bx [(y,x.ay),(W.a.j,qE.ay)] W w1)=>(h.MX HRr.i).arq ip');have ZE:=ab (fun(w':ak) (fr:Bool) (p h e:Int) (hz:Bx [(y,x.ay),(W.a.j,qE.ay)] W w')=>show Bx [(y,(Sx.mk h x.dz x.Ei fr e p x.h x.Y).ay),(W.a.j,qE.ay)] W ((((w'.F ⟨y,3,none⟩ (.e fr)).F ⟨y,5,none⟩ (.b .a p)).F ⟨y,0,none⟩ (.b .a h)).F ⟨y,4,none⟩ (.b .a e))by
    have:=(((hz.set hne.i 3 (.e fr)).set hne.i 5 (.b .a p)).set hne.i 0 (.b .a h)).set hne.i 4 (.b .a e);rw[Sx.alO,Sx.XT,Sx.MJ,Sx.alP]at this;exact this)
   by_cases p44:x.aP=44
   ·have C2:=ab (fun(w1:ak) (h:Bx [(y,x.ay),(W.a.j,qE.ay)] W w1)=>alV w1 _ n' c' r 2 2 rfl (by omega) hn' (by omega) (h.MX HRr.i))
    have hpt:=alZ r;have aCI:(x.aP==44)=true:=by simp[p44]
    have aCJ:=ab p44;clear p44;obtain⟨fr,hfr2⟩:=dw (K8 r);rw[<-hfr2]at hpt;have HF2:=ab hfr2;clear hfr2;go_wp2_with (first|(go_at_call 250;with_reducible refine CE.i.g ?_;rintro e w1 ⟨rfl,hb1⟩;have Z1:=ab (GO.i w1 hb1);have t1:=TH.i _ _ Z1.i;obtain⟨y1,y2,y3,y4⟩:=Z1.i.X.K;clear hb1)|(go_at_call 251;with_reducible refine(CS.i _ Z1.i).g ?_;rintro e w2 ⟨rfl,rfl⟩)|(go_at_call 249;with_reducible refine(C2.i _ Z1.i).g ?_;rintro e w3 ⟨rfl,hb3⟩;have Z3:=ab (Z1.i.go hb3);obtain⟨z1,z2,z3,z4⟩:=Z3.i.X.K;have bz:=BY.i _ Z3.i;clear hb3));refine⟨⟨⟨x.head+sz,x.dz,x.Ei,fr,x.GL+1,(nP r 0:Nat),x.h,x.Y⟩,vH (some a') sz c' 1,n'-sz,c'-sz,r.f sz,f,rfl,by omega,by omega,ZE.i _ _ _ _ _ Z3.i,HRr.i.yG (by omega) hn',?_,?_,?_,?_⟩,?_⟩
    ·rw[H.i,HF2.i];simp[aCJ.i]
    ·have:=HFn.i;simp only;omega
    ·have:=HH0.i;simp only;omega
    ·have:=HH1.i;have:=SZ2.i;simp only;omega
    ·have:=SZ1.i;simp only[slN];omega
   ·have aCI:(x.aP==44)=false:=by simp[p44]
    go_wp2_with (first|(go_at_call 250;with_reducible refine CE.i.g ?_;rintro e w1 ⟨rfl,hb1⟩;have Z1:=ab (GO.i w1 hb1);have t1:=TH.i _ _ Z1.i;obtain⟨y1,y2,y3,y4⟩:=Z1.i.X.K;have bz:=BY.i _ Z1.i;clear hb1)|(go_at_call 251;with_reducible refine(CS.i _ Z1.i).g ?_;rintro e w2 ⟨rfl,rfl⟩));refine⟨⟨⟨x.head+sz,x.dz,x.Ei,false,x.GL+1,(nP r 0:Nat),x.h,x.Y⟩,vH (some a') sz c' 1,n'-sz,c'-sz,r.f sz,f,rfl,by omega,by omega,ZE.i _ _ _ _ _ Z1.i,HRr.i.yG (by omega) hn',?_,?_,?_,?_⟩,?_⟩
    ·rw[H.i];simp[p44]
    ·have:=HFn.i;simp only;omega
    ·have:=HH0.i;simp only;omega
    ·have:=HH1.i;have:=SZ2.i;simp only;omega
    ·have:=SZ1.i;simp only[slN];omega
end
theorem M8(W:ak)(A:Option aT)(n c:Nat)(l:List UInt8)(hnc:n<=c)(hc:c<=9223372036854775807/\n<=1000000000)(hr:fP W W.a.j A n l):aQ ah 91 #[.a A n c] W (LkP W (mh l)):=by
 have HR:=ab hr;have hl:=ab hr.len;have b0:=ab (dL.new W qK.ay 108);have B0:=ab ((aG W.a.j W).alloc (av _) (.D qK.ay 108));have HR0:=ab ((hr.S B0.i).lu B0.i.j:fP (W.alloc (.D qK.ay 108)) (W.alloc (.D qK.ay 108)).a.j A n l);clear hr;go_enter Tryz.func91,Tryz.ntmps91;by_cases h14:n<14
 ·have aCK:(n:Int)<14:=by omega
  have H:=ab (show mh l=(Em,2)by unfold mh;rw[if_pos (by rw[hl.i];exact h14)]);go_wp2;refine aN (kLc.qD rfl _ rfl b0.i (Lc.G _)) rfl ?_;rw[H.i];exact⟨none,0,rfl,iR.nil _ _,B0.i⟩
 have aCK:¬(n:Int)<14:=by omega
 have i1:(12:Int)<=c:=by omega
 obtain⟨w1,hw1⟩:=dw (W.alloc (.D qK.ay 108));have PC:=HR0.i.PY (z:=12) (b:=n) (c:=c) (by omega) (by omega) (by omega);rw[if_neg (by omega),show(fun x:aT=>x.add 12)=fun x=>⟨x.block,x.off+12,none⟩from funext fun x=>by simp[qX]]at PC;have C1:=ab (IK _ _ (n-12) (c-12) _ (by omega) (by omega) (by omega) PC);rw[show eU ((l.f 12).d (n-12)) 0=eU l 12 by rw[<-hl.i,<-jw,List.take_length];simp[eU,au]]at C1;clear PC;go_upto_region 4 with(go_at_call 173;with_reducible refine C1.i.g ?_;rintro e w2 ⟨rfl,hb2⟩)
 have d0:=ab (b0.i.S hb2 b0.i.lt);have B2:=ab (show aM W.a.j W w2 from B0.i.trans (hb2.g B0.i.j));have hs2:W.a.j<w2.a.j:=by have:=hb2.j;simp at this;omega
 clear hb2 C1 HR0 B0 b0 hw1;obtain⟨X0,hX0⟩:∃X:Lc,X=Lc.mk (bF 6 0) (bF 6 0) none 0 0 (eU l 12:Nat) 14:=⟨_,rfl⟩
 have Z3:=ab (show Rz Tg.ay 2 268 [(w2.a.j,X0.ay),(W.a.j,qK.ay)] W (w2.alloc (.D X0.ay 108)) (.a none 0 0) []from
  Rz.new ⟨fE _ _ _ _,B2.i,fun p hp=>by rw[fM.1 hp];exact⟨d0.i,by simp[Value.ownBlock]⟩⟩ X0.ay _)
 rw[<-hX0];generalize hw3:w2.alloc (.D X0.ay 108)=w3 at Z3 ⊢;generalize w2.a.j=y at *;clear hw3 d0 B2;have R3:=ab ((HR.i.S Z3.i.R).lu Z3.i.R.j:fP w3 w3.a.j A n l);have cp1:∀ty,(qB #[56,56] ty #[.a (some ⟨y,0,none⟩) 6 6,.a A n c]).I ah w3=.ok (goInt 6) (gN w3 y 0 (Ar (pY 6 l))):=fun ty=>by
  have:=Ep (c:=c) (d:=6) w3 R3.i (m:=6) (by omega) (by omega) (Z3.i.X.O 0 6 (by rw[Lc.G];omega)) 56 ty 5 cB aly;rw[MQ 6 l (by rw[hl.i];omega)]at this;exact this
 have hne:∀p∈[(W.a.j,qK.ay)],p.1≠y:=fun p hp=>by rw[fM.1 hp];exact jJ hs2
 have Z4:=ab ((Z3.i.aty (mH hs2) hne 0 (Ar (pY 6 l))).drew);rw[Lc.aar]at Z4;go_upto_region 5 with fail
 have R4:=ab ((HR.i.S Z4.i.R).lu Z4.i.R.j:fP (gN w3 y 0 (Ar (pY 6 l))).drew (gN w3 y 0 (Ar (pY 6 l))).drew.a.j A n l);have cp2:∀ty,(qB #[56,56] ty #[.a (some ⟨y,6,none⟩) 6 6,.a (Option.map (fun x=>⟨x.block,x.off+6,none⟩) A) (n-6) (c-6)]).I ah (gN w3 y 0 (Ar (pY 6 l))).drew=.ok (goInt 6) (gN (gN w3 y 0 (Ar (pY 6 l))).drew y 6 (Ar (pY 6 (l.f 6)))):=fun ty=>by
  have P:=R4.i.PY (z:=6) (b:=n) (c:=c) (by omega) (by omega) (by omega);rw[if_neg (by omega),show(fun x:aT=>x.add 6)=fun x=>⟨x.block,x.off+6,none⟩from funext fun x=>by simp[qX]]at P;rw[aK (by simp;have:=hl.i;omega)]at P;have:=Ep (c:=c-6) (d:=6) _ P (m:=6) (by omega) (by omega) (Z4.i.X.O 6 6 (by rw[Lc.G];omega)) 56 ty 5 cB aly;rw[MQ 6 _ (by simp;have:=hl.i;omega)]at this;exact this
 have i6:(6:Int)<=c:=by omega
 go_region;have Z5:=ab (Z4.i.aty (mH hs2) hne 6 (Ar (pY 6 (l.f 6))));rw[Lc.aas,hX0]at Z5;simp only at Z5;clear Z3 Z4 R3 R4 cp1 cp2 i6 hX0;generalize gN (gN w3 y 0 (Ar (pY 6 l))).drew y 6 (Ar (pY 6 (l.f 6)))=w5 at Z5 ⊢;go_wp2_with fail;go_loopw [] (fun wr=>∃(fG:List Tg)(A':Option aT)(c' k:Nat),fG.a<=2/\14<=k/\k<=n/\Rz Tg.ay 2 268 [(y,(Lc.mk (pY 6 l) (pY 6 (l.f 6)) A' fG.a c' (eU l (k-2):Nat) k).ay),(W.a.j,qK.ay)] W wr (.a A' fG.a c') fG/\mh l=Ck l (2-fG.a) k fG)
  (fun wr=>n-(intOf ((wr.b ⟨y,14,none⟩).c undef)).e)
 case atStart=>exact⟨[],none,0,14,by simp,by omega,by omega,Z5.i,by unfold mh;rw[if_neg (by rw[hl.i];exact h14)];rfl⟩
 case round=>
  obtain⟨fG,A',c',k,ht2,aIJ,hkn,hz,hlk⟩:=hrel;have HZ:=ab hz;have HK:=ab hlk;have HT:=ab (fun W=>aaq W (eU l (k-2):Nat));have T0:=HZ.i.X;obtain⟨x1,x2,x3,x4⟩:=T0.K;have hWy:W.a.j≠y:=jJ hs2;have hA:=ab (fun(x:Lc)=>HZ.i.ans (x:=x.ay) (av _) hWy (by rw[Lc.G,Lc.G]));have yI:=HZ.i.b1.O 0 15 (by rw[Lc.G];omega);clear hz hlk T0 Z5;cases htag:tY (eU l (k-2):Nat)
  ·rw[htag]at HT
   have H:=ab (show mh l=(⟨pY 6 l,pY 6 (l.f 6),fG,(eU l (k-2):Nat),k⟩,0)by rw[HK.i,zI htag]);go_wp2_with (go_at_call 174;with_reducible refine(HT.i _).g ?_;rintro e w' ⟨rfl,rfl⟩);have hz2:=hA.i (Lc.mk (pY 6 l) (pY 6 (l.f 6)) A' fG.a c' (eU l (k-2):Nat) k);refine aN (kLc.qD rfl _ rfl hz2.X (Lc.G _)) rfl ?_;rw[H.i];exact⟨A',c',rfl,hz2.rd,hz2.R⟩
  rw[htag]at HT;by_cases h2:fG.a=2
  ·have h2':((fG.a:Int)==2)=true:=by rw[h2];rfl
   have H:=ab (show mh l=(Em,4)by rw[HK.i,h2];exact JK htag);go_wp2_with (go_at_call 174;with_reducible refine(HT.i _).g ?_;rintro e w' ⟨rfl,rfl⟩);have hz2:=hA.i qK;refine aN (kLc.qD rfl _ rfl hz2.X (Lc.G _)) rfl ?_;rw[H.i];exact⟨none,0,rfl,iR.nil _ _,hz2.R⟩
  have h2':((fG.a:Int)==2)=false:=by rw[beq_eq_false_iff_ne];omega
  by_cases h4:n<k+4
  ·have h4':(n:Int)<(k:Int)+4:=by omega
   have H:=ab (show mh l=(Em,2)by rw[HK.i,show 2-fG.a=(1-fG.a)+1 by omega];exact By htag (by rw[hl.i];exact h4));go_wp2_with (go_at_call 174;with_reducible refine(HT.i _).g ?_;rintro e w' ⟨rfl,rfl⟩);have hz2:=hA.i qK;refine aN (kLc.qD rfl _ rfl hz2.X (Lc.G _)) rfl ?_;rw[H.i];exact⟨none,0,rfl,iR.nil _ _,hz2.R⟩
  have h4':¬(n:Int)<(k:Int)+4:=by omega
  have H:=ab (show mh l=Ck l (2-(fG.a+1)) (k+4) (fG++[⟨(eU l (k-2):Nat),(eU l k:Nat)⟩])by rw[HK.i,show 2-fG.a=(2-(fG.a+1))+1 by omega];exact Eo htag (by rw[hl.i];exact h4));go_upto_region 11 with(go_at_call 174;with_reducible refine(HT.i _).g ?_;rintro e w' ⟨rfl,rfl⟩)
  obtain⟨vr,hvr⟩:∃v,v=wr:=⟨_,rfl⟩
  rw[<-hvr]at HZ x1 x2 x3 x4 ⊢;have HV:=ab hvr;clear hA yI HT h2' h4' HK hvr;obtain⟨X,hX⟩:∃X:Lc,X=Lc.mk (pY 6 l) (pY 6 (l.f 6)) A' fG.a c' (eU l (k-2):Nat) k:=⟨_,rfl⟩
  have hi4:(k:Int)<=c:=by omega
  have hck:¬c=k:=by omega
  have PC:=(((HR.i.S HZ.i.R).lu HZ.i.R.j:fP vr vr.a.j A n l)).PY (z:=k) (b:=n) (c:=c) (by omega) (by omega) (by omega);rw[if_neg (by omega),aK (by simp;have:=hl.i;omega)]at PC;have PD:=ab PC;have C2:=ab (IK vr.drew _ (n-k) (c-k) _ (by omega) (by omega) (by omega) PC);rw[show eU (l.f k) 0=eU l k by simp[eU,au]]at C2;have KG:=ab (fun(W':ak) (h:dL W' y X.ay)=>show W'.b ⟨y,12,none⟩=some (.a A' fG.a c')/\W'.b ⟨y,13,none⟩=some (.b .a (eU l (k-2):Nat))/\W'.b ⟨y,14,none⟩=some (.b .a k)by
   rw[hX]at h;exact⟨(h.K.1 12).trans (Lc.aan _),(h.K.1 13).trans (Lc.Dz _),(h.K.1 14).trans (Lc.K6 _)⟩)
  rw[<-hX]at HZ;have ZG:=ab (fun(wa:ak) (h:aM vr.drew.a.j vr.drew wa)=>HZ.i.drew.go h);have HGL:=ab (show fG.a+1<=1000000 by omega);obtain⟨k1,k2,k3⟩:=KG.i vr.drew HZ.i.drew.X;clear PC;go_cut []from 37 to 49 (fun wx=>∃A5 c5,Rz Tg.ay 2 268 [(y,(Lc.mk (pY 6 l) (pY 6 (l.f 6)) A5 (fG.a+1) c5 (eU l (k-2):Nat) k).ay),(W.a.j,qK.ay)] W wx (.a A5 (fG.a+1) c5) (fG++[⟨(eU l (k-2):Nat),(eU l k:Nat)⟩]))
  case first=>
   go_region_law (first|(refine atz (o:=⟨some 45,_,_,_,_,_⟩) rfl ?_;go_simp;go_at_call 173;(with_reducible refine C2.i.g ?_);rintro e wa ⟨rfl,hba⟩;have Za:=ab (ZG.i wa hba);have ka:=KG.i wa Za.i.X;have Zb:=ab (Za.i.alloc (.D (Tg.mk (eU l (k-2):Nat) (eU l k:Nat)).ay 268));have kb:=KG.i _ Zb.i.X;have RO:=ab (iR.one (f:=Tg.ay) (Tg.mk (eU l (k-2):Nat) (eU l k:Nat)) Tg.G wa 268);clear hba)|(refine atA (o:=⟨some 48,_,_,_,_,_⟩) apm rfl (.tmp 38) (.tmp 47) rfl (.a A' fG.a c') (some ⟨wa.a.j,0,none⟩) 1 1 (by kernel_rfl) Zb.i (by kernel_rfl) RO.i HGL.i ?_;intro A5 n5 c5 w5 h5 h6;have Z5:=ab h5;have k5:=(h5.X.K.1 12).trans (Lc.aan _);have f5:=h5.X.K.2.1 12;clear h5 h6))
   all_goals
    have Z6:=ab (Z5.i.alW (mH hs2) hne 12 (.a A5 n5 c5));rw[Lc.alS]at Z6;obtain rfl:n5=fG.a+1:=by have:=Z5.i.len;simpa using this
    rw[hX]at Z6;clear Z5 k5 f5 k1 k2 k3 ka kb;go_wp2_with fail;go_meet
    case rel=>exact⟨A5,c5,Z6.i⟩
  obtain⟨A5,c5,Z6⟩:=hcut;have Z6:=ab Z6;generalize wc=w6 at Z6 ⊢;obtain⟨x1,x2,x3,x4⟩:=Z6.i.X.K;obtain⟨m,hm⟩:=dw (k+2);have PC:=(((HR.i.S Z6.i.R).lu Z6.i.R.j:fP w6 w6.a.j A n l)).PY (z:=m) (b:=n) (c:=c) (by omega) (by omega) (by omega);rw[if_neg (by omega),aK (by simp;have:=hl.i;omega)]at PC;have C3:=ab (IK w6 _ (n-m) (c-m) _ (by omega) (by omega) (by omega) PC);rw[show eU (l.f m) 0=eU l m by simp[eU,au,Nat.add_assoc]]at C3;have hi2:(m:Int)<=c:=by omega
  have aIK:¬c=m:=by omega
  have hm2:(k:Int)+2=m:=by omega
  have HM:=ab hm;have HX:=ab hX;clear PC C2 PD KG ZG hX k1 k2 k3 hm;go_wp2_with (go_at_call 173;with_reducible refine C3.i.g ?_;rintro e w7 ⟨rfl,hb7⟩;have Z7:=ab (Z6.i.go hb7);have k7:=(Z7.i.X.K.1 13).trans (Lc.Dz _);have f7:=Z7.i.X.K.2.1;have k8:=(Z7.i.X.K.1 14).trans (Lc.K6 _);clear hb7);have Z8:=ab ((Z7.i.alW (mH hs2) hne 13 (.b .a (eU l m:Nat))));rw[Lc.RX]at Z8;have Z9:=ab (Z8.i.alW (mH hs2) hne 14 (.b .a ((k:Int)+4)));rw[Lc.apl]at Z9;have q1:=(Z9.i.X.K.1 14).trans (Lc.K6 _);have q2:=(HZ.i.X.K.1 14)
  rw[HX.i,HV.i]at q2;have q2:=q2.trans (Lc.K6 _);simp only at q1 q2;refine⟨?_,?_⟩
  ·refine⟨fG++[⟨(eU l (k-2):Nat),(eU l k:Nat)⟩],A5,c5,k+4,by simp;omega,by omega,by omega,?_,by rw[H.i];simp⟩
   obtain rfl:=HM.i;simpa using Z9.i
  ·rw[q1,q2]
   simp[intOf]<;>omega
section
attribute [local go_sem high] iU jE
def Yb(k:Int)(l:List UInt8):Nt×Int:=if k=2048 then(⟨(zS l).1.head,(zS l).1.dz,(zS l).1.aP,(zS l).1.oG,(zS l).1.h,(zS l).1.Y⟩,(zS l).2)
 else(⟨(Av l).1.head,(Av l).1.dz,(Av l).1.aP,(Av l).1.oG,(Av l).1.h,(Av l).1.Y⟩,(Av l).2)
def xD(k:Int):Pk:=⟨k,ael,0,0,0,0⟩
def mP(l:List UInt8):Nt×Int:=Yb (mh l).1.oq (l.f (mh l).1.fD)
def Ld(l:List UInt8):Pt×Int:=IU (mP l).1.aP ((l.d ((mh l).1.fD+(mP l).1.dz.e)).f ((mh l).1.fD+(mP l).1.head.e))
def qF(l:List UInt8):Pk:=
 if(mh l).2≠0 then xD 1 else if(mh l).1.oq≠2048/\(mh l).1.oq≠34525 then xD 2 else if(mP l).2≠0 then xD 3 else if(mP l).1.oG=true then xD 4
 else if(mP l).1.aP≠6/\(mP l).1.aP≠17 then xD 5 else if(Ld l).2≠0 then xD 6
 else⟨0,⟨(mP l).1.h,(mP l).1.Y,(mP l).1.aP,(Ld l).1.kT,(Ld l).1.jP⟩,(Ld l).1.uV,(mh l).1.fD,(mh l).1.fD+(mP l).1.head,(mh l).1.fD+(mP l).1.dz⟩
theorem ag1{l:List UInt8}:∀(m k:Nat)(fG:List Tg),14<=k->k<=l.a->(Ck l m k fG).2=0->14<=(Ck l m k fG).1.fD/\(Ck l m k fG).1.fD<=l.a
 | 0,k,fG,h1,h2,h=>by
   cases ht:tY (eU l (k-2):Nat)with
   | false=>rw[zI ht]at h⊢;exact⟨h1,h2⟩
   | true=>rw[JK ht]at h;cases h
 | m+1,k,fG,h1,h2,h=>by
   cases ht:tY (eU l (k-2):Nat)with
   | false=>rw[zI ht]at h⊢;exact⟨h1,h2⟩
   | true=>
     by_cases h4:l.a<k+4
     ·rw[By ht h4]at h;cases h
     ·rw[Eo ht h4]at h⊢;exact ag1 m (k+4) _ (by omega) (by omega) h
theorem afn{l:List UInt8}(h:(mh l).2=0):14<=(mh l).1.fD/\(mh l).1.fD<=l.a:=by
 unfold mh at h ⊢;split at h
 ·cases h
 ·rename_i hl;rw[if_neg hl];exact ag1 2 14 [] (by omega) (by omega) h
theorem al1{l:List UInt8}(h:(zS l).2=0):20<=(zS l).1.head/\(zS l).1.head<=(zS l).1.dz/\(zS l).1.dz<=l.a:=by
 unfold zS at h ⊢;split at h
 ·rename_i he
  rw[if_pos he];unfold Dc at he;simp only[OL]
  repeat(first|(split at he;(first|(cases he;done)|skip))|(exact absurd he (by decide)))
  all_goals(first|omega|(simp at he;done))
 ·exact absurd h ‹_›
theorem apv(f:Nat):∀(x:Sx)(r:List UInt8),40<=x.head->x.head+r.a=x.dz->(yJ f x r).2=0->40<=(yJ f x r).1.head/\(yJ f x r).1.head<=(yJ f x r).1.dz/\(yJ f x r).1.dz=x.dz:=by
 induction f with
 | zero=>
   intro x r h1 h2 h;by_cases hx:x.oG=true\/zJ x.aP=false
   ·rw[MW hx]at h⊢;exact⟨h1,by simp only;omega,rfl⟩
   ·have hf:x.oG=false:=by simpa using fun e=>hx (.a e)
    have he:zJ x.aP=true:=by simpa using fun e=>hx (.b e)
    rw[XV hf he]at h;cases h
 | succ f ih=>
   intro x r h1 h2 h;by_cases hx:x.oG=true\/zJ x.aP=false
   ·rw[MW hx]at h⊢;exact⟨h1,by simp only;omega,rfl⟩
   ·have hf:x.oG=false:=by simpa using fun e=>hx (.a e)
    have he:zJ x.aP=true:=by simpa using fun e=>hx (.b e)
    by_cases hs:r.a<8\/r.a<qP x.aP r
    ·rw[K9 hf he hs]at h;cases h
    ·rw[XW hf he hs]at h ⊢
     exact ih ⟨x.head+qP x.aP r,x.dz,x.Ei,decide (x.aP=44)&&K8 r,x.GL+1,(nP r 0:Nat),x.h,x.Y⟩ (r.f (qP x.aP r)) (by simp only;omega) (by simp only[jw];omega) h
theorem al2{l:List UInt8}(h:(Av l).2=0):40<=(Av l).1.head/\(Av l).1.head<=(Av l).1.dz/\(Av l).1.dz<=l.a:=by
 unfold Av at h ⊢;split at h
 ·cases h
 ·rename_i h1
  rw[if_neg h1];split at h
  ·cases h
  ·rename_i h2
   rw[if_neg h2];split at h
   ·cases h
   ·rename_i h3
    rw[if_neg h3];obtain⟨e1,e2,e3⟩:=apv 8 (sx0 l) _ (by simp[sx0]) (by simp[sx0];omega) h;refine⟨e1,e2,?_⟩;rw[e3];simp only[sx0];omega
theorem al3{k:Int}{l:List UInt8}(h:(Yb k l).2=0):20<=(Yb k l).1.head/\(Yb k l).1.head<=(Yb k l).1.dz/\(Yb k l).1.dz<=l.a:=by
 unfold Yb at h ⊢;split at h
 ·rename_i hk;rw[if_pos hk];exact al1 h
 ·rename_i hk;rw[if_neg hk];have:=al2 h;simp only;omega
@[go_sem ↓]theorem aIL(ps:Array (Nat×aB)):fI 81 ps=uL 81 ps:=rfl
theorem aCN(w:ak)(fs:Array nU)(h:ah.k 81=some (.d fs)):(iA (fun f=>Prod.mk f.Z <$> sizeOf f.p) fs:xk (Array (Nat×Nat))).I ah w=.ok #[(0,17),(17,17),(34,1),(35,1),(36,1)] w:=by
 have e:=jX;rw[h]at e;cases e;show _=_
 kernel_rfl
theorem Tu.aav(x:Tu)(t:fq):sF x.ay 0 t.ay=({x with h:=t}:Tu).ay:=by unfold Tu.ay;exact FK (by rw[fq.G,fq.G])
theorem Tu.RY(x:Tu)(t:fq):sF x.ay 17 t.ay=({x with Y:=t}:Tu).ay:=by unfold Tu.ay;exact qL (by rw[fq.G,fq.G]) 17 (fq.G _)
@[go_sem]theorem aCO(W:ak)(s t:fq)(p a b:Int):(uL 81 #[(0,.d s.ay),(1,.d t.ay),(2,.b .a p),(3,.b .a a),(4,.b .a b)]).I ah W=.ok (.d (Tu.mk s t p a b).ay) W:=kTu.bd W _ _ _ _ jX (aCN W _ jX) (by
 refine(sO rfl (fq.G _) (by rw[Tu.G];omega) (Tu.aav _ _)).trans ?_;refine(sO rfl (fq.G _) (by rw[Tu.G];omega) (Tu.RY _ _)).trans ?_;refine(iw rfl rfl (by rw[Tu.G];omega) (Tu.awM _ _)).trans ?_;refine(iw rfl rfl (by rw[Tu.G];omega) (Tu.awN _ _)).trans ?_;refine(iw rfl rfl (by rw[Tu.G];omega) (Tu.aq9 _ _)).trans ?_;rfl)
theorem Pk.Er(x:Pk)(v:Int):x.ay.b 0 (.b .a v)=({x with kind:=v}:Pk).ay:=by simp[Pk.ay,aL,Tu.G]
theorem Pk.OI(x:Pk)(v:Int):x.ay.b 38 (.b .a v)=({x with uV:=v}:Pk).ay:=by simp[Pk.ay,aL,Tu.G]
theorem Pk.apw(x:Pk)(v:Int):x.ay.b 39 (.b .a v)=({x with Cj:=v}:Pk).ay:=by simp[Pk.ay,aL,Tu.G]
theorem Pk.apx(x:Pk)(v:Int):x.ay.b 40 (.b .a v)=({x with tu:=v}:Pk).ay:=by simp[Pk.ay,aL,Tu.G]
theorem Pk.al4(x:Pk)(v:Int):x.ay.b 41 (.b .a v)=({x with FJ:=v}:Pk).ay:=by simp[Pk.ay,aL,Tu.G]
theorem Pk.aiQ(x:Pk)(t:Tu):sF x.ay 1 t.ay=({x with J:=t}:Pk).ay:=by unfold Pk.ay;exact qL (by rw[Tu.G,Tu.G]) 1 rfl
@[go_sem]theorem aCP(W:ak)(k:Int):(uL 83 #[(0,.b .a k)]).I ah W=.ok (.d (xD k).ay) W:=kPk.bd W _ _ _ _ vB (axx W _ vB) (by
 refine(iw rfl rfl (by rw[Pk.G];omega) (Pk.Er _ _)).trans ?_;rfl)
@[go_sem]theorem aCQ(W:ak)(t:Tu)(a b c d:Int):(uL 83 #[(1,.d t.ay),(2,.b .a a),(3,.b .a b),(4,.b .a c),(5,.b .a d)]).I ah W=.ok (.d (Pk.mk 0 t a b c d).ay) W:=kPk.bd W _ _ _ _ vB (axx W _ vB) (by
 refine(sO rfl (Tu.G _) (by rw[Pk.G];omega) (Pk.aiQ _ _)).trans ?_;refine(iw rfl rfl (by rw[Pk.G];omega) (Pk.OI _ _)).trans ?_;refine(iw rfl rfl (by rw[Pk.G];omega) (Pk.apw _ _)).trans ?_;refine(iw rfl rfl (by rw[Pk.G];omega) (Pk.apx _ _)).trans ?_;refine(iw rfl rfl (by rw[Pk.G];omega) (Pk.al4 _ _)).trans ?_;rfl)
theorem acS(p:Int)(W:ak):aQ ah 94 #[.b .a p] W fun e W'=>e=.a (.e (decide (p=6)||decide (p=17)))/\W=W':=by
 go_enter Tryz.func94,Tryz.ntmps94;by_cases h:p=6
 ·have q:(p==6)=true:=by simp[h]
  go_wp2;go_ret;exact⟨by simp[h],rfl⟩
 ·have q:(p==6)=false:=by simp[h]
  go_wp2;go_ret;exact⟨by simp[h];rw[bZ];simp,rfl⟩
def acT(k:Int):aB:=.iface 162 (.b .a k)
theorem apy(k:Int)(W:ak):aQ ah 92 #[.e true,.b .a k] W fun e W'=>e=.a (.J #[])/\W=W':=by
 go_enter Tryz.func92,Tryz.ntmps92;go_wp2;go_end0;exact⟨rfl,rfl⟩
theorem apz(k:Int)(W:ak):aQ ah 92 #[.e false,.b .a k] W fun e W'=>e=.panicked [{v:=acT k,recovered:=false}]/\W=W':=by
 go_enter Tryz.func92,Tryz.ntmps92;go_wp2;exact⟨rfl,rfl,rfl⟩
theorem afo(W:ak)(k:Int)(A:Option aT)(n c:Nat)(l:List UInt8)(hnc:n<=c)(hc:c<=9223372036854775807/\n<=1000000000)(hr:fP W W.a.j A n l):aQ ah 93 #[.b .a k,.a A n c] W (gU W (.J #[.d (Yb k l).1.ay,.b .a (Yb k l).2])):=by
 have b0:=ab ((Bx.start W).new aam.ay 168);have R0:=b0.i.MX hr;have C4:=ab (MS _ A n c l hnc hc R0);have C6:=ab (Qc _ A n c l hnc hc R0);clear R0 hr;have hne:∀(w:ak),W.a.j<w.a.j->∀p∈[(w.a.j,(#[]:Array aB))],True:=fun _ _ _ _=>trivial
 go_enter Tryz.func93,Tryz.ntmps93;by_cases hk:k=2048
 ·have q:(k==2048)=true:=by simp[hk]
  have H:=ab (show Yb k l=(⟨(zS l).1.head,(zS l).1.dz,(zS l).1.aP,(zS l).1.oG,(zS l).1.h,(zS l).1.Y⟩,(zS l).2)by unfold Yb;rw[if_pos hk]);obtain⟨x,hx⟩:=dw ((zS l));obtain⟨x,er⟩:=x;rw[<-hx]at H;unfold FoP at C4;rw[<-hx]at C4;clear hx hk;go_wp2_with (go_at_call 175;with_reducible refine C4.i.g ?_;rintro e w1 ⟨rfl,hb1⟩;have Z1:=ab (b0.i.go hb1);have Z2:=ab (Z1.i.new x.ay 192);obtain⟨y1,y2,y3,y4⟩:=Z2.i.X.K;have yI:=Z2.i.b1.O 0 38 (aX (Nt.G aam).symm);clear hb1);have Z3:=ab (Z2.i.swap.put (fun p hp=>by rw[fM.1 hp];exact uD Z1.i.X.lt) (Nt.mk x.head x.dz x.aP x.oG x.h x.Y).ay (by rw[Nt.G,Nt.G]));refine aN (kNt.qD rfl _ rfl Z3.i.X (Nt.G _)) rfl ?_;rw[H.i];exact⟨rfl,Z3.i.R⟩
 ·have q:(k==2048)=false:=by simp[hk]
  have H:=ab (show Yb k l=(⟨(Av l).1.head,(Av l).1.dz,(Av l).1.aP,(Av l).1.oG,(Av l).1.h,(Av l).1.Y⟩,(Av l).2)by unfold Yb;rw[if_neg hk]);obtain⟨x,hx⟩:=dw ((Av l));obtain⟨x,er⟩:=x;rw[<-hx]at H;unfold SxP at C6;rw[<-hx]at C6;clear hx hk;go_wp2_with (go_at_call 176;with_reducible refine C6.i.g ?_;rintro e w1 ⟨rfl,hb1⟩;have Z1:=ab (b0.i.go hb1);have Z2:=ab (Z1.i.new x.ay 189);obtain⟨y1,y2,y3,y4⟩:=Z2.i.X.K;have yI:=Z2.i.b1.O 0 38 (aX (Nt.G aam).symm);clear hb1);have Z3:=ab (Z2.i.swap.put (fun p hp=>by rw[fM.1 hp];exact uD Z1.i.X.lt) (Nt.mk x.head x.dz x.aP x.oG x.h x.Y).ay (by rw[Nt.G,Nt.G]));refine aN (kNt.qD rfl _ rfl Z3.i.X (Nt.G _)) rfl ?_;rw[H.i];exact⟨rfl,Z3.i.R⟩
theorem U8{P:eG}{t:bK}{ik:IntKind}(hu:P.k t=some (.b ik))(v:aB)(xT:bK)(w:ak):(Gd (.iface t v) xT t true).I P w=.ok (.J #[v,.e true]) w:=by
 simp[Gd,dJ hu]
theorem QX(q:Nat)(k:Int)(kP:List PanicEntry)(w:ak)(hth:w.O q 0 42):
 CallsD ah 90 #[.c (some ⟨q,0,none⟩)] (.panicking ({v:=acT k,recovered:=false}::kP)) w fun e u' w'=>
  e=.a (.J #[])/\u'=.panicking ({v:=acT k,recovered:=true}::kP)/\w'=gN w q 0 (xD k).ay:=by
 refine callsD_of_wpS Tryz.func90 rfl fun c₀ cs hu=>?_
 simp only[Hg,dI,bB,gG,Nat.reduceAdd,Nat.reduceSub,Array.replicate_succ,Array.replicate_zero,List.push_toArray,List.append_toArray,List.nil_append,List.cons_append];apply Ho;apply BR;simp[wpOpsS,go_sem,recoverD,hu,Hg,Exit.thenS];apply Ho;apply BR;simp[wpOpsS,go_sem,recoverD,hu,Hg,Exit.thenS,acT];refine wpS_cond (t:=true) (by simp[Act.eval,ni]) ?_;simp only[if_true];refine wpS_of_wp ?_;have hty:=fun v xT w=>U8 (P:=ah) Tryz.underlying162 v xT w
 have aIM:=hth;go_wp2;exact⟨rfl,_,rfl,_,results_none rfl _ _ _,rfl,rfl,rfl⟩
theorem afp(q:Nat)(w:ak):
 CallsD ah 90 #[.c (some ⟨q,0,none⟩)] .returning w fun e u' w'=>e=.a (.J #[])/\u'=.returning/\w'=w:=by
 refine callsD_of_wpS Tryz.func90 rfl fun c₀ cs hu=>?_
 apply Ho;apply BR;simp[wpOpsS,go_sem,recoverD,hu,Hg,Exit.thenS];apply Ho;apply BR;simp[wpOpsS,go_sem,recoverD,hu,Hg,Exit.thenS];refine wpS_cond (t:=false) (by simp[Act.eval,ni]) ?_;simp only[jF,if_false];refine wpS_of_wp (wp_skip ?_);cases c₀;simp_all[bodyPostS,results,Tryz.results90]
end
def yg(o:iV)(e:Nat):iV:={o with after:=o.after.push {on:=e,ground:=.data}}
theorem Kt{listed:Array Bool}{k i:Nat}{b:Bool}(h:listed.c k b=true):(listed.b i true).c k b=true:=by
 by_cases e:i=k
 ·subst e
  rcases aZ i listed.j with h1|h1
  ·simp[h1]
  ·rw[jO h1];exact h
 ·rw[xq b e];exact h
def al5(ops:Array iV)(k s e d:Nat):Bool:=match ops[s]?,ops[e]?,ops[s+1]? with
 | some os,some oe,some ot=>((dV s).all fun i=>i==e||os.after.any fun x=>qC .any x&&x.on==i)&&(oe.after.all fun x=>!qC .any x||os.after.any fun y=>qC .any y&&y.on==x.on)
  && (ot.after.any fun x=>qC .any x&&x.on==e)&&os.Y==none&&os.guard==none&&oe.guard==none&&decide (e<s)&&decide (k<s)&&e != k&&(match oe.Y with|some x=>!(os.looksAt ops).contains x&&x != d|none=>false) && !(oe.looksAt ops).contains d
  && ((dV ops.j).all fun t=>decide (t<=s+1)||Region.waitsFor .any ops t (t-1))
 | _,_,_=>false
section
variable {P:eG}
section
variable {l:List iV} {k s e g d:Nat} {o os oe:iV} {T:bK} {z:Array aB} {aF:qQ} {Q:zO->qQ->ak->Prop}
def mM(l:List iV)(k s e:Nat)(o os:iV):List iV:=(l.set k (kV o)).set s (yg os e)
theorem zi(i:Nat)(hk:i≠k)(hs:i≠s):(mM l k s e o os).b[i]? = l.b[i]?:=by
 simp[mM,fF,jl hk,jl hs]
theorem aax(hs:l[s]? = some os):(mM l k s e o os).b[s]? = some (yg os e):=by
 have:=(iF.1 hs).1;simp[mM,fF,this]
theorem U9(hk:l[k]? = some o)(hks:k≠s):(mM l k s e o os).b[k]? = some (kV o):=by
 have:=(iF.1 hk).1;simp[mM,fF,this,jl hks]
theorem Va(hk:l[k]? = some o)(hs:l[s]? = some os)(hks:k≠s)(tmps:Array aB):yielded (mM l k s e o os).b tmps=yielded l.b tmps:=by
 funext j;unfold yielded;have:((mM l k s e o os).b[j]?).bind (·.Y)=(l.b[j]?).bind (·.Y):=by
  by_cases h1:j=s
  ·subst h1;rw[aax hs];simp[hs,yg]
  ·by_cases h2:j=k
   ·subst h2;rw[U9 hk hks];simp[hk,kV]
   ·rw[zi j h2 h1]
 rw[this]
theorem Le(hk:l[k]? = some o)(hs:l[s]? = some os)(hks:k≠s){listed:Array Bool}{i:Nat}(h:i∈fU .any (mM l k s e o os).b listed):i∈fU .any l.b listed:=by
 obtain⟨h1,p,hp,h2⟩:=kD.1 h;by_cases e1:i=s
 ·subst e1
  rw[aax hs]at hp;cases hp;exact kD.2 ⟨h1,os,by simpa using hs,fun x hx hb=>h2 x (by simp[yg,hx]) hb⟩
 ·by_cases e2:i=k
  ·subst e2
   rw[U9 hk hks]at hp;cases hp;exact kD.2 ⟨h1,o,by simpa using hk,h2⟩
  ·rw[zi i e2 e1]at hp
   exact kD.2 ⟨h1,p,hp,h2⟩
theorem Lf(hk:l[k]? = some o)(hs:l[s]? = some os)(hks:k≠s){listed:Array Bool}{i:Nat}(h:i∈fU .any l.b listed):i∈fU .any (mM l k s e o os).b listed\/(i=s/\listed.c e false=false):=by
 obtain⟨h1,p,hp,h2⟩:=kD.1 h;by_cases e1:i=s
 ·subst e1
  cases he:listed.c e false with
  | false=>exact .b ⟨rfl,rfl⟩
  | true=>
    have:p=os:=by simp[hs]at hp;exact hp.symm
    subst this;refine .a (kD.2 ⟨h1,yg p e,aax hs,fun x hx hb=>?_⟩);simp only[yg,Array.mem_push]at hx;rcases hx with hx|rfl
    ·exact h2 x hx hb
    ·exact he
 ·left
  by_cases e2:i=k
  ·subst e2
   have:p=o:=by simp[hk]at hp;exact hp.symm
   subst this;exact kD.2 ⟨h1,kV p,U9 hk hks,h2⟩
  ·exact kD.2 ⟨h1,p,by rw[zi i e2 e1];exact hp,h2⟩
theorem Yc(hk:l[k]? = some o)(hs:l[s]? = some os)(hks:k≠s){listed:Array Bool}(he:listed.c e false=true):fU .any (mM l k s e o os).b listed=fU .any l.b listed:=by
 have hiff:∀i,i∈fU .any (mM l k s e o os).b listed↔i∈fU .any l.b listed:=fun i=>
  ⟨Le hk hs hks,fun h=>(Lf hk hs hks h).resolve_right fun h2=>by rw[he]at h2;cases h2.2⟩
 have hsz:(mM l k s e o os).b.j=l.b.j:=by simp[mM]
 unfold fU at hiff ⊢;rw[hsz]at hiff ⊢;refine EI fun i hi=>?_
 have:=hiff i;rw[kF,kF]at this;rw[bZ];exact⟨fun h=>(this.1 ⟨hi,h⟩).2,fun h=>(this.2 ⟨hi,h⟩).2⟩
theorem aay(hk:l[k]? = some o)(hs:l[s]? = some os)(hks:k≠s):∀(g j:Nat)(listed:Array Bool),listed.c e false=true->listed.j=l.a->lg .any (mM l k s e o os).b g j listed=true->lg .any l.b g j listed=true
 | 0,j,listed,he,hz,h=>by simp only[lg]at h⊢;rwa [Yc hk hs hks he]at h
 | g+1,j,listed,he,hz,h=>by
   simp only[lg,bf]at h ⊢;rw[Yc hk hs hks he]at h;exact⟨h.1,aay hk hs hks g (j+1) _ (getD_set_true he) (by simp[hz]) h.2⟩
def Pure(P:eG)(oe:iV):Prop:=∀(a:qQ)(w w':ak)(n:Next)(w1:ak),(execOp a.eval oe).I P w=.ok n w1->∃v,n=.value v/\w1=w/\(execOp a.eval oe).I P w'=.ok (.value v) w'
structure OP(l:List iV)(k s e d x:Nat)(o os oe ot:iV):Prop where
 hk:l[k]? = some o
 hs:l[s]? = some os
 he:l[e]? = some oe
 ht:l[s+1]? = some ot
 all:∀i,i<s->i≠e->∃y∈os.after,qC .any y=true/\y.on=i
 sub:∀y∈oe.after,qC .any y=true->∃z∈os.after,qC .any z=true/\z.on=y.on
 wt:∃y∈ot.after,qC .any y=true/\y.on=e
 sd:os.Y=none
 sg:os.guard=none
 eg:oe.guard=none
 es:e<s
 ks:k<s
 ek:e≠k
 ed:oe.Y=some x
 sx:x∉os.looksAt l.b
 xd:x≠d
 edl:d∉oe.looksAt l.b
 chain:∀t,t<l.a->s+1<t->Region.waitsFor .any l.b t (t-1)=true
theorem OP.of{x:Nat}{ot:iV}(hk:l[k]? = some o)(hs:l[s]? = some os)(he:l[e]? = some oe)(ht:l[s+1]? = some ot)(hx:oe.Y=some x)(h:al5 l.b k s e d=true):OP l k s e d x o os oe ot:=by
 unfold al5 at h;simp only[dZ,hs,he,ht,bf,decide_eq_true_eq,hx,beq_iff_eq,bne_iff_ne]at h;obtain⟨⟨⟨⟨⟨⟨⟨⟨⟨⟨⟨h1,h2⟩,h3⟩,h4⟩,h5⟩,h6⟩,h7⟩,h8⟩,h9⟩,h10,h11⟩,h12⟩,h13⟩:=h;refine⟨hk,hs,he,ht,fun i hi hie=>?_,fun y hy hb=>?_,?_,h4,h5,h6,h7,h8,h9,hx,by simpa using h10,h11,by simpa using h12,fun t ht1 ht2=>?_⟩
 ·have:=gF.1 h1 i (eu.2 hi)
  simp only[ny,beq_iff_eq]at this;obtain⟨y,hy,hy2⟩:=Array.any_eq_true'.1 (this.resolve_left hie);simp only[bf,beq_iff_eq]at hy2;exact⟨y,hy,hy2⟩
 ·have:=Array.all_eq_true'.1 h2 y hy
  simp only[ny,Bool.not_eq_true',hb]at this;obtain⟨z,hz,hz2⟩:=Array.any_eq_true'.1 (this.resolve_left (by simp));simp only[bf,beq_iff_eq]at hz2;exact⟨z,hz,hz2⟩
 ·obtain⟨y,hy,hy2⟩:=Array.any_eq_true'.1 h3
  simp only[bf,beq_iff_eq]at hy2;exact⟨y,hy,hy2⟩
 ·have:=gF.1 h13 t (eu.2 (by simpa using ht1))
  simp only[ny,decide_eq_true_eq]at this;exact this.resolve_left (by omega)
theorem aiR{x:Nat}{ot:iV}(H:OP l k s e d x o os oe ot)(hsel:∀(j:Nat)(o:iV) cs b,l.b[j]? = some o->o.op≠.select cs b)(hp:Pure P oe){C:ak->Prop}{u:aB}{f:Nat}{listed:Array Bool}{a:qQ}{w:ak}
 (hsz:listed.j=l.a) (htail:∀t,s<=t->t<l.a->listed.c t true=false) (hq:WO P .any (mM l k s e o os).b C s (l.a-s) aF (f+1) listed a) (hw:C w) (hsr:s∈fU .any l.b listed) (hel:listed.c e false=false)
 (hst:∀w',C w'->∃w2,(execOp (aF.put (some d) u).eval os).I P w'=.ok .skip w2/\wpList P l.b Q (l.f (s+1)) (aF.put (some d) u) w2) :
 wpOp P l.b Q s (wpAny P .any l.b Q (f+(l.a-s)) (listed.b s true)) (a.put (some d) u) w:=by
 have hks:=jJ H.ks;have hes:=jJ H.es;obtain⟨_,p,hpo,hall⟩:=kD.1 hsr;have:p=os:=by have:=H.hs;simp[this]at hpo;exact hpo.symm
 subst this;have hlt:s+1<l.a:=(iF.1 H.ht).1;have atI:e<listed.j:=by rw[hsz];have:=H.es;omega
 have he':e∈fU .any (mM l k s e o p).b listed:=kD.2 ⟨getD_in atI hel,oe,by rw[zi e H.ek hes];simpa using H.he,fun y hy hb=>by
  obtain⟨z,hz,hzb,hzo⟩:=H.sub y hy hb;rw[<-hzo];exact hall z hz hzb⟩
 obtain⟨v,hy,hK⟩:=qN (by rw[zi e H.ek hes];simpa using H.he) (hq.2 e he').2;have ag2:∀i,i<s->i≠e->listed.c i false=true:=fun i hi hie=>by
  obtain⟨y,hy,hb,ho⟩:=H.all i hi hie;rw[<-ho];exact hall y hy hb
 obtain rfl:f=0:=by
  rcases f with _|f
  ·rfl
  ·exfalso
   obtain⟨i,hi⟩:=List.exists_mem_of_ne_nil _ hK.1;have hin:=(hK.2 i hi).1;have hun:=(kD.1 hi).1;have h1:=zK hun;have h2:=DC hun;have h3:=ag2 i hin h1;rw[getD_both h2]at h3;cases h3
 obtain⟨hseq,hact⟩:=hK;rw[H.ed]at hact;have hA:aF.put (some d) u=(a.put (some d) u).put (some x) v:=by rw[<-hact];exact Act.put_comm a v u (fun e he=>by cases he;simpa using jl H.xd)
 unfold wpOp;rw[hpo];simp only;rw[if_pos (by simp[fB,H.sg])];refine .a ?_;obtain⟨w2,hrun,hrest⟩:=hst w hw;rw[hA,execOp_put p (fun cs b=>hsel s p cs b hpo) (a.put (some d) u) (some x) v (fun e he=>by cases he;exact H.sx)]at hrun;unfold nu;rw[hrun];simp only[Ls,H.sd,lJ];rw[bl];obtain⟨g,hg⟩:∃g,l.a-s=g+1:=⟨l.a-s-1,by omega⟩
 rw[hg]at hseq ⊢;simp only[lg,bf,decide_eq_true_eq]at hseq;have axR:(listed.b s true).c e false=false:=by rw[xq false (jl hes)];exact hel
 have her:e∈fU .any l.b (listed.b s true):=kD.2 ⟨getD_in (by simpa using atI) axR,oe,by simpa using H.he,fun y hy hb=>by
  obtain⟨z,hz,hzb,hzo⟩:=H.sub y hy hb;rw[<-hzo];exact getD_set_true (hall z hz hzb)⟩
 refine⟨fun h0=>(by rw[h0]at her;cases her),fun i hi=>?_⟩;obtain rfl:i=e:=by
  obtain⟨hun,q,hqo,hqa⟩:=kD.1 hi;have h1:=zK hun;have h2:=DC hun;by_cases hie:i=e
  ·exact hie
  ·exfalso
   rcases aZ i s with h3|h3
   ·have h4:=ag2 i h3 hie
    rw[getD_both h2]at h4;cases h4
   ·have hil:i<l.a:=by have:=(Array.getElem?_eq_some_iff.1 hqo).1;simpa using this
    rcases aZ (s+1) i with h4|h4
    ·obtain⟨q',hq',y,hy,hb,ho⟩:=Region.waitsFor_spec (H.chain i hil h4)
     have:q'=q:=Option.some.inj (hq'.symm.trans hqo);subst this;have h5:=hqa y hy hb;rw[ho,xq false (by omega),getD_both (htail (i-1) (by omega) (by omega))]at h5;cases h5
    ·obtain rfl:i=s+1:=by omega
     have:q=ot:=by have:=H.ht;simp[this]at hqo;exact hqo.symm
     subst this;obtain⟨y,hy,hb,ho⟩:=H.wt;have h5:=hqa y hy hb;rw[ho,axR]at h5;cases h5
 have heo:l.b[i]? = some oe:=by simpa using H.he
 unfold wpOp;simp only[heo];rw[if_pos (by simp[fB,H.eg])];refine .a ?_;have hyv:(execOp a.eval oe).I P w2=.ok (.value v) w2:=by
  rcases hy with⟨_,h2⟩|⟨h1,_⟩
  ·have h3:=h2 w hw
   unfold Oper.quietAt at h3;generalize hr:(execOp a.eval oe).I P w=r at h3;cases r with
   | halt y w'=>cases h3
   | ok n w'=>
     obtain⟨v',rfl,rfl,h4⟩:=hp a w w2 n w' hr;simp only[Oper.quietUpon]at h3;rw[<-h3.2];exact h4
  ·simp[fB,H.eg]at h1
 unfold nu;have hex:execOp (a.put (some d) u).eval oe=execOp a.eval oe:=execOp_put oe (fun cs b=>hsel i oe cs b heo) a (some d) u (fun e he=>by cases he;exact H.edl);have ha2:({tmps:=a.tmps.b d u,defers:=a.defers}:qQ)=a.put (some d) u:=rfl;rw[ha2,hex,hyv];simp only[Ls,H.ed];rw[<-hA];have hdl:(l.f (s+1)).a=g:=by simp;omega
 have:=wpAny_of_seq (P:=P) (md:=.any) (Q':=Q) (ops:=l.b) (l.f (s+1)) (s+1) ((listed.b s true).b i true) (aF.put (some d) u) w2 (fun j=>by simp[je]) (by
  rw[hdl,Array.setIfInBounds_comm _ _ (jl hes)];refine aay H.hk H.hs hks g (s+1) _ ?_ (by simp[hsz]) hseq.2;rw[xq false (jl hes)];simp[atI]) hrest
 rw[hdl]at this;exact this
theorem Na{listed:Array Bool}{i:Nat}(h:∀t,s<=t->t<l.a->listed.c t true=false)(hi:i<s):∀t,s<=t->t<l.a->(listed.b i true).c t true=false:=fun t h1 h2=>by rw[xq true (by omega)];exact h t h1 h2
theorem IW{x:Nat}{ot:iV}(H:OP l k s e d x o os oe ot)(hA:FM l.b k s d=true)(hsel:∀(j:Nat)(o:iV) cs b,l.b[j]? = some o->o.op≠.select cs b)(hp:Pure P oe){C:ak->Prop}{u:aB}
 (hst:∀w',C w'->∃w2,(execOp (aF.put (some d) u).eval os).I P w'=.ok .skip w2/\wpList P l.b Q (l.f (s+1)) (aF.put (some d) u) w2)
 (hend:∀listed w',listed.j=l.a->C w'->lg .any (mM l k s e o os).b (l.a-s) s listed=true->wpAny P .any l.b Q (l.a-s) listed (aF.put (some d) u) w') :
 ∀(f:Nat)(listed:Array Bool)(a:qQ)(w:ak),listed.j=l.a->(∀t,s<=t->t<l.a->listed.c t true=false)->listed.c k true=true->C w->WO P .any (mM l k s e o os).b C s (l.a-s) aF f listed a->wpAny P .any l.b Q (f+(l.a-s)) listed (a.put (some d) u) w
 | 0,listed,a,w,hsz,_,_,hw,h=>by
   obtain⟨h1,rfl⟩:=h;rw[bl];exact hend _ _ hsz hw h1
 | f+1,listed,a,w,hsz,htl,hkt,hw,h=>by
   rw[show f+1+(l.a-s)=(f+(l.a-s))+1 by omega];have hks:=jJ H.ks;refine⟨fun h0=>absurd ?_ h.1,fun i hi=>?_⟩
   ·rw[tJ]
    intro i hi;have:=Le H.hk H.hs hks hi;rw[h0]at this;cases this
   ·rcases Lf (e:=e) H.hk H.hs hks hi with hi'|⟨rfl,hel⟩
    ·obtain⟨hin,hq⟩:=h.2 i hi'
     obtain⟨hun,oi,hoi,_⟩:=kD.1 hi;have hik:i≠k:=fun e=>by rw[e,hkt]at hun;cases hun
     have his:i≠s:=jJ hin;obtain⟨hl,hd⟩:=UY hA hin hik hoi;unfold qOp at hq;rw[zi i hik his,hoi]at hq;unfold wpOp;simp only[hoi];simp only[Va H.hk H.hs hks]at hq;rw[wanted_put oi a (some d) u (fun e he=>by cases he;exact hl)];split
     ·rename_i hw2
      simp only[hw2,if_true]at hq;exact .a (Gq (fun cs b=>hsel i oi cs b hoi) hl hd hw (fun a' w' hw' h'=>IW H hA hsel hp hst hend f _ a' w' (by simp[hsz]) (Na htl hin) (Kt hkt) hw' h') hq)
     ·rename_i hw2
      simp only[hw2]at hq;rw[Act.put_comm a u undef (fun e he=>by cases he;exact hd)];exact IW H hA hsel hp hst hend f _ _ w (by simp[hsz]) (Na htl hin) (Kt hkt) hw hq
    ·exact aiR H hsel hp hsz htl h hw hi hel hst
theorem Vb{x:Nat}{ot:iV}(H:OP l k s e d x o os oe ot)(hA:FM l.b k s d=true)(hD:Qb (mM l k s e o os)=true)(hsel:∀(j:Nat)(o:iV) cs b,l.b[j]? = some o->o.op≠.select cs b)(hp:Pure P oe)
 (hod:o.Y=some d) (hog:o.guard=none) (hoa:o.after = #[]) (hrun:∀(a:qQ) w,(execOp a.eval o).I P w=.ok (.value (.c (some ⟨w.a.j,0,none⟩))) (w.alloc (.D z T))) {S:ak->Prop} (hS:Shut S)
 (hst:∀w1 w',S w1->S w'->aM (w1.alloc (.D z T)).a.j (w1.alloc (.D z T)) w'->∃w2,(execOp (aF.put (some d) (.c (some ⟨w1.a.j,0,none⟩))).eval os).I P w'=.ok .skip w2/\wpList P l.b Q (l.f (s+1)) (aF.put (some d) (.c (some ⟨w1.a.j,0,none⟩))) w2)
 (hend:∀listed w1 w',listed.j=l.a->S w1->S w'->aM (w1.alloc (.D z T)).a.j (w1.alloc (.D z T)) w'->lg .any (mM l k s e o os).b (l.a-s) s listed=true->wpAny P .any l.b Q (l.a-s) listed (aF.put (some d) (.c (some ⟨w1.a.j,0,none⟩))) w') :
 ∀(f:Nat)(listed:Array Bool)(a:qQ)(w:ak),listed.j=l.a->(∀t,s<=t->t<l.a->listed.c t true=false)->listed.c k true=false->S w->(∀C:ak->Prop,(∀w,C w->S w)->Shut C->(∃w,C w)->WO P .any (mM l k s e o os).b C s (l.a-s) aF f listed a)->wpAny P .any l.b Q (f+(l.a-s)) listed a w
 | 0,listed,a,w,hsz,_,hun,hw,HH=>by
   obtain⟨h1,_⟩:=HH S (fun _ h=>h) hS ⟨w,hw⟩;have:k∈fU .any (mM l k s e o os).b listed:=kD.2 ⟨hun,kV o,U9 H.hk (jJ H.ks),fun e he=>by simp[kV,hoa]at he⟩;have:=seqB_ready h1 k this;have:=H.ks;omega
 | f+1,listed,a,w,hsz,htl,hun,hw,HH=>by
   rw[show f+1+(l.a-s)=(f+(l.a-s))+1 by omega];have hks:=jJ H.ks;have H0:=HH S (fun _ h=>h) hS ⟨w,hw⟩;have hkl:k<l.a:=(iF.1 H.hk).1;refine⟨fun h0=>absurd ?_ H0.1,fun i hi=>?_⟩
   ·rw[tJ]
    intro i hi;have:=Le H.hk H.hs hks hi;rw[h0]at this;cases this
   ·rcases Lf (e:=e) H.hk H.hs hks hi with hi'|⟨rfl,hel⟩
    ·have hin:=(H0.2 i hi').1
     by_cases hik:i=k
     ·subst hik
      unfold wpOp;simp only[dZ,H.hk];rw[if_pos (by simp[fB,hog])];refine .a ?_;unfold nu;rw[hrun];simp only[Ls,hod];have hC:=HH (fun w'=>S w'/\aM (w.alloc (.D z T)).a.j (w.alloc (.D z T)) w') (fun _ h=>h.1) (U0 hS _) ⟨_,hS _ _ hw ((aG _ _).alloc (av _) _),aG _ _⟩;obtain⟨v,_,hK⟩:=qN (o:=kV o) (U9 H.hk hks) (hC.2 i hi').2;have:=IW (C:=fun w'=>S w'/\aM (w.alloc (.D z T)).a.j (w.alloc (.D z T)) w') (u:=.c (some ⟨w.a.j,0,none⟩)) H hA hsel hp (fun w' hw'=>hst w w' hw hw'.1 hw'.2) (fun listed' w' hz hw' hB=>hend listed' w w' hz hw hw'.1 hw'.2 hB) f _ _ (w.alloc (.D z T)) (by simp[hsz]) (Na htl hin) (by
       have:i<listed.j:=by rw[hsz];exact hkl
       simp[this]) ⟨hS _ _ hw ((aG _ _).alloc (av _) _),aG _ _⟩ hK
      have e1:(kV o).Y=some d:=hod;rw[e1,M7]at this;exact this
     ·obtain⟨_,oi,hoi,_⟩:=kD.1 hi
      have his:i≠s:=jJ hin;have afm:(mM l k s e o os).b[i]? = some oi:=by rw[zi i hik his];exact hoi
      obtain⟨v,hy,hK⟩:=qN afm (H0.2 i hi').2;have hq:qOp P l.b S i (fun a'=>a'=a.put oi.Y v) a:=by
       unfold qOp;simp only[hoi];unfold YieldsIn at hy;simp only[Va H.hk H.hs hks]at hy;rcases hy with⟨h1,h2⟩|⟨h1,rfl⟩
       ·simp only[h1,if_true];exact⟨v,h2,rfl⟩
       ·simp only[h1,jF,if_false]
      refine wpOp_of_qOp hw (fun a' w' hw' e1=>?_) hq;subst e1;refine Vb H hA hD hsel hp hod hog hoa hrun hS hst hend f _ _ w' (by simp[hsz]) (Na htl hin) (MZ hun (jl hik)) hw' (fun C hC1 hC2 hC3=>?_);obtain⟨_,v2,_,_,_,hK2,_⟩:=acP hD hi' afm H0 (HH C hC1 hC2 hC3);have e1:a.put oi.Y v=a.put oi.Y v2:=by
       cases hd:oi.Y with
       | none=>rfl
       | some dd=>
         have hno:∀j oj,(mM l k s e o os).b[j]? = some oj->(listed.b i true).c j true=false->oj.Y≠some dd:=fun j oj hj hl hdj=>by
          have:=FP hD (by simpa using afm) (by simpa using hj) hd hdj;exact zK hl this.symm
         have q1:=(Bz f _ _ hK).2.2 dd hno;have q2:=(Bz f _ _ hK2).2.2 dd hno;rw[hd]at q1 q2;have q:=q1.symm.trans q2;simp only[lJ,dO,if_pos]at q ⊢;by_cases hs:dd<a.tmps.j
         ·simp[hs]at q;rw[q]
         ·have hs':=Nat.le_of_not_lt hs
          rw[jO hs',jO hs']
      rw[e1];exact hK2
    ·exfalso
     obtain⟨_,p,hpo,hall⟩:=kD.1 hi;have:p=os:=by have:=H.hs;simp[this]at hpo;exact hpo.symm
     subst this;obtain⟨y,hy,hb,ho⟩:=H.all k H.ks (jl H.ek);have:=hall y hy hb;rw[ho,getD_both hun]at this;cases this
theorem wZ{S:ak->Prop}(hS:Shut S)(k s e d x:Nat){id:Nat}{Q:zO->qQ->ak->Prop}{a:qQ}{w:ak}{l:List iV}{o os oe ot:iV}(T:bK)(z:Array aB)(hm:P.follows .mixedOrders=true)
 (hk:l[k]? = some o) (hs:l[s]? = some os) (he:l[e]? = some oe) (ht:l[s+1]? = some ot) (hx:oe.Y=some x) (hL:al5 l.b k s e d=true) (hB:xu .any (mM l k s e o os).b s=true) (hA:FM l.b k s d=true) (hD:Qb (mM l k s e o os)=true) (hsel:Region.noSelect l.b=true)
 (hod:o.Y=some d) (hog:o.guard=none) (hoa:o.after = #[]) (hrun:∀(a:qQ) w,(execOp a.eval o).I P w=.ok (.value (.c (some ⟨w.a.j,0,none⟩))) (w.alloc (.D z T))) (hp:Pure P oe) (h0:S w.drew)
 (hh:∃aF:qQ,(∀(T:Type)(f:T->ak),Nonempty T->(∀m,S (f m))->(∀m w',aM (f m).a.j (f m) w'->∃m',w'=f m')->wpQuiet P (mM l k s e o os).b (fun w'=>∃m,w'=f m) (fun a'=>a'=aF) ((mM l k s e o os).d s) a)
 /\ (∀w1 w',S w1->S w'->aM (w1.alloc (.D z T)).a.j (w1.alloc (.D z T)) w'->∃w2,(execOp (aF.put (some d) (.c (some ⟨w1.a.j,0,none⟩))).eval os).I P w'=.ok .skip w2/\wpList P l.b Q (l.f (s+1)) (aF.put (some d) (.c (some ⟨w1.a.j,0,none⟩))) w2)):(Code.region id l.b true).wp P Q a w:=by
 obtain⟨aF,h,h2⟩:=hh;have H:=OP.of hk hs he ht hx hL;have hks:=jJ H.ks;have hsl:s<l.a:=(iF.1 hs).1;simp only[xu,bf,decide_eq_true_eq]at hB;obtain⟨⟨⟨⟨al0,hn⟩,hs'⟩,hc⟩,hlex⟩:=hB;have hsz:(mM l k s e o os).b.j=l.a:=by simp[mM]
 have htl:((mM l k s e o os).d s).a=s:=by simp[mM];omega
 have inv0:HeadInv .any (mM l k s e o os).b s (ni l.b.j false):=
  ⟨by simp[mM],fun j oj _ hl=>(by rw[mJ]at hl;cases hl),fun t _ ht=>getD_in (by rw[hsz]at ht;simpa using ht) (mJ _ _)⟩
 refine wp_region_any hm ?_;rw[hsz]at hlex;have hdl:(l.f s).a=l.a-s:=by simp
 have:=Vb (P:=P) (aF:=aF) (Q:=Q) H hA hD (Region.noSelect_spec hsel) hp hod hog hoa hrun hS h2 (fun listed w1 w' hz hw1 hw' hb hq=>by
  obtain⟨w2,hr,hrest⟩:=h2 w1 w' hw1 hw' hb;have hel:listed.c e false=true:=by
   obtain⟨g,hg⟩:∃g,l.a-s=g+1:=⟨l.a-s-1,by omega⟩
   rw[hg]at hq;simp only[lg,bf,decide_eq_true_eq]at hq;have:s∈fU .any (mM l k s e o os).b listed:=by rw[hq.1];simp
   obtain⟨_,p,hpo,hall⟩:=kD.1 this;rw[aax hs]at hpo;cases hpo;exact hall {on:=e,ground:=.data} (by simp[yg]) rfl
  have:=wpAny_of_seq (P:=P) (md:=.any) (Q':=Q) (ops:=l.b) (l.f s) s listed (aF.put (some d) (.c (some ⟨w1.a.j,0,none⟩))) w' (fun j=>by simp[je]) (by rw[hdl];exact aay H.hk H.hs hks _ _ _ hel hz hq) (by
   have hd:l.f s=os::l.f (s+1):=by
    have:=List.drop_eq_getElem_cons hsl;have h3:=(iF.1 hs).2;rw[this,h3]
   rw[hd];unfold wpList;rw[if_pos (by simp[fB,H.sg])];refine .a ?_;unfold nu;rw[hr];simp only[Ls,H.sd];exact hrest)
  rwa [hdl]at this) s (ni l.b.j false) a {w with drawn:=w.drawn+1} (by simp) (fun t _ ht=>getD_in (by simpa using ht) (mJ _ _)) (getD_in (by simp;have:=H.ks;omega) (mJ _ _)) h0 (fun C hC1 hC2 hC3=>by
  have hq:=h {w // C w} Subtype.val (let⟨w,hw⟩:=hC3;⟨⟨w,hw⟩⟩) (fun m=>hC1 _ m.2) (fun m w' hb=>⟨⟨w',hC2 _ _ m.2 hb⟩,rfl⟩);have e:(fun w':ak=>∃m:{w // C w},w'=m.val)=C:=by
   funext w';rw[eq_iff_iff];exact⟨fun⟨m,hm⟩=>by rw[hm];exact m.2,fun h=>⟨⟨w',h⟩,rfl⟩⟩
  rw[e]at hq;have:=Zp (md:=.any) (C:=C) (g:=l.a-s) al0 hs' hc hn ((mM l k s _ o os).d s) 0 (ni l.b.j false) a (fun j hj=>by
   have hj':j<s:=by rw[htl]at hj;exact hj
   rw[gZ hj',bl];simp) (by simpa using htl) inv0 (by rw[htl];simpa using hlex) hq
  rw[htl]at this;exact this)
 rw[show s+(l.a-s)=l.b.j by simp;omega]at this;exact this
theorem tL{oe:iV}{t:pG}{i:Nat}(h:oe.op=.m t i):Pure P oe:=by
 intro a w w' n w1 hr;simp only[execOp,h]at hr ⊢;generalize a.eval t=v at hr ⊢;unfold Instr.extract at hr ⊢;split at hr
 ·rename_i vs
  split at hr
  ·rename_i u hu
   simp at hr;exact⟨u,hr.1.symm,hr.2.symm,by simp⟩
  ·simp at hr
 ·simp at hr
end
end
section
attribute [local go_sem high] iU jE
theorem Vd:∀(l:List UInt8)(i:Nat),i%2=0->i<l.a->words (l.d (i+2))=words (l.d i)++[256*nP l i+nP l (i+1)]
 | [],i,_,h=>by simp at h
 | [a],0,_,_=>by simp[words,nP]
 | [a],i+1,h1,h=>by simp at h
 | a::b::l,0,_,_=>by simp[words,nP]
 | a::b::l,1,h1,_=>by omega
 | a::b::l,i+2,h1,h=>by
   have:=Vd l i (by omega) (by simp at h;omega);show(256*a.e+b.e)::words (l.d (i+2))=((256*a.e+b.e)::words (l.d i))++[256*nP l i+nP l (i+1)];rw[this];rfl
theorem OQ:∀l:List UInt8,(words l).a=(l.a+1)/2
 | []=>rfl
 | [a]=>by simp[words]
 | a::b::l=>by have:=OQ l;simp[words,this];omega
theorem acU:aah 70 3 FC 1:=by
 obtain⟨i,hi,hz,hs⟩:=Rt;have h4:(ah.l 3).map (fun i=>decide (i.bytes<=1000))=some true:=by kernel_rfl
 rw[hi]at h4;simp at h4;exact⟨i,_,og,hi,hz,hs,rfl,by omega,h4,XL,fun s=>by simp[FC,cO]⟩
def zk(l:List UInt8):List Int:=(words l).map fun n:Nat=>(n:Int)
theorem acV:∀(l:List UInt8)(x:Nat),x∈words l->x<=65535
 | [],x,h=>by simp[words]at h
 | [a],x,h=>by have:=a.a;simp[words]at h;omega
 | a::b::l,x,h=>by
   have:=a.a;have:=b.a;simp only[words,bC]at h;rcases h with rfl|h
   ·omega
   ·exact acV l x h
def WdP(W:ak)(l:List UInt8)(e:kZ)(W':ak):Prop:=∃A' m c',e=.a (.a A' m c')/\RdI W' W'.a.j A' m (zk l)/\aM W.a.j W W'
theorem aaz(W:ak)(A:Option aT)(n c:Nat)(l:List UInt8)(hn:n<=1000000)(hr:fP W W.a.j A n l):aQ ah 257 #[.a A n c] W (WdP W l):=by
 have HR:=ab hr;have hl:=ab hr.len;clear hr;go_enter Tryz.func257,Tryz.ntmps257;go_wp2;go_loopw [3,4] (fun s3 s4 wr=>∃(i:Nat)(A':Option aT)(m c':Nat),i%2=0/\i<=n+1/\s4=.b .a i/\s3=.a A' m c'/\Rz FC 1 3 [] W wr (.a A' m c') (zk (l.d i)))
  (fun s3 s4 wr=>n+2-(intOf s4).e)
 case atStart=>exact⟨0,none,0,0,rfl,by omega,rfl,rfl,by simpa[zk,words]using Rz.nil (f:=FC) (sz:=1) (e:=3) W⟩
 case round=>
  obtain⟨i,A',m,c',hi2,hin,rfl,rfl,hz⟩:=hrel;have HZ:=ab hz;have hm:=hz.len;clear hz;by_cases hlt:i<n
  ·have q:(i:Int)<n:=by omega
   obtain⟨a,rfl,hab⟩:=HR.i.ag0 (show 0<n by omega);have RW:=ab ((HR.i.S HZ.i.R).lu HZ.i.R.j:fP wr wr.a.j (some a) n l);obtain⟨_,e1,_,hc1⟩:=RW.i.fD hlt;cases e1;unfold bv at hc1;have hb0:((l.c i 0).e:Int)=(nP l i:Nat):=rfl;rw[hb0]at hc1;have atJ:=uW l i;have hlt1:=uW l (i+1);have HML:=ab (show(zk (l.d i)).a+1<=1000000 by simp[zk,OQ];omega);have w1:=jT (nP l i:Nat) (by omega);have w2:=jT (256*(nP l i:Int)) (by omega);have w3:=jT ((i:Int)+1) (by omega);have HS:=ab (Vd l i hi2 (by rw[hl.i];exact hlt));have FIN:=ab (fun(v:Int) (A5:Option aT) (n5 c5:Nat) (w5:ak) (hv:v=((256*nP l i+nP l (i+1):Nat):Int)) (h:Rz FC 1 3 [] W w5 (.a A5 n5 c5) (zk (l.d i)++[v]))=>show Rz FC 1 3 [] W w5 (.a A5 n5 c5) (zk (l.d (i+2)))by
    unfold zk at h ⊢;rw[HS.i,jg];rw[hv]at h;exact h)
   by_cases h1:i+1<n
   ·have q1:(i:Int)+1<n:=by omega
    have hc2:=RW.i.UW i h1;have w4:=jT (nP l (i+1):Nat) (by omega);have w5:=jT (256*(nP l i:Int)+(nP l (i+1):Nat)) (by omega);have Za:=ab (HZ.i.alloc (.D (sN [256*(nP l i:Int)+(nP l (i+1):Nat)]) 3));have RO:=ab (RdI.lit wr [256*(nP l i:Int)+(nP l (i+1):Nat)] 3);go_wp2_with (at_builtin;refine OG acU rfl (.tmp 31) (.tmp 33) rfl rfl Za.i rfl RO.i HML.i ?_;intro A5 n5 c5 w5 h5 h6;have Z5:=ab h5;clear h5 h6);exact⟨⟨i+2,A5,n5,c5,by omega,by omega,by rw[show((i+2:Nat):Int)=(i:Int)+2 by omega],rfl,FIN.i _ _ _ _ _ (by omega) Z5.i⟩,by simp only[intOf];omega⟩
   ·have q1:¬(i:Int)+1<n:=by omega
    have HB0:=ab (show nP l (i+1)=0 by unfold nP;rw[au,aS (by rw[hl.i];omega)];rfl);have Za:=ab (HZ.i.alloc (.D (sN [256*(nP l i:Int)]) 3));have RO:=ab (RdI.lit wr [256*(nP l i:Int)] 3);go_wp2_with (at_builtin;refine OG acU rfl (.tmp 31) (.tmp 33) rfl rfl Za.i rfl RO.i HML.i ?_;intro A5 n5 c5 w5 h5 h6;have Z5:=ab h5;clear h5 h6);exact⟨⟨i+2,A5,n5,c5,by omega,by omega,by rw[show((i+2:Nat):Int)=(i:Int)+2 by omega],rfl,FIN.i _ _ _ _ _ (by rw[HB0.i];omega) Z5.i⟩,by simp only[intOf];omega⟩
  ·have q:¬(i:Int)<n:=by omega
   have H:=ab (show zk (l.d i)=zk l by rw[aK (by rw[hl.i];omega)]);clear hm;go_wp2;go_ret;rw[H.i]at HZ;exact⟨A',m,c',rfl,HZ.i.rd,HZ.i.R⟩
theorem aiS(l:List Nat)(i:Nat)(h:i<l.a):(l.d (i+1)).foldl vE 0=vE ((l.d i).foldl vE 0) (l.c i 0):=by
 rw[List.take_succ_eq_append_getElem h,List.foldl_append];simp[au,h]
theorem Nb:∀(l:List Nat)(a:Nat),a<=65535->(∀x∈l,x<=65535)->l.foldl vE a<=65535
 | [],a,h,_=>h
 | x::l,a,h,hl=>Nb l _ (Fp h (hl x (by simp))) (fun y hy=>hl y (by simp[hy]))
theorem Ve(W:ak)(A:Option aT)(n c:Nat)(l:List UInt8)(hn:n<=1000000)(hr:fP W W.a.j A n l):aQ ah 186 #[.a A n c] W (gU W (.b .a (wU l:Nat))):=by
 have hl:=hr.len;have hwl:=OQ l;have CW:=ab (aaz W A n c l hn hr);unfold WdP at CW;clear hr;have HW:=ab (acV l);go_enter Tryz.func186,Tryz.ntmps186;go_wp2_with (go_at_call 257;(with_reducible refine CW.i.g ?_);rintro e w1 ⟨A',m,c',rfl,h1,h2⟩;have R1:=ab h1;have B1:=ab h2;clear h1 h2);have hm:=R1.i.len;unfold zk at hm;rw[bT]at hm;have hmb:m<=1000000:=by omega
 clear hl hwl;go_loopw [4,5] (fun s4 s5 wr=>∃i:Nat,i<=m/\s5=.b .a i/\s4=.b .a (((words l).d i).foldl vE 0:Nat)/\wr=w1)
  (fun s4 s5 wr=>m-(intOf s5).e)
 case atStart=>exact⟨0,by omega,rfl,rfl,rfl⟩
 case round=>
  obtain⟨i,him,rfl,rfl,hwr⟩:=hrel;rw[hwr];clear hwr;by_cases hlt:i<m
  ·have q:(i:Int)<m:=by omega
   obtain⟨b,o,rfl,_,hcell⟩:=R1.i.cell XL 0 hlt;have hc:=hcell 0 (by omega);have hv:(FC ((zk l).c i 0))[0]? = some (.b .a ((words l).c i 0:Nat)):=by
    unfold zk FC;rw[au,jA,aC (by omega)];simp[au,aC (show i<(words l).a by omega)]
   rw[hv]at hc;simp only[gB,Nat.add_zero]at hc;clear hcell hv;have HS:=ab (aiS (words l) i (by omega));have hx:(words l).c i 0<=65535:=HW.i _ (by rw[au,aC (show i<(words l).a by omega)];exact dX _);obtain⟨x,hx1⟩:=dw ((words l).c i 0);obtain⟨y,hy1⟩:=dw (((words l).d i).foldl vE 0);have hy:y<=65535:=by rw[hy1];exact Nb _ _ (by omega) (fun z hz=>HW.i z (List.mem_of_mem_take hz))
   rw[<-hx1]at hc hx HS;rw[<-hy1]at HS ⊢;have CR:=ab (ab2 y x w1 hy hx);clear hx1 hy1;go_wp2_with (go_at_call 258;(with_reducible refine CR.i.g ?_);rintro e w2 ⟨rfl,rfl⟩);exact⟨⟨i+1,by omega,by rw[show((i+1:Nat):Int)=(i:Int)+1 by omega],by rw[HS.i],trivial⟩,by simp only[intOf];omega⟩
  ·have q:¬(i:Int)<m:=by omega
   have H:=ab (show((words l).d i).foldl vE 0=Mc 0 l by rw[aK (by omega)];rfl);have hle:=Zn l 0 (by omega);rw[H.i];have HB:=ab (show(65535:Int)-(Mc 0 l:Nat)=(wU l:Nat)by unfold wU;omega);generalize Mc 0 l=z at *;go_wp2;go_ret;exact⟨by rw[<-HB.i];rfl,B1.i⟩
end
section
attribute [local go_sem high] iU jE
end
section
attribute [local go_sem high] iU jE
theorem apA{p:Int}{l:List UInt8}(h6:p≠6)(h17:p≠17):IU p l=(qJ,5):=uI (by unfold uX;rw[if_pos ⟨h6,h17⟩]) (by decide)
theorem arv(l:List UInt8):IU 6 l=if l.a<20 then(qJ,2)else if nP l 12/16*4<20 then(qJ,3)else if l.a<nP l 12/16*4 then(qJ,2)else(⟨eU l 0,eU l 2,(nP l 13%64:Nat),(nP l 12/16*4:Nat),l.a⟩,0):=by
 split
 ·rename_i h;exact uI (by unfold uX;rw[if_neg (by simp),if_pos (by rw[if_pos rfl];exact h)]) (by decide)
 ·rename_i h
  have hg:qv 6 l=⟨eU l 0,eU l 2,(nP l 13%64:Nat),(nP l 12/16*4:Nat),l.a⟩:=by unfold qv;rw[if_pos rfl]
  have e1:¬l.a<(if(6:Int)=6 then 20 else 8):=by rw[if_pos rfl];exact h
  split
  ·rename_i h2;exact uI (by unfold uX;rw[if_neg (by simp),if_neg e1,if_pos (.a ⟨rfl,by rw[hg];simp only;omega⟩)]) (by decide)
  ·rename_i h2
   have e2:¬(((6:Int)=6/\(qv 6 l).head<20)\/(qv 6 l).dz<8):=by rw[hg];simp only;omega
   split
   ·rename_i h3;exact uI (by unfold uX;rw[if_neg (by simp),if_neg e1,if_neg e2,if_pos (by rw[hg];simp only;omega)]) (by decide)
   ·rename_i h3
    have:=UQ (p:=6) (l:=l) (by unfold uX;rw[if_neg (by simp),if_neg e1,if_neg e2,if_neg (by rw[hg];simp only;omega)]);rw[this,hg]
theorem al6(l:List UInt8):IU 17 l=if l.a<8 then(qJ,2)else if eU l 4<8 then(qJ,3)else if l.a<eU l 4 then(qJ,2)else(⟨eU l 0,eU l 2,0,8,eU l 4⟩,0):=by
 split
 ·rename_i h;exact uI (by unfold uX;rw[if_neg (by simp),if_pos (by rw[if_neg (by decide)];exact h)]) (by decide)
 ·rename_i h
  have hg:qv 17 l=⟨eU l 0,eU l 2,0,8,eU l 4⟩:=by unfold qv;rw[if_neg (by decide)]
  have e1:¬l.a<(if(17:Int)=6 then 20 else 8):=by rw[if_neg (by decide)];exact h
  split
  ·rename_i h2;exact uI (by unfold uX;rw[if_neg (by simp),if_neg e1,if_pos (.b (by rw[hg];simp only;omega))]) (by decide)
  ·rename_i h2
   have e2:¬(((17:Int)=6/\(qv 17 l).head<20)\/(qv 17 l).dz<8):=by rw[hg];simp only;omega
   split
   ·rename_i h3;exact uI (by unfold uX;rw[if_neg (by simp),if_neg e1,if_neg e2,if_pos (by rw[hg];simp only;omega)]) (by decide)
   ·rename_i h3
    have:=UQ (p:=17) (l:=l) (by unfold uX;rw[if_neg (by simp),if_neg e1,if_neg e2,if_neg (by rw[hg];simp only;omega)]);rw[this,hg]
theorem Vf(W:ak)(A:Option aT)(n c B:Nat)(l:List UInt8)(k:Nat)(i:Int)(hi:i=k)(hk:k+1<n)(hnn:n<=1000000000)(hr:fP W B A n l):aQ ah 299 #[.a A n c,.b .a i] W fun e W'=>e=.a (.b .a (eU l k:Nat))/\∃q,W'=W.drewN q:=by subst hi;exact afh W A n c B l k hk hnn hr
theorem acW(W:ak)(p:Int)(A:Option aT)(n c:Nat)(l:List UInt8)(hc:n<=1000000000)(hr:fP W W.a.j A n l):aQ ah 227 #[.b .a p,.a A n c] W (PtP W (IU p l)):=by
 have HR:=ab hr;have hl:=ab hr.len;have b0:=ab ((Bx.start W).new qJ.ay 172);clear hr;go_enter Tryz.func227,Tryz.ntmps227;by_cases p6:p=6
 ·subst p6
  have HP:=ab (arv l);rw[hl.i]at HP;by_cases h20:n<20
  ·have q:(n:Int)<20:=by omega
   go_wp2;refine aN (RV.qD rfl _ rfl b0.i.X (Pt.G _)) rfl ?_;rw[HP.i,if_pos h20];exact⟨rfl,b0.i.R⟩
  have q:¬(n:Int)<20:=by omega
  obtain⟨a,rfl,hab⟩:=HR.i.ag0 (show 0<n by omega);have c12:=(b0.i.MX HR.i).UW 11 (by omega);have i12:12<n:=by omega
  obtain⟨k,hk⟩:∃k:Nat,k=nP l 12/16*4:=⟨_,rfl⟩
  have hkk:4*((nP l 12:Int)/16)=(k:Int):=by omega
  have hkl:k<100:=by have:=uW l 12;omega
  have w13:4*((nP l 12:Int)/16%256)=(k:Int):=by have:=uW l 12;omega
  rw[<-hk]at HP;clear hk hkk;by_cases h2:k<20
  ·have q2:(k:Int)<20:=by omega
   go_wp2;refine aN (RV.qD rfl _ rfl b0.i.X (Pt.G _)) rfl ?_;rw[HP.i,if_neg h20,if_pos h2];exact⟨rfl,b0.i.R⟩
  have q2:¬(k:Int)<20:=by omega
  by_cases h3:n<k
  ·have q3:(n:Int)<k:=by omega
   go_wp2;refine aN (RV.qD rfl _ rfl b0.i.X (Pt.G _)) rfl ?_;rw[HP.i,if_neg h20,if_neg h2,if_pos h3];exact⟨rfl,b0.i.R⟩
  have q3:¬(n:Int)<k:=by omega
  have i13:13<n:=by omega
  obtain⟨g,hg⟩:∃g:Nat,g=nP l 13%64:=⟨_,rfl⟩
  have hgg:(nP l 13:Int)%64=(g:Int):=by omega
  have w14:(nP l 13:Int)%64%256=(g:Int):=by omega
  have w15:(nP l 13:Int)%64=(g:Int):=by omega
  rw[<-hg]at HP;clear hg hgg;go_upto_region 9 with fail
  generalize W.alloc (.D qJ.ay 172)=w1 at b0 ⊢;obtain⟨T,f,n0,E0,es,ew⟩:=Ic (Bx ([(W.a.j,qJ.ay)]) W) (w1) (b0.i.drew);have hT:Nonempty T:=⟨n0⟩
  have ES:=ab es;have EW:=ab ew;clear es ew;have RF:=ab (fun m=>(ES.i m).MX HR.i);have k13:∀m,(f m).b ⟨a.block,a.off+13,none⟩=some (.b .b (nP l 13)):=fun m=>(RF.i m).UW 12 (by omega)
  have C0:=ab (fun m=>Vf (f m) (some a) n c _ l 0 0 rfl (by omega) hc (RF.i m));have C2:=ab (fun m=>Vf (f m) (some a) n c _ l 2 2 rfl (by omega) hc (RF.i m));refine TQ f 13 (by kernel_rfl) (by kernel_rfl) n0 E0 ?_;simp only[jM,jY,jN,kW]
  repeat(go_big_quiet_step ((first|(go_at_call 299;(with_reducible refine(C0.i _).g ?_);rintro e w2 ⟨rfl,q,rfl⟩;exact⟨rfl,EW.i _ ((ES.i _).drewN q)⟩)|(go_at_call 299;(with_reducible refine(C2.i _).g ?_);rintro e w2 ⟨rfl,q,rfl⟩;exact⟨rfl,EW.i _ ((ES.i _).drewN q)⟩))))
  refine gW ?_;rintro _ ⟨m',rfl⟩;have ZT:=ab (ES.i m');clear ES EW C0 C2 E0 RF k13;generalize f m'=w8 at *;clear hT n0;have yI:=ZT.i.X.O 0 5 (aX (Pt.G qJ).symm);have Z2:=ab (ZT.i.put (fun p hp=>by cases hp) (Pt.mk (eU l 0) (eU l 2) g k n).ay (by rw[Pt.G,Pt.G]));go_step;go_simp;go_step;go_step;go_wp2;refine aN (RV.qD rfl _ rfl Z2.i.X (Pt.G _)) rfl ?_;rw[HP.i,if_neg h20,if_neg h2,if_neg h3];exact⟨rfl,Z2.i.R⟩
 have q6:(p==6)=false:=by simp[p6]
 by_cases p17:¬p=17
 ·have q17:(p != 17)=true:=by simp[p17]
  go_wp2;refine aN (RV.qD rfl _ rfl b0.i.X (Pt.G _)) rfl ?_;rw[apA p6 p17];exact⟨rfl,b0.i.R⟩
 obtain rfl:p=17:=by simpa using p17
 have HP:=ab (al6 l);rw[hl.i]at HP;by_cases h20:n<8
 ·have q:(n:Int)<8:=by omega
  go_wp2;refine aN (RV.qD rfl _ rfl b0.i.X (Pt.G _)) rfl ?_;rw[HP.i,if_pos h20];exact⟨rfl,b0.i.R⟩
 have q:¬(n:Int)<8:=by omega
 have CT:=ab (fun(w:ak) (h:Bx [(W.a.j,qJ.ay)] W w) (k:Nat) (i:Int) (hi:i=k) (hk:k<6)=>Vf w A n c _ l k i hi (by omega) hc (h.MX HR.i));have C4:=ab (fun w h=>CT.i w h 4 4 rfl (by omega));have C0:=ab (fun w h=>CT.i w h 0 0 rfl (by omega));have C2:=ab (fun w h=>CT.i w h 2 2 rfl (by omega));obtain⟨t,ht⟩:=dw (eU l 4);rw[<-ht]at C4 HP;clear ht;generalize hw1:W.alloc (.D qJ.ay 172)=w1 at b0 ⊢;have b1:=ab (fun q=>b0.i.drewN q);by_cases h2:t<8
 ·have q2:(t:Int)<8:=by omega
  go_wp2_with (go_at_call 299;(with_reducible refine(C4.i _ b0.i).g ?_);rintro e w2 ⟨rfl,q,rfl⟩;have yI:=(b1.i q).X.O 0 5 (aX (Pt.G qJ).symm);have Z2:=ab ((b1.i q).put (fun p hp=>by cases hp) qJ.ay rfl));refine aN (RV.qD rfl _ rfl Z2.i.X (Pt.G _)) rfl ?_;rw[HP.i,if_neg h20,if_pos h2];exact⟨rfl,Z2.i.R⟩
 have q2:¬(t:Int)<8:=by omega
 have TH:=ab (fun q=>((b1.i q).X.O 0 5 (aX (Pt.G qJ).symm):(w1.drewN q).O W.a.j 0 5));have PU:=ab (fun q (x:Pt)=>(b1.i q).put (fun p hp=>by cases hp) x.ay (by rw[Pt.G,Pt.G]));by_cases h3:n<t
 ·have q3:(n:Int)<t:=by omega
  go_upto_region 17 with(first|(go_at_call 299;(with_reducible refine(C4.i _ b0.i).g ?_);rintro e w2 ⟨rfl,qq,rfl⟩)|(go_at_call 299;(with_reducible refine(C4.i _ (b1.i _)).g ?_);rintro e w2 ⟨rfl,qq,rfl⟩)|(go_at_call 299;(with_reducible refine(C0.i _ b0.i).g ?_);rintro e w2 ⟨rfl,qq,rfl⟩)|(go_at_call 299;(with_reducible refine(C0.i _ (b1.i _)).g ?_);rintro e w2 ⟨rfl,qq,rfl⟩)|(go_at_call 299;(with_reducible refine(C2.i _ b0.i).g ?_);rintro e w2 ⟨rfl,qq,rfl⟩)|(go_at_call 299;(with_reducible refine(C2.i _ (b1.i _)).g ?_);rintro e w2 ⟨rfl,qq,rfl⟩))
  have th2:=TH.i;go_wp2;refine aN (RV.qD rfl _ rfl (PU.i _ qJ).X (Pt.G _)) rfl ?_;rw[HP.i,if_neg h20,if_neg h2,if_pos h3];exact⟨rfl,(PU.i _ qJ).R⟩
 have q3:¬(n:Int)<t:=by omega
 have th2:=TH.i;go_wp2_with (first|(go_at_call 299;(with_reducible refine(C4.i _ b0.i).g ?_);rintro e w2 ⟨rfl,qq,rfl⟩)|(go_at_call 299;(with_reducible refine(C4.i _ (b1.i _)).g ?_);rintro e w2 ⟨rfl,qq,rfl⟩)|(go_at_call 299;(with_reducible refine(C0.i _ b0.i).g ?_);rintro e w2 ⟨rfl,qq,rfl⟩)|(go_at_call 299;(with_reducible refine(C0.i _ (b1.i _)).g ?_);rintro e w2 ⟨rfl,qq,rfl⟩)|(go_at_call 299;(with_reducible refine(C2.i _ b0.i).g ?_);rintro e w2 ⟨rfl,qq,rfl⟩)|(go_at_call 299;(with_reducible refine(C2.i _ (b1.i _)).g ?_);rintro e w2 ⟨rfl,qq,rfl⟩));refine aN (RV.qD rfl _ rfl (PU.i _ (Pt.mk (eU l 0) (eU l 2) 0 8 t)).X (Pt.G _)) rfl ?_;rw[HP.i,if_neg h20,if_neg h2,if_neg h3];exact⟨rfl,(PU.i _ _).R⟩
end
section
attribute [local go_sem high] iU jE
end
section
attribute [local go_sem high] iU jE
end
section
attribute [local go_sem high] iU jE
end
section
attribute [local go_sem high] iU jE
def PkP(W:ak)(x:Pk)(e:kZ)(W':ak):Prop:=e=.a (.d x.ay)/\aM W.a.j W W'
theorem OT{W w:ak}{c:Array aB}(tmps:Array aB)(k:Int)(ht:tmps.c 2 undef=.c (some ⟨W.a.j,0,none⟩))(hb:dL w W.a.j c)(hc:c.j=42)(hl:aM W.a.j W w):
 bodyPostD ah Tryz.f32 (PkP W (xD k)) (Exit.panic [{v:=acT k,recovered:=false}]) {tmps:=tmps,defers:=[{target:=Target.fn (Fn.func 90) #[su (some ⟨W.a.j,0,none⟩)],args:=#[]}]} w:=by
 refine leaves_cons (f:=90) (args:=#[.c (some ⟨W.a.j,0,none⟩)]) (by simp) (by simp[go_sem]) ?_;have hr:=kPk.zh (fn:=Tryz.f32) (p:=2) (by kernel_rfl) tmps ht (hb.put (xD k).ay (by rw[Pk.G,hc])) (Pk.G _);have hb2:=kX hl W.a.j 0 (xD k).ay (av _);have hq:=QX W.a.j k [] w (hb.O 0 42 (by omega));generalize gN w W.a.j 0 (xD k).ay=w2 at *;refine hq.g ?_;rintro e u' w'' ⟨he,hu,hw⟩;rw[he,hu,hw];exact⟨_,hr,rfl,hb2⟩
theorem atK{W w:ak}(tmps:Array aB)(x:Pk)(ht:tmps.c 2 undef=.c (some ⟨W.a.j,0,none⟩))(hb:dL w W.a.j x.ay)(hl:aM W.a.j W w):
 bodyPostD ah Tryz.f32 (PkP W x) Exit.ret {tmps:=tmps,defers:=[{target:=Target.fn (Fn.func 90) #[su (some ⟨W.a.j,0,none⟩)],args:=#[]}]} w:=by
 have hr:=kPk.zh (fn:=Tryz.f32) (p:=2) (by kernel_rfl) tmps ht hb (Pk.G _);refine leaves_cons (f:=90) (args:=#[.c (some ⟨W.a.j,0,none⟩)]) (by simp) (by simp[go_sem]) ?_;refine(afp W.a.j w).g ?_;rintro e u' w'' ⟨rfl,rfl,rfl⟩;exact⟨_,hr,rfl,hl⟩
theorem IX(W:ak)(A:Option aT)(n c:Nat)(l:List UInt8)(hnc:n<=c)(hc:c<=9223372036854775807/\n<=1000000000)(hr:fP W W.a.j A n l):aQ ah 32 #[.a A n c] W (PkP W (qF l)):=by
 have HR:=ab hr;have hl:=ab hr.len;have b0:=ab ((Bx.start W).new MO.ay 83);have CL:=ab (M8 _ A n c l hnc hc (b0.i.MX hr));clear hr;have hmf:∀(fn:Fn)(first cap:Array aB)(w:ak),(Instr.makeFunc fn first cap).I ah w=.ok (.func fn first cap) w:=fun _ _ _ _=>rfl
 have NO:=ab apz;have OK:=ab apy;go_enter_defers Tryz.func32,Tryz.ntmps32;obtain⟨r,hrr⟩:=dw (mh l);have HRR:=ab hrr;obtain⟨k,er⟩:=r;unfold LkP at CL;rw[<-hrr]at CL;clear hrr;by_cases h1:er≠0
 ·have q:(er==0)=false:=by simp[h1]
  have H:=ab (show qF l=xD 1 by unfold qF;rw[<-HRR.i,if_pos h1]);go_wp2_with (first|(go_at_call 91;with_reducible refine CL.i.g ?_;rintro e w1 ⟨TA,tc,rfl,_,hb1⟩;have Z1:=ab ((b0.i.go hb1).new (k.cell TA tc).ay 108);clear hb1)|(go_at_call 92;with_reducible refine(NO.i 1 _).g ?_;rintro e w2 ⟨rfl,rfl⟩));rw[H.i];exact OT _ 1 rfl Z1.i.b1 (Pk.G _) Z1.i.R
 obtain rfl:er=0:=by simpa using h1
 obtain⟨xJ,acX⟩:=afn (l:=l) (by rw[<-HRR.i]);rw[<-HRR.i]at xJ acX;rw[hl.i]at acX;simp only at xJ acX;go_upto_region 4 with(first|(go_at_call 91;with_reducible refine CL.i.g ?_;rintro e w1 ⟨TA,tc,rfl,_,hb1⟩;have Z1:=ab ((b0.i.go hb1).new (k.cell TA tc).ay 108);have hy3:=(b0.i.go hb1).X.lt;clear hb1)|(go_at_call 92;with_reducible refine(OK.i 1 _).g ?_;rintro e w2 ⟨rfl,rfl⟩))
 generalize w1.alloc (.D (k.cell TA tc).ay 108)=w2 at Z1 ⊢;generalize w1.a.j=y3 at *;have F3:=ab (fun(L:List (Nat×Array aB)) (w:ak) (h:Bx ((y3,(k.cell TA tc).ay)::L) W w)=>show w.b ⟨y3,13,none⟩=some (.b .a k.oq)/\w.b ⟨y3,14,none⟩=some (.b .a (k.fD:Nat))from⟨(h.X.K.1 13).trans (Lc.Dz _),(h.X.K.1 14).trans (Lc.K6 _)⟩);obtain⟨f1,f2⟩:=F3.i _ _ Z1.i;by_cases hty:k.oq≠2048/\k.oq≠34525
 ·have q1:(k.oq==2048)=false:=by simp[hty.1]
  have q2:(k.oq==34525)=false:=by simp[hty.2]
  have H:=ab (show qF l=xD 2 by unfold qF;rw[<-HRR.i];rw[if_neg (by simp),if_pos hty]);go_wp2_with (go_at_call 92;with_reducible refine(NO.i 2 _).g ?_;rintro e w3 ⟨rfl,rfl⟩);rw[H.i];exact OT _ 2 rfl Z1.i.b1 (Pk.G _) Z1.i.R
 have HTY:=ab hty;go_cut []from 17 to 25 (fun wx=>wx=w2)
 case first=>
  by_cases q0:k.oq=2048
  ·have q1:(k.oq==2048)=true:=by simp[q0]
   go_wp2_with (go_at_call 92;with_reducible refine(OK.i 2 _).g ?_;rintro e w3 ⟨rfl,rfl⟩);go_meet
   case rel=>rfl
  ·have q1:(k.oq==2048)=false:=by simp[q0]
   have q2:(k.oq==34525)=true:=by simp;omega
   go_wp2_with (go_at_call 92;with_reducible refine(OK.i 2 _).g ?_;rintro e w3 ⟨rfl,rfl⟩);go_meet
   case rel=>rfl
 have hcut:=hcut;rw[hcut];clear hcut f1 f2;have xJ:=xJ;obtain⟨g,hg⟩:=dw (mP l);have HG:=ab hg;have HG2:=ab (show g=Yb k.oq (l.f k.fD)by rw[hg];unfold mP;rw[<-HRR.i]);clear hg;obtain⟨g,e2⟩:=g;have i1:(k.fD:Int)<=n:=by omega
 have CI:=ab (fun(w:ak) (h:Bx [(y3,(k.cell TA tc).ay),(W.a.j,MO.ay)] W w)=>afo w k.oq (vH A k.fD c 1) (n-k.fD) (c-k.fD) (l.f k.fD) (by omega) (by omega) ((h.MX HR.i).yG (by omega) hnc));rw[<-HG2.i]at CI;go_upto_region 5 with fail
 refine wZ (Bx.aaw ([(y3,(k.cell TA tc).ay),(W.a.j,MO.ay)]) W) 10 11 9 5 35 168 aam.ay (by kernel_rfl) rfl rfl rfl rfl rfl (by kernel_rfl) (by kernel_rfl) (by kernel_rfl) (by kernel_rfl) (by kernel_rfl) rfl rfl rfl (fun a w=>by simp[go_sem]) (tL rfl) Z1.i.drew ?_;apply Exists.intro;refine⟨fun T f hT es ew=>?_,?_⟩
 ·have EW:=ab ew
  have ES:=ab es;have k1:=fun m=>(F3.i _ _ (ES.i m)).1
  have k2:=fun m=>(F3.i _ _ (ES.i m)).2
  have CF:=ab (fun m=>CI.i _ (ES.i m));clear es ew;simp only[mM,yg,kV,bG,bM,jM,jY]
  repeat(go_big_quiet_step ((first|(go_at_call 93;(with_reducible refine(CF.i _).g ?_);rintro e w2 ⟨rfl,hb⟩;exact⟨rfl,EW.i _ _ hb⟩))))
  exact gW rfl
 ·intro w9 w8 zL _ hb
  have ZN:=ab ((zL.new aam.ay 168).go hb);have hyy:=ab zL;have hy:=zL.R.j;have hyv:=ab (fun p (hp:p∈[(y3,(k.cell TA tc).ay),(W.a.j,MO.ay)])=>((zL.2 p hp).2.lt:p.1<w9.a.j));generalize w9.a.j=y at *;clear hb zL;have yI:=ZN.i.X.O 0 38 (aX (Nt.G aam).symm);refine⟨gN w8 y 0 g.ay,?_,?_⟩
  ·simp[go_sem,yI]
  simp only[lJ,bH,bG,bM,jN,kW];have Z2:=ab (ZN.i.put (fun p hp=>jJ (hyv.i p hp)) g.ay (by rw[Nt.G,Nt.G]));clear yI ZN hyy hyv;generalize gN w8 y 0 g.ay=w3 at Z2 ⊢;go_step;go_step;go_step;obtain⟨y1,y2,y3',y4⟩:=Z2.i.X.K;have HP:=ab (show qF l=(if e2≠0 then xD 3 else if g.oG=true then xD 4 else if g.aP≠6/\g.aP≠17 then xD 5 else if(IU g.aP ((l.d (k.fD+g.dz.e)).f (k.fD+g.head.e))).2≠0 then xD 6
   else⟨0,⟨g.h,g.Y,g.aP,(IU g.aP ((l.d (k.fD+g.dz.e)).f (k.fD+g.head.e))).1.kT,(IU g.aP ((l.d (k.fD+g.dz.e)).f (k.fD+g.head.e))).1.jP⟩,(IU g.aP ((l.d (k.fD+g.dz.e)).f (k.fD+g.head.e))).1.uV,k.fD,k.fD+g.head,k.fD+g.dz⟩)by
   unfold qF Ld;rw[<-HRR.i,<-HG.i,if_neg (by simp),if_neg HTY.i])
  by_cases h2:e2≠0
  ·have q:(e2==0)=false:=by simp[h2]
   go_wp2_with (go_at_call 92;(with_reducible refine(NO.i 3 _).g ?_);rintro e w4 ⟨rfl,rfl⟩);rw[HP.i,if_pos h2];exact OT _ 3 rfl Z2.i.b2 (Pk.G _) Z2.i.R
  obtain rfl:e2=0:=by simpa using h2
  cases hf:g.oG
  case true=>
   go_wp2_with (first|(go_at_call 92;(with_reducible refine(OK.i 3 _).g ?_);rintro e w4 ⟨rfl,rfl⟩)|(go_at_call 92;(with_reducible refine(NO.i 4 _).g ?_);rintro e w4 ⟨rfl,rfl⟩));rw[HP.i,if_neg h2,if_pos hf];exact OT _ 4 rfl Z2.i.b2 (Pk.G _) Z2.i.R
  case false=>
   have CC:=ab (acS g.aP w3);by_cases hp:g.aP≠6/\g.aP≠17
   ·rw[show(decide (g.aP=6)||decide (g.aP=17))=false by simp[hp.1,hp.2]]at CC
    go_wp2_with (first|(go_at_call 92;(with_reducible refine(OK.i 3 _).g ?_);rintro e w4 ⟨rfl,rfl⟩)|(go_at_call 92;(with_reducible refine(OK.i 4 _).g ?_);rintro e w4 ⟨rfl,rfl⟩)|(go_at_call 94;(with_reducible refine CC.i.g ?_);rintro e w4 ⟨rfl,rfl⟩)|(go_at_call 92;(with_reducible refine(NO.i 5 _).g ?_);rintro e w4 ⟨rfl,rfl⟩));rw[HP.i,if_neg h2,if_neg (by rw[hf];simp),if_pos hp];exact OT _ 5 rfl Z2.i.b2 (Pk.G _) Z2.i.R
   rw[show(decide (g.aP=6)||decide (g.aP=17))=true by simp;omega]at CC;obtain⟨g1,g2,g3⟩:=al3 (k:=k.oq) (l:=l.f k.fD) (by rw[<-HG2.i]);rw[<-HG2.i,jw,hl.i]at g3;rw[<-HG2.i]at g1 g2;simp only at g1 g2 g3;obtain⟨a1,ha1⟩:∃a1:Nat,(k.fD:Int)+g.head=a1:=⟨k.fD+g.head.e,by omega⟩
   obtain⟨b1,hb1⟩:∃b1:Nat,(k.fD:Int)+g.dz=b1:=⟨k.fD+g.dz.e,by omega⟩
   have e1:k.fD+g.head.e=a1:=by omega
   have e1':k.fD+g.dz.e=b1:=by omega
   have hab:a1<=b1/\b1<=n:=by omega
   rw[e1,e1',ha1,hb1]at HP;have hw1:bR.wrap ((k.fD:Int)+g.head)=(a1:Int):=by rw[ha1];exact jT _ (by omega)
   have hw2:bR.wrap ((k.fD:Int)+g.dz)=(b1:Int):=by rw[hb1];exact jT _ (by omega)
   obtain⟨j1,j2⟩:(a1:Int)<=b1/\(b1:Int)<=c:=by omega
   have j0:(0:Int)<=a1:=by omega
   have CP:=ab (fun(w:ak) (h:Bx [(y,g.ay),(y3,(k.cell TA tc).ay),(W.a.j,MO.ay)] W w)=>aau w g.aP (vH A a1 c 1) (b1-a1) (c-a1) ((l.d b1).f a1) (by omega) (by omega) ((h.MX HR.i).acO hab.1 hab.2 hnc));unfold PtP at CP;obtain⟨pr,hpr⟩:=dw (IU g.aP ((l.d b1).f a1));obtain⟨pt,e3⟩:=pr;rw[<-hpr]at CP HP;clear hpr ha1 hb1 e1 e1' g1 g2 g3 hab;have F5:=ab (fun(w:ak) (h:Bx [(y,g.ay),(y3,(k.cell TA tc).ay),(W.a.j,MO.ay)] W w)=>show w.b ⟨y,0,none⟩=some (.b .a g.head)/\w.b ⟨y,1,none⟩=some (.b .a g.dz)/\w.b ⟨y,2,none⟩=some (.b .a g.aP)from⟨(h.X.K.1 0).trans (Nt.JJ _),(h.X.K.1 1).trans (Nt.yc _),(h.X.K.1 2).trans (Nt.Bv _)⟩);go_upto_region 9 with(first|(go_at_call 92;(with_reducible refine(OK.i 3 _).g ?_);rintro e w4 ⟨rfl,rfl⟩)|(go_at_call 92;(with_reducible refine(OK.i 4 _).g ?_);rintro e w4 ⟨rfl,rfl⟩)|(go_at_call 94;(with_reducible refine CC.i.g ?_);rintro e w4 ⟨rfl,rfl⟩)|(go_at_call 92;(with_reducible refine(OK.i 5 _).g ?_);rintro e w4 ⟨rfl,rfl⟩))
   clear y1 y2 y3' y4;refine wZ (Bx.aaw ([(y,g.ay),(y3,(k.cell TA tc).ay),(W.a.j,MO.ay)]) W) 18 19 17 6 64 172 qJ.ay (by kernel_rfl) rfl rfl rfl rfl rfl (by kernel_rfl) (by kernel_rfl) (by kernel_rfl) (by kernel_rfl) (by kernel_rfl) rfl rfl rfl (fun a w=>by simp[go_sem]) (tL rfl) Z2.i.drew ?_;apply Exists.intro;refine⟨fun T f hT es ew=>?_,?_⟩
   ·have EW:=ab ew
    have ES:=ab es;have k1:=fun m=>(F5.i _ (ES.i m)).1
    have k2:=fun m=>(F5.i _ (ES.i m)).2.1
    have k3:=fun m=>(F5.i _ (ES.i m)).2.2
    have k4:=fun m=>(F3.i _ _ (ES.i m).swap).2
    have CF:=ab (fun m=>CP.i _ (ES.i m));clear es ew;simp only[mM,yg,kV,bG,bM,jM,jY]
    repeat(go_big_quiet_step ((first|(go_at_call 95;(with_reducible refine(CF.i _).g ?_);rintro e w2 ⟨rfl,hb⟩;exact⟨rfl,EW.i _ _ hb⟩))))
    exact gW rfl
   ·intro w9 w8 zL _ hb
    have ZN:=ab ((zL.new qJ.ay 172).go hb);have hyy:=ab zL;have hy:=zL.R.j;have hyv:=ab (fun p (hp:p∈[(y,g.ay),(y3,(k.cell TA tc).ay),(W.a.j,MO.ay)])=>((zL.2 p hp).2.lt:p.1<w9.a.j));generalize w9.a.j=z at *;clear hb zL;have yI:=ZN.i.X.O 0 5 (aX (Pt.G qJ).symm);refine⟨gN w8 z 0 pt.ay,?_,?_⟩
    ·simp[go_sem,yI]
    simp only[lJ,bH,bG,bM,jN,kW];have Z4:=ab (ZN.i.put (fun p hp=>jJ (hyv.i p hp)) pt.ay (by rw[Pt.G,Pt.G]));clear yI ZN hyy hyv;generalize gN w8 z 0 pt.ay=w4 at Z4 ⊢;go_step;go_step;go_step;obtain⟨u1,u2,u3,u4⟩:=Z4.i.X.K;by_cases h4:e3≠0
    ·have q:(e3==0)=false:=by simp[h4]
     go_wp2_with (go_at_call 92;(with_reducible refine(NO.i 6 _).g ?_);rintro e w4 ⟨rfl,rfl⟩);rw[HP.i,if_neg h2,if_neg (by rw[hf];simp),if_neg hp,if_pos h4];exact OT _ 6 rfl Z4.i.b3 (Pk.G _) Z4.i.R
    obtain rfl:e3=0:=by simpa using h4
    obtain⟨v1,v2,v3,v4⟩:=Z4.i.b1.K;have Z5:=ab (Z4.i.new (Tu.mk g.h g.Y g.aP pt.kT pt.jP).ay 81);go_upto_region 12 with(go_at_call 92;(with_reducible refine(OK.i 6 _).g ?_);rintro e w4 ⟨rfl,rfl⟩)
    clear u1 u2 u3 u4 v1 v2 v3 v4;generalize w4.alloc (.D (Tu.mk g.h g.Y g.aP pt.kT pt.jP).ay 81)=w5 at Z5 ⊢;generalize w4.a.j=x5 at *;have Zw:=ab (Z5.i.sub (L':=[(W.a.j,MO.ay)]) (by simp));obtain⟨c1,c2⟩:=F3.i _ _ (Z5.i.sub (L':=[(y3,(k.cell TA tc).ay)]) (by simp));obtain⟨d1,d2,d3⟩:=F5.i _ (Z5.i.sub (by simp));obtain⟨m1,m2,m3,m4⟩:=Z5.i.X.K;have pz:=(Z5.i.b1.K.1 2).trans (Pt.ML _);have thw:=Zw.i.X.O 0 42 (aX (Pk.G MO).symm);have Z6:=ab (Zw.i.put (fun p hp=>by cases hp) (Pk.mk 0 (Tu.mk g.h g.Y g.aP pt.kT pt.jP) pt.uV k.fD a1 b1).ay (by rw[Pk.G,Pk.G]));go_wp2;rw[HP.i,if_neg h2,if_neg (by rw[hf];simp),if_neg hp,if_neg h4];exact atK _ _ rfl Z6.i.X Z6.i.R
end
section
attribute [local go_sem high] iU jE
end
section
open Go.ChangeShapes Go.WideShapes Go.ChangeAt Go.RowKit Go.Deep
section
variable {H:Type} {enc:bK×aB->H} {w:ak} {base:Nat} {spare:Nat->Bool} {held:Bool} {fuel:Nat} {cs:List aB} {x:DataW H×List MemPlace}
theorem aiT{P:eG}{k:Nat}{t e:bK}(ht:P.k t=some (.array k e))(he:P.k e=some (.b .a))(hc:P.cellsOf e=1)(hk:P.cellsOf t=k)(h:DataW.trod enc P w base spare held fuel t cs=some x):∃v:Vector Int k,cs=v.a.map (aI .a):=by
 obtain⟨xs,m,_,_,hl,hxl,hf⟩:=DataW.trod_array ht h;rw[hk]at hl;have hg:∀i,i<k->∃b:Int,cs[i]? = some (.b .a b):=fun i hi=>by
  have h1:=hf i hi;rw[hc,gB,aC (by omega)]at h1;obtain⟨b,hb,_,_⟩:=sG he h1;refine⟨b,?_⟩;rw[take1_drop cs i undef (by omega)]at hb;simp only[List.cons.injEq,and_true]at hb;rw[aC (by omega),<-hb,au,aC (by omega)];rfl
 obtain⟨f,hf⟩:∃f:Nat->Int,∀i,i<k->cs[i]? = some (.b .a (f i)):=by
  refine⟨fun i=>if hi:i<k then(hg i hi).choose else 0,fun i hi=>?_⟩;simp only[hi,dif_pos];exact(hg i hi).choose_spec
 refine⟨Vector.ofFn fun i:Fin k=>f i,?_⟩;apply iJ;intro i;rcases aZ i k with hi|hi
 ·rw[hf i hi]
  simp[hi]
 ·rw[aS (by omega),aS (by simpa using hi)]
end
@[go_sem]theorem atL(w:ak):(Bt 0 #[]).I ah w=.ok (.a (some ⟨w.a.j,0,none⟩) 0 0) (w.alloc (.D #[] 5)):=by
 obtain⟨i0,hi0,hz0,hz1,hz2⟩:=zy;simp[Bt,bI,dJ cB,zeroValue,sizeOf,typeInfo,hi0,hz0,hz1,fu,newRow,bW,show lS 0 = #[]by apply oP;rw[j3];rfl]
theorem fP.go{W w1:ak}{n:Nat}{A:Option aT}{l:List UInt8}(h:fP W W.a.j A n l)(hb:aM W.a.j W w1):fP w1 w1.a.j A n l:=(h.to hb (av _)).lu hb.j
end
@[go_sem]theorem atM(w:ak)(a b:Int):(Bt 2 #[(0,.b .b a),(1,.b .b b)]).I ah w=.ok (.a (some ⟨w.a.j,0,none⟩) 2 2) (w.alloc (.D #[.b .b a,.b .b b] 5)):=by
 obtain⟨i0,hi0,hz0,hz1,hz2⟩:=zy;simp[Bt,bI,dJ cB,zeroValue,sizeOf,typeInfo,hi0,hz0,hz1,fu,newRow,bW,ae7]
theorem Vg(w:ak)(c:Array aB)(l:List UInt8)(h:c.a=l.map bv):fP (w.alloc (.D c 5)) (w.a.j+1) (some ⟨w.a.j,0,none⟩) l.a l:=by
 refine⟨by simp,fun _=>⟨_,rfl,by simp,fun j u hu=>?_⟩⟩;rw[iD,bl];have:=mR w c 5 j;rw[this,<-hu,<-h];simp
theorem xE(l:List UInt8)(i:Nat)(h:i<l.a):l.d (i+1)=l.d i++[l.c i 0]:=by
 rw[List.take_add_one,aC h,au,aC h];rfl
end Go.Proofs.YtkjojjopamaoiaaGreat
