/- Parts. -/
import Derived.Test.YtkjojjopamaoiaaGreatSb4
import Derived.Test.YtkjojjopamaoiaaGreatSb3
import Derived.Deep.RegionHeldLaw
import Derived.Shelf.SlIter.Sorted
set_option linter.unusedSimpArgs false
set_option linter.unusedVariables false
set_option linter.unusedSectionVars false
set_option maxRecDepth 100000
set_option maxHeartbeats 8000000
open Array renaming getElem?_setIfInBounds->dQ,mapM->iy,getElem?_append->aD,ext_getElem?->dZ,getElem?_eq_none->aU,size_extract->jG,size_append->nV,range->lW,ext'->oQ,toList_range->kg,append_assoc->fV,extract_append->dA,setIfInBounds_append->aM,setIfInBounds_eq_of_size_le->jR,replicate->ng,size->Array.j,toList->Array.a,getD->Array.c,setIfInBounds->Array.b,extract->Array.m
open BitVec renaming ofInt->fZ,ofInt_natCast->lU,toNat_ofNat->ny,toNat_and->EX,toNat->BitVec.e
open Bool renaming false_eq_true->jI,and_eq_true->bl,eq_iff_iff->bV,or_eq_true->nu
open ByteArray renaming size->ByteArray.j,extract->ByteArray.m
open Go renaming Value->aB,Sem->wX,World->ak,Field->nS,run_storeAt_new->yO,run_storeAt_mid->DU,TypeInfo->nI,Calls->aP,Addr->aT,Program->eG,Oper->iZ,Act->qR,Exit->zO,Operand->pG,TypeId->bF,wpList_plain->sO,info_parts->zi,Ending->lq,run_underlying->dJ,run_equalIn_struct->zh,bodyPost_ret->aN,wpQuiet_nil->gK,getD_set_ne->wY,mem_ready->kH,yieldsIn_of_qOp->qN,getD_replicate_false->mI,wpS_seq->Hy,wpS_region->BU,underlying->Go.k
open Go.Act renaming put->lD
open Go.Addr renaming add_mid->iC,add->qy
open Go.BoundsCode renaming toNat->Go.BoundsCode.e
open Go.Builtin renaming append_->zV,firstCells->tL,zeroCells->nQ,copy_->qA
open Go.Calls renaming mono->Go.Calls.g
open Go.Ending renaming returned->tX,returned->Go.Ending.a
open Go.Field renaming name->Go.Field.E,offset->Go.Field.Y,type->Go.Field.p
open Go.Instr renaming build->fM,loadAt->bZ,storeAt->eD,buildSlice->bJ,fill->fE,makeSlice->xD,typeAssert->Gm,slice->Go.Instr.a,extract->Go.Instr.m
open Go.IntKind renaming u64->jy,wrap_u64->jU,u8->aW,wrap_u8->GN,i64->bR,wrap->vI,bits->nP,signed->lT,i64->Go.IntKind.a,u8->Go.IntKind.b
open Go.Lib renaming hid->ab
open Go.Obj renaming cells->eB,cells->Go.Obj.D
open Go.Op renaming eqItems->J4,equalIn->jf,eqFields->vY,bytesLess->bQ,slice->Go.Op.a,extract->Go.Op.m
open Go.Oper renaming wp->ni,upon->LU,dst->Go.Oper.X,type->Go.Oper.p
open Go.Program renaming fieldsOf->jT,underlying->Go.Program.k
open Go.Proofs.Tryz renaming prog->ah,underlying81->j3,underlying86->mV,underlying37->rV,underlying35->EL,underlying56->cu,underlying3->gQ,underlying70->og,underlying276->Dn,underlying27->fB,underlying98->rW,underlying29->mW,underlying192->oV,underlying189->oW,underlying172->oZ,underlying168->Dp,underlying83->vo,underlying179->tY,underlying108->tZ,underlying268->Dq,func251->Ch,ntmps251->Ae,ntmps90->Hw
open Go.Region renaming wanted->fF,seqB->lu,ready->gq,lexTailB->wZ,binds->qB
open Go.Result renaming andThen->iD,andThen_ok->gM,ok->Go.Result.Z
open Go.RowKit renaming Below->aL
open Go.RowKit.Below renaming refl->aG,size->Go.RowKit.Below.j,mono->Go.RowKit.Below.g,setCell->Go.RowKit.Below.F
open Go.RowKit.Hid renaming out->Go.RowKit.Hid.i
open Go.Sem renaming run->Go.Sem.I
open Go.Shut renaming out->Go.Shut.i
open Go.Tables renaming info?->Go.Tables.l
open Go.TypeDesc renaming slice->Go.TypeDesc.a,int->Go.TypeDesc.b,pointer->Go.TypeDesc.c,bool->Go.TypeDesc.e,tuple->Go.TypeDesc.J,struct->Go.TypeDesc.d
open Go.TypeInfo renaming size->Go.TypeInfo.j
open Go.Value renaming oneCell'->cZ,bool->bM,string->iB,agg->bY,int->aI,slice->bD,cells->cK,cells->Go.Value.D,slice->Go.Value.a,int->Go.Value.b,pointer->Go.Value.c,agg->Go.Value.d,bool->Go.Value.e,tuple->Go.Value.J,ownBlock->Go.Value.f,oneCell'->Go.Value.h
open Go.World renaming ownsRow_nil->fu,heap->Go.World.a,cell?->Go.World.b,setCell->Go.World.F,ownsRow->Go.World.c,there->Go.World.M,grownBy->Go.World.d
open Go.World.grownBy renaming size->Go.World.grownBy.j
open Int renaming toNat->Int.e
open List renaming getElem?_toArray->dV,getD_eq_getElem?_getD->au,size_toArray->dI,length_nil->gL,take_append_drop->iF,map_append->iU,length_append->aR,length_map->bU,take_of_length_le->aK,flatMap_cons->iM,ext_getElem?->iL,getElem?_take_of_lt->gY,getElem?_eq_none->aS,append_assoc->dB,mem_cons->bg,mem_cons_of_mem->jZ,range->dP,all_eq_true->gJ,mem_range->eO,mem_iff_getElem->lZ,pairwise_cons->gN,length_cons->bC,mem_filter->mh,replicate->dX,filter_eq_self->wI,map_take->Ad,getElem?_map->jk,getElem?_eq_getElem->aC,mem_singleton->fG,take_succ_cons->jP,take_zero->j4,drop_succ_cons->jQ,drop_zero->kY,getElem_mem->eU,length_drop->jD,getElem?_set->fJ,getElem?_eq_some_iff->iE,filter_congr->EM,eq_nil_iff_forall_not_mem->tC,getElem?_drop->jo,set_cons_succ->bH,set_cons_zero->bP,length->List.a,toArray->List.b,getD->List.c,take->List.d,drop->List.f,flatMap->List.h,below->List.O,extract->List.m
open List.Perm renaming length_eq->List.Perm.t
open Nat renaming le_refl->av,lt_or_ge->aY,zero_add->bB,add_comm->lM,add_sub_cancel_left->jN,mul_one->gH,le_trans->aO,lt_of_lt_of_le->eY,le_succ->LP,lt_succ_self->mF,mod_eq_of_lt->fP,le_succ_of_le->kQ,le_of_eq->aX,le_of_lt->mG,ne_of_lt->jL,ne_of_gt->uq,below->Nat.O
open Ne renaming symm->jr
open Option renaming getD->Option.c
open Or renaming inl->Or.a,inr->Or.b
open UInt8 renaming toNat_inj->lY,ofNat->aJ,toNat->UInt8.e,toNat_lt->UInt8.a
open Vector renaming replicate->bG,toList->Vector.a
namespace Go.Proofs.YtkjojjopamaoiaaGreat
open Go.RowKit
theorem aaD(c:Array aB)(i j:Nat)(v:aB)(hi:i<c.j):(c.b i v)[j]? = if i=j then some v else c[j]?:=by
 rw[dQ];split
 ·rename_i h;subst h;simp[hi]
 ·rfl
def axr(ps:Array (Nat×aB)):wX aB:=fM 62 ps
@[go_sem ↓]theorem aAy(ps:Array (Nat×aB)):fM 62 ps=axr ps:=rfl
theorem aiS(w:ak)(fs:Array nS)(h:ah.k 62=some (.d fs)):(iy (fun f=>Prod.mk f.Y <$> sizeOf f.p) fs:wX (Array (Nat×Nat))).I ah w = .Z #[(0,1),(1,17),(18,1),(19,6),(25,1),(26,1)] w:=by
 have e:=Tryz.underlying62;rw[h]at e;cases e;show _=_
 kernel_rfl
theorem alX:(ah.l 5).map (·.j)=some 1:=by kernel_rfl
theorem Ao(a b:Array aB)(k j:Nat)(ha:a.j=k):(a++b)[j]? = if j<k then a[j]? else b[j-k]?:=by
 rw[aD,ha]
def tuT(t:Tu):Array aB:=#[.b .a t.aQ,.b .a t.kV,.b .a t.j6]
def Tu.ay(t:Tu):Array aB:=t.h.ay++(t.X.ay++tuT t)
theorem Tu.G(t:Tu):t.ay.j=37:=by simp[Tu.ay,tuT,fC.G]
theorem Tu.MW(t:Tu)(j:Nat)(hj:j<17):t.ay[j]? = t.h.ay[j]?:=by
 unfold Tu.ay;rw[Ao _ _ 17 _ (fC.G _),if_pos hj]
theorem Tu.KD(t:Tu)(j:Nat)(hj:j<17):t.ay[j+17]? = t.X.ay[j]?:=by
 unfold Tu.ay;rw[Ao _ _ 17 _ (fC.G _),if_neg (by omega),Ao _ _ 17 _ (fC.G _),if_pos (by omega)];congr 1
theorem Tu.Br(t:Tu)(j:Nat)(hj:j<3):t.ay[j+34]? = (tuT t)[j]?:=by
 unfold Tu.ay;rw[Ao _ _ 17 _ (fC.G _),if_neg (by omega),Ao _ _ 17 _ (fC.G _),if_neg (by omega)];congr 1
@[go_sem]theorem Tu.qw(t:Tu):t.ay[0]? = some (.e t.h.h):=(Tu.MW t 0 (by omega)).trans (fC.qw _)
@[go_sem]theorem Tu.atf(t:Tu):t.ay[17]? = some (.e t.X.h):=(Tu.KD t 0 (by omega)).trans (fC.qw _)
@[go_sem]theorem Tu.Vi(t:Tu):t.ay[34]? = some (.b .a t.aQ):=Tu.Br t 0 (by omega)
@[go_sem]theorem Tu.afo(t:Tu):t.ay[35]? = some (.b .a t.kV):=Tu.Br t 1 (by omega)
@[go_sem]theorem Tu.aaE(t:Tu):t.ay[36]? = some (.b .a t.j6):=Tu.Br t 2 (by omega)
theorem gW{a b:Array aB}(h1:a.all (·.h)=true)(h2:b.all (·.h)=true):(a++b).all (·.h)=true:=by
 rw[Array.all_append,h1,h2];rfl
theorem Tu.cO(t:Tu):t.ay.all (·.h)=true:=gW (fC.cO _) (gW (fC.cO _) (by simp[tuT,cZ]))
theorem Tu.aaF{c:Array aB}{t:Tu}(hc:c.j=37)(h0:∀j,j<17->c[j]? = t.h.ay[j]?)(h1:∀j,j<17->c[j+17]? = t.X.ay[j]?)(h2:∀j,j<3->c[j+34]? = (tuT t)[j]?):c=t.ay:=by
 apply dZ;intro j;rcases(show j<17\/(17<=j/\j<34)\/(34<=j/\j<37)\/37<=j by omega)with h|⟨h,h'⟩|⟨h,h'⟩|h
 ·rw[h0 j h,Tu.MW t j h]
 ·obtain⟨i,rfl⟩:∃i,j=i+17:=⟨j-17,by omega⟩
  rw[h1 i (by omega),Tu.KD t i (by omega)]
 ·obtain⟨i,rfl⟩:∃i,j=i+34:=⟨j-34,by omega⟩
  rw[h2 i (by omega),Tu.Br t i (by omega)]
 ·rw[aU (by omega),aU (by rw[Tu.G];exact h)]
@[go_sem]theorem Tu.dY(x:Tu):dY x.ay=37:=Tu.G x
@[go_sem]theorem Tu.kr(x:Tu):x.ay.m 0 37=x.ay:=by
 have:=Tu.G x;rw[<-this];simp
def wS(v:aB):wX aB:=bZ 81 v
def ahf(v x:aB):wX Unit:=eD 81 v x
@[go_sem ↓]theorem avW(v:aB):bZ 81 v=wS v:=rfl
@[go_sem ↓]theorem atg(v x:aB):eD 81 v x=ahf v x:=rfl
@[go_sem]theorem Ti(W:ak)(b o:Nat)(h:vw W b o 37):(wS (.c (some ⟨b,o,none⟩))).I ah W = .Z (.d (dM W b o 37)) W:=
 jV W b o 37 _ _ j3 rfl (by kernel_rfl) h
@[go_sem]theorem apl(W:ak)(c:Array aB)(x:Tu)(b:Nat)(hb:b=W.a.j)(hc:dY c=37):
 (ahf (.c (some ⟨b,0,none⟩)) (.d x.ay)).I ah (W.alloc (.D c 81)) = .Z () (W.alloc (.D x.ay 81)):=by
 subst hb;exact yO W _ c x.ay (by rw[Tu.G];kernel_rfl) (by rw[Tu.G];exact hc) (Tu.cO x)
def Tu.to0(t:Tu)(n:Int):Tu:={t with aQ:=n}
def Tu.to1(t:Tu)(n:Int):Tu:={t with kV:=n}
def Tu.to2(t:Tu)(n:Int):Tu:={t with j6:=n}
theorem Tu.axt(t:Tu)(u:Int):t.ay.b 34 (.b .a u)=(t.to0 u).ay:=by
 refine Tu.aaF (by simp[Tu.G]) ?_ ?_ ?_<;>intro j hj<;>rw[aaD _ _ _ _ (by rw[Tu.G];omega)]
 ·rw[if_neg (by omega),Tu.MW t j hj];rfl
 ·rw[if_neg (by omega),Tu.KD t j hj];rfl
 ·rcases(show j=0\/j=1\/j=2 by omega)with rfl|rfl|rfl
  ·rw[if_pos (by omega)];rfl
  ·rw[if_neg (by omega),Tu.Br t 1 (by omega)];rfl
  ·rw[if_neg (by omega),Tu.Br t 2 (by omega)];rfl
theorem Tu.axu(t:Tu)(u:Int):t.ay.b 35 (.b .a u)=(t.to1 u).ay:=by
 refine Tu.aaF (by simp[Tu.G]) ?_ ?_ ?_<;>intro j hj<;>rw[aaD _ _ _ _ (by rw[Tu.G];omega)]
 ·rw[if_neg (by omega),Tu.MW t j hj];rfl
 ·rw[if_neg (by omega),Tu.KD t j hj];rfl
 ·rcases(show j=0\/j=1\/j=2 by omega)with rfl|rfl|rfl
  ·rw[if_neg (by omega),Tu.Br t 0 (by omega)];rfl
  ·rw[if_pos (by omega)];rfl
  ·rw[if_neg (by omega),Tu.Br t 2 (by omega)];rfl
theorem Tu.arF(t:Tu)(u:Int):t.ay.b 36 (.b .a u)=(t.to2 u).ay:=by
 refine Tu.aaF (by simp[Tu.G]) ?_ ?_ ?_<;>intro j hj<;>rw[aaD _ _ _ _ (by rw[Tu.G];omega)]
 ·rw[if_neg (by omega),Tu.MW t j hj];rfl
 ·rw[if_neg (by omega),Tu.KD t j hj];rfl
 ·rcases(show j=0\/j=1\/j=2 by omega)with rfl|rfl|rfl
  ·rw[if_neg (by omega),Tu.Br t 0 (by omega)];rfl
  ·rw[if_neg (by omega),Tu.Br t 1 (by omega)];rfl
  ·rw[if_pos (by omega)];rfl
def fwT(x:Fw):Array aB:=#[.string (bT x.E),.b .a x.xk,.b .a x.seen,.b .a x.no]
def Fw.ay(x:Fw):Array aB:=x.key.ay++fwT x
theorem Fw.G(x:Fw):x.ay.j=41:=by simp[Fw.ay,fwT,Tu.G]
theorem Fw.axw(x:Fw)(j:Nat)(hj:j<37):x.ay[j]? = x.key.ay[j]?:=by
 unfold Fw.ay;rw[Ao _ _ 37 _ (Tu.G _),if_pos hj]
theorem Fw.Br(x:Fw)(j:Nat)(hj:j<4):x.ay[j+37]? = (fwT x)[j]?:=by
 unfold Fw.ay;rw[Ao _ _ 37 _ (Tu.G _),if_neg (by omega)];congr 1
@[go_sem]theorem Fw.afp(x:Fw):x.ay[37]? = some (.string (bT x.E)):=Fw.Br x 0 (by omega)
@[go_sem]theorem Fw.afq(x:Fw):x.ay[38]? = some (.b .a x.xk):=Fw.Br x 1 (by omega)
@[go_sem]theorem Fw.afr(x:Fw):x.ay[39]? = some (.b .a x.seen):=Fw.Br x 2 (by omega)
@[go_sem]theorem Fw.aaG(x:Fw):x.ay[40]? = some (.b .a x.no):=Fw.Br x 3 (by omega)
theorem Fw.cO(x:Fw):x.ay.all (·.h)=true:=gW (Tu.cO _) (by simp[fwT,cZ])
@[go_sem]theorem Fw.dY(x:Fw):dY x.ay=41:=Fw.G x
@[go_sem]theorem Fw.kr(x:Fw):x.ay.m 0 41=x.ay:=by
 have:=Fw.G x;rw[<-this];simp
def Qf(v:aB):wX aB:=bZ 86 v
def aaH(v x:aB):wX Unit:=eD 86 v x
@[go_sem ↓]theorem avX(v:aB):bZ 86 v=Qf v:=rfl
@[go_sem ↓]theorem ath(v x:aB):eD 86 v x=aaH v x:=rfl
@[go_sem]theorem ahg(W:ak)(b o:Nat)(h:vw W b o 41):(Qf (.c (some ⟨b,o,none⟩))).I ah W = .Z (.d (dM W b o 41)) W:=
 jV W b o 41 _ _ mV rfl (by kernel_rfl) h
@[go_sem]theorem apm(W:ak)(c:Array aB)(x:Fw)(b:Nat)(hb:b=W.a.j)(hc:dY c=41):
 (aaH (.c (some ⟨b,0,none⟩)) (.d x.ay)).I ah (W.alloc (.D c 86)) = .Z () (W.alloc (.D x.ay 86)):=by
 subst hb;exact yO W _ c x.ay (by rw[Fw.G];kernel_rfl) (by rw[Fw.G];exact hc) (Fw.cO x)
def Ah(W:ak)(b o:Nat)(x:Fw):ak:=W.setCells b o x.ay.a
@[go_sem]theorem axx(W:ak)(b o:Nat)(x:Fw)(h:W.M b o 41):(aaH (.c (some ⟨b,o,none⟩)) (.d x.ay)).I ah W = .Z () (Ah W b o x):=
 DU W b o _ x.ay (by rw[Fw.G];exact h) (by rw[Fw.G];kernel_rfl) (Fw.cO x)
theorem afs:∃i:nI,ah.l 86=some i/\i.zero=some (.d kD.ay)/\i.j=41/\i.bytes<=400:=by
 cases h:ah.l 86 with
 | none=>exact absurd h (by have:(ah.l 86).isSome=true:=by kernel_rfl
                            intro e;rw[e]at this;cases this)
 | some i=>
   have h1:(ah.l 86).map (·.j)=some 41:=by kernel_rfl
   have h2:(ah.l 86).map (fun i=>decide (i.bytes<=400))=some true:=by kernel_rfl
   have h3:(ah.l 86).map (·.zero)=some (some (.d kD.ay)):=by kernel_rfl
   rw[h]at h1 h2 h3;simp at h1 h2 h3;exact⟨i,rfl,h3,h1,h2⟩
def ati(ps:Array (Nat×aB)):wX aB:=fM 86 ps
@[go_sem ↓]theorem aAz(ps:Array (Nat×aB)):fM 86 ps=ati ps:=rfl
def arG(n:Nat)(ps:Array (Nat×aB)):wX aB:=bJ 34 n ps
@[go_sem ↓]theorem axy(n:Nat)(ps:Array (Nat×aB)):bJ 34 n ps=arG n ps:=rfl
@[go_sem]theorem avY(w:ak)(x:Fw):(arG 1 #[(0,.d x.ay)]).I ah w = .Z (.a (some ⟨w.a.j,0,none⟩) 1 1) (w.alloc (.D x.ay 86)):=by
 obtain⟨i0,hi0,hz0,hz1,hzb⟩:=afs;exact rP w _ _ i0 (.d kD.ay) 41 Tryz.underlying34 hi0 hz0 hz1 (Fw.G kD) (by omega) (by omega) x.ay (Fw.G x)
@[go_sem]theorem atj:eB #[bM false,aA,aA,aA,aA,aA,aA,aA,aA,aA,aA,aA,aA,aA,aA,aA,aA,bM false,aA,aA,aA,aA,aA,aA,aA,aA,aA,aA,aA,aA,aA,aA,aA,aA,bf,bf,bf] 81=eB aeN.ay 81:=rfl
@[go_sem]theorem atl:eB #[bM false,aA,aA,aA,aA,aA,aA,aA,aA,aA,aA,aA,aA,aA,aA,aA,aA,bM false,aA,aA,aA,aA,aA,aA,aA,aA,aA,aA,aA,aA,aA,aA,aA,aA,bf,bf,bf,iB {data:=#[]},bf,bf,bf] 86=eB kD.ay 86:=rfl
@[go_sem]theorem axz:bY #[bM false,aA,aA,aA,aA,aA,aA,aA,aA,aA,aA,aA,aA,aA,aA,aA,aA,bM false,aA,aA,aA,aA,aA,aA,aA,aA,aA,aA,aA,aA,aA,aA,aA,aA,bf,bf,bf]=bY aeN.ay:=rfl
@[go_sem]theorem axA:bY #[bM false,aA,aA,aA,aA,aA,aA,aA,aA,aA,aA,aA,aA,aA,aA,aA,aA,bM false,aA,aA,aA,aA,aA,aA,aA,aA,aA,aA,aA,aA,aA,aA,aA,aA,bf,bf,bf,iB {data:=#[]},bf,bf,bf]=bY kD.ay:=rfl
theorem pF{W:ak}{b:Nat}{t:Tu}(h:dK W b t.ay):(wS (.c (some ⟨b,0,none⟩))).I ah W = .Z (.d t.ay) W:=by
 obtain⟨_,_,h3,h4⟩:=h.K;rw[Ti _ _ _ (by rw[h3 0 37 (by rw[Tu.dY];omega)];trivial),h4 0 37 (by rw[Tu.dY];omega),Tu.kr]
theorem ac9(c:Nat)(w:ak):aP ah 262 #[.b .b c] w fun e w'=>e=.a (.e ((c:Int) != 0))/\w=w':=by
 go_enter Tryz.func262,Tryz.ntmps262;go_wp2;go_ret;exact⟨rfl,rfl⟩
theorem Vj(args:Array aB)(w:ak):(callFunc 262 args).I ah w = .Z (.enter 262 args) w:=by kernel_rfl
theorem alY(a:fC)(b o c:Nat)(w:ak)(hc:∀j,j<12->w.b ⟨b,o+j,none⟩=some (.b .b ((a.fI (4+j)).e:Nat))):
 aP ah 260 #[.a (some ⟨b,o,none⟩) 12 c,.func (.func 262) #[] #[]] w fun e w'=>∃r:Int,e=.a (.b .a r)/\(decide (0<=r) = !a.mJ)/\w=w':=by
 have hen:=Vj;have HC:=ab hc;clear hc;go_enter Tryz.func260,Tryz.ntmps260;go_wp2;go_loop [8] (fun s8=>∃i:Nat,i<=12/\s8=.b .a i/\∀j,4<=j->j<4+i->a.fI j=0) (fun s8=>12-(intOf s8).e)
 case atStart=>exact⟨0,by omega,rfl,fun j h1 h2=>by omega⟩
 case round=>
  obtain⟨i,hi,rfl,hall⟩:=hrel;have HA:=ab hall;clear hall;by_cases hlt:i<12
  ·have hin:(i:Int)<12:=by omega
   have hcell:=HC.i i hlt;have hz:((a.fI (4+i)).e:Int)=0↔a.fI (4+i)=0:=by
    constructor
    ·intro h;apply lY.1;have:(0:UInt8).e=0:=rfl;omega
    ·intro h;rw[h];rfl
   have HZ:=ab hz;clear hz;obtain⟨n,hn⟩:∃n:Nat,n=(a.fI (4+i)).e:=⟨_,rfl⟩
   rw[<-hn]at hcell HZ;clear hn;by_cases h0:n=0
   ·have h1:((n:Int) != 0)=false:=by rw[h0];rfl
    have hz0:a.fI (4+i)=0:=HZ.i.1 (by omega);have HZ0:=ab hz0;clear hz0 h0;go_wp2_with (go_at_call 262;refine(ac9 n _).g ?_;rintro e w' ⟨rfl,rfl⟩);go_round
    case rel=>exact⟨i+1,by omega,by go_num,fun j h1 h2=>by
     by_cases hji:j=4+i
     ·rw[hji];exact HZ0.i
     ·exact HA.i j h1 (by omega)⟩
    case measure=>simp[intOf]<;>omega
   ·have h1:((n:Int) != 0)=true:=by rw[bne_iff_ne];omega
    have hno:a.mJ=false:=fC.Uu (i:=4+i) (by omega) (by omega) (fun h=>h0 (by have:=HZ.i.2 h;omega));have Fh:=ab hno;clear hno h0;go_wp2_with (go_at_call 262;refine(ac9 n _).g ?_;rintro e w' ⟨rfl,rfl⟩);go_ret;exact⟨_,rfl,by rw[Fh.i];simp,rfl⟩
  ·obtain rfl:i=12:=by omega
   have hs:a.mJ=true:=a.JE.2 HA.i;have HS:=ab hs;clear hs;go_wp2;go_ret;exact⟨_,rfl,by rw[HS.i];simp,rfl⟩
theorem alZ(a:fC)(b o c:Nat)(w:ak)(hc:∀j,j<12->w.b ⟨b,o+j,none⟩=some (.b .b ((a.fI (4+j)).e:Nat))):
 aP ah 189 #[.a (some ⟨b,o,none⟩) 12 c,.func (.func 262) #[] #[]] w fun e w'=>e=.a (.e (!a.mJ))/\w=w':=by
 have HC:=ab hc;clear hc;go_enter Tryz.func189,Tryz.ntmps189;go_wp2_with (go_at_call 260;refine(alY a b o c _ HC.i).g ?_;rintro e w' ⟨r,rfl,hr,rfl⟩);go_ret;exact⟨by simp,rfl⟩
theorem fC.qF(a:fC):qF a=(a.h||a.mJ):=rfl
theorem IK(a:fC)(w:ak):aP ah 193 #[.d a.ay] w (gD w (.e (qF a))):=by
 have HB:=ab ((aG w.a.j w).alloc (av _) (.D a.ay 27));have HT:=ab (show∀j,j<12->(w.alloc (.D a.ay 27)).b ⟨w.a.j,5+j,none⟩=some (.b .b ((a.fI (4+j)).e:Nat))from fun j hj=>by
  rw[mQ,show 5+j=(4+j)+1 by omega];exact fC.D7 a (4+j) (by omega))
 have HK:=ab (fC.qF a);cases h6:a.h
 ·have H6:=ab h6
  obtain⟨K,hK⟩:=tN a.mJ;have HKK:=ab hK;clear hK;go_enter Tryz.func193,Tryz.ntmps193;go_wp2_with fail;refine(alZ a _ 5 _ _ HT.i).g ?_;rintro e w' ⟨rfl,rfl⟩;rw[HKK.i];cases K
  all_goals
   go_wp2;go_ret;exact⟨by rw[HK.i,HKK.i,H6.i];rfl,HB.i⟩
 ·have H6:=ab h6
  go_enter Tryz.func193,Tryz.ntmps193;go_wp2;go_ret;exact⟨by rw[HK.i,H6.i];rfl,HB.i⟩
@[go_sem]theorem Tu.aiT(t:Tu):t.ay.m 0 17=t.h.ay:=by
 apply dZ;intro j;rcases aY j 17 with h|h
 ·rw[nW t.ay 0 17 j h (by rw[Tu.G];omega),bB,Tu.MW t j h]
 ·rw[aU (by rw[jG,Tu.G];omega),aU (by rw[fC.G];exact h)]
@[go_sem]theorem Tu.aiU(t:Tu):t.ay.m 17 34=t.X.ay:=by
 apply dZ;intro j;rcases aY j 17 with h|h
 ·rw[show(34:Nat)=17+17 from rfl,nW t.ay 17 17 j h (by rw[Tu.G];omega),lM,Tu.KD t j h]
 ·rw[aU (by rw[jG,Tu.G];omega),aU (by rw[fC.G];exact h)]
@[go_sem]theorem Fw.QY(x:Fw):x.ay.m 0 37=x.key.ay:=by
 apply dZ;intro j;rcases aY j 37 with h|h
 ·rw[nW x.ay 0 37 j h (by rw[Fw.G];omega),bB,Fw.axw x j h]
 ·rw[aU (by rw[jG,Fw.G];omega),aU (by rw[Tu.G];exact h)]
theorem Tj(t:Tu):Fq t=(decide (t.h.h=t.X.h)&&qF t.h&&qF t.X&&(decide (0<=t.aQ)&&decide (t.aQ<=255))&&(decide (0<=t.kV)&&decide (t.kV<=65535))&&(decide (0<=t.j6)&&decide (t.j6<=65535))):=rfl
theorem JL(t:Tu)(w:ak):aP ah 115 #[.d t.ay] w (gD w (.e (Fq t))):=by
 have HB0:=ab ((aG w.a.j w).alloc (av _) (.D t.ay 81));have B0:=ab (dK.new w t.ay 81);obtain⟨x1,x2,x3,x4⟩:=B0.i.K;have hl0:=B0.i.lt;obtain⟨K1,h1⟩:∃K,qF t.h=K:=⟨_,rfl⟩
 obtain⟨K2,h2⟩:∃K,qF t.X=K:=⟨_,rfl⟩
 have Te:=ab h1;have HS2:=ab h2;clear h1 h2;obtain⟨s6,h6⟩:∃s,t.h.h=s:=⟨_,rfl⟩
 obtain⟨d6,g6⟩:∃s,t.X.h=s:=⟨_,rfl⟩
 by_cases he:s6=d6;rotate_left
 ·have HE:=ab (show¬t.h.h=t.X.h by rw[h6,g6];exact he)
  have hne:(s6==d6)=false:=by simpa using he
  clear he;go_enter Tryz.func115,Tryz.ntmps115;go_wp2;go_ret;exact⟨by rw[Tj];simp[HE.i]<;>omega,HB0.i⟩
 have HE:=ab (show t.h.h=t.X.h by rw[h6,g6];exact he);have hne:(s6==d6)=true:=by simpa using he
 clear he;cases K1
 ·skip
  go_enter Tryz.func115,Tryz.ntmps115;go_wp2_with fail;refine(IK t.h _).g ?_;rintro e w1 ⟨rfl,hb1⟩;rw[Te.i];have B1:=ab (B0.i.go hb1);have HB1:=ab (iX HB0.i hb1);obtain⟨y1,y2,y3,y4⟩:=B1.i.K;have hl1:=B1.i.lt;clear hb1;go_wp2;go_ret;exact⟨by rw[Tj];simp[HE.i,Te.i]<;>omega,HB1.i⟩
 cases K2
 ·skip
  go_enter Tryz.func115,Tryz.ntmps115;go_wp2_with fail;refine(IK t.h _).g ?_;rintro e w1 ⟨rfl,hb1⟩;rw[Te.i];have B1:=ab (B0.i.go hb1);have HB1:=ab (iX HB0.i hb1);obtain⟨y1,y2,y3,y4⟩:=B1.i.K;have hl1:=B1.i.lt;clear hb1;go_wp2_with fail;refine(IK t.X _).g ?_;rintro e w2 ⟨rfl,hb2⟩;rw[HS2.i];have B2:=ab (B1.i.go hb2);have HB2:=ab (iX HB1.i hb2);obtain⟨z1,z2,z3,z4⟩:=B2.i.K;have hl2:=B2.i.lt;clear hb2 y1 y2 y3 y4 hl1;go_wp2;go_ret;exact⟨by rw[Tj];simp_all[HE.i,Te.i,HS2.i]<;>omega,HB2.i⟩
 go_enter Tryz.func115,Tryz.ntmps115;go_wp2_with fail;refine(IK t.h _).g ?_;rintro e w1 ⟨rfl,hb1⟩;rw[Te.i];have B1:=ab (B0.i.go hb1);have HB1:=ab (iX HB0.i hb1);obtain⟨y1,y2,y3,y4⟩:=B1.i.K;have hl1:=B1.i.lt;clear hb1;go_wp2_with fail;refine(IK t.X _).g ?_;rintro e w2 ⟨rfl,hb2⟩;rw[HS2.i];have B2:=ab (B1.i.go hb2);have HB2:=ab (iX HB1.i hb2);obtain⟨z1,z2,z3,z4⟩:=B2.i.K;have hl2:=B2.i.lt;clear hb2 y1 y2 y3 y4 hl1;by_cases p0:0<=t.aQ;by_cases p1:t.aQ<=255;by_cases p2:0<=t.kV;by_cases p3:t.kV<=65535;by_cases p4:0<=t.j6;by_cases p5:t.j6<=65535
 all_goals
  go_wp2;go_ret;exact⟨by rw[Tj];simp_all[HE.i,Te.i,HS2.i]<;>omega,HB2.i⟩
theorem aaI(x:Fw):Dz x=(Fq x.key&&vQ x.E&&decide (1<=x.xk)&&decide (x.xk<=5)&&(decide (0<=x.seen)&&decide (x.seen<=1099511627776))&&(decide (0<=x.no)&&decide (x.no<=1152921504606846976))):=rfl
theorem KE(x:Fw)(w:ak)(hn:x.E.a<=9223372036854775807):aP ah 48 #[.d x.ay] w (gD w (.e (Dz x))):=by
 have HB0:=ab ((aG w.a.j w).alloc (av _) (.D x.ay 86));have B0:=ab (dK.new w x.ay 86);obtain⟨x1,x2,x3,x4⟩:=B0.i.K;have hl0:=B0.i.lt;obtain⟨K1,h1⟩:∃K,Fq x.key=K:=⟨_,rfl⟩
 obtain⟨K2,h2⟩:∃K,vQ x.E=K:=⟨_,rfl⟩
 have Te:=ab h1;have HS2:=ab h2;clear h1 h2;cases K1
 ·skip
  go_enter Tryz.func48,Tryz.ntmps48;go_wp2_with fail;refine(JL x.key _).g ?_;rintro e w1 ⟨rfl,hb1⟩;rw[Te.i];have B1:=ab (B0.i.go hb1);have HB1:=ab (iX HB0.i hb1);obtain⟨y1,y2,y3,y4⟩:=B1.i.K;have hl1:=B1.i.lt;clear hb1;go_wp2;go_ret;exact⟨by rw[aaI];simp[Te.i]<;>omega,HB1.i⟩
 cases K2
 ·skip
  go_enter Tryz.func48,Tryz.ntmps48;go_wp2_with fail;refine(JL x.key _).g ?_;rintro e w1 ⟨rfl,hb1⟩;rw[Te.i];have B1:=ab (B0.i.go hb1);have HB1:=ab (iX HB0.i hb1);obtain⟨y1,y2,y3,y4⟩:=B1.i.K;have hl1:=B1.i.lt;clear hb1;go_wp2_with fail;refine(Uj x.E _ hn).g ?_;rintro e w2 ⟨rfl,hb2⟩;rw[HS2.i];have B2:=ab (B1.i.go hb2);have HB2:=ab (iX HB1.i hb2);obtain⟨z1,z2,z3,z4⟩:=B2.i.K;have hl2:=B2.i.lt;clear hb2 y1 y2 y3 y4 hl1;go_wp2;go_ret;exact⟨by rw[aaI];simp_all[Te.i,HS2.i]<;>omega,HB2.i⟩
 go_enter Tryz.func48,Tryz.ntmps48;go_wp2_with fail;refine(JL x.key _).g ?_;rintro e w1 ⟨rfl,hb1⟩;rw[Te.i];have B1:=ab (B0.i.go hb1);have HB1:=ab (iX HB0.i hb1);obtain⟨y1,y2,y3,y4⟩:=B1.i.K;have hl1:=B1.i.lt;clear hb1;go_wp2_with fail;refine(Uj x.E _ hn).g ?_;rintro e w2 ⟨rfl,hb2⟩;rw[HS2.i];have B2:=ab (B1.i.go hb2);have HB2:=ab (iX HB1.i hb2);obtain⟨z1,z2,z3,z4⟩:=B2.i.K;have hl2:=B2.i.lt;clear hb2 y1 y2 y3 y4 hl1;by_cases p0:1<=x.xk;by_cases p1:x.xk<=5;by_cases p2:0<=x.seen;by_cases p3:x.seen<=1099511627776;by_cases p4:0<=x.no;by_cases p5:x.no<=1152921504606846976
 all_goals
  go_wp2;go_ret;exact⟨by rw[aaI];simp_all[Te.i,HS2.i]<;>omega,HB2.i⟩
structure Xr where
 A:Option aT
 n:Nat
 c:Nat
deriving DecidableEq
structure Sh where
 kT:Int
 b:Xr
 h:Xr
 f:Xr
 fQ:Int
 no:Int
 ji:Vector Int 11
deriving DecidableEq
def shT(x:Sh):Array aB:=#[.b .a x.kT,.a x.b.A x.b.n x.b.c,.a x.h.A x.h.n x.h.c,.a x.f.A x.f.n x.f.c,.b .a x.fQ,.b .a x.no]
def yB(v:Vector Int 11):Array aB:=(v.a.map (aI .a)).b
def Sh.ay(x:Sh):Array aB:=shT x++yB x.ji
theorem j5(v:Vector Int 11):(yB v).j=11:=by simp[yB]
theorem Sh.G(x:Sh):x.ay.j=17:=by simp[Sh.ay,shT,j5]
theorem Sh.Vk(x:Sh)(j:Nat)(hj:j<6):x.ay[j]? = (shT x)[j]?:=by unfold Sh.ay;rw[Ao _ _ 6 _ rfl,if_pos hj]
theorem Vl(v:Vector Int 11)(j:Nat)(hj:j<11):(yB v)[j]? = some (.b .a (v.a.c j 0)):=by
 simp[yB,dV,hj,au]
theorem Sh.Yu(x:Sh)(j:Nat)(hj:j<11):x.ay[6+j]? = some (.b .a (x.ji.a.c j 0)):=by
 unfold Sh.ay;rw[Ao _ _ 6 _ rfl,if_neg (by omega),jN,Vl _ _ hj]
@[go_sem]theorem Sh.qw(x:Sh):x.ay[0]? = some (.b .a x.kT):=Sh.Vk x 0 (by omega)
@[go_sem]theorem Sh.Gu(x:Sh):x.ay[1]? = some (.a x.b.A x.b.n x.b.c):=Sh.Vk x 1 (by omega)
@[go_sem]theorem Sh.XL(x:Sh):x.ay[2]? = some (.a x.h.A x.h.n x.h.c):=Sh.Vk x 2 (by omega)
@[go_sem]theorem Sh.agU(x:Sh):x.ay[3]? = some (.a x.f.A x.f.n x.f.c):=Sh.Vk x 3 (by omega)
@[go_sem]theorem Sh.al0(x:Sh):x.ay[4]? = some (.b .a x.fQ):=Sh.Vk x 4 (by omega)
@[go_sem]theorem Sh.al1(x:Sh):x.ay[5]? = some (.b .a x.no):=Sh.Vk x 5 (by omega)
theorem al2(l:List Int):((l.map (aI .a)).b).all (·.h)=true:=by
 rw[Array.all_eq_true_iff_forall_mem];intro v hv;simp at hv;obtain⟨z,_,rfl⟩:=hv;rfl
theorem Sh.cO(x:Sh):x.ay.all (·.h)=true:=gW (by simp[shT,cZ]) (al2 _)
def Da:Xr:=⟨none,0,0⟩
def IL:Sh:=⟨0,Da,Da,Da,0,0,bG 11 0⟩
@[go_sem]theorem atm:eB #[bf,bD none 0 0,bD none 0 0,bD none 0 0,bf,bf,bf,bf,bf,bf,bf,bf,bf,bf,bf,bf,bf] 37=eB IL.ay 37:=rfl
@[go_sem]theorem axB:bY #[bf,bD none 0 0,bD none 0 0,bD none 0 0,bf,bf,bf,bf,bf,bf,bf,bf,bf,bf,bf,bf,bf]=bY IL.ay:=rfl
@[go_sem]theorem Sh.dY(x:Sh):dY x.ay=17:=Sh.G x
@[go_sem]theorem Sh.kr(x:Sh):x.ay.m 0 17=x.ay:=by
 have:=Sh.G x;rw[<-this];simp
def Lh(v:aB):wX aB:=bZ 37 v
def aaJ(v x:aB):wX Unit:=eD 37 v x
@[go_sem ↓]theorem av0(v:aB):bZ 37 v=Lh v:=rfl
@[go_sem ↓]theorem atn(v x:aB):eD 37 v x=aaJ v x:=rfl
@[go_sem]theorem aAA(W:ak)(b o:Nat)(h:vw W b o 17):(Lh (.c (some ⟨b,o,none⟩))).I ah W = .Z (.d (dM W b o 17)) W:=
 jV W b o 17 _ _ rV rfl (by kernel_rfl) h
@[go_sem]theorem apn(W:ak)(c:Array aB)(x:Sh)(b:Nat)(hb:b=W.a.j)(hc:dY c=17):
 (aaJ (.c (some ⟨b,0,none⟩)) (.d x.ay)).I ah (W.alloc (.D c 37)) = .Z () (W.alloc (.D x.ay 37)):=by
 subst hb;exact yO W _ c x.ay (by rw[Sh.G];kernel_rfl) (by rw[Sh.G];exact hc) (Sh.cO x)
def al3(W:ak)(b o:Nat)(x:Sh):ak:=W.setCells b o x.ay.a
@[go_sem]theorem axC(W:ak)(b o:Nat)(x:Sh)(h:W.M b o 17):(aaJ (.c (some ⟨b,o,none⟩)) (.d x.ay)).I ah W = .Z () (al3 W b o x):=
 DU W b o _ x.ay (by rw[Sh.G];exact h) (by rw[Sh.G];kernel_rfl) (Sh.cO x)
theorem ato:∃i:nI,ah.l 37=some i/\i.zero=some (.d IL.ay)/\i.j=17/\i.bytes<=400:=by
 cases h:ah.l 37 with
 | none=>exact absurd h (by have:(ah.l 37).isSome=true:=by kernel_rfl
                            intro e;rw[e]at this;cases this)
 | some i=>
   have h1:(ah.l 37).map (·.j)=some 17:=by kernel_rfl
   have h2:(ah.l 37).map (fun i=>decide (i.bytes<=400))=some true:=by kernel_rfl
   have h3:(ah.l 37).map (·.zero)=some (some (.d IL.ay)):=by kernel_rfl
   rw[h]at h1 h2 h3;simp at h1 h2 h3;exact⟨i,rfl,h3,h1,h2⟩
def atp(ps:Array (Nat×aB)):wX aB:=fM 37 ps
@[go_sem ↓]theorem aAB(ps:Array (Nat×aB)):fM 37 ps=atp ps:=rfl
theorem Yv(w:ak)(fs:Array nS)(h:ah.k 37=some (.d fs)):(iy (fun f=>Prod.mk f.Y <$> sizeOf f.p) fs:wX (Array (Nat×Nat))).I ah w = .Z #[(0,2),(2,1),(3,1),(4,1),(5,1),(6,11)] w:=by
 have e:=rV;rw[h]at e;cases e;show _=_
 kernel_rfl
@[go_sem]theorem atq(w:ak):(atp #[]).I ah w = .Z (.d IL.ay) w:=by
 obtain⟨i0,hi0,hz0,_,_⟩:=ato;exact OB w _ _ i0 IL.ay _ _ _ rV hi0 hz0 (Yv w _ rV) rfl
@[go_sem]theorem Sh.MX(x:Sh):x.ay.m 0 2 = #[.b .a x.kT,.a x.b.A x.b.n x.b.c]:=by
 apply dZ;intro j;rcases aY j 2 with h|h
 ·rw[nW x.ay 0 2 j h (by rw[Sh.G];omega),bB,Sh.Vk x j (by omega)]
  rcases(show j=0\/j=1 by omega)with rfl|rfl<;>rfl
 ·rw[aU (by rw[jG,Sh.G];omega),aU (by simp;omega)]
@[go_sem]theorem Sh.arH(x:Sh):x.ay.m 6 17=yB x.ji:=by
 apply dZ;intro j;rcases aY j 11 with h|h
 ·rw[show(17:Nat)=6+11 from rfl,nW x.ay 6 11 j h (by rw[Sh.G];omega),Sh.Yu x j h,Vl _ _ h]
 ·rw[aU (by rw[jG,Sh.G];omega),aU (by rw[j5];exact h)]
structure Qg(w:ak)(B:Nat)(x:Sh)(s:pY):Prop where
 kT:x.kT=s.kT
 b:iJ Bk.ay 27 w B x.b.A x.b.n s.X
 h:iJ Hl.ay 3 w B x.h.A x.h.n s.h
 f:iJ Fw.ay 41 w B x.f.A x.f.n s.G
 fQ:x.fQ=s.fQ
 no:x.no=s.no
 ji:x.ji=s.ji
 pJ:∀y∈s.X,y.pJ
 ahh:∀y∈s.h,y.E.a<=9223372036854775807
 ac':∀y∈s.G,y.E.a<=9223372036854775807
 nb:x.b.n<=4611686018427387903
 nh:x.h.n<=4611686018427387903
 nf:x.f.n<=4611686018427387903
theorem Qg.go{w w':ak}{x:Sh}{s:pY}(h:Qg w w.a.j x s)(hb:aL w.a.j w w'):Qg w' w'.a.j x s:=⟨h.kT,h.b.go hb,h.h.go hb,h.f.go hb,h.fQ,h.no,h.ji,h.pJ,h.ahh,h.ac',h.nb,h.nh,h.nf⟩
def al4(v:aB):wX aB:=bZ 35 v
@[go_sem ↓]theorem av1(v:aB):bZ 35 v=al4 v:=rfl
@[go_sem]theorem aAC(W:ak)(b o:Nat)(h:vw W b o 11):(al4 (.c (some ⟨b,o,none⟩))).I ah W = .Z (.d (dM W b o 11)) W:=
 jV W b o 11 _ _ EL rfl (by kernel_rfl) h
theorem aft(l:List Bk)(hf:∀x∈l,x.pJ)(v:Int)(A:Option aT)(n c:Nat)(w:ak)(hR:iJ Bk.ay 27 w w.a.j A n l)(hn:n<=4611686018427387903)(K:Bool)(hK:xO v l=K):
 aP ah 45 #[.d #[.b .a v,.a A n c]] w (gD w (.e K)):=by
 subst hK;obtain rfl:=hR.1;exact Xg l hf v A c w hR (by omega)
theorem iJ.fw{W:ak}{B n:Nat}{A:Option aT}{l:List Fw}{k:Nat}(h:iJ Fw.ay 41 W B A n l)(hk:k<n):∃b o,A=some ⟨b,o,none⟩/\b<B/\vw W b (o+k*41) 41/\dM W b (o+k*41) 41=(l.c k kD).ay:=iJ.fI Fw.G kD h hk
section
variable {P:eG}
theorem Vm{w:ak}{ops:Array iZ}{rest:List iZ}{o:iZ}{a:qR}{Q:zO->qR->ak->Prop}(hgd:o.guard=none)(s x:pG)(t tn:bF)
 (ho:o.op=.call {callee:=.builtin .append,args:=#[s,x],argTypes:=#[t,tn]}) (u v r:aB) (hs:a.eval s=u) (hx:a.eval x=v) (w2:ak)
 (hrun:∀ty,(zV #[t,tn] ty #[u,v]).I P w = .Z r w2) (h:wpList P ops Q rest (a.put o.X r) w2):wpList P ops Q (o::rest) a w:=by
 refine sO hgd fun K hK=>?_
 unfold ni;simp[execOp,ho,resolve,invoke,builtin,hs,hx,hrun,iD];exact hK _ _ h
end
theorem al5(k:Nat)(hk:k<=1000000000)(w:ak):
 aP ah 253 #[.a none 0 0,.b .a k] w fun e w'=>∃v,e=.a v/\w'.c w.a.j 5 1 v 0 []/\aL w.a.j w w':=by
 obtain⟨i0,hi0,hz0,hz1,hz2⟩:=zi Ia;rcases Nat.eq_zero_or_pos k with h0|h0
 ·subst h0
  go_enter Tryz.func253,Tryz.ntmps253;go_wp2;go_ret;exact⟨_,rfl,fu _ _ _ _,aG _ _⟩
 ·have hrun:=fun ty=>Lib.run_append_grow_zeros (P:=ah) w 56 3 ty 5 i0 (.b .b 0) .a .a cu gQ hi0 hz0 none 0 0 [] (by simp[tL]) k h0 (by omega) (by omega) (by omega) (by rw[hz2];omega) (growslice_fits (by omega) (by rw[hz2];omega))
  have hge:=grownCap_ge w (0+k) 0 5;have hle:=grownCap_le_maxLen w (0+k) 0 5 (by unfold maxLen;omega);rw[bB]at hrun hge hle;obtain⟨cap,hcap⟩:=tN (grownCap w k 0 5);rw[hcap]at hrun hge hle;obtain⟨cells,hcells⟩:=cB (([]:List aB).b++nQ (aI .b 0).D k++nQ (aI .b 0).D (cap-k));have hsz:cells.j=cap*1:=by
   rw[hcells];simp only[nV,dI,gL,size_zeroCells,show(aI .b 0).D.j=1 from rfl];omega
  rw[<-hcells]at hrun;have O1:=ab (World.ownsRow_made w.drew cells cap (base:=w.a.j) (e:=5) (size:=1) (av _) hle hsz);have hc0:(0:Int)<=(cap:Int):=by omega
  have aIn:¬cap=0:=by omega
  have hle2:(cap:Int)<=9223372036854775807:=by unfold maxLen at hle;omega
  have aCq:=ab hrun;clear hcells hcap hsz hle hrun;go_enter Tryz.func253,Tryz.ntmps253;go_wp2_with (at_builtin;refine Vm rfl (.tmp 20) (.tmp 21) _ _ rfl (.a none 0 0) (.b .a k) _ rfl rfl _ aCq.i ?_);go_ret;exact⟨_,rfl,O1.i,((aG w.a.j w).drew).alloc (av _) _⟩
def al6(x:Xr):Array aB:=#[.a x.A x.n x.c]
theorem Yw(x:Xr):(al6 x).j=1:=rfl
abbrev RdS:=iJ al6 1
def yC(l:List Xr):Nat:=(l.map (·.n)).sum
theorem Qh(l:List Xr)(i:Nat)(hi:i<l.a):yC (l.d (i+1))=yC (l.d i)+(l.c i Da).n:=by
 rw[<-lN Da l i hi];simp[yC]
theorem aaK(l:List Xr)(i:Nat):yC (l.d i)<=yC l:=by
 unfold yC
 conv=>rhs;rw[<-iF i l,iU,List.sum_append]
 omega
def MZ(W:ak)(B:Nat)(l:List Xr)(bss:List (List UInt8)):Prop:=l.a=bss.a/\∀i,i<l.a->fU W B (l.c i Da).A (l.c i Da).n (bss.c i [])
theorem Yx(l:List (List UInt8))(i:Nat)(hi:i<l.a):(l.d (i+1)).flatten=(l.d i).flatten++l.c i []:=by
 rw[<-lN [] l i hi];simp
theorem Vn{W:ak}{B:Nat}{l:List Xr}{bss:List (List UInt8)}(h:MZ W B l bss)(i:Nat)(hi:i<=l.a):(bss.d i).flatten.a=yC (l.d i):=by
 induction i with
 | zero=>simp[yC]
 | succ i ih=>
   have h1:=(h.2 i (by omega)).len;rw[Yx bss i (by have:=h.1;omega),aR,ih (by omega),Qh l i (by omega),h1]
def atr(bss:List (List UInt8))(w:ak)(e:lq)(w':ak):Prop:=∃v,e=.a v/\w'.c w.a.j 5 1 v bss.flatten.a (bss.flatten.map bv)/\aL w.a.j w w'
theorem apo{w wr:ak}{A':Option aT}{m c' j:Nat}{bss:List (List UInt8)}(ho:wr.c w.a.j 5 1 (.a A' m c') m ((bss.d j).flatten.map bv))(hf:bss.d j=bss)(hb:aL w.a.j w wr):atr bss w (.a (.a A' m c')) wr:=by
 rw[hf]at ho;have h2:=ho.1;rw[bU,gH]at h2;refine⟨_,rfl,?_,hb⟩;rw[h2];exact ho
theorem Li(l:List Xr)(bss:List (List UInt8))(A:Option aT)(n c:Nat)(w:ak)(hR:RdS w w.a.j A n l)(hH:MZ w w.a.j l bss)(hn:n<=1000)(hs:yC l<=1000000000):
 aP ah 181 #[.a A n c] w (atr bss w):=by
 obtain⟨i0,hi0,hz0,hz1,hz2⟩:=zi Ia;have HR:=ab hR;have HH:=ab hH;have HN:=ab hR.1;have HS:=ab hs;clear hR hH;go_enter Tryz.func181,Tryz.ntmps181;go_wp2;go_loop [3,11] (fun s3 s11=>∃i:Nat,i<=n/\s11=.b .a i/\s3=.b .a (yC (l.d i):Nat)) (fun _ s11=>n-(intOf s11).e)
 case atStart=>exact⟨0,by omega,rfl,rfl⟩
 case round=>
  obtain⟨i,hi,rfl,rfl⟩:=hrel;by_cases hlt:i<n
  ·have hlt2:(i:Int)<n:=by omega
   obtain⟨b,o,rfl,hbb,hcell⟩:=iJ.cell Yw Da HR.i hlt;have hc0:=hcell 0 (by omega);have hst:=Qh l i (by rw[HN.i];exact hlt);have hsl:=aaK l (i+1);obtain⟨y,hy⟩:=tN (l.c i Da);rw[hy]at hc0 hst;have hc1:w.b ⟨b,o+i,none⟩=some (.a y.A y.n y.c):=by simpa[al6]using hc0
   obtain⟨z,hz⟩:=tN (yC (l.d i));have hzb:z+y.n<=1000000000:=by have:=HS.i;omega
   rw[hz]at hst ⊢;have HST:=ab hst;clear hcell hc0 hy hz hst hsl;go_wp2;go_round
   case rel=>exact⟨i+1,by omega,by go_num,by rw[HST.i];go_num⟩
   case measure=>simp[intOf]<;>omega
  ·have hge:¬(i:Int)<n:=by omega
   have HT:=ab (show yC (l.d i)=yC l by rw[aK (by rw[HN.i];omega)]);obtain⟨z,hz⟩:=tN (yC (l.d i));rw[hz]at HT ⊢;have hzb:z<=1000000000:=by rw[HT.i];exact HS.i
   clear hz;go_wp2_with fail;refine(al5 z hzb w).g ?_;rintro e w1 ⟨v,rfl,ho,hb⟩;obtain⟨A0,c0,rfl,_,_⟩:=jE ho;have O0:=ab ho;have B0:=ab hb;clear ho hb;go_wp2;go_loopw [6,27] (fun s6 s27 wr=>∃(j m:Nat)(A':Option aT)(c':Nat),j<=n/\s27=.b .a j/\s6=.a A' m c'/\wr.c w.a.j 5 1 (.a A' m c') m ((bss.d j).flatten.map bv)/\aL w.a.j w wr) (fun _ s27 _=>n-(intOf s27).e)
   case atStart=>exact⟨0,0,A0,c0,by omega,rfl,rfl,O0.i,B0.i⟩
   case round=>
    obtain⟨j,m,A',c',hj,rfl,rfl,ho,hb⟩:=hrel;have HO:=ab ho;have HB:=ab hb;have HM:=ab (show m<=1000000000 by
     have h1:=ho.1;rw[bU,Vn HH.i j (by rw[HN.i];exact hj)]at h1;have:=aaK l j;have:=HS.i;omega)
    clear ho hb;by_cases hlt:j<n
    ·have hlt2:(j:Int)<n:=by omega
     obtain⟨b,o,rfl,hbb,hcell⟩:=iJ.cell Yw Da (HR.i.to HB.i (av _)) hlt;have hc0:=hcell 0 (by omega);have hrd:=(HH.i.2 j (by rw[HN.i];exact hlt)).to HB.i (av _);have hst:=Qh l j (by rw[HN.i];exact hlt);have hsl:=aaK l (j+1);have HFL:=ab (Yx bss j (by have:=HH.i.1;have:=HN.i;omega));have HML:=ab (show m=yC (l.d j)by have h1:=HO.i.1;rw[bU,Vn HH.i j (by rw[HN.i];exact hj)]at h1;omega);obtain⟨y,hy⟩:=tN (l.c j Da);rw[hy]at hc0 hst hrd;have hc1:wr.b ⟨b,o+j,none⟩=some (.a y.A y.n y.c):=by simpa[al6]using hc0
     have HRD:=ab hrd;have S9:=ab (show m+y.n<=maxLen by have:=HS.i;have:=HML.i;unfold maxLen;omega);have OQ:=ab (show(m+y.n)*1<=140737488355328 by have:=HS.i;have:=HML.i;omega);have BS:=ab HB.i.j;have ON:=ab (EZ (bss.c j []));have GR:=ab (fun w5 (hg:wr.d w5 (bD A' m c').f)=>show aL w.a.j w w5 from HB.i.grown hg HB.i.j (fun x hx=>(HO.i.lt x hx).1));clear hcell hc0 hy hst hsl hrd;go_wp2_with (at_builtin;refine jv _ rfl (.tmp 31) (.tmp 32) _ rfl w.a.j 5 i0 (.b .b 0) 1 1 cu hi0 hz0 hz1 hz2 rfl (av 1) (.a A' m c') m ((bss.d j).flatten.map bv) rfl HO.i w.a.j y.A y.n y.c ((bss.c j []).map bv) rfl HRD.i ON.i S9.i OQ.i BS.i ?_;intro v1 w5 hown1 hg1 wM;have O5:=ab hown1;have G5:=ab (GR.i _ hg1);clear hown1 hg1 wM);obtain⟨A5,c5,rfl,_,_⟩:=jE O5.i;go_roundw
     case rel=>exact⟨j+1,m+y.n,A5,c5,by omega,by go_num,rfl,by rw[HFL.i,iU];exact O5.i,G5.i⟩
     case measure=>simp[intOf]<;>omega
    ·have aIo:¬(j:Int)<n:=by omega
     have HF:=ab (show bss.d j=bss from aK (by have:=HH.i.1;have:=HN.i;omega));go_wp2;go_ret;exact apo HO.i HF.i HB.i
structure Ow(B:Nat)(g0:Option Nat)(w0:ak)(v:aB)(bs:List UInt8)(w:ak):Prop where
 vB:w.c B 5 1 v bs.a (bs.map bv)
 gr:w0.d w g0
 tF:v.f=g0\/∃k,v.f=some k/\w0.a.j<=k
 hB:B<=w0.a.j
 gb:∀k,g0=some k->B<=k/\k<w0.a.j
theorem att{a w:ak}{g:Option Nat}(h:a.d w g){p:aT}(hp:some p.block=g\/a.a.j<=p.block)(u:aB):a.d (w.F p u) g:=
 ⟨h.os,h.tape,h.output,by simpa[World.setCell]using h.j,fun i hi hne=>(Below.heap_setCell w p u i (by
  rintro rfl;rcases hp with hp|hp
  ·exact hne hp
  ·omega)).trans (h.block i hi hne)⟩
section
variable {B:Nat} {g0:Option Nat} {w0 W W':ak} {v v':aB} {bs bs':List UInt8}
theorem Ow.nil(w:ak):Ow w.a.j none w (.a none 0 0) [] w:=⟨fu _ _ _ _,World.grownBy.refl _ _,.a rfl,av _,fun k h=>by cases h⟩
theorem Ow.iQ{w:ak}{n:Nat}(h:w.c B 5 1 v n (bs.map bv))(hB:B<=w.a.j):Ow B v.f w v bs w:=by
 have h1:=h.1;rw[bU,gH]at h1;subst h1;exact⟨h,World.grownBy.refl _ _,.a rfl,hB,fun k hk=>h.lt k hk⟩
theorem Ow.go(h:Ow B g0 w0 v bs W)(hb:aL W.a.j W W'):Ow B g0 w0 v bs W':=
 ⟨jA h.vB hb,⟨hb.os.trans h.gr.os,hb.tape.trans h.gr.tape,hb.output.trans h.gr.output,aO h.gr.j hb.j,fun k hk hn=>(hb.block k (eY hk h.gr.j)).trans (h.gr.block k hk hn)⟩,h.tF,h.hB,h.gb⟩
theorem Ow.drew(h:Ow B g0 w0 v bs W):Ow B g0 w0 v bs W.drew:=⟨h.vB,⟨h.gr.os,h.gr.tape,h.gr.output,h.gr.j,h.gr.block⟩,h.tF,h.hB,h.gb⟩
theorem Ow.step(h:Ow B g0 w0 v bs W)(k:Ow B v.f W v' bs' W'):Ow B g0 w0 v' bs' W':=by
 refine⟨k.vB,⟨k.gr.os.trans h.gr.os,k.gr.tape.trans h.gr.tape,k.gr.output.trans h.gr.output,aO h.gr.j k.gr.j,fun i hi hn=>(k.gr.block i (eY hi h.gr.j) (fun e=>?_)).trans (h.gr.block i hi hn)⟩,?_,h.hB,h.gb⟩
 ·rcases h.tF with h1|⟨j,h1,h2⟩
  ·exact hn (e.trans h1)
  ·rw[h1]at e;injection e with e;omega
 ·rcases k.tF with h1|⟨j,h1,h2⟩
  ·rw[h1];exact h.tF
  ·exact .b ⟨j,h1,aO h.gr.j h2⟩
theorem Ow.box{q:Nat}{c:Array aB}(h:Ow B g0 w0 v bs W)(hb:dK w0 q c)(hq:some q≠g0):dK W q c:=hb.grown h.gr hq
theorem Ow.O(h:Ow B g0 w0 v bs W):aL B w0 W:=⟨h.gr.os,h.gr.tape,h.gr.output,h.gr.j,fun k hk=>h.gr.block k (eY hk h.hB) (fun e=>by have:=(h.gb k e.symm).1;omega)⟩
theorem Ow.R(h:Ow B none w0 v bs W):aL w0.a.j w0 W:=⟨h.gr.os,h.gr.tape,h.gr.output,h.gr.j,fun k hk=>h.gr.block k hk (fun e=>by cases e)⟩
theorem Ow.Cj(h:Ow B g0 w0 v bs W):∃A c,v=.a A bs.a c:=by obtain⟨A,c,e,_⟩:=jE h.vB;exact⟨A,c,e⟩
theorem Ow.lt(h:Ow B g0 w0 v bs W){k:Nat}(hk:v.f=some k):k<W.a.j:=(h.vB.lt k hk).2
theorem Ow.j(h:Ow B g0 w0 v bs W):B<=W.a.j:=aO h.hB h.gr.j
end
section
variable {P:eG} {w:ak}
theorem zo:∃i:nI,ah.l 5=some i/\i.zero=some (.b .b 0)/\i.j=1/\i.bytes=1:=zi Ia
theorem kE{ops:Array iZ}{rest:List iZ}{o:iZ}{a:qR}{Q:zO->qR->ak->Prop}(hgd:o.guard=none)(s x:pG)
 (ho:o.op=.call {callee:=.builtin .append,args:=#[s,x],argTypes:=#[56,56]})
 {B:Nat} {g0:Option Nat} {w0:ak} {v:aB} {bs ys:List UInt8} (hs:a.eval s=v) (H:Ow B g0 w0 v bs w) {C:Nat} {A:Option aT} {m c:Nat} (hx:a.eval x=.a A m c) (hr:fU w C A m ys)
 (hlen:bs.a+m<=1000000000)
 (h:∀A' n' c' w',Ow B g0 w0 (.a A' n' c') (bs++ys) w'->Ow B v.f w (.a A' n' c') (bs++ys) w'->wpList ah ops Q rest (a.put o.X (.a A' n' c')) w'):wpList ah ops Q (o::rest) a w:=by
 obtain⟨i0,hi0,hz0,hz1,hz2⟩:=zo;have hm:=hr.len;refine jv w hgd s x _ ho B 5 i0 (.b .b 0) 1 1 cu hi0 hz0 hz1 hz2 rfl (av 1) v bs.a (bs.map bv) hs H.vB C A m c (ys.map bv) hx hr (EZ ys) (by unfold maxLen;omega) (by omega) H.j ?_;intro v1 w1 h1 h2 h3;rw[<-iU,<-hm,<-aR]at h1;have hk:Ow B v.f w v1 (bs++ys) w1:=⟨h1,h2,by rcases h3 with h|h;exact .a h;exact .b ⟨_,h,av _⟩,H.j,fun k hk=>H.vB.lt k hk⟩
 obtain⟨A',c',rfl⟩:=hk.Cj;exact h A' _ c' w1 (H.step hk) hk
theorem axE{o:iZ}{a:qR}{K:qR->ak->Prop}{Q:zO->qR->ak->Prop}(s x:pG)
 (ho:o.op=.call {callee:=.builtin .append,args:=#[s,x],argTypes:=#[56,56]})
 {B:Nat} {g0:Option Nat} {w0:ak} {v:aB} {bs ys:List UInt8} (hs:a.eval s=v) (H:Ow B g0 w0 v bs w) {C:Nat} {A:Option aT} {m c:Nat} (hx:a.eval x=.a A m c) (hr:fU w C A m ys)
 (hlen:bs.a+m<=1000000000)
 (h:∀A' n' c' w',Ow B g0 w0 (.a A' n' c') (bs++ys) w'->Ow B v.f w (.a A' n' c') (bs++ys) w'->K (a.put o.X (.a A' n' c')) w'):o.wp ah a w K Q:=by
 obtain⟨i0,hi0,hz0,hz1,hz2⟩:=zo;have hm:=hr.len;refine Jy w s x _ ho B 5 i0 (.b .b 0) 1 1 cu hi0 hz0 hz1 hz2 rfl (av 1) v bs.a (bs.map bv) hs H.vB C A m c (ys.map bv) hx hr (EZ ys) (by unfold maxLen;omega) (by omega) H.j ?_;intro v1 w1 h1 h2 h3;rw[<-iU,<-hm,<-aR]at h1;have hk:Ow B v.f w v1 (bs++ys) w1:=⟨h1,h2,by rcases h3 with h|h;exact .a h;exact .b ⟨_,h,av _⟩,H.j,fun k hk=>H.vB.lt k hk⟩
 obtain⟨A',c',rfl⟩:=hk.Cj;exact h A' _ c' w1 (H.step hk) hk
end
def FP(z:Int):Array aB:=#[.b .a z]
theorem Yy(z:Int):(FP z).j=1:=rfl
abbrev RdI:=iJ FP 1
theorem Tm:∃i:nI,ah.l 3=some i/\i.zero=some (.b .a 0)/\i.j=1:=by
 cases h:ah.l 3 with
 | none=>exact absurd h (by have:(ah.l 3).isSome=true:=by kernel_rfl
                            intro e;rw[e]at this;cases this)
 | some i=>
   have h1:(ah.l 3).map (·.j)=some 1:=by kernel_rfl
   have h3:(ah.l 3).map (·.zero)=some (some (.b .a 0)):=by kernel_rfl
   rw[h]at h1 h3;simp at h1 h3;exact⟨i,rfl,h3,h1⟩
theorem afu:lW 1 = #[0]:=by apply oQ;rw[kg];rfl
theorem afv:lW 2 = #[0,1]:=by apply oQ;rw[kg];rfl
theorem atu:lW 3 = #[0,1,2]:=by apply oQ;rw[kg];rfl
def Lj(n:Nat)(ps:Array (Nat×aB)):wX aB:=bJ 70 n ps
@[go_sem ↓]theorem av2(n:Nat)(ps:Array (Nat×aB)):bJ 70 n ps=Lj n ps:=rfl
def sH(l:List Int):Array aB:=(l.map (aI .a)).b
@[go_sem]theorem arI(w:ak)(a:Int):(Lj 1 #[(0,.b .a a)]).I ah w = .Z (.a (some ⟨w.a.j,0,none⟩) 1 1) (w.alloc (.D (sH [a]) 3)):=by
 obtain⟨i0,hi0,hz0,hz1⟩:=Tm;simp[Lj,bJ,dJ og,zeroValue,sizeOf,typeInfo,hi0,hz0,hz1,fE,newRow,sH,cK,afu,afv,atu]
theorem RdI.lit(w:ak)(l:List Int)(t:bF):RdI (w.alloc (.D (sH l) t)) (w.alloc (.D (sH l) t)).a.j (some ⟨w.a.j,0,none⟩) l.a l:=by
 have hf:(l.h fun x=>(FP x).a)=l.map (aI .a):=by induction l with
  | nil=>rfl
  | cons z l ih=>simp only[iM,ih];rfl
 refine⟨rfl,⟨by rw[hf];simp,fun _=>⟨_,rfl,by simp,?_⟩⟩,fun a h _=>by injection h with h;rw[<-h]⟩;intro j v hv;rw[hf]at hv;rw[iC,bB];have:=mQ w (sH l) t j;rw[this];simpa[sH]using hv
def FQ(n:Nat)(ps:Array (Nat×aB)):wX aB:=bJ 276 n ps
@[go_sem ↓]theorem av3(n:Nat)(ps:Array (Nat×aB)):bJ 276 n ps=FQ n ps:=rfl
theorem Tp:∃i:nI,ah.l 56=some i/\i.zero=some (.a none 0 0)/\i.j=1:=by
 cases h:ah.l 56 with
 | none=>exact absurd h (by have:(ah.l 56).isSome=true:=by kernel_rfl
                            intro e;rw[e]at this;cases this)
 | some i=>
   have h1:(ah.l 56).map (·.j)=some 1:=by kernel_rfl
   have h3:(ah.l 56).map (·.zero)=some (some (.a none 0 0)):=by kernel_rfl
   rw[h]at h1 h3;simp at h1 h3;exact⟨i,rfl,h3,h1⟩
def yK(l:List Xr):Array aB:=(l.map fun x=>bD x.A x.n x.c).b
theorem atv:lW 5 = #[0,1,2,3,4]:=by apply oQ;rw[kg];rfl
@[go_sem]theorem arJ(w:ak)(A B:Option aT)(a b c d:Nat):(FQ 2 #[(0,.a A a b),(1,.a B c d)]).I ah w = .Z (.a (some ⟨w.a.j,0,none⟩) 2 2) (w.alloc (.D (yK [⟨A,a,b⟩,⟨B,c,d⟩]) 56)):=by
 obtain⟨i0,hi0,hz0,hz1⟩:=Tp;simp[FQ,bJ,dJ Dn,zeroValue,sizeOf,typeInfo,hi0,hz0,hz1,fE,newRow,yK,cK,afv]
@[go_sem]theorem arK(w:ak)(A0 A1 A2 A3 A4:Option aT)(n0 n1 n2 n3 n4 c0 c1 c2 c3 c4:Nat):(FQ 5 #[(0,.a A0 n0 c0),(1,.a A1 n1 c1),(2,.a A2 n2 c2),(3,.a A3 n3 c3),(4,.a A4 n4 c4)]).I ah w = .Z (.a (some ⟨w.a.j,0,none⟩) 5 5) (w.alloc (.D (yK [⟨A0,n0,c0⟩,⟨A1,n1,c1⟩,⟨A2,n2,c2⟩,⟨A3,n3,c3⟩,⟨A4,n4,c4⟩]) 56)):=by
 obtain⟨i0,hi0,hz0,hz1⟩:=Tp;simp[FQ,bJ,dJ Dn,zeroValue,sizeOf,typeInfo,hi0,hz0,hz1,fE,newRow,yK,cK,atv]
theorem RdS.lit(w:ak)(l:List Xr)(t:bF):RdS (w.alloc (.D (yK l) t)) (w.alloc (.D (yK l) t)).a.j (some ⟨w.a.j,0,none⟩) l.a l:=by
 have hf:(l.h fun x=>(al6 x).a)=l.map (fun x=>bD x.A x.n x.c):=by induction l with
  | nil=>rfl
  | cons z l ih=>simp only[iM,ih];rfl
 refine⟨rfl,⟨by rw[hf];simp,fun _=>⟨_,rfl,by simp,?_⟩⟩,fun a h _=>by injection h with h;rw[<-h]⟩;intro j v hv;rw[hf]at hv;rw[iC,bB];have:=mQ w (yK l) t j;rw[this];simpa[yK]using hv
theorem MZ.cons{w:ak}{B:Nat}{x:Xr}{l:List Xr}{ys:List UInt8}{bss:List (List UInt8)}(h:fU w B x.A x.n ys)(k:MZ w B l bss):MZ w B (x::l) (ys::bss):=by
 refine⟨by simp[k.1],fun i hi=>?_⟩;cases i with
 | zero=>exact h
 | succ i=>exact k.2 i (by simpa using hi)
theorem MZ.nil{w:ak}{B:Nat}:MZ w B [] []:=⟨rfl,fun i hi=>by simp at hi⟩
theorem Bt(l:List Xr)(bss:List (List UInt8))(t:bF)(n:Nat)(w:ak)(hn:l.a=n)(hH:MZ w w.a.j l bss)(h1:n<=1000)(hs:yC l<=1000000000):
 aP ah 181 #[.a (some ⟨w.a.j,0,none⟩) n n] (w.alloc (.D (yK l) t)) fun e w'=>∃A m c,e=.a (.a A m c)/\m=bss.flatten.a/\fU w' w'.a.j A m bss.flatten/\w'.c (w.a.j+1) 5 1 (.a A m c) m (bss.flatten.map bv)/\aL w.a.j w w':=by
 subst hn;refine(Li l bss _ _ _ _ (RdS.lit w l t) ⟨hH.1,fun i hi=>((hH.2 i hi).alloc (av _) _).lF (by simp)⟩ h1 hs).g ?_;rintro e w' ⟨v,rfl,ho,hb⟩;obtain⟨A,c,rfl,_,_⟩:=jE ho;exact⟨A,_,c,rfl,rfl,fU.iQ ho,by simpa using ho,awO (aG _ _) hb⟩
theorem apq(w:ak)(s:List UInt8):fU (su w 5 s) (su w 5 s).a.j (some ⟨w.a.j,0,none⟩) s.a s/\aL w.a.j w (su w 5 s):=
 ⟨(Gq w _ s).lF (by unfold su;rw[Lib.bytesWorld_size];omega),Gp w _ s⟩
theorem uP(n k:Nat)(big:Bool):(iG n k big).a=k:=by cases big<;>simp[iG,rO]
theorem M7{w:ak}{ops:Array iZ}{o:iZ}{a:qR}{K:qR->ak->Prop}{Q:zO->qR->ak->Prop}{E:Prop}(hgd:o.guard=none)(s x:pG)
 (ho:o.op=.call {callee:=.builtin .append,args:=#[s,x],argTypes:=#[56,56]})
 (v:aB) (A:Option aT) (m c:Nat) {B:Nat} {g0:Option Nat} {w0:ak} {bs ys:List UInt8} (hs:a.eval s=v) (H:Ow B g0 w0 v bs w) {C:Nat} (hx:a.eval x=.a A m c) (hr:fU w C A m ys)
 (hlen:bs.a+m<=1000000000)
 (h:∀A' n' c' w',Ow B g0 w0 (.a A' n' c') (bs++ys) w'->Ow B v.f w (.a A' n' c') (bs++ys) w'->K (a.put o.X (.a A' n' c')) w') :
 if fF o (yielded ops a.tmps)=true then ni ah o a w K Q else E:=by
 have hw:fF o (yielded ops a.tmps)=true:=by simp[fF,hgd]
 rw[if_pos hw];exact axE s x ho hs H hx hr hlen h
def TwP(w:ak)(bs:List UInt8)(e:lq)(w':ak):Prop:=∃A,e=.a (.a A 2 2)/\Ow w.a.j none w (.a A 2 2) bs w'/\aL w.a.j w w'
theorem aaL{w:ak}{g k B:Nat}{f:Nat->aB}{l:List UInt8}(h:w.rowIs g 5 k f)(hl:l.a=k)(hk:k<=1000)(hB:B<=g)(hf:∀j,j<k->f j=bv (l.c j 0)):w.c B 5 1 (.a (some ⟨g,0,none⟩) k k) k (l.map bv):=by
 obtain⟨c,hc,hs,hg⟩:=h;refine⟨by simp[hl],.b ⟨g,k,c,rfl,hB,hc,av _,by unfold maxLen;omega,by omega,?_⟩⟩;apply iL;intro j;by_cases hj:j<k
 ·rw[gY (by omega),Array.getElem?_toList,hg j hj,hf j hj]
  simp[au,hl,hj]
 ·rw[aS (by simp;omega),aS (by simp[hl];omega)]
theorem wm(n:Nat)(hn:n<=65535)(w:ak):aP ah 184 #[.b .u64 n,.b .a 2,.e true] w (TwP w (iG n 2 true)):=by
 refine(aoy n 2 (by omega) (by omega) true w).g ?_;rintro e w' ⟨rfl,hr,hb⟩;have ho:=aaL (B:=w.a.j) (l:=iG n 2 true) hr (uP _ _ _) (by omega) (av _) (fun j hj=>rfl);refine⟨_,rfl,⟨by rw[uP];exact ho,⟨hb.os,hb.tape,hb.output,hb.j,fun k hk _=>hb.block k hk⟩,.b ⟨_,rfl,av _⟩,av _,fun k hk=>by cases hk⟩,hb⟩
theorem arL{B B':Nat}{w1 w w':ak}{v:aB}{bs:List UInt8}(h:Ow B' none w v bs w')(h1:B<=B')(hb:aL w'.a.j w' w1):Ow B v.f w1 v bs w1:=Ow.iQ (iI (jA h.vB hb) h1) (aO (aO h1 h.j) hb.j)
theorem Db{B n c:Nat}{w1 w w':ak}{A:Option aT}{bs:List UInt8}(h:Ow B none w (.a A n c) bs w')(hb:aL w'.a.j w' w1):fU w1 w1.a.j A n bs:=by
 have h2:=jA h.vB hb;obtain⟨A',c',e⟩:=h.Cj;injection e with e1 e2 e3
 subst e2;exact fU.iQ h2
theorem M8{W W':ak}(h:aL W.drew.a.j W.drew W'):aL W.a.j W W':=⟨h.os,h.tape,h.output,h.j,h.block⟩
theorem apr{w w1 w2:ak}{g0:Option Nat}{v':aB}{bs:List UInt8}{c0:Array aB}(h:Ow (w.a.j+1) g0 w1 v' bs w2)(hB:aL w.a.j w w1)(hT:dK w1 w.a.j c0):
 (∃A n c,v'=.a A n c/\w2.c w.a.j 5 1 (.a A n c) n (bs.map bv)/\aL w.a.j w w2)/\dK w2 w.a.j c0:=by
 obtain⟨A,c,rfl⟩:=h.Cj;have hb:=h.O;exact⟨⟨A,_,c,rfl,iI h.vB (LP _),hB.trans (hb.g (LP _))⟩,hT.O hb (mF _)⟩
def Bu(n:Nat)(ps:Array (Nat×aB)):wX aB:=bJ 56 n ps
@[go_sem ↓]theorem axF(n:Nat)(ps:Array (Nat×aB)):bJ 56 n ps=Bu n ps:=rfl
@[go_sem]theorem atw(w:ak)(a:Int):(Bu 1 #[(0,.b .b a)]).I ah w = .Z (.a (some ⟨w.a.j,0,none⟩) 1 1) (w.alloc (.D #[.b .b a] 5)):=by
 obtain⟨i0,hi0,hz0,hz1,hz2⟩:=zo;simp[Bu,bJ,dJ cu,zeroValue,sizeOf,typeInfo,hi0,hz0,hz1,fE,newRow,cK,afu]
theorem Eo(w:ak)(b:UInt8)(a:Int)(ha:a=(b.e:Int)):fU (w.alloc (.D #[.b .b a] 5)) (w.a.j+1) (some ⟨w.a.j,0,none⟩) 1 [b]:=by
 subst ha;refine⟨rfl,fun _=>⟨_,rfl,by simp,fun j u hu=>?_⟩⟩;rw[iC,bB];have:=mQ w #[.b .b (b.e:Int)] 5 j;rw[this];simpa[bv]using hu
theorem Tu.rdS{W:ak}{q:Nat}{t:Tu}(h:dK W q t.ay):fU W W.a.j (some ⟨q,1,none⟩) 16 t.h.b.a:=by
 refine⟨by simp,fun _=>⟨_,rfl,h.lt,fun j u hu=>?_⟩⟩;have hj:j<16:=by
  rcases aY j 16 with hj|hj
  ·exact hj
  ·rw[aS (by simp;omega)]at hu;cases hu
 rw[iC,h.K.1,lM 1 j,Tu.MW t (j+1) (by omega),fC.D7 _ j hj,<-hu];simp[au,hj]
theorem Tu.rdD{W:ak}{q:Nat}{t:Tu}(h:dK W q t.ay):fU W W.a.j (some ⟨q,18,none⟩) 16 t.X.b.a:=by
 refine⟨by simp,fun _=>⟨_,rfl,h.lt,fun j u hu=>?_⟩⟩;have hj:j<16:=by
  rcases aY j 16 with hj|hj
  ·exact hj
  ·rw[aS (by simp;omega)]at hu;cases hu
 rw[iC,h.K.1,show 18+j=(j+1)+17 by omega,Tu.KD t (j+1) (by omega),fC.D7 _ j hj,<-hu];simp[au,hj]
def Kc(w:ak)(bs:List UInt8)(e:lq)(w':ak):Prop:=∃A n c,e=.a (.a A n c)/\n=bs.a/\w'.c w.a.j 5 1 (.a A n c) n (bs.map bv)/\aL w.a.j w w'
def axG(w:ak)(q:Nat)(c:Array aB)(bs:List UInt8)(e:lq)(w':ak):Prop:=∃A n c2,e=.a (.a A n c2)/\n=bs.a/\w'.c w.a.j 5 1 (.a A n c2) n (bs.map bv)/\aL w.a.j w w'/\dK w' q c
theorem ada(t:Tu)(f p:UInt8)(hf:f=if t.h.h then 6 else 4)(hp:p=aJ t.aQ.e)(l:List UInt8)(hl:l=iG t.kV.e 2 true++iG t.j6.e 2 true):[[f],t.h.b.a,t.X.b.a,[p],l].flatten=LW t:=by
 subst hf hp hl;simp[LW]
theorem aps(t:Tu):(LW t).a=38:=by simp[LW,uP]
def wT(t:Tu):Prop:=(0<=t.aQ/\t.aQ<=255)/\(0<=t.kV/\t.kV<=65535)/\(0<=t.j6/\t.j6<=65535)
theorem aCt(W w0:ak)(q:Nat)(t:Tu)(f p:UInt8)(fi pi:Int)(A:Option aT)(n c:Nat)(l:List UInt8)(hf:f=if t.h.h then 6 else 4)(hp:p=aJ t.aQ.e)(hl:l=iG t.kV.e 2 true++iG t.j6.e 2 true)
 (hfi:fi=(f.e:Int)) (hpi:pi=(p.e:Int)) (hB:dK W q t.ay) (hr:fU W W.a.j A n l) (hn:n=4) (h0:aL w0.a.j w0 W) :
 aP ah 181 #[.a (some ⟨W.a.j+1+1,0,none⟩) 5 5] (((W.alloc (.D #[.b .b fi] 5)).alloc (.D #[.b .b pi] 5)).alloc (.D (yK [⟨some ⟨W.a.j,0,none⟩,1,1⟩,⟨some ⟨q,1,none⟩,16,16⟩,⟨some ⟨q,18,none⟩,16,16⟩,⟨some ⟨W.a.j+1,0,none⟩,1,1⟩,⟨A,n,c⟩]) 56)) (axG w0 q t.ay (LW t)):=by
 have e1:(W.alloc (.D #[.b .b fi] 5)).a.j=W.a.j+1:=by simp
 have e2:((W.alloc (.D #[.b .b fi] 5)).alloc (.D #[.b .b pi] 5)).a.j=W.a.j+1+1:=by simp
 have up:∀{A:Option aT} {n:Nat} {l:List UInt8},fU W W.a.j A n l->fU ((W.alloc (.D #[.b .b fi] 5)).alloc (.D #[.b .b pi] 5)) ((W.alloc (.D #[.b .b fi] 5)).alloc (.D #[.b .b pi] 5)).a.j A n l:=fun h=>
  ((h.alloc (av _) _).alloc (by rw[e1];omega) _).lF (by rw[e2];omega)
 have h1:=((Eo W f fi hfi).alloc (by rw[e1];omega) (.D #[.b .b pi] 5)).lF (show W.a.j+1<=((W.alloc (.D #[.b .b fi] 5)).alloc (.D #[.b .b pi] 5)).a.j by rw[e2];omega);have h4:=(Eo (W.alloc (.D #[.b .b fi] 5)) p pi hpi).lF (show _<=((W.alloc (.D #[.b .b fi] 5)).alloc (.D #[.b .b pi] 5)).a.j by rw[e2,e1];omega);rw[e1]at h4;have:=Bt [⟨some ⟨W.a.j,0,none⟩,1,1⟩,⟨some ⟨q,1,none⟩,16,16⟩,⟨some ⟨q,18,none⟩,16,16⟩,⟨some ⟨W.a.j+1,0,none⟩,1,1⟩,⟨A,n,c⟩] [[f],t.h.b.a,t.X.b.a,[p],l] 56 5 _ rfl (.cons h1 (.cons (up (Tu.rdS hB)) (.cons (up (Tu.rdD hB)) (.cons h4 (.cons (up hr) .nil))))) (by omega) (by simp[yC,hn]);rw[e2,ada t f p hf hp l hl]at this;refine this.g ?_;rintro e w' ⟨A',m,c',rfl,hm,_,ho,hb⟩;have hsz:=h0.j;have hWb:=(((aG W.a.j W).alloc (av _) _).alloc (by simp) _).trans (hb.g (by omega));exact⟨A',m,c',rfl,hm,iI ho (by omega),iX h0 hWb,hB.go hWb⟩
theorem aCu(W w0:ak)(q:Nat)(t:Tu)(f p:UInt8)(fi pi:Int)(A:Option aT)(n c:Nat)(l:List UInt8)(hf:f=if t.h.h then 6 else 4)(hp:p=aJ t.aQ.e)(hl:l=iG t.kV.e 2 true++iG t.j6.e 2 true)
 (hfi:fi=(f.e:Int)) (hpi:pi=(p.e:Int)) (hB:dK W q t.ay) (hr:fU W W.a.j A n l) (hn:n=4) (h0:aL w0.a.j w0 W) :
 aP ah 181 #[.a (some ⟨W.a.j+1+1,0,none⟩) 5 5] (((W.alloc (.D #[.b .b pi] 5)).alloc (.D #[.b .b fi] 5)).alloc (.D (yK [⟨some ⟨W.a.j+1,0,none⟩,1,1⟩,⟨some ⟨q,1,none⟩,16,16⟩,⟨some ⟨q,18,none⟩,16,16⟩,⟨some ⟨W.a.j,0,none⟩,1,1⟩,⟨A,n,c⟩]) 56)) (axG w0 q t.ay (LW t)):=by
 have e1:(W.alloc (.D #[.b .b pi] 5)).a.j=W.a.j+1:=by simp
 have e2:((W.alloc (.D #[.b .b pi] 5)).alloc (.D #[.b .b fi] 5)).a.j=W.a.j+1+1:=by simp
 have up:∀{A:Option aT} {n:Nat} {l:List UInt8},fU W W.a.j A n l->fU ((W.alloc (.D #[.b .b pi] 5)).alloc (.D #[.b .b fi] 5)) ((W.alloc (.D #[.b .b pi] 5)).alloc (.D #[.b .b fi] 5)).a.j A n l:=fun h=>
  ((h.alloc (av _) _).alloc (by rw[e1];omega) _).lF (by rw[e2];omega)
 have h4:=((Eo W p pi hpi).alloc (by rw[e1];omega) (.D #[.b .b fi] 5)).lF (show W.a.j+1<=((W.alloc (.D #[.b .b pi] 5)).alloc (.D #[.b .b fi] 5)).a.j by rw[e2];omega);have h1:=(Eo (W.alloc (.D #[.b .b pi] 5)) f fi hfi).lF (show _<=((W.alloc (.D #[.b .b pi] 5)).alloc (.D #[.b .b fi] 5)).a.j by rw[e2,e1];omega);rw[e1]at h1;have:=Bt [⟨some ⟨W.a.j+1,0,none⟩,1,1⟩,⟨some ⟨q,1,none⟩,16,16⟩,⟨some ⟨q,18,none⟩,16,16⟩,⟨some ⟨W.a.j,0,none⟩,1,1⟩,⟨A,n,c⟩] [[f],t.h.b.a,t.X.b.a,[p],l] 56 5 _ rfl (.cons h1 (.cons (up (Tu.rdS hB)) (.cons (up (Tu.rdD hB)) (.cons h4 (.cons (up hr) .nil))))) (by omega) (by simp[yC,hn]);rw[e2,ada t f p hf hp l hl]at this;refine this.g ?_;rintro e w' ⟨A',m,c',rfl,hm,_,ho,hb⟩;have hsz:=h0.j;have hWb:=(((aG W.a.j W).alloc (av _) _).alloc (by simp) _).trans (hb.g (by omega));exact⟨A',m,c',rfl,hm,iI ho (by omega),iX h0 hWb,hB.go hWb⟩
theorem aaM(t:Tu)(ht:wT t)(w:ak):aP ah 98 #[.d t.ay] w (Kc w (LW t)):=by
 obtain⟨⟨p1,p2⟩,⟨s1,s2⟩,d1,d2⟩:=ht;have T0:=ab (dK.new w t.ay 81);have B0:=ab ((aG w.a.j w).alloc (av _) (.D t.ay 81));obtain⟨w1,hw1⟩:=cB (w.alloc (.D t.ay 81));obtain⟨sn,hsn⟩:∃sn:Nat,t.kV=(sn:Int):=⟨t.kV.e,by omega⟩
 obtain⟨dn,hdn⟩:∃dn:Nat,t.j6=(dn:Int):=⟨t.j6.e,by omega⟩
 have PS:=ab (fun W=>wm sn (by omega) W);have PD:=ab (fun W=>wm dn (by omega) W);have cs:jy.wrap t.kV=(sn:Int):=by rw[jU];omega
 have cd:jy.wrap t.j6=(dn:Int):=by rw[jU];omega
 have cp:aW.wrap t.aQ=t.aQ:=by rw[GN];omega
 obtain⟨f,hf⟩:∃f:UInt8,f=if t.h.h then 6 else 4:=⟨_,rfl⟩
 have HL:=ab (show iG sn 2 true++iG dn 2 true=iG t.kV.e 2 true++iG t.j6.e 2 true by rw[show sn=t.kV.e by omega,show dn=t.j6.e by omega]);have HPI:=ab (show t.aQ=((aJ t.aQ.e).e:Int)by rw[dig _ (by omega)];omega);obtain⟨fi,hfi⟩:∃fi:Int,fi=(f.e:Int):=⟨_,rfl⟩
 have KS:=ab (show∀W',dK W' w.a.j t.ay->W'.b ⟨w.a.j,35,none⟩=some (.b .a t.kV)/\W'.b ⟨w.a.j,36,none⟩=some (.b .a t.j6)from fun W' h=>⟨by rw[h.K.1];exact Tu.afo t,by rw[h.K.1];exact Tu.aaE t⟩);have KP:=ab (show∀W',dK W' w.a.j t.ay->W'.b ⟨w.a.j,34,none⟩=some (.b .a t.aQ)from fun W' h=>by rw[h.K.1];exact Tu.Vi t);have CA:=ab (fun W A n c (hB:dK W w.a.j t.ay) (hr:fU W W.a.j A n (iG sn 2 true++iG dn 2 true)) (hn:n=4) (h0:aL w.a.j w W)=>aCt W w w.a.j t f _ fi t.aQ A n c _ hf rfl HL.i hfi HPI.i hB hr hn h0);have CB:=ab (fun W A n c (hB:dK W w.a.j t.ay) (hr:fU W W.a.j A n (iG sn 2 true++iG dn 2 true)) (hn:n=4) (h0:aL w.a.j w W)=>aCu W w w.a.j t f _ fi t.aQ A n c _ hf rfl HL.i hfi HPI.i hB hr hn h0);have HFI:=ab (show fi=if t.h.h then 6 else 4 by rw[hfi,hf];cases t.h.h<;>rfl);rw[<-hw1]at T0 B0;have hb1:w.a.j<w1.a.j:=by rw[hw1];simp
 have LB0:=ab (show w.a.j+1<=w1.drew.a.j from hb1);have LB1:=ab (show∀W,aL w1.drew.a.j w1.drew W->w.a.j+1<=W.a.j from fun W h=>aO hb1 h.j);have H4:=ab (show(iG sn 2 true).a+2<=1000000000 by rw[uP];omega);clear hf hfi hsn hdn p1 p2 s1 s2 d1 d2;obtain⟨ko,aCw⟩:∃b,t.h.h=b:=⟨_,rfl⟩
 rw[aCw]at HFI;subst hw1;cases ko
 all_goals
  have axI:=HFI.i;simp only[jI,if_false,if_true]at axI;subst axI;clear HFI;go_enter Tryz.func98,Tryz.ntmps98;go_wp2_with fail;go_cut [4]from 8 to 16 (fun s4 wx=>∃A n c,s4=.a A n c/\wx.c w.a.j 5 1 (.a A n c) n ((iG sn 2 true++iG dn 2 true).map bv)/\aL w.a.j w wx/\dK wx w.a.j t.ay)
  case first=>
   go_region_held_law (fun W'=>W'.b ⟨w.a.j,35,none⟩=some (.b .a t.kV)/\W'.b ⟨w.a.j,36,none⟩=some (.b .a t.j6))
    (first|exact KS.i _ T0.i.drew|exact KS.i _ Ta.i|exact KS.i _ Tb.i|exact KS.i _ Tc.i|exact KS.i _ Td.i|exact KS.i _ Tz.i|go_keep)
    (first|(go_at_call 184;(with_reducible refine(PS.i _).g ?_);rintro e wa ⟨Awa,rfl,ho,hb⟩;have Oa:=ab ho;have Ta:=ab (T0.i.drew.go hb);have Ba:=ab (iX B0.i (M8 hb));clear ho hb)|(go_at_call 184;(with_reducible refine(PD.i _).g ?_);rintro e wb ⟨Awb,rfl,ho,hb⟩;have Ob:=ab ho;have Tb:=ab (T0.i.drew.go hb);have Bb:=ab (iX B0.i (M8 hb));have Lb:=ab (LB1.i _ hb);clear ho hb)|(go_at_call 184;(with_reducible refine(PD.i _).g ?_);rintro e wc2 ⟨aCx,rfl,ho,hb⟩;have Tc:=ab (Ta.i.go hb);have Bc:=ab (iX Ba.i hb);have Q1:=ab (arL Oa.i LB0.i hb);have Q2:=ab (Db ho (aG _ _));clear ho hb)|(go_at_call 184;(with_reducible refine(PS.i _).g ?_);rintro e wd ⟨Awd,rfl,ho,hb⟩;have Td:=ab (Tb.i.go hb);have Bd:=ab (iX Bb.i hb);have Q3:=ab (arL ho Lb.i (aG _ _));have Q4:=ab (Db Ob.i hb);clear ho hb)|(refine M7 (o:=⟨some 16,_,_,_,_,_⟩) rfl (.tmp 11) (.tmp 15) rfl (.a Awd 2 2) Awb 2 2 rfl Q3.i rfl Q4.i H4.i ?_;intro A3 n3 c3 w3 h2 h3;have Tz:=ab (apr h2 Bd.i Td.i).2;have Oz:=ab (apr h2 Bd.i Td.i).1;clear h2 h3)|(refine M7 (o:=⟨some 16,_,_,_,_,_⟩) rfl (.tmp 11) (.tmp 15) rfl (.a Awa 2 2) aCx 2 2 rfl Q1.i rfl Q2.i H4.i ?_;intro A3 n3 c3 w3 h2 h3;have Tz:=ab (apr h2 Bc.i Tc.i).2;have Oz:=ab (apr h2 Bc.i Tc.i).1;clear h2 h3))
   all_goals
    go_wp2_with fail;go_meet
    case rel=>obtain⟨A9,n9,c9,e9,ho9,hb9⟩:=Oz.i;exact⟨A9,n9,c9,e9,ho9,hb9,Tz.i⟩
  case rest=>
   obtain⟨A,n,c,rfl,ho,hb,hT⟩:=hcut;have hn4:n=4:=by have:=ho.1;rw[bU,aR,uP,uP]at this;omega
   subst hn4;have HT:=ab hT;have HB:=ab hb;have HR:=ab (fU.iQ ho);clear ho hb hT;go_wp2_with fail;have CA1:=CA.i wc.drew A 4 c HT.i.drew HR.i rfl HB.i.drew;have CB1:=CB.i wc.drew A 4 c HT.i.drew HR.i rfl HB.i.drew;simp only[show wc.drew.a.j=wc.a.j from rfl,show∀(w:ak) ob,w.drew.alloc ob=(w.alloc ob).drew from fun _ _=>rfl]at CA1 CB1;have CA2:=ab CA1;have CB2:=ab CB1;clear CA1 CB1;go_region_held_law (fun W'=>W'.b ⟨w.a.j,34,none⟩=some (.b .a t.aQ))
    (first|exact KP.i _ HT.i.drew|exact KP.i _ (HT.i.drew.alloc _)|exact KP.i _ ((HT.i.drew.alloc _).alloc _)|exact KP.i _ (((HT.i.drew.alloc _).alloc _).alloc _)|exact KP.i _ FX.i|go_keep)
    (first|(go_at_call 181;(with_reducible refine CA2.i.g ?_);rintro e w2 ⟨A2,n2,c2,rfl,hn2,ho2,hb2,hx2⟩;have FX:=ab hx2;have FN:=ab hn2;have FO:=ab ho2;have FB:=ab hb2;clear hn2 ho2 hb2 hx2)|(go_at_call 181;(with_reducible refine CB2.i.g ?_);rintro e w2 ⟨A2,n2,c2,rfl,hn2,ho2,hb2,hx2⟩;have FX:=ab hx2;have FN:=ab hn2;have FO:=ab ho2;have FB:=ab hb2;clear hn2 ho2 hb2 hx2))
   all_goals
    go_wp2_with fail;go_ret;exact⟨_,_,_,rfl,FN.i,FO.i,FB.i⟩
theorem afw(l:List UInt8):iG (oG l) l.a true=l:=by
 simp[iG,Rx]
theorem Vo(l:List UInt8)(k:Nat)(h:l.a=k):iG (oG l) k true=l:=by rw[<-h];exact afw l
theorem adb{n m k:Nat}(hn:n<2^(8*k))(hm:m<2^(8*k))(h:iG n k true=iG m k true):n=m:=by
 have h1:rO n k=rO m k:=by
  have:=congrArg List.reverse h;simpa[iG]using this
 have h2:∀i,i<k->Fa n i=Fa m i:=fun i hi=>by
  have:=congrArg (fun l:List UInt8=>l[i]?) h1;simpa[rO,hi]using this
 have h3:=acd k h2;rw[fP hn,fP hm]at h3;exact h3
theorem Vq(l:List UInt8):oG l<2^(8*l.a):=by
 have:=Jz l;rw[Nat.pow_mul];exact this
theorem afx{n k:Nat}(hn:n<2^(8*k)):oG (iG n k true)=n:=by
 have hl:(iG n k true).a=k:=uP _ _ _;have h:=Vo (iG n k true) k hl;have h2:=Vq (iG n k true);rw[hl]at h2;exact adb h2 hn h
theorem Qi(l t:List UInt8)(k:Nat)(h:l.a=k):Gv k (some (l++t))=(l,some t):=by
 subst h;simp[Gv]
theorem Qj{k:Nat}{s:RS}{l t:List UInt8}(h:Gv k s=(l,some t)):s=some (l++t)/\l.a=k:=by
 cases s with
 | none=>simp[Gv]at h
 | some b=>
   unfold Gv at h;simp only at h;split at h
   ·rename_i hk
    injection h with h1 h2
    injection h2 with h2
    subst h1 h2;exact⟨by rw[iF],by rw[List.length_take];omega⟩
   ·injection h with h1 h2;cases h2
theorem Na(n k:Nat)(t:List UInt8)(hn:n<2^(8*k)):aci k (some (iG n k true++t))=(n,some t):=by
 unfold aci;rw[Qi (iG n k true) t k (uP _ _ _)];simp only[afx hn]
theorem Nb{k n:Nat}{s:RS}{t:List UInt8}(h:aci k s=(n,some t)):s=some (iG n k true++t)/\n<2^(8*k):=by
 unfold aci at h;injection h with h1 h2
 have h3:Gv k s=((Gv k s).1,some t):=by rw[<-h2]
 obtain⟨h4,h5⟩:=Qj h3;refine⟨?_,?_⟩
 ·rw[<-h1,Vo _ k h5];exact h4
 ·have:=Vq (Gv k s).1
  rw[h5]at this;rw[<-h1];exact this
theorem ahi(n:Nat)(hn:n<256):iG n 1 true=[aJ n]:=by
 simp[iG,rO,Fa]
theorem al8{n:Nat}(v:Vector UInt8 n):qd n v.a=v:=by
 apply Vector.ext;intro i hi;simp[qd,hi]
theorem ade{n:Nat}(l:List UInt8)(h:l.a=n):(qd n l).a=l:=by
 apply List.ext_getElem
 ·simp[h]
 ·intro i h1 h2
  simp[qd,h2]
structure Cdc{α:Type}(one:RS->(α×Bool)×RS)(lay:α->List UInt8)(ok:α->Prop):Prop where
 fwd:∀x t,ok x->one (some (lay x++t))=((x,true),some t)
 inv:∀s x t,one s=((x,true),some t)->ok x->s=some (lay x++t)
theorem AL{α:Type}{p:α×RS}{t:List UInt8}(h:p.2=some t):p=(p.1,some t):=Prod.ext rfl h
def Yz(t:Tu):Prop:=t.h.h=t.X.h/\(0<=t.aQ/\t.aQ<=255)/\(0<=t.kV/\t.kV<=65535)/\0<=t.j6/\t.j6<=65535
theorem al9:Cdc tuO LW Yz where
 fwd:=by
  intro x t ⟨h0,⟨h1,h2⟩,⟨h3,h4⟩,h5,h6⟩;have hf:∀b:Bool,(if b then 6 else 4:Nat)<2^(8*1):=by intro b;cases b<;>decide
  have e0:LW x++t=iG (if x.h.h then 6 else 4) 1 true++(x.h.b.a++(x.X.b.a++(iG x.aQ.e 1 true++(iG x.kV.e 2 true++(iG x.j6.e 2 true++t))))):=by
   have:∀b:Bool,iG (if b then 6 else 4) 1 true=[if b then 6 else 4]:=by intro b;cases b<;>decide
   rw[ahi x.aQ.e (by omega),this];simp[LW,dB]
  rw[e0];unfold tuO;simp only[Na _ 1 _ (hf _),Qi x.h.b.a _ 16 (by simp),Qi x.X.b.a _ 16 (by simp),Na x.aQ.e 1 _ (by omega),Na x.kV.e 2 _ (by omega),Na x.j6.e 2 _ (by omega),al8];have g:∀b:Bool,(((if b then 6 else 4:Nat)==6)=b)/\(b||((if b then 6 else 4:Nat)==4))=true:=by intro b;cases b<;>decide
  simp only[(g _).1,(g _).2];congr 2;obtain⟨⟨a,b⟩,⟨c,d⟩,p,q,r⟩:=x;simp only at h0 h1 h2 h3 h4 h5 h6 ⊢;subst h0;congr<;>omega
 inv:=by
  intro s x t h _;unfold tuO at h;simp only[Prod.mk.injEq]at h;obtain⟨⟨h1,c⟩,h2⟩:=h;obtain⟨i6,_⟩:=Nb (AL h2);obtain⟨i5,_⟩:=Nb (AL i6);obtain⟨i4,l4⟩:=Nb (AL i5);obtain⟨i3,l3⟩:=Qj (AL i4);obtain⟨i2,l2⟩:=Qj (AL i3);obtain⟨i1,_⟩:=Nb (AL i2);rw[i1,<-h1];congr 1;unfold LW;have:∀n:Nat,((n==6)||(n==4))=true->iG n 1 true=[if(n==6)=true then 6 else 4]:=by
   intro n hn;simp at hn;rcases hn with rfl|rfl<;>decide
  rw[this _ c];have e4:∀n:Nat,n<2^(8*1)->[aJ n]=iG n 1 true:=fun n hn=>(ahi n (by omega)).symm
  simp only[dB,ade _ l2,ade _ l3,Int.toNat_natCast,e4 _ l4]
theorem apt(n m:Int):XT n m=true↔0<=n/\n<=m:=by simp[XT]
theorem Nc{x:Tu}(h:Fq x=true):Yz x:=by
 unfold Fq at h;simp only[bl,decide_eq_true_eq,apt]at h;exact⟨h.1.1.1.1.1,h.1.1.2,h.1.2,h.2⟩
structure Ly(B:Nat)(L:List (Nat×Array aB))(w0 W:ak)(v:aB)(bs:List UInt8):Prop where
 o:Ow B none w0 v bs W
 G:∀p∈L,dK W p.1 p.2/\v.f≠some p.1
section
variable {B:Nat} {L:List (Nat×Array aB)} {w0 W W':ak} {v v':aB} {bs bs':List UInt8}
theorem Ly.go(h:Ly B L w0 W v bs)(hb:aL W.a.j W W'):Ly B L w0 W' v bs:=⟨h.o.go hb,fun p hp=>⟨(h.G p hp).1.go hb,(h.G p hp).2⟩⟩
theorem Ly.alloc(h:Ly B L w0 W v bs)(ob:Obj):Ly B L w0 (W.alloc ob) v bs:=h.go ((aG _ _).alloc (av _) ob)
theorem Ly.drew(h:Ly B L w0 W v bs):Ly B L w0 W.drew v bs:=⟨h.o.drew,fun p hp=>⟨(h.G p hp).1.drew,(h.G p hp).2⟩⟩
theorem Ly.new(h:Ly B L w0 W v bs)(c:Array aB)(t:bF):Ly B ((W.a.j,c)::L) w0 (W.alloc (.D c t)) v bs:=
 ⟨(h.alloc _).o,fun p hp=>by
   rcases bg.1 hp with rfl|hp
   ·exact⟨dK.new W c t,fun e=>absurd (h.o.lt e) (Nat.lt_irrefl _)⟩
   ·exact(h.alloc _).G p hp⟩
theorem Ly.add(h:Ly B L w0 W v bs){q:Nat}{c:Array aB}(hb:dK W q c)(hq:v.f≠some q):Ly B ((q,c)::L) w0 W v bs:=
 ⟨h.o,fun p hp=>by
  rcases bg.1 hp with rfl|hp
  ·exact⟨hb,hq⟩
  ·exact h.G p hp⟩
theorem Ly.step(h:Ly B L w0 W v bs)(k:Ow B v.f W v' bs' W'):Ly B L w0 W' v' bs':=
 ⟨h.o.step k,fun p hp=>⟨k.box (h.G p hp).1 (fun e=>(h.G p hp).2 e.symm),by
  rcases k.tF with e|⟨j,e,e2⟩
  ·rw[e];exact(h.G p hp).2
  ·rw[e];intro e3;injection e3 with e3;have:=(h.G p hp).1.lt;omega⟩⟩
theorem Ly.Tq{p:Nat×Array aB}(h:Ly B (p::L) w0 W v bs):Ly B L w0 W v bs:=⟨h.o,fun q hq=>h.G q (jZ _ hq)⟩
theorem Ly.S{q:Nat}{c:Array aB}(h:Ly B ((q,c)::L) w0 W v bs):dK W q c:=(h.G (q,c) (by simp)).1
theorem Ly.b1{p:Nat×Array aB}{q:Nat}{c:Array aB}(h:Ly B (p::(q,c)::L) w0 W v bs):dK W q c:=h.Tq.S
theorem Ly.b2{p p2:Nat×Array aB}{q:Nat}{c:Array aB}(h:Ly B (p::p2::(q,c)::L) w0 W v bs):dK W q c:=h.Tq.Tq.S
end
theorem RdI.box{W:ak}{q o:Nat}{l:List Int}{c:Array aB}(h:dK W q c)(hc:∀j,j<l.a->c[o+j]? = some (.b .a (l.c j 0))):RdI W W.a.j (some ⟨q,o,none⟩) l.a l:=by
 have hf:(l.h fun x=>(FP x).a)=l.map (aI .a):=by
  clear hc
  induction l with
  | nil=>rfl
  | cons z l ih=>simp only[iM,ih];rfl
 refine⟨rfl,⟨by rw[hf];simp,fun _=>⟨_,rfl,h.lt,?_⟩⟩,fun a h _=>by injection h with h;rw[<-h]⟩;intro j v hv;rw[hf]at hv;have hj:j<l.a:=by
  rcases aY j l.a with hj|hj
  ·exact hj
  ·rw[aS (by simpa using hj)]at hv;cases hv
 rw[iC,h.K.1,hc j hj,<-hv];simp[au,hj]
theorem YA(l:List Int)(j:Nat)(hj:j<l.a):(sH l)[0+j]? = some (.b .a (l.c j 0)):=by
 simp[sH,au,hj]
theorem Ly.nil{w:ak}:Ly w.a.j [] w w (.a none 0 0) []:=⟨Ow.nil w,fun p hp=>by cases hp⟩
def aaN{α:Type}(t e:bF)(f:α->Array aB)(sz:Nat):Prop:=∃(i:nI)(z:aB),ah.k t=some (.a e)/\ah.l e=some i/\i.zero=some z/\i.j=sz/\z.D.j=sz/\0<sz/\i.bytes<=1000/\(∀x,(f x).j=sz)/\∀x,(f x).all (·.h)=true
structure Rz{α:Type}(f:α->Array aB)(sz:Nat)(e:bF)(L:List (Nat×Array aB))(w0 W:ak)(v:aB)(l:List α):Prop where
 vB:W.c w0.a.j e sz v l.a (l.h fun x=>(f x).a)
 R:aL w0.a.j w0 W
 G:∀p∈L,dK W p.1 p.2/\v.f≠some p.1
section
variable {α:Type} {f:α->Array aB} {sz:Nat} {e t:bF} {L:List (Nat×Array aB)} {w0 W W':ak} {v v':aB} {l ys:List α}
theorem Rz.nil(w:ak):Rz f sz e [] w w (.a none 0 0) []:=⟨fu _ _ _ _,aG _ _,fun p hp=>by cases hp⟩
theorem Rz.go(h:Rz f sz e L w0 W v l)(hb:aL W.a.j W W'):Rz f sz e L w0 W' v l:=⟨jA h.vB hb,iX h.R hb,fun p hp=>⟨(h.G p hp).1.go hb,(h.G p hp).2⟩⟩
theorem Rz.alloc(h:Rz f sz e L w0 W v l)(ob:Obj):Rz f sz e L w0 (W.alloc ob) v l:=h.go ((aG _ _).alloc (av _) ob)
theorem Rz.drew(h:Rz f sz e L w0 W v l):Rz f sz e L w0 W.drew v l:=⟨h.vB,h.R.drew,fun p hp=>⟨(h.G p hp).1.drew,(h.G p hp).2⟩⟩
theorem Rz.lt(h:Rz f sz e L w0 W v l){k:Nat}(hk:v.f=some k):w0.a.j<=k/\k<W.a.j:=h.vB.lt k hk
theorem Rz.new(h:Rz f sz e L w0 W v l)(c:Array aB)(t:bF):Rz f sz e ((W.a.j,c)::L) w0 (W.alloc (.D c t)) v l:=
 ⟨(h.alloc _).vB,(h.alloc _).R,fun p hp=>by
   rcases bg.1 hp with rfl|hp
   ·exact⟨dK.new W c t,fun e=>absurd (h.lt e).2 (Nat.lt_irrefl _)⟩
   ·exact(h.alloc _).G p hp⟩
theorem Rz.Tq{p:Nat×Array aB}(h:Rz f sz e (p::L) w0 W v l):Rz f sz e L w0 W v l:=⟨h.vB,h.R,fun q hq=>h.G q (jZ _ hq)⟩
theorem Rz.S{q:Nat}{c:Array aB}(h:Rz f sz e ((q,c)::L) w0 W v l):dK W q c:=(h.G (q,c) (by simp)).1
theorem Rz.b1{p:Nat×Array aB}{q:Nat}{c:Array aB}(h:Rz f sz e (p::(q,c)::L) w0 W v l):dK W q c:=h.Tq.S
theorem Rz.Cj(h:Rz f sz e L w0 W v l):∃A c,v=.a A l.a c:=by obtain⟨A,c,e,_⟩:=jE h.vB;exact⟨A,c,e⟩
theorem Rz.rd{A:Option aT}{n c:Nat}(h:Rz f sz e L w0 W (.a A n c) l):iJ f sz W W.a.j A n l:=by
 obtain⟨A2,c2,e2⟩:=h.Cj;injection e2 with e3 e4 e5
 subst e3 e4 e5;exact iJ.iQ rfl h.vB
theorem Rz.len{A:Option aT}{n c:Nat}(h:Rz f sz e L w0 W (.a A n c) l):n=l.a:=h.rd.1.symm
theorem Rz.grown(h:Rz f sz e L w0 W v l)(hg:W.d W' v.f)(h1:W'.c w0.a.j e sz v' ys.a (ys.h fun x=>(f x).a))(h2:v'.f=v.f\/v'.f=some W.a.j):Rz f sz e L w0 W' v' ys:=by
 refine⟨h1,⟨hg.os.trans h.R.os,hg.tape.trans h.R.tape,hg.output.trans h.R.output,aO h.R.j hg.j,fun k hk=>(hg.block k (eY hk h.R.j) (fun e=>by have:=(h.lt e.symm).1;omega)).trans (h.R.block k hk)⟩,fun p hp=>⟨(h.G p hp).1.grown hg (fun e=>(h.G p hp).2 e.symm),?_⟩⟩;rcases h2 with e|e
 ·rw[e];exact(h.G p hp).2
 ·rw[e];intro e3;injection e3 with e3;have:=(h.G p hp).1.lt;omega
theorem arM(T:aaN t e f sz){o:iZ}{a:qR}{K:qR->ak->Prop}{Q:zO->qR->ak->Prop}(s x:pG)
 (ho:o.op=.call {callee:=.builtin .append,args:=#[s,x],argTypes:=#[t,t]}) (hs:a.eval s=v) (H:Rz f sz e L w0 W v l) {C:Nat} {A:Option aT} {m c:Nat} (hx:a.eval x=.a A m c) (hr:iJ f sz W C A m ys)
 (hlen:l.a+m<=1000000)
 (h:∀A' n' c' w',Rz f sz e L w0 w' (.a A' n' c') (l++ys)->W.d w' v.f->K (a.put o.X (.a A' n' c')) w'):o.wp ah a W K Q:=by
 obtain⟨i,z,ht,hi,hz,h1,h2,h3,h4,h5,h6⟩:=T;have hm:=hr.1;refine Jy W s x t ho w0.a.j e i z sz i.bytes ht hi hz h1 rfl h2 h3 v l.a _ hs H.vB C A m c _ hx hr.2.1 (D6 f h6 ys) (by unfold maxLen;omega) (aO (Nat.mul_le_mul hlen h4) (by omega)) H.R.j ?_;intro v1 w1 k1 k2 k3;rw[abU,<-hm,<-aR]at k1;have hk:=H.grown k2 k1 k3;obtain⟨A',c',rfl⟩:=hk.Cj;exact h A' _ c' w1 hk k2
theorem Qk(T:aaN t e f sz){ops:Array iZ}{rest:List iZ}{o:iZ}{a:qR}{Q:zO->qR->ak->Prop}(hgd:o.guard=none)(s x:pG)
 (ho:o.op=.call {callee:=.builtin .append,args:=#[s,x],argTypes:=#[t,t]}) (hs:a.eval s=v) (H:Rz f sz e L w0 W v l) {C:Nat} {A:Option aT} {m c:Nat} (hx:a.eval x=.a A m c) (hr:iJ f sz W C A m ys)
 (hlen:l.a+m<=1000000)
 (h:∀A' n' c' w',Rz f sz e L w0 w' (.a A' n' c') (l++ys)->W.d w' v.f->wpList ah ops Q rest (a.put o.X (.a A' n' c')) w'):wpList ah ops Q (o::rest) a W:=
 sO hgd fun _ hK=>arM T s x ho hs H hx hr hlen fun A' n' c' w' h2 h3=>hK _ _ (h A' n' c' w' h2 h3)
theorem apu(T:aaN t e f sz){ops:Array iZ}{o:iZ}{a:qR}{K:qR->ak->Prop}{Q:zO->qR->ak->Prop}{E:Prop}(hgd:o.guard=none)(s x:pG)
 (ho:o.op=.call {callee:=.builtin .append,args:=#[s,x],argTypes:=#[t,t]}) (hs:a.eval s=v) (H:Rz f sz e L w0 W v l) {C:Nat} {A:Option aT} {m c:Nat} (hx:a.eval x=.a A m c) (hr:iJ f sz W C A m ys)
 (hlen:l.a+m<=1000000)
 (h:∀A' n' c' w',Rz f sz e L w0 w' (.a A' n' c') (l++ys)->W.d w' v.f->K (a.put o.X (.a A' n' c')) w'):if fF o (yielded ops a.tmps)=true then ni ah o a W K Q else E:=by
 have hw:fF o (yielded ops a.tmps)=true:=by simp[fF,hgd]
 rw[if_pos hw];exact arM T s x ho hs H hx hr hlen h
end
theorem aiV(l:List Bk)(hs:Fp l)(s:List UInt8)(v:Int)(A:Option aT)(n c:Nat)(w:ak)(hR:iJ Bk.ay 27 w w.a.j A n l)(hn:n<=100000)(K:Bool)(g:Bk)(h1:sM l s=K)(h2:qc l s=g):
 aP ah 33 #[.d #[.b .a v,.a A n c],.string (bT s)] w (gD w (.J #[.d g.ay,.e K])):=by
 obtain rfl:=hR.1;subst h1 h2;exact Bf l hs s v A c w hR (by omega)
theorem Ly.rd{B:Nat}{L:List (Nat×Array aB)}{w0 W:ak}{A:Option aT}{n c:Nat}{bs:List UInt8}(h:Ly B L w0 W (.a A n c) bs):fU W W.a.j A n bs:=by
 obtain⟨A2,c2,e2⟩:=h.o.Cj;injection e2 with e3 e4 e5
 subst e3 e4 e5;exact fU.iQ h.o.vB
theorem Nf(d:Nat)(l m:List Int)(W:ak):∀is:List Nat,(∀i∈is,i<l.a/\i<m.a)->(J4 (d+1) 3 1 (sH l) (sH m) is).I ah W = .Z (is.all fun i=>l.c i 0==m.c i 0) W
 | [],_=>by simp[J4]
 | i::is,h=>by
   have hi:=h i (by simp);have ih:=Nf d l m W is (fun j hj=>h j (by simp[hj]));have p1:∀l:List Int,i<l.a->(part 3 (sH l) (i*1)).I ah W = .Z (.b .a (l.c i 0)) W:=fun l hl=>
    pE (by simp only[gQ]) (by rw[gH];have:=YA l i hl;rwa [bB]at this) W
   simp only[J4,Sem.run_bind,p1 l hi.1,p1 m hi.2,gM,Fe,List.all_cons];cases hb:(l.c i 0==m.c i 0)
   ·simp
   ·simpa using ih
theorem YB(v:Vector Int 11):yB v=sH v.a:=rfl
theorem apv(a b:Vector Int 11):((dP 11).all fun i=>a.a.c i 0==b.a.c i 0)=decide (a=b):=by
 rw[bV];simp only[gJ,eO,beq_iff_eq,decide_eq_true_eq];constructor
 ·intro h
  apply Vector.ext;intro i hi;have:=h i hi;simpa[au,hi]using this
 ·rintro rfl i _
  rfl
theorem afy(a b:Vector Int 11)(d:Nat)(W:ak):(jf (d+2) 35 (.d (yB a)) (.d (yB b))).I ah W = .Z (decide (a=b)) W:=by
 obtain⟨i0,hi0,_,_⟩:=Tm;rw[run_equalIn_array W (d+1) _ _ EL hi0,show ah.cellsOf 3=1 by kernel_rfl,YB,YB,Nf d _ _ W _ (fun i hi=>by simp at hi⊢;exact hi),apv]
@[go_sem ↓]theorem aCB(a b:Vector Int 11)(W:ak):(jf 10000 35 (.d (yB a)) (.d (yB b))).I ah W = .Z (decide (a=b)) W:=afy a b 9998 W
theorem aiW:ah.k 81=some (.d (ah.fieldsOf 81)):=by
 simp only[jT,j3]
theorem apw:∃f1 f2 f3 f4 f5:nS,(ah.fieldsOf 81).a=[f1,f2,f3,f4,f5]/\(f1.E ≠ "_" /\ f2.E ≠ "_" /\ f3.E ≠ "_" /\ f4.E ≠ "_" /\ f5.E ≠ "_")/\(f1.p=27/\f1.Y=0)/\(f2.p=27/\f2.Y=17)/\(f3.p=3/\f3.Y=34)/\(f4.p=3/\f4.Y=35)/\(f5.p=3/\f5.Y=36):=by
 refine⟨_,_,_,_,_,by simp only[jT,j3];rfl,⟨?_,?_,?_,?_,?_⟩,⟨rfl,rfl⟩,⟨rfl,rfl⟩,⟨rfl,rfl⟩,⟨rfl,rfl⟩,⟨rfl,rfl⟩⟩<;>decide
theorem YC(x y:Tu)(d:Nat)(W:ak):(jf (d+4) 81 (.d x.ay) (.d y.ay)).I ah W = .Z (decide (x=y)) W:=by
 rw[zh W (d+3) _ _ _ aiW Tryz.stoodInHeld81];obtain⟨f1,f2,f3,f4,f5,hl,⟨n1,n2,n3,n4,n5⟩,⟨t1,o1⟩,⟨t2,o2⟩,⟨t3,o3⟩,⟨t4,o4⟩,⟨t5,o5⟩⟩:=apw;rw[hl];have p1:∀z:Tu,(part f1.p z.ay f1.Y).I ah W = .Z (.d z.h.ay) W:=fun z=>by
  rw[t1,o1,DZ (n:=17) (by simp only[fB]) (by kernel_rfl) z.ay 0 W,Tu.aiT]
 have p2:∀z:Tu,(part f2.p z.ay f2.Y).I ah W = .Z (.d z.X.ay) W:=fun z=>by
  rw[t2,o2,DZ (n:=17) (by simp only[fB]) (by kernel_rfl) z.ay 17 W,show 17+17=34 from rfl,Tu.aiU]
 have p3:∀z:Tu,(part f3.p z.ay f3.Y).I ah W = .Z (.b .a z.aQ) W:=fun z=>by
  rw[t3,o3];exact pE (by simp only[gQ]) (Tu.Vi z) W
 have p4:∀z:Tu,(part f4.p z.ay f4.Y).I ah W = .Z (.b .a z.kV) W:=fun z=>by
  rw[t4,o4];exact pE (by simp only[gQ]) (Tu.afo z) W
 have p5:∀z:Tu,(part f5.p z.ay f5.Y).I ah W = .Z (.b .a z.j6) W:=fun z=>by
  rw[t5,o5];exact pE (by simp only[gQ]) (Tu.aaE z) W
 rw[show decide (x=y)=(decide (x.h=y.h)&&(decide (x.X=y.X)&&((x.aQ==y.aQ)&&((x.kV==y.kV)&&((x.j6==y.j6)&&true)))))by
  rw[bV];cases x;cases y;simp]
 exact iR _ _ _ _ _ n1 W _ _ _ _ (p1 x) (p1 y) (by rw[t1];exact Fu _ _ d W)
  (iR _ _ _ _ _ n2 W _ _ _ _ (p2 x) (p2 y) (by rw[t2];exact Fu _ _ d W)
  (iR _ _ _ _ _ n3 W _ _ _ _ (p3 x) (p3 y) (by rw[t3];exact Fe _ _ _ W)
  (iR _ _ _ _ _ n4 W _ _ _ _ (p4 x) (p4 y) (by rw[t4];exact Fe _ _ _ W)
  (iR _ _ _ _ _ n5 W _ _ _ _ (p5 x) (p5 y) (by rw[t5];exact Fe _ _ _ W) (by simp[vY])))))
@[go_sem ↓]theorem aF4(x y:Tu)(W:ak):(jf 10000 81 (.d x.ay) (.d y.ay)).I ah W = .Z (decide (x=y)) W:=YC x y 9996 W
theorem aiX:ah.k 86=some (.d (ah.fieldsOf 86)):=by
 simp only[jT,mV]
theorem apx:∃f1 f2 f3 f4 f5:nS,(ah.fieldsOf 86).a=[f1,f2,f3,f4,f5]/\(f1.E ≠ "_" /\ f2.E ≠ "_" /\ f3.E ≠ "_" /\ f4.E ≠ "_" /\ f5.E ≠ "_")/\(f1.p=81/\f1.Y=0)/\(f2.p=9/\f2.Y=37)/\(f3.p=3/\f3.Y=38)/\(f4.p=3/\f4.Y=39)/\(f5.p=3/\f5.Y=40):=by
 refine⟨_,_,_,_,_,by simp only[jT,mV];rfl,⟨?_,?_,?_,?_,?_⟩,⟨rfl,rfl⟩,⟨rfl,rfl⟩,⟨rfl,rfl⟩,⟨rfl,rfl⟩,⟨rfl,rfl⟩⟩<;>decide
theorem aiY(x y:Fw)(d:Nat)(W:ak):(jf (d+5) 86 (.d x.ay) (.d y.ay)).I ah W = .Z (decide (x=y)) W:=by
 rw[zh W (d+4) _ _ _ aiX Tryz.stoodInHeld86];obtain⟨f1,f2,f3,f4,f5,hl,⟨n1,n2,n3,n4,n5⟩,⟨t1,o1⟩,⟨t2,o2⟩,⟨t3,o3⟩,⟨t4,o4⟩,⟨t5,o5⟩⟩:=apx;rw[hl];have p1:∀z:Fw,(part f1.p z.ay f1.Y).I ah W = .Z (.d z.key.ay) W:=fun z=>by
  rw[t1,o1,DZ (n:=37) (by simp only[j3]) (by kernel_rfl) z.ay 0 W,bB,Fw.QY]
 have p2:∀z:Fw,(part f2.p z.ay f2.Y).I ah W = .Z (.string (bT z.E)) W:=fun z=>by
  rw[t2,o2];exact pE (by simp only[Tryz.underlying9]) (Fw.afp z) W
 have p3:∀z:Fw,(part f3.p z.ay f3.Y).I ah W = .Z (.b .a z.xk) W:=fun z=>by
  rw[t3,o3];exact pE (by simp only[gQ]) (Fw.afq z) W
 have p4:∀z:Fw,(part f4.p z.ay f4.Y).I ah W = .Z (.b .a z.seen) W:=fun z=>by
  rw[t4,o4];exact pE (by simp only[gQ]) (Fw.afr z) W
 have p5:∀z:Fw,(part f5.p z.ay f5.Y).I ah W = .Z (.b .a z.no) W:=fun z=>by
  rw[t5,o5];exact pE (by simp only[gQ]) (Fw.aaG z) W
 rw[show decide (x=y)=(decide (x.key=y.key)&&((x.E==y.E)&&((x.xk==y.xk)&&((x.seen==y.seen)&&((x.no==y.no)&&true)))))by
  rw[bV];cases x;cases y;simp]
 exact iR _ _ _ _ _ n1 W _ _ _ _ (p1 x) (p1 y) (by rw[t1];exact YC _ _ d W)
  (iR _ _ _ _ _ n2 W _ _ _ _ (p2 x) (p2 y) (by rw[t2];exact OJ _ _ _ W)
  (iR _ _ _ _ _ n3 W _ _ _ _ (p3 x) (p3 y) (by rw[t3];exact Fe _ _ _ W)
  (iR _ _ _ _ _ n4 W _ _ _ _ (p4 x) (p4 y) (by rw[t4];exact Fe _ _ _ W)
  (iR _ _ _ _ _ n5 W _ _ _ _ (p5 x) (p5 y) (by rw[t5];exact Fe _ _ _ W) (by simp[vY])))))
@[go_sem ↓]theorem aF5(x y:Fw)(W:ak):(jf 10000 86 (.d x.ay) (.d y.ay)).I ah W = .Z (decide (x=y)) W:=aiY x y 9995 W
theorem aiZ(l m:List Fw)(A B:Option aT)(n k c d:Nat)(w:ak)(hR:iJ Fw.ay 41 w w.a.j A n l)(hT:iJ Fw.ay 41 w w.a.j B k m)(hn:n<=4611686018427387904)(hk:k<=4611686018427387904):
 aP ah 58 #[.a A n c,.a B k d] w (gD w (.e (decide (l=m)))):=by
 have HR:=ab hR;have HT:=ab hT;have HN:=ab hR.1;have HK:=ab hT.1;clear hR hT;by_cases hlm:n=k;rotate_left
 ·have hne:((n:Int) != (k:Int))=true:=by rw[bne_iff_ne];omega
  have HF:=ab (show decide (l=m)=false from decide_eq_false (fun e=>hlm (by rw[<-HN.i,<-HK.i,e])));clear hlm;go_enter Tryz.func58,Tryz.ntmps58;go_wp2;go_ret;exact⟨by rw[HF.i];rfl,aG _ _⟩
 subst hlm;have hbn:((n:Int) != (n:Int))=false:=by simp
 go_enter Tryz.func58,Tryz.ntmps58;go_wp2;go_loopw [5] (fun s5 wr=>∃i:Nat,i<=n/\s5=.b .a i/\l.d i=m.d i/\aL w.a.j w wr) (fun s5 _=>n-(intOf s5).e)
 case atStart=>exact⟨0,by omega,rfl,rfl,aG _ _⟩
 case round=>
  obtain⟨i,hin,rfl,hall,hb⟩:=hrel;have HA:=ab hall;have HB:=ab hb;clear hall hb;by_cases hlt:i<n
  ·have hi:(i:Int)<n:=by omega
   obtain⟨b,o,rfl,hbb,hh,hc⟩:=iJ.fw (HR.i.O HB.i) hlt;obtain⟨b2,o2,rfl,Ms,hh2,hc2⟩:=iJ.fw (HT.i.O HB.i) hlt;obtain⟨x,hx⟩:=cB (l.c i kD);obtain⟨y,hy⟩:=cB (m.c i kD);rw[<-hx]at hc;rw[<-hy]at hc2;have HX:=ab hx;have HY:=ab hy;clear hx hy hbb Ms;by_cases hq:x=y
   ·have he:decide (x=y)=true:=by simpa using hq
    have HS:=ab (show l.d (i+1)=m.d (i+1)by
     rw[<-lN kD l i (by rw[HN.i];exact hlt),<-lN kD m i (by rw[HK.i];exact hlt),HA.i,<-HX.i,<-HY.i,hq])
    clear hq;go_wp2;go_quiet (fail);go_wp2;go_roundw
    case rel=>exact⟨i+1,by omega,by go_num,HS.i,eH HB.i _⟩
    case measure=>simp[intOf]<;>omega
   ·have he:decide (x=y)=false:=by simpa using hq
    have HF:=ab (show decide (l=m)=false from decide_eq_false (fun e=>hq (by rw[HX.i,HY.i,e])));clear hq;go_wp2;go_quiet (fail);go_wp2;go_ret;exact⟨by rw[HF.i];rfl,eH HB.i _⟩
  ·obtain rfl:i=n:=by omega
   have hd:decide ((i:Int)<i)=false:=by simp
   have HT2:=ab (show decide (l=m)=true from decide_eq_true (by
    have:=HA.i
    rwa [aK (by rw[HN.i];omega),aK (by rw[HK.i];omega)]at this))
   go_wp2;go_ret;exact⟨by rw[HT2.i];rfl,HB.i⟩
theorem ai0(l m:List Bk)(hf:∀x∈l,x.pJ)(hg:∀x∈m,x.pJ)(v v':Int)(A B:Option aT)(n n' c d:Nat)(w:ak)(hR:iJ Bk.ay 27 w w.a.j A n l)(hT:iJ Bk.ay 27 w w.a.j B n' m)(hn:n<=4611686018427387903)(hm:n'<=4611686018427387903)(K:Bool)(hK:Bg v l v' m=K):
 aP ah 56 #[.d #[.b .a v,.a A n c],.d #[.b .a v',.a B n' d]] w (gD w (.e K)):=by
 subst hK;obtain rfl:=hR.1;obtain rfl:=hT.1;exact Ry l m hf hg v v' A B c d w hR hT (by omega) (by omega)
def IQ(s t:pY):Bool:=Bg s.kT s.X t.kT t.X&&decide (s.h=t.h)&&decide (s.G=t.G)&&(s.fQ==t.fQ)&&(s.no==t.no)&&decide (s.ji=t.ji)
theorem KI(x y:Sh)(s t:pY)(w:ak)(h:Qg w w.a.j x s)(k:Qg w w.a.j y t)(J:Bool)(hJ:IQ s t=J):
 aP ah 18 #[.d x.ay,.d y.ay] w (gD w (.e J)):=by
 obtain⟨v1,⟨bA,bn,bc⟩,⟨gA,gn,gc⟩,⟨fA,fn,fc⟩,tk,nn,ct⟩:=x;obtain⟨v2,⟨bA2,bn2,bc2⟩,⟨gA2,gn2,gc2⟩,⟨fA2,fn2,fc2⟩,tk2,nn2,ct2⟩:=y;obtain rfl:v1=s.kT:=h.kT;obtain rfl:tk=s.fQ:=h.fQ;obtain rfl:nn=s.no:=h.no;obtain rfl:ct=s.ji:=h.ji;obtain rfl:v2=t.kT:=k.kT;obtain rfl:tk2=t.fQ:=k.fQ;obtain rfl:nn2=t.no:=k.no;obtain rfl:ct2=t.ji:=k.ji;obtain⟨W1,hW1⟩:=cB ((w.alloc (.D (Sh.mk s.kT ⟨bA,bn,bc⟩ ⟨gA,gn,gc⟩ ⟨fA,fn,fc⟩ s.fQ s.no s.ji).ay 37)).alloc (.D (Sh.mk t.kT ⟨bA2,bn2,bc2⟩ ⟨gA2,gn2,gc2⟩ ⟨fA2,fn2,fc2⟩ t.fQ t.no t.ji).ay 37));have HB0:=ab (show aL w.a.j w W1 by rw[hW1];exact((aG w.a.j w).alloc (av _) _).alloc (by simp) _);have B0:=ab (show dK W1 w.a.j (Sh.mk s.kT ⟨bA,bn,bc⟩ ⟨gA,gn,gc⟩ ⟨fA,fn,fc⟩ s.fQ s.no s.ji).ay by rw[hW1];exact(dK.new w _ _).alloc _);have C0:=ab (show dK W1 (w.a.j+1) (Sh.mk t.kT ⟨bA2,bn2,bc2⟩ ⟨gA2,gn2,gc2⟩ ⟨fA2,fn2,fc2⟩ t.fQ t.no t.ji).ay by rw[hW1];exact dK.Rv w _ _ _);have HS:=ab h;have HT:=ab k;obtain⟨x1,x2,x3,x4⟩:=B0.i.K;have hl0:=B0.i.lt;obtain⟨y1,y2,y3,y4⟩:=C0.i.K;have hl1:=C0.i.lt;obtain⟨K1,hK1⟩:∃K,Bg s.kT s.X t.kT t.X=K:=⟨_,rfl⟩
 obtain⟨K2,hK2⟩:∃K,decide (s.h=t.h)=K:=⟨_,rfl⟩
 obtain⟨K3,hK3⟩:∃K,decide (s.G=t.G)=K:=⟨_,rfl⟩
 have HJ:=ab (show J=(K1&&K2&&K3&&(s.fQ==t.fQ)&&(s.no==t.no)&&decide (s.ji=t.ji))by rw[<-hJ,<-hK1,<-hK2,<-hK3];rfl);have P1:=ab (ai0 s.X t.X h.pJ k.pJ s.kT t.kT bA bA2 bn bn2 bc bc2 W1 ((h.go HB0.i).b) ((k.go HB0.i).b) h.nb k.nb K1 hK1);have P2:=ab (fun W (hb:aL w.a.j w W)=>ait s.h t.h gA gA2 gn gn2 gc gc2 W (HS.i.h.go hb) (HT.i.h.go hb) (kQ HS.i.nh) (kQ HT.i.nh));have P3:=ab (fun W (hb:aL w.a.j w W)=>aiZ s.G t.G fA fA2 fn fn2 fc fc2 W (HS.i.f.go hb) (HT.i.f.go hb) (kQ HS.i.nf) (kQ HT.i.nf));rw[hK2]at P2;rw[hK3]at P3;clear h k hK1 hK2 hK3 hJ;subst hW1;go_enter Tryz.func18,Tryz.ntmps18;go_wp2_with fail
 (with_reducible refine P1.i.g ?_)
 rintro e w1 ⟨rfl,hb1⟩;have HB1:=ab (iX HB0.i hb1);have B1:=ab (B0.i.go hb1);have C1:=ab (C0.i.go hb1);clear hb1 x1 x2 x3 x4 hl0 y1 y2 y3 y4 hl1;obtain⟨x1,x2,x3,x4⟩:=B1.i.K;have hl0:=B1.i.lt;obtain⟨y1,y2,y3,y4⟩:=C1.i.K;have hl1:=C1.i.lt;cases K1
 ·go_wp2
  go_ret;exact⟨by rw[HJ.i];rfl,HB1.i⟩
 go_wp2_with fail
 (with_reducible refine(P2.i _ HB1.i).g ?_)
 rintro e w2 ⟨rfl,hb2⟩;have HB2:=ab (iX HB1.i hb2);have B2:=ab (B1.i.go hb2);have C2:=ab (C1.i.go hb2);clear hb2 x1 x2 x3 x4 hl0 y1 y2 y3 y4 hl1;obtain⟨x1,x2,x3,x4⟩:=B2.i.K;have hl0:=B2.i.lt;obtain⟨y1,y2,y3,y4⟩:=C2.i.K;have hl1:=C2.i.lt;cases K2
 ·go_wp2
  go_ret;exact⟨by rw[HJ.i];rfl,HB2.i⟩
 go_wp2_with fail
 (with_reducible refine(P3.i _ HB2.i).g ?_)
 rintro e w3 ⟨rfl,hb3⟩;have HB3:=ab (iX HB2.i hb3);have B3:=ab (B2.i.go hb3);have C3:=ab (C2.i.go hb3);clear hb3 x1 x2 x3 x4 hl0 y1 y2 y3 y4 hl1;obtain⟨x1,x2,x3,x4⟩:=B3.i.K;have hl0:=B3.i.lt;obtain⟨y1,y2,y3,y4⟩:=C3.i.K;have hl1:=C3.i.lt;cases K3
 ·go_wp2
  go_ret;exact⟨by rw[HJ.i];rfl,HB3.i⟩
 obtain⟨K4,hK4⟩:∃K,(s.fQ==t.fQ)=K:=⟨_,rfl⟩
 have HK4:=ab hK4;cases K4
 ·go_wp2
  go_ret;exact⟨by rw[HJ.i,HK4.i];rfl,HB3.i⟩
 obtain⟨K5,hK5⟩:∃K,(s.no==t.no)=K:=⟨_,rfl⟩
 have HK5:=ab hK5;cases K5
 ·go_wp2
  go_ret;exact⟨by rw[HJ.i,HK4.i,HK5.i];rfl,HB3.i⟩
 go_wp2;go_ret;exact⟨by rw[HJ.i,HK4.i,HK5.i];rfl,HB3.i⟩
theorem apy(l m:List Hl)(A B:Option aT)(n k c d:Nat)(w:ak)(hR:RdH w w.a.j A n l)(hT:RdH w w.a.j B k m)(hn:n<=4611686018427387904)(hk:k<=4611686018427387904):
 aP ah 54 #[.a A n c,.a B k d] w (gD w (.e (decide (l=m)))):=by
 have HR:=ab hR;have HT:=ab hT;have HN:=ab hR.1;have HK:=ab hT.1;clear hR hT;by_cases hlm:n=k;rotate_left
 ·have hne:((n:Int) != (k:Int))=true:=by rw[bne_iff_ne];omega
  have HF:=ab (show decide (l=m)=false from decide_eq_false (fun e=>hlm (by rw[<-HN.i,<-HK.i,e])));clear hlm;go_enter Tryz.func54,Tryz.ntmps54;go_wp2;go_ret;exact⟨by rw[HF.i];rfl,aG _ _⟩
 subst hlm;have hbn:((n:Int) != (n:Int))=false:=by simp
 go_enter Tryz.func54,Tryz.ntmps54;go_wp2;go_loopw [13] (fun s5 wr=>∃i:Nat,i<=n/\s5=.b .a i/\l.d i=m.d i/\aL w.a.j w wr) (fun s5 _=>n-(intOf s5).e)
 case atStart=>exact⟨0,by omega,rfl,rfl,aG _ _⟩
 case round=>
  obtain⟨i,hin,rfl,hall,hb⟩:=hrel;have HA:=ab hall;have HB:=ab hb;clear hall hb;by_cases hlt:i<n
  ·have hi:(i:Int)<n:=by omega
   obtain⟨b,o,rfl,hbb,hh,hc,_,_⟩:=(HR.i.O HB.i).hl hlt;obtain⟨b2,o2,rfl,Ms,hh2,hc2,_,_⟩:=(HT.i.O HB.i).hl hlt;obtain⟨x,hx⟩:=cB (l.c i kS);obtain⟨y,hy⟩:=cB (m.c i kS);rw[<-hx]at hc;rw[<-hy]at hc2;have HX:=ab hx;have HY:=ab hy;clear hx hy hbb Ms;by_cases hq:x=y
   ·have he:abV x y=true:=by rw[SC];simpa using hq
    have HS:=ab (show l.d (i+1)=m.d (i+1)by
     rw[<-lN kS l i (by rw[HN.i];exact hlt),<-lN kS m i (by rw[HK.i];exact hlt),HA.i,<-HX.i,<-HY.i,hq])
    clear hq;go_wp2;go_quiet (fail);go_wp2;go_roundw
    case rel=>exact⟨i+1,by omega,by go_num,HS.i,eH HB.i _⟩
    case measure=>simp[intOf]<;>omega
   ·have he:abV x y=false:=by rw[SC];simpa using hq
    have HF:=ab (show decide (l=m)=false from decide_eq_false (fun e=>hq (by rw[HX.i,HY.i,e])));clear hq;go_wp2;go_quiet (fail);go_wp2;go_ret;exact⟨by rw[HF.i];rfl,eH HB.i _⟩
  ·obtain rfl:i=n:=by omega
   have hd:decide ((i:Int)<i)=false:=by simp
   have HT2:=ab (show decide (l=m)=true from decide_eq_true (by
    have:=HA.i
    rwa [aK (by rw[HN.i];omega),aK (by rw[HK.i];omega)]at this))
   go_wp2;go_ret;exact⟨by rw[HT2.i];rfl,HB.i⟩
theorem apz(l m:List Fw)(A B:Option aT)(n k c d:Nat)(w:ak)(hR:iJ Fw.ay 41 w w.a.j A n l)(hT:iJ Fw.ay 41 w w.a.j B k m)(hn:n<=4611686018427387904)(hk:k<=4611686018427387904):
 aP ah 55 #[.a A n c,.a B k d] w (gD w (.e (decide (l=m)))):=by
 have HR:=ab hR;have HT:=ab hT;have HN:=ab hR.1;have HK:=ab hT.1;clear hR hT;by_cases hlm:n=k;rotate_left
 ·have hne:((n:Int) != (k:Int))=true:=by rw[bne_iff_ne];omega
  have HF:=ab (show decide (l=m)=false from decide_eq_false (fun e=>hlm (by rw[<-HN.i,<-HK.i,e])));clear hlm;go_enter Tryz.func55,Tryz.ntmps55;go_wp2;go_ret;exact⟨by rw[HF.i];rfl,aG _ _⟩
 subst hlm;have hbn:((n:Int) != (n:Int))=false:=by simp
 go_enter Tryz.func55,Tryz.ntmps55;go_wp2;go_loopw [13] (fun s5 wr=>∃i:Nat,i<=n/\s5=.b .a i/\l.d i=m.d i/\aL w.a.j w wr) (fun s5 _=>n-(intOf s5).e)
 case atStart=>exact⟨0,by omega,rfl,rfl,aG _ _⟩
 case round=>
  obtain⟨i,hin,rfl,hall,hb⟩:=hrel;have HA:=ab hall;have HB:=ab hb;clear hall hb;by_cases hlt:i<n
  ·have hi:(i:Int)<n:=by omega
   obtain⟨b,o,rfl,hbb,hh,hc⟩:=iJ.fw (HR.i.O HB.i) hlt;obtain⟨b2,o2,rfl,Ms,hh2,hc2⟩:=iJ.fw (HT.i.O HB.i) hlt;obtain⟨x,hx⟩:=cB (l.c i kD);obtain⟨y,hy⟩:=cB (m.c i kD);rw[<-hx]at hc;rw[<-hy]at hc2;have HX:=ab hx;have HY:=ab hy;clear hx hy hbb Ms;by_cases hq:x=y
   ·have he:decide (x=y)=true:=by simpa using hq
    have HS:=ab (show l.d (i+1)=m.d (i+1)by
     rw[<-lN kD l i (by rw[HN.i];exact hlt),<-lN kD m i (by rw[HK.i];exact hlt),HA.i,<-HX.i,<-HY.i,hq])
    clear hq;go_wp2;go_quiet (fail);go_wp2;go_roundw
    case rel=>exact⟨i+1,by omega,by go_num,HS.i,eH HB.i _⟩
    case measure=>simp[intOf]<;>omega
   ·have he:decide (x=y)=false:=by simpa using hq
    have HF:=ab (show decide (l=m)=false from decide_eq_false (fun e=>hq (by rw[HX.i,HY.i,e])));clear hq;go_wp2;go_quiet (fail);go_wp2;go_ret;exact⟨by rw[HF.i];rfl,eH HB.i _⟩
  ·obtain rfl:i=n:=by omega
   have hd:decide ((i:Int)<i)=false:=by simp
   have HT2:=ab (show decide (l=m)=true from decide_eq_true (by
    have:=HA.i
    rwa [aK (by rw[HN.i];omega),aK (by rw[HK.i];omega)]at this))
   go_wp2;go_ret;exact⟨by rw[HT2.i];rfl,HB.i⟩
theorem ai1(l m:List Bk)(hf:∀x∈l,x.pJ)(hg:∀x∈m,x.pJ)(v v':Int)(A B:Option aT)(n n' c d:Nat)(w:ak)(hR:iJ Bk.ay 27 w w.a.j A n l)(hT:iJ Bk.ay 27 w w.a.j B n' m)(hn:n<=4611686018427387903)(hm:n'<=4611686018427387903)(K:Bool)(hK:Bg v l v' m=K):
 aP ah 53 #[.d #[.b .a v,.a A n c],.d #[.b .a v',.a B n' d]] w (gD w (.e K)):=by
 rw[<-aiw v v' hf hg]at hK;subst hK;obtain rfl:=hR.1;obtain rfl:=hT.1;exact ZV l m v v' A B c d w hR hT (by omega) (by omega)
theorem QZ(s:pY):IQ s s=true:=by unfold IQ;simp[aeS]
theorem afz(x y:Sh)(s t:pY)(w:ak)(h:Qg w w.a.j x s)(k:Qg w w.a.j y t)(J:Bool)(hJ:IQ s t=J):
 aP ah 17 #[.d x.ay,.d y.ay] w (gD w (.e J)):=by
 obtain⟨v1,⟨bA,bn,bc⟩,⟨gA,gn,gc⟩,⟨fA,fn,fc⟩,tk,nn,ct⟩:=x;obtain⟨v2,⟨bA2,bn2,bc2⟩,⟨gA2,gn2,gc2⟩,⟨fA2,fn2,fc2⟩,tk2,nn2,ct2⟩:=y;obtain rfl:v1=s.kT:=h.kT;obtain rfl:tk=s.fQ:=h.fQ;obtain rfl:nn=s.no:=h.no;obtain rfl:ct=s.ji:=h.ji;obtain rfl:v2=t.kT:=k.kT;obtain rfl:tk2=t.fQ:=k.fQ;obtain rfl:nn2=t.no:=k.no;obtain rfl:ct2=t.ji:=k.ji;obtain⟨W1,hW1⟩:=cB ((w.alloc (.D (Sh.mk s.kT ⟨bA,bn,bc⟩ ⟨gA,gn,gc⟩ ⟨fA,fn,fc⟩ s.fQ s.no s.ji).ay 37)).alloc (.D (Sh.mk t.kT ⟨bA2,bn2,bc2⟩ ⟨gA2,gn2,gc2⟩ ⟨fA2,fn2,fc2⟩ t.fQ t.no t.ji).ay 37));have HB0:=ab (show aL w.a.j w W1 by rw[hW1];exact((aG w.a.j w).alloc (av _) _).alloc (by simp) _);have B0:=ab (show dK W1 w.a.j (Sh.mk s.kT ⟨bA,bn,bc⟩ ⟨gA,gn,gc⟩ ⟨fA,fn,fc⟩ s.fQ s.no s.ji).ay by rw[hW1];exact(dK.new w _ _).alloc _);have C0:=ab (show dK W1 (w.a.j+1) (Sh.mk t.kT ⟨bA2,bn2,bc2⟩ ⟨gA2,gn2,gc2⟩ ⟨fA2,fn2,fc2⟩ t.fQ t.no t.ji).ay by rw[hW1];exact dK.Rv w _ _ _);have HS:=ab h;have HT:=ab k;obtain⟨x1,x2,x3,x4⟩:=B0.i.K;have hl0:=B0.i.lt;obtain⟨y1,y2,y3,y4⟩:=C0.i.K;have hl1:=C0.i.lt;obtain⟨K1,hK1⟩:∃K,Bg s.kT s.X t.kT t.X=K:=⟨_,rfl⟩
 obtain⟨K2,hK2⟩:∃K,decide (s.h=t.h)=K:=⟨_,rfl⟩
 obtain⟨K3,hK3⟩:∃K,decide (s.G=t.G)=K:=⟨_,rfl⟩
 have HJ:=ab (show J=(K1&&K2&&K3&&(s.fQ==t.fQ)&&(s.no==t.no)&&decide (s.ji=t.ji))by rw[<-hJ,<-hK1,<-hK2,<-hK3];rfl);have P1:=ab (ai1 s.X t.X h.pJ k.pJ s.kT t.kT bA bA2 bn bn2 bc bc2 W1 ((h.go HB0.i).b) ((k.go HB0.i).b) h.nb k.nb K1 hK1);have P2:=ab (fun W (hb:aL w.a.j w W)=>apy s.h t.h gA gA2 gn gn2 gc gc2 W (HS.i.h.go hb) (HT.i.h.go hb) (kQ HS.i.nh) (kQ HT.i.nh));have P3:=ab (fun W (hb:aL w.a.j w W)=>apz s.G t.G fA fA2 fn fn2 fc fc2 W (HS.i.f.go hb) (HT.i.f.go hb) (kQ HS.i.nf) (kQ HT.i.nf));rw[hK2]at P2;rw[hK3]at P3;clear h k hK1 hK2 hK3 hJ;subst hW1;go_enter Tryz.func17,Tryz.ntmps17;go_wp2_with fail
 (with_reducible refine P1.i.g ?_)
 rintro e w1 ⟨rfl,hb1⟩;have HB1:=ab (iX HB0.i hb1);have B1:=ab (B0.i.go hb1);have C1:=ab (C0.i.go hb1);clear hb1 x1 x2 x3 x4 hl0 y1 y2 y3 y4 hl1;obtain⟨x1,x2,x3,x4⟩:=B1.i.K;have hl0:=B1.i.lt;obtain⟨y1,y2,y3,y4⟩:=C1.i.K;have hl1:=C1.i.lt;cases K1
 ·go_wp2
  go_ret;exact⟨by rw[HJ.i];rfl,HB1.i⟩
 go_wp2_with fail
 (with_reducible refine(P2.i _ HB1.i).g ?_)
 rintro e w2 ⟨rfl,hb2⟩;have HB2:=ab (iX HB1.i hb2);have B2:=ab (B1.i.go hb2);have C2:=ab (C1.i.go hb2);clear hb2 x1 x2 x3 x4 hl0 y1 y2 y3 y4 hl1;obtain⟨x1,x2,x3,x4⟩:=B2.i.K;have hl0:=B2.i.lt;obtain⟨y1,y2,y3,y4⟩:=C2.i.K;have hl1:=C2.i.lt;cases K2
 ·go_wp2
  go_ret;exact⟨by rw[HJ.i];rfl,HB2.i⟩
 go_wp2_with fail
 (with_reducible refine(P3.i _ HB2.i).g ?_)
 rintro e w3 ⟨rfl,hb3⟩;have HB3:=ab (iX HB2.i hb3);have B3:=ab (B2.i.go hb3);have C3:=ab (C2.i.go hb3);clear hb3 x1 x2 x3 x4 hl0 y1 y2 y3 y4 hl1;obtain⟨x1,x2,x3,x4⟩:=B3.i.K;have hl0:=B3.i.lt;obtain⟨y1,y2,y3,y4⟩:=C3.i.K;have hl1:=C3.i.lt;cases K3
 ·go_wp2
  go_ret;exact⟨by rw[HJ.i];rfl,HB3.i⟩
 obtain⟨K4,hK4⟩:∃K,(s.fQ==t.fQ)=K:=⟨_,rfl⟩
 have HK4:=ab hK4;cases K4
 ·go_wp2
  go_ret;exact⟨by rw[HJ.i,HK4.i];rfl,HB3.i⟩
 obtain⟨K5,hK5⟩:∃K,(s.no==t.no)=K:=⟨_,rfl⟩
 have HK5:=ab hK5;cases K5
 ·go_wp2
  go_ret;exact⟨by rw[HJ.i,HK4.i,HK5.i];rfl,HB3.i⟩
 go_wp2;go_ret;exact⟨by rw[HJ.i,HK4.i,HK5.i];rfl,HB3.i⟩
section
theorem apA{a b:Tu}(ha:Yz a)(hb:Yz b)(h:LW a=LW b):a=b:=by
 have h1:=al9.fwd a [] ha;have h2:=al9.fwd b [] hb;rw[h,h2]at h1;injection h1 with h3 h4
 injection h3 with h5 h6
 exact h5.symm
theorem wF{f:Fw}(h:Dz f=true):Fq f.key=true:=by
 unfold Dz at h;simp only[bl]at h;exact h.1.1.1.1.1
def lI(a b:Fw):Bool:=if a.no=b.no then bQ (LW a.key) (LW b.key)else decide (a.no<b.no)
theorem tH:Iu lI:=by
 refine⟨fun x=>by simp[lI,sG],fun x y z h1 h2=>?_⟩;unfold lI at *;by_cases e1:x.no=y.no
 ·rw[if_pos e1]at h1
  by_cases e2:y.no=z.no
  ·rw[if_pos e2]at h2
   rw[if_pos (e1.trans e2)];exact xV _ _ _ h1 h2
  ·rw[if_neg e2]at h2
   rw[if_neg (by omega)];simp only[decide_eq_true_eq]at h2 ⊢;omega
 ·rw[if_neg e1]at h1
  simp only[decide_eq_true_eq]at h1;by_cases e2:y.no=z.no
  ·rw[if_neg (by omega)]
   simp only[decide_eq_true_eq];omega
  ·rw[if_neg e2]at h2
   simp only[decide_eq_true_eq]at h2;rw[if_neg (by omega)];simp only[decide_eq_true_eq];omega
theorem Q7{a b:Fw}(ha:Yz a.key)(hb:Yz b.key)(hne:a.key≠b.key):lI a b=true\/lI b a=true:=by
 unfold lI;by_cases e:a.no=b.no
 ·rw[if_pos e,if_pos e.symm]
  cases h1:bQ (LW a.key) (LW b.key)
  ·cases h2:bQ (LW b.key) (LW a.key)
   ·exact absurd (apA ha hb (zG _ _ h1 h2)) hne
   ·exact .b rfl
  ·exact .a rfl
 ·rw[if_neg e,if_neg (jr e)]
  simp only[decide_eq_true_eq];omega
def tO(k:Tu)(x:Fw):Bool:=decide (x.key=k)
def pO(l:List Fw)(k:Tu):Option Fw:=l.find? (tO k)
def yD(l:List Fw)(k:Tu):List Fw:=l.filter fun x=>!tO k x
def DF(dU:Int)(l:List Fw)(f:Fw):List Fw:=
 if Dz f then(if(pO l f.key).isSome then ins lI f (yD l f.key)else if dU<=l.a then ins lI f l.tail else ins lI f l)else l
def Ll(now:Int)(kF:Vector Int 6)(l:List Fw):List Fw:=l.filter fun x=>!DC x.xk x.seen now kF
structure wo(dU:Int)(l:List Fw):Prop where
 asc:Asc lI l
 one:l.Pairwise fun x y=>x.key≠y.key
 Z:∀x∈l,Dz x=true
 len:(l.a:Int)<=dU
theorem wo.sub{dU:Int}{l m:List Fw}(h:wo dU l)(hs:m.Sublist l):wo dU m:=
 ⟨h.asc.sub hs,h.one.sublist hs,fun x hx=>h.Z x (hs.subset hx),by have:=hs.length_le;have:=h.len;omega⟩
theorem wo.nil{dU:Int}(h:0<=dU):wo dU []:=⟨List.Pairwise.nil,.nil,(fun x hx=>by cases hx),by simpa using h⟩
theorem xw{l:List Fw}{k:Tu}{x:Fw}(h:pO l k=some x):x∈l/\x.key=k:=by
 unfold pO at h;exact⟨List.mem_of_find?_eq_some h,by simpa[tO]using List.find?_some h⟩
theorem AO{l:List Fw}{k:Tu}(h:pO l k=none):∀x∈l,x.key≠k:=by
 unfold pO at h;rw[List.find?_eq_none]at h;intro x hx e;exact h x hx (by simp[tO,e])
theorem wo.Vr{dU:Int}{l:List Fw}(h:wo dU l){x:Fw}(hx:x∈l):pO l x.key=some x:=by
 cases hf:pO l x.key with
 | none=>exact absurd rfl (AO hf x hx)
 | some y=>
   obtain⟨h1,h2⟩:=xw hf;obtain⟨i,hi,e1⟩:=lZ.1 h1;obtain⟨j,hj,e2⟩:=lZ.1 hx;have:=List.pairwise_iff_getElem.1 h.one;rcases Nat.lt_trichotomy i j with hij|hij|hij
   ·exact absurd (by rw[e1,e2,h2]) (this i j hi hj hij)
   ·subst hij;rw[<-e1,<-e2]
   ·exact absurd (by rw[e1,e2,h2]) (this j i hj hi hij)
theorem wo.ins{dU:Int}{l:List Fw}(h:wo dU l){f:Fw}(hf:Dz f=true)(hn:∀x∈l,x.key≠f.key)(hl:(l.a:Int)+1<=dU):wo dU (ins lI f l):=by
 have p:=Bl (lt:=lI) f l;refine⟨agT tH h.asc (fun x hx=>Q7 (Nc (wF hf)) (Nc (wF (h.Z x hx))) (jr (hn x hx))),?_,?_,?_⟩
 ·refine(p.pairwise_iff (fun{a b} (hab:a.key≠b.key)=>jr hab)).2 (gN.2 ⟨fun x hx=>jr (hn x hx),h.one⟩)
 ·intro x hx
  rcases bg.1 (p.subset hx)with rfl|hx
  ·exact hf
  ·exact h.Z x hx
 ·rw[p.t,bC]
  simpa using hl
theorem aaO(l:List Fw)(k:Tu):(yD l k).Sublist l:=List.filter_sublist
theorem atH{l:List Fw}{k:Tu}:∀x∈yD l k,x.key≠k:=by
 intro x hx;have:=(mh.1 hx).2;simpa[tO]using this
theorem apB{l:List Fw}{k:Tu}(h:(pO l k).isSome=true):(yD l k).a+1<=l.a:=by
 obtain⟨x,hx⟩:=Option.isSome_iff_exists.1 h;obtain⟨h1,h2⟩:=xw hx;have:=List.length_filter_lt_length_iff_exists (l:=l) (p:=fun x=>!tO k x);exact this.2 ⟨x,h1,by simp[tO,h2]⟩
theorem wo.put{dU:Int}{l:List Fw}(h:wo dU l)(h0:1<=dU)(f:Fw):wo dU (DF dU l f):=by
 unfold DF;split
 ·rename_i hf
  split
  ·rename_i hs
   have:=apB hs;have:=h.len;exact(h.sub (aaO l f.key)).ins hf atH (by omega)
  ·rename_i hs
   have hno:∀x∈l,x.key≠f.key:=AO (by simpa using hs);split
   ·refine(h.sub (List.tail_sublist l)).ins hf (fun x hx=>hno x (List.mem_of_mem_tail hx)) ?_
    have:=h.len;rw[List.length_tail];omega
   ·exact h.ins hf hno (by omega)
 ·exact h
theorem wo.axL{dU:Int}{l:List Fw}(h:wo dU l)(now:Int)(kF:Vector Int 6):wo dU (Ll now kF l):=h.sub List.filter_sublist
structure TbR(hm:Tu->Nat)(s:List (Option Fw))(l:List Fw):Prop where
 tab:Tab Fw.key hm s
 Pf:(ig s).Perm l
variable {hm:Tu->Nat} {s:List (Option Fw)} {l:List Fw}
theorem TbR.mem(h:TbR hm s l){x:Fw}:x∈l↔∃i,i<s.a/\fI s i=some x:=(h.Pf.mem_iff.symm).trans Pb
theorem TbR.stop{dU:Int}(h:TbR hm s l)(ho:wo dU l){k:Tu}{d:Nat}(hd:Found hm Fw.key s k d):fI s ((hm k+d)%s.a)=pO l k:=by
 have hN:0<s.a:=by have:=hd.1;omega
 cases hf:pO l k with
 | none=>
   have hno:=AO hf;obtain⟨e,he,h1⟩:=h.tab.agS (k:=k) (fun j x hj hx=>hno x (h.mem.2 ⟨j,hj,hx⟩));rw[hd.GV he];exact h1
 | some x=>
   obtain⟨h1,h2⟩:=xw hf;obtain⟨j,hj,hx⟩:=h.mem.1 h1;obtain⟨e,he,h3⟩:=h.tab.aai hj hx h2;rw[hd.GV he,h3];exact hx
theorem TbR.new{N:Nat}(hN:0<N)(h:∀k,hm k<N):TbR hm (dX N none) []:=⟨Tab.new hN h,by rw[UE]⟩
theorem Vs{dU:Int}(ho:wo dU l){x:Fw}(hx:x∈l){m:List Fw}(hm':l.Perm (x::m)):m.Perm (yD l x.key):=by
 have h1:(l.filter fun y=>!tO x.key y).Perm ((x::m).filter fun y=>!tO x.key y):=hm'.filter _;have e:(x::m).filter (fun y=>!tO x.key y)=m:=by
  rw[List.filter_cons_of_neg (by simp[tO])];refine wI.2 (fun y hy=>?_);have:=(hm'.pairwise_iff (fun{a b:Fw} (hab:a.key≠b.key)=>jr hab)).1 ho.one;have:=(gN.1 this).1 y hy;simp[tO,jr this]
 rw[e]at h1;exact h1.symm
theorem TbR.put{dU:Int}(h:TbR hm s l)(ho:wo dU l){f:Fw}{d:Nat}(hd:Found hm Fw.key s f.key d)(hl:l.a+1<s.a)(m:List Fw)(hm':m.Perm (f::yD l f.key)):TbR hm (s.set ((hm f.key+d)%s.a) (some f)) m:=by
 have hN:0<s.a:=by omega
 have hj:(hm f.key+d)%s.a<s.a:=Nat.mod_lt _ hN;have hst:=h.stop ho hd;have hfull:=fun hlt=>(La s).1 hlt
 have hel:=h.Pf.t;cases hf:pO l f.key with
 | none=>
   rw[hf]at hst;have hc:yD l f.key=l:=wI.2 (fun x hx=>by have:=AO hf x hx;simp[tO,this]);have he:=K9 s _ f hj hst;obtain⟨z,hz1,hz2⟩:=(La (s.set ((hm f.key+d)%s.a) (some f))).1 (by rw[he.t];simp;omega);rw[Fy _ _ _ _ hj]at hz2;split at hz2
   ·cases hz2
   rename_i hne;refine⟨h.tab.put hd (by simpa using hz1) hz2 (jr hne),he.trans (((h.Pf.cons f)).trans ?_)⟩;rw[hc]at hm';exact hm'.symm
 | some x=>
   rw[hf]at hst;obtain⟨h1,h2⟩:=xw hf;obtain⟨z,hz1,hz2⟩:=hfull (by omega);refine⟨h.tab.put hd hz1 hz2 (fun e=>by rw[e,hst]at hz2;cases hz2),?_⟩;have e1:=yT s _ f hj;have e2:=OZ s _ x hj hst;have e3:=Vs ho h1 (h.Pf.symm.trans e2);rw[h2]at e3;exact e1.trans ((e3.cons f).trans hm'.symm)
theorem ai2{dU:Int}(h:TbR hm s l)(ho:wo dU l):(ig s).foldl (least lI) none=l.head?:=by
 cases l with
 | nil=>
   have:=h.Pf.t;rw[gL]at this;rw[List.eq_nil_of_length_eq_zero this];rfl
 | cons m t=>
   rw[List.head?_cons];refine acE tH (ig s) none (.a (h.Pf.symm.subset (by simp))) (fun x hx=>?_) (fun y hy=>by cases hy);rcases bg.1 (h.Pf.subset hx)with rfl|hx
   ·exact .a rfl
   ·exact .b (ho.asc.aoP hx)
theorem ama{dU:Int}{x:Fw}{t:List Fw}(ho:wo dU (x::t)):yD (x::t) x.key=t:=by
 unfold yD;rw[List.filter_cons_of_neg (by simp[tO])];refine wI.2 (fun y hy=>?_);have:=(gN.1 ho.one).1 y hy;simp[tO,jr this]
end
structure oO(T:bF)(n:Nat)(z:Array aB):Prop where
 row:∃d,ah.k T=some d/\d.isRow=true
 j:(ah.l T).map (·.j)=some n
 zero:(ah.l T).map (·.zero)=some (some (.d z))
 zs:z.j=n
def xI(T:bF)(v:aB):wX aB:=bZ T v
def yU(T:bF)(v x:aB):wX Unit:=eD T v x
def uH(T:bF)(ps:Array (Nat×aB)):wX aB:=fM T ps
def gT(W:ak)(b o:Nat)(c:Array aB):ak:=W.setCells b o c.a
section
variable {T:bF} {n:Nat} {z:Array aB}
theorem oO.afB(K:oO T n z):∃i,ah.l T=some i/\i.j=n/\i.zero=some (.d z):=by
 have h1:=K.j;have h2:=K.zero;cases h:ah.l T with
 | none=>rw[h]at h1;cases h1
 | some i=>rw[h]at h1 h2;simp at h1 h2;exact⟨i,rfl,h1,h2⟩
theorem oO.ld(K:oO T n z)(W:ak)(b o:Nat)(h:vw W b o n):(xI T (.c (some ⟨b,o,none⟩))).I ah W = .Z (.d (dM W b o n)) W:=by
 obtain⟨d,h1,h2⟩:=K.row;exact jV W b o n T d h1 h2 K.j h
theorem oO.stN(K:oO T n z)(W:ak)(c x:Array aB)(b:Nat)(hb:b=W.a.j)(hc:dY c=n)(hx:x.j=n)(h1:x.all (·.h)=true):(yU T (.c (some ⟨b,0,none⟩)) (.d x)).I ah (W.alloc (.D c T)) = .Z () (W.alloc (.D x T)):=by
 subst hb;exact yO W _ c x (by rw[hx];exact K.j) (by rw[hx];exact hc) h1
theorem oO.st(K:oO T n z)(W:ak)(b o:Nat)(x:Array aB)(h:W.M b o n)(hx:x.j=n)(h1:x.all (·.h)=true):(yU T (.c (some ⟨b,o,none⟩)) (.d x)).I ah W = .Z () (gT W b o x):=
 DU W b o _ x (by rw[hx];exact h) (by rw[hx];exact K.j) h1
theorem oO.bd(K:oO T n z)(W:ak)(ps:Array (Nat×aB))(cells:Array aB)(fs:Array nS)(places:Array (Nat×Nat))(hu:ah.k T=some (.d fs))
 (hp:(iy (fun f=>Prod.mk f.Y <$> sizeOf f.p) fs:wX (Array (Nat×Nat))).I ah W = .Z places W) (hf:fE (places[·]?) z ps.a=some cells):(uH T ps).I ah W = .Z (.d cells) W:=by
 obtain⟨i,h1,h2,h3⟩:=K.afB;exact OB W T fs i z ps cells places hu h1 h3 hp hf
end
theorem kZ{w W:ak}{B:Nat}(h:aL B w W)(b o:Nat)(x:Array aB)(hb:B<=b):aL B w (gT W b o x):=xL hb _ o W h
theorem lS{w W:ak}{g:Nat}(h:w.d W (some g))(o:Nat)(x:Array aB):w.d (gT W g o x) (some g):=Ug _ o W h
theorem dK.put{W:ak}{b:Nat}{c:Array aB}(h:dK W b c)(x:Array aB)(hx:x.j=c.j):dK (gT W b 0 x) b x:=h.akH x hx
theorem dK.gG{W:ak}{b b2 o:Nat}{c x:Array aB}(h:dK W b c)(hne:b≠b2):dK (gT W b2 o x) b c:=by
 have:∀(vs:List aB)(o:Nat)(W:ak),dK W b c->dK (W.setCells b2 o vs) b c:=by
  intro vs
  induction vs with
  | nil=>exact fun _ _ h=>h
  | cons v vs ih=>intro o W h;exact ih (o+1) _ (h.dN _ v (fun e=>hne e.symm))
 exact this _ _ _ h
def rF(place:Nat->Option (Nat×Nat)):Nat->List (Nat×aB)->Nat->Prop
 | off,[],n=>off=n
 | off,(i,v)::ps,n=>place i=some (off,v.D.j)/\rF place (off+v.D.j) ps n
def qP:List (Nat×aB)->Array aB
 | []=>#[]
 | (_,v)::ps=>v.D++qP ps
theorem Vt(p r v:Array aB)(h:v.j<=r.j):sw (p++r) p.j v=(p++v)++r.m v.j r.j:=by
 apply dZ;intro j;rw[DX];simp only[nV,aD,Array.getElem?_extract];split
 ·rename_i h1
  rw[if_pos (by omega),if_neg (by omega)]
 ·rename_i h1
  split
  ·rename_i h2
   rw[if_pos (by omega)]
  ·rename_i h2
   by_cases h3:j<p.j+v.j
   ·omega
   ·rw[if_neg h3]
    by_cases h4:j-p.j<r.j
    ·rw[if_pos (by omega)];congr 1;omega
    ·rw[if_neg (by omega),aU (by omega)]
theorem Tt(place:Nat->Option (Nat×Nat)):∀(ps:List (Nat×aB))(p r:Array aB),rF place p.j ps (p.j+r.j)->fE place (p++r) ps=some (p++qP ps)
 | [],p,r,h=>by
   have:r = #[]:=Array.eq_empty_of_size_eq_zero (by have h':p.j=p.j+r.j:=h;omega);subst this;simp[fE,qP]
 | (i,v)::ps,p,r,h=>by
   obtain⟨h1,h2⟩:=h;have hle:∀(ps:List (Nat×aB))(a b:Nat),rF place a ps b->a<=b:=by
    intro ps
    induction ps with
    | nil=>intro a b h;exact aX h
    | cons q ps ih=>intro a b h;have:=ih _ _ h.2;omega
   have hl:=hle _ _ _ h2;rw[DY place _ i p.j v.D.j v ps h1 rfl (by rw[nV];omega),Vt p r v.D (by omega)];have:=Tt place ps (p++v.D) (r.m v.D.j r.j) (by
    rw[nV,jG]
    rwa [show p.j+v.D.j+(min r.j r.j-v.D.j)=p.j+r.j by omega])
   rw[this,qP,fV]
theorem uQ{place:Nat->Option (Nat×Nat)}{ps:List (Nat×aB)}{z c:Array aB}{n:Nat}(hz:z.j=n)(h:rF place 0 ps n)(hc:qP ps=c):fE place z ps=some c:=by
 have:=Tt place ps #[] z (by simpa[hz]using h);simpa[hc]using this
theorem oO.bd0{T:bF}{n:Nat}{z:Array aB}(K:oO T n z)(W:ak)(fs:Array nS)(hu:ah.k T=some (.d fs))(hp:∃places,(iy (fun f=>Prod.mk f.Y <$> sizeOf f.p) fs:wX (Array (Nat×Nat))).I ah W = .Z places W):(uH T #[]).I ah W = .Z (.d z) W:=by
 obtain⟨places,hp⟩:=hp;exact K.bd W _ _ fs places hu hp (by simp[fE])
theorem pW{c:Array aB}{n:Nat}(h:c.j=n):c.m 0 n=c:=by rw[<-h];simp
theorem tQ{c:Array aB}{k m:Nat}(h:c.j<=k):c.m k m = #[]:=by apply Array.eq_empty_of_size_eq_zero;simp;omega
def Ap(v:Vector UInt8 6):Array aB:=(v.a.map bv).b
def jd(v:Vector UInt8 16):Array aB:=(v.a.map bv).b
theorem gI(v:Vector UInt8 6):(Ap v).j=6:=by simp[Ap]
theorem dL(v:Vector UInt8 16):(jd v).j=16:=by simp[jd]
theorem jJ(v:Vector Int 6):(J8 v).j=6:=by simp[J8]
theorem aaP(v:Vector UInt8 6):(Ap v).all (·.h)=true:=by simp[Ap];intro x _;rfl
theorem apC(v:Vector Int 6):(J8 v).all (·.h)=true:=by simp[J8];intro x _;rfl
@[go_sem]theorem arN:eB #[bM false,aA,aA,aA,aA,aA,aA,aA,aA,aA,aA,aA,aA,aA,aA,aA,aA] 27=eB mX.ay 27:=rfl
@[go_sem]theorem av6:bY #[bM false,aA,aA,aA,aA,aA,aA,aA,aA,aA,aA,aA,aA,aA,aA,aA,aA]=bY mX.ay:=rfl
theorem aaQ:oO 27 17 mX.ay:=⟨⟨_,fB,rfl⟩,by kernel_rfl,by kernel_rfl,fC.G _⟩
theorem kTu:oO 81 37 aeN.ay:=⟨⟨_,j3,rfl⟩,by kernel_rfl,by kernel_rfl,Tu.G _⟩
@[go_sem ↓]theorem aF6(v x:aB):eD 27 v x=yU 27 v x:=rfl
@[go_sem]theorem aAD(W:ak)(c:Array aB)(x:fC)(b:Nat)(hb:b=W.a.j)(hc:dY c=17):(yU 27 (.c (some ⟨b,0,none⟩)) (.d x.ay)).I ah (W.alloc (.D c 27)) = .Z () (W.alloc (.D x.ay 27)):=aaQ.stN W c x.ay b hb hc (fC.G x) (fC.cO x)
@[go_sem]theorem aCF(W:ak)(b o:Nat)(x:fC)(h:W.M b o 17):(yU 27 (.c (some ⟨b,o,none⟩)) (.d x.ay)).I ah W = .Z () (gT W b o x.ay):=aaQ.st W b o x.ay h (fC.G x) (fC.cO x)
@[go_sem]theorem fC.all(x:fC):x.ay.m 0 17=x.ay:=pW (fC.G x)
theorem arO(x:aB)(b:Array aB)(j:Nat):(#[x]++b)[j+1]? = b[j]?:=by simp[aD]
section
variable {T:bF} {n:Nat} {z:Array aB} {fn:Func} {p u:Tmp} {W:ak} {b:Nat} {c:Array aB}
theorem oO.yV(K:oO T n z)(h:fn.results = #[.cell p T])(tmps:Array aB)(hp:tmps.c p undef=.c (some ⟨b,0,none⟩))(hb:dK W b c)(hc:c.j=n):(results fn tmps).I ah W = .Z (.d c) W:=by
 obtain⟨t,hb⟩:=hb;obtain⟨d,h1,h2⟩:=K.row;exact results_cell_row h tmps W b t c (0,0) d hp hb h1 (by cases d<;>simp_all[TypeDesc.isRow]) (by rw[hc];exact K.j)
theorem oO.qC(K:oO T n z)(h:fn.results = #[.cell p T,.tmp u])(tmps:Array aB)(hp:tmps.c p undef=.c (some ⟨b,0,none⟩))(hb:dK W b c)(hc:c.j=n):(results fn tmps).I ah W = .Z (.J #[.d c,tmps.c u undef]) W:=by
 obtain⟨_,_,h3,h4⟩:=hb.K;have hl:=K.ld W b 0 (by rw[h3 0 n (by unfold dY;omega)];trivial);rw[h4 0 n (by unfold dY;omega),bB,<-hc,Array.extract_size]at hl;unfold xI at hl;simp only[bZ,Instr.sureAddr,Sem.run_bind,Sem.run_pure,gM]at hl;rw[results_cell_tmp h,hp];simp[asAddr,iD,hl]
end
structure Vp where
 h:fC
 aQ:Int
 mR:Int
 Vu:Bool
deriving DecidableEq
def Vp.ay(x:Vp):Array aB:=x.h.ay ++ #[.b .a x.aQ,.b .a x.mR,.e x.Vu]
theorem Vp.G(x:Vp):x.ay.j=20:=by simp[Vp.ay,fC.G]
theorem Vp.cO(x:Vp):x.ay.all (·.h)=true:=gW (fC.cO _) ((by simp[cZ]))
@[go_sem]theorem Vp.dY(x:Vp):dY x.ay=20:=Vp.G x
@[go_sem]theorem Vp.all(x:Vp):x.ay.m 0 20=x.ay:=by have:=Vp.G x;rw[<-this];simp
@[go_sem]theorem Vp.Dc(x:Vp):x.ay.m 0 17=x.h.ay:=by simp[Vp.ay,dA,fC.G,pW,tQ]
@[go_sem]theorem Vp.Bv(x:Vp):x.ay[17]? = some (.b .a x.aQ):=by simp[Vp.ay,aD,fC.G]
@[go_sem]theorem Vp.JM(x:Vp):x.ay[18]? = some (.b .a x.mR):=by simp[Vp.ay,aD,fC.G]
@[go_sem]theorem Vp.ai3(x:Vp):x.ay[19]? = some (.e x.Vu):=by simp[Vp.ay,aD,fC.G]
def oq:Vp:=⟨mX,0,0,false⟩
@[go_sem]theorem axM:bY #[bM false,aA,aA,aA,aA,aA,aA,aA,aA,aA,aA,aA,aA,aA,aA,aA,aA,bf,bf,bM false]=bY oq.ay:=rfl
@[go_sem]theorem atJ:eB #[bM false,aA,aA,aA,aA,aA,aA,aA,aA,aA,aA,aA,aA,aA,aA,aA,aA,bf,bf,bM false] 98=eB oq.ay 98:=rfl
theorem kVp:oO 98 20 oq.ay:=⟨⟨_,rW,rfl⟩,by kernel_rfl,by kernel_rfl,Vp.G _⟩
@[go_sem ↓]theorem aIz(v:aB):bZ 98 v=xI 98 v:=rfl
@[go_sem ↓]theorem aIA(v x:aB):eD 98 v x=yU 98 v x:=rfl
@[go_sem]theorem aF7(W:ak)(b o:Nat)(h:vw W b o 20):(xI 98 (.c (some ⟨b,o,none⟩))).I ah W = .Z (.d (dM W b o 20)) W:=kVp.ld W b o h
@[go_sem]theorem aCG(W:ak)(c:Array aB)(x:Vp)(b:Nat)(hb:b=W.a.j)(hc:dY c=20):(yU 98 (.c (some ⟨b,0,none⟩)) (.d x.ay)).I ah (W.alloc (.D c 98)) = .Z () (W.alloc (.D x.ay 98)):=kVp.stN W c x.ay b hb hc (Vp.G x) (Vp.cO x)
@[go_sem]theorem aF8(W:ak)(b o:Nat)(x:Vp)(h:W.M b o 20):(yU 98 (.c (some ⟨b,o,none⟩)) (.d x.ay)).I ah W = .Z () (gT W b o x.ay):=kVp.st W b o x.ay h (Vp.G x) (Vp.cO x)
@[go_sem ↓]theorem aIB(ps:Array (Nat×aB)):fM 98 ps=uH 98 ps:=rfl
theorem axN(w:ak)(fs:Array nS)(h:ah.k 98=some (.d fs)):(iy (fun f=>Prod.mk f.Y <$> sizeOf f.p) fs:wX (Array (Nat×Nat))).I ah w = .Z #[(0,17),(17,1),(18,1),(19,1)] w:=by
 have e:=rW;rw[h]at e;cases e;show _=_
 kernel_rfl
@[go_sem]theorem aCH(W:ak):(uH 98 #[]).I ah W = .Z (.d oq.ay) W:=kVp.bd0 W _ rW ⟨_,axN W _ rW⟩
structure Cn where
 qH:Option aT
 iK:Nat
 qI:Nat
 j:Int
 dU:Int
 kF:Vector Int 6
 kC:Int
 X:Int
 AJ:Vector UInt8 6
 Ck:fC
 h:fC
 afC:Int
 keep:Int
 Vv:Int
def Cn.ay(x:Cn):Array aB:=#[.a x.qH x.iK x.qI,.b .a x.j,.b .a x.dU]++(J8 x.kF++(#[.b .a x.kC,.b .a x.X]++(Ap x.AJ++(x.Ck.ay++(x.h.ay ++ #[.b .a x.afC,.b .a x.keep,.b .a x.Vv])))))
theorem Cn.G(x:Cn):x.ay.j=54:=by simp[Cn.ay,fC.G,gI,jJ]
theorem Cn.cO(x:Cn):x.ay.all (·.h)=true:=gW ((by simp[cZ])) (gW (apC _) (gW ((by simp[cZ])) (gW (aaP _) (gW (fC.cO _) (gW (fC.cO _) ((by simp[cZ])))))))
@[go_sem]theorem Cn.dY(x:Cn):dY x.ay=54:=Cn.G x
@[go_sem]theorem Cn.all(x:Cn):x.ay.m 0 54=x.ay:=by have:=Cn.G x;rw[<-this];simp
@[go_sem]theorem Cn.JN(x:Cn):x.ay[0]? = some (.a x.qH x.iK x.qI):=by simp[Cn.ay,aD,fC.G,gI,jJ]
@[go_sem]theorem Cn.FT(x:Cn):x.ay[1]? = some (.b .a x.j):=by simp[Cn.ay,aD,fC.G,gI,jJ]
@[go_sem]theorem Cn.Ng(x:Cn):x.ay[2]? = some (.b .a x.dU):=by simp[Cn.ay,aD,fC.G,gI,jJ]
@[go_sem]theorem Cn.Tv(x:Cn):x.ay.m 3 9=J8 x.kF:=by simp[Cn.ay,dA,fC.G,gI,jJ,pW,tQ]
@[go_sem]theorem Cn.Tw(x:Cn):x.ay[9]? = some (.b .a x.kC):=by simp[Cn.ay,aD,fC.G,gI,jJ]
@[go_sem]theorem Cn.Tx(x:Cn):x.ay[10]? = some (.b .a x.X):=by simp[Cn.ay,aD,fC.G,gI,jJ]
@[go_sem]theorem Cn.afD(x:Cn):x.ay.m 11 17=Ap x.AJ:=by simp[Cn.ay,dA,fC.G,gI,jJ,pW,tQ]
@[go_sem]theorem Cn.aaR(x:Cn):x.ay.m 17 34=x.Ck.ay:=by simp[Cn.ay,dA,fC.G,gI,jJ,pW,tQ]
@[go_sem]theorem Cn.afE(x:Cn):x.ay.m 34 51=x.h.ay:=by simp[Cn.ay,dA,fC.G,gI,jJ,pW,tQ]
@[go_sem]theorem Cn.aAE(x:Cn):x.ay[51]? = some (.b .a x.afC):=by simp[Cn.ay,aD,fC.G,gI,jJ]
@[go_sem]theorem Cn.aaS(x:Cn):x.ay[52]? = some (.b .a x.keep):=by simp[Cn.ay,aD,fC.G,gI,jJ]
@[go_sem]theorem Cn.axO(x:Cn):x.ay[53]? = some (.b .a x.Vv):=by simp[Cn.ay,aD,fC.G,gI,jJ]
theorem Cn.Nh(x:Cn)(A:Option aT)(n c:Nat):x.ay.b 0 (.a A n c)=({x with qH:=A,iK:=n,qI:=c}:Cn).ay:=by simp[Cn.ay,aM,fC.G,gI,jJ]
def Ql:Cn:=⟨none,0,0,0,0,(bG 6 0),0,0,(bG 6 0),mX,mX,0,0,0⟩
@[go_sem]theorem axP:bY #[bD none 0 0,bf,bf,bf,bf,bf,bf,bf,bf,bf,bf,aA,aA,aA,aA,aA,aA,bM false,aA,aA,aA,aA,aA,aA,aA,aA,aA,aA,aA,aA,aA,aA,aA,aA,bM false,aA,aA,aA,aA,aA,aA,aA,aA,aA,aA,aA,aA,aA,aA,aA,aA,bf,bf,bf]=bY Ql.ay:=rfl
@[go_sem]theorem atK:eB #[bD none 0 0,bf,bf,bf,bf,bf,bf,bf,bf,bf,bf,aA,aA,aA,aA,aA,aA,bM false,aA,aA,aA,aA,aA,aA,aA,aA,aA,aA,aA,aA,aA,aA,aA,aA,bM false,aA,aA,aA,aA,aA,aA,aA,aA,aA,aA,aA,aA,aA,aA,aA,aA,bf,bf,bf] 29=eB Ql.ay 29:=rfl
theorem Vw:oO 29 54 Ql.ay:=⟨⟨_,mW,rfl⟩,by kernel_rfl,by kernel_rfl,Cn.G _⟩
@[go_sem ↓]theorem aIC(v:aB):bZ 29 v=xI 29 v:=rfl
@[go_sem ↓]theorem aID(v x:aB):eD 29 v x=yU 29 v x:=rfl
@[go_sem]theorem aF9(W:ak)(b o:Nat)(h:vw W b o 54):(xI 29 (.c (some ⟨b,o,none⟩))).I ah W = .Z (.d (dM W b o 54)) W:=Vw.ld W b o h
@[go_sem]theorem aCI(W:ak)(c:Array aB)(x:Cn)(b:Nat)(hb:b=W.a.j)(hc:dY c=54):(yU 29 (.c (some ⟨b,0,none⟩)) (.d x.ay)).I ah (W.alloc (.D c 29)) = .Z () (W.alloc (.D x.ay 29)):=Vw.stN W c x.ay b hb hc (Cn.G x) (Cn.cO x)
@[go_sem]theorem aF'(W:ak)(b o:Nat)(x:Cn)(h:W.M b o 54):(yU 29 (.c (some ⟨b,o,none⟩)) (.d x.ay)).I ah W = .Z () (gT W b o x.ay):=Vw.st W b o x.ay h (Cn.G x) (Cn.cO x)
@[go_sem ↓]theorem aIE(ps:Array (Nat×aB)):fM 29 ps=uH 29 ps:=rfl
theorem atL(w:ak)(fs:Array nS)(h:ah.k 29=some (.d fs)):(iy (fun f=>Prod.mk f.Y <$> sizeOf f.p) fs:wX (Array (Nat×Nat))).I ah w = .Z #[(0,1),(1,1),(2,1),(3,6),(9,1),(10,1),(11,6),(17,17),(34,17),(51,1),(52,1),(53,1)] w:=by
 have e:=mW;rw[h]at e;cases e;show _=_
 kernel_rfl
@[go_sem]theorem aCJ(W:ak):(uH 29 #[]).I ah W = .Z (.d Ql.ay) W:=Vw.bd0 W _ mW ⟨_,atL W _ mW⟩
def adf(v:Vp):Bool:=qF v.h&&(v.aQ==6||v.aQ==17)&&(decide (1<=v.mR)&&decide (v.mR<=65535))
def xW(a:fC)(p q:Int)(v:Vp):Bool:=decide (v.h=a)&&v.aQ==p&&v.mR==q
def yX(l:List Vp)(a:fC)(p q:Int):Option Nat:=l.findIdx? (xW a p q)
def DI(l:List Vp)(i:Nat):Bool:=adf (l.c i oq) && !(l.d i).any (xW (l.c i oq).h (l.c i oq).aQ (l.c i oq).mR)
def yL(l:List Vp):Bool:=decide (l.a<=64)&&(dP l.a).all (DI l)
def Bw(v:Vector Int 6):Bool:=v.a.c 0 0==0&&(dP 6).all fun i=>decide (0<=v.a.c i 0)&&decide (v.a.c i 0<=1000000)
def xX(x:Cn)(l:List Vp):Bool:=Bw x.kF&&yL l&&(decide (2<=x.j)&&decide (x.j<=65537)&&lH x.j.e)&&(decide (1<=x.dU)&&decide (x.dU<=4096))&&(decide (1<=x.kC)&&decide (x.kC<=100))&&(decide (1<=x.X)&&decide (x.X<=100))
 && (!x.Ck.h&&qF x.Ck)&&x.h.h&&(decide (1000<=x.afC)&&decide (x.afC<=1048576))&&(decide (1<=x.keep)&&decide (x.keep<=100))&&(decide (1<=x.Vv)&&decide (x.Vv<=1000))
abbrev RdV:=iJ Vp.ay 20
structure Fo where
 head:Int
 dz:Int
 Oo:Int
 id:Int
 oI:Bool
 keep:Bool
 Lm:Int
 aQ:Int
 h:fC
 X:fC
def Fo.ay(x:Fo):Array aB:=#[.b .a x.head,.b .a x.dz,.b .a x.Oo,.b .a x.id,.e x.oI,.e x.keep,.b .a x.Lm,.b .a x.aQ]++(x.h.ay++x.X.ay)
theorem Fo.G(x:Fo):x.ay.j=42:=by simp[Fo.ay,fC.G]
theorem Fo.cO(x:Fo):x.ay.all (·.h)=true:=gW ((by simp[cZ])) (gW (fC.cO _) (fC.cO _))
@[go_sem]theorem Fo.dY(x:Fo):dY x.ay=42:=Fo.G x
@[go_sem]theorem Fo.JO(x:Fo):x.ay[0]? = some (.b .a x.head):=by simp[Fo.ay,aD,fC.G]
@[go_sem]theorem Fo.xY(x:Fo):x.ay[1]? = some (.b .a x.dz):=by simp[Fo.ay,aD,fC.G]
@[go_sem]theorem Fo.atM(x:Fo):x.ay[2]? = some (.b .a x.Oo):=by simp[Fo.ay,aD,fC.G]
@[go_sem]theorem Fo.axR(x:Fo):x.ay[3]? = some (.b .a x.id):=by simp[Fo.ay,aD,fC.G]
@[go_sem]theorem Fo.TD(x:Fo):x.ay[4]? = some (.e x.oI):=by simp[Fo.ay,aD,fC.G]
@[go_sem]theorem Fo.aaS(x:Fo):x.ay[5]? = some (.e x.keep):=by simp[Fo.ay,aD,fC.G]
@[go_sem]theorem Fo.atN(x:Fo):x.ay[6]? = some (.b .a x.Lm):=by simp[Fo.ay,aD,fC.G]
@[go_sem]theorem Fo.Bv(x:Fo):x.ay[7]? = some (.b .a x.aQ):=by simp[Fo.ay,aD,fC.G]
@[go_sem]theorem Fo.IU(x:Fo):x.ay.m 8 25=x.h.ay:=by simp[Fo.ay,dA,fC.G,pW,tQ]
@[go_sem]theorem Fo.IV(x:Fo):x.ay.m 25 42=x.X.ay:=by simp[Fo.ay,dA,fC.G,pW,tQ]
def wU:Fo:=⟨0,0,0,0,false,false,0,0,mX,mX⟩
@[go_sem]theorem axS:bY #[bf,bf,bf,bf,bM false,bM false,bf,bf,bM false,aA,aA,aA,aA,aA,aA,aA,aA,aA,aA,aA,aA,aA,aA,aA,aA,bM false,aA,aA,aA,aA,aA,aA,aA,aA,aA,aA,aA,aA,aA,aA,aA,aA]=bY wU.ay:=rfl
@[go_sem]theorem atO:eB #[bf,bf,bf,bf,bM false,bM false,bf,bf,bM false,aA,aA,aA,aA,aA,aA,aA,aA,aA,aA,aA,aA,aA,aA,aA,aA,bM false,aA,aA,aA,aA,aA,aA,aA,aA,aA,aA,aA,aA,aA,aA,aA,aA] 192=eB wU.ay 192:=rfl
theorem kFo:oO 192 42 wU.ay:=⟨⟨_,oV,rfl⟩,by kernel_rfl,by kernel_rfl,Fo.G _⟩
@[go_sem ↓]theorem aIF(v:aB):bZ 192 v=xI 192 v:=rfl
@[go_sem ↓]theorem aIG(v x:aB):eD 192 v x=yU 192 v x:=rfl
@[go_sem]theorem aCK(W:ak)(c:Array aB)(x:Fo)(b:Nat)(hb:b=W.a.j)(hc:dY c=42):(yU 192 (.c (some ⟨b,0,none⟩)) (.d x.ay)).I ah (W.alloc (.D c 192)) = .Z () (W.alloc (.D x.ay 192)):=kFo.stN W c x.ay b hb hc (Fo.G x) (Fo.cO x)
@[go_sem]theorem aGa(W:ak)(b o:Nat)(x:Fo)(h:W.M b o 42):(yU 192 (.c (some ⟨b,o,none⟩)) (.d x.ay)).I ah W = .Z () (gT W b o x.ay):=kFo.st W b o x.ay h (Fo.G x) (Fo.cO x)
@[go_sem ↓]theorem aIH(ps:Array (Nat×aB)):fM 192 ps=uH 192 ps:=rfl
theorem atP(w:ak)(fs:Array nS)(h:ah.k 192=some (.d fs)):(iy (fun f=>Prod.mk f.Y <$> sizeOf f.p) fs:wX (Array (Nat×Nat))).I ah w = .Z #[(0,1),(1,1),(2,1),(3,1),(4,1),(5,1),(6,1),(7,1),(8,17),(25,17)] w:=by
 have e:=oV;rw[h]at e;cases e;show _=_
 kernel_rfl
@[go_sem]theorem aCL(W:ak):(uH 192 #[]).I ah W = .Z (.d wU.ay) W:=kFo.bd0 W _ oV ⟨_,atP W _ oV⟩
@[go_sem]theorem axT(W:ak)(head:Int)(dz:Int)(Oo:Int)(id:Int)(oI:Bool)(keep:Bool)(Lm:Int)(aQ:Int)(src:fC)(dst:fC):(uH 192 #[(0,.b .a head),(1,.b .a dz),(2,.b .a Oo),(3,.b .a id),(4,.e oI),(5,.e keep),(6,.b .a Lm),(7,.b .a aQ),(8,.d (src.ay)),(9,.d (dst.ay))]).I ah W = .Z (.d (Fo.mk head dz Oo id oI keep Lm aQ src dst).ay) W:=kFo.bd W _ _ _ _ oV (atP W _ oV) (by
 refine uQ (Fo.G _) ?_ ?_
 ·simp[rF,cK,fC.G]
 ·simp[qP,cK,Fo.ay]<;>(simp only[<-fV];rfl))
structure Sx where
 head:Int
 dz:Int
 GY:Int
 oI:Bool
 GZ:Int
 aQ:Int
 h:fC
 X:fC
def Sx.ay(x:Sx):Array aB:=#[.b .a x.head,.b .a x.dz,.b .a x.GY,.e x.oI,.b .a x.GZ,.b .a x.aQ]++(x.h.ay++x.X.ay)
theorem Sx.G(x:Sx):x.ay.j=40:=by simp[Sx.ay,fC.G]
theorem Sx.cO(x:Sx):x.ay.all (·.h)=true:=gW ((by simp[cZ])) (gW (fC.cO _) (fC.cO _))
@[go_sem]theorem Sx.dY(x:Sx):dY x.ay=40:=Sx.G x
@[go_sem]theorem Sx.all(x:Sx):x.ay.m 0 40=x.ay:=by have:=Sx.G x;rw[<-this];simp
@[go_sem]theorem Sx.JO(x:Sx):x.ay[0]? = some (.b .a x.head):=by simp[Sx.ay,aD,fC.G]
@[go_sem]theorem Sx.xY(x:Sx):x.ay[1]? = some (.b .a x.dz):=by simp[Sx.ay,aD,fC.G]
@[go_sem]theorem Sx.atQ(x:Sx):x.ay[2]? = some (.b .a x.GY):=by simp[Sx.ay,aD,fC.G]
@[go_sem]theorem Sx.TD(x:Sx):x.ay[3]? = some (.e x.oI):=by simp[Sx.ay,aD,fC.G]
@[go_sem]theorem Sx.apE(x:Sx):x.ay[4]? = some (.b .a x.GZ):=by simp[Sx.ay,aD,fC.G]
@[go_sem]theorem Sx.Bv(x:Sx):x.ay[5]? = some (.b .a x.aQ):=by simp[Sx.ay,aD,fC.G]
@[go_sem]theorem Sx.IU(x:Sx):x.ay.m 6 23=x.h.ay:=by simp[Sx.ay,dA,fC.G,pW,tQ]
@[go_sem]theorem Sx.IV(x:Sx):x.ay.m 23 40=x.X.ay:=by simp[Sx.ay,dA,fC.G,pW,tQ]
theorem Sx.Ni(x:Sx)(v:Int):x.ay.b 0 (.b .a v)=({x with head:=v}:Sx).ay:=by simp[Sx.ay,aM,fC.G]
theorem Sx.amb(x:Sx)(v:Bool):x.ay.b 3 (.e v)=({x with oI:=v}:Sx).ay:=by simp[Sx.ay,aM,fC.G]
theorem Sx.amc(x:Sx)(v:Int):x.ay.b 4 (.b .a v)=({x with GZ:=v}:Sx).ay:=by simp[Sx.ay,aM,fC.G]
theorem Sx.YD(x:Sx)(v:Int):x.ay.b 5 (.b .a v)=({x with aQ:=v}:Sx).ay:=by simp[Sx.ay,aM,fC.G]
def qD:Sx:=⟨0,0,0,false,0,0,mX,mX⟩
@[go_sem]theorem axU:bY #[bf,bf,bf,bM false,bf,bf,bM false,aA,aA,aA,aA,aA,aA,aA,aA,aA,aA,aA,aA,aA,aA,aA,aA,bM false,aA,aA,aA,aA,aA,aA,aA,aA,aA,aA,aA,aA,aA,aA,aA,aA]=bY qD.ay:=rfl
@[go_sem]theorem atS:eB #[bf,bf,bf,bM false,bf,bf,bM false,aA,aA,aA,aA,aA,aA,aA,aA,aA,aA,aA,aA,aA,aA,aA,aA,bM false,aA,aA,aA,aA,aA,aA,aA,aA,aA,aA,aA,aA,aA,aA,aA,aA] 189=eB qD.ay 189:=rfl
theorem kSx:oO 189 40 qD.ay:=⟨⟨_,oW,rfl⟩,by kernel_rfl,by kernel_rfl,Sx.G _⟩
@[go_sem ↓]theorem aII(v:aB):bZ 189 v=xI 189 v:=rfl
@[go_sem ↓]theorem aIJ(v x:aB):eD 189 v x=yU 189 v x:=rfl
@[go_sem]theorem aGb(W:ak)(b o:Nat)(h:vw W b o 40):(xI 189 (.c (some ⟨b,o,none⟩))).I ah W = .Z (.d (dM W b o 40)) W:=kSx.ld W b o h
@[go_sem]theorem aCM(W:ak)(c:Array aB)(x:Sx)(b:Nat)(hb:b=W.a.j)(hc:dY c=40):(yU 189 (.c (some ⟨b,0,none⟩)) (.d x.ay)).I ah (W.alloc (.D c 189)) = .Z () (W.alloc (.D x.ay 189)):=kSx.stN W c x.ay b hb hc (Sx.G x) (Sx.cO x)
@[go_sem]theorem aGc(W:ak)(b o:Nat)(x:Sx)(h:W.M b o 40):(yU 189 (.c (some ⟨b,o,none⟩)) (.d x.ay)).I ah W = .Z () (gT W b o x.ay):=kSx.st W b o x.ay h (Sx.G x) (Sx.cO x)
@[go_sem ↓]theorem aIK(ps:Array (Nat×aB)):fM 189 ps=uH 189 ps:=rfl
theorem atT(w:ak)(fs:Array nS)(h:ah.k 189=some (.d fs)):(iy (fun f=>Prod.mk f.Y <$> sizeOf f.p) fs:wX (Array (Nat×Nat))).I ah w = .Z #[(0,1),(1,1),(2,1),(3,1),(4,1),(5,1),(6,17),(23,17)] w:=by
 have e:=oW;rw[h]at e;cases e;show _=_
 kernel_rfl
@[go_sem]theorem aCN(W:ak):(uH 189 #[]).I ah W = .Z (.d qD.ay) W:=kSx.bd0 W _ oW ⟨_,atT W _ oW⟩
structure Pt where
 kV:Int
 j6:Int
 uR:Int
 head:Int
 dz:Int
def Pt.ay(x:Pt):Array aB:=#[.b .a x.kV,.b .a x.j6,.b .a x.uR,.b .a x.head,.b .a x.dz]
theorem Pt.G(x:Pt):x.ay.j=5:=by simp[Pt.ay]
theorem Pt.cO(x:Pt):x.ay.all (·.h)=true:=by simp[Pt.ay,cZ]
@[go_sem]theorem Pt.dY(x:Pt):dY x.ay=5:=Pt.G x
@[go_sem]theorem Pt.all(x:Pt):x.ay.m 0 5=x.ay:=by have:=Pt.G x;rw[<-this];simp
@[go_sem]theorem Pt.axV(x:Pt):x.ay[0]? = some (.b .a x.kV):=by simp[Pt.ay,aD]
@[go_sem]theorem Pt.axW(x:Pt):x.ay[1]? = some (.b .a x.j6):=by simp[Pt.ay,aD]
@[go_sem]theorem Pt.Nj(x:Pt):x.ay[2]? = some (.b .a x.uR):=by simp[Pt.ay,aD]
@[go_sem]theorem Pt.JO(x:Pt):x.ay[3]? = some (.b .a x.head):=by simp[Pt.ay,aD]
@[go_sem]theorem Pt.xY(x:Pt):x.ay[4]? = some (.b .a x.dz):=by simp[Pt.ay,aD]
theorem Pt.Qm(x:Pt)(v:Int):x.ay.b 2 (.b .a v)=({x with uR:=v}:Pt).ay:=by simp[Pt.ay,aM]
theorem Pt.Ni(x:Pt)(v:Int):x.ay.b 3 (.b .a v)=({x with head:=v}:Pt).ay:=by simp[Pt.ay,aM]
theorem Pt.Qn(x:Pt)(v:Int):x.ay.b 4 (.b .a v)=({x with dz:=v}:Pt).ay:=by simp[Pt.ay,aM]
def qJ:Pt:=⟨0,0,0,0,0⟩
@[go_sem]theorem axX:bY #[bf,bf,bf,bf,bf]=bY qJ.ay:=rfl
@[go_sem]theorem atU:eB #[bf,bf,bf,bf,bf] 172=eB qJ.ay 172:=rfl
theorem TJ:oO 172 5 qJ.ay:=⟨⟨_,oZ,rfl⟩,by kernel_rfl,by kernel_rfl,Pt.G _⟩
@[go_sem ↓]theorem aIL(v:aB):bZ 172 v=xI 172 v:=rfl
@[go_sem ↓]theorem aIM(v x:aB):eD 172 v x=yU 172 v x:=rfl
@[go_sem]theorem aGd(W:ak)(b o:Nat)(h:vw W b o 5):(xI 172 (.c (some ⟨b,o,none⟩))).I ah W = .Z (.d (dM W b o 5)) W:=TJ.ld W b o h
@[go_sem]theorem aCO(W:ak)(c:Array aB)(x:Pt)(b:Nat)(hb:b=W.a.j)(hc:dY c=5):(yU 172 (.c (some ⟨b,0,none⟩)) (.d x.ay)).I ah (W.alloc (.D c 172)) = .Z () (W.alloc (.D x.ay 172)):=TJ.stN W c x.ay b hb hc (Pt.G x) (Pt.cO x)
@[go_sem]theorem aGe(W:ak)(b o:Nat)(x:Pt)(h:W.M b o 5):(yU 172 (.c (some ⟨b,o,none⟩)) (.d x.ay)).I ah W = .Z () (gT W b o x.ay):=TJ.st W b o x.ay h (Pt.G x) (Pt.cO x)
@[go_sem ↓]theorem aIN(ps:Array (Nat×aB)):fM 172 ps=uH 172 ps:=rfl
theorem atV(w:ak)(fs:Array nS)(h:ah.k 172=some (.d fs)):(iy (fun f=>Prod.mk f.Y <$> sizeOf f.p) fs:wX (Array (Nat×Nat))).I ah w = .Z #[(0,1),(1,1),(2,1),(3,1),(4,1)] w:=by
 have e:=oZ;rw[h]at e;cases e;show _=_
 kernel_rfl
@[go_sem]theorem aCP(W:ak):(uH 172 #[]).I ah W = .Z (.d qJ.ay) W:=TJ.bd0 W _ oZ ⟨_,atV W _ oZ⟩
@[go_sem]theorem axY(W:ak)(kV:Int)(j6:Int)(uR:Int)(head:Int)(dz:Int):(uH 172 #[(0,.b .a kV),(1,.b .a j6),(2,.b .a uR),(3,.b .a head),(4,.b .a dz)]).I ah W = .Z (.d (Pt.mk kV j6 uR head dz).ay) W:=TJ.bd W _ _ _ _ oZ (atV W _ oZ) (by
 refine uQ (Pt.G _) ?_ ?_
 ·simp[rF,cK]
 ·simp[qP,cK,Pt.ay]<;>(simp only[<-fV];rfl))
structure Nt where
 head:Int
 dz:Int
 aQ:Int
 oI:Bool
 h:fC
 X:fC
def Nt.ay(x:Nt):Array aB:=#[.b .a x.head,.b .a x.dz,.b .a x.aQ,.e x.oI]++(x.h.ay++x.X.ay)
theorem Nt.G(x:Nt):x.ay.j=38:=by simp[Nt.ay,fC.G]
theorem Nt.cO(x:Nt):x.ay.all (·.h)=true:=gW ((by simp[cZ])) (gW (fC.cO _) (fC.cO _))
@[go_sem]theorem Nt.dY(x:Nt):dY x.ay=38:=Nt.G x
@[go_sem]theorem Nt.JO(x:Nt):x.ay[0]? = some (.b .a x.head):=by simp[Nt.ay,aD,fC.G]
@[go_sem]theorem Nt.xY(x:Nt):x.ay[1]? = some (.b .a x.dz):=by simp[Nt.ay,aD,fC.G]
@[go_sem]theorem Nt.Bv(x:Nt):x.ay[2]? = some (.b .a x.aQ):=by simp[Nt.ay,aD,fC.G]
@[go_sem]theorem Nt.TD(x:Nt):x.ay[3]? = some (.e x.oI):=by simp[Nt.ay,aD,fC.G]
@[go_sem]theorem Nt.IU(x:Nt):x.ay.m 4 21=x.h.ay:=by simp[Nt.ay,dA,fC.G,pW,tQ]
@[go_sem]theorem Nt.IV(x:Nt):x.ay.m 21 38=x.X.ay:=by simp[Nt.ay,dA,fC.G,pW,tQ]
def aaT:Nt:=⟨0,0,0,false,mX,mX⟩
@[go_sem]theorem axZ:bY #[bf,bf,bf,bM false,bM false,aA,aA,aA,aA,aA,aA,aA,aA,aA,aA,aA,aA,aA,aA,aA,aA,bM false,aA,aA,aA,aA,aA,aA,aA,aA,aA,aA,aA,aA,aA,aA,aA,aA]=bY aaT.ay:=rfl
@[go_sem]theorem atW:eB #[bf,bf,bf,bM false,bM false,aA,aA,aA,aA,aA,aA,aA,aA,aA,aA,aA,aA,aA,aA,aA,aA,bM false,aA,aA,aA,aA,aA,aA,aA,aA,aA,aA,aA,aA,aA,aA,aA,aA] 168=eB aaT.ay 168:=rfl
theorem kNt:oO 168 38 aaT.ay:=⟨⟨_,Dp,rfl⟩,by kernel_rfl,by kernel_rfl,Nt.G _⟩
@[go_sem ↓]theorem aIO(v:aB):bZ 168 v=xI 168 v:=rfl
@[go_sem ↓]theorem aIP(v x:aB):eD 168 v x=yU 168 v x:=rfl
@[go_sem]theorem aGf(W:ak)(b o:Nat)(x:Nt)(h:W.M b o 38):(yU 168 (.c (some ⟨b,o,none⟩)) (.d x.ay)).I ah W = .Z () (gT W b o x.ay):=kNt.st W b o x.ay h (Nt.G x) (Nt.cO x)
@[go_sem ↓]theorem aIQ(ps:Array (Nat×aB)):fM 168 ps=uH 168 ps:=rfl
theorem aCQ(w:ak)(fs:Array nS)(h:ah.k 168=some (.d fs)):(iy (fun f=>Prod.mk f.Y <$> sizeOf f.p) fs:wX (Array (Nat×Nat))).I ah w = .Z #[(0,1),(1,1),(2,1),(3,1),(4,17),(21,17)] w:=by
 have e:=Dp;rw[h]at e;cases e;show _=_
 kernel_rfl
@[go_sem]theorem ax0(W:ak)(head:Int)(dz:Int)(aQ:Int)(oI:Bool)(src:fC)(dst:fC):(uH 168 #[(0,.b .a head),(1,.b .a dz),(2,.b .a aQ),(3,.e oI),(4,.d (src.ay)),(5,.d (dst.ay))]).I ah W = .Z (.d (Nt.mk head dz aQ oI src dst).ay) W:=kNt.bd W _ _ _ _ Dp (aCQ W _ Dp) (by
 refine uQ (Nt.G _) ?_ ?_
 ·simp[rF,cK,fC.G]
 ·simp[qP,cK,Nt.ay]<;>(simp only[<-fV];rfl))
structure Pk where
 kind:Int
 J:Tu
 uR:Int
 Cm:Int
 sV:Int
 FU:Int
def Pk.ay(x:Pk):Array aB:=#[.b .a x.kind]++(x.J.ay ++ #[.b .a x.uR,.b .a x.Cm,.b .a x.sV,.b .a x.FU])
theorem Pk.G(x:Pk):x.ay.j=42:=by simp[Pk.ay,Tu.G]
theorem Pk.cO(x:Pk):x.ay.all (·.h)=true:=gW ((by simp[cZ])) (gW (Tu.cO _) ((by simp[cZ])))
@[go_sem]theorem Pk.dY(x:Pk):dY x.ay=42:=Pk.G x
@[go_sem]theorem Pk.zq(x:Pk):x.ay[0]? = some (.b .a x.kind):=by simp[Pk.ay,aD,Tu.G]
@[go_sem]theorem Pk.IW(x:Pk):x.ay.m 1 38=x.J.ay:=by simp[Pk.ay,dA,Tu.G,pW,tQ]
@[go_sem]theorem Pk.Nj(x:Pk):x.ay[38]? = some (.b .a x.uR):=by simp[Pk.ay,aD,Tu.G]
@[go_sem]theorem Pk.amd(x:Pk):x.ay[39]? = some (.b .a x.Cm):=by simp[Pk.ay,aD,Tu.G]
@[go_sem]theorem Pk.ame(x:Pk):x.ay[40]? = some (.b .a x.sV):=by simp[Pk.ay,aD,Tu.G]
@[go_sem]theorem Pk.apF(x:Pk):x.ay[41]? = some (.b .a x.FU):=by simp[Pk.ay,aD,Tu.G]
def Nk:Pk:=⟨0,aeN,0,0,0,0⟩
@[go_sem]theorem ax1:bY #[bf,bM false,aA,aA,aA,aA,aA,aA,aA,aA,aA,aA,aA,aA,aA,aA,aA,aA,bM false,aA,aA,aA,aA,aA,aA,aA,aA,aA,aA,aA,aA,aA,aA,aA,aA,bf,bf,bf,bf,bf,bf,bf]=bY Nk.ay:=rfl
@[go_sem]theorem atX:eB #[bf,bM false,aA,aA,aA,aA,aA,aA,aA,aA,aA,aA,aA,aA,aA,aA,aA,aA,bM false,aA,aA,aA,aA,aA,aA,aA,aA,aA,aA,aA,aA,aA,aA,aA,aA,bf,bf,bf,bf,bf,bf,bf] 83=eB Nk.ay 83:=rfl
theorem kPk:oO 83 42 Nk.ay:=⟨⟨_,vo,rfl⟩,by kernel_rfl,by kernel_rfl,Pk.G _⟩
@[go_sem ↓]theorem aIR(v:aB):bZ 83 v=xI 83 v:=rfl
@[go_sem ↓]theorem aIS(v x:aB):eD 83 v x=yU 83 v x:=rfl
@[go_sem]theorem aCR(W:ak)(c:Array aB)(x:Pk)(b:Nat)(hb:b=W.a.j)(hc:dY c=42):(yU 83 (.c (some ⟨b,0,none⟩)) (.d x.ay)).I ah (W.alloc (.D c 83)) = .Z () (W.alloc (.D x.ay 83)):=kPk.stN W c x.ay b hb hc (Pk.G x) (Pk.cO x)
@[go_sem]theorem aGg(W:ak)(b o:Nat)(x:Pk)(h:W.M b o 42):(yU 83 (.c (some ⟨b,o,none⟩)) (.d x.ay)).I ah W = .Z () (gT W b o x.ay):=kPk.st W b o x.ay h (Pk.G x) (Pk.cO x)
@[go_sem ↓]theorem aIT(ps:Array (Nat×aB)):fM 83 ps=uH 83 ps:=rfl
theorem ax2(w:ak)(fs:Array nS)(h:ah.k 83=some (.d fs)):(iy (fun f=>Prod.mk f.Y <$> sizeOf f.p) fs:wX (Array (Nat×Nat))).I ah w = .Z #[(0,1),(1,37),(38,1),(39,1),(40,1),(41,1)] w:=by
 have e:=vo;rw[h]at e;cases e;show _=_
 kernel_rfl
structure Tn where
 head:Int
 dz:Int
 aQ:Int
 oI:Bool
 Z:Bool
def Tn.ay(x:Tn):Array aB:=#[.b .a x.head,.b .a x.dz,.b .a x.aQ,.e x.oI,.e x.Z]
theorem Tn.G(x:Tn):x.ay.j=5:=by simp[Tn.ay]
theorem Tn.cO(x:Tn):x.ay.all (·.h)=true:=by simp[Tn.ay,cZ]
@[go_sem]theorem Tn.xY(x:Tn):x.ay[1]? = some (.b .a x.dz):=by simp[Tn.ay,aD]
@[go_sem]theorem Tn.ax3(x:Tn):x.ay[4]? = some (.e x.Z):=by simp[Tn.ay,aD]
def sN:Tn:=⟨0,0,0,false,false⟩
@[go_sem]theorem ax4:bY #[aI bR 0,aI bR 0,aI bR 0,bM false,bM false]=bY sN.ay:=rfl
@[go_sem]theorem atZ:eB #[aI bR 0,aI bR 0,aI bR 0,bM false,bM false] 179=eB sN.ay 179:=rfl
theorem kTn:oO 179 5 sN.ay:=⟨⟨_,tY,rfl⟩,by kernel_rfl,by kernel_rfl,Tn.G _⟩
@[go_sem ↓]theorem aIU(v:aB):bZ 179 v=xI 179 v:=rfl
@[go_sem ↓]theorem aIV(v x:aB):eD 179 v x=yU 179 v x:=rfl
@[go_sem]theorem aGh(W:ak)(b o:Nat)(x:Tn)(h:W.M b o 5):(yU 179 (.c (some ⟨b,o,none⟩)) (.d x.ay)).I ah W = .Z () (gT W b o x.ay):=kTn.st W b o x.ay h (Tn.G x) (Tn.cO x)
@[go_sem ↓]theorem aIW(ps:Array (Nat×aB)):fM 179 ps=uH 179 ps:=rfl
theorem ax5(w:ak)(fs:Array nS)(h:ah.k 179=some (.d fs)):(iy (fun f=>Prod.mk f.Y <$> sizeOf f.p) fs:wX (Array (Nat×Nat))).I ah w = .Z #[(0,1),(1,1),(2,1),(3,1),(4,1)] w:=by
 have e:=tY;rw[h]at e;cases e;show _=_
 kernel_rfl
@[go_sem]theorem aCS(W:ak):(uH 179 #[]).I ah W = .Z (.d sN.ay) W:=kTn.bd0 W _ tY ⟨_,ax5 W _ tY⟩
@[go_sem]theorem ax6(W:ak)(head:Int)(dz:Int)(aQ:Int)(oI:Bool)(ok:Bool):(uH 179 #[(0,.b .a head),(1,.b .a dz),(2,.b .a aQ),(3,.e oI),(4,.e ok)]).I ah W = .Z (.d (Tn.mk head dz aQ oI ok).ay) W:=kTn.bd W _ _ _ _ tY (ax5 W _ tY) (by
 refine uQ (Tn.G _) ?_ ?_
 ·simp[rF,cK]
 ·simp[qP,cK,Tn.ay]<;>(simp only[<-fV];rfl))
structure Lc where
 X:Vector UInt8 6
 h:Vector UInt8 6
 Vx:Option aT
 Ep:Nat
 ahk:Nat
 ou:Int
 fI:Int
def Lc.ay(x:Lc):Array aB:=Ap x.X++(Ap x.h ++ #[.a x.Vx x.Ep x.ahk,.b .a x.ou,.b .a x.fI])
theorem Lc.G(x:Lc):x.ay.j=15:=by simp[Lc.ay,gI]
theorem Lc.cO(x:Lc):x.ay.all (·.h)=true:=gW (aaP _) (gW (aaP _) ((by simp[cZ])))
@[go_sem]theorem Lc.dY(x:Lc):dY x.ay=15:=Lc.G x
@[go_sem]theorem Lc.all(x:Lc):x.ay.m 0 15=x.ay:=by have:=Lc.G x;rw[<-this];simp
@[go_sem]theorem Lc.IV(x:Lc):x.ay.m 0 6=Ap x.X:=by simp[Lc.ay,dA,gI,pW,tQ]
@[go_sem]theorem Lc.IU(x:Lc):x.ay.m 6 12=Ap x.h:=by simp[Lc.ay,dA,gI,pW,tQ]
@[go_sem]theorem Lc.aaU(x:Lc):x.ay[12]? = some (.a x.Vx x.Ep x.ahk):=by simp[Lc.ay,aD,gI]
@[go_sem]theorem Lc.DJ(x:Lc):x.ay[13]? = some (.b .a x.ou):=by simp[Lc.ay,aD,gI]
@[go_sem]theorem Lc.Lp(x:Lc):x.ay[14]? = some (.b .a x.fI):=by simp[Lc.ay,aD,gI]
theorem Lc.amf(x:Lc)(A:Option aT)(n c:Nat):x.ay.b 12 (.a A n c)=({x with Vx:=A,Ep:=n,ahk:=c}:Lc).ay:=by simp[Lc.ay,aM,gI]
theorem Lc.TL(x:Lc)(v:Int):x.ay.b 13 (.b .a v)=({x with ou:=v}:Lc).ay:=by simp[Lc.ay,aM,gI]
theorem Lc.apH(x:Lc)(v:Int):x.ay.b 14 (.b .a v)=({x with fI:=v}:Lc).ay:=by simp[Lc.ay,aM,gI]
def qK:Lc:=⟨(bG 6 0),(bG 6 0),none,0,0,0,0⟩
@[go_sem]theorem ax7:bY #[aA,aA,aA,aA,aA,aA,aA,aA,aA,aA,aA,aA,bD none 0 0,bf,bf]=bY qK.ay:=rfl
@[go_sem]theorem at1:eB #[aA,aA,aA,aA,aA,aA,aA,aA,aA,aA,aA,aA,bD none 0 0,bf,bf] 108=eB qK.ay 108:=rfl
theorem kLc:oO 108 15 qK.ay:=⟨⟨_,tZ,rfl⟩,by kernel_rfl,by kernel_rfl,Lc.G _⟩
@[go_sem ↓]theorem aIX(v:aB):bZ 108 v=xI 108 v:=rfl
@[go_sem ↓]theorem aIY(v x:aB):eD 108 v x=yU 108 v x:=rfl
@[go_sem]theorem aGi(W:ak)(b o:Nat)(h:vw W b o 15):(xI 108 (.c (some ⟨b,o,none⟩))).I ah W = .Z (.d (dM W b o 15)) W:=kLc.ld W b o h
@[go_sem]theorem aCT(W:ak)(c:Array aB)(x:Lc)(b:Nat)(hb:b=W.a.j)(hc:dY c=15):(yU 108 (.c (some ⟨b,0,none⟩)) (.d x.ay)).I ah (W.alloc (.D c 108)) = .Z () (W.alloc (.D x.ay 108)):=kLc.stN W c x.ay b hb hc (Lc.G x) (Lc.cO x)
@[go_sem]theorem aGj(W:ak)(b o:Nat)(x:Lc)(h:W.M b o 15):(yU 108 (.c (some ⟨b,o,none⟩)) (.d x.ay)).I ah W = .Z () (gT W b o x.ay):=kLc.st W b o x.ay h (Lc.G x) (Lc.cO x)
@[go_sem ↓]theorem aIZ(ps:Array (Nat×aB)):fM 108 ps=uH 108 ps:=rfl
theorem ax8(w:ak)(fs:Array nS)(h:ah.k 108=some (.d fs)):(iy (fun f=>Prod.mk f.Y <$> sizeOf f.p) fs:wX (Array (Nat×Nat))).I ah w = .Z #[(0,6),(6,6),(12,1),(13,1),(14,1)] w:=by
 have e:=tZ;rw[h]at e;cases e;show _=_
 kernel_rfl
@[go_sem]theorem aCU(W:ak):(uH 108 #[]).I ah W = .Z (.d qK.ay) W:=kLc.bd0 W _ tZ ⟨_,ax8 W _ tZ⟩
structure Tg where
 ou:Int
 tci:Int
def Tg.ay(x:Tg):Array aB:=#[.b .a x.ou,.b .a x.tci]
theorem Tg.G(x:Tg):x.ay.j=2:=by simp[Tg.ay]
theorem Tg.cO(x:Tg):x.ay.all (·.h)=true:=by simp[Tg.ay,cZ]
@[go_sem]theorem Tg.DJ(x:Tg):x.ay[0]? = some (.b .a x.ou):=by simp[Tg.ay,aD]
@[go_sem]theorem Tg.amg(x:Tg):x.ay[1]? = some (.b .a x.tci):=by simp[Tg.ay,aD]
def Sk:Tg:=⟨0,0⟩
@[go_sem]theorem ax9:bY #[aI bR 0,aI bR 0]=bY Sk.ay:=rfl
@[go_sem]theorem at5:eB #[aI bR 0,aI bR 0] 268=eB Sk.ay 268:=rfl
theorem kTg:oO 268 2 Sk.ay:=⟨⟨_,Dq,rfl⟩,by kernel_rfl,by kernel_rfl,Tg.G _⟩
@[go_sem ↓]theorem aI0(v:aB):bZ 268 v=xI 268 v:=rfl
@[go_sem ↓]theorem aI1(v x:aB):eD 268 v x=yU 268 v x:=rfl
@[go_sem]theorem aGk(W:ak)(b o:Nat)(h:vw W b o 2):(xI 268 (.c (some ⟨b,o,none⟩))).I ah W = .Z (.d (dM W b o 2)) W:=kTg.ld W b o h
@[go_sem]theorem aCV(W:ak)(c:Array aB)(x:Tg)(b:Nat)(hb:b=W.a.j)(hc:dY c=2):(yU 268 (.c (some ⟨b,0,none⟩)) (.d x.ay)).I ah (W.alloc (.D c 268)) = .Z () (W.alloc (.D x.ay 268)):=kTg.stN W c x.ay b hb hc (Tg.G x) (Tg.cO x)
@[go_sem ↓]theorem aI2(ps:Array (Nat×aB)):fM 268 ps=uH 268 ps:=rfl
theorem aCW(w:ak)(fs:Array nS)(h:ah.k 268=some (.d fs)):(iy (fun f=>Prod.mk f.Y <$> sizeOf f.p) fs:wX (Array (Nat×Nat))).I ah w = .Z #[(0,1),(1,1)] w:=by
 have e:=Dq;rw[h]at e;cases e;show _=_
 kernel_rfl
@[go_sem]theorem aya(W:ak)(ou:Int)(tci:Int):(uH 268 #[(0,.b .a ou),(1,.b .a tci)]).I ah W = .Z (.d (Tg.mk ou tci).ay) W:=kTg.bd W _ _ _ _ Dq (aCW W _ Dq) (by
 refine uQ (Tg.G _) ?_ ?_
 ·simp[rF,cK]
 ·simp[qP,cK,Tg.ay]<;>(simp only[<-fV];rfl))
def eZ(l:List UInt8)(k:Nat):Nat:=256*(l.c k 0).e+(l.c (k+1) 0).e
theorem vE(l:List UInt8)(k:Nat):eZ l k<=65535:=by
 have h1:=(l.c k 0).a;have h2:=(l.c (k+1) 0).a;unfold eZ;omega
theorem IX(l:List UInt8)(k:Nat)(h:k+1<l.a):oG (((l.f k).d 2).d 8)=eZ l k:=by
 rw[UJ l k h];simp[oG,eZ];omega
theorem jS(n:Int)(h : -9223372036854775808<=n/\n<=9223372036854775807):bR.wrap n=n:=by simp[vI,nP,lT];omega
section
variable (W:ak) (A:Option aT) (n c B:Nat) (l:List UInt8) (k:Nat)
theorem ai5(hk:k+1<n)(hnc:n<=c)(hc:c<=9223372036854775807)(hr:fU W W.a.j A n l):aP ah 246 #[.a A n c,.b .a k] W (gD W (.b .a (eZ l k:Nat))):=by
 have hl:=hr.len;have h0:=ab (vE l k);have h1:(k:Int)+2<=c:=by omega
 have h2:(k:Int)<=(k:Int)+2:=by omega
 have P:=hr.QX (z:=k) (b:=k+2) (c:=c) (by omega) (by omega) (by omega);rw[jN,if_neg (by omega)]at P;have C:=ab (Md _ 2 (c-k) _ W (by omega) (by omega) P);rw[IX l k (by omega)]at C;have h3:wrap64 (eZ l k:Nat)=(eZ l k:Nat):=by have:=h0.i;unfold wrap64;omega
 generalize eZ l k=x at *;clear P hr;go_enter Tryz.func246,Tryz.ntmps246;go_wp2_with (go_at_call 180;with_reducible refine C.i.g ?_;rintro e w' ⟨rfl,hb⟩);go_ret;exact⟨congrArg (fun z=>tX (.b .a z)) h3,hb⟩
theorem aaW(i:Int)(hi:i=k)(hk:k+1<n)(hnc:n<=c)(hc:c<=9223372036854775807)(hr:fU W W.a.j A n l):aP ah 246 #[.a A n c,.b .a i] W (gD W (.b .a (eZ l k:Nat))):=by subst hi;exact ai5 W A n c l k hk hnc hc hr
theorem amh(hk:k+1<n)(hnc:n<=c)(hc:c<=9223372036854775807)(hr:fU W W.a.j A n l):aP ah 249 #[.a A n c,.b .a k] W (gD W (.b .a (eZ l k:Nat))):=by
 have hl:=hr.len;have h0:=ab (vE l k);have h1:(k:Int)+2<=c:=by omega
 have h2:(k:Int)<=(k:Int)+2:=by omega
 have P:=hr.QX (z:=k) (b:=k+2) (c:=c) (by omega) (by omega) (by omega);rw[jN,if_neg (by omega)]at P;have C:=ab (Md _ 2 (c-k) _ W (by omega) (by omega) P);rw[IX l k (by omega)]at C;have h3:wrap64 (eZ l k:Nat)=(eZ l k:Nat):=by have:=h0.i;unfold wrap64;omega
 generalize eZ l k=x at *;clear P hr;go_enter Tryz.func249,Tryz.ntmps249;go_wp2_with (go_at_call 180;with_reducible refine C.i.g ?_;rintro e w' ⟨rfl,hb⟩);go_ret;exact⟨congrArg (fun z=>tX (.b .a z)) h3,hb⟩
theorem ami(i:Int)(hi:i=k)(hk:k+1<n)(hnc:n<=c)(hc:c<=9223372036854775807)(hr:fU W W.a.j A n l):aP ah 249 #[.a A n c,.b .a i] W (gD W (.b .a (eZ l k:Nat))):=by subst hi;exact amh W A n c l k hk hnc hc hr
theorem ai6(hk:k+1<n)(hnc:n<=c)(hc:c<=9223372036854775807)(hr:fU W W.a.j A n l):aP ah 177 #[.a A n c,.b .a k] W (gD W (.b .a (eZ l k:Nat))):=by
 have hl:=hr.len;have h0:=ab (vE l k);have h1:(k:Int)+2<=c:=by omega
 have h2:(k:Int)<=(k:Int)+2:=by omega
 have P:=hr.QX (z:=k) (b:=k+2) (c:=c) (by omega) (by omega) (by omega);rw[jN,if_neg (by omega)]at P;have C:=ab (Md _ 2 (c-k) _ W (by omega) (by omega) P);rw[IX l k (by omega)]at C;have h3:wrap64 (eZ l k:Nat)=(eZ l k:Nat):=by have:=h0.i;unfold wrap64;omega
 generalize eZ l k=x at *;clear P hr;go_enter Tryz.func177,Tryz.ntmps177;go_wp2_with (go_at_call 180;with_reducible refine C.i.g ?_;rintro e w' ⟨rfl,hb⟩);go_ret;exact⟨congrArg (fun z=>tX (.b .a z)) h3,hb⟩
theorem Nl(i:Int)(hi:i=k)(hk:k+1<n)(hnc:n<=c)(hc:c<=9223372036854775807)(hr:fU W W.a.j A n l):aP ah 177 #[.a A n c,.b .a i] W (gD W (.b .a (eZ l k:Nat))):=by subst hi;exact ai6 W A n c l k hk hnc hc hr
theorem afF(hk:k+1<n)(hnn:n<=1000000000)(hr:fU W B A n l):aP ah 299 #[.a A n c,.b .a k] W fun e W'=>e=.a (.b .a (eZ l k:Nat))/\∃q,W'=W.drewN q:=by
 obtain⟨a,rfl,_,h1⟩:=hr.fI (show k<n by omega);obtain⟨a',e,_,h2⟩:=hr.fI hk;injection e with e
 subst e;have h3:=h2;unfold qy at h3;rw[if_neg (by omega)]at h3;have H:=ab (show eZ l k=256*(l.c k 0).e+(l.c (k+1) 0).e from rfl);have b1:=(l.c k 0).a;have b2:=(l.c (k+1) 0).a;unfold bv at h1 h2 h3;generalize(l.c k 0).e=x at *;generalize(l.c (k+1) 0).e=y at *;have hk1:(k:Int)<n:=by omega
 have hk2:(k:Int)+1<n:=by omega
 have hk3:(0:Int)<=(k:Int)+1:=by omega
 have w1:=jS ((k:Int)+1) (by omega);have w2:=jS (x:Int) (by omega);have w3:=jS (y:Int) (by omega);have w4:=jS (256*(x:Int)) (by omega);have w5:=jS (256*(x:Int)+y) (by omega);clear hr;go_enter Tryz.func299,Tryz.ntmps299;go_wp2_with fail;go_quiet (fail);go_wp2;go_ret;exact⟨by rw[H.i];rfl,_,rfl⟩
theorem IY(hk:2<=n)(hnc:n<=c)(hc:c<=9223372036854775807)(hr:fU W W.a.j A n l):aP ah 173 #[.a A n c] W (gD W (.b .a (eZ l 0:Nat))):=by
 have hl:=hr.len;have h0:=ab (vE l 0);have h1:(2:Int)<=c:=by omega
 have P:fU W W.a.j A 2 (l.d 2):=by
  have:=Rd.upto hr (k:=2) (by omega);rw[gH,<-Ad]at this;exact this
 have C:=ab (Md _ 2 c _ W (by omega) (by omega) P);rw[show oG ((l.d 2).d 8)=eZ l 0 from IX l 0 (by omega)]at C;have h3:wrap64 (eZ l 0:Nat)=(eZ l 0:Nat):=by have:=h0.i;unfold wrap64;omega
 generalize eZ l 0=x at *;clear P hr;go_enter Tryz.func173,Tryz.ntmps173;go_wp2_with (go_at_call 180;with_reducible refine C.i.g ?_;rintro e w' ⟨rfl,hb⟩);go_ret;exact⟨congrArg (fun z=>tX (.b .a z)) h3,hb⟩
def tT(n:Int):Bool:=decide (n=33024\/n=34984)
theorem aaX(n:Int):aP ah 174 #[.b .a n] W fun e W'=>e=.a (.e (tT n))/\W=W':=by
 go_enter Tryz.func174,Tryz.ntmps174;go_wp2
 all_goals(go_ret;refine⟨?_,rfl⟩;(by_cases h1:n=33024<;>by_cases h2:n=34984<;>simp_all[tT]))
end
structure Lk where
 X:Vector UInt8 6
 h:Vector UInt8 6
 fK:List Tg
 ou:Int
 fI:Nat
def Er:Lk:=⟨bG 6 0,bG 6 0,[],0,0⟩
def Co(l:List UInt8):Nat->Nat->List Tg->Lk×Int
 | m,k,fK=>if tT (eZ l (k-2))then(match m with
  | 0=>(Er,4)
  | m+1=>if l.a<k+4 then(Er,2)else Co l m (k+4) (fK++[⟨eZ l (k-2),eZ l k⟩]))
   else(⟨qd 6 l,qd 6 (l.f 6),fK,eZ l (k-2),k⟩,0)
theorem zH{l:List UInt8}{m k:Nat}{fK:List Tg}(h:tT (eZ l (k-2):Nat)=false):Co l m k fK=(⟨qd 6 l,qd 6 (l.f 6),fK,eZ l (k-2),k⟩,0):=by cases m<;>simp[Co,h]
theorem JQ{l:List UInt8}{k:Nat}{fK:List Tg}(h:tT (eZ l (k-2):Nat)=true):Co l 0 k fK=(Er,4):=by simp[Co,h]
theorem By{l:List UInt8}{m k:Nat}{fK:List Tg}(h:tT (eZ l (k-2):Nat)=true)(h2:l.a<k+4):Co l (m+1) k fK=(Er,2):=by simp[Co,h,h2]
theorem Es{l:List UInt8}{m k:Nat}{fK:List Tg}(h:tT (eZ l (k-2):Nat)=true)(h2:¬l.a<k+4):Co l (m+1) k fK=Co l m (k+4) (fK++[⟨(eZ l (k-2):Nat),(eZ l k:Nat)⟩]):=by simp[Co,h,h2]
def mq(l:List UInt8):Lk×Int:=if l.a<14 then(Er,2)else Co l 2 14 []
def Lk.cell(x:Lk)(A:Option aT)(c:Nat):Lc:=⟨x.X,x.h,A,x.fK.a,c,x.ou,x.fI⟩
def LkP(W:ak)(r:Lk×Int)(e:lq)(W':ak):Prop:=∃A c,e=.a (.J #[.d (r.1.cell A c).ay,.b .a r.2])/\iJ Tg.ay 2 W' W'.a.j A r.1.fK.a r.1.fK/\aL W.a.j W W'
theorem FV{q r v:Array aB}(h:v.j=q.j):sw (q++r) 0 v=v++r:=by
 have:=Vt #[] (q++r) v (by simp;omega);simp only[Array.empty_append,Array.size_empty]at this;rw[this,h];simp[dA,tQ]
theorem qL{p q r v:Array aB}(h:v.j=q.j)(k:Nat)(hk:p.j=k):sw (p++(q++r)) k v=p++(v++r):=by
 subst hk;rw[Vt p (q++r) v (by simp;omega),h,fV];simp[dA,tQ]
theorem dK.setCells{W:ak}{b:Nat}{c:Array aB}(h:dK W b c)(o:Nat)(vs:List aB):dK (W.setCells b o vs) b (sw c o vs.b):=by
 obtain⟨t,h⟩:=h;exact⟨t,Uh b t vs o c W h⟩
theorem Lc.aaY(x:Lc)(v:Vector UInt8 6):sw x.ay 0 (Ap v)=({x with X:=v}:Lc).ay:=by
 unfold Lc.ay;exact FV (by rw[gI,gI])
theorem Lc.aaZ(x:Lc)(v:Vector UInt8 6):sw x.ay 6 (Ap v)=({x with h:=v}:Lc).ay:=by
 unfold Lc.ay;exact qL (by rw[gI,gI]) 6 (gI _)
theorem Et{P:eG}(W:ak){B y o m n c d:Nat}{A:Option aT}{l:List UInt8}(hR:fU W B A n l)(hm:m<=n)(hm0:0<m)(hth:W.M y o m)(T ty e:bF)(hu:P.k T=some (.a e))(hs:(P.l e).map (·.j)=some 1):
 (qA #[T,T] ty #[.a (some ⟨y,o,none⟩) m d,.a A n c]).I P W = .Z (goInt m) (W.setCells y o ((l.d m).map bv)):=by
 have hn:=hR.len;obtain⟨a,rfl,_,hc⟩:=hR.2 (by omega);have hl:((l.d m).map bv).a=m:=by simp;omega
 have:=run_copy_cells (P:=P) W T T ty e y o m d a n c ((l.d m).map bv) hu hs (by rw[hl];exact(Nat.min_eq_right hm).symm) (fun j v hj=>hc j v (by
  have hj2:j<m:=by
   rcases aY j m with h|h
   ·exact h
   ·rw[aS (by rw[hl];exact h)]at hj;cases hj
  rw[jk,gY hj2,<-jk]at hj;exact hj)) (fun j hj=>(hth j (by rw[hl]at hj;exact hj)).1) (fun j hj=>(hth j (by rw[hl]at hj;exact hj)).2) (EZ _)
 rw[hl]at this;exact this
theorem Nn(k:Nat)(l:List UInt8)(h:k<=l.a):(l.d k).map bv=(qd k l).a.map bv:=by
 congr 1;apply iL;intro j;rcases aY j k with hj|hj
 ·rw[gY hj]
  simp[qd,hj,au,aC (show j<l.a by omega)]
 ·rw[aS (by simp;omega),aS (by simpa using hj)]
theorem apI:aaN 106 268 Tg.ay 2:=by
 obtain⟨i,h1,h2,h3⟩:=kTg.afB;have h4:(ah.l 268).map (fun i=>decide (i.bytes<=1000))=some true:=by kernel_rfl
 rw[h1]at h4;simp at h4;exact⟨i,_,Tryz.underlying106,h1,h3,h2,Tg.G _,by omega,h4,Tg.G,Tg.cO⟩
def arP(n:Nat)(ps:Array (Nat×aB)):wX aB:=bJ 106 n ps
@[go_sem ↓]theorem ayb(n:Nat)(ps:Array (Nat×aB)):bJ 106 n ps=arP n ps:=rfl
@[go_sem]theorem av7(w:ak)(x:Tg):(arP 1 #[(0,.d x.ay)]).I ah w = .Z (.a (some ⟨w.a.j,0,none⟩) 1 1) (w.alloc (.D x.ay 268)):=by
 obtain⟨i,h1,h2,h3⟩:=kTg.afB;exact rP w _ _ i (.d Sk.ay) 2 Tryz.underlying106 h1 h3 h2 (Tg.G _) (by omega) (by omega) x.ay (Tg.G x)
section
variable {α:Type} {f:α->Array aB} {sz:Nat} {e:bF} {L:List (Nat×Array aB)} {w0 W:ak} {v:aB} {l:List α} {q:Nat} {c:Array aB}
theorem Rz.amj(h:Rz f sz e ((q,c)::L) w0 W v l)(hq:w0.a.j<=q)(hL:∀p∈L,p.1≠q)(j:Nat)(u:aB):Rz f sz e ((q,c.b j u)::L) w0 (W.F ⟨q,j,none⟩ u) v l:=
 ⟨Uf h.vB (h.G (q,c) (by simp)).2 u,h.R.F hq u,fun p hp=>by
  rcases bg.1 hp with rfl|hp
  ·exact⟨h.S.eF j u,(h.G (q,c) (by simp)).2⟩
  ·obtain⟨h1,h2⟩:=h.G p (by simp[hp]);exact⟨h1.dN _ u (fun e=>hL p hp e.symm),h2⟩⟩
theorem aa0{base size n:Nat}{xs:List aB}(vs:List aB):∀(o:Nat)(W:ak),W.c base e size v n xs->v.f≠some q->(W.setCells q o vs).c base e size v n xs:=by
 induction vs with
 | nil=>exact fun _ _ h _=>h
 | cons u vs ih=>intro o W h hq;exact ih (o+1) _ (Uf h hq u) hq
theorem Rz.at6(h:Rz f sz e ((q,c)::L) w0 W v l)(hq:w0.a.j<=q)(hL:∀p∈L,p.1≠q)(o:Nat)(x:Array aB):Rz f sz e ((q,sw c o x)::L) w0 (gT W q o x) v l:=
 ⟨aa0 _ _ _ h.vB (h.G (q,c) (by simp)).2,kZ h.R q o x hq,fun p hp=>by
  rcases bg.1 hp with rfl|hp
  ·exact⟨by have:=h.S.setCells o x.a;simpa[gT]using this,(h.G (q,c) (by simp)).2⟩
  ·obtain⟨h1,h2⟩:=h.G p (by simp[hp]);exact⟨h1.gG (hL p hp),h2⟩⟩
theorem Rz.swap{p1 p2:Nat×Array aB}(h:Rz f sz e (p1::p2::L) w0 W v l):Rz f sz e (p2::p1::L) w0 W v l:=
 ⟨h.vB,h.R,fun p hp=>h.G p (by simp at hp⊢;rcases hp with h|h|h<;>simp[h])⟩
end
theorem Rz.ans{α:Type}{f:α->Array aB}{sz:Nat}{e:bF}{w0 W:ak}{v:aB}{l:List α}{q r:Nat}{c d x:Array aB}(h:Rz f sz e [(q,c),(r,d)] w0 W v l)(hr:w0.a.j<=r)(hne:r≠q)(hx:x.j=d.j):Rz f sz e [(r,x),(q,c)] w0 (gT W r 0 x) v l:=by
 have h1:=h.swap.at6 hr (fun p hp=>by rw[fG.1 hp];exact fun e=>hne e.symm) 0 x;refine⟨h1.vB,h1.R,fun p hp=>?_⟩;rcases bg.1 hp with rfl|hp
 ·exact⟨h.b1.put x hx,(h.G (r,d) (by simp)).2⟩
 ·exact h1.G p (by simp[hp])
theorem at7{ops:Array iZ}{o:iZ}{a:qR}{W:ak}{K:qR->ak->Prop}{Q:zO->qR->ak->Prop}{E:Prop}(hgd:o.guard=none)(h:ni ah o a W K Q):if fF o (yielded ops a.tmps)=true then ni ah o a W K Q else E:=by
 have hw:fF o (yielded ops a.tmps)=true:=by simp[fF,hgd]
 rw[if_pos hw];exact h
theorem aua{α:Type}{f:α->Array aB}{sz:Nat}{e t:bF}{L:List (Nat×Array aB)}{w0 W:ak}{l ys:List α}(T:aaN t e f sz){ops:Array iZ}{o:iZ}{a:qR}{K:qR->ak->Prop}{Q:zO->qR->ak->Prop}{E:Prop}(hgd:o.guard=none)(s x:pG)
 (ho:o.op=.call {callee:=.builtin .append,args:=#[s,x],argTypes:=#[t,t]}) (v:aB) (A:Option aT) (m c:Nat) (hs:a.eval s=v) (H:Rz f sz e L w0 W v l) {C:Nat} (hx:a.eval x=.a A m c) (hr:iJ f sz W C A m ys)
 (hlen:l.a+m<=1000000)
 (h:∀A' n' c' w',Rz f sz e L w0 w' (.a A' n' c') (l++ys)->W.d w' v.f->K (a.put o.X (.a A' n' c')) w'):if fF o (yielded ops a.tmps)=true then ni ah o a W K Q else E:=
 apu T hgd s x ho hs H hx hr hlen h
@[go_sem]theorem ayc(W:ak)(t k:Int):(uH 108 #[(3,.b .a t),(4,.b .a k)]).I ah W = .Z (.d (Lc.mk (bG 6 0) (bG 6 0) none 0 0 t k).ay) W:=
 kLc.bd W _ _ _ _ tZ (ax8 W _ tZ) rfl
def nM(l:List UInt8)(k:Nat):Nat:=(l.c k 0).e
theorem uS(l:List UInt8)(k:Nat):nM l k<256:=(l.c k 0).a
def IZ(l:List UInt8):fC:=⟨false,qd 16 (l.d 4)⟩
def Lr(l:List UInt8):Nat:=nM l 0%16*4
def Qo(l:List UInt8):Fo:=⟨Lr l,eZ l 2,nM l 1,eZ l 4,decide (eZ l 6%16384≠0),decide (eZ l 6/16384%2=1),nM l 8,nM l 9,IZ (l.f 12),IZ (l.f 16)⟩
def Df(l:List UInt8):Int:=
 if l.a<20 then 2 else if nM l 0/16≠4\/Lr l<20 then 3 else if l.a<Lr l then 2 else if eZ l 2<Lr l then 3
 else if l.a<eZ l 2 then 2 else if wP (l.d (Lr l))≠0 then 8 else 0
def zR(l:List UInt8):Fo×Int:=if Df l=0 then(Qo l,0)else(wU,Df l)
theorem fC.I4(a:fC):a.ay = #[.e a.h]++jd a.b:=by simp[fC.ay,jd]
section
variable (W:ak) (A:Option aT) (n c B:Nat) (l:List UInt8)
theorem aCY(l:List UInt8)(h:4<=l.a):sw mX.ay 1 ((l.d 4).map bv).b=(IZ l).ay:=by
 apply dZ;intro j;rw[DX,fC.I4,fC.I4];rcases j with _|j
 ·simp[mX,IZ,aD]
 ·rw[arO,arO]
  have hs:((l.d 4).map bv).b.j=4:=by simp;omega
  rw[hs,nV,dL];have hb:∀v:Vector UInt8 16,∀k,k<16->(jd v)[k]? = some (bv (v.a.c k 0)):=by
   intro v k hk;simp[jd,au,hk]
  rcases(show j<4\/(4<=j/\j<16)\/16<=j by omega)with h|⟨h,h'⟩|h
  ·rw[if_pos ⟨by omega,by omega,by simp;omega⟩,hb _ _ (by omega)]
   simp[IZ,qd,show j<16 by omega,h,au,gY h,aC (show j<l.a by omega)]
  ·rw[if_neg (by omega),hb _ _ h',hb _ _ h']
   have:(l.d 4).a<=j:=by simp;omega
   congr 2;rw[show mX.b.a=dX 16 0 from Vector.toList_replicate,au,List.getElem?_replicate,if_pos h'];simp[IZ,qd,h',au,aS this]
  ·rw[if_neg (by omega),aU (by rw[dL];exact h),aU (by rw[dL];exact h)]
theorem YE(hn:4<=n)(hr:fU W W.a.j A n l):aP ah 248 #[.a A n c] W (gD W (.d (IZ l).ay)):=by
 have hl:=hr.len;have B1:=ab (((aG W.a.j W).alloc (av _) (.D mX.ay 27)).alloc (by simp) (.D mX.ay 27));have x1:=ab (dK.Rv W (.D mX.ay 27) mX.ay 27);have x0:=ab ((dK.new W mX.ay 27).alloc (.D mX.ay 27));have R1:=ab ((hr.O B1.i).lF B1.i.j:fU ((W.alloc (.D mX.ay 27)).alloc (.D mX.ay 27)) ((W.alloc (.D mX.ay 27)).alloc (.D mX.ay 27)).a.j A n l);go_enter Tryz.func248,Tryz.ntmps248;generalize hw1:(W.alloc (.D mX.ay 27)).alloc (.D mX.ay 27)=w1 at B1 x1 x0 R1;have cp:∀ty,(qA #[56,56] ty #[.a (some ⟨W.a.j+1,1,none⟩) 4 16,.a A n c]).I ah w1 = .Z (goInt 4) (gT w1 (W.a.j+1) 1 ((l.d 4).map bv).b):=fun ty=>by
  have h1:=x1.i.M 1 4 (by rw[fC.G];omega);have:=Et (c:=c) (d:=16) w1 R1.i (m:=4) hn (by omega) h1 56 ty 5 cu alX;rw[this];simp only[gT,List.toList_toArray];rfl
 have x2:=ab (x1.i.setCells 1 ((l.d 4).map bv));rw[aCY l (by omega)]at x2;have x3:=ab (show dK (gT w1 (W.a.j+1) 1 ((l.d 4).map bv).b) (W.a.j+1) (IZ l).ay by have:=x2.i;simp only[gT,List.toList_toArray];exact this);have x4:=ab (show dK (gT w1 (W.a.j+1) 1 ((l.d 4).map bv).b) W.a.j mX.ay from x0.i.gG (by omega));have B2:=ab (kZ B1.i (W.a.j+1) 1 ((l.d 4).map bv).b (by omega));obtain⟨a,ha⟩:=cB (IZ l);rw[<-ha]at x3 ⊢;clear ha;obtain⟨v,hv⟩:=cB (((l.d 4).map bv).b);rw[<-hv]at cp x3 x4 B2;clear hv x2;obtain⟨y1,y2,y3,y4⟩:=x3.i.K;have th:=x4.i.M 0 17 (by rw[fC.G];omega);go_upto_region 2 with fail
 clear hw1;go_wp2;have x5:=ab (x4.i.put a.ay (by rw[fC.G,fC.G]));refine aN (aaQ.yV rfl _ rfl x5.i (fC.G _)) rfl ?_;exact⟨rfl,kZ B2.i _ _ _ (av _)⟩
end
theorem ayd(b:Nat)(h:b<256):bits .and .b (b:Int) 15=((b%16:Nat):Int):=(by decide +kernel:∀b:Fin 256,bits .and .b ((b.val:Nat):Int) 15=((b.val%16:Nat):Int)) ⟨b,h⟩
theorem aye(x:Nat)(hx:x<=65535):(bits .and .a (x:Int) 16383 != 0)=decide (x%16384≠0):=by
 have h1:(fZ 64 (x:Int)).e=x:=by rw[lU,ny];exact fP (by omega)
 have:bits .and .a (x:Int) 16383=((x%16384:Nat):Int):=by
  show bR.wrap ((fZ 64 (x:Int) &&& fZ 64 16383).e:Int)=_;rw[EX,h1,show(fZ 64 16383).e=2^14-1 by decide,Nat.and_two_pow_sub_one_eq_mod,jS _ (by omega)]
 rw[this,bV];simp;omega
theorem apJ(x k:Nat):(x &&& 2^k=0)↔x.testBit k=false:=by
 constructor
 ·intro h
  have:=congrArg (fun z=>Nat.testBit z k) h;simpa[Nat.testBit_and,Nat.testBit_two_pow]using this
 ·intro h
  apply Nat.eq_of_testBit_eq;intro i;rw[Nat.testBit_and,Nat.testBit_two_pow,Nat.zero_testBit];by_cases hi:k=i
  ·subst hi;simp[h]
  ·simp[hi]
theorem ai7(x:Nat)(hx:x<=65535):(bits .and .a (x:Int) 16384 != 0)=decide (x/16384%2=1):=by
 have h1:(fZ 64 (x:Int)).e=x:=by rw[lU,ny];exact fP (by omega)
 have h2:x &&& 2^14<=x:=Nat.and_le_left;have:bits .and .a (x:Int) 16384=((x &&& 2^14:Nat):Int):=by
  show bR.wrap ((fZ 64 (x:Int) &&& fZ 64 16384).e:Int)=_;rw[EX,h1,show(fZ 64 16384).e=2^14 by decide,jS _ (by omega)]
 have h3:=apJ x 14;rw[Nat.testBit_eq_decide_div_mod_eq]at h3;have h4:((x &&& 2^14:Nat):Int)=0↔x &&& 2^14=0:=by omega
 rw[this,bV,bne_iff_ne,decide_eq_true_eq,Ne,h4,h3,decide_eq_false_iff_not,Classical.not_not]
theorem FW{l:List UInt8}{k:Int}(h:Df l=k)(hk:k≠0):zR l=(wU,k):=by unfold zR;rw[h,if_neg hk]
theorem aub{l:List UInt8}(h:Df l=0):zR l=(Qo l,0):=by unfold zR;rw[if_pos h]
def FoP(W:ak)(r:Fo×Int)(e:lq)(W':ak):Prop:=e=.a (.J #[.d r.1.ay,.b .a r.2])/\aL W.a.j W W'
theorem apK:lW 1 = #[0]:=by apply oQ;rw[kg];rfl
@[go_sem]theorem arQ(w:ak)(A:Option aT)(a b:Nat):(FQ 1 #[(0,.a A a b)]).I ah w = .Z (.a (some ⟨w.a.j,0,none⟩) 1 1) (w.alloc (.D #[.a A a b] 56)):=by
 obtain⟨i0,hi0,hz0,hz1⟩:=Tp;simp[FQ,bJ,dJ Dn,zeroValue,sizeOf,typeInfo,hi0,hz0,hz1,fE,newRow,cK,apK]
theorem fU.Xt{w:ak}{B n:Nat}{A:Option aT}{l:List UInt8}(h:fU w B A n l)(k:Nat)(hk:k+1<n):∃a,A=some a/\w.b ⟨a.block,a.off+(k+1),none⟩=some (.b .b (nM l (k+1))):=by
 obtain⟨a,e,_,h1⟩:=h.fI hk;unfold qy at h1;rw[if_neg (by omega)]at h1;exact⟨a,e,h1⟩
theorem Np(W:ak)(A:Option aT)(n c:Nat)(l:List UInt8)(hnc:n<=c)(hc:c<=9223372036854775807/\n<=1000000000)(hr:fU W W.a.j A n l):aP ah 175 #[.a A n c] W (FoP W (zR l)):=by
 have HR:=ab hr;have hl:=ab hr.len;have b0:=ab (dK.new W wU.ay 192);have B0:=ab ((aG W.a.j W).alloc (av _) (.D wU.ay 192));clear hr;go_enter Tryz.func175,Tryz.ntmps175;by_cases h20:n<20
 ·have apL:(n:Int)<20:=by omega
  have H:=ab (show zR l=(wU,2)from FW (by unfold Df;rw[if_pos (by rw[hl.i];exact h20)]) (by decide));go_wp2;refine aN (kFo.qC rfl _ rfl b0.i (Fo.G _)) rfl ?_;rw[H.i];exact⟨rfl,B0.i⟩
 have apL:¬(n:Int)<20:=by omega
 have i0:(0:Int)<n:=by omega
 have i0':0<n:=by omega
 generalize hw1:W.alloc (.D wU.ay 192)=w1 at b0 B0;obtain⟨T,f,n0,E0,es,ew⟩:=Ec (fun W'=>aL W.a.j W W'/\dK W' W.a.j wU.ay) w1 ⟨B0.i.drew,b0.i.drew⟩;have hT:Nonempty T:=⟨n0⟩
 have ES:=ab es;have EW:=ab ew;clear es ew;have RF:=ab (fun m=>(HR.i.O (ES.i m).1).lF (ES.i m).1.j:∀m,fU (f m) (f m).a.j A n l);have C2:=ab (fun m=>aaW (f m) A n c l 2 2 rfl (by omega) hnc (by omega) (RF.i m));have C6:=ab (fun m=>aaW (f m) A n c l 6 6 rfl (by omega) hnc (by omega) (RF.i m));obtain⟨a,rfl,hab,hc0⟩:=HR.i.fI (show 0<n by omega);rw[Ox]at hc0;have hf0:∀m,(f m).b a=some (.b .b (nM l 0)):=fun m=>((ES.i m).1.cell hab).trans hc0
 have hb:=uS l 0;have hA:=ayd _ hb;have hw16:=jS ((nM l 0%16:Nat):Int) (by omega);have hw64:=jS (((nM l 0%16:Nat):Int)*4) (by omega);clear hc0;go_upto_region 3 with fail
 clear hw1;refine nL f (by kernel_rfl) (by kernel_rfl) n0 E0 ?_
 repeat(go_big_quiet_step ((first
  | (go_at_call 246;with_reducible refine(C2.i _).g ?_;rintro e w2 ⟨rfl,hb⟩;exact⟨rfl,EW.i _ ⟨(ES.i _).1.trans (hb.g (ES.i _).1.j),(ES.i _).2.go hb⟩⟩)
  | (go_at_call 246;with_reducible refine(C6.i _).g ?_;rintro e w2 ⟨rfl,hb⟩;exact⟨rfl,EW.i _ ⟨(ES.i _).1.trans (hb.g (ES.i _).1.j),(ES.i _).2.go hb⟩⟩))))
 refine gK ?_;rintro _ ⟨m,rfl⟩;obtain⟨hS1,hS2⟩:=ES.i m;have S1:=ab hS1;have S2:=ab hS2;have R2:=ab (RF.i m);have cb:=hf0 m;clear hS1 hS2 ES EW RF C2 C6 hf0 E0 hT n0 hA hw16 hw64;generalize f m=w2 at *;have HE:=ab (fun(x:Fo)=>show dK (gT w2 W.a.j 0 x.ay) W.a.j x.ay/\aL W.a.j W (gT w2 W.a.j 0 x.ay)from⟨S2.i.put x.ay (by rw[Fo.G,Fo.G]),kZ S1.i _ _ _ (av _)⟩);have yE:=S2.i.M 0 42 (by rw[Fo.G];omega);obtain⟨hd,hhd⟩:=cB (Lr l);have HD:=ab hhd.symm;have ehd:(nM l 0:Int)%16*4=(hd:Int):=by rw[hhd];unfold Lr;omega
 obtain⟨t,ht⟩:=cB (eZ l 2);have HT:=ab ht.symm;have htl:t<=65535:=by rw[ht];exact vE l 2
 rw[<-ht];clear hhd ht;have N20:=ab (show¬l.a<20 by rw[hl.i];exact h20);by_cases e1:¬nM l 0/16=4
 ·have q:((nM l 0:Int)/16 != 4)=true:=by rw[bne_iff_ne];omega
  have H:=ab (show zR l=(wU,3)from FW (by unfold Df;rw[if_neg N20.i,if_pos (.a e1)]) (by decide));go_wp2;refine aN (kFo.qC rfl _ rfl (HE.i wU).1 (Fo.G _)) rfl ?_;rw[H.i];exact⟨rfl,(HE.i wU).2⟩
 have qe1:((nM l 0:Int)/16 != 4)=false:=by simp;omega
 by_cases e2:hd<20
 ·have q:(hd:Int)<20:=by omega
  have H:=ab (show zR l=(wU,3)from FW (by unfold Df;rw[if_neg N20.i,if_pos (.b (by rw[HD.i];exact e2))]) (by decide));go_wp2;refine aN (kFo.qC rfl _ rfl (HE.i wU).1 (Fo.G _)) rfl ?_;rw[H.i];exact⟨rfl,(HE.i wU).2⟩
 have qe2:¬(hd:Int)<20:=by omega
 by_cases e3:n<hd
 ·have q:(n:Int)<hd:=by omega
  have H:=ab (show zR l=(wU,2)from FW (by unfold Df;rw[if_neg N20.i,if_neg (fun h=>h.elim e1 (by rw[HD.i];exact e2)),if_pos (by rw[hl.i,HD.i];exact e3)]) (by decide));go_wp2;refine aN (kFo.qC rfl _ rfl (HE.i wU).1 (Fo.G _)) rfl ?_;rw[H.i];exact⟨rfl,(HE.i wU).2⟩
 have qe3:¬(n:Int)<hd:=by omega
 by_cases e4:t<hd
 ·have q:(t:Int)<hd:=by omega
  have H:=ab (show zR l=(wU,3)from FW (by unfold Df;rw[if_neg N20.i,if_neg (fun h=>h.elim e1 (by rw[HD.i];exact e2)),if_neg (by rw[hl.i,HD.i];exact e3),if_pos (by rw[HT.i,HD.i];exact e4)]) (by decide));go_wp2;refine aN (kFo.qC rfl _ rfl (HE.i wU).1 (Fo.G _)) rfl ?_;rw[H.i];exact⟨rfl,(HE.i wU).2⟩
 have qe4:¬(t:Int)<hd:=by omega
 by_cases e5:n<t
 ·have q:(n:Int)<t:=by omega
  have H:=ab (show zR l=(wU,2)from FW (by unfold Df;rw[if_neg N20.i,if_neg (fun h=>h.elim e1 (by rw[HD.i];exact e2)),if_neg (by rw[hl.i,HD.i];exact e3),if_neg (by rw[HT.i,HD.i];exact e4),if_pos (by rw[hl.i,HT.i];exact e5)]) (by decide));go_wp2;refine aN (kFo.qC rfl _ rfl (HE.i wU).1 (Fo.G _)) rfl ?_;rw[H.i];exact⟨rfl,(HE.i wU).2⟩
 have qe5:¬(n:Int)<t:=by omega
 have FE:=ab (show Df l=if wP (l.d hd)≠0 then 8 else 0 by
  unfold Df;rw[if_neg N20.i,if_neg (fun h=>h.elim e1 (by rw[HD.i];exact e2)),if_neg (by rw[hl.i,HD.i];exact e3),if_neg (by rw[HT.i,HD.i];exact e4),if_neg (by rw[hl.i,HT.i];exact e5),HD.i])
 have PH:fU w2 w2.a.j (some a) hd (l.d hd):=by
  have:=Rd.upto R2.i (k:=hd) (by omega);rw[gH,<-Ad]at this;exact this
 have S3:=ab (S1.i.alloc S1.i.j (.D #[.a (some a) hd c] 56));have C13:=ab (acM (w2.alloc (.D #[.a (some a) hd c] 56)) w2.a.j (some a) hd c w2.a.j (l.d hd) (by omega) (mQ _ _ _ _) (PH.alloc (av _) _));have S4:=ab (S2.i.alloc (.D #[.a (some a) hd c] 56));have R4:=ab ((R2.i.alloc (av _) (.D #[.a (some a) hd c] 56)).lF (by simp):fU (w2.alloc (.D #[.a (some a) hd c] 56)) (w2.alloc (.D #[.a (some a) hd c] 56)).a.j (some a) n l);have i4:(hd:Int)<=c:=by omega
 have hn4:=acL;clear PH HE yE S1 S2 R2;obtain⟨d,hd⟩:=cB (decide (wP (l.d hd)=0));have DD:=ab hd;rw[<-hd]at C13;clear hd;cases d with
 | false=>
   go_upto_region 14 with(go_at_call 247;with_reducible refine C13.i.g ?_;rintro e w3 ⟨rfl,rfl⟩)
   obtain⟨w3,hw3⟩:=cB (w2.alloc (.D #[.a (some a) hd c] 56));rw[<-hw3]at S3 S4 R4 ⊢;clear hw3 C13;have HE:=ab (fun(x:Fo)=>show dK (gT w3 W.a.j 0 x.ay) W.a.j x.ay/\aL W.a.j W (gT w3 W.a.j 0 x.ay)from⟨S4.i.put x.ay (by rw[Fo.G,Fo.G]),kZ S3.i _ _ _ (av _)⟩);have yE:=S4.i.M 0 42 (by rw[Fo.G];omega);have e6:¬wP (l.d hd)=0:=of_decide_eq_false DD.i.symm;have H:=ab (show zR l=(wU,8)from FW (by rw[FE.i,if_pos e6]) (by decide));go_wp2;refine aN (kFo.qC rfl _ rfl (HE.i wU).1 (Fo.G _)) rfl ?_;rw[H.i];exact⟨rfl,(HE.i wU).2⟩
 | true=>
   go_upto_region 15 with(go_at_call 247;with_reducible refine C13.i.g ?_;rintro e w3 ⟨rfl,rfl⟩)
   obtain⟨w3,hw3⟩:=cB (w2.alloc (.D #[.a (some a) hd c] 56));rw[<-hw3]at S3 S4 R4 ⊢;clear hw3 C13;have e6:wP (l.d hd)=0:=of_decide_eq_true DD.i.symm;have H0:=ab (show zR l=(Qo l,0)from aub (by rw[FE.i,if_neg (by simp[e6])]));obtain⟨f1,f2,f3⟩:8<n/\9<n/\12+4<=n:=by omega
   obtain⟨u,hu⟩:=cB (eZ l 6);have hu0:u<=65535:=by rw[hu];exact vE l 6
   have HU:=ab hu;clear hu;have H:=ab (show zR l=((⟨(hd:Int),(t:Int),(nM l 1:Nat),(eZ l 4:Nat),decide (u%16384≠0),decide (u/16384%2=1),(nM l 8:Nat),(nM l 9:Nat),IZ (l.f 12),IZ (l.f 16)⟩:Fo),0)by rw[H0.i];unfold Qo;rw[HD.i,HT.i,<-HU.i]);have HU:=ab HU.i.symm;clear H0;rw[HU.i];have G14:=aye u hu0;have G15:=ai7 u hu0;obtain⟨T,f,n0,E0,es,ew⟩:=Ec (fun W'=>aL W.a.j W W'/\dK W' W.a.j wU.ay) w3 ⟨S3.i.drew,S4.i.drew⟩;have hT:Nonempty T:=⟨n0⟩
   have ES:=ab es;have EW:=ab ew;clear es ew;have RF:=ab (fun m=>(HR.i.O (ES.i m).1).lF (ES.i m).1.j:∀m,fU (f m) (f m).a.j (some a) n l);have C4:=ab (fun m=>aaW (f m) (some a) n c l 4 4 rfl (by omega) hnc (by omega) (RF.i m));have R12:=ab (fun m=>(RF.i m).from (z:=12) (c:=c) (by omega) hnc);have R16:=ab (fun m=>(RF.i m).from (z:=16) (c:=c) (by omega) hnc);have cne:¬c=12/\¬c=16:=by omega
   simp only[if_neg cne.1,if_neg cne.2,Option.map_some,show a.add 12=⟨a.block,a.off+12,none⟩by simp[qy],show a.add 16=⟨a.block,a.off+16,none⟩by simp[qy]]at R12 R16;have C12:=ab (fun m=>YE (f m) _ (n-12) (c-12) _ (by omega) (R12.i m));have C16:=ab (fun m=>YE (f m) _ (n-16) (c-16) _ (by omega) (R16.i m));obtain⟨_,he1,hc1⟩:=R4.i.Xt 0 (by omega);obtain⟨_,he8,hc8⟩:=R4.i.Xt 7 (by omega);obtain⟨_,he9,hc9⟩:=R4.i.Xt 8 (by omega);cases he1;cases he8;cases he9;have hf1:∀m,(f m).b ⟨a.block,a.off+1,none⟩=some (.b .b (nM l 1)):=fun m=>by
    obtain⟨_,he,hc⟩:=(RF.i m).Xt 0 (by omega);cases he;exact hc
   have hf8:∀m,(f m).b ⟨a.block,a.off+8,none⟩=some (.b .b (nM l 8)):=fun m=>by
    obtain⟨_,he,hc⟩:=(RF.i m).Xt 7 (by omega);cases he;exact hc
   have hf9:∀m,(f m).b ⟨a.block,a.off+9,none⟩=some (.b .b (nM l 9)):=fun m=>by
    obtain⟨_,he,hc⟩:=(RF.i m).Xt 8 (by omega);cases he;exact hc
   have hx1:=jS (nM l 1) (by have:=uS l 1;omega);have hx8:=jS (nM l 8) (by have:=uS l 8;omega);have hx9:=jS (nM l 9) (by have:=uS l 9;omega);clear hc1 hc8 hc9;clear R12 R16 S3 S4 R4 RF FE N20 DD HR B0 b0;refine UK f 29 (by kernel_rfl) (by kernel_rfl) n0 E0 ?_;simp only[jP,j4,jQ,kY]
   repeat(go_big_quiet_step ((first
    | (go_at_call 246;with_reducible refine(C4.i _).g ?_;rintro e w2 ⟨rfl,hb⟩;exact⟨rfl,EW.i _ ⟨(ES.i _).1.trans (hb.g (ES.i _).1.j),(ES.i _).2.go hb⟩⟩)
    | (go_at_call 248;with_reducible refine(C12.i _).g ?_;rintro e w2 ⟨rfl,hb⟩;exact⟨rfl,EW.i _ ⟨(ES.i _).1.trans (hb.g (ES.i _).1.j),(ES.i _).2.go hb⟩⟩)
    | (go_at_call 248;with_reducible refine(C16.i _).g ?_;rintro e w2 ⟨rfl,hb⟩;exact⟨rfl,EW.i _ ⟨(ES.i _).1.trans (hb.g (ES.i _).1.j),(ES.i _).2.go hb⟩⟩))))
   refine gK ?_;rintro _ ⟨m',rfl⟩;obtain⟨hS1,hS2⟩:=ES.i m';clear ES EW C12 C16 C4 hf1 hf8 hf9 E0;generalize f m'=w5 at *;clear hT n0;have HE:=ab (fun(x:Fo)=>show dK (gT w5 W.a.j 0 x.ay) W.a.j x.ay/\aL W.a.j W (gT w5 W.a.j 0 x.ay)from⟨hS2.put x.ay (by rw[Fo.G,Fo.G]),kZ hS1 _ _ _ (av _)⟩);have yE:=hS2.M 0 42 (by rw[Fo.G];omega);clear hS1 hS2;obtain⟨X,hX⟩:=cB ((⟨(hd:Int),(t:Int),(nM l 1:Nat),(eZ l 4:Nat),!decide (u%16384=0),decide (u/16384%2=1),(nM l 8:Nat),(nM l 9:Nat),IZ (l.f 12),IZ (l.f 16)⟩:Fo));have H:=ab (show zR l=(X,0)by rw[H.i,hX];simp only[ne_eq,decide_not]);rw[<-hX];clear hX;have hE:=HE.i X;clear HE G14 G15 hx1 hx8 hx9 cne;go_step;go_simp;go_step;go_step;go_simp;go_step;go_step;go_wp2;refine aN (kFo.qC rfl _ rfl hE.1 (Fo.G _)) rfl ?_;rw[H.i];exact⟨rfl,hE.2⟩
structure ai8(g:FuncId):Prop where
 I:∀(c:Nat)(w:ak),aP ah g #[.b .b c] w fun e w'=>e=.a (.e ((c:Int) != 0))/\w=w'
 enter:∀(args:Array aB)(w:ak),(callFunc g args).I ah w = .Z (.enter g args) w
def nzB(l:List UInt8):Bool:=l.any fun b=>b != 0
theorem amk{l:List UInt8}(h:∀j,j<l.a->l.c j 0=0):nzB l=false:=by
 unfold nzB;rw[List.any_eq_false];intro b hb;obtain⟨j,hj,rfl⟩:=List.getElem_of_mem hb;have:=h j hj;simp[au,hj]at this;simp[this]
theorem aud{l:List UInt8}{j:Nat}(hj:j<l.a)(h:l.c j 0≠0):nzB l=true:=by
 unfold nzB;rw[List.any_eq_true];refine⟨l[j],eU _,?_⟩;simp[au,hj]at h;simp[h]
theorem ayg(g:FuncId)(G:ai8 g)(A:Option aT)(n c B:Nat)(w:ak)(l:List UInt8)(hc:n<=1000000000)(hr:fU w B A n l):
 aP ah 260 #[.a A n c,.func (.func g) #[] #[]] w fun e w'=>∃r:Int,e=.a (.b .a r)/\(decide (0<=r)=nzB l)/\w=w':=by
 have hen:=G.enter;have GG:=ab G.I;have HR:=ab hr;have hl:=ab hr.len;clear hr;go_enter Tryz.func260,Tryz.ntmps260;go_wp2;go_loop [8] (fun s8=>∃i:Nat,i<=n/\s8=.b .a i/\∀j,j<i->l.c j 0=0) (fun s8=>n-(intOf s8).e)
 case atStart=>exact⟨0,by omega,rfl,fun j h1=>by omega⟩
 case round=>
  obtain⟨i,hi,rfl,hall⟩:=hrel;have HA:=ab hall;clear hall;by_cases hlt:i<n
  ·have hin:(i:Int)<n:=by omega
   obtain⟨a,rfl,hab,hcell⟩:=HR.i.fI hlt;unfold bv at hcell;have hz:((l.c i 0).e:Int)=0↔l.c i 0=0:=by
    constructor
    ·intro h;apply lY.1;have:(0:UInt8).e=0:=rfl;omega
    ·intro h;rw[h];rfl
   have HZ:=ab hz;clear hz hab;obtain⟨m,hm⟩:∃m:Nat,m=(l.c i 0).e:=⟨_,rfl⟩
   rw[<-hm]at hcell HZ;clear hm;by_cases h0:m=0
   ·have h1:((m:Int) != 0)=false:=by rw[h0];rfl
    have hz0:l.c i 0=0:=HZ.i.1 (by omega);have HZ0:=ab hz0;clear hz0 h0;go_wp2_with (refine(GG.i m _).g ?_;rintro e w' ⟨rfl,rfl⟩);go_round
    case rel=>exact⟨i+1,by omega,by go_num,fun j h1=>by
     by_cases hji:j=i
     ·rw[hji];exact HZ0.i
     ·exact HA.i j (by omega)⟩
    case measure=>simp[intOf]<;>omega
   ·have h1:((m:Int) != 0)=true:=by rw[bne_iff_ne];omega
    have Fh:=ab (aud (l:=l) (j:=i) (by rw[hl.i];exact hlt) (fun h=>h0 (by have:=HZ.i.2 h;omega)));clear h0;go_wp2_with (refine(GG.i m _).g ?_;rintro e w' ⟨rfl,rfl⟩);go_ret;exact⟨_,rfl,by rw[Fh.i];simp,rfl⟩
  ·obtain rfl:i=n:=by omega
   have HS:=ab (amk (l:=l) (fun j hj=>HA.i j (by rw[hl.i]at hj;exact hj)));go_wp2;go_ret;exact⟨_,rfl,by rw[HS.i];simp,rfl⟩
theorem ahl(g:FuncId)(G:ai8 g)(A:Option aT)(n c B:Nat)(w:ak)(l:List UInt8)(hc:n<=1000000000)(hr:fU w B A n l):
 aP ah 189 #[.a A n c,.func (.func g) #[] #[]] w fun e w'=>e=.a (.e (nzB l))/\w=w':=by
 have I:=ab (ayg g G A n c B w l hc hr);clear hr;go_enter Tryz.func189,Tryz.ntmps189;go_wp2_with (go_at_call 260;refine I.i.g ?_;rintro e w' ⟨r,rfl,hr,rfl⟩);go_ret;exact⟨by simp,rfl⟩
theorem aml:ai8 354:=⟨fun c w=>by
 go_enter Tryz.func354,Tryz.ntmps354;go_wp2;go_ret;exact⟨rfl,rfl⟩,fun args w=>by kernel_rfl⟩
theorem fU.Nq{w:ak}{B b o:Nat}{l:List UInt8}(hb:b<B)(h:∀j,j<l.a->w.b ⟨b,o+j,none⟩=some (bv (l.c j 0))):fU w B (some ⟨b,o,none⟩) l.a l:=by
 refine⟨by simp,fun h0=>⟨⟨b,o,none⟩,rfl,hb,fun j u hu=>?_⟩⟩;have hj:j<l.a:=by
  rcases aY j l.a with h1|h1
  ·exact h1
  ·rw[aS (by simpa using h1)]at hu;cases hu
 rw[show(⟨b,o,none⟩:aT).add j=⟨b,o+j,none⟩by unfold qy;split<;>simp_all,h j hj];rw[jk,aC hj]at hu;simp only[Option.map_some,Option.some.injEq]at hu;rw[<-hu,au,aC hj];rfl
theorem JR(a:fC):nzB (a.b.a.f 4) = !a.mJ:=by
 unfold nzB fC.mJ;rw[List.any_eq_not_all_not];congr 2;funext c;show(!(c != 0))=(c==0);unfold bne;rw[Bool.not_not]
theorem fU.tail{w:ak}{B h:Nat}{a:fC}(hb:h<B)(x:dK w h a.ay):fU w B (some ⟨h,5,none⟩) 12 (a.b.a.f 4):=by
 have hl:(a.b.a.f 4).a=12:=by rw[jD,fC.awY]
 have:=fU.Nq (w:=w) (o:=5) (l:=a.b.a.f 4) hb (fun j hj=>by
  rw[hl]at hj;rw[x.K.1 (5+j),show 5+j=(4+j)+1 by omega,fC.D7 a (4+j) (by omega)];simp[au])
 rwa [hl]at this
theorem afH(k m:Int)(w:ak):aP ah 316 #[.b .a k,.b .a m] w (gD w (.e (decide (0<=k)&&decide (k<=m)))):=by
 go_enter Tryz.func316,Tryz.ntmps316;by_cases h1:0<=k<;>by_cases h2:k<=m
 all_goals
  go_wp2;go_ret;exact⟨by simp[h1,h2],aG _ _⟩
theorem Vy(a:fC)(w:ak):aP ah 317 #[.d a.ay] w (gD w (.e (!a.h&&a.mJ))):=by
 have HB:=ab ((aG w.a.j w).alloc (av _) (.D a.ay 27));have x0:=dK.new w a.ay 27;have C:=ab (ahl _ aml _ 12 12 _ _ _ (by omega) (fU.tail (B:=w.a.j+1) (mF _) x0));have HS:=ab (JR a);obtain⟨z,hz⟩:=cB (nzB (a.b.a.f 4));rw[<-hz]at C HS;clear hz;cases h6:a.h
 ·have H6:=ab h6
  go_enter Tryz.func317,Tryz.ntmps317;go_wp2_with fail;refine C.i.g ?_;rintro e w' ⟨rfl,rfl⟩;cases z
  all_goals
   go_wp2;go_ret;exact⟨by have:=HS.i;simp at this;simp[<-this],HB.i⟩
 ·go_enter Tryz.func317,Tryz.ntmps317
  go_wp2;go_ret;exact⟨rfl,HB.i⟩
theorem ai'(k:Int)(w:ak):aP ah 313 #[.b .a k] w (gD w (.b .a (if k=6 then 16 else if k=17 then 6 else 0))):=by
 go_enter Tryz.func313,Tryz.ntmps313;by_cases h1:k=6
 ·subst h1
  go_wp2;go_ret;exact⟨rfl,aG _ _⟩
 by_cases h2:k=17
 ·subst h2
  go_wp2;go_ret;exact⟨rfl,aG _ _⟩
 have q1:(k==6)=false:=by simp[h1]
 have q2:(k==17)=false:=by simp[h2]
 go_wp2;go_ret;exact⟨rfl,aG _ _⟩
@[go_sem]theorem aC3(W:ak)(a b c d:Int):(uH 172 #[(0,.b .a a),(1,.b .a b),(3,.b .a c),(4,.b .a d)]).I ah W = .Z (.d (Pt.mk a b 0 c d).ay) W:=TJ.bd W _ _ _ _ oZ (atV W _ oZ) rfl
def qp(aQ:Int)(l:List UInt8):Pt:=if aQ=6 then⟨eZ l 0,eZ l 2,(nM l 13%64:Nat),(nM l 12/16*4:Nat),l.a⟩else⟨eZ l 0,eZ l 2,0,8,eZ l 4⟩
def uT(aQ:Int)(l:List UInt8):Int:=
 if aQ≠6/\aQ≠17 then 5 else if l.a<(if aQ=6 then 20 else 8)then 2
 else if(aQ=6/\(qp aQ l).head<20)\/(qp aQ l).dz<8 then 3 else if(l.a:Int)<max (qp aQ l).head (qp aQ l).dz then 2 else 0
def I5(aQ:Int)(l:List UInt8):Pt×Int:=if uT aQ l=0 then(qp aQ l,0)else(qJ,uT aQ l)
theorem uD{p:Int}{l:List UInt8}{k:Int}(h:uT p l=k)(hk:k≠0):I5 p l=(qJ,k):=by unfold I5;rw[h,if_neg hk]
theorem Vz{p:Int}{l:List UInt8}(h:uT p l=0):I5 p l=(qp p l,0):=by unfold I5;rw[if_pos h]
def PtP(W:ak)(r:Pt×Int)(e:lq)(W':ak):Prop:=e=.a (.J #[.d r.1.ay,.b .a r.2])/\aL W.a.j W W'
theorem fU.upon{W w1:ak}{n:Nat}{A:Option aT}{l:List UInt8}(h:fU W W.a.j A n l)(hb:aL W.a.j W w1):fU w1 w1.a.j A n l:=(h.O hb).lF hb.j
theorem ayh(b:Nat)(h:b<256):bits .and .b (b:Int) 63=((b%64:Nat):Int):=(by decide +kernel:∀b:Fin 256,bits .and .b ((b.val:Nat):Int) 63=((b.val%64:Nat):Int)) ⟨b,h⟩
theorem aa1(W:ak)(p:Int)(A:Option aT)(n c:Nat)(l:List UInt8)(hnc:n<=c)(hc:c<=9223372036854775807/\n<=1000000000)(hr:fU W W.a.j A n l):aP ah 95 #[.b .a p,.a A n c] W (PtP W (I5 p l)):=by
 have HR:=ab hr;have hl:=ab hr.len;have b0:=ab (dK.new W qJ.ay 172);have B0:=ab ((aG W.a.j W).alloc (av _) (.D qJ.ay 172));clear hr;go_enter Tryz.func95,Tryz.ntmps95;by_cases hp:p≠6/\p≠17
 ·have q1:(p==6)=false:=by simp[hp.1]
  have q2:(p != 17)=true:=by simp[hp.2]
  have H:=ab (show I5 p l=(qJ,5)from uD (by unfold uT;rw[if_pos hp]) (by decide));go_wp2;refine aN (TJ.qC rfl _ rfl b0.i (Pt.G _)) rfl ?_;rw[H.i];exact⟨rfl,B0.i⟩
 have HP:=ab hp;by_cases p6:p=6
 ·subst p6
  by_cases h20:n<20
  ·have apL:(n:Int)<20:=by omega
   have H:=ab (show I5 6 l=(qJ,2)from uD (by unfold uT;rw[if_neg HP.i,if_pos rfl,if_pos (by rw[hl.i];exact h20)]) (by decide));go_wp2;refine aN (TJ.qC rfl _ rfl b0.i (Pt.G _)) rfl ?_;rw[H.i];exact⟨rfl,B0.i⟩
  have apL:¬(n:Int)<20:=by omega
  have h8':¬(n:Int)<8:=by omega
  have R1:=HR.i.upon B0.i;have C0:=ab (Nl _ A n c l 0 0 rfl (by omega) hnc (by omega) R1);go_upto_region 9 with(go_at_call 177;first|(refine C0.i.g ?_;rintro e w1 ⟨rfl,hb1⟩;have C2:=ab (Nl w1 A n c l 2 2 rfl (by omega) hnc (by omega) ((HR.i.upon B0.i).upon hb1));clear C0)|(refine C2.i.g ?_;rintro e w2 ⟨rfl,hb2⟩))
  have B2:=ab (B0.i.trans (hb1.g B0.i.j));have B3:=ab (B2.i.trans (hb2.g B2.i.j));have R2:=ab (HR.i.upon B3.i);have b2:=ab ((b0.i.go hb1).go hb2);clear hb1 hb2 C2;obtain⟨k,hk⟩:=cB w2.a.j;obtain⟨w3,hw3⟩:=cB (w2.alloc (.D (Pt.mk (eZ l 0) (eZ l 2) 0 8 n).ay 172));have x3:=ab (show dK w3 k (Pt.mk (eZ l 0) (eZ l 2) 0 8 n).ay by rw[hw3,hk];exact dK.new _ _ _);have b3:=ab (show dK w3 W.a.j qJ.ay by rw[hw3];exact b2.i.alloc _);have R3:=ab (show fU w3 k A n l by rw[hw3,hk];exact R2.i.alloc (av _) _);have hlt:=b2.i.lt;have hs3:W.a.j<k:=by rw[hk];exact hlt
  rw[<-hw3,<-hk];have B4:=ab (show aL W.a.j W w3 by rw[hw3];exact B3.i.alloc B3.i.j _);clear hk hw3 hlt R2 b2 B2 B3 B0 b0;obtain⟨a,ea,hab,_⟩:=R3.i.fI (show 0<n by omega);subst ea;obtain⟨_,e12,h12⟩:=R3.i.Xt 11 (by omega);cases e12;obtain⟨_,e13,h13⟩:=R3.i.Xt 12 (by omega);cases e13;have hne:a.block≠k:=by omega
  have hne':k≠a.block:=by omega
  obtain⟨x1,x2,x4,x5⟩:=x3.i.K;obtain⟨i12,i13⟩:12<n/\13<n:=by omega
  have aC4:=uS l 12;have hA:=ab (ayh _ (uS l 13));have hw1:bR.wrap ((nM l 12:Int)/16)=(nM l 12:Int)/16:=jS _ (by omega);have hw2:bR.wrap ((nM l 12:Int)/16*4)=(nM l 12:Int)/16*4:=jS _ (by omega);have hw3:wrap64 ((nM l 13%64:Nat):Int)=((nM l 13%64:Nat):Int):=by unfold wrap64;omega
  have hw1:=ab hw1;have hw2:=ab hw2;have hw3:=ab hw3;have hw4:bR.wrap ((nM l 13%64:Nat):Int)=((nM l 13%64:Nat):Int):=jS _ (by omega);have hw4:=ab hw4;clear aC4;go_region_held_law (fun W'=>W'.b ⟨a.block,a.off+12,none⟩=some (.b .b (nM l 12))/\W'.b ⟨a.block,a.off+13,none⟩=some (.b .b (nM l 13)))
   (first|exact⟨h12,h13⟩|go_keep) (fail)
  all_goals
   go_upto_region 11 with fail
  all_goals
   have eh:(nM l 12:Int)/16*4=((nM l 12/16*4:Nat):Int):=by omega
   simp only[hA.i,hw1.i,hw2.i,hw3.i,hw4.i,eh];obtain⟨g,hg⟩:=cB (nM l 13%64);obtain⟨h,hh⟩:=cB (nM l 12/16*4);have G0:=ab (show qp 6 l=⟨eZ l 0,eZ l 2,(g:Nat),(h:Nat),n⟩by unfold qp;rw[if_pos rfl,<-hg,<-hh,hl.i]);rw[<-hg,<-hh];clear hg hh eh hA hw1 hw2 hw3 hw4 h12 h13 x1 x2 x4 x5;have X1:=x3.i.eF 3 (.b .a (h:Int));rw[Pt.Ni]at X1;have X2:=X1.eF 2 (.b .a (g:Int));rw[Pt.Qm]at X2;have b5:=(b3.i.dN ⟨k,3,none⟩ (.b .a (h:Int)) (by show k≠_;omega)).dN ⟨k,2,none⟩ (.b .a (g:Int)) (by show k≠_;omega);have B5:=((B4.i.F (p:=⟨k,3,none⟩) (mG hs3) (.b .a (h:Int))).F (p:=⟨k,2,none⟩) (mG hs3) (.b .a (g:Int))).drew;have X2:=X2.drew;have b5:=b5.drew;clear x3 b3 B4 R3 X1;generalize((w3.F ⟨k,3,none⟩ (.b .a (h:Int))).F ⟨k,2,none⟩ (.b .a (g:Int))).drew=w5 at *;have N20:=ab (show¬l.a<(if(6:Int)=6 then 20 else 8)by rw[if_pos rfl,hl.i];exact h20);have HE:=ab (fun(x:Pt)=>show dK (gT w5 W.a.j 0 x.ay) W.a.j x.ay/\aL W.a.j W (gT w5 W.a.j 0 x.ay)from⟨b5.put x.ay (by rw[Pt.G,Pt.G]),kZ B5 _ _ _ (av _)⟩);have yE:=b5.M 0 5 (by rw[Pt.G];omega);obtain⟨y1,y2,y3,y4⟩:=X2.K;clear b5 B5 X2;have n8:¬(n:Int)<8:=by omega
   by_cases e1:h<20
   ·have q:(h:Int)<20:=by omega
    have H:=ab (show I5 6 l=(qJ,3)from uD (by unfold uT;rw[if_neg HP.i,if_neg N20.i,if_pos (.a ⟨rfl,by rw[G0.i];exact q⟩)]) (by decide));go_wp2;refine aN (TJ.qC rfl _ rfl (HE.i qJ).1 (Pt.G _)) rfl ?_;rw[H.i];exact⟨rfl,(HE.i qJ).2⟩
   have q:¬(h:Int)<20:=by omega
   by_cases e2:n<h
   ·have q2:max (h:Int) n>n:=by omega
    have H:=ab (show I5 6 l=(qJ,2)from uD (by unfold uT;rw[if_neg HP.i,if_neg N20.i,if_neg (by rw[G0.i];rintro(h|h);exact q h.2;exact n8 h),if_pos (by rw[G0.i,hl.i];exact q2)]) (by decide));go_wp2;refine aN (TJ.qC rfl _ rfl (HE.i qJ).1 (Pt.G _)) rfl ?_;rw[H.i];exact⟨rfl,(HE.i qJ).2⟩
   have q2:¬max (h:Int) n>n:=by omega
   have H:=ab (show I5 6 l=(qp 6 l,0)from Vz (by unfold uT;rw[if_neg HP.i,if_neg N20.i,if_neg (by rw[G0.i];rintro(h|h);exact q h.2;exact n8 h),if_neg (by rw[G0.i,hl.i];exact q2)]));rw[G0.i]at H;go_wp2;refine aN (TJ.qC rfl _ rfl (HE.i ⟨eZ l 0,eZ l 2,(g:Nat),(h:Nat),n⟩).1 (Pt.G _)) rfl ?_;rw[H.i];exact⟨rfl,(HE.i _).2⟩
 ·obtain rfl:p=17:=by omega
  by_cases h20:n<8
  ·have apL:(n:Int)<8:=by omega
   have H:=ab (show I5 17 l=(qJ,2)from uD (by unfold uT;rw[if_neg HP.i,if_neg p6,if_pos (by rw[hl.i];exact h20)]) (by decide));go_wp2;refine aN (TJ.qC rfl _ rfl b0.i (Pt.G _)) rfl ?_;rw[H.i];exact⟨rfl,B0.i⟩
  have h8':¬(n:Int)<8:=by omega
  have R1:=HR.i.upon B0.i;have C0:=ab (Nl _ A n c l 0 0 rfl (by omega) hnc (by omega) R1);have q6:((17:Int)==6)=false:=rfl;go_upto_region 10 with(go_at_call 177;first|(refine C0.i.g ?_;rintro e w1 ⟨rfl,hb1⟩;have C2:=ab (Nl w1 A n c l 2 2 rfl (by omega) hnc (by omega) ((HR.i.upon B0.i).upon hb1));clear C0)|(refine C2.i.g ?_;rintro e w2 ⟨rfl,hb2⟩))
  have B2:=ab (B0.i.trans (hb1.g B0.i.j));have B3:=ab (B2.i.trans (hb2.g B2.i.j));have R2:=ab (HR.i.upon B3.i);have b2:=ab ((b0.i.go hb1).go hb2);clear hb1 hb2 C2;obtain⟨k,hk⟩:=cB w2.a.j;obtain⟨w3,hw3⟩:=cB (w2.alloc (.D (Pt.mk (eZ l 0) (eZ l 2) 0 8 n).ay 172));have x3:=ab (show dK w3 k (Pt.mk (eZ l 0) (eZ l 2) 0 8 n).ay by rw[hw3,hk];exact dK.new _ _ _);have b3:=ab (show dK w3 W.a.j qJ.ay by rw[hw3];exact b2.i.alloc _);have R3:=ab (show fU w3 w3.a.j A n l by rw[hw3];exact(R2.i.alloc (av _) _).lF (by simp));have hlt:=b2.i.lt;have hs3:W.a.j<k:=by rw[hk];exact hlt
  rw[<-hw3,<-hk];have B4:=ab (show aL W.a.j W w3 by rw[hw3];exact B3.i.alloc B3.i.j _);clear hk hw3 hlt R2 b2 B2 B3 B0 b0;have C4:=ab (Nl w3 A n c l 4 4 rfl (by omega) hnc (by omega) R3.i);have hk3:=x3.i.lt;go_upto_region 11 with(go_at_call 177;refine C4.i.g ?_;rintro e w4 ⟨rfl,hb4⟩;have b4:=ab (b3.i.go hb4);have x4:=ab (x3.i.go hb4);have B5:=ab (B4.i.trans (hb4.g B4.i.j));obtain⟨x5,x6,x7,x8⟩:=x4.i.K;clear hb4)
  obtain⟨t,ht⟩:=cB (eZ l 4);have G0:=ab (show qp 17 l=⟨eZ l 0,eZ l 2,0,8,(t:Nat)⟩by unfold qp;rw[if_neg (by decide),<-ht]);rw[<-ht];clear ht;have X2:=x4.i.eF 4 (.b .a (t:Int));rw[Pt.Qn]at X2;have b5:=b4.i.dN ⟨k,4,none⟩ (.b .a (t:Int)) (by show k≠_;omega);have B6:=B5.i.F (p:=⟨k,4,none⟩) (mG hs3) (.b .a (t:Int));clear x3 b3 B4 R3 x4 b4 B5 x5 x6 x7 x8 C4;generalize w4.F ⟨k,4,none⟩ (.b .a (t:Int))=w5 at *;have N20:=ab (show¬l.a<(if(17:Int)=6 then 20 else 8)by rw[if_neg (by decide),hl.i];exact h20);have HE:=ab (fun(x:Pt)=>show dK (gT w5 W.a.j 0 x.ay) W.a.j x.ay/\aL W.a.j W (gT w5 W.a.j 0 x.ay)from⟨b5.put x.ay (by rw[Pt.G,Pt.G]),kZ B6 _ _ _ (av _)⟩);have yE:=b5.M 0 5 (by rw[Pt.G];omega);obtain⟨y1,y2,y3,y4⟩:=X2.K;clear b5 B6 X2;by_cases e1:t<8
  ·have q:(t:Int)<8:=by omega
   have H:=ab (show I5 17 l=(qJ,3)from uD (by unfold uT;rw[if_neg HP.i,if_neg N20.i,if_pos (.b (by rw[G0.i];exact q))]) (by decide));go_wp2;refine aN (TJ.qC rfl _ rfl (HE.i qJ).1 (Pt.G _)) rfl ?_;rw[H.i];exact⟨rfl,(HE.i qJ).2⟩
  have q:¬(t:Int)<8:=by omega
  by_cases e2:n<t
  ·have q2:max (8:Int) t>n:=by omega
   have H:=ab (show I5 17 l=(qJ,2)from uD (by unfold uT;rw[if_neg HP.i,if_neg N20.i,if_neg (by rw[G0.i];rintro(h|h);exact p6 h.1;exact q h),if_pos (by rw[G0.i,hl.i];exact q2)]) (by decide));go_wp2;refine aN (TJ.qC rfl _ rfl (HE.i qJ).1 (Pt.G _)) rfl ?_;rw[H.i];exact⟨rfl,(HE.i qJ).2⟩
  have q2:¬max (8:Int) t>n:=by omega
  have H:=ab (show I5 17 l=(qp 17 l,0)from Vz (by unfold uT;rw[if_neg HP.i,if_neg N20.i,if_neg (by rw[G0.i];rintro(h|h);exact p6 h.1;exact q h),if_neg (by rw[G0.i,hl.i];exact q2)]));rw[G0.i]at H;go_wp2;refine aN (TJ.qC rfl _ rfl (HE.i ⟨eZ l 0,eZ l 2,0,8,(t:Nat)⟩).1 (Pt.G _)) rfl ?_;rw[H.i];exact⟨rfl,(HE.i _).2⟩
def I6(n:Nat):Array aB:=((dX n (0:UInt8)).map bv).b
theorem adh(n:Nat):(I6 n).j=n:=by simp[I6]
theorem afI(n:Nat):madeCells (aI .b 0).D n=I6 n:=by
 apply dZ;intro j;rcases aY j n with h|h
 ·simp[madeCells,I6,cK,bv,h,Nat.mod_one]
 ·rw[aU (by simp[madeCells];omega),aU (by rw[adh];omega)]
theorem aja(n:Nat)(hn:n<=16777216)(w:ak):(xD 56 (.b .a (n:Int)) (.b .a (n:Int))).I ah w = .Z (.a (some ⟨w.a.j,0,none⟩) n n) (w.alloc (.D (I6 n) 5)):=by
 obtain⟨i0,hi0,hz0,hz1,hz2⟩:=zo;have:=run_makeSlice w 56 5 i0 _ cu hi0 hz0 .a .a (n:Int) (n:Int) (by omega) (Int.le_refl _) (by rw[hz1];simp;omega) (by rw[hz2];omega) (by omega);rw[this,hz1,Int.toNat_natCast,gH,afI]
def qQ(p:Int)(l:List UInt8):Nat:=if p=0\/p=43\/p=60 then nM l 1*4+nM l 1*4+8 else if p=51 then nM l 1*4+8 else if p=44 then 8 else 0
def zI(p:Int):Bool:=decide (p=0\/p=43\/p=60\/p=51\/p=44)
theorem Q8(p:Int)(l:List UInt8):(0<qQ p l)↔zI p=true:=by
 unfold qQ zI;rw[decide_eq_true_eq];split
 ·rename_i h;constructor
  ·intro _;rcases h with h|h|h<;>simp[h]
  ·intro _;omega
 ·split
  ·rename_i h;simp[h]
  ·split
   ·rename_i h;simp[h]
   ·simp;omega
theorem afJ(p:Int)(l:List UInt8):qQ p l<=2048:=by
 have:=uS l 1;unfold qQ
 repeat(first|split|omega)
theorem Q9(p:Int)(A:Option aT)(n c B:Nat)(l:List UInt8)(W:ak)(h2:2<=n)(hr:fU W B A n l):aP ah 251 #[.b .a p,.a A n c] W fun e W'=>e=.a (.b .a (qQ p l))/\W=W':=by
 obtain⟨a,rfl,hc⟩:=hr.Xt 0 (by omega);have i1:1<n:=by omega
 have E:=ab (show∀b,b=nM l 1->qQ p l=if p=0\/p=43\/p=60 then b*4+b*4+8 else if p=51 then b*4+8 else if p=44 then 8 else 0 from fun b h=>by rw[h];rfl);obtain⟨b,hb⟩:=cB (nM l 1);have XJ:b<256:=by rw[hb];exact uS l 1
 have E:=ab (E.i b hb);rw[<-hb]at hc;clear hb hr;have w1:=jS (b:Int) (by omega);have w2:=jS ((b:Int)*4) (by omega);have w3:=jS ((b:Int)*4+b*4) (by omega);have w4:=jS ((b:Int)*4+b*4+8) (by omega);have w5:=jS ((b:Int)*4+8) (by omega);by_cases p0:p=0
 ·subst p0
  go_enter Ch,Ae;go_wp2;go_ret;exact⟨by rw[E.i];simp,rfl⟩
 by_cases p43:p=43
 ·subst p43
  go_enter Ch,Ae;go_wp2;go_ret;exact⟨by rw[E.i];simp,rfl⟩
 by_cases p60:p=60
 ·subst p60
  go_enter Ch,Ae;go_wp2;go_ret;exact⟨by rw[E.i];simp,rfl⟩
 by_cases p51:p=51
 ·subst p51
  go_enter Ch,Ae;go_wp2;go_ret;exact⟨by rw[E.i];simp,rfl⟩
 by_cases p44:p=44
 ·subst p44
  go_enter Ch,Ae;go_wp2;go_ret;exact⟨by rw[E.i];simp,rfl⟩
 have q0:(p==0)=false:=by simp[p0]
 have q43:(p==43)=false:=by simp[p43]
 have q60:(p==60)=false:=by simp[p60]
 have q51:(p==51)=false:=by simp[p51]
 have q44:(p==44)=false:=by simp[p44]
 go_enter Ch,Ae;go_wp2;go_ret;exact⟨by rw[E.i];simp[p0,p43,p60,p51,p44],rfl⟩
@[go_sem]theorem aue(w:ak):(xD 56 (.b .a 8) (.b .a 8)).I ah w = .Z (.a (some ⟨w.a.j,0,none⟩) 8 8) (w.alloc (.D (I6 8) 5)):=aja 8 (by decide) w
theorem fU.auf(W:ak):fU (W.alloc (.D (I6 8) 5)) (W.a.j+1) (some ⟨W.a.j,0,none⟩) 8 (dX 8 0):=by
 refine fU.Nq (l:=dX 8 0) (mF _) (fun j hj=>?_);rw[mQ,bB];rcases j with _|_|_|_|_|_|_|_|j
 all_goals first|rfl|(simp at hj;omega)
theorem VD(p:Int)(W:ak):aP ah 250 #[.b .a p] W (gD W (.e (zI p))):=by
 have C:=ab (Q9 p _ 8 8 _ _ _ (by decide) (fU.auf W));have B:=ab ((aG W.a.j W).alloc (av _) (.D (I6 8) 5));have E:=ab (Q8 p (dX 8 0));generalize qQ p (dX 8 0)=x at *;go_enter Tryz.func250,Tryz.ntmps250;go_wp2_with (go_at_call 251;refine C.i.g ?_;rintro e w ⟨rfl,rfl⟩);go_ret;have e:decide (0<x)=zI p:=by rw[bV,<-E.i,decide_eq_true_eq]
 exact⟨congrArg (fun z=>tX (.e z)) e,B.i⟩
def Ls(r:List UInt8):Bool:=decide (nM r 2≠0\/nM r 3/8≠0\/nM r 3%2=1)
theorem ajb:∀a:Fin 256,∀b:Fin 256,((256*a.val+b.val) &&& 65529==0) = !(decide (a.val≠0\/b.val/8≠0\/b.val%2=1)):=by decide +kernel
theorem apM(l:List UInt8)(k:Nat):eZ l k=256*nM l k+nM l (k+1):=rfl
theorem amm(r:List UInt8):(bits .and .a (eZ r 2:Nat) 65529 != 0)=Ls r:=by
 have h1:(fZ 64 (eZ r 2:Nat)).e=eZ r 2:=by rw[lU,ny];exact fP (by have:=vE r 2;omega)
 have h2:eZ r 2 &&& 65529<=eZ r 2:=Nat.and_le_left;have h3:=vE r 2;have:bits .and .a (eZ r 2:Nat) 65529=((eZ r 2 &&& 65529:Nat):Int):=by
  show bR.wrap ((fZ 64 (eZ r 2:Nat) &&& fZ 64 65529).e:Int)=_;rw[EX,h1,show(fZ 64 65529).e=65529 by decide,jS _ (by omega)]
 rw[this];have h4:=ajb ⟨nM r 2,uS r 2⟩ ⟨nM r 3,uS r 3⟩;simp only at h4;rw[<-apM]at h4;unfold Ls;rw[bV,bne_iff_ne];have h5:=congrArg (fun z=>!z) h4;simp only[Bool.not_not]at h5;rw[<-h5];simp
def yF:Nat->Sx->List UInt8->Sx×Int
 | 0,x,_=>if x.oI=true\/zI x.aQ=false then(x,0)else(qD,4)
 | f+1,x,r=>
   if x.oI=true\/zI x.aQ=false then(x,0)
   else if r.a<8\/r.a<qQ x.aQ r then(qD,2)
   else yF f ⟨x.head+qQ x.aQ r,x.dz,x.GY,decide (x.aQ=44)&&Ls r,x.GZ+1,(nM r 0:Nat),x.h,x.X⟩ (r.f (qQ x.aQ r))
def ajc(l:List UInt8):fC:=⟨true,qd 16 l⟩
def sx0(l:List UInt8):Sx:=⟨40,40+eZ l 4,(nM l 7:Nat),false,0,(nM l 6:Nat),ajc (l.f 8),ajc (l.f 24)⟩
def Aq(l:List UInt8):Sx×Int:=
 if l.a<40 then(qD,2)else if nM l 0/16≠6 then(qD,3)else if l.a<40+eZ l 4 then(qD,2)
 else yF 8 (sx0 l) ((l.d (40+eZ l 4)).f 40)
theorem Nr{f:Nat}{x:Sx}{r:List UInt8}(h:x.oI=true\/zI x.aQ=false):yF f x r=(x,0):=by cases f<;>simp[yF,h]
theorem YF{x:Sx}{r:List UInt8}(h:x.oI=false)(h':zI x.aQ=true):yF 0 x r=(qD,4):=by simp[yF,h,h']
theorem Lu{f:Nat}{x:Sx}{r:List UInt8}(h:x.oI=false)(h':zI x.aQ=true)(hs:r.a<8\/r.a<qQ x.aQ r):yF (f+1) x r=(qD,2):=by simp[yF,h,h',hs]
theorem YG{f:Nat}{x:Sx}{r:List UInt8}(h:x.oI=false)(h':zI x.aQ=true)(hs:¬(r.a<8\/r.a<qQ x.aQ r)):
 yF (f+1) x r=yF f ⟨x.head+qQ x.aQ r,x.dz,x.GY,decide (x.aQ=44)&&Ls r,x.GZ+1,(nM r 0:Nat),x.h,x.X⟩ (r.f (qQ x.aQ r)):=by simp[yF,h,h',hs]
theorem iq{place:Nat->Option (Nat×Nat)}{cells c':Array aB}{i off:Nat}{v:aB}{rest:List (Nat×aB)}(hp:place i=some (off,1))(hv:v.D = #[v])(hf:off+1<=cells.j)(h:cells.b off v=c'):fE place cells ((i,v)::rest)=fE place c' rest:=by
 rw[DY place cells i off 1 v rest hp (by rw[hv];rfl) hf,hv,akF,h]
theorem sI{place:Nat->Option (Nat×Nat)}{cells c' x:Array aB}{i off n:Nat}{rest:List (Nat×aB)}(hp:place i=some (off,n))(hx:x.j=n)(hf:off+n<=cells.j)(h:sw cells off x=c'):fE place cells ((i,.d x)::rest)=fE place c' rest:=by
 rw[DY place cells i off n (.d x) rest hp (by rw[Oy];exact hx) hf,Oy,h]
theorem Sx.Qn(x:Sx)(v:Int):x.ay.b 1 (.b .a v)=({x with dz:=v}:Sx).ay:=by simp[Sx.ay,aM,fC.G]
theorem Sx.apN(x:Sx)(v:Int):x.ay.b 2 (.b .a v)=({x with GY:=v}:Sx).ay:=by simp[Sx.ay,aM,fC.G]
theorem Sx.aa2(x:Sx)(t:fC):sw x.ay 6 t.ay=({x with h:=t}:Sx).ay:=by
 unfold Sx.ay;exact qL (by rw[fC.G,fC.G]) 6 rfl
theorem Sx.TM(x:Sx)(t:fC):sw x.ay 23 t.ay=({x with X:=t}:Sx).ay:=by
 unfold Sx.ay;have:=qL (p:=#[.b .a x.head,.b .a x.dz,.b .a x.GY,.e x.oI,.b .a x.GZ,.b .a x.aQ]++x.h.ay) (q:=x.X.ay) (r:=#[]) (v:=t.ay) (by rw[fC.G,fC.G]) 23 (by simp[fC.G]);simpa[fV]using this
theorem Sx.aaZ(x:Sx)(v:Vector UInt8 16):sw x.ay 7 (jd v)=({x with h:=⟨x.h.h,v⟩}:Sx).ay:=by
 unfold Sx.ay;rw[fC.I4 x.h,fC.I4 ⟨x.h.h,v⟩];have:=qL (p:=#[.b .a x.head,.b .a x.dz,.b .a x.GY,.e x.oI,.b .a x.GZ,.b .a x.aQ] ++ #[.e x.h.h]) (q:=jd x.h.b) (r:=x.X.ay) (v:=jd v) (by rw[dL,dL]) 7 rfl;simpa[fV]using this
theorem Sx.aaY(x:Sx)(v:Vector UInt8 16):sw x.ay 24 (jd v)=({x with X:=⟨x.X.h,v⟩}:Sx).ay:=by
 unfold Sx.ay;rw[fC.I4 x.X,fC.I4 ⟨x.X.h,v⟩];have:=qL (p:=#[.b .a x.head,.b .a x.dz,.b .a x.GY,.e x.oI,.b .a x.GZ,.b .a x.aQ]++x.h.ay ++ #[.e x.X.h]) (q:=jd x.X.b) (r:=#[]) (v:=jd v) (by rw[dL,dL]) 24 (by simp[fC.G]);simpa[fV]using this
@[go_sem]theorem aC5(W:ak)(a b c d:Int)(s t:fC):(uH 189 #[(0,.b .a a),(1,.b .a b),(5,.b .a c),(2,.b .a d),(6,.d s.ay),(7,.d t.ay)]).I ah W = .Z (.d (Sx.mk a b d false 0 c s t).ay) W:=kSx.bd W _ _ _ _ oW (atT W _ oW) (by
 refine(iq rfl rfl (by rw[Sx.G];omega) (Sx.Ni _ _)).trans ?_;refine(iq rfl rfl (by rw[Sx.G];omega) (Sx.Qn _ _)).trans ?_;refine(iq rfl rfl (by rw[Sx.G];omega) (Sx.YD _ _)).trans ?_;refine(iq rfl rfl (by rw[Sx.G];omega) (Sx.apN _ _)).trans ?_;refine(sI rfl (fC.G _) (by rw[Sx.G];omega) (Sx.aa2 _ _)).trans ?_;refine(sI rfl (fC.G _) (by rw[Sx.G];omega) (Sx.TM _ _)).trans ?_;rfl)
@[go_sem ↓]theorem aGo(ps:Array (Nat×aB)):fM 27 ps=uH 27 ps:=rfl
theorem ayi(w:ak)(fs:Array nS)(h:ah.k 27=some (.d fs)):(iy (fun f=>Prod.mk f.Y <$> sizeOf f.p) fs:wX (Array (Nat×Nat))).I ah w = .Z #[(0,1),(1,16)] w:=by
 have e:=fB;rw[h]at e;cases e;show _=_
 kernel_rfl
theorem fC.apO(x:fC)(v:Bool):x.ay.b 0 (.e v)=({x with h:=v}:fC).ay:=by rw[fC.I4,fC.I4];simp[aM]
@[go_sem]theorem av8(W:ak)(v:Bool):(uH 27 #[(0,.e v)]).I ah W = .Z (.d (fC.mk v mX.b).ay) W:=aaQ.bd W _ _ _ _ fB (ayi W _ fB) (by
 refine(iq rfl rfl (by rw[fC.G];omega) (fC.apO _ _)).trans ?_;rfl)
def Bx(L:List (Nat×Array aB))(W0 W:ak):Prop:=aL W0.a.j W0 W/\∀p∈L,W0.a.j<=p.1/\dK W p.1 p.2
section
variable {L:List (Nat×Array aB)} {W0 W W':ak} {q:Nat} {c:Array aB}
theorem Bx.start(W0:ak):Bx [] W0 W0:=⟨aG _ _,fun p hp=>by cases hp⟩
theorem Bx.R(h:Bx L W0 W):aL W0.a.j W0 W:=h.1
theorem Bx.go(h:Bx L W0 W)(hb:aL W.a.j W W'):Bx L W0 W':=⟨h.1.trans (hb.g h.1.j),fun p hp=>⟨(h.2 p hp).1,(h.2 p hp).2.go hb⟩⟩
theorem Bx.drew(h:Bx L W0 W):Bx L W0 W.drew:=⟨h.1.drew,fun p hp=>⟨(h.2 p hp).1,(h.2 p hp).2.drew⟩⟩
theorem Bx.drewN(h:Bx L W0 W)(k:Nat):Bx L W0 (W.drewN k):=⟨eH h.1 k,fun p hp=>⟨(h.2 p hp).1,(h.2 p hp).2.drewN k⟩⟩
theorem Bx.alloc(h:Bx L W0 W)(ob:Obj):Bx L W0 (W.alloc ob):=h.go ((aG _ _).alloc (av _) ob)
theorem Bx.new(h:Bx L W0 W)(c:Array aB)(t:bF):Bx ((W.a.j,c)::L) W0 (W.alloc (.D c t)):=
 ⟨h.1.alloc h.1.j _,fun p hp=>by
  rcases bg.1 hp with rfl|hp
  ·exact⟨h.1.j,dK.new W c t⟩
  ·exact⟨(h.2 p hp).1,(h.2 p hp).2.alloc _⟩⟩
theorem Bx.S(h:Bx ((q,c)::L) W0 W):dK W q c:=(h.2 (q,c) (by simp)).2
theorem Bx.g0(h:Bx ((q,c)::L) W0 W):W0.a.j<=q:=(h.2 (q,c) (by simp)).1
theorem Bx.Tq{p:Nat×Array aB}(h:Bx (p::L) W0 W):Bx L W0 W:=⟨h.1,fun r hr=>h.2 r (jZ _ hr)⟩
theorem Bx.b1{p:Nat×Array aB}(h:Bx (p::(q,c)::L) W0 W):dK W q c:=h.Tq.S
theorem Bx.b2{p p2:Nat×Array aB}(h:Bx (p::p2::(q,c)::L) W0 W):dK W q c:=h.Tq.Tq.S
theorem Bx.b3{p p2 p3:Nat×Array aB}(h:Bx (p::p2::p3::(q,c)::L) W0 W):dK W q c:=h.Tq.Tq.Tq.S
theorem Bx.swap{p p2:Nat×Array aB}(h:Bx (p::p2::L) W0 W):Bx (p2::p::L) W0 W:=⟨h.1,fun r hr=>h.2 r (by simp at hr⊢;rcases hr with h|h|h<;>simp[h])⟩
theorem Bx.sub{L':List (Nat×Array aB)}(h:Bx L W0 W)(hs:∀p∈L',p∈L):Bx L' W0 W:=⟨h.1,fun p hp=>h.2 p (hs p hp)⟩
theorem Bx.set(h:Bx ((q,c)::L) W0 W)(hL:∀p∈L,p.1≠q)(j:Nat)(u:aB):Bx ((q,c.b j u)::L) W0 (W.F ⟨q,j,none⟩ u):=
 ⟨h.1.F h.g0 u,fun p hp=>by
  rcases bg.1 hp with rfl|hp
  ·exact⟨h.g0,h.S.eF j u⟩
  ·have:=h.2 p (by simp[hp]);exact⟨this.1,this.2.dN _ u (fun e=>hL p hp e.symm)⟩⟩
theorem Bx.lay(h:Bx ((q,c)::L) W0 W)(hL:∀p∈L,p.1≠q)(o:Nat)(x:Array aB):Bx ((q,sw c o x)::L) W0 (gT W q o x):=
 ⟨kZ h.1 q o x h.g0,fun p hp=>by
  rcases bg.1 hp with rfl|hp
  ·exact⟨h.g0,by have:=h.S.setCells o x.a;simpa[gT]using this⟩
  ·have:=h.2 p (by simp[hp]);exact⟨this.1,this.2.gG (hL p hp)⟩⟩
theorem Bx.put(h:Bx ((q,c)::L) W0 W)(hL:∀p∈L,p.1≠q)(x:Array aB)(hx:x.j=c.j):Bx ((q,x)::L) W0 (gT W q 0 x):=
 ⟨kZ h.1 q 0 x h.g0,fun p hp=>by
  rcases bg.1 hp with rfl|hp
  ·exact⟨h.g0,h.S.put x hx⟩
  ·have:=h.2 p (by simp[hp]);exact⟨this.1,this.2.gG (hL p hp)⟩⟩
theorem Bx.Lv{A:Option aT}{n:Nat}{l:List UInt8}(h:Bx L W0 W)(hr:fU W0 W0.a.j A n l):fU W W.a.j A n l:=(hr.O h.1).lF h.1.j
theorem Bx.rdR{α:Type}{f:α->Array aB}{s:Nat}{A:Option aT}{n:Nat}{l:List α}(h:Bx L W0 W)(hr:iJ f s W0 W0.a.j A n l):iJ f s W W.a.j A n l:=(hr.O h.1).lF h.1.j
end
theorem fU.VE{w:ak}{B n:Nat}{a:aT}{l:List UInt8}(h:fU w B (some a) n l)(k:Nat)(hk:k+1<n):w.b ⟨a.block,a.off+(k+1),none⟩=some (.b .b (nM l (k+1))):=by
 obtain⟨_,he,hc⟩:=h.Xt k hk;cases he;exact hc
theorem fU.arR{w:ak}{B n:Nat}{a:aT}{l:List UInt8}(h:fU w B (some a) n l)(hk:0<n):w.b a=some (.b .b (nM l 0)):=by
 obtain⟨_,he,_,hc⟩:=h.fI hk;cases he;rw[Ox]at hc;exact hc
theorem fU.ahm{w:ak}{B n:Nat}{A:Option aT}{l:List UInt8}(h:fU w B A n l)(hk:0<n):∃a,A=some a/\a.block<B:=by
 obtain⟨a,he,hb,_⟩:=h.fI hk;exact⟨a,he,hb⟩
def vF(A:Option aT)(z c s:Nat):Option aT:=if c=z then A else A.map (·.add (z*s))
theorem fU.adi{w:ak}{B n:Nat}{A:Option aT}{l:List UInt8}(h:fU w B A n l){z b c:Nat}(hz:z<=b)(hb:b<=n)(hc:n<=c):fU w B (vF A z c 1) (b-z) ((l.d b).f z):=by
 have:=h.QX hz hb hc;rw[<-List.drop_take]at this;unfold vF;rw[gH];exact this
theorem fU.yD{w:ak}{B n:Nat}{A:Option aT}{l:List UInt8}(h:fU w B A n l){z c:Nat}(hz:z<=n)(hc:n<=c):fU w B (vF A z c 1) (n-z) (l.f z):=by
 have:=h.from hz hc
 unfold vF;rw[gH];exact this
section
variable {P:eG} (w:ak) (t:bF) (a:Option aT) (len cap:Nat) (ht:P.k t=some (.a (P.elem t)))
include ht
theorem iY(kl kh:IntKind)(l h:Int)(h0:0<=l)(h1:l<=h)(h2:h<=cap):
 (Instr.slice t (.a a len cap) (some (.b kl l)) (some (.b kh h)) none).I P w =
  ((sizeOf (P.elem t)).I P w).andThen fun s w=>.Z (.a (vF a l.e cap s) (h.e-l.e) (cap-l.e)) w:=by
 rw[run_slice_lh w t a len cap ht kl kh l h h0 h1 h2];rfl
theorem jH(kl:IntKind)(l:Int)(h0:0<=l)(h1:l<=len):
 (Instr.slice t (.a a len cap) (some (.b kl l)) none none).I P w =
  ((sizeOf (P.elem t)).I P w).andThen fun s w=>.Z (.a (vF a l.e cap s) (len-l.e) (cap-l.e)) w:=by
 rw[run_slice_l w t a len cap ht kl l h0 h1];rfl
end
section
variable {P:eG} {md:Region.Mode}
def kX(o:iZ):iZ:={o with op:=.move (.const undef)}
def FZ(ops:Array iZ)(k n d:Nat):Bool:=(dP n).all fun j=>j==k||(match ops[j]? with|some o=>!(o.looksAt ops).contains d&&o.X != some d|none=>true)
def Ra:List iZ->Bool
 | []=>true
 | o::l=>(match o.X with|some d=>l.all fun p=>p.X != some d|none=>true)&&Ra l
theorem Ga:∀{l:List iZ},Ra l=true->∀{i j:Nat} {oi oj:iZ} {d:Nat},l[i]? = some oi->l[j]? = some oj->oi.X=some d->oj.X=some d->i=j
 | [],_,i,j,oi,oj,d,hi,_,_,_=>by simp at hi
 | o::l,h,i,j,oi,oj,d,hi,hj,di,dj=>by
   simp only[Ra,bl]at h;obtain⟨h1,h2⟩:=h;rcases i with _|i<;>rcases j with _|j
   ·rfl
   ·simp at hi hj
    subst hi;rw[di]at h1;have:=gJ.1 h1 oj (List.mem_of_getElem? hj);simp[dj]at this
   ·simp at hi hj
    subst hj;rw[dj]at h1;have:=gJ.1 h1 oi (List.mem_of_getElem? hi);simp[di]at this
   ·simp at hi hj
    rw[Ga h2 hi hj di dj]
def Xu(P:eG)(md:Region.Mode)(ops:Array iZ)(C:ak->Prop)(n g:Nat)(aF:qR):Nat->Array Bool->qR->Prop:=
 wqL P md ops C n (fun listed a=>lu md ops g n listed=true/\a=aF)
theorem Ns{listed:Array Bool}{j:Nat}(h:listed.c j true=false){i:Nat}(hij:j≠i):(listed.b i true).c j true=false:=by rw[wY true (jr hij)];exact h
theorem DK{listed:Array Bool}{i j:Nat}(h:(listed.b i true).c j true=false):listed.c j true=false:=by
 by_cases hij:i=j
 ·subst hij
  rcases aY i listed.j with h1|h1
  ·simp[h1]at h
  ·simp[aU h1]at h
 ·rwa [wY true hij]at h
theorem zJ{listed:Array Bool}{i j:Nat}(h:(listed.b i true).c j true=false):j≠i:=by
 rintro rfl;rcases aY j listed.j with h1|h1
 ·simp[h1]at h
 ·simp[aU h1]at h
theorem Bz{ops:Array iZ}{C:ak->Prop}{n g:Nat}{aF:qR}:∀(f:Nat)(listed:Array Bool)(a:qR),Xu P md ops C n g aF f listed a ->
 aF.defers=a.defers/\aF.tmps.j=a.tmps.j/\∀d,(∀j oj,ops[j]? = some oj->listed.c j true=false->oj.X≠some d)->aF.tmps[d]? = a.tmps[d]?
 | 0,listed,a,h=>by obtain⟨_,rfl⟩:=h;exact⟨rfl,rfl,fun _ _=>rfl⟩
 | f+1,listed,a,h=>by
   obtain⟨h0,h1⟩:=h;obtain⟨i,hi⟩:=List.exists_mem_of_ne_nil _ h0;obtain⟨hun,oi,hoi,_⟩:=kH.1 hi;obtain⟨v,_,hK⟩:=qN hoi (h1 i hi).2;obtain⟨e1,e2,e3⟩:=Bz f _ _ hK;have ed:(a.put oi.X v).defers=a.defers:=by cases oi.X<;>rfl
   have es:(a.put oi.X v).tmps.j=a.tmps.j:=by cases oi.X<;>simp[lD]
   refine⟨e1.trans ed,e2.trans es,fun d hd=>?_⟩;rw[e3 d fun j oj hj hl=>hd j oj hj (DK hl)];have:=hd i oi hoi hun;cases h2:oi.X with
   | none=>rfl
   | some e=>
     have:e≠d:=fun e'=>this (by rw[h2,e'])
     simp[lD,dQ,this]
theorem adj{l:List iZ}(hD:Ra l=true){C C':ak->Prop}{n g f:Nat}{aF:qR}{listed:Array Bool}{a:qR}{i:Nat}{oi:iZ}(hi:i∈gq md l.b listed)(hoi:l.b[i]? = some oi)
 (h:Xu P md l.b C n g aF (f+1) listed a) (h':Xu P md l.b C' n g aF (f+1) listed a) :
 ∃v v',YieldsIn P l.b C oi v a/\Xu P md l.b C n g aF f (listed.b i true) (a.put oi.X v)/\YieldsIn P l.b C' oi v' a/\Xu P md l.b C' n g aF f (listed.b i true) (a.put oi.X v')/\a.put oi.X v=a.put oi.X v':=by
 obtain⟨v,hy,hK⟩:=qN hoi (h.2 i hi).2;obtain⟨v',hy',hK'⟩:=qN hoi (h'.2 i hi).2;refine⟨v,v',hy,hK,hy',hK',?_⟩;cases hd:oi.X with
 | none=>rfl
 | some d=>
   have hno:∀j oj,l.b[j]? = some oj->(listed.b i true).c j true=false->oj.X≠some d:=fun j oj hj hl hdj=>by
    have:=Ga hD (by simpa using hoi) (by simpa using hj) hd hdj;exact zJ hl this.symm
   have e1:=(Bz f _ _ hK).2.2 d hno;have e2:=(Bz f _ _ hK').2.2 d hno;rw[hd]at e1 e2;have e:=e1.symm.trans e2;simp only[lD,dQ,if_pos]at e ⊢;by_cases hs:d<a.tmps.j
   ·simp[hs]at e;rw[e]
   ·have hs':=Nat.le_of_not_lt hs
    rw[jR hs',jR hs']
theorem Nu(a:qR)(d:Nat)(u v:aB):(a.put (some d) u).put (some d) v=a.put (some d) v:=by simp[lD]
theorem Gz{ops:Array iZ}{C:ak->Prop}{o:iZ}{a:qR}{K:qR->Prop}{K':qR->ak->Prop}{Q':zO->qR->ak->Prop}{w:ak}{d:Nat}{u:aB}(hs:∀cs b,o.op≠.select cs b)(hl:d∉o.looksAt ops)(hd:o.X≠some d)
 (hw:C w) (h:∀a w',C w'->K a->K' (a.put (some d) u) w') (hh:o.quiet P a C K):o.wp P (a.put (some d) u) w K' Q':=by
 obtain⟨v,h1,h2⟩:=hh;have h3:=h1 w hw;have e:execOp (a.put (some d) u).eval o=execOp a.eval o:=execOp_put o hs a (some d) u (fun e he=>by cases he;exact hl);have c:∀x,(a.put (some d) u).put o.X x=(a.put o.X x).put (some d) u:=fun x=>Act.put_comm a u x (fun e he=>by cases he;exact hd)
 unfold Oper.quietAt at h3;unfold ni;rw[e];generalize(execOp a.eval o).I P w=r at *;cases r with
 | ok n w'=>
   cases n<;>simp only[Oper.quietUpon]at h3<;>simp only[LU]
   case value x=>
    obtain⟨e1,e2⟩:=h3;rw[e1,e2,c];exact h _ _ hw h2
   case skip=>
    obtain⟨e1,e2⟩:=h3;rw[e1,c,<-e2];exact h _ _ hw h2
   case enter f args=>
    obtain⟨e1,hc⟩:=h3;rw[e1];exact hc.g fun e w'' ⟨he,hw''⟩=>by subst he;dsimp only;rw[c];exact h _ _ hw'' h2
 | halt x w'=>simp only[Oper.quietUpon]at h3
def Shut(S:ak->Prop):Prop:=∀w w',S w->aL w.a.j w w'->S w'
theorem adk{l:List iZ}{k:Nat}{o:iZ}(hk:l[k]? = some o)(tmps:Array aB):yielded (l.set k (kX o)).b tmps=yielded l.b tmps:=by
 funext j;unfold yielded;have:((l.set k (kX o)).b[j]?).bind (·.X)=(l.b[j]?).bind (·.X):=by
  simp only[dV,fJ];split
  ·rename_i h
   subst h;have:=(iE.1 hk).1;rw[hk];simp[this,kX]
  ·rfl
 rw[this]
theorem adl{l:List iZ}{k:Nat}{o:iZ}(hk:l[k]? = some o)(listed:Array Bool):gq md (l.set k (kX o)).b listed=gq md l.b listed:=by
 unfold gq;have hsz:(l.set k (kX o)).b.j=l.b.j:=by simp
 rw[hsz];refine EM fun i _=>?_
 by_cases hik:i=k
 ·subst hik
  obtain⟨hl,hlo⟩:=iE.1 hk;simp[fJ,hl,hlo,kX]
 ·simp[fJ,jr hik]
theorem JU{l:List iZ}{k:Nat}{o:iZ}(hk:l[k]? = some o)(listed:Array Bool)(i:Nat):i∈gq md (l.set k (kX o)).b listed↔i∈gq md l.b listed:=by rw[adl hk]
section
variable {l:List iZ} {k n g d:Nat} {o:iZ} {T:bF} {z:Array aB} {aF:qR} {Q:zO->qR->ak->Prop}
theorem YH(hk:l[k]? = some o){i:Nat}(hik:i≠k):(l.set k (kX o)).b[i]? = l.b[i]?:=by
 simp[fJ,jr hik]
theorem VF(hA:FZ l.b k n d=true){i:Nat}{oi:iZ}(hin:i<n)(hik:i≠k)(hoi:l.b[i]? = some oi):d∉oi.looksAt l.b/\oi.X≠some d:=by
 have:=gJ.1 hA i (eO.2 hin);simp only[hoi,nu,beq_iff_eq,bl]at this;rcases this with h|h
 ·exact absurd h hik
 ·exact⟨by simpa using h.1,by simpa using h.2⟩
theorem VG(hk:l[k]? = some o)(oi:iZ)(tmps:Array aB):fF oi (yielded (l.set k (kX o)).b tmps)=fF oi (yielded l.b tmps):=by rw[adk hk]
theorem Lx(hk:l[k]? = some o)(hA:FZ l.b k n d=true)(hsel:∀(j:Nat)(o:iZ) cs b,l.b[j]? = some o->o.op≠.select cs b){C:ak->Prop}{u:aB}
 (hend:∀listed w',C w'->lu md (l.set k (kX o)).b g n listed=true->wpAny P md l.b Q g listed (aF.put (some d) u) w') :
 ∀(f:Nat)(listed:Array Bool)(a:qR)(w:ak),listed.c k true=true->C w->Xu P md (l.set k (kX o)).b C n g aF f listed a->wpAny P md l.b Q (f+g) listed (a.put (some d) u) w
 | 0,listed,a,w,hun,hw,h=>by
   obtain⟨h1,rfl⟩:=h;rw[bB];exact hend _ _ hw h1
 | f+1,listed,a,w,hun,hw,h=>by
   rw[show f+1+g=(f+g)+1 by omega];refine⟨fun h0=>absurd ?_ h.1,fun i hi=>?_⟩
   ·rw[tC]
    intro i hi;rw[JU hk]at hi;rw[h0]at hi;cases hi
   ·have hi':=(JU hk listed i).2 hi
    have hik:i≠k:=fun e=>by
     subst e;have:=(kH.1 hi).1;rw[hun]at this;cases this
    obtain⟨_,oi,hoi,_⟩:=kH.1 hi;obtain⟨hin,hq⟩:=h.2 i hi';obtain⟨hl,hd⟩:=VF hA hin hik hoi;have hun':∀i,(listed.b i true).c k true=true:=fun i=>by
     by_cases e:i=k
     ·subst e
      rcases aY i listed.j with h1|h1
      ·simp[h1]
      ·simp[aU h1]
     ·rw[wY true e];exact hun
    unfold qOp at hq;rw[YH hk hik,hoi]at hq;unfold wpOp;simp only[hoi];simp only[VG hk]at hq;rw[wanted_put oi a (some d) u (fun e he=>by cases he;exact hl)];split
    ·rename_i hw2
     simp only[hw2,if_true]at hq;exact .a (Gz (fun cs b=>hsel i oi cs b hoi) hl hd hw (fun a' w' hw' h'=>Lx hk hA hsel hend f _ a' w' (hun' i) hw' h') hq)
    ·rename_i hw2
     simp only[hw2]at hq;rw[Act.put_comm a u undef (fun e he=>by cases he;exact hd)];exact Lx hk hA hsel hend f _ _ w (hun' i) hw hq
theorem VH{S:ak->Prop}(hS:Shut S)(w0:ak):Shut fun w=>S w/\aL w0.a.j w0 w:=fun w w' h hb=>⟨hS w w' h.1 hb,h.2.trans (hb.g h.2.j)⟩
theorem YI(hk:l[k]? = some o)(hkn:k<n)(hA:FZ l.b k n d=true)(hD:Ra (l.set k (kX o))=true)(hsel:∀(j:Nat)(o:iZ) cs b,l.b[j]? = some o->o.op≠.select cs b)
 (hod:o.X=some d) (hog:o.guard=none) (hoa:o.after = #[]) (hrun:∀(a:qR) w,(execOp a.eval o).I P w = .Z (.value (.c (some ⟨w.a.j,0,none⟩))) (w.alloc (.D z T))) {S:ak->Prop} (hS:Shut S)
 (hend:∀listed w1 w',S w1->S w'->aL (w1.alloc (.D z T)).a.j (w1.alloc (.D z T)) w'->lu md (l.set k (kX o)).b g n listed=true->wpAny P md l.b Q g listed (aF.put (some d) (.c (some ⟨w1.a.j,0,none⟩))) w') :
 ∀(f:Nat)(listed:Array Bool)(a:qR)(w:ak),listed.j=l.a->listed.c k true=false->S w->(∀C:ak->Prop,(∀w,C w->S w)->Shut C->(∃w,C w)->Xu P md (l.set k (kX o)).b C n g aF f listed a)->wpAny P md l.b Q (f+g) listed a w
 | 0,listed,a,w,hsz,hun,hw,H=>by
   obtain⟨h1,_⟩:=H S (fun _ h=>h) hS ⟨w,hw⟩;have hkl:k<l.a:=(iE.1 hk).1;have:k∈gq md (l.set k (kX o)).b listed:=kH.2 ⟨hun,kX o,by simp[fJ,hkl],fun e he=>by simp[kX,hoa]at he⟩;have:=seqB_ready h1 k this;omega
 | f+1,listed,a,w,hsz,hun,hw,H=>by
   rw[show f+1+g=(f+g)+1 by omega];have H0:=H S (fun _ h=>h) hS ⟨w,hw⟩;have hkl:k<l.a:=(iE.1 hk).1;refine⟨fun h0=>absurd ?_ H0.1,fun i hi=>?_⟩
   ·rw[tC]
    intro i hi;rw[JU hk]at hi;rw[h0]at hi;cases hi
   ·have hi':=(JU hk listed i).2 hi
    by_cases hik:i=k
    ·subst hik
     unfold wpOp;simp only[dV,hk];rw[if_pos (by simp[fF,hog])];refine .a ?_;unfold ni;rw[hrun];simp only[LU,hod];have hC:=H (fun w'=>S w'/\aL (w.alloc (.D z T)).a.j (w.alloc (.D z T)) w') (fun _ h=>h.1) (VH hS _) ⟨_,hS _ _ hw ((aG _ _).alloc (av _) _),aG _ _⟩;obtain⟨v,_,hK⟩:=qN (o:=kX o) (by simp[fJ,hkl]) (hC.2 i hi').2;have:=Lx (C:=fun w'=>S w'/\aL (w.alloc (.D z T)).a.j (w.alloc (.D z T)) w') (u:=.c (some ⟨w.a.j,0,none⟩)) hk hA hsel (fun listed' w' hw' hB=>hend listed' w w' hw hw'.1 hw'.2 hB) f _ _ (w.alloc (.D z T)) (by
      have:i<listed.j:=by rw[hsz];exact hkl
      simp[this]) ⟨hS _ _ hw ((aG _ _).alloc (av _) _),aG _ _⟩ hK
     have e:(kX o).X=some d:=hod;rw[e,Nu]at this;exact this
    ·obtain⟨_,oi,hoi,_⟩:=kH.1 hi
     have afK:(l.set k (kX o)).b[i]? = some oi:=by rw[YH hk hik];exact hoi
     obtain⟨v,hy,hK⟩:=qN afK (H0.2 i hi').2;have hq:qOp P l.b S i (fun a'=>a'=a.put oi.X v) a:=by
      unfold qOp;simp only[hoi];unfold YieldsIn at hy;simp only[VG hk]at hy;rcases hy with⟨h1,h2⟩|⟨h1,rfl⟩
      ·simp only[h1,if_true];exact⟨v,h2,rfl⟩
      ·simp only[h1,jI,if_false]
     refine wpOp_of_qOp hw (fun a' w' hw' e=>?_) hq;subst e;refine YI hk hkn hA hD hsel hod hog hoa hrun hS hend f _ _ w' (by simp[hsz]) (Ns hun (jr hik)) hw' (fun C hC1 hC2 hC3=>?_);obtain⟨_,v2,_,_,_,hK2,_⟩:=adj hD hi' afK H0 (H C hC1 hC2 hC3);have e1:a.put oi.X v=a.put oi.X v2:=by
      cases hd:oi.X with
      | none=>rfl
      | some dd=>
        have hno:∀j oj,(l.set k (kX o)).b[j]? = some oj->(listed.b i true).c j true=false->oj.X≠some dd:=fun j oj hj hl hdj=>by
         have:=Ga hD (by simpa using afK) (by simpa using hj) hd hdj;exact zJ hl this.symm
        have q1:=(Bz f _ _ hK).2.2 dd hno;have q2:=(Bz f _ _ hK2).2.2 dd hno;rw[hd]at q1 q2;have q:=q1.symm.trans q2;simp only[lD,dQ,if_pos]at q ⊢;by_cases hs:dd<a.tmps.j
        ·simp[hs]at q;rw[q]
        ·have hs':=Nat.le_of_not_lt hs
         rw[jR hs',jR hs']
     rw[e1];exact hK2
end
theorem Bx.aa3(L:List (Nat×Array aB))(W0:ak):Shut (Bx L W0):=fun _ _ h hb=>h.go hb
theorem Qp{S:ak->Prop}(hS:Shut S)(k n d:Nat){id:Nat}{Q:zO->qR->ak->Prop}{a:qR}{w:ak}{l:List iZ}{o:iZ}(T:bF)(z:Array aB)(hm:P.follows .mixedOrders=true)
 (hk:l[k]? = some o) (hB:wZ .any (l.set k (kX o)).b n=true) (hkn:k<n) (hn':n<l.a) (hA:FZ l.b k n d=true) (hD:Ra (l.set k (kX o))=true) (hsel:Region.noSelect l.b=true)
 (hod:o.X=some d) (hog:o.guard=none) (hoa:o.after = #[]) (hrun:∀(a:qR) w,(execOp a.eval o).I P w = .Z (.value (.c (some ⟨w.a.j,0,none⟩))) (w.alloc (.D z T))) (h0:S w.drew)
 (hh:∃aF:qR,(∀(T:Type)(f:T->ak),Nonempty T->(∀m,S (f m))->(∀m w',aL (f m).a.j (f m) w'->∃m',w'=f m')->wpQuiet P (l.set k (kX o)).b (fun w'=>∃m,w'=f m) (fun a'=>a'=aF) ((l.set k (kX o)).d n) a)
 /\ (∀w1 w',S w1->S w'->aL (w1.alloc (.D z T)).a.j (w1.alloc (.D z T)) w'->wpList P l.b Q (l.f n) (aF.put (some d) (.c (some ⟨w1.a.j,0,none⟩))) w')):(Code.region id l.b true).wp P Q a w:=by
 obtain⟨aF,h,h2⟩:=hh;simp only[wZ,bl,decide_eq_true_eq]at hB;obtain⟨⟨⟨⟨amn,hn⟩,hs⟩,hc⟩,hlex⟩:=hB;have hlen:(l.set k (kX o)).a=l.a:=by simp
 have hsz:(l.set k (kX o)).b.j=l.b.j:=by simp
 have htl:((l.set k (kX o)).d n).a=n:=by simp;omega
 have hdl:(l.f n).a=l.b.j-n:=by simp
 have inv0:HeadInv .any (l.set k (kX o)).b n (ng l.b.j false):=
  ⟨by simp,fun j oj _ hl=>(by rw[mI]at hl;cases hl),fun t _ ht=>getD_in (by simpa using ht) (mI _ _)⟩
 refine wp_region_any hm ?_;rw[hsz]at hlex;have hseq:∀listed,lu .any (l.set k (kX o)).b (l.b.j-n) n listed=true->lu .any l.b (l.b.j-n) n listed=true:=by
  have:∀(g:Nat)(j:Nat) listed,lu .any (l.set k (kX o)).b g j listed=true->lu .any l.b g j listed=true:=by
   have he:∀listed,gq .any (l.set k (kX o)).b listed=gq .any l.b listed:=adl hk;intro g
   induction g with
   | zero=>intro j listed h;simp only[lu]at h⊢;rwa [he]at h
   | succ g ih=>intro j listed h;simp only[lu,bl]at h⊢;rw[he]at h;exact⟨h.1,ih _ _ h.2⟩
  exact fun listed=>this _ _ listed
 have:=YI (P:=P) (md:=.any) (g:=l.b.j-n) (aF:=aF) (Q:=Q) hk hkn hA hD (Region.noSelect_spec hsel) hod hog hoa hrun hS (fun listed w1 w' hw1 hw' hb hq=>by
  have:=wpAny_of_seq (P:=P) (md:=.any) (Q':=Q) (ops:=l.b) (l.f n) n listed (aF.put (some d) (.c (some ⟨w1.a.j,0,none⟩))) w' (fun j=>by simp[jo]) (by rw[hdl];exact hseq _ hq) (h2 w1 w' hw1 hw' hb)
  rwa [hdl]at this) n (ng l.b.j false) a {w with drawn:=w.drawn+1} (by simp) (getD_in (by simp;omega) (mI _ _)) h0 (fun C hC1 hC2 hC3=>by
  have hq:=h {w // C w} Subtype.val (let⟨w,hw⟩:=hC3;⟨⟨w,hw⟩⟩) (fun m=>hC1 _ m.2) (fun m w' hb=>⟨⟨w',hC2 _ _ m.2 hb⟩,rfl⟩);have e:(fun w':ak=>∃m:{w // C w},w'=m.val)=C:=by
   funext w';rw[eq_iff_iff];exact⟨fun⟨m,hm⟩=>by rw[hm];exact m.2,fun h=>⟨⟨w',h⟩,rfl⟩⟩
  rw[e]at hq;have:=aap (md:=.any) (C:=C) (g:=l.b.j-n) amn hs hc hn ((l.set k (kX o)).d n) 0 (ng l.b.j false) a (fun j hj=>by
   have hj':j<n:=by rw[htl]at hj;exact hj
   rw[gY hj',bB];simp) (by simpa using htl) inv0 (by rw[htl];exact hlex) hq
  rw[htl]at this;exact this)
 rw[show n+(l.b.j-n)=l.b.j by simp;omega]at this;exact this
end
section
attribute [local go_sem high] iY jH
def slN:aB->Nat
 | .a _ n _=>n
 | _=>0
def SxP(W:ak)(r:Sx×Int)(e:lq)(W':ak):Prop:=e=.a (.J #[.d r.1.ay,.b .a r.2])/\aL W.a.j W W'
theorem Rb(W:ak)(A:Option aT)(n c:Nat)(l:List UInt8)(hnc:n<=c)(hc:c<=9223372036854775807/\n<=1000000000)(hr:fU W W.a.j A n l):aP ah 176 #[.a A n c] W (SxP W (Aq l)):=by
 have HR:=ab hr;have hl:=ab hr.len;have b0:=ab ((Bx.start W).new qD.ay 189);clear hr;go_enter Tryz.func176,Tryz.ntmps176;by_cases h40:n<40
 ·have aC8:(n:Int)<40:=by omega
  have H:=ab (show Aq l=(qD,2)by unfold Aq;rw[if_pos (by rw[hl.i];exact h40)]);go_wp2;refine aN (kSx.qC rfl _ rfl b0.i.S (Sx.G _)) rfl ?_;rw[H.i];exact⟨rfl,b0.i.R⟩
 have aC8:¬(n:Int)<40:=by omega
 have N40:=ab (show¬l.a<40 by rw[hl.i];exact h40);go_upto_region 3 with fail
 generalize hw1:W.alloc (.D qD.ay 189)=w1 at b0 ⊢;obtain⟨a,rfl,hab⟩:=HR.i.ahm (show 0<n by omega);have KS:=ab (show∀W',Bx [(W.a.j,qD.ay)] W W'->W'.b ⟨a.block,a.off+6,none⟩=some (.b .b (nM l 6))/\W'.b ⟨a.block,a.off+7,none⟩=some (.b .b (nM l 7))from fun W' h=>⟨(h.Lv HR.i).VE 5 (by omega),(h.Lv HR.i).VE 6 (by omega)⟩);obtain⟨i6,i7⟩:6<n/\7<n:=by omega
 have hx6:=jS (nM l 6) (by have:=uS l 6;omega);have hx7:=jS (nM l 7) (by have:=uS l 7;omega);obtain⟨t,ht⟩:=cB (eZ l 4);have HT:=ab ht.symm;have htl:t<=65535:=by rw[ht];exact vE l 4
 have hx4:=jS (40+(t:Int)) (by omega);have C4:=ab (fun(W':ak) (h:Bx [(W.a.j,qD.ay)] W W')=>ami W' (some a) n c l 4 4 rfl (by omega) hnc (by omega) (h.Lv HR.i));rw[<-ht]at C4;clear ht;have HX0:∃X:Sx,X=Sx.mk 40 (40+(t:Int)) (nM l 7) false 0 (nM l 6) ⟨true,mX.b⟩ ⟨true,mX.b⟩:=⟨_,rfl⟩
 clear hw1;have hWy:=ab b0.i.S.lt;refine Qp (Bx.aa3 [(W.a.j,qD.ay)] W) 14 15 4 189 qD.ay (by kernel_rfl) rfl (by kernel_rfl) (by decide) (by decide) (by kernel_rfl) (by kernel_rfl) (by kernel_rfl) rfl rfl rfl (fun a w=>by simp[go_sem]) b0.i.drew ?_;apply Exists.intro;refine⟨fun T f hT es ew=>?_,?_⟩
 ·have KF:=fun m=>KS.i _ (es m)
  have CF:=ab (fun m=>C4.i _ (es m));have EW:=ab ew;obtain⟨k1,k2⟩:(∀m,(f m).b ⟨a.block,a.off+6,none⟩=some (.b .b (nM l 6)))/\(∀m,(f m).b ⟨a.block,a.off+7,none⟩=some (.b .b (nM l 7))):=⟨fun m=>(KF m).1,fun m=>(KF m).2⟩
  clear KF;simp only[kX,bH,bP,jP,j4]
  repeat(go_big_quiet_step ((first
   | (go_at_call 249;with_reducible refine(CF.i _).g ?_;rintro e w2 ⟨rfl,hb⟩;exact⟨rfl,EW.i _ _ hb⟩))))
  exact gK rfl
 ·intro w2 w3 hw2 _ hb
  have Z2:=ab ((hw2.new qD.ay 189).go hb);have hy:=hw2.S.lt;generalize w2.a.j=y at *;clear hw2 hb;simp only[lD,List.setIfInBounds_toArray,bH,bP,jQ,kY];obtain⟨X0,hX0⟩:∃X:Sx,X=Sx.mk 40 (40+(t:Int)) (nM l 7) false 0 (nM l 6) ⟨true,mX.b⟩ ⟨true,mX.b⟩:=⟨_,rfl⟩
  have HX0:=ab hX0;rw[<-hX0];clear hX0 hx4 hx6 hx7;have hne:∀p∈[(W.a.j,qD.ay)],p.1≠y:=fun p hp=>by rw[fG.1 hp];exact jL hy
  have hne:=ab hne;have yE:=Z2.i.S.M 0 40 (by rw[Sx.G];omega);have Z3:=ab (Z2.i.put hne.i X0.ay (by rw[Sx.G,Sx.G]));clear C4 KS;go_step;go_simp;go_step;go_step;clear yE Z2;generalize gT w3 y 0 X0.ay=w4 at Z3 ⊢;obtain⟨m,hm⟩:=cB (40+t);have hm':40+(t:Int)=m:=by omega
  rw[hm']at HX0;have HM:=ab (show m=40+eZ l 4 by rw[HT.i];exact hm);have hm1:40<=m/\m<=65575:=by omega
  clear hm hm' htl;have i8:(8:Int)<=n:=by omega
  have i24:(24:Int)<=n:=by omega
  have R8:=(Z3.i.drew.Lv HR.i).yD (z:=8) (c:=c) (by omega) hnc;have cp1:∀ty,(qA #[56,56] ty #[.a (some ⟨y,7,none⟩) 16 16,.a (vF (some a) 8 c 1) (n-8) (c-8)]).I ah w4.drew = .Z (goInt 16) (gT w4.drew y 7 (jd (qd 16 (l.f 8)))):=fun ty=>by
   have:=Et (c:=c-8) (d:=16) _ R8 (m:=16) (by omega) (by omega) (Z3.i.drew.S.M 7 16 (by rw[Sx.G];omega)) 56 ty 5 cu alX;rw[Nn 16 _ (by rw[jD,hl.i];omega)]at this;exact this
  have Z4:=ab (Z3.i.drew.lay hne.i 7 (jd (qd 16 (l.f 8))));rw[Sx.aaZ]at Z4;go_upto_region 4 with fail
  go_region;clear cp1 R8 Z3;generalize gT w4.drew y 7 (jd (qd 16 (l.f 8)))=w5 at Z4 ⊢;have R24:=(Z4.i.drew.Lv HR.i).yD (z:=24) (c:=c) (by omega) hnc;have cp2:∀ty,(qA #[56,56] ty #[.a (some ⟨y,24,none⟩) 16 16,.a (vF (some a) 24 c 1) (n-24) (c-24)]).I ah w5.drew = .Z (goInt 16) (gT w5.drew y 24 (jd (qd 16 (l.f 24)))):=fun ty=>by
   have:=Et (c:=c-24) (d:=16) _ R24 (m:=16) (by omega) (by omega) (Z4.i.drew.S.M 24 16 (by rw[Sx.G];omega)) 56 ty 5 cu alX;rw[Nn 16 _ (by rw[jD,hl.i];omega)]at this;exact this
  have Z5:=ab (Z4.i.drew.lay hne.i 24 (jd (qd 16 (l.f 24))));rw[Sx.aaY,HX0.i]at Z5;go_upto_region 5 with fail
  go_region;clear cp2 R24 Z4 i8 i24;generalize gT w5.drew y 24 (jd (qd 16 (l.f 24)))=w6 at Z5 ⊢;simp only at Z5;have S0:=ab (show sx0 l=Sx.mk 40 m (nM l 7) false 0 (nM l 6) ⟨true,qd 16 (l.f 8)⟩ ⟨true,qd 16 (l.f 24)⟩by unfold sx0 ajc;rw[HM.i];simp);obtain⟨X1,hX1⟩:∃X,X=sx0 l:=⟨_,rfl⟩
  rw[<-S0.i,<-hX1]at Z5;have HX1:=ab hX1;have ht1:X1.dz=m:=by rw[hX1,S0.i]
  have HT1:=ab ht1;clear hX1 HX0 ht1;have HE:=ab (fun(w':ak) (x z:Sx) (h:Bx [(y,x.ay),(W.a.j,qD.ay)] W w')=>show dK (gT w' W.a.j 0 z.ay) W.a.j z.ay/\aL W.a.j W (gT w' W.a.j 0 z.ay)from
   have k:=h.swap.put (fun p hp=>by rw[fG.1 hp];exact uq hy) z.ay (by rw[Sx.G,Sx.G])
   ⟨k.S,k.R⟩)
  have TH:=ab (fun(w':ak) (x:Sx) (h:Bx [(y,x.ay),(W.a.j,qD.ay)] W w')=>show w'.M W.a.j 0 40 from h.b1.M 0 40 (by rw[Sx.G];omega));have yE:=TH.i _ _ Z5.i;have cb:=(Z5.i.Lv HR.i).arR (by omega);obtain⟨x1,x2,x3,x4⟩:=Z5.i.S.K;have ht1:=HT1.i;have i0:(0:Int)<n:=by omega
  have i0':0<n:=by omega
  by_cases e1:¬nM l 0/16=6
  ·have q:((nM l 0:Int)/16 != 6)=true:=by rw[bne_iff_ne];omega
   have H:=ab (show Aq l=(qD,3)by unfold Aq;rw[if_neg N40.i,if_pos e1]);go_wp2;refine aN (kSx.qC rfl _ rfl (HE.i _ _ qD Z5.i).1 (Sx.G _)) rfl ?_;rw[H.i];exact⟨rfl,(HE.i _ _ qD Z5.i).2⟩
  have q:((nM l 0:Int)/16 != 6)=false:=by simp;omega
  by_cases e2:n<m
  ·have q2:(n:Int)<m:=by omega
   have H:=ab (show Aq l=(qD,2)by unfold Aq;rw[if_neg N40.i,if_neg e1,if_pos (by rw[hl.i,<-HM.i];exact e2)]);go_wp2;refine aN (kSx.qC rfl _ rfl (HE.i _ _ qD Z5.i).1 (Sx.G _)) rfl ?_;rw[H.i];exact⟨rfl,(HE.i _ _ qD Z5.i).2⟩
  have q2:¬(n:Int)<m:=by omega
  have H1:=ab (show Aq l=yF 8 (sx0 l) ((l.d m).f 40)by unfold Aq;rw[if_neg N40.i,if_neg e1,if_neg (by rw[hl.i,<-HM.i];exact e2),<-HM.i]);have RP:=ab (HR.i.adi (z:=40) (b:=m) (c:=c) (by omega) (by omega) hnc);have j1:(40:Int)<=m:=by omega
  have j2:(m:Int)<=c:=by omega
  have hy':=ab hy;clear hy;go_wp2_with fail;clear j1 j2 q q2 i0 i0' yE cb x1 x2 x3 x4 ht1;obtain⟨A0,hA0⟩:=cB (vF (some a) 40 c 1);rw[<-hA0]at RP ⊢;clear hA0;go_loopw [5] (fun s5 wr=>∃(x:Sx)(A':Option aT)(n' c':Nat)(r:List UInt8) (f:Nat),s5=.a A' n' c'/\n'<=c'/\c'<=c/\Bx [(y,x.ay),(W.a.j,qD.ay)] W wr/\fU W W.a.j A' n' r/\Aq l=yF f x r/\x.GZ+f=8/\0<=x.head/\x.head+2048*f<=20000)
   (fun s5 wr=>slN s5)
  case atStart=>exact⟨X1,A0,m-40,c-40,_,8,rfl,by omega,by omega,Z5.i,RP.i,by rw[HX1.i];exact H1.i,by rw[HX1.i];rfl,by rw[HX1.i];simp[sx0],by rw[HX1.i];simp[sx0]⟩
  case round=>
   obtain⟨x,A',n',c',r,f,rfl,hn',hc',hz,hr,hsx,hf,hh0,hh1⟩:=hrel;have HZ:=ab hz;have HRr:=ab hr;have HSX:=ab hsx;have hrl:=ab hr.len;obtain⟨x1,x2,x3,x4⟩:=hz.S.K;have CE:=ab (VD x.aQ wr);have GO:=ab (fun(w1:ak) (hb:aL wr.a.j wr w1)=>HZ.i.go hb);have yE:=TH.i _ _ hz;have HFn:=ab hf;have HH0:=ab hh0;have HH1:=ab hh1;clear hz hr hsx Z5 RP HX1 H1 HT1 HX0 S0 HM HT;by_cases hfr:x.oI=true
   ·have H:=ab (show Aq l=(x,0)by rw[HSX.i,Nr (.a hfr)])
    go_wp2;refine aN (kSx.qC rfl _ rfl (HE.i _ _ x HZ.i).1 (Sx.G _)) rfl ?_;rw[H.i];exact⟨rfl,(HE.i _ _ x HZ.i).2⟩
   have hfr:x.oI=false:=by simpa using hfr
   by_cases hex:zI x.aQ=false
   ·have H:=ab (show Aq l=(x,0)by rw[HSX.i,Nr (.b hex)])
    go_wp2_with (go_at_call 250;with_reducible refine CE.i.g ?_;rintro e w1 ⟨rfl,hb1⟩;have Z1:=ab (GO.i w1 hb1);have t1:=TH.i _ _ Z1.i;obtain⟨y1,y2,y3,y4⟩:=Z1.i.S.K;clear hb1);refine aN (kSx.qC rfl _ rfl (HE.i _ _ x Z1.i).1 (Sx.G _)) rfl ?_;rw[H.i];exact⟨rfl,(HE.i _ _ x Z1.i).2⟩
   have hex:zI x.aQ=true:=by simpa using hex
   clear yE x1 x2 x3 x4;obtain⟨x1,x2,x3,x4⟩:=HZ.i.S.K;rcases f with _|f
   ·have hx8:x.GZ=8:=by have:=HFn.i;simpa using this
    have H:=ab (show Aq l=(qD,4)by rw[HSX.i,YF hfr hex]);go_wp2_with (go_at_call 250;with_reducible refine CE.i.g ?_;rintro e w1 ⟨rfl,hb1⟩;have Z1:=ab (GO.i w1 hb1);have t1:=TH.i _ _ Z1.i;obtain⟨y1,y2,y3,y4⟩:=Z1.i.S.K;clear hb1);refine aN (kSx.qC rfl _ rfl (HE.i _ _ qD Z1.i).1 (Sx.G _)) rfl ?_;rw[H.i];exact⟨rfl,(HE.i _ _ qD Z1.i).2⟩
   have hx8:(x.GZ==8)=false:=by rw[beq_eq_false_iff_ne];omega
   by_cases hs8:n'<8
   ·have q8:(n':Int)<8:=by omega
    have H:=ab (show Aq l=(qD,2)by rw[HSX.i,Lu hfr hex (.a (by rw[hrl.i];exact hs8))]);go_wp2_with (go_at_call 250;with_reducible refine CE.i.g ?_;rintro e w1 ⟨rfl,hb1⟩;have Z1:=ab (GO.i w1 hb1);have t1:=TH.i _ _ Z1.i;obtain⟨y1,y2,y3,y4⟩:=Z1.i.S.K;clear hb1);refine aN (kSx.qC rfl _ rfl (HE.i _ _ qD Z1.i).1 (Sx.G _)) rfl ?_;rw[H.i];exact⟨rfl,(HE.i _ _ qD Z1.i).2⟩
   have q8:¬(n':Int)<8:=by omega
   have CS:=ab (fun(w1:ak) (h:Bx [(y,x.ay),(W.a.j,qD.ay)] W w1)=>Q9 x.aQ A' n' c' _ r w1 (by omega) (h.Lv HRr.i));obtain⟨sz,hsz⟩:=cB (qQ x.aQ r);have HSZ:=ab hsz;have SZ1:=ab (show 0<sz by rw[hsz];exact(Q8 _ _).2 hex);have SZ2:=ab (show sz<=2048 by rw[hsz];exact afJ _ _);rw[<-hsz]at CS;clear hsz;by_cases hss:n'<sz
   ·have q9:(n':Int)<sz:=by omega
    have H:=ab (show Aq l=(qD,2)by rw[HSX.i,Lu hfr hex (.b (by rw[hrl.i,<-HSZ.i];exact hss))]);go_wp2_with (first|(go_at_call 250;with_reducible refine CE.i.g ?_;rintro e w1 ⟨rfl,hb1⟩;have Z1:=ab (GO.i w1 hb1);have t1:=TH.i _ _ Z1.i;obtain⟨y1,y2,y3,y4⟩:=Z1.i.S.K;clear hb1)|(go_at_call 251;with_reducible refine(CS.i _ Z1.i).g ?_;rintro e w2 ⟨rfl,rfl⟩));refine aN (kSx.qC rfl _ rfl (HE.i _ _ qD Z1.i).1 (Sx.G _)) rfl ?_;rw[H.i];exact⟨rfl,(HE.i _ _ qD Z1.i).2⟩
   have q9:¬(n':Int)<sz:=by omega
   have H:=ab (show Aq l=yF f ⟨x.head+sz,x.dz,x.GY,decide (x.aQ=44)&&Ls r,x.GZ+1,(nM r 0:Nat),x.h,x.X⟩ (r.f sz)by
    rw[HSX.i,YG hfr hex (by rw[hrl.i,<-HSZ.i];rintro(h|h);exact hs8 h;exact hss h),<-HSZ.i])
   have wh:bR.wrap (x.head+sz)=x.head+sz:=jS _ (by have:=SZ2.i;omega);have we:bR.wrap (x.GZ+1)=x.GZ+1:=jS _ (by omega);have wb:bR.wrap ((nM r 0:Nat):Int)=((nM r 0:Nat):Int):=jS _ (by have:=uS r 0;omega);obtain⟨a',rfl,hab'⟩:=HRr.i.ahm (show 0<n' by omega);have hne1:a'.block≠y:=by have:=hy'.i;omega
   have hne2:∀o,¬(⟨y,o,none⟩:aT)=a':=fun o e=>hne1 (by rw[<-e])
   have aI9:∀o,¬a'=(⟨y,o,none⟩:aT):=fun o e=>hne1 (by rw[e])
   have ip:(0:Int)<n':=by omega
   have ip':0<n':=by omega
   have is2:(sz:Int)<=n':=by omega
   have BY:=ab (fun(w1:ak) (h:Bx [(y,x.ay),(W.a.j,qD.ay)] W w1)=>(h.Lv HRr.i).arR ip');have ZE:=ab (fun(w':ak) (fr:Bool) (p h e:Int) (hz:Bx [(y,x.ay),(W.a.j,qD.ay)] W w')=>show Bx [(y,(Sx.mk h x.dz x.GY fr e p x.h x.X).ay),(W.a.j,qD.ay)] W ((((w'.F ⟨y,3,none⟩ (.e fr)).F ⟨y,5,none⟩ (.b .a p)).F ⟨y,0,none⟩ (.b .a h)).F ⟨y,4,none⟩ (.b .a e))by
    have:=(((hz.set hne.i 3 (.e fr)).set hne.i 5 (.b .a p)).set hne.i 0 (.b .a h)).set hne.i 4 (.b .a e);rw[Sx.amb,Sx.YD,Sx.Ni,Sx.amc]at this;exact this)
   by_cases p44:x.aQ=44
   ·have C2:=ab (fun(w1:ak) (h:Bx [(y,x.ay),(W.a.j,qD.ay)] W w1)=>ami w1 _ n' c' r 2 2 rfl (by omega) hn' (by omega) (h.Lv HRr.i))
    have hpt:=amm r;have aDb:(x.aQ==44)=true:=by simp[p44]
    have aDc:=ab p44;clear p44;obtain⟨fr,hfr2⟩:=cB (Ls r);rw[<-hfr2]at hpt;have HF2:=ab hfr2;clear hfr2;go_wp2_with (first|(go_at_call 250;with_reducible refine CE.i.g ?_;rintro e w1 ⟨rfl,hb1⟩;have Z1:=ab (GO.i w1 hb1);have t1:=TH.i _ _ Z1.i;obtain⟨y1,y2,y3,y4⟩:=Z1.i.S.K;clear hb1)|(go_at_call 251;with_reducible refine(CS.i _ Z1.i).g ?_;rintro e w2 ⟨rfl,rfl⟩)|(go_at_call 249;with_reducible refine(C2.i _ Z1.i).g ?_;rintro e w3 ⟨rfl,hb3⟩;have Z3:=ab (Z1.i.go hb3);obtain⟨z1,z2,z3,z4⟩:=Z3.i.S.K;have bz:=BY.i _ Z3.i;clear hb3));refine⟨⟨⟨x.head+sz,x.dz,x.GY,fr,x.GZ+1,(nM r 0:Nat),x.h,x.X⟩,vF (some a') sz c' 1,n'-sz,c'-sz,r.f sz,f,rfl,by omega,by omega,ZE.i _ _ _ _ _ Z3.i,HRr.i.yD (by omega) hn',?_,?_,?_,?_⟩,?_⟩
    ·rw[H.i,HF2.i];simp[aDc.i]
    ·have:=HFn.i;simp only;omega
    ·have:=HH0.i;simp only;omega
    ·have:=HH1.i;have:=SZ2.i;simp only;omega
    ·have:=SZ1.i;simp only[slN];omega
   ·have aDb:(x.aQ==44)=false:=by simp[p44]
    go_wp2_with (first|(go_at_call 250;with_reducible refine CE.i.g ?_;rintro e w1 ⟨rfl,hb1⟩;have Z1:=ab (GO.i w1 hb1);have t1:=TH.i _ _ Z1.i;obtain⟨y1,y2,y3,y4⟩:=Z1.i.S.K;have bz:=BY.i _ Z1.i;clear hb1)|(go_at_call 251;with_reducible refine(CS.i _ Z1.i).g ?_;rintro e w2 ⟨rfl,rfl⟩));refine⟨⟨⟨x.head+sz,x.dz,x.GY,false,x.GZ+1,(nM r 0:Nat),x.h,x.X⟩,vF (some a') sz c' 1,n'-sz,c'-sz,r.f sz,f,rfl,by omega,by omega,ZE.i _ _ _ _ _ Z1.i,HRr.i.yD (by omega) hn',?_,?_,?_,?_⟩,?_⟩
    ·rw[H.i];simp[p44]
    ·have:=HFn.i;simp only;omega
    ·have:=HH0.i;simp only;omega
    ·have:=HH1.i;have:=SZ2.i;simp only;omega
    ·have:=SZ1.i;simp only[slN];omega
end
theorem Nv(W:ak)(A:Option aT)(n c:Nat)(l:List UInt8)(hnc:n<=c)(hc:c<=9223372036854775807/\n<=1000000000)(hr:fU W W.a.j A n l):aP ah 91 #[.a A n c] W (LkP W (mq l)):=by
 have HR:=ab hr;have hl:=ab hr.len;have b0:=ab (dK.new W qK.ay 108);have B0:=ab ((aG W.a.j W).alloc (av _) (.D qK.ay 108));have HR0:=ab ((hr.O B0.i).lF B0.i.j:fU (W.alloc (.D qK.ay 108)) (W.alloc (.D qK.ay 108)).a.j A n l);clear hr;go_enter Tryz.func91,Tryz.ntmps91;by_cases h14:n<14
 ·have aDd:(n:Int)<14:=by omega
  have H:=ab (show mq l=(Er,2)by unfold mq;rw[if_pos (by rw[hl.i];exact h14)]);go_wp2;refine aN (kLc.qC rfl _ rfl b0.i (Lc.G _)) rfl ?_;rw[H.i];exact⟨none,0,rfl,iJ.nil _ _,B0.i⟩
 have aDd:¬(n:Int)<14:=by omega
 have i1:(12:Int)<=c:=by omega
 obtain⟨w1,hw1⟩:=cB (W.alloc (.D qK.ay 108));have PC:=HR0.i.QX (z:=12) (b:=n) (c:=c) (by omega) (by omega) (by omega);rw[if_neg (by omega),show(fun x:aT=>x.add 12)=fun x=>⟨x.block,x.off+12,none⟩from funext fun x=>by simp[qy]]at PC;have C1:=ab (IY _ _ (n-12) (c-12) _ (by omega) (by omega) (by omega) PC);rw[show eZ ((l.f 12).d (n-12)) 0=eZ l 12 by rw[<-hl.i,<-jD,List.take_length];simp[eZ,au]]at C1;clear PC;go_upto_region 4 with(go_at_call 173;with_reducible refine C1.i.g ?_;rintro e w2 ⟨rfl,hb2⟩)
 have d0:=ab (b0.i.O hb2 b0.i.lt);have B2:=ab (show aL W.a.j W w2 from B0.i.trans (hb2.g B0.i.j));have hs2:W.a.j<w2.a.j:=by have:=hb2.j;simp at this;omega
 clear hb2 C1 HR0 B0 b0 hw1;obtain⟨X0,hX0⟩:∃X:Lc,X=Lc.mk (bG 6 0) (bG 6 0) none 0 0 (eZ l 12:Nat) 14:=⟨_,rfl⟩
 have Z3:=ab (show Rz Tg.ay 2 268 [(w2.a.j,X0.ay),(W.a.j,qK.ay)] W (w2.alloc (.D X0.ay 108)) (.a none 0 0) []from
  Rz.new ⟨fu _ _ _ _,B2.i,fun p hp=>by rw[fG.1 hp];exact⟨d0.i,by simp[Value.ownBlock]⟩⟩ X0.ay _)
 rw[<-hX0];generalize hw3:w2.alloc (.D X0.ay 108)=w3 at Z3 ⊢;generalize w2.a.j=y at *;clear hw3 d0 B2;have R3:=ab ((HR.i.O Z3.i.R).lF Z3.i.R.j:fU w3 w3.a.j A n l);have cp1:∀ty,(qA #[56,56] ty #[.a (some ⟨y,0,none⟩) 6 6,.a A n c]).I ah w3 = .Z (goInt 6) (gT w3 y 0 (Ap (qd 6 l))):=fun ty=>by
  have:=Et (c:=c) (d:=6) w3 R3.i (m:=6) (by omega) (by omega) (Z3.i.S.M 0 6 (by rw[Lc.G];omega)) 56 ty 5 cu alX;rw[Nn 6 l (by rw[hl.i];omega)]at this;exact this
 have hne:∀p∈[(W.a.j,qK.ay)],p.1≠y:=fun p hp=>by rw[fG.1 hp];exact jL hs2
 have Z4:=ab ((Z3.i.at6 (mG hs2) hne 0 (Ap (qd 6 l))).drew);rw[Lc.aaY]at Z4;go_upto_region 5 with fail
 have R4:=ab ((HR.i.O Z4.i.R).lF Z4.i.R.j:fU (gT w3 y 0 (Ap (qd 6 l))).drew (gT w3 y 0 (Ap (qd 6 l))).drew.a.j A n l);have cp2:∀ty,(qA #[56,56] ty #[.a (some ⟨y,6,none⟩) 6 6,.a (Option.map (fun x=>⟨x.block,x.off+6,none⟩) A) (n-6) (c-6)]).I ah (gT w3 y 0 (Ap (qd 6 l))).drew = .Z (goInt 6) (gT (gT w3 y 0 (Ap (qd 6 l))).drew y 6 (Ap (qd 6 (l.f 6)))):=fun ty=>by
  have P:=R4.i.QX (z:=6) (b:=n) (c:=c) (by omega) (by omega) (by omega);rw[if_neg (by omega),show(fun x:aT=>x.add 6)=fun x=>⟨x.block,x.off+6,none⟩from funext fun x=>by simp[qy]]at P;rw[aK (by simp;have:=hl.i;omega)]at P;have:=Et (c:=c-6) (d:=6) _ P (m:=6) (by omega) (by omega) (Z4.i.S.M 6 6 (by rw[Lc.G];omega)) 56 ty 5 cu alX;rw[Nn 6 _ (by simp;have:=hl.i;omega)]at this;exact this
 have i6:(6:Int)<=c:=by omega
 go_region;have Z5:=ab (Z4.i.at6 (mG hs2) hne 6 (Ap (qd 6 (l.f 6))));rw[Lc.aaZ,hX0]at Z5;simp only at Z5;clear Z3 Z4 R3 R4 cp1 cp2 i6 hX0;generalize gT (gT w3 y 0 (Ap (qd 6 l))).drew y 6 (Ap (qd 6 (l.f 6)))=w5 at Z5 ⊢;go_wp2_with fail;go_loopw [] (fun wr=>∃(fK:List Tg)(A':Option aT)(c' k:Nat),fK.a<=2/\14<=k/\k<=n/\Rz Tg.ay 2 268 [(y,(Lc.mk (qd 6 l) (qd 6 (l.f 6)) A' fK.a c' (eZ l (k-2):Nat) k).ay),(W.a.j,qK.ay)] W wr (.a A' fK.a c') fK/\mq l=Co l (2-fK.a) k fK)
  (fun wr=>n-(intOf ((wr.b ⟨y,14,none⟩).c undef)).e)
 case atStart=>exact⟨[],none,0,14,by simp,by omega,by omega,Z5.i,by unfold mq;rw[if_neg (by rw[hl.i];exact h14)];rfl⟩
 case round=>
  obtain⟨fK,A',c',k,ht2,aJb,hkn,hz,hlk⟩:=hrel;have HZ:=ab hz;have HK:=ab hlk;have HT:=ab (fun W=>aaX W (eZ l (k-2):Nat));have T0:=HZ.i.S;obtain⟨x1,x2,x3,x4⟩:=T0.K;have hWy:W.a.j≠y:=jL hs2;have hA:=ab (fun(x:Lc)=>HZ.i.ans (x:=x.ay) (av _) hWy (by rw[Lc.G,Lc.G]));have yE:=HZ.i.b1.M 0 15 (by rw[Lc.G];omega);clear hz hlk T0 Z5;cases htag:tT (eZ l (k-2):Nat)
  ·rw[htag]at HT
   have H:=ab (show mq l=(⟨qd 6 l,qd 6 (l.f 6),fK,(eZ l (k-2):Nat),k⟩,0)by rw[HK.i,zH htag]);go_wp2_with (go_at_call 174;with_reducible refine(HT.i _).g ?_;rintro e w' ⟨rfl,rfl⟩);have hz2:=hA.i (Lc.mk (qd 6 l) (qd 6 (l.f 6)) A' fK.a c' (eZ l (k-2):Nat) k);refine aN (kLc.qC rfl _ rfl hz2.S (Lc.G _)) rfl ?_;rw[H.i];exact⟨A',c',rfl,hz2.rd,hz2.R⟩
  rw[htag]at HT;by_cases h2:fK.a=2
  ·have h2':((fK.a:Int)==2)=true:=by rw[h2];rfl
   have H:=ab (show mq l=(Er,4)by rw[HK.i,h2];exact JQ htag);go_wp2_with (go_at_call 174;with_reducible refine(HT.i _).g ?_;rintro e w' ⟨rfl,rfl⟩);have hz2:=hA.i qK;refine aN (kLc.qC rfl _ rfl hz2.S (Lc.G _)) rfl ?_;rw[H.i];exact⟨none,0,rfl,iJ.nil _ _,hz2.R⟩
  have h2':((fK.a:Int)==2)=false:=by rw[beq_eq_false_iff_ne];omega
  by_cases h4:n<k+4
  ·have h4':(n:Int)<(k:Int)+4:=by omega
   have H:=ab (show mq l=(Er,2)by rw[HK.i,show 2-fK.a=(1-fK.a)+1 by omega];exact By htag (by rw[hl.i];exact h4));go_wp2_with (go_at_call 174;with_reducible refine(HT.i _).g ?_;rintro e w' ⟨rfl,rfl⟩);have hz2:=hA.i qK;refine aN (kLc.qC rfl _ rfl hz2.S (Lc.G _)) rfl ?_;rw[H.i];exact⟨none,0,rfl,iJ.nil _ _,hz2.R⟩
  have h4':¬(n:Int)<(k:Int)+4:=by omega
  have H:=ab (show mq l=Co l (2-(fK.a+1)) (k+4) (fK++[⟨(eZ l (k-2):Nat),(eZ l k:Nat)⟩])by rw[HK.i,show 2-fK.a=(2-(fK.a+1))+1 by omega];exact Es htag (by rw[hl.i];exact h4));go_upto_region 11 with(go_at_call 174;with_reducible refine(HT.i _).g ?_;rintro e w' ⟨rfl,rfl⟩)
  obtain⟨vr,hvr⟩:∃v,v=wr:=⟨_,rfl⟩
  rw[<-hvr]at HZ x1 x2 x3 x4 ⊢;have HV:=ab hvr;clear hA yE HT h2' h4' HK hvr;obtain⟨X,hX⟩:∃X:Lc,X=Lc.mk (qd 6 l) (qd 6 (l.f 6)) A' fK.a c' (eZ l (k-2):Nat) k:=⟨_,rfl⟩
  have hi4:(k:Int)<=c:=by omega
  have hck:¬c=k:=by omega
  have PC:=(((HR.i.O HZ.i.R).lF HZ.i.R.j:fU vr vr.a.j A n l)).QX (z:=k) (b:=n) (c:=c) (by omega) (by omega) (by omega);rw[if_neg (by omega),aK (by simp;have:=hl.i;omega)]at PC;have PD:=ab PC;have C2:=ab (IY vr.drew _ (n-k) (c-k) _ (by omega) (by omega) (by omega) PC);rw[show eZ (l.f k) 0=eZ l k by simp[eZ,au]]at C2;have KG:=ab (fun(W':ak) (h:dK W' y X.ay)=>show W'.b ⟨y,12,none⟩=some (.a A' fK.a c')/\W'.b ⟨y,13,none⟩=some (.b .a (eZ l (k-2):Nat))/\W'.b ⟨y,14,none⟩=some (.b .a k)by
   rw[hX]at h;exact⟨(h.K.1 12).trans (Lc.aaU _),(h.K.1 13).trans (Lc.DJ _),(h.K.1 14).trans (Lc.Lp _)⟩)
  rw[<-hX]at HZ;have ZG:=ab (fun(wa:ak) (h:aL vr.drew.a.j vr.drew wa)=>HZ.i.drew.go h);have HGL:=ab (show fK.a+1<=1000000 by omega);obtain⟨k1,k2,k3⟩:=KG.i vr.drew HZ.i.drew.S;clear PC;go_cut []from 37 to 49 (fun wx=>∃A5 c5,Rz Tg.ay 2 268 [(y,(Lc.mk (qd 6 l) (qd 6 (l.f 6)) A5 (fK.a+1) c5 (eZ l (k-2):Nat) k).ay),(W.a.j,qK.ay)] W wx (.a A5 (fK.a+1) c5) (fK++[⟨(eZ l (k-2):Nat),(eZ l k:Nat)⟩]))
  case first=>
   go_region_law (first|(refine at7 (o:=⟨some 45,_,_,_,_,_⟩) rfl ?_;go_simp;go_at_call 173;(with_reducible refine C2.i.g ?_);rintro e wa ⟨rfl,hba⟩;have Za:=ab (ZG.i wa hba);have ka:=KG.i wa Za.i.S;have Zb:=ab (Za.i.alloc (.D (Tg.mk (eZ l (k-2):Nat) (eZ l k:Nat)).ay 268));have kb:=KG.i _ Zb.i.S;have RO:=ab (iJ.one (f:=Tg.ay) (Tg.mk (eZ l (k-2):Nat) (eZ l k:Nat)) Tg.G wa 268);clear hba)|(refine aua (o:=⟨some 48,_,_,_,_,_⟩) apI rfl (.tmp 38) (.tmp 47) rfl (.a A' fK.a c') (some ⟨wa.a.j,0,none⟩) 1 1 (by kernel_rfl) Zb.i (by kernel_rfl) RO.i HGL.i ?_;intro A5 n5 c5 w5 h5 h6;have Z5:=ab h5;have k5:=(h5.S.K.1 12).trans (Lc.aaU _);have f5:=h5.S.K.2.1 12;clear h5 h6))
   all_goals
    have Z6:=ab (Z5.i.amj (mG hs2) hne 12 (.a A5 n5 c5));rw[Lc.amf]at Z6;obtain rfl:n5=fK.a+1:=by have:=Z5.i.len;simpa using this
    rw[hX]at Z6;clear Z5 k5 f5 k1 k2 k3 ka kb;go_wp2_with fail;go_meet
    case rel=>exact⟨A5,c5,Z6.i⟩
  obtain⟨A5,c5,Z6⟩:=hcut;have Z6:=ab Z6;generalize wc=w6 at Z6 ⊢;obtain⟨x1,x2,x3,x4⟩:=Z6.i.S.K;obtain⟨m,hm⟩:=cB (k+2);have PC:=(((HR.i.O Z6.i.R).lF Z6.i.R.j:fU w6 w6.a.j A n l)).QX (z:=m) (b:=n) (c:=c) (by omega) (by omega) (by omega);rw[if_neg (by omega),aK (by simp;have:=hl.i;omega)]at PC;have C3:=ab (IY w6 _ (n-m) (c-m) _ (by omega) (by omega) (by omega) PC);rw[show eZ (l.f m) 0=eZ l m by simp[eZ,au,Nat.add_assoc]]at C3;have hi2:(m:Int)<=c:=by omega
  have aJc:¬c=m:=by omega
  have hm2:(k:Int)+2=m:=by omega
  have HM:=ab hm;have HX:=ab hX;clear PC C2 PD KG ZG hX k1 k2 k3 hm;go_wp2_with (go_at_call 173;with_reducible refine C3.i.g ?_;rintro e w7 ⟨rfl,hb7⟩;have Z7:=ab (Z6.i.go hb7);have k7:=(Z7.i.S.K.1 13).trans (Lc.DJ _);have f7:=Z7.i.S.K.2.1;have k8:=(Z7.i.S.K.1 14).trans (Lc.Lp _);clear hb7);have Z8:=ab ((Z7.i.amj (mG hs2) hne 13 (.b .a (eZ l m:Nat))));rw[Lc.TL]at Z8;have Z9:=ab (Z8.i.amj (mG hs2) hne 14 (.b .a ((k:Int)+4)));rw[Lc.apH]at Z9;have q1:=(Z9.i.S.K.1 14).trans (Lc.Lp _);have q2:=(HZ.i.S.K.1 14)
  rw[HX.i,HV.i]at q2;have q2:=q2.trans (Lc.Lp _);simp only at q1 q2;refine⟨?_,?_⟩
  ·refine⟨fK++[⟨(eZ l (k-2):Nat),(eZ l k:Nat)⟩],A5,c5,k+4,by simp;omega,by omega,by omega,?_,by rw[H.i];simp⟩
   obtain rfl:=HM.i;simpa using Z9.i
  ·rw[q1,q2]
   simp[intOf]<;>omega
section
attribute [local go_sem high] iY jH
def YJ(k:Int)(l:List UInt8):Nt×Int:=if k=2048 then(⟨(zR l).1.head,(zR l).1.dz,(zR l).1.aQ,(zR l).1.oI,(zR l).1.h,(zR l).1.X⟩,(zR l).2)
 else(⟨(Aq l).1.head,(Aq l).1.dz,(Aq l).1.aQ,(Aq l).1.oI,(Aq l).1.h,(Aq l).1.X⟩,(Aq l).2)
def xA(k:Int):Pk:=⟨k,aeN,0,0,0,0⟩
def mO(l:List UInt8):Nt×Int:=YJ (mq l).1.ou (l.f (mq l).1.fI)
def LA(l:List UInt8):Pt×Int:=I5 (mO l).1.aQ ((l.d ((mq l).1.fI+(mO l).1.dz.e)).f ((mq l).1.fI+(mO l).1.head.e))
def vT(l:List UInt8):Pk:=
 if(mq l).2≠0 then xA 1 else if(mq l).1.ou≠2048/\(mq l).1.ou≠34525 then xA 2 else if(mO l).2≠0 then xA 3 else if(mO l).1.oI=true then xA 4
 else if(mO l).1.aQ≠6/\(mO l).1.aQ≠17 then xA 5 else if(LA l).2≠0 then xA 6
 else⟨0,⟨(mO l).1.h,(mO l).1.X,(mO l).1.aQ,(LA l).1.kV,(LA l).1.j6⟩,(LA l).1.uR,(mq l).1.fI,(mq l).1.fI+(mO l).1.head,(mq l).1.fI+(mO l).1.dz⟩
theorem ahn{l:List UInt8}:∀(m k:Nat)(fK:List Tg),14<=k->k<=l.a->(Co l m k fK).2=0->14<=(Co l m k fK).1.fI/\(Co l m k fK).1.fI<=l.a
 | 0,k,fK,h1,h2,h=>by
   cases ht:tT (eZ l (k-2):Nat)with
   | false=>rw[zH ht]at h⊢;exact⟨h1,h2⟩
   | true=>rw[JQ ht]at h;cases h
 | m+1,k,fK,h1,h2,h=>by
   cases ht:tT (eZ l (k-2):Nat)with
   | false=>rw[zH ht]at h⊢;exact⟨h1,h2⟩
   | true=>
     by_cases h4:l.a<k+4
     ·rw[By ht h4]at h;cases h
     ·rw[Es ht h4]at h⊢;exact ahn m (k+4) _ (by omega) (by omega) h
theorem afL{l:List UInt8}(h:(mq l).2=0):14<=(mq l).1.fI/\(mq l).1.fI<=l.a:=by
 unfold mq at h ⊢;split at h
 ·cases h
 ·rename_i hl;rw[if_neg hl];exact ahn 2 14 [] (by omega) (by omega) h
theorem amo{l:List UInt8}(h:(zR l).2=0):20<=(zR l).1.head/\(zR l).1.head<=(zR l).1.dz/\(zR l).1.dz<=l.a:=by
 unfold zR at h ⊢;split at h
 ·rename_i he
  rw[if_pos he];unfold Df at he;simp only[Qo]
  repeat(first|(split at he;(first|(cases he;done)|skip))|(exact absurd he (by decide)))
  all_goals(first|omega|(simp at he;done))
 ·exact absurd h ‹_›
theorem apQ(f:Nat):∀(x:Sx)(r:List UInt8),40<=x.head->x.head+r.a=x.dz->(yF f x r).2=0->40<=(yF f x r).1.head/\(yF f x r).1.head<=(yF f x r).1.dz/\(yF f x r).1.dz=x.dz:=by
 induction f with
 | zero=>
   intro x r h1 h2 h;by_cases hx:x.oI=true\/zI x.aQ=false
   ·rw[Nr hx]at h⊢;exact⟨h1,by simp only;omega,rfl⟩
   ·have hf:x.oI=false:=by simpa using fun e=>hx (.a e)
    have he:zI x.aQ=true:=by simpa using fun e=>hx (.b e)
    rw[YF hf he]at h;cases h
 | succ f ih=>
   intro x r h1 h2 h;by_cases hx:x.oI=true\/zI x.aQ=false
   ·rw[Nr hx]at h⊢;exact⟨h1,by simp only;omega,rfl⟩
   ·have hf:x.oI=false:=by simpa using fun e=>hx (.a e)
    have he:zI x.aQ=true:=by simpa using fun e=>hx (.b e)
    by_cases hs:r.a<8\/r.a<qQ x.aQ r
    ·rw[Lu hf he hs]at h;cases h
    ·rw[YG hf he hs]at h ⊢
     exact ih ⟨x.head+qQ x.aQ r,x.dz,x.GY,decide (x.aQ=44)&&Ls r,x.GZ+1,(nM r 0:Nat),x.h,x.X⟩ (r.f (qQ x.aQ r)) (by simp only;omega) (by simp only[jD];omega) h
theorem amq{l:List UInt8}(h:(Aq l).2=0):40<=(Aq l).1.head/\(Aq l).1.head<=(Aq l).1.dz/\(Aq l).1.dz<=l.a:=by
 unfold Aq at h ⊢;split at h
 ·cases h
 ·rename_i h1
  rw[if_neg h1];split at h
  ·cases h
  ·rename_i h2
   rw[if_neg h2];split at h
   ·cases h
   ·rename_i h3
    rw[if_neg h3];obtain⟨e1,e2,e3⟩:=apQ 8 (sx0 l) _ (by simp[sx0]) (by simp[sx0];omega) h;refine⟨e1,e2,?_⟩;rw[e3];simp only[sx0];omega
theorem amr{k:Int}{l:List UInt8}(h:(YJ k l).2=0):20<=(YJ k l).1.head/\(YJ k l).1.head<=(YJ k l).1.dz/\(YJ k l).1.dz<=l.a:=by
 unfold YJ at h ⊢;split at h
 ·rename_i hk;rw[if_pos hk];exact amo h
 ·rename_i hk;rw[if_neg hk];have:=amq h;simp only;omega
@[go_sem ↓]theorem aJd(ps:Array (Nat×aB)):fM 81 ps=uH 81 ps:=rfl
theorem aDg(w:ak)(fs:Array nS)(h:ah.k 81=some (.d fs)):(iy (fun f=>Prod.mk f.Y <$> sizeOf f.p) fs:wX (Array (Nat×Nat))).I ah w = .Z #[(0,17),(17,17),(34,1),(35,1),(36,1)] w:=by
 have e:=j3;rw[h]at e;cases e;show _=_
 kernel_rfl
theorem Tu.aa2(x:Tu)(t:fC):sw x.ay 0 t.ay=({x with h:=t}:Tu).ay:=by unfold Tu.ay;exact FV (by rw[fC.G,fC.G])
theorem Tu.TM(x:Tu)(t:fC):sw x.ay 17 t.ay=({x with X:=t}:Tu).ay:=by unfold Tu.ay;exact qL (by rw[fC.G,fC.G]) 17 (fC.G _)
@[go_sem]theorem aDh(W:ak)(s t:fC)(p a b:Int):(uH 81 #[(0,.d s.ay),(1,.d t.ay),(2,.b .a p),(3,.b .a a),(4,.b .a b)]).I ah W = .Z (.d (Tu.mk s t p a b).ay) W:=kTu.bd W _ _ _ _ j3 (aDg W _ j3) (by
 refine(sI rfl (fC.G _) (by rw[Tu.G];omega) (Tu.aa2 _ _)).trans ?_;refine(sI rfl (fC.G _) (by rw[Tu.G];omega) (Tu.TM _ _)).trans ?_;refine(iq rfl rfl (by rw[Tu.G];omega) (Tu.axt _ _)).trans ?_;refine(iq rfl rfl (by rw[Tu.G];omega) (Tu.axu _ _)).trans ?_;refine(iq rfl rfl (by rw[Tu.G];omega) (Tu.arF _ _)).trans ?_;rfl)
theorem Pk.Eu(x:Pk)(v:Int):x.ay.b 0 (.b .a v)=({x with kind:=v}:Pk).ay:=by simp[Pk.ay,aM,Tu.G]
theorem Pk.Qm(x:Pk)(v:Int):x.ay.b 38 (.b .a v)=({x with uR:=v}:Pk).ay:=by simp[Pk.ay,aM,Tu.G]
theorem Pk.apR(x:Pk)(v:Int):x.ay.b 39 (.b .a v)=({x with Cm:=v}:Pk).ay:=by simp[Pk.ay,aM,Tu.G]
theorem Pk.apS(x:Pk)(v:Int):x.ay.b 40 (.b .a v)=({x with sV:=v}:Pk).ay:=by simp[Pk.ay,aM,Tu.G]
theorem Pk.ams(x:Pk)(v:Int):x.ay.b 41 (.b .a v)=({x with FU:=v}:Pk).ay:=by simp[Pk.ay,aM,Tu.G]
theorem Pk.ajf(x:Pk)(t:Tu):sw x.ay 1 t.ay=({x with J:=t}:Pk).ay:=by unfold Pk.ay;exact qL (by rw[Tu.G,Tu.G]) 1 rfl
@[go_sem]theorem aDi(W:ak)(k:Int):(uH 83 #[(0,.b .a k)]).I ah W = .Z (.d (xA k).ay) W:=kPk.bd W _ _ _ _ vo (ax2 W _ vo) (by
 refine(iq rfl rfl (by rw[Pk.G];omega) (Pk.Eu _ _)).trans ?_;rfl)
@[go_sem]theorem aDj(W:ak)(t:Tu)(a b c d:Int):(uH 83 #[(1,.d t.ay),(2,.b .a a),(3,.b .a b),(4,.b .a c),(5,.b .a d)]).I ah W = .Z (.d (Pk.mk 0 t a b c d).ay) W:=kPk.bd W _ _ _ _ vo (ax2 W _ vo) (by
 refine(sI rfl (Tu.G _) (by rw[Pk.G];omega) (Pk.ajf _ _)).trans ?_;refine(iq rfl rfl (by rw[Pk.G];omega) (Pk.Qm _ _)).trans ?_;refine(iq rfl rfl (by rw[Pk.G];omega) (Pk.apR _ _)).trans ?_;refine(iq rfl rfl (by rw[Pk.G];omega) (Pk.apS _ _)).trans ?_;refine(iq rfl rfl (by rw[Pk.G];omega) (Pk.ams _ _)).trans ?_;rfl)
theorem adn(p:Int)(W:ak):aP ah 94 #[.b .a p] W fun e W'=>e=.a (.e (decide (p=6)||decide (p=17)))/\W=W':=by
 go_enter Tryz.func94,Tryz.ntmps94;by_cases h:p=6
 ·have q:(p==6)=true:=by simp[h]
  go_wp2;go_ret;exact⟨by simp[h],rfl⟩
 ·have q:(p==6)=false:=by simp[h]
  go_wp2;go_ret;exact⟨by simp[h];rw[bV];simp,rfl⟩
def ado(k:Int):aB:=.iface 162 (.b .a k)
theorem apT(k:Int)(W:ak):aP ah 92 #[.e true,.b .a k] W fun e W'=>e=.a (.J #[])/\W=W':=by
 go_enter Tryz.func92,Tryz.ntmps92;go_wp2;go_end0;exact⟨rfl,rfl⟩
theorem apU(k:Int)(W:ak):aP ah 92 #[.e false,.b .a k] W fun e W'=>e=.panicked [{v:=ado k,recovered:=false}]/\W=W':=by
 go_enter Tryz.func92,Tryz.ntmps92;go_wp2;exact⟨rfl,rfl,rfl⟩
theorem afM(W:ak)(k:Int)(A:Option aT)(n c:Nat)(l:List UInt8)(hnc:n<=c)(hc:c<=9223372036854775807/\n<=1000000000)(hr:fU W W.a.j A n l):aP ah 93 #[.b .a k,.a A n c] W (gD W (.J #[.d (YJ k l).1.ay,.b .a (YJ k l).2])):=by
 have b0:=ab ((Bx.start W).new aaT.ay 168);have R0:=b0.i.Lv hr;have C4:=ab (Np _ A n c l hnc hc R0);have C6:=ab (Rb _ A n c l hnc hc R0);clear R0 hr;have hne:∀(w:ak),W.a.j<w.a.j->∀p∈[(w.a.j,(#[]:Array aB))],True:=fun _ _ _ _=>trivial
 go_enter Tryz.func93,Tryz.ntmps93;by_cases hk:k=2048
 ·have q:(k==2048)=true:=by simp[hk]
  have H:=ab (show YJ k l=(⟨(zR l).1.head,(zR l).1.dz,(zR l).1.aQ,(zR l).1.oI,(zR l).1.h,(zR l).1.X⟩,(zR l).2)by unfold YJ;rw[if_pos hk]);obtain⟨x,hx⟩:=cB ((zR l));obtain⟨x,er⟩:=x;rw[<-hx]at H;unfold FoP at C4;rw[<-hx]at C4;clear hx hk;go_wp2_with (go_at_call 175;with_reducible refine C4.i.g ?_;rintro e w1 ⟨rfl,hb1⟩;have Z1:=ab (b0.i.go hb1);have Z2:=ab (Z1.i.new x.ay 192);obtain⟨y1,y2,y3,y4⟩:=Z2.i.S.K;have yE:=Z2.i.b1.M 0 38 (aX (Nt.G aaT).symm);clear hb1);have Z3:=ab (Z2.i.swap.put (fun p hp=>by rw[fG.1 hp];exact uq Z1.i.S.lt) (Nt.mk x.head x.dz x.aQ x.oI x.h x.X).ay (by rw[Nt.G,Nt.G]));refine aN (kNt.qC rfl _ rfl Z3.i.S (Nt.G _)) rfl ?_;rw[H.i];exact⟨rfl,Z3.i.R⟩
 ·have q:(k==2048)=false:=by simp[hk]
  have H:=ab (show YJ k l=(⟨(Aq l).1.head,(Aq l).1.dz,(Aq l).1.aQ,(Aq l).1.oI,(Aq l).1.h,(Aq l).1.X⟩,(Aq l).2)by unfold YJ;rw[if_neg hk]);obtain⟨x,hx⟩:=cB ((Aq l));obtain⟨x,er⟩:=x;rw[<-hx]at H;unfold SxP at C6;rw[<-hx]at C6;clear hx hk;go_wp2_with (go_at_call 176;with_reducible refine C6.i.g ?_;rintro e w1 ⟨rfl,hb1⟩;have Z1:=ab (b0.i.go hb1);have Z2:=ab (Z1.i.new x.ay 189);obtain⟨y1,y2,y3,y4⟩:=Z2.i.S.K;have yE:=Z2.i.b1.M 0 38 (aX (Nt.G aaT).symm);clear hb1);have Z3:=ab (Z2.i.swap.put (fun p hp=>by rw[fG.1 hp];exact uq Z1.i.S.lt) (Nt.mk x.head x.dz x.aQ x.oI x.h x.X).ay (by rw[Nt.G,Nt.G]));refine aN (kNt.qC rfl _ rfl Z3.i.S (Nt.G _)) rfl ?_;rw[H.i];exact⟨rfl,Z3.i.R⟩
theorem VI{P:eG}{t:bF}{ik:IntKind}(hu:P.k t=some (.b ik))(v:aB)(xT:bF)(w:ak):(Gm (.iface t v) xT t true).I P w = .Z (.J #[v,.e true]) w:=by
 simp[Gm,dJ hu]
theorem Sm(q:Nat)(k:Int)(lI:List PanicEntry)(w:ak)(hth:w.M q 0 42):
 CallsD ah 90 #[.c (some ⟨q,0,none⟩)] (.panicking ({v:=ado k,recovered:=false}::lI)) w fun e u' w'=>
  e=.a (.J #[])/\u'=.panicking ({v:=ado k,recovered:=true}::lI)/\w'=gT w q 0 (xA k).ay:=by
 refine callsD_of_wpS Tryz.func90 rfl fun c₀ cs hu=>?_
 simp only[Hw,dI,bC,gL,Nat.reduceAdd,Nat.reduceSub,Array.replicate_succ,Array.replicate_zero,List.push_toArray,List.append_toArray,List.nil_append,List.cons_append];apply Hy;apply BU;simp[wpOpsS,go_sem,recoverD,hu,Hw,Exit.thenS];apply Hy;apply BU;simp[wpOpsS,go_sem,recoverD,hu,Hw,Exit.thenS,ado];refine wpS_cond (t:=true) (by simp[Act.eval,ng]) ?_;simp only[if_true];refine wpS_of_wp ?_;have hty:=fun v xT w=>VI (P:=ah) Tryz.underlying162 v xT w
 have aJe:=hth;go_wp2;exact⟨rfl,_,rfl,_,results_none rfl _ _ _,rfl,rfl,rfl⟩
theorem afN(q:Nat)(w:ak):
 CallsD ah 90 #[.c (some ⟨q,0,none⟩)] .returning w fun e u' w'=>e=.a (.J #[])/\u'=.returning/\w'=w:=by
 refine callsD_of_wpS Tryz.func90 rfl fun c₀ cs hu=>?_
 apply Hy;apply BU;simp[wpOpsS,go_sem,recoverD,hu,Hw,Exit.thenS];apply Hy;apply BU;simp[wpOpsS,go_sem,recoverD,hu,Hw,Exit.thenS];refine wpS_cond (t:=false) (by simp[Act.eval,ng]) ?_;simp only[jI,if_false];refine wpS_of_wp (wp_skip ?_);cases c₀;simp_all[bodyPostS,results,Tryz.results90]
end
def xZ(o:iZ)(e:Nat):iZ:={o with after:=o.after.push {on:=e,ground:=.data}}
theorem KJ{listed:Array Bool}{k i:Nat}{b:Bool}(h:listed.c k b=true):(listed.b i true).c k b=true:=by
 by_cases e:i=k
 ·subst e
  rcases aY i listed.j with h1|h1
  ·simp[h1]
  ·rw[jR h1];exact h
 ·rw[wY b e];exact h
def amt(ops:Array iZ)(k s e d:Nat):Bool:=match ops[s]?,ops[e]?,ops[s+1]? with
 | some os,some oe,some ot=>((dP s).all fun i=>i==e||os.after.any fun x=>qB .any x&&x.on==i)&&(oe.after.all fun x=>!qB .any x||os.after.any fun y=>qB .any y&&y.on==x.on)
  && (ot.after.any fun x=>qB .any x&&x.on==e)&&os.X==none&&os.guard==none&&oe.guard==none&&decide (e<s)&&decide (k<s)&&e != k&&(match oe.X with|some x=>!(os.looksAt ops).contains x&&x != d|none=>false) && !(oe.looksAt ops).contains d
  && ((dP ops.j).all fun t=>decide (t<=s+1)||Region.waitsFor .any ops t (t-1))
 | _,_,_=>false
section
variable {P:eG}
section
variable {l:List iZ} {k s e g d:Nat} {o os oe:iZ} {T:bF} {z:Array aB} {aF:qR} {Q:zO->qR->ak->Prop}
def mK(l:List iZ)(k s e:Nat)(o os:iZ):List iZ:=(l.set k (kX o)).set s (xZ os e)
theorem yY(i:Nat)(hk:i≠k)(hs:i≠s):(mK l k s e o os).b[i]? = l.b[i]?:=by
 simp[mK,fJ,jr hk,jr hs]
theorem aa4(hs:l[s]? = some os):(mK l k s e o os).b[s]? = some (xZ os e):=by
 have:=(iE.1 hs).1;simp[mK,fJ,this]
theorem VJ(hk:l[k]? = some o)(hks:k≠s):(mK l k s e o os).b[k]? = some (kX o):=by
 have:=(iE.1 hk).1;simp[mK,fJ,this,jr hks]
theorem VK(hk:l[k]? = some o)(hs:l[s]? = some os)(hks:k≠s)(tmps:Array aB):yielded (mK l k s e o os).b tmps=yielded l.b tmps:=by
 funext j;unfold yielded;have:((mK l k s e o os).b[j]?).bind (·.X)=(l.b[j]?).bind (·.X):=by
  by_cases h1:j=s
  ·subst h1;rw[aa4 hs];simp[hs,xZ]
  ·by_cases h2:j=k
   ·subst h2;rw[VJ hk hks];simp[hk,kX]
   ·rw[yY j h2 h1]
 rw[this]
theorem LC(hk:l[k]? = some o)(hs:l[s]? = some os)(hks:k≠s){listed:Array Bool}{i:Nat}(h:i∈gq .any (mK l k s e o os).b listed):i∈gq .any l.b listed:=by
 obtain⟨h1,p,hp,h2⟩:=kH.1 h;by_cases e1:i=s
 ·subst e1
  rw[aa4 hs]at hp;cases hp;exact kH.2 ⟨h1,os,by simpa using hs,fun x hx hb=>h2 x (by simp[xZ,hx]) hb⟩
 ·by_cases e2:i=k
  ·subst e2
   rw[VJ hk hks]at hp;cases hp;exact kH.2 ⟨h1,o,by simpa using hk,h2⟩
  ·rw[yY i e2 e1]at hp
   exact kH.2 ⟨h1,p,hp,h2⟩
theorem LG(hk:l[k]? = some o)(hs:l[s]? = some os)(hks:k≠s){listed:Array Bool}{i:Nat}(h:i∈gq .any l.b listed):i∈gq .any (mK l k s e o os).b listed\/(i=s/\listed.c e false=false):=by
 obtain⟨h1,p,hp,h2⟩:=kH.1 h;by_cases e1:i=s
 ·subst e1
  cases he:listed.c e false with
  | false=>exact .b ⟨rfl,rfl⟩
  | true=>
    have:p=os:=by simp[hs]at hp;exact hp.symm
    subst this;refine .a (kH.2 ⟨h1,xZ p e,aa4 hs,fun x hx hb=>?_⟩);simp only[xZ,Array.mem_push]at hx;rcases hx with hx|rfl
    ·exact h2 x hx hb
    ·exact he
 ·left
  by_cases e2:i=k
  ·subst e2
   have:p=o:=by simp[hk]at hp;exact hp.symm
   subst this;exact kH.2 ⟨h1,kX p,VJ hk hks,h2⟩
  ·exact kH.2 ⟨h1,p,by rw[yY i e2 e1];exact hp,h2⟩
theorem YK(hk:l[k]? = some o)(hs:l[s]? = some os)(hks:k≠s){listed:Array Bool}(he:listed.c e false=true):gq .any (mK l k s e o os).b listed=gq .any l.b listed:=by
 have hiff:∀i,i∈gq .any (mK l k s e o os).b listed↔i∈gq .any l.b listed:=fun i=>
  ⟨LC hk hs hks,fun h=>(LG hk hs hks h).resolve_right fun h2=>by rw[he]at h2;cases h2.2⟩
 have hsz:(mK l k s e o os).b.j=l.b.j:=by simp[mK]
 unfold gq at hiff ⊢;rw[hsz]at hiff ⊢;refine EM fun i hi=>?_
 have:=hiff i;rw[mh,mh]at this;rw[bV];exact⟨fun h=>(this.1 ⟨hi,h⟩).2,fun h=>(this.2 ⟨hi,h⟩).2⟩
theorem aa5(hk:l[k]? = some o)(hs:l[s]? = some os)(hks:k≠s):∀(g j:Nat)(listed:Array Bool),listed.c e false=true->listed.j=l.a->lu .any (mK l k s e o os).b g j listed=true->lu .any l.b g j listed=true
 | 0,j,listed,he,hz,h=>by simp only[lu]at h⊢;rwa [YK hk hs hks he]at h
 | g+1,j,listed,he,hz,h=>by
   simp only[lu,bl]at h ⊢;rw[YK hk hs hks he]at h;exact⟨h.1,aa5 hk hs hks g (j+1) _ (getD_set_true he) (by simp[hz]) h.2⟩
def Pure(P:eG)(oe:iZ):Prop:=∀(a:qR)(w w':ak)(n:Next)(w1:ak),(execOp a.eval oe).I P w = .Z n w1->∃v,n=.value v/\w1=w/\(execOp a.eval oe).I P w' = .Z (.value v) w'
structure Qq(l:List iZ)(k s e d x:Nat)(o os oe ot:iZ):Prop where
 hk:l[k]? = some o
 hs:l[s]? = some os
 he:l[e]? = some oe
 ht:l[s+1]? = some ot
 all:∀i,i<s->i≠e->∃y∈os.after,qB .any y=true/\y.on=i
 sub:∀y∈oe.after,qB .any y=true->∃z∈os.after,qB .any z=true/\z.on=y.on
 wt:∃y∈ot.after,qB .any y=true/\y.on=e
 sd:os.X=none
 sg:os.guard=none
 eg:oe.guard=none
 es:e<s
 ks:k<s
 ek:e≠k
 ed:oe.X=some x
 sx:x∉os.looksAt l.b
 xd:x≠d
 edl:d∉oe.looksAt l.b
 chain:∀t,t<l.a->s+1<t->Region.waitsFor .any l.b t (t-1)=true
theorem Qq.of{x:Nat}{ot:iZ}(hk:l[k]? = some o)(hs:l[s]? = some os)(he:l[e]? = some oe)(ht:l[s+1]? = some ot)(hx:oe.X=some x)(h:amt l.b k s e d=true):Qq l k s e d x o os oe ot:=by
 unfold amt at h;simp only[dV,hs,he,ht,bl,decide_eq_true_eq,hx,beq_iff_eq,bne_iff_ne]at h;obtain⟨⟨⟨⟨⟨⟨⟨⟨⟨⟨⟨h1,h2⟩,h3⟩,h4⟩,h5⟩,h6⟩,h7⟩,h8⟩,h9⟩,h10,h11⟩,h12⟩,h13⟩:=h;refine⟨hk,hs,he,ht,fun i hi hie=>?_,fun y hy hb=>?_,?_,h4,h5,h6,h7,h8,h9,hx,by simpa using h10,h11,by simpa using h12,fun t ht1 ht2=>?_⟩
 ·have:=gJ.1 h1 i (eO.2 hi)
  simp only[nu,beq_iff_eq]at this;obtain⟨y,hy,hy2⟩:=Array.any_eq_true'.1 (this.resolve_left hie);simp only[bl,beq_iff_eq]at hy2;exact⟨y,hy,hy2⟩
 ·have:=Array.all_eq_true'.1 h2 y hy
  simp only[nu,Bool.not_eq_true',hb]at this;obtain⟨z,hz,hz2⟩:=Array.any_eq_true'.1 (this.resolve_left (by simp));simp only[bl,beq_iff_eq]at hz2;exact⟨z,hz,hz2⟩
 ·obtain⟨y,hy,hy2⟩:=Array.any_eq_true'.1 h3
  simp only[bl,beq_iff_eq]at hy2;exact⟨y,hy,hy2⟩
 ·have:=gJ.1 h13 t (eO.2 (by simpa using ht1))
  simp only[nu,decide_eq_true_eq]at this;exact this.resolve_left (by omega)
theorem ajg{x:Nat}{ot:iZ}(H:Qq l k s e d x o os oe ot)(hsel:∀(j:Nat)(o:iZ) cs b,l.b[j]? = some o->o.op≠.select cs b)(hp:Pure P oe){C:ak->Prop}{u:aB}{f:Nat}{listed:Array Bool}{a:qR}{w:ak}
 (hsz:listed.j=l.a) (htail:∀t,s<=t->t<l.a->listed.c t true=false) (hq:Xu P .any (mK l k s e o os).b C s (l.a-s) aF (f+1) listed a) (hw:C w) (hsr:s∈gq .any l.b listed) (hel:listed.c e false=false)
 (hst:∀w',C w'->∃w2,(execOp (aF.put (some d) u).eval os).I P w' = .Z .skip w2/\wpList P l.b Q (l.f (s+1)) (aF.put (some d) u) w2) :
 wpOp P l.b Q s (wpAny P .any l.b Q (f+(l.a-s)) (listed.b s true)) (a.put (some d) u) w:=by
 have hks:=jL H.ks;have hes:=jL H.es;obtain⟨_,p,hpo,hall⟩:=kH.1 hsr;have:p=os:=by have:=H.hs;simp[this]at hpo;exact hpo.symm
 subst this;have hlt:s+1<l.a:=(iE.1 H.ht).1;have aui:e<listed.j:=by rw[hsz];have:=H.es;omega
 have he':e∈gq .any (mK l k s e o p).b listed:=kH.2 ⟨getD_in aui hel,oe,by rw[yY e H.ek hes];simpa using H.he,fun y hy hb=>by
  obtain⟨z,hz,hzb,hzo⟩:=H.sub y hy hb;rw[<-hzo];exact hall z hz hzb⟩
 obtain⟨v,hy,hK⟩:=qN (by rw[yY e H.ek hes];simpa using H.he) (hq.2 e he').2;have aho:∀i,i<s->i≠e->listed.c i false=true:=fun i hi hie=>by
  obtain⟨y,hy,hb,ho⟩:=H.all i hi hie;rw[<-ho];exact hall y hy hb
 obtain rfl:f=0:=by
  rcases f with _|f
  ·rfl
  ·exfalso
   obtain⟨i,hi⟩:=List.exists_mem_of_ne_nil _ hK.1;have hin:=(hK.2 i hi).1;have hun:=(kH.1 hi).1;have h1:=zJ hun;have h2:=DK hun;have h3:=aho i hin h1;rw[getD_both h2]at h3;cases h3
 obtain⟨hseq,hact⟩:=hK;rw[H.ed]at hact;have hA:aF.put (some d) u=(a.put (some d) u).put (some x) v:=by rw[<-hact];exact Act.put_comm a v u (fun e he=>by cases he;simpa using jr H.xd)
 unfold wpOp;rw[hpo];simp only;rw[if_pos (by simp[fF,H.sg])];refine .a ?_;obtain⟨w2,hrun,hrest⟩:=hst w hw;rw[hA,execOp_put p (fun cs b=>hsel s p cs b hpo) (a.put (some d) u) (some x) v (fun e he=>by cases he;exact H.sx)]at hrun;unfold ni;rw[hrun];simp only[LU,H.sd,lD];rw[bB];obtain⟨g,hg⟩:∃g,l.a-s=g+1:=⟨l.a-s-1,by omega⟩
 rw[hg]at hseq ⊢;simp only[lu,bl,decide_eq_true_eq]at hseq;have ayl:(listed.b s true).c e false=false:=by rw[wY false (jr hes)];exact hel
 have her:e∈gq .any l.b (listed.b s true):=kH.2 ⟨getD_in (by simpa using aui) ayl,oe,by simpa using H.he,fun y hy hb=>by
  obtain⟨z,hz,hzb,hzo⟩:=H.sub y hy hb;rw[<-hzo];exact getD_set_true (hall z hz hzb)⟩
 refine⟨fun h0=>(by rw[h0]at her;cases her),fun i hi=>?_⟩;obtain rfl:i=e:=by
  obtain⟨hun,q,hqo,hqa⟩:=kH.1 hi;have h1:=zJ hun;have h2:=DK hun;by_cases hie:i=e
  ·exact hie
  ·exfalso
   rcases aY i s with h3|h3
   ·have h4:=aho i h3 hie
    rw[getD_both h2]at h4;cases h4
   ·have hil:i<l.a:=by have:=(Array.getElem?_eq_some_iff.1 hqo).1;simpa using this
    rcases aY (s+1) i with h4|h4
    ·obtain⟨q',hq',y,hy,hb,ho⟩:=Region.waitsFor_spec (H.chain i hil h4)
     have:q'=q:=Option.some.inj (hq'.symm.trans hqo);subst this;have h5:=hqa y hy hb;rw[ho,wY false (by omega),getD_both (htail (i-1) (by omega) (by omega))]at h5;cases h5
    ·obtain rfl:i=s+1:=by omega
     have:q=ot:=by have:=H.ht;simp[this]at hqo;exact hqo.symm
     subst this;obtain⟨y,hy,hb,ho⟩:=H.wt;have h5:=hqa y hy hb;rw[ho,ayl]at h5;cases h5
 have heo:l.b[i]? = some oe:=by simpa using H.he
 unfold wpOp;simp only[heo];rw[if_pos (by simp[fF,H.eg])];refine .a ?_;have hyv:(execOp a.eval oe).I P w2 = .Z (.value v) w2:=by
  rcases hy with⟨_,h2⟩|⟨h1,_⟩
  ·have h3:=h2 w hw
   unfold Oper.quietAt at h3;generalize hr:(execOp a.eval oe).I P w=r at h3;cases r with
   | halt y w'=>cases h3
   | ok n w'=>
     obtain⟨v',rfl,rfl,h4⟩:=hp a w w2 n w' hr;simp only[Oper.quietUpon]at h3;rw[<-h3.2];exact h4
  ·simp[fF,H.eg]at h1
 unfold ni;have hex:execOp (a.put (some d) u).eval oe=execOp a.eval oe:=execOp_put oe (fun cs b=>hsel i oe cs b heo) a (some d) u (fun e he=>by cases he;exact H.edl);have ha2:({tmps:=a.tmps.b d u,defers:=a.defers}:qR)=a.put (some d) u:=rfl;rw[ha2,hex,hyv];simp only[LU,H.ed];rw[<-hA];have hdl:(l.f (s+1)).a=g:=by simp;omega
 have:=wpAny_of_seq (P:=P) (md:=.any) (Q':=Q) (ops:=l.b) (l.f (s+1)) (s+1) ((listed.b s true).b i true) (aF.put (some d) u) w2 (fun j=>by simp[jo]) (by
  rw[hdl,Array.setIfInBounds_comm _ _ (jr hes)];refine aa5 H.hk H.hs hks g (s+1) _ ?_ (by simp[hsz]) hseq.2;rw[wY false (jr hes)];simp[aui]) hrest
 rw[hdl]at this;exact this
theorem Nw{listed:Array Bool}{i:Nat}(h:∀t,s<=t->t<l.a->listed.c t true=false)(hi:i<s):∀t,s<=t->t<l.a->(listed.b i true).c t true=false:=fun t h1 h2=>by rw[wY true (by omega)];exact h t h1 h2
theorem I7{x:Nat}{ot:iZ}(H:Qq l k s e d x o os oe ot)(hA:FZ l.b k s d=true)(hsel:∀(j:Nat)(o:iZ) cs b,l.b[j]? = some o->o.op≠.select cs b)(hp:Pure P oe){C:ak->Prop}{u:aB}
 (hst:∀w',C w'->∃w2,(execOp (aF.put (some d) u).eval os).I P w' = .Z .skip w2/\wpList P l.b Q (l.f (s+1)) (aF.put (some d) u) w2)
 (hend:∀listed w',listed.j=l.a->C w'->lu .any (mK l k s e o os).b (l.a-s) s listed=true->wpAny P .any l.b Q (l.a-s) listed (aF.put (some d) u) w') :
 ∀(f:Nat)(listed:Array Bool)(a:qR)(w:ak),listed.j=l.a->(∀t,s<=t->t<l.a->listed.c t true=false)->listed.c k true=true->C w->Xu P .any (mK l k s e o os).b C s (l.a-s) aF f listed a->wpAny P .any l.b Q (f+(l.a-s)) listed (a.put (some d) u) w
 | 0,listed,a,w,hsz,_,_,hw,h=>by
   obtain⟨h1,rfl⟩:=h;rw[bB];exact hend _ _ hsz hw h1
 | f+1,listed,a,w,hsz,htl,hkt,hw,h=>by
   rw[show f+1+(l.a-s)=(f+(l.a-s))+1 by omega];have hks:=jL H.ks;refine⟨fun h0=>absurd ?_ h.1,fun i hi=>?_⟩
   ·rw[tC]
    intro i hi;have:=LC H.hk H.hs hks hi;rw[h0]at this;cases this
   ·rcases LG (e:=e) H.hk H.hs hks hi with hi'|⟨rfl,hel⟩
    ·obtain⟨hin,hq⟩:=h.2 i hi'
     obtain⟨hun,oi,hoi,_⟩:=kH.1 hi;have hik:i≠k:=fun e=>by rw[e,hkt]at hun;cases hun
     have his:i≠s:=jL hin;obtain⟨hl,hd⟩:=VF hA hin hik hoi;unfold qOp at hq;rw[yY i hik his,hoi]at hq;unfold wpOp;simp only[hoi];simp only[VK H.hk H.hs hks]at hq;rw[wanted_put oi a (some d) u (fun e he=>by cases he;exact hl)];split
     ·rename_i hw2
      simp only[hw2,if_true]at hq;exact .a (Gz (fun cs b=>hsel i oi cs b hoi) hl hd hw (fun a' w' hw' h'=>I7 H hA hsel hp hst hend f _ a' w' (by simp[hsz]) (Nw htl hin) (KJ hkt) hw' h') hq)
     ·rename_i hw2
      simp only[hw2]at hq;rw[Act.put_comm a u undef (fun e he=>by cases he;exact hd)];exact I7 H hA hsel hp hst hend f _ _ w (by simp[hsz]) (Nw htl hin) (KJ hkt) hw hq
    ·exact ajg H hsel hp hsz htl h hw hi hel hst
theorem VL{x:Nat}{ot:iZ}(H:Qq l k s e d x o os oe ot)(hA:FZ l.b k s d=true)(hD:Ra (mK l k s e o os)=true)(hsel:∀(j:Nat)(o:iZ) cs b,l.b[j]? = some o->o.op≠.select cs b)(hp:Pure P oe)
 (hod:o.X=some d) (hog:o.guard=none) (hoa:o.after = #[]) (hrun:∀(a:qR) w,(execOp a.eval o).I P w = .Z (.value (.c (some ⟨w.a.j,0,none⟩))) (w.alloc (.D z T))) {S:ak->Prop} (hS:Shut S)
 (hst:∀w1 w',S w1->S w'->aL (w1.alloc (.D z T)).a.j (w1.alloc (.D z T)) w'->∃w2,(execOp (aF.put (some d) (.c (some ⟨w1.a.j,0,none⟩))).eval os).I P w' = .Z .skip w2/\wpList P l.b Q (l.f (s+1)) (aF.put (some d) (.c (some ⟨w1.a.j,0,none⟩))) w2)
 (hend:∀listed w1 w',listed.j=l.a->S w1->S w'->aL (w1.alloc (.D z T)).a.j (w1.alloc (.D z T)) w'->lu .any (mK l k s e o os).b (l.a-s) s listed=true->wpAny P .any l.b Q (l.a-s) listed (aF.put (some d) (.c (some ⟨w1.a.j,0,none⟩))) w') :
 ∀(f:Nat)(listed:Array Bool)(a:qR)(w:ak),listed.j=l.a->(∀t,s<=t->t<l.a->listed.c t true=false)->listed.c k true=false->S w->(∀C:ak->Prop,(∀w,C w->S w)->Shut C->(∃w,C w)->Xu P .any (mK l k s e o os).b C s (l.a-s) aF f listed a)->wpAny P .any l.b Q (f+(l.a-s)) listed a w
 | 0,listed,a,w,hsz,_,hun,hw,HH=>by
   obtain⟨h1,_⟩:=HH S (fun _ h=>h) hS ⟨w,hw⟩;have:k∈gq .any (mK l k s e o os).b listed:=kH.2 ⟨hun,kX o,VJ H.hk (jL H.ks),fun e he=>by simp[kX,hoa]at he⟩;have:=seqB_ready h1 k this;have:=H.ks;omega
 | f+1,listed,a,w,hsz,htl,hun,hw,HH=>by
   rw[show f+1+(l.a-s)=(f+(l.a-s))+1 by omega];have hks:=jL H.ks;have H0:=HH S (fun _ h=>h) hS ⟨w,hw⟩;have hkl:k<l.a:=(iE.1 H.hk).1;refine⟨fun h0=>absurd ?_ H0.1,fun i hi=>?_⟩
   ·rw[tC]
    intro i hi;have:=LC H.hk H.hs hks hi;rw[h0]at this;cases this
   ·rcases LG (e:=e) H.hk H.hs hks hi with hi'|⟨rfl,hel⟩
    ·have hin:=(H0.2 i hi').1
     by_cases hik:i=k
     ·subst hik
      unfold wpOp;simp only[dV,H.hk];rw[if_pos (by simp[fF,hog])];refine .a ?_;unfold ni;rw[hrun];simp only[LU,hod];have hC:=HH (fun w'=>S w'/\aL (w.alloc (.D z T)).a.j (w.alloc (.D z T)) w') (fun _ h=>h.1) (VH hS _) ⟨_,hS _ _ hw ((aG _ _).alloc (av _) _),aG _ _⟩;obtain⟨v,_,hK⟩:=qN (o:=kX o) (VJ H.hk hks) (hC.2 i hi').2;have:=I7 (C:=fun w'=>S w'/\aL (w.alloc (.D z T)).a.j (w.alloc (.D z T)) w') (u:=.c (some ⟨w.a.j,0,none⟩)) H hA hsel hp (fun w' hw'=>hst w w' hw hw'.1 hw'.2) (fun listed' w' hz hw' hB=>hend listed' w w' hz hw hw'.1 hw'.2 hB) f _ _ (w.alloc (.D z T)) (by simp[hsz]) (Nw htl hin) (by
       have:i<listed.j:=by rw[hsz];exact hkl
       simp[this]) ⟨hS _ _ hw ((aG _ _).alloc (av _) _),aG _ _⟩ hK
      have e1:(kX o).X=some d:=hod;rw[e1,Nu]at this;exact this
     ·obtain⟨_,oi,hoi,_⟩:=kH.1 hi
      have his:i≠s:=jL hin;have afK:(mK l k s e o os).b[i]? = some oi:=by rw[yY i hik his];exact hoi
      obtain⟨v,hy,hK⟩:=qN afK (H0.2 i hi').2;have hq:qOp P l.b S i (fun a'=>a'=a.put oi.X v) a:=by
       unfold qOp;simp only[hoi];unfold YieldsIn at hy;simp only[VK H.hk H.hs hks]at hy;rcases hy with⟨h1,h2⟩|⟨h1,rfl⟩
       ·simp only[h1,if_true];exact⟨v,h2,rfl⟩
       ·simp only[h1,jI,if_false]
      refine wpOp_of_qOp hw (fun a' w' hw' e1=>?_) hq;subst e1;refine VL H hA hD hsel hp hod hog hoa hrun hS hst hend f _ _ w' (by simp[hsz]) (Nw htl hin) (Ns hun (jr hik)) hw' (fun C hC1 hC2 hC3=>?_);obtain⟨_,v2,_,_,_,hK2,_⟩:=adj hD hi' afK H0 (HH C hC1 hC2 hC3);have e1:a.put oi.X v=a.put oi.X v2:=by
       cases hd:oi.X with
       | none=>rfl
       | some dd=>
         have hno:∀j oj,(mK l k s e o os).b[j]? = some oj->(listed.b i true).c j true=false->oj.X≠some dd:=fun j oj hj hl hdj=>by
          have:=Ga hD (by simpa using afK) (by simpa using hj) hd hdj;exact zJ hl this.symm
         have q1:=(Bz f _ _ hK).2.2 dd hno;have q2:=(Bz f _ _ hK2).2.2 dd hno;rw[hd]at q1 q2;have q:=q1.symm.trans q2;simp only[lD,dQ,if_pos]at q ⊢;by_cases hs:dd<a.tmps.j
         ·simp[hs]at q;rw[q]
         ·have hs':=Nat.le_of_not_lt hs
          rw[jR hs',jR hs']
      rw[e1];exact hK2
    ·exfalso
     obtain⟨_,p,hpo,hall⟩:=kH.1 hi;have:p=os:=by have:=H.hs;simp[this]at hpo;exact hpo.symm
     subst this;obtain⟨y,hy,hb,ho⟩:=H.all k H.ks (jr H.ek);have:=hall y hy hb;rw[ho,getD_both hun]at this;cases this
theorem wV{S:ak->Prop}(hS:Shut S)(k s e d x:Nat){id:Nat}{Q:zO->qR->ak->Prop}{a:qR}{w:ak}{l:List iZ}{o os oe ot:iZ}(T:bF)(z:Array aB)(hm:P.follows .mixedOrders=true)
 (hk:l[k]? = some o) (hs:l[s]? = some os) (he:l[e]? = some oe) (ht:l[s+1]? = some ot) (hx:oe.X=some x) (hL:amt l.b k s e d=true) (hB:wZ .any (mK l k s e o os).b s=true) (hA:FZ l.b k s d=true) (hD:Ra (mK l k s e o os)=true) (hsel:Region.noSelect l.b=true)
 (hod:o.X=some d) (hog:o.guard=none) (hoa:o.after = #[]) (hrun:∀(a:qR) w,(execOp a.eval o).I P w = .Z (.value (.c (some ⟨w.a.j,0,none⟩))) (w.alloc (.D z T))) (hp:Pure P oe) (h0:S w.drew)
 (hh:∃aF:qR,(∀(T:Type)(f:T->ak),Nonempty T->(∀m,S (f m))->(∀m w',aL (f m).a.j (f m) w'->∃m',w'=f m')->wpQuiet P (mK l k s e o os).b (fun w'=>∃m,w'=f m) (fun a'=>a'=aF) ((mK l k s e o os).d s) a)
 /\ (∀w1 w',S w1->S w'->aL (w1.alloc (.D z T)).a.j (w1.alloc (.D z T)) w'->∃w2,(execOp (aF.put (some d) (.c (some ⟨w1.a.j,0,none⟩))).eval os).I P w' = .Z .skip w2/\wpList P l.b Q (l.f (s+1)) (aF.put (some d) (.c (some ⟨w1.a.j,0,none⟩))) w2)):(Code.region id l.b true).wp P Q a w:=by
 obtain⟨aF,h,h2⟩:=hh;have H:=Qq.of hk hs he ht hx hL;have hks:=jL H.ks;have hsl:s<l.a:=(iE.1 hs).1;simp only[wZ,bl,decide_eq_true_eq]at hB;obtain⟨⟨⟨⟨amn,hn⟩,hs'⟩,hc⟩,hlex⟩:=hB;have hsz:(mK l k s e o os).b.j=l.a:=by simp[mK]
 have htl:((mK l k s e o os).d s).a=s:=by simp[mK];omega
 have inv0:HeadInv .any (mK l k s e o os).b s (ng l.b.j false):=
  ⟨by simp[mK],fun j oj _ hl=>(by rw[mI]at hl;cases hl),fun t _ ht=>getD_in (by rw[hsz]at ht;simpa using ht) (mI _ _)⟩
 refine wp_region_any hm ?_;rw[hsz]at hlex;have hdl:(l.f s).a=l.a-s:=by simp
 have:=VL (P:=P) (aF:=aF) (Q:=Q) H hA hD (Region.noSelect_spec hsel) hp hod hog hoa hrun hS h2 (fun listed w1 w' hz hw1 hw' hb hq=>by
  obtain⟨w2,hr,hrest⟩:=h2 w1 w' hw1 hw' hb;have hel:listed.c e false=true:=by
   obtain⟨g,hg⟩:∃g,l.a-s=g+1:=⟨l.a-s-1,by omega⟩
   rw[hg]at hq;simp only[lu,bl,decide_eq_true_eq]at hq;have:s∈gq .any (mK l k s e o os).b listed:=by rw[hq.1];simp
   obtain⟨_,p,hpo,hall⟩:=kH.1 this;rw[aa4 hs]at hpo;cases hpo;exact hall {on:=e,ground:=.data} (by simp[xZ]) rfl
  have:=wpAny_of_seq (P:=P) (md:=.any) (Q':=Q) (ops:=l.b) (l.f s) s listed (aF.put (some d) (.c (some ⟨w1.a.j,0,none⟩))) w' (fun j=>by simp[jo]) (by rw[hdl];exact aa5 H.hk H.hs hks _ _ _ hel hz hq) (by
   have hd:l.f s=os::l.f (s+1):=by
    have:=List.drop_eq_getElem_cons hsl;have h3:=(iE.1 hs).2;rw[this,h3]
   rw[hd];unfold wpList;rw[if_pos (by simp[fF,H.sg])];refine .a ?_;unfold ni;rw[hr];simp only[LU,H.sd];exact hrest)
  rwa [hdl]at this) s (ng l.b.j false) a {w with drawn:=w.drawn+1} (by simp) (fun t _ ht=>getD_in (by simpa using ht) (mI _ _)) (getD_in (by simp;have:=H.ks;omega) (mI _ _)) h0 (fun C hC1 hC2 hC3=>by
  have hq:=h {w // C w} Subtype.val (let⟨w,hw⟩:=hC3;⟨⟨w,hw⟩⟩) (fun m=>hC1 _ m.2) (fun m w' hb=>⟨⟨w',hC2 _ _ m.2 hb⟩,rfl⟩);have e:(fun w':ak=>∃m:{w // C w},w'=m.val)=C:=by
   funext w';rw[eq_iff_iff];exact⟨fun⟨m,hm⟩=>by rw[hm];exact m.2,fun h=>⟨⟨w',h⟩,rfl⟩⟩
  rw[e]at hq;have:=aap (md:=.any) (C:=C) (g:=l.a-s) amn hs' hc hn ((mK l k s _ o os).d s) 0 (ng l.b.j false) a (fun j hj=>by
   have hj':j<s:=by rw[htl]at hj;exact hj
   rw[gY hj',bB];simp) (by simpa using htl) inv0 (by rw[htl];simpa using hlex) hq
  rw[htl]at this;exact this)
 rw[show s+(l.a-s)=l.b.j by simp;omega]at this;exact this
theorem tJ{oe:iZ}{t:pG}{i:Nat}(h:oe.op=.m t i):Pure P oe:=by
 intro a w w' n w1 hr;simp only[execOp,h]at hr ⊢;generalize a.eval t=v at hr ⊢;unfold Instr.extract at hr ⊢;split at hr
 ·rename_i vs
  split at hr
  ·rename_i u hu
   simp at hr;exact⟨u,hr.1.symm,hr.2.symm,by simp⟩
  ·simp at hr
 ·simp at hr
end
end
section
attribute [local go_sem high] iY jH
theorem VO:∀(l:List UInt8)(i:Nat),i%2=0->i<l.a->words (l.d (i+2))=words (l.d i)++[256*nM l i+nM l (i+1)]
 | [],i,_,h=>by simp at h
 | [a],0,_,_=>by simp[words,nM]
 | [a],i+1,h1,h=>by simp at h
 | a::b::l,0,_,_=>by simp[words,nM]
 | a::b::l,1,h1,_=>by omega
 | a::b::l,i+2,h1,h=>by
   have:=VO l i (by omega) (by simp at h;omega);show(256*a.e+b.e)::words (l.d (i+2))=((256*a.e+b.e)::words (l.d i))++[256*nM l i+nM l (i+1)];rw[this];rfl
theorem Qr:∀l:List UInt8,(words l).a=(l.a+1)/2
 | []=>rfl
 | [a]=>by simp[words]
 | a::b::l=>by have:=Qr l;simp[words,this];omega
theorem adp:aaN 70 3 FP 1:=by
 obtain⟨i,hi,hz,hs⟩:=Tm;have h4:(ah.l 3).map (fun i=>decide (i.bytes<=1000))=some true:=by kernel_rfl
 rw[hi]at h4;simp at h4;exact⟨i,_,og,hi,hz,hs,rfl,by omega,h4,Yy,fun s=>by simp[FP,cZ]⟩
def yZ(l:List UInt8):List Int:=(words l).map fun n:Nat=>(n:Int)
theorem adq:∀(l:List UInt8)(x:Nat),x∈words l->x<=65535
 | [],x,h=>by simp[words]at h
 | [a],x,h=>by have:=a.a;simp[words]at h;omega
 | a::b::l,x,h=>by
   have:=a.a;have:=b.a;simp only[words,bg]at h;rcases h with rfl|h
   ·omega
   ·exact adq l x h
def WdP(W:ak)(l:List UInt8)(e:lq)(W':ak):Prop:=∃A' m c',e=.a (.a A' m c')/\RdI W' W'.a.j A' m (yZ l)/\aL W.a.j W W'
theorem aa6(W:ak)(A:Option aT)(n c:Nat)(l:List UInt8)(hn:n<=1000000)(hr:fU W W.a.j A n l):aP ah 257 #[.a A n c] W (WdP W l):=by
 have HR:=ab hr;have hl:=ab hr.len;clear hr;go_enter Tryz.func257,Tryz.ntmps257;go_wp2;go_loopw [3,4] (fun s3 s4 wr=>∃(i:Nat)(A':Option aT)(m c':Nat),i%2=0/\i<=n+1/\s4=.b .a i/\s3=.a A' m c'/\Rz FP 1 3 [] W wr (.a A' m c') (yZ (l.d i)))
  (fun s3 s4 wr=>n+2-(intOf s4).e)
 case atStart=>exact⟨0,none,0,0,rfl,by omega,rfl,rfl,by simpa[yZ,words]using Rz.nil (f:=FP) (sz:=1) (e:=3) W⟩
 case round=>
  obtain⟨i,A',m,c',hi2,hin,rfl,rfl,hz⟩:=hrel;have HZ:=ab hz;have hm:=hz.len;clear hz;by_cases hlt:i<n
  ·have q:(i:Int)<n:=by omega
   obtain⟨a,rfl,hab⟩:=HR.i.ahm (show 0<n by omega);have RW:=ab ((HR.i.O HZ.i.R).lF HZ.i.R.j:fU wr wr.a.j (some a) n l);obtain⟨_,e1,_,hc1⟩:=RW.i.fI hlt;cases e1;unfold bv at hc1;have hb0:((l.c i 0).e:Int)=(nM l i:Nat):=rfl;rw[hb0]at hc1;have auj:=uS l i;have hlt1:=uS l (i+1);have HML:=ab (show(yZ (l.d i)).a+1<=1000000 by simp[yZ,Qr];omega);have w1:=jS (nM l i:Nat) (by omega);have w2:=jS (256*(nM l i:Int)) (by omega);have w3:=jS ((i:Int)+1) (by omega);have HS:=ab (VO l i hi2 (by rw[hl.i];exact hlt));have FIN:=ab (fun(v:Int) (A5:Option aT) (n5 c5:Nat) (w5:ak) (hv:v=((256*nM l i+nM l (i+1):Nat):Int)) (h:Rz FP 1 3 [] W w5 (.a A5 n5 c5) (yZ (l.d i)++[v]))=>show Rz FP 1 3 [] W w5 (.a A5 n5 c5) (yZ (l.d (i+2)))by
    unfold yZ at h ⊢;rw[HS.i,iU];rw[hv]at h;exact h)
   by_cases h1:i+1<n
   ·have q1:(i:Int)+1<n:=by omega
    have hc2:=RW.i.VE i h1;have w4:=jS (nM l (i+1):Nat) (by omega);have w5:=jS (256*(nM l i:Int)+(nM l (i+1):Nat)) (by omega);have Za:=ab (HZ.i.alloc (.D (sH [256*(nM l i:Int)+(nM l (i+1):Nat)]) 3));have RO:=ab (RdI.lit wr [256*(nM l i:Int)+(nM l (i+1):Nat)] 3);go_wp2_with (at_builtin;refine Qk adp rfl (.tmp 31) (.tmp 33) rfl rfl Za.i rfl RO.i HML.i ?_;intro A5 n5 c5 w5 h5 h6;have Z5:=ab h5;clear h5 h6);exact⟨⟨i+2,A5,n5,c5,by omega,by omega,by rw[show((i+2:Nat):Int)=(i:Int)+2 by omega],rfl,FIN.i _ _ _ _ _ (by omega) Z5.i⟩,by simp only[intOf];omega⟩
   ·have q1:¬(i:Int)+1<n:=by omega
    have HB0:=ab (show nM l (i+1)=0 by unfold nM;rw[au,aS (by rw[hl.i];omega)];rfl);have Za:=ab (HZ.i.alloc (.D (sH [256*(nM l i:Int)]) 3));have RO:=ab (RdI.lit wr [256*(nM l i:Int)] 3);go_wp2_with (at_builtin;refine Qk adp rfl (.tmp 31) (.tmp 33) rfl rfl Za.i rfl RO.i HML.i ?_;intro A5 n5 c5 w5 h5 h6;have Z5:=ab h5;clear h5 h6);exact⟨⟨i+2,A5,n5,c5,by omega,by omega,by rw[show((i+2:Nat):Int)=(i:Int)+2 by omega],rfl,FIN.i _ _ _ _ _ (by rw[HB0.i];omega) Z5.i⟩,by simp only[intOf];omega⟩
  ·have q:¬(i:Int)<n:=by omega
   have H:=ab (show yZ (l.d i)=yZ l by rw[aK (by rw[hl.i];omega)]);clear hm;go_wp2;go_ret;rw[H.i]at HZ;exact⟨A',m,c',rfl,HZ.i.rd,HZ.i.R⟩
theorem ajh(l:List Nat)(i:Nat)(h:i<l.a):(l.d (i+1)).foldl vD 0=vD ((l.d i).foldl vD 0) (l.c i 0):=by
 rw[List.take_succ_eq_append_getElem h,List.foldl_append];simp[au,h]
theorem Ny:∀(l:List Nat)(a:Nat),a<=65535->(∀x∈l,x<=65535)->l.foldl vD a<=65535
 | [],a,h,_=>h
 | x::l,a,h,hl=>Ny l _ (FC h (hl x (by simp))) (fun y hy=>hl y (by simp[hy]))
theorem VQ(W:ak)(A:Option aT)(n c:Nat)(l:List UInt8)(hn:n<=1000000)(hr:fU W W.a.j A n l):aP ah 186 #[.a A n c] W (gD W (.b .a (wP l:Nat))):=by
 have hl:=hr.len;have hwl:=Qr l;have CW:=ab (aa6 W A n c l hn hr);unfold WdP at CW;clear hr;have HW:=ab (adq l);go_enter Tryz.func186,Tryz.ntmps186;go_wp2_with (go_at_call 257;(with_reducible refine CW.i.g ?_);rintro e w1 ⟨A',m,c',rfl,h1,h2⟩;have R1:=ab h1;have B1:=ab h2;clear h1 h2);have hm:=R1.i.len;unfold yZ at hm;rw[bU]at hm;have hmb:m<=1000000:=by omega
 clear hl hwl;go_loopw [4,5] (fun s4 s5 wr=>∃i:Nat,i<=m/\s5=.b .a i/\s4=.b .a (((words l).d i).foldl vD 0:Nat)/\wr=w1)
  (fun s4 s5 wr=>m-(intOf s5).e)
 case atStart=>exact⟨0,by omega,rfl,rfl,rfl⟩
 case round=>
  obtain⟨i,him,rfl,rfl,hwr⟩:=hrel;rw[hwr];clear hwr;by_cases hlt:i<m
  ·have q:(i:Int)<m:=by omega
   obtain⟨b,o,rfl,_,hcell⟩:=R1.i.cell Yy 0 hlt;have hc:=hcell 0 (by omega);have hv:(FP ((yZ l).c i 0))[0]? = some (.b .a ((words l).c i 0:Nat)):=by
    unfold yZ FP;rw[au,jk,aC (by omega)];simp[au,aC (show i<(words l).a by omega)]
   rw[hv]at hc;simp only[gH,Nat.add_zero]at hc;clear hcell hv;have HS:=ab (ajh (words l) i (by omega));have hx:(words l).c i 0<=65535:=HW.i _ (by rw[au,aC (show i<(words l).a by omega)];exact eU _);obtain⟨x,hx1⟩:=cB ((words l).c i 0);obtain⟨y,hy1⟩:=cB (((words l).d i).foldl vD 0);have hy:y<=65535:=by rw[hy1];exact Ny _ _ (by omega) (fun z hz=>HW.i z (List.mem_of_mem_take hz))
   rw[<-hx1]at hc hx HS;rw[<-hy1]at HS ⊢;have CR:=ab (acI y x w1 hy hx);clear hx1 hy1;go_wp2_with (go_at_call 258;(with_reducible refine CR.i.g ?_);rintro e w2 ⟨rfl,rfl⟩);exact⟨⟨i+1,by omega,by rw[show((i+1:Nat):Int)=(i:Int)+1 by omega],by rw[HS.i],trivial⟩,by simp only[intOf];omega⟩
  ·have q:¬(i:Int)<m:=by omega
   have H:=ab (show((words l).d i).foldl vD 0=MB 0 l by rw[aK (by omega)];rfl);have hle:=aan l 0 (by omega);rw[H.i];have HB:=ab (show(65535:Int)-(MB 0 l:Nat)=(wP l:Nat)by unfold wP;omega);generalize MB 0 l=z at *;go_wp2;go_ret;exact⟨by rw[<-HB.i];rfl,B1.i⟩
end
section
attribute [local go_sem high] iY jH
end
section
attribute [local go_sem high] iY jH
theorem apV{p:Int}{l:List UInt8}(h6:p≠6)(h17:p≠17):I5 p l=(qJ,5):=uD (by unfold uT;rw[if_pos ⟨h6,h17⟩]) (by decide)
theorem arU(l:List UInt8):I5 6 l=if l.a<20 then(qJ,2)else if nM l 12/16*4<20 then(qJ,3)else if l.a<nM l 12/16*4 then(qJ,2)else(⟨eZ l 0,eZ l 2,(nM l 13%64:Nat),(nM l 12/16*4:Nat),l.a⟩,0):=by
 split
 ·rename_i h;exact uD (by unfold uT;rw[if_neg (by simp),if_pos (by rw[if_pos rfl];exact h)]) (by decide)
 ·rename_i h
  have hg:qp 6 l=⟨eZ l 0,eZ l 2,(nM l 13%64:Nat),(nM l 12/16*4:Nat),l.a⟩:=by unfold qp;rw[if_pos rfl]
  have e1:¬l.a<(if(6:Int)=6 then 20 else 8):=by rw[if_pos rfl];exact h
  split
  ·rename_i h2;exact uD (by unfold uT;rw[if_neg (by simp),if_neg e1,if_pos (.a ⟨rfl,by rw[hg];simp only;omega⟩)]) (by decide)
  ·rename_i h2
   have e2:¬(((6:Int)=6/\(qp 6 l).head<20)\/(qp 6 l).dz<8):=by rw[hg];simp only;omega
   split
   ·rename_i h3;exact uD (by unfold uT;rw[if_neg (by simp),if_neg e1,if_neg e2,if_pos (by rw[hg];simp only;omega)]) (by decide)
   ·rename_i h3
    have:=Vz (p:=6) (l:=l) (by unfold uT;rw[if_neg (by simp),if_neg e1,if_neg e2,if_neg (by rw[hg];simp only;omega)]);rw[this,hg]
theorem amu(l:List UInt8):I5 17 l=if l.a<8 then(qJ,2)else if eZ l 4<8 then(qJ,3)else if l.a<eZ l 4 then(qJ,2)else(⟨eZ l 0,eZ l 2,0,8,eZ l 4⟩,0):=by
 split
 ·rename_i h;exact uD (by unfold uT;rw[if_neg (by simp),if_pos (by rw[if_neg (by decide)];exact h)]) (by decide)
 ·rename_i h
  have hg:qp 17 l=⟨eZ l 0,eZ l 2,0,8,eZ l 4⟩:=by unfold qp;rw[if_neg (by decide)]
  have e1:¬l.a<(if(17:Int)=6 then 20 else 8):=by rw[if_neg (by decide)];exact h
  split
  ·rename_i h2;exact uD (by unfold uT;rw[if_neg (by simp),if_neg e1,if_pos (.b (by rw[hg];simp only;omega))]) (by decide)
  ·rename_i h2
   have e2:¬(((17:Int)=6/\(qp 17 l).head<20)\/(qp 17 l).dz<8):=by rw[hg];simp only;omega
   split
   ·rename_i h3;exact uD (by unfold uT;rw[if_neg (by simp),if_neg e1,if_neg e2,if_pos (by rw[hg];simp only;omega)]) (by decide)
   ·rename_i h3
    have:=Vz (p:=17) (l:=l) (by unfold uT;rw[if_neg (by simp),if_neg e1,if_neg e2,if_neg (by rw[hg];simp only;omega)]);rw[this,hg]
theorem VR(W:ak)(A:Option aT)(n c B:Nat)(l:List UInt8)(k:Nat)(i:Int)(hi:i=k)(hk:k+1<n)(hnn:n<=1000000000)(hr:fU W B A n l):aP ah 299 #[.a A n c,.b .a i] W fun e W'=>e=.a (.b .a (eZ l k:Nat))/\∃q,W'=W.drewN q:=by subst hi;exact afF W A n c B l k hk hnn hr
theorem adr(W:ak)(p:Int)(A:Option aT)(n c:Nat)(l:List UInt8)(hc:n<=1000000000)(hr:fU W W.a.j A n l):aP ah 227 #[.b .a p,.a A n c] W (PtP W (I5 p l)):=by
 have HR:=ab hr;have hl:=ab hr.len;have b0:=ab ((Bx.start W).new qJ.ay 172);clear hr;go_enter Tryz.func227,Tryz.ntmps227;by_cases p6:p=6
 ·subst p6
  have HP:=ab (arU l);rw[hl.i]at HP;by_cases h20:n<20
  ·have q:(n:Int)<20:=by omega
   go_wp2;refine aN (TJ.qC rfl _ rfl b0.i.S (Pt.G _)) rfl ?_;rw[HP.i,if_pos h20];exact⟨rfl,b0.i.R⟩
  have q:¬(n:Int)<20:=by omega
  obtain⟨a,rfl,hab⟩:=HR.i.ahm (show 0<n by omega);have c12:=(b0.i.Lv HR.i).VE 11 (by omega);have i12:12<n:=by omega
  obtain⟨k,hk⟩:∃k:Nat,k=nM l 12/16*4:=⟨_,rfl⟩
  have hkk:4*((nM l 12:Int)/16)=(k:Int):=by omega
  have hkl:k<100:=by have:=uS l 12;omega
  have w13:4*((nM l 12:Int)/16%256)=(k:Int):=by have:=uS l 12;omega
  rw[<-hk]at HP;clear hk hkk;by_cases h2:k<20
  ·have q2:(k:Int)<20:=by omega
   go_wp2;refine aN (TJ.qC rfl _ rfl b0.i.S (Pt.G _)) rfl ?_;rw[HP.i,if_neg h20,if_pos h2];exact⟨rfl,b0.i.R⟩
  have q2:¬(k:Int)<20:=by omega
  by_cases h3:n<k
  ·have q3:(n:Int)<k:=by omega
   go_wp2;refine aN (TJ.qC rfl _ rfl b0.i.S (Pt.G _)) rfl ?_;rw[HP.i,if_neg h20,if_neg h2,if_pos h3];exact⟨rfl,b0.i.R⟩
  have q3:¬(n:Int)<k:=by omega
  have i13:13<n:=by omega
  obtain⟨g,hg⟩:∃g:Nat,g=nM l 13%64:=⟨_,rfl⟩
  have hgg:(nM l 13:Int)%64=(g:Int):=by omega
  have w14:(nM l 13:Int)%64%256=(g:Int):=by omega
  have w15:(nM l 13:Int)%64=(g:Int):=by omega
  rw[<-hg]at HP;clear hg hgg;go_upto_region 9 with fail
  generalize W.alloc (.D qJ.ay 172)=w1 at b0 ⊢;obtain⟨T,f,n0,E0,es,ew⟩:=Ec (Bx ([(W.a.j,qJ.ay)]) W) (w1) (b0.i.drew);have hT:Nonempty T:=⟨n0⟩
  have ES:=ab es;have EW:=ab ew;clear es ew;have RF:=ab (fun m=>(ES.i m).Lv HR.i);have k13:∀m,(f m).b ⟨a.block,a.off+13,none⟩=some (.b .b (nM l 13)):=fun m=>(RF.i m).VE 12 (by omega)
  have C0:=ab (fun m=>VR (f m) (some a) n c _ l 0 0 rfl (by omega) hc (RF.i m));have C2:=ab (fun m=>VR (f m) (some a) n c _ l 2 2 rfl (by omega) hc (RF.i m));refine UK f 13 (by kernel_rfl) (by kernel_rfl) n0 E0 ?_;simp only[jP,j4,jQ,kY]
  repeat(go_big_quiet_step ((first|(go_at_call 299;(with_reducible refine(C0.i _).g ?_);rintro e w2 ⟨rfl,q,rfl⟩;exact⟨rfl,EW.i _ ((ES.i _).drewN q)⟩)|(go_at_call 299;(with_reducible refine(C2.i _).g ?_);rintro e w2 ⟨rfl,q,rfl⟩;exact⟨rfl,EW.i _ ((ES.i _).drewN q)⟩))))
  refine gK ?_;rintro _ ⟨m',rfl⟩;have ZT:=ab (ES.i m');clear ES EW C0 C2 E0 RF k13;generalize f m'=w8 at *;clear hT n0;have yE:=ZT.i.S.M 0 5 (aX (Pt.G qJ).symm);have Z2:=ab (ZT.i.put (fun p hp=>by cases hp) (Pt.mk (eZ l 0) (eZ l 2) g k n).ay (by rw[Pt.G,Pt.G]));go_step;go_simp;go_step;go_step;go_wp2;refine aN (TJ.qC rfl _ rfl Z2.i.S (Pt.G _)) rfl ?_;rw[HP.i,if_neg h20,if_neg h2,if_neg h3];exact⟨rfl,Z2.i.R⟩
 have q6:(p==6)=false:=by simp[p6]
 by_cases p17:¬p=17
 ·have q17:(p != 17)=true:=by simp[p17]
  go_wp2;refine aN (TJ.qC rfl _ rfl b0.i.S (Pt.G _)) rfl ?_;rw[apV p6 p17];exact⟨rfl,b0.i.R⟩
 obtain rfl:p=17:=by simpa using p17
 have HP:=ab (amu l);rw[hl.i]at HP;by_cases h20:n<8
 ·have q:(n:Int)<8:=by omega
  go_wp2;refine aN (TJ.qC rfl _ rfl b0.i.S (Pt.G _)) rfl ?_;rw[HP.i,if_pos h20];exact⟨rfl,b0.i.R⟩
 have q:¬(n:Int)<8:=by omega
 have CT:=ab (fun(w:ak) (h:Bx [(W.a.j,qJ.ay)] W w) (k:Nat) (i:Int) (hi:i=k) (hk:k<6)=>VR w A n c _ l k i hi (by omega) hc (h.Lv HR.i));have C4:=ab (fun w h=>CT.i w h 4 4 rfl (by omega));have C0:=ab (fun w h=>CT.i w h 0 0 rfl (by omega));have C2:=ab (fun w h=>CT.i w h 2 2 rfl (by omega));obtain⟨t,ht⟩:=cB (eZ l 4);rw[<-ht]at C4 HP;clear ht;generalize hw1:W.alloc (.D qJ.ay 172)=w1 at b0 ⊢;have b1:=ab (fun q=>b0.i.drewN q);by_cases h2:t<8
 ·have q2:(t:Int)<8:=by omega
  go_wp2_with (go_at_call 299;(with_reducible refine(C4.i _ b0.i).g ?_);rintro e w2 ⟨rfl,q,rfl⟩;have yE:=(b1.i q).S.M 0 5 (aX (Pt.G qJ).symm);have Z2:=ab ((b1.i q).put (fun p hp=>by cases hp) qJ.ay rfl));refine aN (TJ.qC rfl _ rfl Z2.i.S (Pt.G _)) rfl ?_;rw[HP.i,if_neg h20,if_pos h2];exact⟨rfl,Z2.i.R⟩
 have q2:¬(t:Int)<8:=by omega
 have TH:=ab (fun q=>((b1.i q).S.M 0 5 (aX (Pt.G qJ).symm):(w1.drewN q).M W.a.j 0 5));have PU:=ab (fun q (x:Pt)=>(b1.i q).put (fun p hp=>by cases hp) x.ay (by rw[Pt.G,Pt.G]));by_cases h3:n<t
 ·have q3:(n:Int)<t:=by omega
  go_upto_region 17 with(first|(go_at_call 299;(with_reducible refine(C4.i _ b0.i).g ?_);rintro e w2 ⟨rfl,qq,rfl⟩)|(go_at_call 299;(with_reducible refine(C4.i _ (b1.i _)).g ?_);rintro e w2 ⟨rfl,qq,rfl⟩)|(go_at_call 299;(with_reducible refine(C0.i _ b0.i).g ?_);rintro e w2 ⟨rfl,qq,rfl⟩)|(go_at_call 299;(with_reducible refine(C0.i _ (b1.i _)).g ?_);rintro e w2 ⟨rfl,qq,rfl⟩)|(go_at_call 299;(with_reducible refine(C2.i _ b0.i).g ?_);rintro e w2 ⟨rfl,qq,rfl⟩)|(go_at_call 299;(with_reducible refine(C2.i _ (b1.i _)).g ?_);rintro e w2 ⟨rfl,qq,rfl⟩))
  have th2:=TH.i;go_wp2;refine aN (TJ.qC rfl _ rfl (PU.i _ qJ).S (Pt.G _)) rfl ?_;rw[HP.i,if_neg h20,if_neg h2,if_pos h3];exact⟨rfl,(PU.i _ qJ).R⟩
 have q3:¬(n:Int)<t:=by omega
 have th2:=TH.i;go_wp2_with (first|(go_at_call 299;(with_reducible refine(C4.i _ b0.i).g ?_);rintro e w2 ⟨rfl,qq,rfl⟩)|(go_at_call 299;(with_reducible refine(C4.i _ (b1.i _)).g ?_);rintro e w2 ⟨rfl,qq,rfl⟩)|(go_at_call 299;(with_reducible refine(C0.i _ b0.i).g ?_);rintro e w2 ⟨rfl,qq,rfl⟩)|(go_at_call 299;(with_reducible refine(C0.i _ (b1.i _)).g ?_);rintro e w2 ⟨rfl,qq,rfl⟩)|(go_at_call 299;(with_reducible refine(C2.i _ b0.i).g ?_);rintro e w2 ⟨rfl,qq,rfl⟩)|(go_at_call 299;(with_reducible refine(C2.i _ (b1.i _)).g ?_);rintro e w2 ⟨rfl,qq,rfl⟩));refine aN (TJ.qC rfl _ rfl (PU.i _ (Pt.mk (eZ l 0) (eZ l 2) 0 8 t)).S (Pt.G _)) rfl ?_;rw[HP.i,if_neg h20,if_neg h2,if_neg h3];exact⟨rfl,(PU.i _ _).R⟩
end
section
attribute [local go_sem high] iY jH
end
section
attribute [local go_sem high] iY jH
end
section
attribute [local go_sem high] iY jH
end
end Go.Proofs.YtkjojjopamaoiaaGreat
