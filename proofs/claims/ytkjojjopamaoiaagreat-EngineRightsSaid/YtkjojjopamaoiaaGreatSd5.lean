/- Parts. -/
import Derived.Test.YtkjojjopamaoiaaGreatSd4
import Derived.Test.YtkjojjopamaoiaaGreatSd3
import Derived.Deep.RegionHeldLaw
import Derived.Shelf.SlIter.Sorted
set_option linter.all false
set_option maxRecDepth 100000
set_option maxHeartbeats 8000000
open Array renaming getElem?_setIfInBounds->dR,mapM->iF,getElem?_append->aD,ext_getElem?->dZ,getElem?_eq_none->aU,size_extract->jJ,size_append->ou,range->mF,ext'->pQ,toList_range->kC,append_assoc->gD,extract_append->dD,setIfInBounds_append->aM,setIfInBounds_eq_of_size_le->jV,replicate->nQ,size->Array.j,toList->Array.a,getD->Array.b,setIfInBounds->Array.c,extract->Array.m
open BitVec renaming ofInt->gF,ofInt_natCast->mD,toNat_ofNat->nR,toNat_and->Gp,toNat->BitVec.g
open Bool renaming false_eq_true->iV,and_eq_true->bf,eq_iff_iff->bF,or_eq_true->mJ
open ByteArray renaming size->ByteArray.j,extract->ByteArray.m
open Go renaming Value->aB,Sem->xI,World->ak,Field->oh,run_storeAt_new->zA,run_storeAt_mid->EO,TypeInfo->nW,Calls->aP,Addr->aT,Program->eD,Oper->iM,Act->qG,Exit->yP,Operand->qj,TypeId->bE,wpList_plain->tL,info_parts->zO,Ending->lU,run_underlying->dJ,run_equalIn_struct->zN,bodyPost_ret->aN,wpQuiet_nil->eG,getD_set_ne->xJ,mem_ready->kL,yieldsIn_of_qOp->rD,getD_replicate_false->mZ,wp_region_any->zk,wpS_seq->Jb,wpS_region->Df,MemPlace->oZ,underlying->Go.k
open Go.Act renaming put->lM
open Go.Addr renaming add_mid->iJ,add->qQ
open Go.BoundsCode renaming toNat->Go.BoundsCode.g
open Go.Builtin renaming append_->Ao,firstCells->uo,zeroCells->og,copy_->qR
open Go.Calls renaming mono->Go.Calls.e
open Go.CallsD renaming mono->Go.CallsD.e
open Go.DataW renaming trod->kY,trod_struct->om,agg->Go.DataW.d
open Go.Ending renaming returned->uE,returned->Go.Ending.a
open Go.Field renaming name->Go.Field.E,offset->Go.Field.X,type->Go.Field.p
open Go.FrameMode renaming run->Go.FrameMode.G
open Go.Instr renaming build->fQ,loadAt->cK,storeAt->eU,buildSlice->bM,fill->fD,makeSlice->xU,typeAssert->Ij,slice->Go.Instr.a,extract->Go.Instr.m
open Go.IntKind renaming u64->gB,wrap_u64->jh,u8->aW,wrap_u8->II,i64->bU,wrap->vS,bits->nZ,signed->mq,i64->Go.IntKind.a,u8->Go.IntKind.b,wrap->Go.IntKind.d
open Go.Lib renaming hid->ab
open Go.Obj renaming cells->eO,cells->Go.Obj.D
open Go.Op renaming eqItems->Lg,equalIn->jg,eqFields->wK,bytesLess->bI,slice->Go.Op.a,extract->Go.Op.m
open Go.Oper renaming wp->nG,upon->Np,dst->Go.Oper.S,type->Go.Oper.p
open Go.Program renaming fieldsOf->jX,underlying->Go.Program.k,cellsOf->Go.Program.a
open Go.Proofs.Tryz renaming prog->ah,underlying81->jI,underlying86->lW,underlying37->oG,underlying35->Gc,underlying56->cO,underlying3->gV,underlying70->oH,underlying276->Ei,underlying27->fB,underlying98->sK,underlying29->nK,underlying192->pV,underlying189->pW,underlying172->pX,underlying168->Ej,underlying83->vJ,underlying179->uF,underlying108->uG,underlying268->El,func251->Dp,ntmps251->AB,ntmps90->Ja
open Go.Region renaming wanted->fq,Mode->Lh,seqB->lK,ready->fZ,lexTailB->xK,noSelect->AV,binds->qU
open Go.Result renaming andThen->iK,andThen_ok->gQ,ok->Go.Result.Y
open Go.RowKit renaming Below->aL
open Go.RowKit.Below renaming refl->aG,size->Go.RowKit.Below.j,mono->Go.RowKit.Below.e,setCell->Go.RowKit.Below.F
open Go.RowKit.Hid renaming out->Go.RowKit.Hid.i
open Go.Sem renaming run->Go.Sem.G
open Go.Shut renaming out->Go.Shut.i
open Go.Tables renaming info?->Go.Tables.l
open Go.TypeDesc renaming slice->Go.TypeDesc.a,int->Go.TypeDesc.b,pointer->Go.TypeDesc.c,bool->Go.TypeDesc.e,tuple->Go.TypeDesc.I,struct->Go.TypeDesc.d
open Go.TypeInfo renaming size->Go.TypeInfo.j
open Go.Value renaming oneCell'->dx,bool->bT,string->jk,agg->cB,int->aI,slice->bC,cells->cZ,ownBlock->jy,pointer->sO,cells->Go.Value.D,slice->Go.Value.a,int->Go.Value.b,pointer->Go.Value.c,agg->Go.Value.d,bool->Go.Value.e,tuple->Go.Value.I,ownBlock->Go.Value.f,oneCell'->Go.Value.h
open Go.World renaming ownsRow_nil->fu,heap->Go.World.a,cell?->Go.World.b,setCell->Go.World.F,ownsRow->Go.World.c,there->Go.World.K,drawn->Go.World.Z,grownBy->Go.World.d
open Go.World.grownBy renaming size->Go.World.grownBy.j
open Int renaming toNat->Int.g
open List renaming getElem?_toArray->dW,getD_eq_getElem?_getD->au,size_toArray->dL,length_nil->gP,take_append_drop->iN,map_append->iY,length_append->aR,length_map->bV,take_of_length_le->aJ,flatMap_cons->jl,ext_getElem?->iR,getElem?_take_of_lt->iw,getElem?_eq_none->aS,length_take->bH,append_assoc->cu,mem_cons->bB,mem_cons_of_mem->j5,range->bY,all_eq_true->fM,mem_range->dV,getElem?_map->iy,mem_iff_getElem->mG,pairwise_cons->gT,length_cons->bD,mem_filter->mK,replicate->dY,filter_eq_self->wZ,map_take->AA,getElem?_eq_getElem->aC,mem_singleton->fV,take_succ_cons->jA,take_zero->j6,drop_succ_cons->jU,drop_zero->lH,getElem_mem->fG,length_drop->jF,getElem?_set->fI,getElem?_eq_some_iff->iL,filter_congr->Gd,eq_nil_iff_forall_not_mem->tY,getElem?_drop->jq,set_cons_succ->bK,set_cons_zero->bR,setIfInBounds_toArray->bL,nil_append->dH,cons_append->gW,drop_of_length_le->gq,length->List.a,getD->List.b,toArray->List.c,take->List.d,drop->List.f,flatMap->List.h,below->List.M,extract->List.m
open List.Perm renaming length_eq->List.Perm.t
open Nat renaming le_refl->av,lt_or_ge->aZ,zero_add->bl,add_comm->kM,add_sub_cancel_left->kP,mul_one->gL,le_trans->aO,lt_of_lt_of_le->eF,le_succ->Nl,lt_succ_self->mV,mod_eq_of_lt->fO,le_succ_of_le->kV,le_of_eq->aX,le_of_lt->mX,ne_of_lt->jQ,ne_of_gt->uP,below->Nat.M
open Ne renaming symm->jB
open Option renaming toList->Option.a,getD->Option.b
open Or renaming inl->Or.a,inr->Or.b
open UInt8 renaming toNat_inj->kJ,ofNat->aK,toNat->UInt8.g,toNat_lt->UInt8.a
open Vector renaming replicate->bJ,toList->Vector.a
namespace Go.Proofs.YtkjojjopamaoiaaGreat
open Go.RowKit
theorem abg(c:Array aB)(i j:Nat)(v:aB)(hi:i<c.j):(c.c i v)[j]? = if i=j then some v else c[j]?:=by
 rw[dR];split
 ·rename_i h;subst h;simp[hi]
 ·rfl
def ayt(ps:Array (Nat×aB)):xI aB:=fQ 62 ps
@[go_sem ↓]theorem aBB(ps:Array (Nat×aB)):fQ 62 ps=ayt ps:=rfl
theorem ajC(w:ak)(fs:Array oh)(h:ah.k 62=some (.d fs)):(iF (fun f=>Prod.mk f.X <$> sizeOf f.p) fs:xI (Array (Nat×Nat))).G ah w = .Y #[(0,1),(1,17),(18,1),(19,6),(25,1),(26,1)] w:=by
 have e:=Tryz.underlying62;rw[h]at e;cases e;show _=_
 kernel_rfl
theorem amI:(ah.l 5).map (·.j)=some 1:=by kernel_rfl
theorem Bh(a b:Array aB)(k j:Nat)(ha:a.j=k):(a++b)[j]? = if j<k then a[j]? else b[j-k]?:=by
 rw[aD,ha]
def tuT(t:Tu):Array aB:=#[.b .a t.aQ,.b .a t.jv,.b .a t.iQ]
def Tu.ay(t:Tu):Array aB:=t.h.ay++(t.S.ay++tuT t)
theorem Tu.r(t:Tu):t.ay.j=37:=by simp[Tu.ay,tuT,fC.r]
theorem Tu.LZ(t:Tu)(j:Nat)(hj:j<17):t.ay[j]? = t.h.ay[j]?:=by
 unfold Tu.ay;rw[Bh _ _ 17 _ (fC.r _),if_pos hj]
theorem Tu.JG(t:Tu)(j:Nat)(hj:j<17):t.ay[j+17]? = t.S.ay[j]?:=by
 unfold Tu.ay;rw[Bh _ _ 17 _ (fC.r _),if_neg (by omega),Bh _ _ 17 _ (fC.r _),if_pos (by omega)];congr 1
theorem Tu.Cq(t:Tu)(j:Nat)(hj:j<3):t.ay[j+34]? = (tuT t)[j]?:=by
 unfold Tu.ay;rw[Bh _ _ 17 _ (fC.r _),if_neg (by omega),Bh _ _ 17 _ (fC.r _),if_neg (by omega)];congr 1
@[go_sem]theorem Tu.nS(t:Tu):t.ay[0]? = some (.e t.h.h):=(Tu.LZ t 0 (by omega)).trans (fC.nS _)
@[go_sem]theorem Tu.amJ(t:Tu):t.ay[17]? = some (.e t.S.h):=(Tu.JG t 0 (by omega)).trans (fC.nS _)
@[go_sem]theorem Tu.VZ(t:Tu):t.ay[34]? = some (.b .a t.aQ):=Tu.Cq t 0 (by omega)
@[go_sem]theorem Tu.agh(t:Tu):t.ay[35]? = some (.b .a t.jv):=Tu.Cq t 1 (by omega)
@[go_sem]theorem Tu.abh(t:Tu):t.ay[36]? = some (.b .a t.iQ):=Tu.Cq t 2 (by omega)
theorem ig{a b:Array aB}(h1:a.all (·.h)=true)(h2:b.all (·.h)=true):(a++b).all (·.h)=true:=by
 rw[Array.all_append,h1,h2];rfl
theorem Tu.dw(t:Tu):t.ay.all (·.h)=true:=ig (fC.dw _) (ig (fC.dw _) (by simp[tuT,dx]))
theorem Tu.abj{c:Array aB}{t:Tu}(hc:c.j=37)(h0:∀j,j<17->c[j]? = t.h.ay[j]?)(h1:∀j,j<17->c[j+17]? = t.S.ay[j]?)(h2:∀j,j<3->c[j+34]? = (tuT t)[j]?):c=t.ay:=by
 apply dZ;intro j;rcases(show j<17\/(17<=j/\j<34)\/(34<=j/\j<37)\/37<=j by omega)with h|⟨h,h'⟩|⟨h,h'⟩|h
 ·rw[h0 j h,Tu.LZ t j h]
 ·obtain⟨i,rfl⟩:∃i,j=i+17:=⟨j-17,by omega⟩
  rw[h1 i (by omega),Tu.JG t i (by omega)]
 ·obtain⟨i,rfl⟩:∃i,j=i+34:=⟨j-34,by omega⟩
  rw[h2 i (by omega),Tu.Cq t i (by omega)]
 ·rw[aU (by omega),aU (by rw[Tu.r];exact h)]
@[go_sem]theorem Tu.eB(x:Tu):eB x.ay=37:=Tu.r x
@[go_sem]theorem Tu.kD(x:Tu):x.ay.m 0 37=x.ay:=by
 have:=Tu.r x;rw[<-this];simp
def uM(v:aB):xI aB:=cK 81 v
def ahY(v x:aB):xI Unit:=eU 81 v x
@[go_sem ↓]theorem awZ(v:aB):cK 81 v=uM v:=rfl
@[go_sem ↓]theorem auc(v x:aB):eU 81 v x=ahY v x:=rfl
@[go_sem]theorem Ot(W:ak)(b o:Nat)(h:vK W b o 37):(uM (.c (some ⟨b,o,none⟩))).G ah W = .Y (.d (dO W b o 37)) W:=
 jZ W b o 37 _ _ jI rfl (by kernel_rfl) h
@[go_sem]theorem aqg(W:ak)(c:Array aB)(x:Tu)(b:Nat)(hb:b=W.a.j)(hc:eB c=37):
 (ahY (.c (some ⟨b,0,none⟩)) (.d x.ay)).G ah (W.alloc (.D c 81)) = .Y () (W.alloc (.D x.ay 81)):=by
 subst hb;exact zA W _ c x.ay (by rw[Tu.r];kernel_rfl) (by rw[Tu.r];exact hc) (Tu.dw x)
def Tu.to0(t:Tu)(n:Int):Tu:={t with aQ:=n}
def Tu.to1(t:Tu)(n:Int):Tu:={t with jv:=n}
def Tu.to2(t:Tu)(n:Int):Tu:={t with iQ:=n}
theorem Tu.ayu(t:Tu)(u:Int):t.ay.c 34 (.b .a u)=(t.to0 u).ay:=by
 refine Tu.abj (by simp[Tu.r]) ?_ ?_ ?_<;>intro j hj<;>rw[abg _ _ _ _ (by rw[Tu.r];omega)]
 ·rw[if_neg (by omega),Tu.LZ t j hj];rfl
 ·rw[if_neg (by omega),Tu.JG t j hj];rfl
 ·rcases(show j=0\/j=1\/j=2 by omega)with rfl|rfl|rfl
  ·rw[if_pos (by omega)];rfl
  ·rw[if_neg (by omega),Tu.Cq t 1 (by omega)];rfl
  ·rw[if_neg (by omega),Tu.Cq t 2 (by omega)];rfl
theorem Tu.ayv(t:Tu)(u:Int):t.ay.c 35 (.b .a u)=(t.to1 u).ay:=by
 refine Tu.abj (by simp[Tu.r]) ?_ ?_ ?_<;>intro j hj<;>rw[abg _ _ _ _ (by rw[Tu.r];omega)]
 ·rw[if_neg (by omega),Tu.LZ t j hj];rfl
 ·rw[if_neg (by omega),Tu.JG t j hj];rfl
 ·rcases(show j=0\/j=1\/j=2 by omega)with rfl|rfl|rfl
  ·rw[if_neg (by omega),Tu.Cq t 0 (by omega)];rfl
  ·rw[if_pos (by omega)];rfl
  ·rw[if_neg (by omega),Tu.Cq t 2 (by omega)];rfl
theorem Tu.asD(t:Tu)(u:Int):t.ay.c 36 (.b .a u)=(t.to2 u).ay:=by
 refine Tu.abj (by simp[Tu.r]) ?_ ?_ ?_<;>intro j hj<;>rw[abg _ _ _ _ (by rw[Tu.r];omega)]
 ·rw[if_neg (by omega),Tu.LZ t j hj];rfl
 ·rw[if_neg (by omega),Tu.JG t j hj];rfl
 ·rcases(show j=0\/j=1\/j=2 by omega)with rfl|rfl|rfl
  ·rw[if_neg (by omega),Tu.Cq t 0 (by omega)];rfl
  ·rw[if_neg (by omega),Tu.Cq t 1 (by omega)];rfl
  ·rw[if_pos (by omega)];rfl
def fwT(x:Fw):Array aB:=#[.string (bP x.E),.b .a x.vV,.b .a x.seen,.b .a x.no]
def Fw.ay(x:Fw):Array aB:=x.key.ay++fwT x
theorem Fw.r(x:Fw):x.ay.j=41:=by simp[Fw.ay,fwT,Tu.r]
theorem Fw.ayw(x:Fw)(j:Nat)(hj:j<37):x.ay[j]? = x.key.ay[j]?:=by
 unfold Fw.ay;rw[Bh _ _ 37 _ (Tu.r _),if_pos hj]
theorem Fw.Cq(x:Fw)(j:Nat)(hj:j<4):x.ay[j+37]? = (fwT x)[j]?:=by
 unfold Fw.ay;rw[Bh _ _ 37 _ (Tu.r _),if_neg (by omega)];congr 1
@[go_sem]theorem Fw.abk(x:Fw):x.ay[37]? = some (.string (bP x.E)):=Fw.Cq x 0 (by omega)
@[go_sem]theorem Fw.agi(x:Fw):x.ay[38]? = some (.b .a x.vV):=Fw.Cq x 1 (by omega)
@[go_sem]theorem Fw.abl(x:Fw):x.ay[39]? = some (.b .a x.seen):=Fw.Cq x 2 (by omega)
@[go_sem]theorem Fw.MJ(x:Fw):x.ay[40]? = some (.b .a x.no):=Fw.Cq x 3 (by omega)
theorem Fw.dw(x:Fw):x.ay.all (·.h)=true:=ig (Tu.dw _) (by simp[fwT,dx])
@[go_sem]theorem Fw.eB(x:Fw):eB x.ay=41:=Fw.r x
@[go_sem]theorem Fw.kD(x:Fw):x.ay.m 0 41=x.ay:=by
 have:=Fw.r x;rw[<-this];simp
def ML(v:aB):xI aB:=cK 86 v
def abm(v x:aB):xI Unit:=eU 86 v x
@[go_sem ↓]theorem aw'(v:aB):cK 86 v=ML v:=rfl
@[go_sem ↓]theorem aud(v x:aB):eU 86 v x=abm v x:=rfl
@[go_sem]theorem abn(W:ak)(b o:Nat)(h:vK W b o 41):(ML (.c (some ⟨b,o,none⟩))).G ah W = .Y (.d (dO W b o 41)) W:=
 jZ W b o 41 _ _ lW rfl (by kernel_rfl) h
@[go_sem]theorem aqh(W:ak)(c:Array aB)(x:Fw)(b:Nat)(hb:b=W.a.j)(hc:eB c=41):
 (abm (.c (some ⟨b,0,none⟩)) (.d x.ay)).G ah (W.alloc (.D c 86)) = .Y () (W.alloc (.D x.ay 86)):=by
 subst hb;exact zA W _ c x.ay (by rw[Fw.r];kernel_rfl) (by rw[Fw.r];exact hc) (Fw.dw x)
def AO(W:ak)(b o:Nat)(x:Fw):ak:=W.setCells b o x.ay.a
@[go_sem]theorem ayx(W:ak)(b o:Nat)(x:Fw)(h:W.K b o 41):(abm (.c (some ⟨b,o,none⟩)) (.d x.ay)).G ah W = .Y () (AO W b o x):=
 EO W b o _ x.ay (by rw[Fw.r];exact h) (by rw[Fw.r];kernel_rfl) (Fw.dw x)
theorem agj:∃i:nW,ah.l 86=some i/\i.zero=some (.d jw.ay)/\i.j=41/\i.bytes<=400:=by
 cases h:ah.l 86 with
 | none=>exact absurd h (by have:(ah.l 86).isSome=true:=by kernel_rfl
                            intro e;rw[e]at this;cases this)
 | some i=>
   have h1:(ah.l 86).map (·.j)=some 41:=by kernel_rfl
   have h2:(ah.l 86).map (fun i=>decide (i.bytes<=400))=some true:=by kernel_rfl
   have h3:(ah.l 86).map (·.zero)=some (some (.d jw.ay)):=by kernel_rfl
   rw[h]at h1 h2 h3;simp at h1 h2 h3;exact⟨i,rfl,h3,h1,h2⟩
def aue(ps:Array (Nat×aB)):xI aB:=fQ 86 ps
@[go_sem ↓]theorem aBC(ps:Array (Nat×aB)):fQ 86 ps=aue ps:=rfl
def asE(n:Nat)(ps:Array (Nat×aB)):xI aB:=bM 34 n ps
@[go_sem ↓]theorem ayy(n:Nat)(ps:Array (Nat×aB)):bM 34 n ps=asE n ps:=rfl
@[go_sem]theorem axa(w:ak)(x:Fw):(asE 1 #[(0,.d x.ay)]).G ah w = .Y (.a (some ⟨w.a.j,0,none⟩) 1 1) (w.alloc (.D x.ay 86)):=by
 obtain⟨i0,hi0,hz0,hz1,hzb⟩:=agj;exact sD w _ _ i0 (.d jw.ay) 41 Tryz.underlying34 hi0 hz0 hz1 (Fw.r jw) (by omega) (by omega) x.ay (Fw.r x)
@[go_sem]theorem auf:eO #[bT false,aA,aA,aA,aA,aA,aA,aA,aA,aA,aA,aA,aA,aA,aA,aA,aA,bT false,aA,aA,aA,aA,aA,aA,aA,aA,aA,aA,aA,aA,aA,aA,aA,aA,bg,bg,bg] 81=eO afA.ay 81:=rfl
@[go_sem]theorem aug:eO #[bT false,aA,aA,aA,aA,aA,aA,aA,aA,aA,aA,aA,aA,aA,aA,aA,aA,bT false,aA,aA,aA,aA,aA,aA,aA,aA,aA,aA,aA,aA,aA,aA,aA,aA,bg,bg,bg,jk {data:=#[]},bg,bg,bg] 86=eO jw.ay 86:=rfl
@[go_sem]theorem ayz:cB #[bT false,aA,aA,aA,aA,aA,aA,aA,aA,aA,aA,aA,aA,aA,aA,aA,aA,bT false,aA,aA,aA,aA,aA,aA,aA,aA,aA,aA,aA,aA,aA,aA,aA,aA,bg,bg,bg]=cB afA.ay:=rfl
@[go_sem]theorem ayA:cB #[bT false,aA,aA,aA,aA,aA,aA,aA,aA,aA,aA,aA,aA,aA,aA,aA,aA,bT false,aA,aA,aA,aA,aA,aA,aA,aA,aA,aA,aA,aA,aA,aA,aA,aA,bg,bg,bg,jk {data:=#[]},bg,bg,bg]=cB jw.ay:=rfl
theorem qh{W:ak}{b:Nat}{t:Tu}(h:dM W b t.ay):(uM (.c (some ⟨b,0,none⟩))).G ah W = .Y (.d t.ay) W:=by
 obtain⟨_,_,h3,h4⟩:=h.J;rw[Ot _ _ _ (by rw[h3 0 37 (by rw[Tu.eB];omega)];trivial),h4 0 37 (by rw[Tu.eB];omega),Tu.kD]
theorem adU(c:Nat)(w:ak):aP ah 262 #[.b .b c] w fun e w'=>e=.a (.e ((c:Int) != 0))/\w=w':=by
 go_enter Tryz.func262,Tryz.ntmps262;go_wp2;go_ret;exact⟨rfl,rfl⟩
theorem V5(args:Array aB)(w:ak):(callFunc 262 args).G ah w = .Y (.enter 262 args) w:=by kernel_rfl
theorem amK(a:fC)(b o c:Nat)(w:ak)(hc:∀j,j<12->w.b ⟨b,o+j,none⟩=some (.b .b ((a.fH (4+j)).g:Nat))):
 aP ah 260 #[.a (some ⟨b,o,none⟩) 12 c,.func (.func 262) #[] #[]] w fun e w'=>∃r:Int,e=.a (.b .a r)/\(decide (0<=r) = !a.lG)/\w=w':=by
 have hen:=V5;have HC:=ab hc;clear hc;go_enter Tryz.func260,Tryz.ntmps260;go_wp2;go_loop [8] (fun s8=>∃i:Nat,i<=12/\s8=.b .a i/\∀j,4<=j->j<4+i->a.fH j=0) (fun s8=>12-(intOf s8).g)
 case atStart=>exact⟨0,by omega,rfl,fun j h1 h2=>by omega⟩
 case round=>
  obtain⟨i,hi,rfl,hall⟩:=hrel;have HA:=ab hall;clear hall;by_cases hlt:i<12
  ·have hin:(i:Int)<12:=by omega
   have hcell:=HC.i i hlt;have hz:((a.fH (4+i)).g:Int)=0↔a.fH (4+i)=0:=by
    constructor
    ·intro h;apply kJ.1;have:(0:UInt8).g=0:=rfl;omega
    ·intro h;rw[h];rfl
   have HZ:=ab hz;clear hz;obtain⟨n,hn⟩:∃n:Nat,n=(a.fH (4+i)).g:=⟨_,rfl⟩
   rw[<-hn]at hcell HZ;clear hn;by_cases h0:n=0
   ·have h1:((n:Int) != 0)=false:=by rw[h0];rfl
    have hz0:a.fH (4+i)=0:=HZ.i.1 (by omega);have HZ0:=ab hz0;clear hz0 h0;go_wp2_with (go_at_call 262;refine(adU n _).e ?_;rintro e w' ⟨rfl,rfl⟩);go_round
    case rel=>exact⟨i+1,by omega,by go_num,fun j h1 h2=>by
     by_cases hji:j=4+i
     ·rw[hji];exact HZ0.i
     ·exact HA.i j h1 (by omega)⟩
    case measure=>simp[intOf]<;>omega
   ·have h1:((n:Int) != 0)=true:=by rw[bne_iff_ne];omega
    have hno:a.lG=false:=fC.Vh (i:=4+i) (by omega) (by omega) (fun h=>h0 (by have:=HZ.i.2 h;omega));have Gy:=ab hno;clear hno h0;go_wp2_with (go_at_call 262;refine(adU n _).e ?_;rintro e w' ⟨rfl,rfl⟩);go_ret;exact⟨_,rfl,by rw[Gy.i];simp,rfl⟩
  ·obtain rfl:i=12:=by omega
   have hs:a.lG=true:=a.KI.2 HA.i;have HS:=ab hs;clear hs;go_wp2;go_ret;exact⟨_,rfl,by rw[HS.i];simp,rfl⟩
theorem amL(a:fC)(b o c:Nat)(w:ak)(hc:∀j,j<12->w.b ⟨b,o+j,none⟩=some (.b .b ((a.fH (4+j)).g:Nat))):
 aP ah 189 #[.a (some ⟨b,o,none⟩) 12 c,.func (.func 262) #[] #[]] w fun e w'=>e=.a (.e (!a.lG))/\w=w':=by
 have HC:=ab hc;clear hc;go_enter Tryz.func189,Tryz.ntmps189;go_wp2_with (go_at_call 260;refine(amK a b o c _ HC.i).e ?_;rintro e w' ⟨r,rfl,hr,rfl⟩);go_ret;exact⟨by simp,rfl⟩
theorem fC.qg(a:fC):qg a=(a.h||a.lG):=rfl
theorem JH(a:fC)(w:ak):aP ah 193 #[.d a.ay] w (fT w (.e (qg a))):=by
 have HB:=ab ((aG w.a.j w).alloc (av _) (.D a.ay 27));have HT:=ab (show∀j,j<12->(w.alloc (.D a.ay 27)).b ⟨w.a.j,5+j,none⟩=some (.b .b ((a.fH (4+j)).g:Nat))from fun j hj=>by
  rw[lX,show 5+j=(4+j)+1 by omega];exact fC.BR a (4+j) (by omega))
 have HK:=ab (fC.qg a);cases h6:a.h
 ·have H6:=ab h6
  obtain⟨K,hK⟩:=rT a.lG;have HKK:=ab hK;clear hK;go_enter Tryz.func193,Tryz.ntmps193;go_wp2_with fail;refine(amL a _ 5 _ _ HT.i).e ?_;rintro e w' ⟨rfl,rfl⟩;rw[HKK.i];cases K
  all_goals
   go_wp2;go_ret;exact⟨by rw[HK.i,HKK.i,H6.i];rfl,HB.i⟩
 ·have H6:=ab h6
  go_enter Tryz.func193,Tryz.ntmps193;go_wp2;go_ret;exact⟨by rw[HK.i,H6.i];rfl,HB.i⟩
@[go_sem]theorem Tu.ajD(t:Tu):t.ay.m 0 17=t.h.ay:=by
 apply dZ;intro j;rcases aZ j 17 with h|h
 ·rw[oz t.ay 0 17 j h (by rw[Tu.r];omega),bl,Tu.LZ t j h]
 ·rw[aU (by rw[jJ,Tu.r];omega),aU (by rw[fC.r];exact h)]
@[go_sem]theorem Tu.ajE(t:Tu):t.ay.m 17 34=t.S.ay:=by
 apply dZ;intro j;rcases aZ j 17 with h|h
 ·rw[show(34:Nat)=17+17 from rfl,oz t.ay 17 17 j h (by rw[Tu.r];omega),kM,Tu.JG t j h]
 ·rw[aU (by rw[jJ,Tu.r];omega),aU (by rw[fC.r];exact h)]
@[go_sem]theorem Fw.JI(x:Fw):x.ay.m 0 37=x.key.ay:=by
 apply dZ;intro j;rcases aZ j 37 with h|h
 ·rw[oz x.ay 0 37 j h (by rw[Fw.r];omega),bl,Fw.ayw x j h]
 ·rw[aU (by rw[jJ,Fw.r];omega),aU (by rw[Tu.r];exact h)]
theorem Bj(t:Tu):Ev t=(decide (t.h.h=t.S.h)&&qg t.h&&qg t.S&&(decide (0<=t.aQ)&&decide (t.aQ<=255))&&(decide (0<=t.jv)&&decide (t.jv<=65535))&&(decide (0<=t.iQ)&&decide (t.iQ<=65535))):=rfl
theorem KU(t:Tu)(w:ak):aP ah 115 #[.d t.ay] w (fT w (.e (Ev t))):=by
 have HB0:=ab ((aG w.a.j w).alloc (av _) (.D t.ay 81));have B0:=ab (dM.new w t.ay 81);obtain⟨x1,x2,x3,x4⟩:=B0.i.J;have hl0:=B0.i.lt;obtain⟨K1,h1⟩:∃K,qg t.h=K:=⟨_,rfl⟩
 obtain⟨K2,h2⟩:∃K,qg t.S=K:=⟨_,rfl⟩
 have Ey:=ab h1;have HS2:=ab h2;clear h1 h2;obtain⟨s6,h6⟩:∃s,t.h.h=s:=⟨_,rfl⟩
 obtain⟨d6,g6⟩:∃s,t.S.h=s:=⟨_,rfl⟩
 by_cases he:s6=d6;rotate_left
 ·have HE:=ab (show¬t.h.h=t.S.h by rw[h6,g6];exact he)
  have hne:(s6==d6)=false:=by simpa using he
  clear he;go_enter Tryz.func115,Tryz.ntmps115;go_wp2;go_ret;exact⟨by rw[Bj];simp[HE.i]<;>omega,HB0.i⟩
 have HE:=ab (show t.h.h=t.S.h by rw[h6,g6];exact he);have hne:(s6==d6)=true:=by simpa using he
 clear he;cases K1
 ·skip
  go_enter Tryz.func115,Tryz.ntmps115;go_wp2_with fail;refine(JH t.h _).e ?_;rintro e w1 ⟨rfl,hb1⟩;rw[Ey.i];have B1:=ab (B0.i.go hb1);have HB1:=ab (fJ HB0.i hb1);obtain⟨y1,y2,y3,y4⟩:=B1.i.J;have hl1:=B1.i.lt;clear hb1;go_wp2;go_ret;exact⟨by rw[Bj];simp[HE.i,Ey.i]<;>omega,HB1.i⟩
 cases K2
 ·skip
  go_enter Tryz.func115,Tryz.ntmps115;go_wp2_with fail;refine(JH t.h _).e ?_;rintro e w1 ⟨rfl,hb1⟩;rw[Ey.i];have B1:=ab (B0.i.go hb1);have HB1:=ab (fJ HB0.i hb1);obtain⟨y1,y2,y3,y4⟩:=B1.i.J;have hl1:=B1.i.lt;clear hb1;go_wp2_with fail;refine(JH t.S _).e ?_;rintro e w2 ⟨rfl,hb2⟩;rw[HS2.i];have B2:=ab (B1.i.go hb2);have HB2:=ab (fJ HB1.i hb2);obtain⟨z1,z2,z3,z4⟩:=B2.i.J;have hl2:=B2.i.lt;clear hb2 y1 y2 y3 y4 hl1;go_wp2;go_ret;exact⟨by rw[Bj];simp_all[HE.i,Ey.i,HS2.i]<;>omega,HB2.i⟩
 go_enter Tryz.func115,Tryz.ntmps115;go_wp2_with fail;refine(JH t.h _).e ?_;rintro e w1 ⟨rfl,hb1⟩;rw[Ey.i];have B1:=ab (B0.i.go hb1);have HB1:=ab (fJ HB0.i hb1);obtain⟨y1,y2,y3,y4⟩:=B1.i.J;have hl1:=B1.i.lt;clear hb1;go_wp2_with fail;refine(JH t.S _).e ?_;rintro e w2 ⟨rfl,hb2⟩;rw[HS2.i];have B2:=ab (B1.i.go hb2);have HB2:=ab (fJ HB1.i hb2);obtain⟨z1,z2,z3,z4⟩:=B2.i.J;have hl2:=B2.i.lt;clear hb2 y1 y2 y3 y4 hl1;by_cases p0:0<=t.aQ;by_cases p1:t.aQ<=255;by_cases p2:0<=t.jv;by_cases p3:t.jv<=65535;by_cases p4:0<=t.iQ;by_cases p5:t.iQ<=65535
 all_goals
  go_wp2;go_ret;exact⟨by rw[Bj];simp_all[HE.i,Ey.i,HS2.i]<;>omega,HB2.i⟩
theorem wV(x:Fw):AY x=(Ev x.key&&oI x.E&&decide (1<=x.vV)&&decide (x.vV<=5)&&(decide (0<=x.seen)&&decide (x.seen<=1099511627776))&&(decide (0<=x.no)&&decide (x.no<=1152921504606846976))):=rfl
theorem Ma(x:Fw)(w:ak)(hn:x.E.a<=9223372036854775807):aP ah 48 #[.d x.ay] w (fT w (.e (AY x))):=by
 have HB0:=ab ((aG w.a.j w).alloc (av _) (.D x.ay 86));have B0:=ab (dM.new w x.ay 86);obtain⟨x1,x2,x3,x4⟩:=B0.i.J;have hl0:=B0.i.lt;obtain⟨K1,h1⟩:∃K,Ev x.key=K:=⟨_,rfl⟩
 obtain⟨K2,h2⟩:∃K,oI x.E=K:=⟨_,rfl⟩
 have Ey:=ab h1;have HS2:=ab h2;clear h1 h2;cases K1
 ·skip
  go_enter Tryz.func48,Tryz.ntmps48;go_wp2_with fail;refine(KU x.key _).e ?_;rintro e w1 ⟨rfl,hb1⟩;rw[Ey.i];have B1:=ab (B0.i.go hb1);have HB1:=ab (fJ HB0.i hb1);obtain⟨y1,y2,y3,y4⟩:=B1.i.J;have hl1:=B1.i.lt;clear hb1;go_wp2;go_ret;exact⟨by rw[wV];simp[Ey.i]<;>omega,HB1.i⟩
 cases K2
 ·skip
  go_enter Tryz.func48,Tryz.ntmps48;go_wp2_with fail;refine(KU x.key _).e ?_;rintro e w1 ⟨rfl,hb1⟩;rw[Ey.i];have B1:=ab (B0.i.go hb1);have HB1:=ab (fJ HB0.i hb1);obtain⟨y1,y2,y3,y4⟩:=B1.i.J;have hl1:=B1.i.lt;clear hb1;go_wp2_with fail;refine(Va x.E _ hn).e ?_;rintro e w2 ⟨rfl,hb2⟩;rw[HS2.i];have B2:=ab (B1.i.go hb2);have HB2:=ab (fJ HB1.i hb2);obtain⟨z1,z2,z3,z4⟩:=B2.i.J;have hl2:=B2.i.lt;clear hb2 y1 y2 y3 y4 hl1;go_wp2;go_ret;exact⟨by rw[wV];simp_all[Ey.i,HS2.i]<;>omega,HB2.i⟩
 go_enter Tryz.func48,Tryz.ntmps48;go_wp2_with fail;refine(KU x.key _).e ?_;rintro e w1 ⟨rfl,hb1⟩;rw[Ey.i];have B1:=ab (B0.i.go hb1);have HB1:=ab (fJ HB0.i hb1);obtain⟨y1,y2,y3,y4⟩:=B1.i.J;have hl1:=B1.i.lt;clear hb1;go_wp2_with fail;refine(Va x.E _ hn).e ?_;rintro e w2 ⟨rfl,hb2⟩;rw[HS2.i];have B2:=ab (B1.i.go hb2);have HB2:=ab (fJ HB1.i hb2);obtain⟨z1,z2,z3,z4⟩:=B2.i.J;have hl2:=B2.i.lt;clear hb2 y1 y2 y3 y4 hl1;by_cases p0:1<=x.vV;by_cases p1:x.vV<=5;by_cases p2:0<=x.seen;by_cases p3:x.seen<=1099511627776;by_cases p4:0<=x.no;by_cases p5:x.no<=1152921504606846976
 all_goals
  go_wp2;go_ret;exact⟨by rw[wV];simp_all[Ey.i,HS2.i]<;>omega,HB2.i⟩
structure Yj where
 A:Option aT
 n:Nat
 c:Nat
deriving DecidableEq
structure Sh where
 lD:Int
 b:Yj
 h:Yj
 f:Yj
 fK:Int
 no:Int
 S:Vector Int 11
deriving DecidableEq
def shT(x:Sh):Array aB:=#[.b .a x.lD,.a x.b.A x.b.n x.b.c,.a x.h.A x.h.n x.h.c,.a x.f.A x.f.n x.f.c,.b .a x.fK,.b .a x.no]
def yD(v:Vector Int 11):Array aB:=(v.a.map (aI .a)).c
def Sh.ay(x:Sh):Array aB:=shT x++yD x.S
theorem ko(v:Vector Int 11):(yD v).j=11:=by simp[yD]
theorem Sh.r(x:Sh):x.ay.j=17:=by simp[Sh.ay,shT,ko]
theorem Sh.V6(x:Sh)(j:Nat)(hj:j<6):x.ay[j]? = (shT x)[j]?:=by unfold Sh.ay;rw[Bh _ _ 6 _ rfl,if_pos hj]
theorem V7(v:Vector Int 11)(j:Nat)(hj:j<11):(yD v)[j]? = some (.b .a (v.a.b j 0)):=by
 simp[yD,dW,hj,au]
theorem Sh.adV(x:Sh)(j:Nat)(hj:j<11):x.ay[6+j]? = some (.b .a (x.S.a.b j 0)):=by
 unfold Sh.ay;rw[Bh _ _ 6 _ rfl,if_neg (by omega),kP,V7 _ _ hj]
@[go_sem]theorem Sh.nS(x:Sh):x.ay[0]? = some (.b .a x.lD):=Sh.V6 x 0 (by omega)
@[go_sem]theorem Sh.DK(x:Sh):x.ay[1]? = some (.a x.b.A x.b.n x.b.c):=Sh.V6 x 1 (by omega)
@[go_sem]theorem Sh.RV(x:Sh):x.ay[2]? = some (.a x.h.A x.h.n x.h.c):=Sh.V6 x 2 (by omega)
@[go_sem]theorem Sh.adt(x:Sh):x.ay[3]? = some (.a x.f.A x.f.n x.f.c):=Sh.V6 x 3 (by omega)
@[go_sem]theorem Sh.ahZ(x:Sh):x.ay[4]? = some (.b .a x.fK):=Sh.V6 x 4 (by omega)
@[go_sem]theorem Sh.ah0(x:Sh):x.ay[5]? = some (.b .a x.no):=Sh.V6 x 5 (by omega)
theorem amM(l:List Int):((l.map (aI .a)).c).all (·.h)=true:=by
 rw[Array.all_eq_true_iff_forall_mem];intro v hv;simp at hv;obtain⟨z,_,rfl⟩:=hv;rfl
theorem Sh.dw(x:Sh):x.ay.all (·.h)=true:=ig (by simp[shT,dx]) (amM _)
def DV:Yj:=⟨none,0,0⟩
def Hf:Sh:=⟨0,DV,DV,DV,0,0,bJ 11 0⟩
@[go_sem]theorem auh:eO #[bg,bC none 0 0,bC none 0 0,bC none 0 0,bg,bg,bg,bg,bg,bg,bg,bg,bg,bg,bg,bg,bg] 37=eO Hf.ay 37:=rfl
@[go_sem]theorem ayB:cB #[bg,bC none 0 0,bC none 0 0,bC none 0 0,bg,bg,bg,bg,bg,bg,bg,bg,bg,bg,bg,bg,bg]=cB Hf.ay:=rfl
@[go_sem]theorem Sh.eB(x:Sh):eB x.ay=17:=Sh.r x
@[go_sem]theorem Sh.kD(x:Sh):x.ay.m 0 17=x.ay:=by
 have:=Sh.r x;rw[<-this];simp
def V8(v:aB):xI aB:=cK 37 v
def abo(v x:aB):xI Unit:=eU 37 v x
@[go_sem ↓]theorem axc(v:aB):cK 37 v=V8 v:=rfl
@[go_sem ↓]theorem aui(v x:aB):eU 37 v x=abo v x:=rfl
@[go_sem]theorem aBD(W:ak)(b o:Nat)(h:vK W b o 17):(V8 (.c (some ⟨b,o,none⟩))).G ah W = .Y (.d (dO W b o 17)) W:=
 jZ W b o 17 _ _ oG rfl (by kernel_rfl) h
@[go_sem]theorem aqi(W:ak)(c:Array aB)(x:Sh)(b:Nat)(hb:b=W.a.j)(hc:eB c=17):
 (abo (.c (some ⟨b,0,none⟩)) (.d x.ay)).G ah (W.alloc (.D c 37)) = .Y () (W.alloc (.D x.ay 37)):=by
 subst hb;exact zA W _ c x.ay (by rw[Sh.r];kernel_rfl) (by rw[Sh.r];exact hc) (Sh.dw x)
def amN(W:ak)(b o:Nat)(x:Sh):ak:=W.setCells b o x.ay.a
@[go_sem]theorem ayC(W:ak)(b o:Nat)(x:Sh)(h:W.K b o 17):(abo (.c (some ⟨b,o,none⟩)) (.d x.ay)).G ah W = .Y () (amN W b o x):=
 EO W b o _ x.ay (by rw[Sh.r];exact h) (by rw[Sh.r];kernel_rfl) (Sh.dw x)
theorem auj:∃i:nW,ah.l 37=some i/\i.zero=some (.d Hf.ay)/\i.j=17/\i.bytes<=400:=by
 cases h:ah.l 37 with
 | none=>exact absurd h (by have:(ah.l 37).isSome=true:=by kernel_rfl
                            intro e;rw[e]at this;cases this)
 | some i=>
   have h1:(ah.l 37).map (·.j)=some 17:=by kernel_rfl
   have h2:(ah.l 37).map (fun i=>decide (i.bytes<=400))=some true:=by kernel_rfl
   have h3:(ah.l 37).map (·.zero)=some (some (.d Hf.ay)):=by kernel_rfl
   rw[h]at h1 h2 h3;simp at h1 h2 h3;exact⟨i,rfl,h3,h1,h2⟩
def auk(ps:Array (Nat×aB)):xI aB:=fQ 37 ps
@[go_sem ↓]theorem aBE(ps:Array (Nat×aB)):fQ 37 ps=auk ps:=rfl
theorem Zd(w:ak)(fs:Array oh)(h:ah.k 37=some (.d fs)):(iF (fun f=>Prod.mk f.X <$> sizeOf f.p) fs:xI (Array (Nat×Nat))).G ah w = .Y #[(0,2),(2,1),(3,1),(4,1),(5,1),(6,11)] w:=by
 have e:=oG;rw[h]at e;cases e;show _=_
 kernel_rfl
@[go_sem]theorem aul(w:ak):(auk #[]).G ah w = .Y (.d Hf.ay) w:=by
 obtain⟨i0,hi0,hz0,_,_⟩:=auj;exact Qj w _ _ i0 Hf.ay _ _ _ oG hi0 hz0 (Zd w _ oG) rfl
@[go_sem]theorem Sh.Hg(x:Sh):x.ay.m 0 2 = #[.b .a x.lD,.a x.b.A x.b.n x.b.c]:=by
 apply dZ;intro j;rcases aZ j 2 with h|h
 ·rw[oz x.ay 0 2 j h (by rw[Sh.r];omega),bl,Sh.V6 x j (by omega)]
  rcases(show j=0\/j=1 by omega)with rfl|rfl<;>rfl
 ·rw[aU (by rw[jJ,Sh.r];omega),aU (by simp;omega)]
@[go_sem]theorem Sh.asF(x:Sh):x.ay.m 6 17=yD x.S:=by
 apply dZ;intro j;rcases aZ j 11 with h|h
 ·rw[show(17:Nat)=6+11 from rfl,oz x.ay 6 11 j h (by rw[Sh.r];omega),Sh.adV x j h,V7 _ _ h]
 ·rw[aU (by rw[jJ,Sh.r];omega),aU (by rw[ko];exact h)]
structure StR(w:ak)(B:Nat)(x:Sh)(s:rE):Prop where
 lD:x.lD=s.lD
 b:iE Bk.ay 27 w B x.b.A x.b.n s.qO
 h:iE Hl.ay 3 w B x.h.A x.h.n s.r
 f:iE Fw.ay 41 w B x.f.A x.f.n s.h
 fK:x.fK=s.fK
 no:x.no=s.no
 S:x.S=s.S
 oQ:∀y∈s.qO,y.oQ
 adX:∀y∈s.r,y.E.a<=9223372036854775807
 V9:∀y∈s.h,y.E.a<=9223372036854775807
 nb:x.b.n<=4611686018427387903
 nh:x.h.n<=4611686018427387903
 nf:x.f.n<=4611686018427387903
theorem StR.go{w w':ak}{x:Sh}{s:rE}(h:StR w w.a.j x s)(hb:aL w.a.j w w'):StR w' w'.a.j x s:=⟨h.lD,h.b.go hb,h.h.go hb,h.f.go hb,h.fK,h.no,h.S,h.oQ,h.adX,h.V9,h.nb,h.nh,h.nf⟩
def amO(v:aB):xI aB:=cK 35 v
@[go_sem ↓]theorem axd(v:aB):cK 35 v=amO v:=rfl
@[go_sem]theorem aBF(W:ak)(b o:Nat)(h:vK W b o 11):(amO (.c (some ⟨b,o,none⟩))).G ah W = .Y (.d (dO W b o 11)) W:=
 jZ W b o 11 _ _ Gc rfl (by kernel_rfl) h
theorem agk(l:List Bk)(hf:∀x∈l,x.oQ)(v:Int)(A:Option aT)(n c:Nat)(w:ak)(hR:iE Bk.ay 27 w w.a.j A n l)(hn:n<=4611686018427387903)(K:Bool)(hK:rU v l=K):
 aP ah 45 #[.d #[.b .a v,.a A n c]] w (fT w (.e K)):=by
 subst hK;obtain rfl:=hR.1;exact XU l hf v A c w hR (by omega)
theorem iE.fw{W:ak}{B n:Nat}{A:Option aT}{l:List Fw}{k:Nat}(h:iE Fw.ay 41 W B A n l)(hk:k<n):∃b o,A=some ⟨b,o,none⟩/\b<B/\vK W b (o+k*41) 41/\dO W b (o+k*41) 41=(l.b k jw).ay:=iE.fH Fw.r jw h hk
section
variable {P:eD}
theorem Wd{w:ak}{ops:Array iM}{rest:List iM}{o:iM}{a:qG}{Q:yP->qG->ak->Prop}(hgd:o.guard=none)(s x:qj)(t tn:bE)
 (ho:o.op=.call {callee:=.builtin .append,args:=#[s,x],argTypes:=#[t,tn]}) (u v r:aB) (hs:a.eval s=u) (hx:a.eval x=v) (w2:ak)
 (hrun:∀ty,(Ao #[t,tn] ty #[u,v]).G P w = .Y r w2) (h:wpList P ops Q rest (a.put o.S r) w2):wpList P ops Q (o::rest) a w:=by
 refine tL hgd fun K hK=>?_
 unfold nG;simp[execOp,ho,resolve,invoke,builtin,hs,hx,hrun,iK];exact hK _ _ h
end
theorem amP(k:Nat)(hk:k<=1000000000)(w:ak):
 aP ah 253 #[.a none 0 0,.b .a k] w fun e w'=>∃v,e=.a v/\w'.c w.a.j 5 1 v 0 []/\aL w.a.j w w':=by
 obtain⟨i0,hi0,hz0,hz1,hz2⟩:=zO Jf;rcases Nat.eq_zero_or_pos k with h0|h0
 ·subst h0
  go_enter Tryz.func253,Tryz.ntmps253;go_wp2;go_ret;exact⟨_,rfl,fu _ _ _ _,aG _ _⟩
 ·have hrun:=fun ty=>Lib.run_append_grow_zeros (P:=ah) w 56 3 ty 5 i0 (.b .b 0) .a .a cO gV hi0 hz0 none 0 0 [] (by simp[uo]) k h0 (by omega) (by omega) (by omega) (by rw[hz2];omega) (growslice_fits (by omega) (by rw[hz2];omega))
  have hge:=grownCap_ge w (0+k) 0 5;have hle:=grownCap_le_maxLen w (0+k) 0 5 (by unfold maxLen;omega);rw[bl]at hrun hge hle;obtain⟨cap,hcap⟩:=rT (grownCap w k 0 5);rw[hcap]at hrun hge hle;obtain⟨cells,hcells⟩:=bZ (([]:List aB).c++og (aI .b 0).D k++og (aI .b 0).D (cap-k));have hsz:cells.j=cap*1:=by
   rw[hcells];simp only[ou,dL,gP,size_zeroCells,show(aI .b 0).D.j=1 from rfl];omega
  rw[<-hcells]at hrun;have O1:=ab (World.ownsRow_made w.drew cells cap (base:=w.a.j) (e:=5) (size:=1) (av _) hle hsz);have hc0:(0:Int)<=(cap:Int):=by omega
  have aJi:¬cap=0:=by omega
  have hle2:(cap:Int)<=9223372036854775807:=by unfold maxLen at hle;omega
  have aDv:=ab hrun;clear hcells hcap hsz hle hrun;go_enter Tryz.func253,Tryz.ntmps253;go_wp2_with (at_builtin;refine Wd rfl (.tmp 20) (.tmp 21) _ _ rfl (.a none 0 0) (.b .a k) _ rfl rfl _ aDv.i ?_);go_ret;exact⟨_,rfl,O1.i,((aG w.a.j w).drew).alloc (av _) _⟩
def amQ(x:Yj):Array aB:=#[.a x.A x.n x.c]
theorem Ze(x:Yj):(amQ x).j=1:=rfl
abbrev RdS:=iE amQ 1
def yV(l:List Yj):Nat:=(l.map (·.n)).sum
theorem Q9(l:List Yj)(i:Nat)(hi:i<l.a):yV (l.d (i+1))=yV (l.d i)+(l.b i DV).n:=by
 rw[<-lY DV l i hi];simp[yV]
theorem abp(l:List Yj)(i:Nat):yV (l.d i)<=yV l:=by
 unfold yV
 conv=>rhs;rw[<-iN i l,iY,List.sum_append]
 omega
def Ov(W:ak)(B:Nat)(l:List Yj)(bss:List (List UInt8)):Prop:=l.a=bss.a/\∀i,i<l.a->gu W B (l.b i DV).A (l.b i DV).n (bss.b i [])
theorem Zf(l:List (List UInt8))(i:Nat)(hi:i<l.a):(l.d (i+1)).flatten=(l.d i).flatten++l.b i []:=by
 rw[<-lY [] l i hi];simp
theorem Wh{W:ak}{B:Nat}{l:List Yj}{bss:List (List UInt8)}(h:Ov W B l bss)(i:Nat)(hi:i<=l.a):(bss.d i).flatten.a=yV (l.d i):=by
 induction i with
 | zero=>simp[yV]
 | succ i ih=>
   have h1:=(h.2 i (by omega)).len;rw[Zf bss i (by have:=h.1;omega),aR,ih (by omega),Q9 l i (by omega),h1]
def aum(bss:List (List UInt8))(w:ak)(e:lU)(w':ak):Prop:=∃v,e=.a v/\w'.c w.a.j 5 1 v bss.flatten.a (bss.flatten.map bv)/\aL w.a.j w w'
theorem aqj{w wr:ak}{A':Option aT}{m c' j:Nat}{bss:List (List UInt8)}(ho:wr.c w.a.j 5 1 (.a A' m c') m ((bss.d j).flatten.map bv))(hf:bss.d j=bss)(hb:aL w.a.j w wr):aum bss w (.a (.a A' m c')) wr:=by
 rw[hf]at ho;have h2:=ho.1;rw[bV,gL]at h2;refine⟨_,rfl,?_,hb⟩;rw[h2];exact ho
theorem MO(l:List Yj)(bss:List (List UInt8))(A:Option aT)(n c:Nat)(w:ak)(hR:RdS w w.a.j A n l)(hH:Ov w w.a.j l bss)(hn:n<=1000)(hs:yV l<=1000000000):
 aP ah 181 #[.a A n c] w (aum bss w):=by
 obtain⟨i0,hi0,hz0,hz1,hz2⟩:=zO Jf;have HR:=ab hR;have HH:=ab hH;have HN:=ab hR.1;have HS:=ab hs;clear hR hH;go_enter Tryz.func181,Tryz.ntmps181;go_wp2;go_loop [3,11] (fun s3 s11=>∃i:Nat,i<=n/\s11=.b .a i/\s3=.b .a (yV (l.d i):Nat)) (fun _ s11=>n-(intOf s11).g)
 case atStart=>exact⟨0,by omega,rfl,rfl⟩
 case round=>
  obtain⟨i,hi,rfl,rfl⟩:=hrel;by_cases hlt:i<n
  ·have hlt2:(i:Int)<n:=by omega
   obtain⟨b,o,rfl,hbb,hcell⟩:=iE.cell Ze DV HR.i hlt;have hc0:=hcell 0 (by omega);have hst:=Q9 l i (by rw[HN.i];exact hlt);have hsl:=abp l (i+1);obtain⟨y,hy⟩:=rT (l.b i DV);rw[hy]at hc0 hst;have hc1:w.b ⟨b,o+i,none⟩=some (.a y.A y.n y.c):=by simpa[amQ]using hc0
   obtain⟨z,hz⟩:=rT (yV (l.d i));have hzb:z+y.n<=1000000000:=by have:=HS.i;omega
   rw[hz]at hst ⊢;have HST:=ab hst;clear hcell hc0 hy hz hst hsl;go_wp2;go_round
   case rel=>exact⟨i+1,by omega,by go_num,by rw[HST.i];go_num⟩
   case measure=>simp[intOf]<;>omega
  ·have hge:¬(i:Int)<n:=by omega
   have HT:=ab (show yV (l.d i)=yV l by rw[aJ (by rw[HN.i];omega)]);obtain⟨z,hz⟩:=rT (yV (l.d i));rw[hz]at HT ⊢;have hzb:z<=1000000000:=by rw[HT.i];exact HS.i
   clear hz;go_wp2_with fail;refine(amP z hzb w).e ?_;rintro e w1 ⟨v,rfl,ho,hb⟩;obtain⟨A0,c0,rfl,_,_⟩:=jG ho;have O0:=ab ho;have B0:=ab hb;clear ho hb;go_wp2;go_loopw [6,27] (fun s6 s27 wr=>∃(j m:Nat)(A':Option aT)(c':Nat),j<=n/\s27=.b .a j/\s6=.a A' m c'/\wr.c w.a.j 5 1 (.a A' m c') m ((bss.d j).flatten.map bv)/\aL w.a.j w wr) (fun _ s27 _=>n-(intOf s27).g)
   case atStart=>exact⟨0,0,A0,c0,by omega,rfl,rfl,O0.i,B0.i⟩
   case round=>
    obtain⟨j,m,A',c',hj,rfl,rfl,ho,hb⟩:=hrel;have HO:=ab ho;have HB:=ab hb;have HM:=ab (show m<=1000000000 by
     have h1:=ho.1;rw[bV,Wh HH.i j (by rw[HN.i];exact hj)]at h1;have:=abp l j;have:=HS.i;omega)
    clear ho hb;by_cases hlt:j<n
    ·have hlt2:(j:Int)<n:=by omega
     obtain⟨b,o,rfl,hbb,hcell⟩:=iE.cell Ze DV (HR.i.to HB.i (av _)) hlt;have hc0:=hcell 0 (by omega);have hrd:=(HH.i.2 j (by rw[HN.i];exact hlt)).to HB.i (av _);have hst:=Q9 l j (by rw[HN.i];exact hlt);have hsl:=abp l (j+1);have HFL:=ab (Zf bss j (by have:=HH.i.1;have:=HN.i;omega));have HML:=ab (show m=yV (l.d j)by have h1:=HO.i.1;rw[bV,Wh HH.i j (by rw[HN.i];exact hj)]at h1;omega);obtain⟨y,hy⟩:=rT (l.b j DV);rw[hy]at hc0 hst hrd;have hc1:wr.b ⟨b,o+j,none⟩=some (.a y.A y.n y.c):=by simpa[amQ]using hc0
     have HRD:=ab hrd;have Uy:=ab (show m+y.n<=maxLen by have:=HS.i;have:=HML.i;unfold maxLen;omega);have Qo:=ab (show(m+y.n)*1<=140737488355328 by have:=HS.i;have:=HML.i;omega);have BS:=ab HB.i.j;have ON:=ab (Gs (bss.b j []));have GR:=ab (fun w5 (hg:wr.d w5 (bC A' m c').f)=>show aL w.a.j w w5 from HB.i.grown hg HB.i.j (fun x hx=>(HO.i.lt x hx).1));clear hcell hc0 hy hst hsl hrd;go_wp2_with (at_builtin;refine jC _ rfl (.tmp 31) (.tmp 32) _ rfl w.a.j 5 i0 (.b .b 0) 1 1 cO hi0 hz0 hz1 hz2 rfl (av 1) (.a A' m c') m ((bss.d j).flatten.map bv) rfl HO.i w.a.j y.A y.n y.c ((bss.b j []).map bv) rfl HRD.i ON.i Uy.i Qo.i BS.i ?_;intro v1 w5 hown1 hg1 xu;have O5:=ab hown1;have G5:=ab (GR.i _ hg1);clear hown1 hg1 xu);obtain⟨A5,c5,rfl,_,_⟩:=jG O5.i;go_roundw
     case rel=>exact⟨j+1,m+y.n,A5,c5,by omega,by go_num,rfl,by rw[HFL.i,iY];exact O5.i,G5.i⟩
     case measure=>simp[intOf]<;>omega
    ·have aJj:¬(j:Int)<n:=by omega
     have HF:=ab (show bss.d j=bss from aJ (by have:=HH.i.1;have:=HN.i;omega));go_wp2;go_ret;exact aqj HO.i HF.i HB.i
structure Ow(B:Nat)(g0:Option Nat)(w0:ak)(v:aB)(bs:List UInt8)(w:ak):Prop where
 vL:w.c B 5 1 v bs.a (bs.map bv)
 gr:w0.d w g0
 wM:v.f=g0\/∃k,v.f=some k/\w0.a.j<=k
 hB:B<=w0.a.j
 gb:∀k,g0=some k->B<=k/\k<w0.a.j
theorem aun{a w:ak}{g:Option Nat}(h:a.d w g){p:aT}(hp:some p.block=g\/a.a.j<=p.block)(u:aB):a.d (w.F p u) g:=
 ⟨h.os,h.tape,h.output,by simpa[World.setCell]using h.j,fun i hi hne=>(Below.heap_setCell w p u i (by
  rintro rfl;rcases hp with hp|hp
  ·exact hne hp
  ·omega)).trans (h.block i hi hne)⟩
section
variable {B:Nat} {g0:Option Nat} {w0 W W':ak} {v v':aB} {bs bs':List UInt8}
theorem Ow.nil(w:ak):Ow w.a.j none w (.a none 0 0) [] w:=⟨fu _ _ _ _,World.grownBy.refl _ _,.a rfl,av _,fun k h=>by cases h⟩
theorem Ow.iG{w:ak}{n:Nat}(h:w.c B 5 1 v n (bs.map bv))(hB:B<=w.a.j):Ow B v.f w v bs w:=by
 have h1:=h.1;rw[bV,gL]at h1;subst h1;exact⟨h,World.grownBy.refl _ _,.a rfl,hB,fun k hk=>h.lt k hk⟩
theorem Ow.go(h:Ow B g0 w0 v bs W)(hb:aL W.a.j W W'):Ow B g0 w0 v bs W':=
 ⟨jE h.vL hb,⟨hb.os.trans h.gr.os,hb.tape.trans h.gr.tape,hb.output.trans h.gr.output,aO h.gr.j hb.j,fun k hk hn=>(hb.block k (eF hk h.gr.j)).trans (h.gr.block k hk hn)⟩,h.wM,h.hB,h.gb⟩
theorem Ow.drew(h:Ow B g0 w0 v bs W):Ow B g0 w0 v bs W.drew:=⟨h.vL,⟨h.gr.os,h.gr.tape,h.gr.output,h.gr.j,h.gr.block⟩,h.wM,h.hB,h.gb⟩
theorem Ow.step(h:Ow B g0 w0 v bs W)(k:Ow B v.f W v' bs' W'):Ow B g0 w0 v' bs' W':=by
 refine⟨k.vL,⟨k.gr.os.trans h.gr.os,k.gr.tape.trans h.gr.tape,k.gr.output.trans h.gr.output,aO h.gr.j k.gr.j,fun i hi hn=>(k.gr.block i (eF hi h.gr.j) (fun e=>?_)).trans (h.gr.block i hi hn)⟩,?_,h.hB,h.gb⟩
 ·rcases h.wM with h1|⟨j,h1,h2⟩
  ·exact hn (e.trans h1)
  ·rw[h1]at e;injection e with e;omega
 ·rcases k.wM with h1|⟨j,h1,h2⟩
  ·rw[h1];exact h.wM
  ·exact .b ⟨j,h1,aO h.gr.j h2⟩
theorem Ow.box{q:Nat}{c:Array aB}(h:Ow B g0 w0 v bs W)(hb:dM w0 q c)(hq:some q≠g0):dM W q c:=hb.grown h.gr hq
theorem Ow.M(h:Ow B g0 w0 v bs W):aL B w0 W:=⟨h.gr.os,h.gr.tape,h.gr.output,h.gr.j,fun k hk=>h.gr.block k (eF hk h.hB) (fun e=>by have:=(h.gb k e.symm).1;omega)⟩
theorem Ow.O(h:Ow B none w0 v bs W):aL w0.a.j w0 W:=⟨h.gr.os,h.gr.tape,h.gr.output,h.gr.j,fun k hk=>h.gr.block k hk (fun e=>by cases e)⟩
theorem Ow.Cr(h:Ow B g0 w0 v bs W):∃A c,v=.a A bs.a c:=by obtain⟨A,c,e,_⟩:=jG h.vL;exact⟨A,c,e⟩
theorem Ow.lt(h:Ow B g0 w0 v bs W){k:Nat}(hk:v.f=some k):k<W.a.j:=(h.vL.lt k hk).2
theorem Ow.j(h:Ow B g0 w0 v bs W):B<=W.a.j:=aO h.hB h.gr.j
end
section
variable {P:eD} {w:ak}
theorem yE:∃i:nW,ah.l 5=some i/\i.zero=some (.b .b 0)/\i.j=1/\i.bytes=1:=zO Jf
theorem jK{ops:Array iM}{rest:List iM}{o:iM}{a:qG}{Q:yP->qG->ak->Prop}(hgd:o.guard=none)(s x:qj)
 (ho:o.op=.call {callee:=.builtin .append,args:=#[s,x],argTypes:=#[56,56]})
 {B:Nat} {g0:Option Nat} {w0:ak} {v:aB} {bs ys:List UInt8} (hs:a.eval s=v) (H:Ow B g0 w0 v bs w) {C:Nat} {A:Option aT} {m c:Nat} (hx:a.eval x=.a A m c) (hr:gu w C A m ys)
 (hlen:bs.a+m<=1000000000)
 (h:∀A' n' c' w',Ow B g0 w0 (.a A' n' c') (bs++ys) w'->Ow B v.f w (.a A' n' c') (bs++ys) w'->wpList ah ops Q rest (a.put o.S (.a A' n' c')) w'):wpList ah ops Q (o::rest) a w:=by
 obtain⟨i0,hi0,hz0,hz1,hz2⟩:=yE;have hm:=hr.len;refine jC w hgd s x _ ho B 5 i0 (.b .b 0) 1 1 cO hi0 hz0 hz1 hz2 rfl (av 1) v bs.a (bs.map bv) hs H.vL C A m c (ys.map bv) hx hr (Gs ys) (by unfold maxLen;omega) (by omega) H.j ?_;intro v1 w1 h1 h2 h3;rw[<-iY,<-hm,<-aR]at h1;have hk:Ow B v.f w v1 (bs++ys) w1:=⟨h1,h2,by rcases h3 with h|h;exact .a h;exact .b ⟨_,h,av _⟩,H.j,fun k hk=>H.vL.lt k hk⟩
 obtain⟨A',c',rfl⟩:=hk.Cr;exact h A' _ c' w1 (H.step hk) hk
theorem ayE{o:iM}{a:qG}{K:qG->ak->Prop}{Q:yP->qG->ak->Prop}(s x:qj)
 (ho:o.op=.call {callee:=.builtin .append,args:=#[s,x],argTypes:=#[56,56]})
 {B:Nat} {g0:Option Nat} {w0:ak} {v:aB} {bs ys:List UInt8} (hs:a.eval s=v) (H:Ow B g0 w0 v bs w) {C:Nat} {A:Option aT} {m c:Nat} (hx:a.eval x=.a A m c) (hr:gu w C A m ys)
 (hlen:bs.a+m<=1000000000)
 (h:∀A' n' c' w',Ow B g0 w0 (.a A' n' c') (bs++ys) w'->Ow B v.f w (.a A' n' c') (bs++ys) w'->K (a.put o.S (.a A' n' c')) w'):o.wp ah a w K Q:=by
 obtain⟨i0,hi0,hz0,hz1,hz2⟩:=yE;have hm:=hr.len;refine Ku w s x _ ho B 5 i0 (.b .b 0) 1 1 cO hi0 hz0 hz1 hz2 rfl (av 1) v bs.a (bs.map bv) hs H.vL C A m c (ys.map bv) hx hr (Gs ys) (by unfold maxLen;omega) (by omega) H.j ?_;intro v1 w1 h1 h2 h3;rw[<-iY,<-hm,<-aR]at h1;have hk:Ow B v.f w v1 (bs++ys) w1:=⟨h1,h2,by rcases h3 with h|h;exact .a h;exact .b ⟨_,h,av _⟩,H.j,fun k hk=>H.vL.lt k hk⟩
 obtain⟨A',c',rfl⟩:=hk.Cr;exact h A' _ c' w1 (H.step hk) hk
end
def Ho(z:Int):Array aB:=#[.b .a z]
theorem Zg(z:Int):(Ho z).j=1:=rfl
abbrev RdI:=iE Ho 1
theorem UC:∃i:nW,ah.l 3=some i/\i.zero=some (.b .a 0)/\i.j=1:=by
 cases h:ah.l 3 with
 | none=>exact absurd h (by have:(ah.l 3).isSome=true:=by kernel_rfl
                            intro e;rw[e]at this;cases this)
 | some i=>
   have h1:(ah.l 3).map (·.j)=some 1:=by kernel_rfl
   have h3:(ah.l 3).map (·.zero)=some (some (.b .a 0)):=by kernel_rfl
   rw[h]at h1 h3;simp at h1 h3;exact⟨i,rfl,h3,h1⟩
theorem agl:mF 1 = #[0]:=by apply pQ;rw[kC];rfl
theorem agm:mF 2 = #[0,1]:=by apply pQ;rw[kC];rfl
theorem auo:mF 3 = #[0,1,2]:=by apply pQ;rw[kC];rfl
def MP(n:Nat)(ps:Array (Nat×aB)):xI aB:=bM 70 n ps
@[go_sem ↓]theorem axe(n:Nat)(ps:Array (Nat×aB)):bM 70 n ps=MP n ps:=rfl
def sZ(l:List Int):Array aB:=(l.map (aI .a)).c
@[go_sem]theorem asG(w:ak)(a:Int):(MP 1 #[(0,.b .a a)]).G ah w = .Y (.a (some ⟨w.a.j,0,none⟩) 1 1) (w.alloc (.D (sZ [a]) 3)):=by
 obtain⟨i0,hi0,hz0,hz1⟩:=UC;simp[MP,bM,dJ oH,zeroValue,sizeOf,typeInfo,hi0,hz0,hz1,fD,newRow,sZ,cZ,agl,agm,auo]
theorem RdI.lit(w:ak)(l:List Int)(t:bE):RdI (w.alloc (.D (sZ l) t)) (w.alloc (.D (sZ l) t)).a.j (some ⟨w.a.j,0,none⟩) l.a l:=by
 have hf:(l.h fun x=>(Ho x).a)=l.map (aI .a):=by induction l with
  | nil=>rfl
  | cons z l ih=>simp only[jl,ih];rfl
 refine⟨rfl,⟨by rw[hf];simp,fun _=>⟨_,rfl,by simp,?_⟩⟩,fun a h _=>by injection h with h;rw[<-h]⟩;intro j v hv;rw[hf]at hv;rw[iJ,bl];have:=lX w (sZ l) t j;rw[this];simpa[sZ]using hv
def Hq(n:Nat)(ps:Array (Nat×aB)):xI aB:=bM 276 n ps
@[go_sem ↓]theorem axf(n:Nat)(ps:Array (Nat×aB)):bM 276 n ps=Hq n ps:=rfl
theorem UD:∃i:nW,ah.l 56=some i/\i.zero=some (.a none 0 0)/\i.j=1:=by
 cases h:ah.l 56 with
 | none=>exact absurd h (by have:(ah.l 56).isSome=true:=by kernel_rfl
                            intro e;rw[e]at this;cases this)
 | some i=>
   have h1:(ah.l 56).map (·.j)=some 1:=by kernel_rfl
   have h3:(ah.l 56).map (·.zero)=some (some (.a none 0 0)):=by kernel_rfl
   rw[h]at h1 h3;simp at h1 h3;exact⟨i,rfl,h3,h1⟩
def zu(l:List Yj):Array aB:=(l.map fun x=>bC x.A x.n x.c).c
theorem amS:mF 5 = #[0,1,2,3,4]:=by apply pQ;rw[kC];rfl
@[go_sem]theorem asH(w:ak)(A B:Option aT)(a b c d:Nat):(Hq 2 #[(0,.a A a b),(1,.a B c d)]).G ah w = .Y (.a (some ⟨w.a.j,0,none⟩) 2 2) (w.alloc (.D (zu [⟨A,a,b⟩,⟨B,c,d⟩]) 56)):=by
 obtain⟨i0,hi0,hz0,hz1⟩:=UD;simp[Hq,bM,dJ Ei,zeroValue,sizeOf,typeInfo,hi0,hz0,hz1,fD,newRow,zu,cZ,agm]
@[go_sem]theorem asI(w:ak)(A0 A1 A2 A3 A4:Option aT)(n0 n1 n2 n3 n4 c0 c1 c2 c3 c4:Nat):(Hq 5 #[(0,.a A0 n0 c0),(1,.a A1 n1 c1),(2,.a A2 n2 c2),(3,.a A3 n3 c3),(4,.a A4 n4 c4)]).G ah w = .Y (.a (some ⟨w.a.j,0,none⟩) 5 5) (w.alloc (.D (zu [⟨A0,n0,c0⟩,⟨A1,n1,c1⟩,⟨A2,n2,c2⟩,⟨A3,n3,c3⟩,⟨A4,n4,c4⟩]) 56)):=by
 obtain⟨i0,hi0,hz0,hz1⟩:=UD;simp[Hq,bM,dJ Ei,zeroValue,sizeOf,typeInfo,hi0,hz0,hz1,fD,newRow,zu,cZ,amS]
theorem RdS.lit(w:ak)(l:List Yj)(t:bE):RdS (w.alloc (.D (zu l) t)) (w.alloc (.D (zu l) t)).a.j (some ⟨w.a.j,0,none⟩) l.a l:=by
 have hf:(l.h fun x=>(amQ x).a)=l.map (fun x=>bC x.A x.n x.c):=by induction l with
  | nil=>rfl
  | cons z l ih=>simp only[jl,ih];rfl
 refine⟨rfl,⟨by rw[hf];simp,fun _=>⟨_,rfl,by simp,?_⟩⟩,fun a h _=>by injection h with h;rw[<-h]⟩;intro j v hv;rw[hf]at hv;rw[iJ,bl];have:=lX w (zu l) t j;rw[this];simpa[zu]using hv
theorem Ov.cons{w:ak}{B:Nat}{x:Yj}{l:List Yj}{ys:List UInt8}{bss:List (List UInt8)}(h:gu w B x.A x.n ys)(k:Ov w B l bss):Ov w B (x::l) (ys::bss):=by
 refine⟨by simp[k.1],fun i hi=>?_⟩;cases i with
 | zero=>exact h
 | succ i=>exact k.2 i (by simpa using hi)
theorem Ov.nil{w:ak}{B:Nat}:Ov w B [] []:=⟨rfl,fun i hi=>by simp at hi⟩
theorem Ct(l:List Yj)(bss:List (List UInt8))(t:bE)(n:Nat)(w:ak)(hn:l.a=n)(hH:Ov w w.a.j l bss)(h1:n<=1000)(hs:yV l<=1000000000):
 aP ah 181 #[.a (some ⟨w.a.j,0,none⟩) n n] (w.alloc (.D (zu l) t)) fun e w'=>∃A m c,e=.a (.a A m c)/\m=bss.flatten.a/\gu w' w'.a.j A m bss.flatten/\w'.c (w.a.j+1) 5 1 (.a A m c) m (bss.flatten.map bv)/\aL w.a.j w w':=by
 subst hn;refine(MO l bss _ _ _ _ (RdS.lit w l t) ⟨hH.1,fun i hi=>((hH.2 i hi).alloc (av _) _).lN (by simp)⟩ h1 hs).e ?_;rintro e w' ⟨v,rfl,ho,hb⟩;obtain⟨A,c,rfl,_,_⟩:=jG ho;exact⟨A,_,c,rfl,rfl,gu.iG ho,by simpa using ho,axX (aG _ _) hb⟩
theorem aqk(w:ak)(s:List UInt8):gu (sU w 5 s) (sU w 5 s).a.j (some ⟨w.a.j,0,none⟩) s.a s/\aL w.a.j w (sU w 5 s):=
 ⟨(Il w _ s).lN (by unfold sU;rw[Lib.bytesWorld_size];omega),Ik w _ s⟩
theorem tZ(n k:Nat)(big:Bool):(gM n k big).a=k:=by cases big<;>simp[gM,rR]
theorem Ox{w:ak}{ops:Array iM}{o:iM}{a:qG}{K:qG->ak->Prop}{Q:yP->qG->ak->Prop}{E:Prop}(hgd:o.guard=none)(s x:qj)
 (ho:o.op=.call {callee:=.builtin .append,args:=#[s,x],argTypes:=#[56,56]})
 (v:aB) (A:Option aT) (m c:Nat) {B:Nat} {g0:Option Nat} {w0:ak} {bs ys:List UInt8} (hs:a.eval s=v) (H:Ow B g0 w0 v bs w) {C:Nat} (hx:a.eval x=.a A m c) (hr:gu w C A m ys)
 (hlen:bs.a+m<=1000000000)
 (h:∀A' n' c' w',Ow B g0 w0 (.a A' n' c') (bs++ys) w'->Ow B v.f w (.a A' n' c') (bs++ys) w'->K (a.put o.S (.a A' n' c')) w') :
 if fq o (yielded ops a.tmps)=true then nG ah o a w K Q else E:=by
 have hw:fq o (yielded ops a.tmps)=true:=by simp[fq,hgd]
 rw[if_pos hw];exact ayE s x ho hs H hx hr hlen h
def TwP(w:ak)(bs:List UInt8)(e:lU)(w':ak):Prop:=∃A,e=.a (.a A 2 2)/\Ow w.a.j none w (.a A 2 2) bs w'/\aL w.a.j w w'
theorem abq{w:ak}{g k B:Nat}{f:Nat->aB}{l:List UInt8}(h:w.rowIs g 5 k f)(hl:l.a=k)(hk:k<=1000)(hB:B<=g)(hf:∀j,j<k->f j=bv (l.b j 0)):w.c B 5 1 (.a (some ⟨g,0,none⟩) k k) k (l.map bv):=by
 obtain⟨c,hc,hs,hg⟩:=h;refine⟨by simp[hl],.b ⟨g,k,c,rfl,hB,hc,av _,by unfold maxLen;omega,by omega,?_⟩⟩;apply iR;intro j;by_cases hj:j<k
 ·rw[iw (by omega),Array.getElem?_toList,hg j hj,hf j hj]
  simp[au,hl,hj]
 ·rw[aS (by simp;omega),aS (by simp[hl];omega)]
theorem wO(n:Nat)(hn:n<=65535)(w:ak):aP ah 184 #[.b .u64 n,.b .a 2,.e true] w (TwP w (gM n 2 true)):=by
 refine(apl n 2 (by omega) (by omega) true w).e ?_;rintro e w' ⟨rfl,hr,hb⟩;have ho:=abq (B:=w.a.j) (l:=gM n 2 true) hr (tZ _ _ _) (by omega) (av _) (fun j hj=>rfl);refine⟨_,rfl,⟨by rw[tZ];exact ho,⟨hb.os,hb.tape,hb.output,hb.j,fun k hk _=>hb.block k hk⟩,.b ⟨_,rfl,av _⟩,av _,fun k hk=>by cases hk⟩,hb⟩
theorem asJ{B B':Nat}{w1 w w':ak}{v:aB}{bs:List UInt8}(h:Ow B' none w v bs w')(h1:B<=B')(hb:aL w'.a.j w' w1):Ow B v.f w1 v bs w1:=Ow.iG (iH (jE h.vL hb) h1) (aO (aO h1 h.j) hb.j)
theorem DW{B n c:Nat}{w1 w w':ak}{A:Option aT}{bs:List UInt8}(h:Ow B none w (.a A n c) bs w')(hb:aL w'.a.j w' w1):gu w1 w1.a.j A n bs:=by
 have h2:=jE h.vL hb;obtain⟨A',c',e⟩:=h.Cr;injection e with e1 e2 e3
 subst e2;exact gu.iG h2
theorem Oy{W W':ak}(h:aL W.drew.a.j W.drew W'):aL W.a.j W W':=⟨h.os,h.tape,h.output,h.j,h.block⟩
theorem aql{w w1 w2:ak}{g0:Option Nat}{v':aB}{bs:List UInt8}{c0:Array aB}(h:Ow (w.a.j+1) g0 w1 v' bs w2)(hB:aL w.a.j w w1)(hT:dM w1 w.a.j c0):
 (∃A n c,v'=.a A n c/\w2.c w.a.j 5 1 (.a A n c) n (bs.map bv)/\aL w.a.j w w2)/\dM w2 w.a.j c0:=by
 obtain⟨A,c,rfl⟩:=h.Cr;have hb:=h.M;exact⟨⟨A,_,c,rfl,iH h.vL (Nl _),hB.trans (hb.e (Nl _))⟩,hT.M hb (mV _)⟩
def zY(n:Nat)(ps:Array (Nat×aB)):xI aB:=bM 56 n ps
@[go_sem ↓]theorem ayF(n:Nat)(ps:Array (Nat×aB)):bM 56 n ps=zY n ps:=rfl
@[go_sem]theorem aup(w:ak)(a:Int):(zY 1 #[(0,.b .b a)]).G ah w = .Y (.a (some ⟨w.a.j,0,none⟩) 1 1) (w.alloc (.D #[.b .b a] 5)):=by
 obtain⟨i0,hi0,hz0,hz1,hz2⟩:=yE;simp[zY,bM,dJ cO,zeroValue,sizeOf,typeInfo,hi0,hz0,hz1,fD,newRow,cZ,agl]
theorem Cu(w:ak)(b:UInt8)(a:Int)(ha:a=(b.g:Int)):gu (w.alloc (.D #[.b .b a] 5)) (w.a.j+1) (some ⟨w.a.j,0,none⟩) 1 [b]:=by
 subst ha;refine⟨rfl,fun _=>⟨_,rfl,by simp,fun j u hu=>?_⟩⟩;rw[iJ,bl];have:=lX w #[.b .b (b.g:Int)] 5 j;rw[this];simpa[bv]using hu
theorem Tu.rdS{W:ak}{q:Nat}{t:Tu}(h:dM W q t.ay):gu W W.a.j (some ⟨q,1,none⟩) 16 t.h.b.a:=by
 refine⟨by simp,fun _=>⟨_,rfl,h.lt,fun j u hu=>?_⟩⟩;have hj:j<16:=by
  rcases aZ j 16 with hj|hj
  ·exact hj
  ·rw[aS (by simp;omega)]at hu;cases hu
 rw[iJ,h.J.1,kM 1 j,Tu.LZ t (j+1) (by omega),fC.BR _ j hj,<-hu];simp[au,hj]
theorem Tu.rdD{W:ak}{q:Nat}{t:Tu}(h:dM W q t.ay):gu W W.a.j (some ⟨q,18,none⟩) 16 t.S.b.a:=by
 refine⟨by simp,fun _=>⟨_,rfl,h.lt,fun j u hu=>?_⟩⟩;have hj:j<16:=by
  rcases aZ j 16 with hj|hj
  ·exact hj
  ·rw[aS (by simp;omega)]at hu;cases hu
 rw[iJ,h.J.1,show 18+j=(j+1)+17 by omega,Tu.JG t (j+1) (by omega),fC.BR _ j hj,<-hu];simp[au,hj]
def IV(w:ak)(bs:List UInt8)(e:lU)(w':ak):Prop:=∃A n c,e=.a (.a A n c)/\n=bs.a/\w'.c w.a.j 5 1 (.a A n c) n (bs.map bv)/\aL w.a.j w w'
def ayG(w:ak)(q:Nat)(c:Array aB)(bs:List UInt8)(e:lU)(w':ak):Prop:=∃A n c2,e=.a (.a A n c2)/\n=bs.a/\w'.c w.a.j 5 1 (.a A n c2) n (bs.map bv)/\aL w.a.j w w'/\dM w' q c
theorem adY(t:Tu)(f p:UInt8)(hf:f=if t.h.h then 6 else 4)(hp:p=aK t.aQ.g)(l:List UInt8)(hl:l=gM t.jv.g 2 true++gM t.iQ.g 2 true):[[f],t.h.b.a,t.S.b.a,[p],l].flatten=GH t:=by
 subst hf hp hl;simp[GH]
theorem OB(t:Tu):(GH t).a=38:=by simp[GH,tZ]
def uf(t:Tu):Prop:=(0<=t.aQ/\t.aQ<=255)/\(0<=t.jv/\t.jv<=65535)/\(0<=t.iQ/\t.iQ<=65535)
theorem aDy(W w0:ak)(q:Nat)(t:Tu)(f p:UInt8)(fi pi:Int)(A:Option aT)(n c:Nat)(l:List UInt8)(hf:f=if t.h.h then 6 else 4)(hp:p=aK t.aQ.g)(hl:l=gM t.jv.g 2 true++gM t.iQ.g 2 true)
 (hfi:fi=(f.g:Int)) (hpi:pi=(p.g:Int)) (hB:dM W q t.ay) (hr:gu W W.a.j A n l) (hn:n=4) (h0:aL w0.a.j w0 W) :
 aP ah 181 #[.a (some ⟨W.a.j+1+1,0,none⟩) 5 5] (((W.alloc (.D #[.b .b fi] 5)).alloc (.D #[.b .b pi] 5)).alloc (.D (zu [⟨some ⟨W.a.j,0,none⟩,1,1⟩,⟨some ⟨q,1,none⟩,16,16⟩,⟨some ⟨q,18,none⟩,16,16⟩,⟨some ⟨W.a.j+1,0,none⟩,1,1⟩,⟨A,n,c⟩]) 56)) (ayG w0 q t.ay (GH t)):=by
 have e1:(W.alloc (.D #[.b .b fi] 5)).a.j=W.a.j+1:=by simp
 have e2:((W.alloc (.D #[.b .b fi] 5)).alloc (.D #[.b .b pi] 5)).a.j=W.a.j+1+1:=by simp
 have up:∀{A:Option aT} {n:Nat} {l:List UInt8},gu W W.a.j A n l->gu ((W.alloc (.D #[.b .b fi] 5)).alloc (.D #[.b .b pi] 5)) ((W.alloc (.D #[.b .b fi] 5)).alloc (.D #[.b .b pi] 5)).a.j A n l:=fun h=>
  ((h.alloc (av _) _).alloc (by rw[e1];omega) _).lN (by rw[e2];omega)
 have h1:=((Cu W f fi hfi).alloc (by rw[e1];omega) (.D #[.b .b pi] 5)).lN (show W.a.j+1<=((W.alloc (.D #[.b .b fi] 5)).alloc (.D #[.b .b pi] 5)).a.j by rw[e2];omega);have h4:=(Cu (W.alloc (.D #[.b .b fi] 5)) p pi hpi).lN (show _<=((W.alloc (.D #[.b .b fi] 5)).alloc (.D #[.b .b pi] 5)).a.j by rw[e2,e1];omega);rw[e1]at h4;have:=Ct [⟨some ⟨W.a.j,0,none⟩,1,1⟩,⟨some ⟨q,1,none⟩,16,16⟩,⟨some ⟨q,18,none⟩,16,16⟩,⟨some ⟨W.a.j+1,0,none⟩,1,1⟩,⟨A,n,c⟩] [[f],t.h.b.a,t.S.b.a,[p],l] 56 5 _ rfl (.cons h1 (.cons (up (Tu.rdS hB)) (.cons (up (Tu.rdD hB)) (.cons h4 (.cons (up hr) .nil))))) (by omega) (by simp[yV,hn]);rw[e2,adY t f p hf hp l hl]at this;refine this.e ?_;rintro e w' ⟨A',m,c',rfl,hm,_,ho,hb⟩;have hsz:=h0.j;have hWb:=(((aG W.a.j W).alloc (av _) _).alloc (by simp) _).trans (hb.e (by omega));exact⟨A',m,c',rfl,hm,iH ho (by omega),fJ h0 hWb,hB.go hWb⟩
theorem aDz(W w0:ak)(q:Nat)(t:Tu)(f p:UInt8)(fi pi:Int)(A:Option aT)(n c:Nat)(l:List UInt8)(hf:f=if t.h.h then 6 else 4)(hp:p=aK t.aQ.g)(hl:l=gM t.jv.g 2 true++gM t.iQ.g 2 true)
 (hfi:fi=(f.g:Int)) (hpi:pi=(p.g:Int)) (hB:dM W q t.ay) (hr:gu W W.a.j A n l) (hn:n=4) (h0:aL w0.a.j w0 W) :
 aP ah 181 #[.a (some ⟨W.a.j+1+1,0,none⟩) 5 5] (((W.alloc (.D #[.b .b pi] 5)).alloc (.D #[.b .b fi] 5)).alloc (.D (zu [⟨some ⟨W.a.j+1,0,none⟩,1,1⟩,⟨some ⟨q,1,none⟩,16,16⟩,⟨some ⟨q,18,none⟩,16,16⟩,⟨some ⟨W.a.j,0,none⟩,1,1⟩,⟨A,n,c⟩]) 56)) (ayG w0 q t.ay (GH t)):=by
 have e1:(W.alloc (.D #[.b .b pi] 5)).a.j=W.a.j+1:=by simp
 have e2:((W.alloc (.D #[.b .b pi] 5)).alloc (.D #[.b .b fi] 5)).a.j=W.a.j+1+1:=by simp
 have up:∀{A:Option aT} {n:Nat} {l:List UInt8},gu W W.a.j A n l->gu ((W.alloc (.D #[.b .b pi] 5)).alloc (.D #[.b .b fi] 5)) ((W.alloc (.D #[.b .b pi] 5)).alloc (.D #[.b .b fi] 5)).a.j A n l:=fun h=>
  ((h.alloc (av _) _).alloc (by rw[e1];omega) _).lN (by rw[e2];omega)
 have h4:=((Cu W p pi hpi).alloc (by rw[e1];omega) (.D #[.b .b fi] 5)).lN (show W.a.j+1<=((W.alloc (.D #[.b .b pi] 5)).alloc (.D #[.b .b fi] 5)).a.j by rw[e2];omega);have h1:=(Cu (W.alloc (.D #[.b .b pi] 5)) f fi hfi).lN (show _<=((W.alloc (.D #[.b .b pi] 5)).alloc (.D #[.b .b fi] 5)).a.j by rw[e2,e1];omega);rw[e1]at h1;have:=Ct [⟨some ⟨W.a.j+1,0,none⟩,1,1⟩,⟨some ⟨q,1,none⟩,16,16⟩,⟨some ⟨q,18,none⟩,16,16⟩,⟨some ⟨W.a.j,0,none⟩,1,1⟩,⟨A,n,c⟩] [[f],t.h.b.a,t.S.b.a,[p],l] 56 5 _ rfl (.cons h1 (.cons (up (Tu.rdS hB)) (.cons (up (Tu.rdD hB)) (.cons h4 (.cons (up hr) .nil))))) (by omega) (by simp[yV,hn]);rw[e2,adY t f p hf hp l hl]at this;refine this.e ?_;rintro e w' ⟨A',m,c',rfl,hm,_,ho,hb⟩;have hsz:=h0.j;have hWb:=(((aG W.a.j W).alloc (av _) _).alloc (by simp) _).trans (hb.e (by omega));exact⟨A',m,c',rfl,hm,iH ho (by omega),fJ h0 hWb,hB.go hWb⟩
theorem abr(t:Tu)(ht:uf t)(w:ak):aP ah 98 #[.d t.ay] w (IV w (GH t)):=by
 obtain⟨⟨p1,p2⟩,⟨s1,s2⟩,d1,d2⟩:=ht;have T0:=ab (dM.new w t.ay 81);have B0:=ab ((aG w.a.j w).alloc (av _) (.D t.ay 81));obtain⟨w1,hw1⟩:=bZ (w.alloc (.D t.ay 81));obtain⟨sn,hsn⟩:∃sn:Nat,t.jv=(sn:Int):=⟨t.jv.g,by omega⟩
 obtain⟨dn,hdn⟩:∃dn:Nat,t.iQ=(dn:Int):=⟨t.iQ.g,by omega⟩
 have PS:=ab (fun W=>wO sn (by omega) W);have PD:=ab (fun W=>wO dn (by omega) W);have cs:gB.d t.jv=(sn:Int):=by rw[jh];omega
 have cd:gB.d t.iQ=(dn:Int):=by rw[jh];omega
 have cp:aW.d t.aQ=t.aQ:=by rw[II];omega
 obtain⟨f,hf⟩:∃f:UInt8,f=if t.h.h then 6 else 4:=⟨_,rfl⟩
 have HL:=ab (show gM sn 2 true++gM dn 2 true=gM t.jv.g 2 true++gM t.iQ.g 2 true by rw[show sn=t.jv.g by omega,show dn=t.iQ.g by omega]);have HPI:=ab (show t.aQ=((aK t.aQ.g).g:Int)by rw[dig _ (by omega)];omega);obtain⟨fi,hfi⟩:∃fi:Int,fi=(f.g:Int):=⟨_,rfl⟩
 have KS:=ab (show∀W',dM W' w.a.j t.ay->W'.b ⟨w.a.j,35,none⟩=some (.b .a t.jv)/\W'.b ⟨w.a.j,36,none⟩=some (.b .a t.iQ)from fun W' h=>⟨by rw[h.J.1];exact Tu.agh t,by rw[h.J.1];exact Tu.abh t⟩);have KP:=ab (show∀W',dM W' w.a.j t.ay->W'.b ⟨w.a.j,34,none⟩=some (.b .a t.aQ)from fun W' h=>by rw[h.J.1];exact Tu.VZ t);have CA:=ab (fun W A n c (hB:dM W w.a.j t.ay) (hr:gu W W.a.j A n (gM sn 2 true++gM dn 2 true)) (hn:n=4) (h0:aL w.a.j w W)=>aDy W w w.a.j t f _ fi t.aQ A n c _ hf rfl HL.i hfi HPI.i hB hr hn h0);have CB:=ab (fun W A n c (hB:dM W w.a.j t.ay) (hr:gu W W.a.j A n (gM sn 2 true++gM dn 2 true)) (hn:n=4) (h0:aL w.a.j w W)=>aDz W w w.a.j t f _ fi t.aQ A n c _ hf rfl HL.i hfi HPI.i hB hr hn h0);have HFI:=ab (show fi=if t.h.h then 6 else 4 by rw[hfi,hf];cases t.h.h<;>rfl);rw[<-hw1]at T0 B0;have hb1:w.a.j<w1.a.j:=by rw[hw1];simp
 have LB0:=ab (show w.a.j+1<=w1.drew.a.j from hb1);have LB1:=ab (show∀W,aL w1.drew.a.j w1.drew W->w.a.j+1<=W.a.j from fun W h=>aO hb1 h.j);have H4:=ab (show(gM sn 2 true).a+2<=1000000000 by rw[tZ];omega);clear hf hfi hsn hdn p1 p2 s1 s2 d1 d2;obtain⟨jS,aDB⟩:∃b,t.h.h=b:=⟨_,rfl⟩
 rw[aDB]at HFI;subst hw1;cases jS
 all_goals
  have ayI:=HFI.i;simp only[iV,if_false,if_true]at ayI;subst ayI;clear HFI;go_enter Tryz.func98,Tryz.ntmps98;go_wp2_with fail;go_cut [4]from 8 to 16 (fun s4 wx=>∃A n c,s4=.a A n c/\wx.c w.a.j 5 1 (.a A n c) n ((gM sn 2 true++gM dn 2 true).map bv)/\aL w.a.j w wx/\dM wx w.a.j t.ay)
  case first=>
   go_region_held_law (fun W'=>W'.b ⟨w.a.j,35,none⟩=some (.b .a t.jv)/\W'.b ⟨w.a.j,36,none⟩=some (.b .a t.iQ))
    (first|exact KS.i _ T0.i.drew|exact KS.i _ Ta.i|exact KS.i _ Tb.i|exact KS.i _ Tc.i|exact KS.i _ Td.i|exact KS.i _ Tz.i|go_keep)
    (first|(go_at_call 184;(with_reducible refine(PS.i _).e ?_);rintro e wa ⟨Awa,rfl,ho,hb⟩;have Oa:=ab ho;have Ta:=ab (T0.i.drew.go hb);have Ba:=ab (fJ B0.i (Oy hb));clear ho hb)|(go_at_call 184;(with_reducible refine(PD.i _).e ?_);rintro e wb ⟨Awb,rfl,ho,hb⟩;have Ob:=ab ho;have Tb:=ab (T0.i.drew.go hb);have Bb:=ab (fJ B0.i (Oy hb));have Lb:=ab (LB1.i _ hb);clear ho hb)|(go_at_call 184;(with_reducible refine(PD.i _).e ?_);rintro e wc2 ⟨aDC,rfl,ho,hb⟩;have Tc:=ab (Ta.i.go hb);have Bc:=ab (fJ Ba.i hb);have Q1:=ab (asJ Oa.i LB0.i hb);have Q2:=ab (DW ho (aG _ _));clear ho hb)|(go_at_call 184;(with_reducible refine(PS.i _).e ?_);rintro e wd ⟨Awd,rfl,ho,hb⟩;have Td:=ab (Tb.i.go hb);have Bd:=ab (fJ Bb.i hb);have Q3:=ab (asJ ho Lb.i (aG _ _));have Q4:=ab (DW Ob.i hb);clear ho hb)|(refine Ox (o:=⟨some 16,_,_,_,_,_⟩) rfl (.tmp 11) (.tmp 15) rfl (.a Awd 2 2) Awb 2 2 rfl Q3.i rfl Q4.i H4.i ?_;intro A3 n3 c3 w3 h2 h3;have Tz:=ab (aql h2 Bd.i Td.i).2;have Oz:=ab (aql h2 Bd.i Td.i).1;clear h2 h3)|(refine Ox (o:=⟨some 16,_,_,_,_,_⟩) rfl (.tmp 11) (.tmp 15) rfl (.a Awa 2 2) aDC 2 2 rfl Q1.i rfl Q2.i H4.i ?_;intro A3 n3 c3 w3 h2 h3;have Tz:=ab (aql h2 Bc.i Tc.i).2;have Oz:=ab (aql h2 Bc.i Tc.i).1;clear h2 h3))
   all_goals
    go_wp2_with fail;go_meet
    case rel=>obtain⟨A9,n9,c9,e9,ho9,hb9⟩:=Oz.i;exact⟨A9,n9,c9,e9,ho9,hb9,Tz.i⟩
  case rest=>
   obtain⟨A,n,c,rfl,ho,hb,hT⟩:=hcut;have hn4:n=4:=by have:=ho.1;rw[bV,aR,tZ,tZ]at this;omega
   subst hn4;have HT:=ab hT;have HB:=ab hb;have HR:=ab (gu.iG ho);clear ho hb hT;go_wp2_with fail;have CA1:=CA.i wc.drew A 4 c HT.i.drew HR.i rfl HB.i.drew;have CB1:=CB.i wc.drew A 4 c HT.i.drew HR.i rfl HB.i.drew;simp only[show wc.drew.a.j=wc.a.j from rfl,show∀(w:ak) ob,w.drew.alloc ob=(w.alloc ob).drew from fun _ _=>rfl]at CA1 CB1;have CA2:=ab CA1;have CB2:=ab CB1;clear CA1 CB1;go_region_held_law (fun W'=>W'.b ⟨w.a.j,34,none⟩=some (.b .a t.aQ))
    (first|exact KP.i _ HT.i.drew|exact KP.i _ (HT.i.drew.alloc _)|exact KP.i _ ((HT.i.drew.alloc _).alloc _)|exact KP.i _ (((HT.i.drew.alloc _).alloc _).alloc _)|exact KP.i _ FX.i|go_keep)
    (first|(go_at_call 181;(with_reducible refine CA2.i.e ?_);rintro e w2 ⟨A2,n2,c2,rfl,hn2,ho2,hb2,hx2⟩;have FX:=ab hx2;have FN:=ab hn2;have FO:=ab ho2;have FB:=ab hb2;clear hn2 ho2 hb2 hx2)|(go_at_call 181;(with_reducible refine CB2.i.e ?_);rintro e w2 ⟨A2,n2,c2,rfl,hn2,ho2,hb2,hx2⟩;have FX:=ab hx2;have FN:=ab hn2;have FO:=ab ho2;have FB:=ab hb2;clear hn2 ho2 hb2 hx2))
   all_goals
    go_wp2_with fail;go_ret;exact⟨_,_,_,rfl,FN.i,FO.i,FB.i⟩
theorem agn(l:List UInt8):gM (oP l) l.a true=l:=by
 simp[gM,TP]
theorem Wi(l:List UInt8)(k:Nat)(h:l.a=k):gM (oP l) k true=l:=by rw[<-h];exact agn l
theorem adZ{n m k:Nat}(hn:n<2^(8*k))(hm:m<2^(8*k))(h:gM n k true=gM m k true):n=m:=by
 have h1:rR n k=rR m k:=by
  have:=congrArg List.reverse h;simpa[gM]using this
 have h2:∀i,i<k->Dq n i=Dq m i:=fun i hi=>by
  have:=congrArg (fun l:List UInt8=>l[i]?) h1;simpa[rR,hi]using this
 have h3:=ac4 k h2;rw[fO hn,fO hm]at h3;exact h3
theorem Wj(l:List UInt8):oP l<2^(8*l.a):=by
 have:=Kv l;rw[Nat.pow_mul];exact this
theorem agp{n k:Nat}(hn:n<2^(8*k)):oP (gM n k true)=n:=by
 have hl:(gM n k true).a=k:=tZ _ _ _;have h:=Wi (gM n k true) k hl;have h2:=Wj (gM n k true);rw[hl]at h2;exact adZ h2 hn h
theorem Ra(l t:List UInt8)(k:Nat)(h:l.a=k):Iq k (some (l++t))=(l,some t):=by
 subst h;simp[Iq]
theorem Rb{k:Nat}{s:RS}{l t:List UInt8}(h:Iq k s=(l,some t)):s=some (l++t)/\l.a=k:=by
 cases s with
 | none=>simp[Iq]at h
 | some b=>
   unfold Iq at h;simp only at h;split at h
   ·rename_i hk
    injection h with h1 h2
    injection h2 with h2
    subst h1 h2;exact⟨by rw[iN],by rw[bH];omega⟩
   ·injection h with h1 h2;cases h2
theorem OD(n k:Nat)(t:List UInt8)(hn:n<2^(8*k)):ac' k (some (gM n k true++t))=(n,some t):=by
 unfold ac';rw[Ra (gM n k true) t k (tZ _ _ _)];simp only[agp hn]
theorem OE{k n:Nat}{s:RS}{t:List UInt8}(h:ac' k s=(n,some t)):s=some (gM n k true++t)/\n<2^(8*k):=by
 unfold ac' at h;injection h with h1 h2
 have h3:Iq k s=((Iq k s).1,some t):=by rw[<-h2]
 obtain⟨h4,h5⟩:=Rb h3;refine⟨?_,?_⟩
 ·rw[<-h1,Wi _ k h5];exact h4
 ·have:=Wj (Iq k s).1
  rw[h5]at this;rw[<-h1];exact this
theorem ah1(n:Nat)(hn:n<256):gM n 1 true=[aK n]:=by
 simp[gM,rR,Dq]
theorem amT{n:Nat}(v:Vector UInt8 n):qE n v.a=v:=by
 apply Vector.ext;intro i hi;simp[qE,hi]
theorem ad1{n:Nat}(l:List UInt8)(h:l.a=n):(qE n l).a=l:=by
 apply List.ext_getElem
 ·simp[h]
 ·intro i h1 h2
  simp[qE,h2]
structure Cdc{α:Type}(one:RS->(α×Bool)×RS)(lay:α->List UInt8)(ok:α->Prop):Prop where
 fwd:∀x t,ok x->one (some (lay x++t))=((x,true),some t)
 inv:∀s x t,one s=((x,true),some t)->ok x->s=some (lay x++t)
theorem Bz{α:Type}{p:α×RS}{t:List UInt8}(h:p.2=some t):p=(p.1,some t):=Prod.ext rfl h
def Zh(t:Tu):Prop:=t.h.h=t.S.h/\(0<=t.aQ/\t.aQ<=255)/\(0<=t.jv/\t.jv<=65535)/\0<=t.iQ/\t.iQ<=65535
theorem amU:Cdc tuO GH Zh where
 fwd:=by
  intro x t ⟨h0,⟨h1,h2⟩,⟨h3,h4⟩,h5,h6⟩;have hf:∀b:Bool,(if b then 6 else 4:Nat)<2^(8*1):=by intro b;cases b<;>decide
  have e0:GH x++t=gM (if x.h.h then 6 else 4) 1 true++(x.h.b.a++(x.S.b.a++(gM x.aQ.g 1 true++(gM x.jv.g 2 true++(gM x.iQ.g 2 true++t))))):=by
   have:∀b:Bool,gM (if b then 6 else 4) 1 true=[if b then 6 else 4]:=by intro b;cases b<;>decide
   rw[ah1 x.aQ.g (by omega),this];simp[GH,cu]
  rw[e0];unfold tuO;simp only[OD _ 1 _ (hf _),Ra x.h.b.a _ 16 (by simp),Ra x.S.b.a _ 16 (by simp),OD x.aQ.g 1 _ (by omega),OD x.jv.g 2 _ (by omega),OD x.iQ.g 2 _ (by omega),amT];have g:∀b:Bool,(((if b then 6 else 4:Nat)==6)=b)/\(b||((if b then 6 else 4:Nat)==4))=true:=by intro b;cases b<;>decide
  simp only[(g _).1,(g _).2];congr 2;obtain⟨⟨a,b⟩,⟨c,d⟩,p,q,r⟩:=x;simp only at h0 h1 h2 h3 h4 h5 h6 ⊢;subst h0;congr<;>omega
 inv:=by
  intro s x t h _;unfold tuO at h;simp only[Prod.mk.injEq]at h;obtain⟨⟨h1,c⟩,h2⟩:=h;obtain⟨i6,_⟩:=OE (Bz h2);obtain⟨i5,_⟩:=OE (Bz i6);obtain⟨i4,l4⟩:=OE (Bz i5);obtain⟨i3,l3⟩:=Rb (Bz i4);obtain⟨i2,l2⟩:=Rb (Bz i3);obtain⟨i1,_⟩:=OE (Bz i2);rw[i1,<-h1];congr 1;unfold GH;have:∀n:Nat,((n==6)||(n==4))=true->gM n 1 true=[if(n==6)=true then 6 else 4]:=by
   intro n hn;simp at hn;rcases hn with rfl|rfl<;>decide
  rw[this _ c];have e4:∀n:Nat,n<2^(8*1)->[aK n]=gM n 1 true:=fun n hn=>(ah1 n (by omega)).symm
  simp only[cu,ad1 _ l2,ad1 _ l3,Int.toNat_natCast,e4 _ l4]
theorem aqm(n m:Int):XW n m=true↔0<=n/\n<=m:=by simp[XW]
theorem OG{x:Tu}(h:Ev x=true):Zh x:=by
 unfold Ev at h;simp only[bf,decide_eq_true_eq,aqm]at h;exact⟨h.1.1.1.1.1,h.1.1.2,h.1.2,h.2⟩
structure Ly(B:Nat)(L:List (Nat×Array aB))(w0 W:ak)(v:aB)(bs:List UInt8):Prop where
 o:Ow B none w0 v bs W
 r:∀p∈L,dM W p.1 p.2/\v.f≠some p.1
section
variable {B:Nat} {L:List (Nat×Array aB)} {w0 W W':ak} {v v':aB} {bs bs':List UInt8}
theorem Ly.go(h:Ly B L w0 W v bs)(hb:aL W.a.j W W'):Ly B L w0 W' v bs:=⟨h.o.go hb,fun p hp=>⟨(h.r p hp).1.go hb,(h.r p hp).2⟩⟩
theorem Ly.alloc(h:Ly B L w0 W v bs)(ob:Obj):Ly B L w0 (W.alloc ob) v bs:=h.go ((aG _ _).alloc (av _) ob)
theorem Ly.drew(h:Ly B L w0 W v bs):Ly B L w0 W.drew v bs:=⟨h.o.drew,fun p hp=>⟨(h.r p hp).1.drew,(h.r p hp).2⟩⟩
theorem Ly.new(h:Ly B L w0 W v bs)(c:Array aB)(t:bE):Ly B ((W.a.j,c)::L) w0 (W.alloc (.D c t)) v bs:=
 ⟨(h.alloc _).o,fun p hp=>by
   rcases bB.1 hp with rfl|hp
   ·exact⟨dM.new W c t,fun e=>absurd (h.o.lt e) (Nat.lt_irrefl _)⟩
   ·exact(h.alloc _).r p hp⟩
theorem Ly.add(h:Ly B L w0 W v bs){q:Nat}{c:Array aB}(hb:dM W q c)(hq:v.f≠some q):Ly B ((q,c)::L) w0 W v bs:=
 ⟨h.o,fun p hp=>by
  rcases bB.1 hp with rfl|hp
  ·exact⟨hb,hq⟩
  ·exact h.r p hp⟩
theorem Ly.step(h:Ly B L w0 W v bs)(k:Ow B v.f W v' bs' W'):Ly B L w0 W' v' bs':=
 ⟨h.o.step k,fun p hp=>⟨k.box (h.r p hp).1 (fun e=>(h.r p hp).2 e.symm),by
  rcases k.wM with e|⟨j,e,e2⟩
  ·rw[e];exact(h.r p hp).2
  ·rw[e];intro e3;injection e3 with e3;have:=(h.r p hp).1.lt;omega⟩⟩
theorem Ly.Uh{p:Nat×Array aB}(h:Ly B (p::L) w0 W v bs):Ly B L w0 W v bs:=⟨h.o,fun q hq=>h.r q (j5 _ hq)⟩
theorem Ly.R{q:Nat}{c:Array aB}(h:Ly B ((q,c)::L) w0 W v bs):dM W q c:=(h.r (q,c) (by simp)).1
theorem Ly.b1{p:Nat×Array aB}{q:Nat}{c:Array aB}(h:Ly B (p::(q,c)::L) w0 W v bs):dM W q c:=h.Uh.R
theorem Ly.b2{p p2:Nat×Array aB}{q:Nat}{c:Array aB}(h:Ly B (p::p2::(q,c)::L) w0 W v bs):dM W q c:=h.Uh.Uh.R
end
theorem RdI.box{W:ak}{q o:Nat}{l:List Int}{c:Array aB}(h:dM W q c)(hc:∀j,j<l.a->c[o+j]? = some (.b .a (l.b j 0))):RdI W W.a.j (some ⟨q,o,none⟩) l.a l:=by
 have hf:(l.h fun x=>(Ho x).a)=l.map (aI .a):=by
  clear hc
  induction l with
  | nil=>rfl
  | cons z l ih=>simp only[jl,ih];rfl
 refine⟨rfl,⟨by rw[hf];simp,fun _=>⟨_,rfl,h.lt,?_⟩⟩,fun a h _=>by injection h with h;rw[<-h]⟩;intro j v hv;rw[hf]at hv;have hj:j<l.a:=by
  rcases aZ j l.a with hj|hj
  ·exact hj
  ·rw[aS (by simpa using hj)]at hv;cases hv
 rw[iJ,h.J.1,hc j hj,<-hv];simp[au,hj]
theorem Zi(l:List Int)(j:Nat)(hj:j<l.a):(sZ l)[0+j]? = some (.b .a (l.b j 0)):=by
 simp[sZ,au,hj]
theorem Ly.nil{w:ak}:Ly w.a.j [] w w (.a none 0 0) []:=⟨Ow.nil w,fun p hp=>by cases hp⟩
def abt{α:Type}(t e:bE)(f:α->Array aB)(sz:Nat):Prop:=∃(i:nW)(z:aB),ah.k t=some (.a e)/\ah.l e=some i/\i.zero=some z/\i.j=sz/\z.D.j=sz/\0<sz/\i.bytes<=1000/\(∀x,(f x).j=sz)/\∀x,(f x).all (·.h)=true
structure Rz{α:Type}(f:α->Array aB)(sz:Nat)(e:bE)(L:List (Nat×Array aB))(w0 W:ak)(v:aB)(l:List α):Prop where
 vL:W.c w0.a.j e sz v l.a (l.h fun x=>(f x).a)
 O:aL w0.a.j w0 W
 r:∀p∈L,dM W p.1 p.2/\v.f≠some p.1
section
variable {α:Type} {f:α->Array aB} {sz:Nat} {e t:bE} {L:List (Nat×Array aB)} {w0 W W':ak} {v v':aB} {l ys:List α}
theorem Rz.nil(w:ak):Rz f sz e [] w w (.a none 0 0) []:=⟨fu _ _ _ _,aG _ _,fun p hp=>by cases hp⟩
theorem Rz.go(h:Rz f sz e L w0 W v l)(hb:aL W.a.j W W'):Rz f sz e L w0 W' v l:=⟨jE h.vL hb,fJ h.O hb,fun p hp=>⟨(h.r p hp).1.go hb,(h.r p hp).2⟩⟩
theorem Rz.alloc(h:Rz f sz e L w0 W v l)(ob:Obj):Rz f sz e L w0 (W.alloc ob) v l:=h.go ((aG _ _).alloc (av _) ob)
theorem Rz.drew(h:Rz f sz e L w0 W v l):Rz f sz e L w0 W.drew v l:=⟨h.vL,h.O.drew,fun p hp=>⟨(h.r p hp).1.drew,(h.r p hp).2⟩⟩
theorem Rz.lt(h:Rz f sz e L w0 W v l){k:Nat}(hk:v.f=some k):w0.a.j<=k/\k<W.a.j:=h.vL.lt k hk
theorem Rz.new(h:Rz f sz e L w0 W v l)(c:Array aB)(t:bE):Rz f sz e ((W.a.j,c)::L) w0 (W.alloc (.D c t)) v l:=
 ⟨(h.alloc _).vL,(h.alloc _).O,fun p hp=>by
   rcases bB.1 hp with rfl|hp
   ·exact⟨dM.new W c t,fun e=>absurd (h.lt e).2 (Nat.lt_irrefl _)⟩
   ·exact(h.alloc _).r p hp⟩
theorem Rz.Uh{p:Nat×Array aB}(h:Rz f sz e (p::L) w0 W v l):Rz f sz e L w0 W v l:=⟨h.vL,h.O,fun q hq=>h.r q (j5 _ hq)⟩
theorem Rz.R{q:Nat}{c:Array aB}(h:Rz f sz e ((q,c)::L) w0 W v l):dM W q c:=(h.r (q,c) (by simp)).1
theorem Rz.b1{p:Nat×Array aB}{q:Nat}{c:Array aB}(h:Rz f sz e (p::(q,c)::L) w0 W v l):dM W q c:=h.Uh.R
theorem Rz.Cr(h:Rz f sz e L w0 W v l):∃A c,v=.a A l.a c:=by obtain⟨A,c,e,_⟩:=jG h.vL;exact⟨A,c,e⟩
theorem Rz.rd{A:Option aT}{n c:Nat}(h:Rz f sz e L w0 W (.a A n c) l):iE f sz W W.a.j A n l:=by
 obtain⟨A2,c2,e2⟩:=h.Cr;injection e2 with e3 e4 e5
 subst e3 e4 e5;exact iE.iG rfl h.vL
theorem Rz.len{A:Option aT}{n c:Nat}(h:Rz f sz e L w0 W (.a A n c) l):n=l.a:=h.rd.1.symm
theorem Rz.grown(h:Rz f sz e L w0 W v l)(hg:W.d W' v.f)(h1:W'.c w0.a.j e sz v' ys.a (ys.h fun x=>(f x).a))(h2:v'.f=v.f\/v'.f=some W.a.j):Rz f sz e L w0 W' v' ys:=by
 refine⟨h1,⟨hg.os.trans h.O.os,hg.tape.trans h.O.tape,hg.output.trans h.O.output,aO h.O.j hg.j,fun k hk=>(hg.block k (eF hk h.O.j) (fun e=>by have:=(h.lt e.symm).1;omega)).trans (h.O.block k hk)⟩,fun p hp=>⟨(h.r p hp).1.grown hg (fun e=>(h.r p hp).2 e.symm),?_⟩⟩;rcases h2 with e|e
 ·rw[e];exact(h.r p hp).2
 ·rw[e];intro e3;injection e3 with e3;have:=(h.r p hp).1.lt;omega
theorem asK(T:abt t e f sz){o:iM}{a:qG}{K:qG->ak->Prop}{Q:yP->qG->ak->Prop}(s x:qj)
 (ho:o.op=.call {callee:=.builtin .append,args:=#[s,x],argTypes:=#[t,t]}) (hs:a.eval s=v) (H:Rz f sz e L w0 W v l) {C:Nat} {A:Option aT} {m c:Nat} (hx:a.eval x=.a A m c) (hr:iE f sz W C A m ys)
 (hlen:l.a+m<=1000000)
 (h:∀A' n' c' w',Rz f sz e L w0 w' (.a A' n' c') (l++ys)->W.d w' v.f->K (a.put o.S (.a A' n' c')) w'):o.wp ah a W K Q:=by
 obtain⟨i,z,ht,hi,hz,h1,h2,h3,h4,h5,h6⟩:=T;have hm:=hr.1;refine Ku W s x t ho w0.a.j e i z sz i.bytes ht hi hz h1 rfl h2 h3 v l.a _ hs H.vL C A m c _ hx hr.2.1 (Fa f h6 ys) (by unfold maxLen;omega) (aO (Nat.mul_le_mul hlen h4) (by omega)) H.O.j ?_;intro v1 w1 k1 k2 k3;rw[acN,<-hm,<-aR]at k1;have hk:=H.grown k2 k1 k3;obtain⟨A',c',rfl⟩:=hk.Cr;exact h A' _ c' w1 hk k2
theorem Rf(T:abt t e f sz){ops:Array iM}{rest:List iM}{o:iM}{a:qG}{Q:yP->qG->ak->Prop}(hgd:o.guard=none)(s x:qj)
 (ho:o.op=.call {callee:=.builtin .append,args:=#[s,x],argTypes:=#[t,t]}) (hs:a.eval s=v) (H:Rz f sz e L w0 W v l) {C:Nat} {A:Option aT} {m c:Nat} (hx:a.eval x=.a A m c) (hr:iE f sz W C A m ys)
 (hlen:l.a+m<=1000000)
 (h:∀A' n' c' w',Rz f sz e L w0 w' (.a A' n' c') (l++ys)->W.d w' v.f->wpList ah ops Q rest (a.put o.S (.a A' n' c')) w'):wpList ah ops Q (o::rest) a W:=
 tL hgd fun _ hK=>asK T s x ho hs H hx hr hlen fun A' n' c' w' h2 h3=>hK _ _ (h A' n' c' w' h2 h3)
theorem aqn(T:abt t e f sz){ops:Array iM}{o:iM}{a:qG}{K:qG->ak->Prop}{Q:yP->qG->ak->Prop}{E:Prop}(hgd:o.guard=none)(s x:qj)
 (ho:o.op=.call {callee:=.builtin .append,args:=#[s,x],argTypes:=#[t,t]}) (hs:a.eval s=v) (H:Rz f sz e L w0 W v l) {C:Nat} {A:Option aT} {m c:Nat} (hx:a.eval x=.a A m c) (hr:iE f sz W C A m ys)
 (hlen:l.a+m<=1000000)
 (h:∀A' n' c' w',Rz f sz e L w0 w' (.a A' n' c') (l++ys)->W.d w' v.f->K (a.put o.S (.a A' n' c')) w'):if fq o (yielded ops a.tmps)=true then nG ah o a W K Q else E:=by
 have hw:fq o (yielded ops a.tmps)=true:=by simp[fq,hgd]
 rw[if_pos hw];exact asK T s x ho hs H hx hr hlen h
end
theorem ajF(l:List Bk)(hs:GA l)(s:List UInt8)(v:Int)(A:Option aT)(n c:Nat)(w:ak)(hR:iE Bk.ay 27 w w.a.j A n l)(hn:n<=100000)(K:Bool)(g:Bk)(h1:tJ l s=K)(h2:qD l s=g):
 aP ah 33 #[.d #[.b .a v,.a A n c],.string (bP s)] w (fT w (.I #[.d g.ay,.e K])):=by
 obtain rfl:=hR.1;subst h1 h2;exact Cb l hs s v A c w hR (by omega)
theorem Ly.rd{B:Nat}{L:List (Nat×Array aB)}{w0 W:ak}{A:Option aT}{n c:Nat}{bs:List UInt8}(h:Ly B L w0 W (.a A n c) bs):gu W W.a.j A n bs:=by
 obtain⟨A2,c2,e2⟩:=h.o.Cr;injection e2 with e3 e4 e5
 subst e3 e4 e5;exact gu.iG h.o.vL
theorem OH(d:Nat)(l m:List Int)(W:ak):∀is:List Nat,(∀i∈is,i<l.a/\i<m.a)->(Lg (d+1) 3 1 (sZ l) (sZ m) is).G ah W = .Y (is.all fun i=>l.b i 0==m.b i 0) W
 | [],_=>by simp[Lg]
 | i::is,h=>by
   have hi:=h i (by simp);have ih:=OH d l m W is (fun j hj=>h j (by simp[hj]));have p1:∀l:List Int,i<l.a->(part 3 (sZ l) (i*1)).G ah W = .Y (.b .a (l.b i 0)) W:=fun l hl=>
    qc (by simp only[gV]) (by rw[gL];have:=Zi l i hl;rwa [bl]at this) W
   simp only[Lg,Sem.run_bind,p1 l hi.1,p1 m hi.2,gQ,Gu,List.all_cons];cases hb:(l.b i 0==m.b i 0)
   ·simp
   ·simpa using ih
theorem Zj(v:Vector Int 11):yD v=sZ v.a:=rfl
theorem aqo(a b:Vector Int 11):((bY 11).all fun i=>a.a.b i 0==b.a.b i 0)=decide (a=b):=by
 rw[bF];simp only[fM,dV,beq_iff_eq,decide_eq_true_eq];constructor
 ·intro h
  apply Vector.ext;intro i hi;have:=h i hi;simpa[au,hi]using this
 ·rintro rfl i _
  rfl
theorem agq(a b:Vector Int 11)(d:Nat)(W:ak):(jg (d+2) 35 (.d (yD a)) (.d (yD b))).G ah W = .Y (decide (a=b)) W:=by
 obtain⟨i0,hi0,_,_⟩:=UC;rw[run_equalIn_array W (d+1) _ _ Gc hi0,show ah.a 3=1 by kernel_rfl,Zj,Zj,OH d _ _ W _ (fun i hi=>by simp at hi⊢;exact hi),aqo]
@[go_sem ↓]theorem aDG(a b:Vector Int 11)(W:ak):(jg 10000 35 (.d (yD a)) (.d (yD b))).G ah W = .Y (decide (a=b)) W:=agq a b 9998 W
theorem ajG:ah.k 81=some (.d (ah.fieldsOf 81)):=by
 simp only[jX,jI]
theorem aqp:∃f1 f2 f3 f4 f5:oh,(ah.fieldsOf 81).a=[f1,f2,f3,f4,f5]/\(f1.E ≠ "_" /\ f2.E ≠ "_" /\ f3.E ≠ "_" /\ f4.E ≠ "_" /\ f5.E ≠ "_")/\(f1.p=27/\f1.X=0)/\(f2.p=27/\f2.X=17)/\(f3.p=3/\f3.X=34)/\(f4.p=3/\f4.X=35)/\(f5.p=3/\f5.X=36):=by
 refine⟨_,_,_,_,_,by simp only[jX,jI];rfl,⟨?_,?_,?_,?_,?_⟩,⟨rfl,rfl⟩,⟨rfl,rfl⟩,⟨rfl,rfl⟩,⟨rfl,rfl⟩,⟨rfl,rfl⟩⟩<;>decide
theorem Zk(x y:Tu)(d:Nat)(W:ak):(jg (d+4) 81 (.d x.ay) (.d y.ay)).G ah W = .Y (decide (x=y)) W:=by
 rw[zN W (d+3) _ _ _ ajG Tryz.stoodInHeld81];obtain⟨f1,f2,f3,f4,f5,hl,⟨n1,n2,n3,n4,n5⟩,⟨t1,o1⟩,⟨t2,o2⟩,⟨t3,o3⟩,⟨t4,o4⟩,⟨t5,o5⟩⟩:=aqp;rw[hl];have p1:∀z:Tu,(part f1.p z.ay f1.X).G ah W = .Y (.d z.h.ay) W:=fun z=>by
  rw[t1,o1,EZ (n:=17) (by simp only[fB]) (by kernel_rfl) z.ay 0 W,Tu.ajD]
 have p2:∀z:Tu,(part f2.p z.ay f2.X).G ah W = .Y (.d z.S.ay) W:=fun z=>by
  rw[t2,o2,EZ (n:=17) (by simp only[fB]) (by kernel_rfl) z.ay 17 W,show 17+17=34 from rfl,Tu.ajE]
 have p3:∀z:Tu,(part f3.p z.ay f3.X).G ah W = .Y (.b .a z.aQ) W:=fun z=>by
  rw[t3,o3];exact qc (by simp only[gV]) (Tu.VZ z) W
 have p4:∀z:Tu,(part f4.p z.ay f4.X).G ah W = .Y (.b .a z.jv) W:=fun z=>by
  rw[t4,o4];exact qc (by simp only[gV]) (Tu.agh z) W
 have p5:∀z:Tu,(part f5.p z.ay f5.X).G ah W = .Y (.b .a z.iQ) W:=fun z=>by
  rw[t5,o5];exact qc (by simp only[gV]) (Tu.abh z) W
 rw[show decide (x=y)=(decide (x.h=y.h)&&(decide (x.S=y.S)&&((x.aQ==y.aQ)&&((x.jv==y.jv)&&((x.iQ==y.iQ)&&true)))))by
  rw[bF];cases x;cases y;simp]
 exact iW _ _ _ _ _ n1 W _ _ _ _ (p1 x) (p1 y) (by rw[t1];exact GI _ _ d W)
  (iW _ _ _ _ _ n2 W _ _ _ _ (p2 x) (p2 y) (by rw[t2];exact GI _ _ d W)
  (iW _ _ _ _ _ n3 W _ _ _ _ (p3 x) (p3 y) (by rw[t3];exact Gu _ _ _ W)
  (iW _ _ _ _ _ n4 W _ _ _ _ (p4 x) (p4 y) (by rw[t4];exact Gu _ _ _ W)
  (iW _ _ _ _ _ n5 W _ _ _ _ (p5 x) (p5 y) (by rw[t5];exact Gu _ _ _ W) (by simp[wK])))))
@[go_sem ↓]theorem aGY(x y:Tu)(W:ak):(jg 10000 81 (.d x.ay) (.d y.ay)).G ah W = .Y (decide (x=y)) W:=Zk x y 9996 W
theorem ajH:ah.k 86=some (.d (ah.fieldsOf 86)):=by
 simp only[jX,lW]
theorem aqr:∃f1 f2 f3 f4 f5:oh,(ah.fieldsOf 86).a=[f1,f2,f3,f4,f5]/\(f1.E ≠ "_" /\ f2.E ≠ "_" /\ f3.E ≠ "_" /\ f4.E ≠ "_" /\ f5.E ≠ "_")/\(f1.p=81/\f1.X=0)/\(f2.p=9/\f2.X=37)/\(f3.p=3/\f3.X=38)/\(f4.p=3/\f4.X=39)/\(f5.p=3/\f5.X=40):=by
 refine⟨_,_,_,_,_,by simp only[jX,lW];rfl,⟨?_,?_,?_,?_,?_⟩,⟨rfl,rfl⟩,⟨rfl,rfl⟩,⟨rfl,rfl⟩,⟨rfl,rfl⟩,⟨rfl,rfl⟩⟩<;>decide
theorem ajI(x y:Fw)(d:Nat)(W:ak):(jg (d+5) 86 (.d x.ay) (.d y.ay)).G ah W = .Y (decide (x=y)) W:=by
 rw[zN W (d+4) _ _ _ ajH Tryz.stoodInHeld86];obtain⟨f1,f2,f3,f4,f5,hl,⟨n1,n2,n3,n4,n5⟩,⟨t1,o1⟩,⟨t2,o2⟩,⟨t3,o3⟩,⟨t4,o4⟩,⟨t5,o5⟩⟩:=aqr;rw[hl];have p1:∀z:Fw,(part f1.p z.ay f1.X).G ah W = .Y (.d z.key.ay) W:=fun z=>by
  rw[t1,o1,EZ (n:=37) (by simp only[jI]) (by kernel_rfl) z.ay 0 W,bl,Fw.JI]
 have p2:∀z:Fw,(part f2.p z.ay f2.X).G ah W = .Y (.string (bP z.E)) W:=fun z=>by
  rw[t2,o2];exact qc (by simp only[Tryz.underlying9]) (Fw.abk z) W
 have p3:∀z:Fw,(part f3.p z.ay f3.X).G ah W = .Y (.b .a z.vV) W:=fun z=>by
  rw[t3,o3];exact qc (by simp only[gV]) (Fw.agi z) W
 have p4:∀z:Fw,(part f4.p z.ay f4.X).G ah W = .Y (.b .a z.seen) W:=fun z=>by
  rw[t4,o4];exact qc (by simp only[gV]) (Fw.abl z) W
 have p5:∀z:Fw,(part f5.p z.ay f5.X).G ah W = .Y (.b .a z.no) W:=fun z=>by
  rw[t5,o5];exact qc (by simp only[gV]) (Fw.MJ z) W
 rw[show decide (x=y)=(decide (x.key=y.key)&&((x.E==y.E)&&((x.vV==y.vV)&&((x.seen==y.seen)&&((x.no==y.no)&&true)))))by
  rw[bF];cases x;cases y;simp]
 exact iW _ _ _ _ _ n1 W _ _ _ _ (p1 x) (p1 y) (by rw[t1];exact Zk _ _ d W)
  (iW _ _ _ _ _ n2 W _ _ _ _ (p2 x) (p2 y) (by rw[t2];exact Qk _ _ _ W)
  (iW _ _ _ _ _ n3 W _ _ _ _ (p3 x) (p3 y) (by rw[t3];exact Gu _ _ _ W)
  (iW _ _ _ _ _ n4 W _ _ _ _ (p4 x) (p4 y) (by rw[t4];exact Gu _ _ _ W)
  (iW _ _ _ _ _ n5 W _ _ _ _ (p5 x) (p5 y) (by rw[t5];exact Gu _ _ _ W) (by simp[wK])))))
@[go_sem ↓]theorem aGZ(x y:Fw)(W:ak):(jg 10000 86 (.d x.ay) (.d y.ay)).G ah W = .Y (decide (x=y)) W:=ajI x y 9995 W
def KV(l:List Fw):List (List UInt8):=l.map (·.E)
theorem ad2(l:List Fw)(i:Nat):(KV l).b i []=(l.b i jw).E:=by
 unfold KV;rw[au,au,iy];cases l[i]? <;> rfl
def abu(l:List Fw):Bool:=decide (l.a<=80)&&(bY l.a).all (fun i=>decide (((KV l).b i []).a<=60))
theorem amV(l:List Fw)(A:Option aT)(n c:Nat)(w:ak)(hR:iE Fw.ay 41 w w.a.j A n l)(hn:n<=9223372036854775807):
 aP ah 43 #[.a A n c] w fun e w'=>e=.a (.e (abu l))/\w=w':=by
 have HR:=ab hR;have HN:=ab hR.1;clear hR;have HFW:=ab (show abu l=(decide (n<=80)&&(bY n).all (fun i=>decide (((KV l).b i []).a<=60)))by unfold abu;rw[HN.i]);go_enter Tryz.func43,Tryz.ntmps43;go_wp2;go_loop [3] (fun s3=>∃i:Nat,i<=n/\i<=100/\s3=.b .a i/\∀k,k<i->((KV l).b k []).a<=60) (fun s3=>n-(intOf s3).g)
 case atStart=>exact⟨0,by omega,by omega,rfl,fun k hk=>by omega⟩
 case round=>
  obtain⟨i,hin,ayd,rfl,hall⟩:=hrel;have HA:=ab hall;clear hall;by_cases hlt:i<n
  ·have hi:(i:Int)<n:=by omega
   by_cases h6:i<100
   ·have hi6:(i:Int)<100:=by omega
    obtain⟨b,o,rfl,hbb,hc0⟩:=iE.cell Fw.r jw HR.i hlt;have hc:=(hc0 37 (by omega)).trans (Fw.abk _);clear hc0;clear hbb;obtain⟨pn,hp⟩:=bZ ((KV l).b i []);rw[<-ad2,<-hp]at hc;have HP:=ab hp;clear hp;by_cases hq:pn.a<=60
    ·have hq1:(pn.a:Int)<=60:=by omega
     go_wp2;go_round
     case rel=>exact⟨i+1,by omega,by omega,by go_num,fun k hk=>by
      by_cases hki:k=i
      ·rw[hki,<-HP.i];exact hq
      ·exact HA.i k (by omega)⟩
     case measure=>simp[intOf]<;>omega
    ·have hq1:¬(pn.a:Int)<=60:=by omega
     have hq2:(60:Int)<pn.a:=by omega
     have HF:=ab (show abu l=false by rw[HFW.i,ji _ i _ hlt (by rw[<-HP.i];simpa using hq)];simp);go_wp2;go_ret;exact⟨by rw[HF.i];rfl,rfl⟩
   ·have hd:decide ((i:Int)<100)=false:=by simp;omega
    have HF:=ab (show abu l=decide ((n:Int)<=80)by
     rw[HFW.i,show decide (n<=80)=false from decide_eq_false (by omega),show decide ((n:Int)<=80)=false from decide_eq_false (by omega)];rfl)
    go_wp2;go_ret;exact⟨by rw[HF.i];rfl,rfl⟩
  ·obtain rfl:i=n:=by omega
   have hd:decide ((i:Int)<i)=false:=by simp
   have HF:=ab (show abu l=decide ((i:Int)<=80)by
    rw[HFW.i,fM.2 (fun k hk=>decide_eq_true (HA.i k (dV.1 hk))),Bool.and_true];rw[decide_eq_decide];omega)
   go_wp2;go_ret;exact⟨by rw[HF.i];rfl,rfl⟩
theorem ajJ(l m:List Fw)(A B:Option aT)(n k c d:Nat)(w:ak)(hR:iE Fw.ay 41 w w.a.j A n l)(hT:iE Fw.ay 41 w w.a.j B k m)(hn:n<=4611686018427387904)(hk:k<=4611686018427387904):
 aP ah 58 #[.a A n c,.a B k d] w (fT w (.e (decide (l=m)))):=by
 have HR:=ab hR;have HT:=ab hT;have HN:=ab hR.1;have HK:=ab hT.1;clear hR hT;by_cases hlm:n=k;rotate_left
 ·have hne:((n:Int) != (k:Int))=true:=by rw[bne_iff_ne];omega
  have HF:=ab (show decide (l=m)=false from decide_eq_false (fun e=>hlm (by rw[<-HN.i,<-HK.i,e])));clear hlm;go_enter Tryz.func58,Tryz.ntmps58;go_wp2;go_ret;exact⟨by rw[HF.i];rfl,aG _ _⟩
 subst hlm;have hbn:((n:Int) != (n:Int))=false:=by simp
 go_enter Tryz.func58,Tryz.ntmps58;go_wp2;go_loopw [5] (fun s5 wr=>∃i:Nat,i<=n/\s5=.b .a i/\l.d i=m.d i/\aL w.a.j w wr) (fun s5 _=>n-(intOf s5).g)
 case atStart=>exact⟨0,by omega,rfl,rfl,aG _ _⟩
 case round=>
  obtain⟨i,hin,rfl,hall,hb⟩:=hrel;have HA:=ab hall;have HB:=ab hb;clear hall hb;by_cases hlt:i<n
  ·have hi:(i:Int)<n:=by omega
   obtain⟨b,o,rfl,hbb,hh,hc⟩:=iE.fw (HR.i.M HB.i) hlt;obtain⟨b2,o2,rfl,NR,hh2,hc2⟩:=iE.fw (HT.i.M HB.i) hlt;obtain⟨x,hx⟩:=bZ (l.b i jw);obtain⟨y,hy⟩:=bZ (m.b i jw);rw[<-hx]at hc;rw[<-hy]at hc2;have HX:=ab hx;have HY:=ab hy;clear hx hy hbb NR;by_cases hq:x=y
   ·have he:decide (x=y)=true:=by simpa using hq
    have HS:=ab (show l.d (i+1)=m.d (i+1)by
     rw[<-lY jw l i (by rw[HN.i];exact hlt),<-lY jw m i (by rw[HK.i];exact hlt),HA.i,<-HX.i,<-HY.i,hq])
    clear hq;go_wp2;go_quiet (fail);go_wp2;go_roundw
    case rel=>exact⟨i+1,by omega,by go_num,HS.i,eH HB.i _⟩
    case measure=>simp[intOf]<;>omega
   ·have he:decide (x=y)=false:=by simpa using hq
    have HF:=ab (show decide (l=m)=false from decide_eq_false (fun e=>hq (by rw[HX.i,HY.i,e])));clear hq;go_wp2;go_quiet (fail);go_wp2;go_ret;exact⟨by rw[HF.i];rfl,eH HB.i _⟩
  ·obtain rfl:i=n:=by omega
   have hd:decide ((i:Int)<i)=false:=by simp
   have HT2:=ab (show decide (l=m)=true from decide_eq_true (by
    have:=HA.i
    rwa [aJ (by rw[HN.i];omega),aJ (by rw[HK.i];omega)]at this))
   go_wp2;go_ret;exact⟨by rw[HT2.i];rfl,HB.i⟩
theorem amW(l:List Bk)(v:Int)(A:Option aT)(n c:Nat)(w:ak)(hR:iE Bk.ay 27 w w.a.j A n l)(hn:n<=9223372036854775807)(K:Bool)(hK:Uz l=K):
 aP ah 41 #[.d #[.b .a v,.a A n c]] w (fT w (.e K)):=by
 subst hK;obtain rfl:=hR.1;exact ajb l v A c w hR hn
theorem ajK(l m:List Bk)(hf:∀x∈l,x.oQ)(hg:∀x∈m,x.oQ)(v v':Int)(A B:Option aT)(n n' c d:Nat)(w:ak)(hR:iE Bk.ay 27 w w.a.j A n l)(hT:iE Bk.ay 27 w w.a.j B n' m)(hn:n<=4611686018427387903)(hm:n'<=4611686018427387903)(K:Bool)(hK:Cg v l v' m=K):
 aP ah 56 #[.d #[.b .a v,.a A n c],.d #[.b .a v',.a B n' d]] w (fT w (.e K)):=by
 subst hK;obtain rfl:=hR.1;obtain rfl:=hT.1;exact TQ l m hf hg v v' A B c d w hR hT (by omega) (by omega)
structure StW(w:ak)(B:Nat)(x:Sh)(s:rE):Prop where
 lD:x.lD=s.lD
 b:iE Bk.ay 27 w B x.b.A x.b.n s.qO
 h:iE Hl.ay 3 w B x.h.A x.h.n s.r
 f:iE Fw.ay 41 w B x.f.A x.f.n s.h
 fK:x.fK=s.fK
 no:x.no=s.no
 S:x.S=s.S
 oQ:∀y∈s.qO,y.oQ
 adX:∀y∈s.r,y.E.a<=9223372036854775807
 V9:∀y∈s.h,y.E.a<=9223372036854775807
 nb:x.b.n<=9223372036854775807
 nh:x.h.n<=9223372036854775807
 nf:x.f.n<=9223372036854775807
theorem StW.go{w w':ak}{x:Sh}{s:rE}(h:StW w w.a.j x s)(hb:aL w.a.j w w'):StW w' w'.a.j x s:=⟨h.lD,h.b.go hb,h.h.go hb,h.f.go hb,h.fK,h.no,h.S,h.oQ,h.adX,h.V9,h.nb,h.nh,h.nf⟩
def Zl(s:rE):Bool:=Uz s.qO&&Ya (yt s.r)&&abu s.h
def Wm(s t:rE):Bool:=Cg s.lD s.qO t.lD t.qO&&decide (s.r=t.r)&&decide (s.h=t.h)&&(s.fK==t.fK)&&(s.no==t.no)&&decide (s.S=t.S)
theorem OI(x:Sh)(s:rE)(w:ak)(h:StW w w.a.j x s)(J:Bool)(hJ:Zl s=J):
 aP ah 14 #[.d x.ay] w (fT w (.e J)):=by
 obtain⟨vv,⟨bA,bn,bc⟩,⟨gA,gn,gc⟩,⟨fA,fn,fc⟩,tk,nn,ct⟩:=x;have B0:=ab (dM.new w (Sh.mk vv ⟨bA,bn,bc⟩ ⟨gA,gn,gc⟩ ⟨fA,fn,fc⟩ tk nn ct).ay 37);have HB0:=ab ((aG w.a.j w).alloc (av _) (.D (Sh.mk vv ⟨bA,bn,bc⟩ ⟨gA,gn,gc⟩ ⟨fA,fn,fc⟩ tk nn ct).ay 37));have HS:=ab h;obtain⟨x1,x2,x3,x4⟩:=B0.i.J;have hl0:=B0.i.lt;have hbn:bn<=9223372036854775807:=h.nb;have hgn:gn<=9223372036854775807:=h.nh;have hfn:fn<=9223372036854775807:=h.nf;obtain⟨K1,hK1⟩:∃K,Uz s.qO=K:=⟨_,rfl⟩
 obtain⟨K2,hK2⟩:∃K,Ya (yt s.r)=K:=⟨_,rfl⟩
 obtain⟨K3,hK3⟩:∃K,abu s.h=K:=⟨_,rfl⟩
 have HJ:=ab (show J=(K1&&K2&&K3)by rw[<-hJ,<-hK1,<-hK2,<-hK3];rfl);have P1:=ab (amW s.qO vv bA bn bc _ ((h.go HB0.i).b) (by omega) K1 hK1);have P2:=ab (fun W (hb:aL w.a.j w W)=>apC s.r gA gn gc W (HS.i.h.go hb) (by omega));have P3:=ab (fun W (hb:aL w.a.j w W)=>amV s.h fA fn fc W (HS.i.f.go hb) (by omega));rw[hK2]at P2;rw[hK3]at P3;clear h hK1 hK2 hK3 hJ hbn hgn hfn;go_enter Tryz.func14,Tryz.ntmps14;go_wp2_with fail
 (with_reducible refine P1.i.e ?_)
 rintro e w1 ⟨rfl,hb1⟩;have HB1:=ab (fJ HB0.i hb1);have B1:=ab (B0.i.go hb1);clear hb1 x1 x2 x3 x4 hl0;obtain⟨x1,x2,x3,x4⟩:=B1.i.J;have hl0:=B1.i.lt;cases K1
 ·go_wp2
  go_ret;exact⟨by rw[HJ.i];rfl,HB1.i⟩
 go_wp2_with fail
 (with_reducible refine(P2.i _ HB1.i).e ?_)
 rintro e w2 ⟨rfl,rfl⟩;cases K2
 ·go_wp2
  go_ret;exact⟨by rw[HJ.i];rfl,HB1.i⟩
 go_wp2_with fail
 (with_reducible refine(P3.i _ HB1.i).e ?_)
 rintro e w3 ⟨rfl,rfl⟩;go_wp2;go_ret;exact⟨by rw[HJ.i];rfl,HB1.i⟩
theorem Zm{s:rE}(h:Zl s=true):s.qO.a<=40/\s.r.a<=50/\s.h.a<=80:=by
 unfold Zl at h;simp only[bf]at h;obtain⟨⟨h1,h2⟩,h3⟩:=h;refine⟨?_,?_,?_⟩
 ·unfold Uz at h1;simp at h1;exact h1.2
 ·have:=apB h2;rwa [Vm]at this
 ·unfold abu at h3;simp at h3;exact h3.1
theorem StW.amX{w:ak}{B:Nat}{x:Sh}{s:rE}(h:StW w B x s)(hf:Zl s=true):StR w B x s:=by
 obtain⟨h1,h2,h3⟩:=Zm hf;have e1:=h.b.1;have e2:=h.h.1;have e3:=h.f.1;exact⟨h.lD,h.b,h.h,h.f,h.fK,h.no,h.S,h.oQ,h.adX,h.V9,by omega,by omega,by omega⟩
theorem Mc(x y:Sh)(s t:rE)(w:ak)(h:StR w w.a.j x s)(k:StR w w.a.j y t)(J:Bool)(hJ:Wm s t=J):
 aP ah 18 #[.d x.ay,.d y.ay] w (fT w (.e J)):=by
 obtain⟨v1,⟨bA,bn,bc⟩,⟨gA,gn,gc⟩,⟨fA,fn,fc⟩,tk,nn,ct⟩:=x;obtain⟨v2,⟨bA2,bn2,bc2⟩,⟨gA2,gn2,gc2⟩,⟨fA2,fn2,fc2⟩,tk2,nn2,ct2⟩:=y;obtain rfl:v1=s.lD:=h.lD;obtain rfl:tk=s.fK:=h.fK;obtain rfl:nn=s.no:=h.no;obtain rfl:ct=s.S:=h.S;obtain rfl:v2=t.lD:=k.lD;obtain rfl:tk2=t.fK:=k.fK;obtain rfl:nn2=t.no:=k.no;obtain rfl:ct2=t.S:=k.S;obtain⟨W1,hW1⟩:=bZ ((w.alloc (.D (Sh.mk s.lD ⟨bA,bn,bc⟩ ⟨gA,gn,gc⟩ ⟨fA,fn,fc⟩ s.fK s.no s.S).ay 37)).alloc (.D (Sh.mk t.lD ⟨bA2,bn2,bc2⟩ ⟨gA2,gn2,gc2⟩ ⟨fA2,fn2,fc2⟩ t.fK t.no t.S).ay 37));have HB0:=ab (show aL w.a.j w W1 by rw[hW1];exact((aG w.a.j w).alloc (av _) _).alloc (by simp) _);have B0:=ab (show dM W1 w.a.j (Sh.mk s.lD ⟨bA,bn,bc⟩ ⟨gA,gn,gc⟩ ⟨fA,fn,fc⟩ s.fK s.no s.S).ay by rw[hW1];exact(dM.new w _ _).alloc _);have C0:=ab (show dM W1 (w.a.j+1) (Sh.mk t.lD ⟨bA2,bn2,bc2⟩ ⟨gA2,gn2,gc2⟩ ⟨fA2,fn2,fc2⟩ t.fK t.no t.S).ay by rw[hW1];exact dM.TJ w _ _ _);have HS:=ab h;have HT:=ab k;obtain⟨x1,x2,x3,x4⟩:=B0.i.J;have hl0:=B0.i.lt;obtain⟨y1,y2,y3,y4⟩:=C0.i.J;have hl1:=C0.i.lt;obtain⟨K1,hK1⟩:∃K,Cg s.lD s.qO t.lD t.qO=K:=⟨_,rfl⟩
 obtain⟨K2,hK2⟩:∃K,decide (s.r=t.r)=K:=⟨_,rfl⟩
 obtain⟨K3,hK3⟩:∃K,decide (s.h=t.h)=K:=⟨_,rfl⟩
 have HJ:=ab (show J=(K1&&K2&&K3&&(s.fK==t.fK)&&(s.no==t.no)&&decide (s.S=t.S))by rw[<-hJ,<-hK1,<-hK2,<-hK3];rfl);have P1:=ab (ajK s.qO t.qO h.oQ k.oQ s.lD t.lD bA bA2 bn bn2 bc bc2 W1 ((h.go HB0.i).b) ((k.go HB0.i).b) h.nb k.nb K1 hK1);have P2:=ab (fun W (hb:aL w.a.j w W)=>ai' s.r t.r gA gA2 gn gn2 gc gc2 W (HS.i.h.go hb) (HT.i.h.go hb) (kV HS.i.nh) (kV HT.i.nh));have P3:=ab (fun W (hb:aL w.a.j w W)=>ajJ s.h t.h fA fA2 fn fn2 fc fc2 W (HS.i.f.go hb) (HT.i.f.go hb) (kV HS.i.nf) (kV HT.i.nf));rw[hK2]at P2;rw[hK3]at P3;clear h k hK1 hK2 hK3 hJ;subst hW1;go_enter Tryz.func18,Tryz.ntmps18;go_wp2_with fail
 (with_reducible refine P1.i.e ?_)
 rintro e w1 ⟨rfl,hb1⟩;have HB1:=ab (fJ HB0.i hb1);have B1:=ab (B0.i.go hb1);have C1:=ab (C0.i.go hb1);clear hb1 x1 x2 x3 x4 hl0 y1 y2 y3 y4 hl1;obtain⟨x1,x2,x3,x4⟩:=B1.i.J;have hl0:=B1.i.lt;obtain⟨y1,y2,y3,y4⟩:=C1.i.J;have hl1:=C1.i.lt;cases K1
 ·go_wp2
  go_ret;exact⟨by rw[HJ.i];rfl,HB1.i⟩
 go_wp2_with fail
 (with_reducible refine(P2.i _ HB1.i).e ?_)
 rintro e w2 ⟨rfl,hb2⟩;have HB2:=ab (fJ HB1.i hb2);have B2:=ab (B1.i.go hb2);have C2:=ab (C1.i.go hb2);clear hb2 x1 x2 x3 x4 hl0 y1 y2 y3 y4 hl1;obtain⟨x1,x2,x3,x4⟩:=B2.i.J;have hl0:=B2.i.lt;obtain⟨y1,y2,y3,y4⟩:=C2.i.J;have hl1:=C2.i.lt;cases K2
 ·go_wp2
  go_ret;exact⟨by rw[HJ.i];rfl,HB2.i⟩
 go_wp2_with fail
 (with_reducible refine(P3.i _ HB2.i).e ?_)
 rintro e w3 ⟨rfl,hb3⟩;have HB3:=ab (fJ HB2.i hb3);have B3:=ab (B2.i.go hb3);have C3:=ab (C2.i.go hb3);clear hb3 x1 x2 x3 x4 hl0 y1 y2 y3 y4 hl1;obtain⟨x1,x2,x3,x4⟩:=B3.i.J;have hl0:=B3.i.lt;obtain⟨y1,y2,y3,y4⟩:=C3.i.J;have hl1:=C3.i.lt;cases K3
 ·go_wp2
  go_ret;exact⟨by rw[HJ.i];rfl,HB3.i⟩
 obtain⟨K4,hK4⟩:∃K,(s.fK==t.fK)=K:=⟨_,rfl⟩
 have HK4:=ab hK4;cases K4
 ·go_wp2
  go_ret;exact⟨by rw[HJ.i,HK4.i];rfl,HB3.i⟩
 obtain⟨K5,hK5⟩:∃K,(s.no==t.no)=K:=⟨_,rfl⟩
 have HK5:=ab hK5;cases K5
 ·go_wp2
  go_ret;exact⟨by rw[HJ.i,HK4.i,HK5.i];rfl,HB3.i⟩
 go_wp2;go_ret;exact⟨by rw[HJ.i,HK4.i,HK5.i];rfl,HB3.i⟩
theorem aqs(l m:List Hl)(A B:Option aT)(n k c d:Nat)(w:ak)(hR:RdH w w.a.j A n l)(hT:RdH w w.a.j B k m)(hn:n<=4611686018427387904)(hk:k<=4611686018427387904):
 aP ah 54 #[.a A n c,.a B k d] w (fT w (.e (decide (l=m)))):=by
 have HR:=ab hR;have HT:=ab hT;have HN:=ab hR.1;have HK:=ab hT.1;clear hR hT;by_cases hlm:n=k;rotate_left
 ·have hne:((n:Int) != (k:Int))=true:=by rw[bne_iff_ne];omega
  have HF:=ab (show decide (l=m)=false from decide_eq_false (fun e=>hlm (by rw[<-HN.i,<-HK.i,e])));clear hlm;go_enter Tryz.func54,Tryz.ntmps54;go_wp2;go_ret;exact⟨by rw[HF.i];rfl,aG _ _⟩
 subst hlm;have hbn:((n:Int) != (n:Int))=false:=by simp
 go_enter Tryz.func54,Tryz.ntmps54;go_wp2;go_loopw [13] (fun s5 wr=>∃i:Nat,i<=n/\s5=.b .a i/\l.d i=m.d i/\aL w.a.j w wr) (fun s5 _=>n-(intOf s5).g)
 case atStart=>exact⟨0,by omega,rfl,rfl,aG _ _⟩
 case round=>
  obtain⟨i,hin,rfl,hall,hb⟩:=hrel;have HA:=ab hall;have HB:=ab hb;clear hall hb;by_cases hlt:i<n
  ·have hi:(i:Int)<n:=by omega
   obtain⟨b,o,rfl,hbb,hh,hc,_,_⟩:=(HR.i.M HB.i).hl hlt;obtain⟨b2,o2,rfl,NR,hh2,hc2,_,_⟩:=(HT.i.M HB.i).hl hlt;obtain⟨x,hx⟩:=bZ (l.b i kQ);obtain⟨y,hy⟩:=bZ (m.b i kQ);rw[<-hx]at hc;rw[<-hy]at hc2;have HX:=ab hx;have HY:=ab hy;clear hx hy hbb NR;by_cases hq:x=y
   ·have he:acO x y=true:=by rw[Us];simpa using hq
    have HS:=ab (show l.d (i+1)=m.d (i+1)by
     rw[<-lY kQ l i (by rw[HN.i];exact hlt),<-lY kQ m i (by rw[HK.i];exact hlt),HA.i,<-HX.i,<-HY.i,hq])
    clear hq;go_wp2;go_quiet (fail);go_wp2;go_roundw
    case rel=>exact⟨i+1,by omega,by go_num,HS.i,eH HB.i _⟩
    case measure=>simp[intOf]<;>omega
   ·have he:acO x y=false:=by rw[Us];simpa using hq
    have HF:=ab (show decide (l=m)=false from decide_eq_false (fun e=>hq (by rw[HX.i,HY.i,e])));clear hq;go_wp2;go_quiet (fail);go_wp2;go_ret;exact⟨by rw[HF.i];rfl,eH HB.i _⟩
  ·obtain rfl:i=n:=by omega
   have hd:decide ((i:Int)<i)=false:=by simp
   have HT2:=ab (show decide (l=m)=true from decide_eq_true (by
    have:=HA.i
    rwa [aJ (by rw[HN.i];omega),aJ (by rw[HK.i];omega)]at this))
   go_wp2;go_ret;exact⟨by rw[HT2.i];rfl,HB.i⟩
theorem aqt(l m:List Fw)(A B:Option aT)(n k c d:Nat)(w:ak)(hR:iE Fw.ay 41 w w.a.j A n l)(hT:iE Fw.ay 41 w w.a.j B k m)(hn:n<=4611686018427387904)(hk:k<=4611686018427387904):
 aP ah 55 #[.a A n c,.a B k d] w (fT w (.e (decide (l=m)))):=by
 have HR:=ab hR;have HT:=ab hT;have HN:=ab hR.1;have HK:=ab hT.1;clear hR hT;by_cases hlm:n=k;rotate_left
 ·have hne:((n:Int) != (k:Int))=true:=by rw[bne_iff_ne];omega
  have HF:=ab (show decide (l=m)=false from decide_eq_false (fun e=>hlm (by rw[<-HN.i,<-HK.i,e])));clear hlm;go_enter Tryz.func55,Tryz.ntmps55;go_wp2;go_ret;exact⟨by rw[HF.i];rfl,aG _ _⟩
 subst hlm;have hbn:((n:Int) != (n:Int))=false:=by simp
 go_enter Tryz.func55,Tryz.ntmps55;go_wp2;go_loopw [13] (fun s5 wr=>∃i:Nat,i<=n/\s5=.b .a i/\l.d i=m.d i/\aL w.a.j w wr) (fun s5 _=>n-(intOf s5).g)
 case atStart=>exact⟨0,by omega,rfl,rfl,aG _ _⟩
 case round=>
  obtain⟨i,hin,rfl,hall,hb⟩:=hrel;have HA:=ab hall;have HB:=ab hb;clear hall hb;by_cases hlt:i<n
  ·have hi:(i:Int)<n:=by omega
   obtain⟨b,o,rfl,hbb,hh,hc⟩:=iE.fw (HR.i.M HB.i) hlt;obtain⟨b2,o2,rfl,NR,hh2,hc2⟩:=iE.fw (HT.i.M HB.i) hlt;obtain⟨x,hx⟩:=bZ (l.b i jw);obtain⟨y,hy⟩:=bZ (m.b i jw);rw[<-hx]at hc;rw[<-hy]at hc2;have HX:=ab hx;have HY:=ab hy;clear hx hy hbb NR;by_cases hq:x=y
   ·have he:decide (x=y)=true:=by simpa using hq
    have HS:=ab (show l.d (i+1)=m.d (i+1)by
     rw[<-lY jw l i (by rw[HN.i];exact hlt),<-lY jw m i (by rw[HK.i];exact hlt),HA.i,<-HX.i,<-HY.i,hq])
    clear hq;go_wp2;go_quiet (fail);go_wp2;go_roundw
    case rel=>exact⟨i+1,by omega,by go_num,HS.i,eH HB.i _⟩
    case measure=>simp[intOf]<;>omega
   ·have he:decide (x=y)=false:=by simpa using hq
    have HF:=ab (show decide (l=m)=false from decide_eq_false (fun e=>hq (by rw[HX.i,HY.i,e])));clear hq;go_wp2;go_quiet (fail);go_wp2;go_ret;exact⟨by rw[HF.i];rfl,eH HB.i _⟩
  ·obtain rfl:i=n:=by omega
   have hd:decide ((i:Int)<i)=false:=by simp
   have HT2:=ab (show decide (l=m)=true from decide_eq_true (by
    have:=HA.i
    rwa [aJ (by rw[HN.i];omega),aJ (by rw[HK.i];omega)]at this))
   go_wp2;go_ret;exact⟨by rw[HT2.i];rfl,HB.i⟩
theorem ajL(l m:List Bk)(hf:∀x∈l,x.oQ)(hg:∀x∈m,x.oQ)(v v':Int)(A B:Option aT)(n n' c d:Nat)(w:ak)(hR:iE Bk.ay 27 w w.a.j A n l)(hT:iE Bk.ay 27 w w.a.j B n' m)(hn:n<=4611686018427387903)(hm:n'<=4611686018427387903)(K:Bool)(hK:Cg v l v' m=K):
 aP ah 53 #[.d #[.b .a v,.a A n c],.d #[.b .a v',.a B n' d]] w (fT w (.e K)):=by
 rw[<-ajd v v' hf hg]at hK;subst hK;obtain rfl:=hR.1;obtain rfl:=hT.1;exact aaJ l m v v' A B c d w hR hT (by omega) (by omega)
theorem JJ(s:rE):Wm s s=true:=by unfold Wm;simp[afI]
theorem MQ(x y:Sh)(s t:rE)(w:ak)(h:StR w w.a.j x s)(k:StR w w.a.j y t)(J:Bool)(hJ:Wm s t=J):
 aP ah 17 #[.d x.ay,.d y.ay] w (fT w (.e J)):=by
 obtain⟨v1,⟨bA,bn,bc⟩,⟨gA,gn,gc⟩,⟨fA,fn,fc⟩,tk,nn,ct⟩:=x;obtain⟨v2,⟨bA2,bn2,bc2⟩,⟨gA2,gn2,gc2⟩,⟨fA2,fn2,fc2⟩,tk2,nn2,ct2⟩:=y;obtain rfl:v1=s.lD:=h.lD;obtain rfl:tk=s.fK:=h.fK;obtain rfl:nn=s.no:=h.no;obtain rfl:ct=s.S:=h.S;obtain rfl:v2=t.lD:=k.lD;obtain rfl:tk2=t.fK:=k.fK;obtain rfl:nn2=t.no:=k.no;obtain rfl:ct2=t.S:=k.S;obtain⟨W1,hW1⟩:=bZ ((w.alloc (.D (Sh.mk s.lD ⟨bA,bn,bc⟩ ⟨gA,gn,gc⟩ ⟨fA,fn,fc⟩ s.fK s.no s.S).ay 37)).alloc (.D (Sh.mk t.lD ⟨bA2,bn2,bc2⟩ ⟨gA2,gn2,gc2⟩ ⟨fA2,fn2,fc2⟩ t.fK t.no t.S).ay 37));have HB0:=ab (show aL w.a.j w W1 by rw[hW1];exact((aG w.a.j w).alloc (av _) _).alloc (by simp) _);have B0:=ab (show dM W1 w.a.j (Sh.mk s.lD ⟨bA,bn,bc⟩ ⟨gA,gn,gc⟩ ⟨fA,fn,fc⟩ s.fK s.no s.S).ay by rw[hW1];exact(dM.new w _ _).alloc _);have C0:=ab (show dM W1 (w.a.j+1) (Sh.mk t.lD ⟨bA2,bn2,bc2⟩ ⟨gA2,gn2,gc2⟩ ⟨fA2,fn2,fc2⟩ t.fK t.no t.S).ay by rw[hW1];exact dM.TJ w _ _ _);have HS:=ab h;have HT:=ab k;obtain⟨x1,x2,x3,x4⟩:=B0.i.J;have hl0:=B0.i.lt;obtain⟨y1,y2,y3,y4⟩:=C0.i.J;have hl1:=C0.i.lt;obtain⟨K1,hK1⟩:∃K,Cg s.lD s.qO t.lD t.qO=K:=⟨_,rfl⟩
 obtain⟨K2,hK2⟩:∃K,decide (s.r=t.r)=K:=⟨_,rfl⟩
 obtain⟨K3,hK3⟩:∃K,decide (s.h=t.h)=K:=⟨_,rfl⟩
 have HJ:=ab (show J=(K1&&K2&&K3&&(s.fK==t.fK)&&(s.no==t.no)&&decide (s.S=t.S))by rw[<-hJ,<-hK1,<-hK2,<-hK3];rfl);have P1:=ab (ajL s.qO t.qO h.oQ k.oQ s.lD t.lD bA bA2 bn bn2 bc bc2 W1 ((h.go HB0.i).b) ((k.go HB0.i).b) h.nb k.nb K1 hK1);have P2:=ab (fun W (hb:aL w.a.j w W)=>aqs s.r t.r gA gA2 gn gn2 gc gc2 W (HS.i.h.go hb) (HT.i.h.go hb) (kV HS.i.nh) (kV HT.i.nh));have P3:=ab (fun W (hb:aL w.a.j w W)=>aqt s.h t.h fA fA2 fn fn2 fc fc2 W (HS.i.f.go hb) (HT.i.f.go hb) (kV HS.i.nf) (kV HT.i.nf));rw[hK2]at P2;rw[hK3]at P3;clear h k hK1 hK2 hK3 hJ;subst hW1;go_enter Tryz.func17,Tryz.ntmps17;go_wp2_with fail
 (with_reducible refine P1.i.e ?_)
 rintro e w1 ⟨rfl,hb1⟩;have HB1:=ab (fJ HB0.i hb1);have B1:=ab (B0.i.go hb1);have C1:=ab (C0.i.go hb1);clear hb1 x1 x2 x3 x4 hl0 y1 y2 y3 y4 hl1;obtain⟨x1,x2,x3,x4⟩:=B1.i.J;have hl0:=B1.i.lt;obtain⟨y1,y2,y3,y4⟩:=C1.i.J;have hl1:=C1.i.lt;cases K1
 ·go_wp2
  go_ret;exact⟨by rw[HJ.i];rfl,HB1.i⟩
 go_wp2_with fail
 (with_reducible refine(P2.i _ HB1.i).e ?_)
 rintro e w2 ⟨rfl,hb2⟩;have HB2:=ab (fJ HB1.i hb2);have B2:=ab (B1.i.go hb2);have C2:=ab (C1.i.go hb2);clear hb2 x1 x2 x3 x4 hl0 y1 y2 y3 y4 hl1;obtain⟨x1,x2,x3,x4⟩:=B2.i.J;have hl0:=B2.i.lt;obtain⟨y1,y2,y3,y4⟩:=C2.i.J;have hl1:=C2.i.lt;cases K2
 ·go_wp2
  go_ret;exact⟨by rw[HJ.i];rfl,HB2.i⟩
 go_wp2_with fail
 (with_reducible refine(P3.i _ HB2.i).e ?_)
 rintro e w3 ⟨rfl,hb3⟩;have HB3:=ab (fJ HB2.i hb3);have B3:=ab (B2.i.go hb3);have C3:=ab (C2.i.go hb3);clear hb3 x1 x2 x3 x4 hl0 y1 y2 y3 y4 hl1;obtain⟨x1,x2,x3,x4⟩:=B3.i.J;have hl0:=B3.i.lt;obtain⟨y1,y2,y3,y4⟩:=C3.i.J;have hl1:=C3.i.lt;cases K3
 ·go_wp2
  go_ret;exact⟨by rw[HJ.i];rfl,HB3.i⟩
 obtain⟨K4,hK4⟩:∃K,(s.fK==t.fK)=K:=⟨_,rfl⟩
 have HK4:=ab hK4;cases K4
 ·go_wp2
  go_ret;exact⟨by rw[HJ.i,HK4.i];rfl,HB3.i⟩
 obtain⟨K5,hK5⟩:∃K,(s.no==t.no)=K:=⟨_,rfl⟩
 have HK5:=ab hK5;cases K5
 ·go_wp2
  go_ret;exact⟨by rw[HJ.i,HK4.i,HK5.i];rfl,HB3.i⟩
 go_wp2;go_ret;exact⟨by rw[HJ.i,HK4.i,HK5.i];rfl,HB3.i⟩
section
theorem aqu{a b:Tu}(ha:Zh a)(hb:Zh b)(h:GH a=GH b):a=b:=by
 have h1:=amU.fwd a [] ha;have h2:=amU.fwd b [] hb;rw[h,h2]at h1;injection h1 with h3 h4
 injection h3 with h5 h6
 exact h5.symm
theorem wW{f:Fw}(h:AY f=true):Ev f.key=true:=by
 unfold AY at h;simp only[bf]at h;exact h.1.1.1.1.1
def kG(a b:Fw):Bool:=if a.no=b.no then bI (GH a.key) (GH b.key)else decide (a.no<b.no)
theorem ug:Jw kG:=by
 refine⟨fun x=>by simp[kG,rX],fun x y z h1 h2=>?_⟩;unfold kG at *;by_cases e1:x.no=y.no
 ·rw[if_pos e1]at h1
  by_cases e2:y.no=z.no
  ·rw[if_pos e2]at h2
   rw[if_pos (e1.trans e2)];exact yC _ _ _ h1 h2
  ·rw[if_neg e2]at h2
   rw[if_neg (by omega)];simp only[decide_eq_true_eq]at h2 ⊢;omega
 ·rw[if_neg e1]at h1
  simp only[decide_eq_true_eq]at h1;by_cases e2:y.no=z.no
  ·rw[if_neg (by omega)]
   simp only[decide_eq_true_eq];omega
  ·rw[if_neg e2]at h2
   simp only[decide_eq_true_eq]at h2;rw[if_neg (by omega)];simp only[decide_eq_true_eq];omega
theorem Sz{a b:Fw}(ha:Zh a.key)(hb:Zh b.key)(hne:a.key≠b.key):kG a b=true\/kG b a=true:=by
 unfold kG;by_cases e:a.no=b.no
 ·rw[if_pos e,if_pos e.symm]
  cases h1:bI (GH a.key) (GH b.key)
  ·cases h2:bI (GH b.key) (GH a.key)
   ·exact absurd (aqu ha hb (zX _ _ h1 h2)) hne
   ·exact .b rfl
  ·exact .a rfl
 ·rw[if_neg e,if_neg (jB e)]
  simp only[decide_eq_true_eq];omega
def tq(k:Tu)(x:Fw):Bool:=decide (x.key=k)
def qv(l:List Fw)(k:Tu):Option Fw:=l.find? (tq k)
def yX(l:List Fw)(k:Tu):List Fw:=l.filter fun x=>!tq k x
def Ez(dS:Int)(l:List Fw)(f:Fw):List Fw:=
 if AY f then(if(qv l f.key).isSome then ins kG f (yX l f.key)else if dS<=l.a then ins kG f l.tail else ins kG f l)else l
def MS(now:Int)(kH:Vector Int 6)(l:List Fw):List Fw:=l.filter fun x=>!Ew x.vV x.seen now kH
structure wP(dS:Int)(l:List Fw):Prop where
 asc:Asc kG l
 one:l.Pairwise fun x y=>x.key≠y.key
 Y:∀x∈l,AY x=true
 len:(l.a:Int)<=dS
theorem wP.sub{dS:Int}{l m:List Fw}(h:wP dS l)(hs:m.Sublist l):wP dS m:=
 ⟨h.asc.sub hs,h.one.sublist hs,fun x hx=>h.Y x (hs.subset hx),by have:=hs.length_le;have:=h.len;omega⟩
theorem wP.nil{dS:Int}(h:0<=dS):wP dS []:=⟨List.Pairwise.nil,.nil,(fun x hx=>by cases hx),by simpa using h⟩
theorem xP{l:List Fw}{k:Tu}{x:Fw}(h:qv l k=some x):x∈l/\x.key=k:=by
 unfold qv at h;exact⟨List.mem_of_find?_eq_some h,by simpa[tq]using List.find?_some h⟩
theorem BD{l:List Fw}{k:Tu}(h:qv l k=none):∀x∈l,x.key≠k:=by
 unfold qv at h;rw[List.find?_eq_none]at h;intro x hx e;exact h x hx (by simp[tq,e])
theorem wP.Wn{dS:Int}{l:List Fw}(h:wP dS l){x:Fw}(hx:x∈l):qv l x.key=some x:=by
 cases hf:qv l x.key with
 | none=>exact absurd rfl (BD hf x hx)
 | some y=>
   obtain⟨h1,h2⟩:=xP hf;obtain⟨i,hi,e1⟩:=mG.1 h1;obtain⟨j,hj,e2⟩:=mG.1 hx;have:=List.pairwise_iff_getElem.1 h.one;rcases Nat.lt_trichotomy i j with hij|hij|hij
   ·exact absurd (by rw[e1,e2,h2]) (this i j hi hj hij)
   ·subst hij;rw[<-e1,<-e2]
   ·exact absurd (by rw[e1,e2,h2]) (this j i hj hi hij)
theorem wP.ins{dS:Int}{l:List Fw}(h:wP dS l){f:Fw}(hf:AY f=true)(hn:∀x∈l,x.key≠f.key)(hl:(l.a:Int)+1<=dS):wP dS (ins kG f l):=by
 have p:=Cj (lt:=kG) f l;refine⟨ahC ug h.asc (fun x hx=>Sz (OG (wW hf)) (OG (wW (h.Y x hx))) (jB (hn x hx))),?_,?_,?_⟩
 ·refine(p.pairwise_iff (fun{a b} (hab:a.key≠b.key)=>jB hab)).2 (gT.2 ⟨fun x hx=>jB (hn x hx),h.one⟩)
 ·intro x hx
  rcases bB.1 (p.subset hx)with rfl|hx
  ·exact hf
  ·exact h.Y x hx
 ·rw[p.t,bD]
  simpa using hl
theorem abv(l:List Fw)(k:Tu):(yX l k).Sublist l:=List.filter_sublist
theorem auB{l:List Fw}{k:Tu}:∀x∈yX l k,x.key≠k:=by
 intro x hx;have:=(mK.1 hx).2;simpa[tq]using this
theorem aqv{l:List Fw}{k:Tu}(h:(qv l k).isSome=true):(yX l k).a+1<=l.a:=by
 obtain⟨x,hx⟩:=Option.isSome_iff_exists.1 h;obtain⟨h1,h2⟩:=xP hx;have:=List.length_filter_lt_length_iff_exists (l:=l) (p:=fun x=>!tq k x);exact this.2 ⟨x,h1,by simp[tq,h2]⟩
theorem wP.put{dS:Int}{l:List Fw}(h:wP dS l)(h0:1<=dS)(f:Fw):wP dS (Ez dS l f):=by
 unfold Ez;split
 ·rename_i hf
  split
  ·rename_i hs
   have:=aqv hs;have:=h.len;exact(h.sub (abv l f.key)).ins hf auB (by omega)
  ·rename_i hs
   have hno:∀x∈l,x.key≠f.key:=BD (by simpa using hs);split
   ·refine(h.sub (List.tail_sublist l)).ins hf (fun x hx=>hno x (List.mem_of_mem_tail hx)) ?_
    have:=h.len;rw[List.length_tail];omega
   ·exact h.ins hf hno (by omega)
 ·exact h
theorem wP.ayL{dS:Int}{l:List Fw}(h:wP dS l)(now:Int)(kH:Vector Int 6):wP dS (MS now kH l):=h.sub List.filter_sublist
structure TbR(hm:Tu->Nat)(s:List (Option Fw))(l:List Fw):Prop where
 tab:Tab Fw.key hm s
 Qx:(iA s).Perm l
variable {hm:Tu->Nat} {s:List (Option Fw)} {l:List Fw}
theorem TbR.mem(h:TbR hm s l){x:Fw}:x∈l↔∃i,i<s.a/\fH s i=some x:=(h.Qx.mem_iff.symm).trans Qw
theorem TbR.stop{dS:Int}(h:TbR hm s l)(ho:wP dS l){k:Tu}{d:Nat}(hd:Found hm Fw.key s k d):fH s ((hm k+d)%s.a)=qv l k:=by
 have hN:0<s.a:=by have:=hd.1;omega
 cases hf:qv l k with
 | none=>
   have hno:=BD hf;obtain⟨e,he,h1⟩:=h.tab.ahB (k:=k) (fun j x hj hx=>hno x (h.mem.2 ⟨j,hj,hx⟩));rw[hd.IL he];exact h1
 | some x=>
   obtain⟨h1,h2⟩:=xP hf;obtain⟨j,hj,hx⟩:=h.mem.1 h1;obtain⟨e,he,h3⟩:=h.tab.aaS hj hx h2;rw[hd.IL he,h3];exact hx
theorem TbR.new{N:Nat}(hN:0<N)(h:∀k,hm k<N):TbR hm (dY N none) []:=⟨Tab.new hN h,by rw[Vt]⟩
theorem Wo{dS:Int}(ho:wP dS l){x:Fw}(hx:x∈l){m:List Fw}(hm':l.Perm (x::m)):m.Perm (yX l x.key):=by
 have h1:(l.filter fun y=>!tq x.key y).Perm ((x::m).filter fun y=>!tq x.key y):=hm'.filter _;have e:(x::m).filter (fun y=>!tq x.key y)=m:=by
  rw[List.filter_cons_of_neg (by simp[tq])];refine wZ.2 (fun y hy=>?_);have:=(hm'.pairwise_iff (fun{a b:Fw} (hab:a.key≠b.key)=>jB hab)).1 ho.one;have:=(gT.1 this).1 y hy;simp[tq,jB this]
 rw[e]at h1;exact h1.symm
theorem TbR.put{dS:Int}(h:TbR hm s l)(ho:wP dS l){f:Fw}{d:Nat}(hd:Found hm Fw.key s f.key d)(hl:l.a+1<s.a)(m:List Fw)(hm':m.Perm (f::yX l f.key)):TbR hm (s.set ((hm f.key+d)%s.a) (some f)) m:=by
 have hN:0<s.a:=by omega
 have hj:(hm f.key+d)%s.a<s.a:=Nat.mod_lt _ hN;have hst:=h.stop ho hd;have hfull:=fun hlt=>(ME s).1 hlt
 have hel:=h.Qx.t;cases hf:qv l f.key with
 | none=>
   rw[hf]at hst;have hc:yX l f.key=l:=wZ.2 (fun x hx=>by have:=BD hf x hx;simp[tq,this]);have he:=MC s _ f hj hst;obtain⟨z,hz1,hz2⟩:=(ME (s.set ((hm f.key+d)%s.a) (some f))).1 (by rw[he.t];simp;omega);rw[GK _ _ _ _ hj]at hz2;split at hz2
   ·cases hz2
   rename_i hne;refine⟨h.tab.put hd (by simpa using hz1) hz2 (jB hne),he.trans (((h.Qx.cons f)).trans ?_)⟩;rw[hc]at hm';exact hm'.symm
 | some x=>
   rw[hf]at hst;obtain⟨h1,h2⟩:=xP hf;obtain⟨z,hz1,hz2⟩:=hfull (by omega);refine⟨h.tab.put hd hz1 hz2 (fun e=>by rw[e,hst]at hz2;cases hz2),?_⟩;have e1:=zH s _ f hj;have e2:=Qv s _ x hj hst;have e3:=Wo ho h1 (h.Qx.symm.trans e2);rw[h2]at e3;exact e1.trans ((e3.cons f).trans hm'.symm)
theorem ajM{dS:Int}(h:TbR hm s l)(ho:wP dS l):(iA s).foldl (least kG) none=l.head?:=by
 cases l with
 | nil=>
   have:=h.Qx.t;rw[gP]at this;rw[List.eq_nil_of_length_eq_zero this];rfl
 | cons m t=>
   rw[List.head?_cons];refine adr ug (iA s) none (.a (h.Qx.symm.subset (by simp))) (fun x hx=>?_) (fun y hy=>by cases hy);rcases bB.1 (h.Qx.subset hx)with rfl|hx
   ·exact .a rfl
   ·exact .b (ho.asc.apK hx)
theorem amY{dS:Int}{x:Fw}{t:List Fw}(ho:wP dS (x::t)):yX (x::t) x.key=t:=by
 unfold yX;rw[List.filter_cons_of_neg (by simp[tq])];refine wZ.2 (fun y hy=>?_);have:=(gT.1 ho.one).1 y hy;simp[tq,jB this]
end
structure pK(T:bE)(n:Nat)(z:Array aB):Prop where
 row:∃d,ah.k T=some d/\d.isRow=true
 j:(ah.l T).map (·.j)=some n
 zero:(ah.l T).map (·.zero)=some (some (.d z))
 zs:z.j=n
def yY(T:bE)(v:aB):xI aB:=cK T v
def zQ(T:bE)(v x:aB):xI Unit:=eU T v x
def uW(T:bE)(ps:Array (Nat×aB)):xI aB:=fQ T ps
def gX(W:ak)(b o:Nat)(c:Array aB):ak:=W.setCells b o c.a
section
variable {T:bE} {n:Nat} {z:Array aB}
theorem pK.ags(K:pK T n z):∃i,ah.l T=some i/\i.j=n/\i.zero=some (.d z):=by
 have h1:=K.j;have h2:=K.zero;cases h:ah.l T with
 | none=>rw[h]at h1;cases h1
 | some i=>rw[h]at h1 h2;simp at h1 h2;exact⟨i,rfl,h1,h2⟩
theorem pK.ld(K:pK T n z)(W:ak)(b o:Nat)(h:vK W b o n):(yY T (.c (some ⟨b,o,none⟩))).G ah W = .Y (.d (dO W b o n)) W:=by
 obtain⟨d,h1,h2⟩:=K.row;exact jZ W b o n T d h1 h2 K.j h
theorem pK.stN(K:pK T n z)(W:ak)(c x:Array aB)(b:Nat)(hb:b=W.a.j)(hc:eB c=n)(hx:x.j=n)(h1:x.all (·.h)=true):(zQ T (.c (some ⟨b,0,none⟩)) (.d x)).G ah (W.alloc (.D c T)) = .Y () (W.alloc (.D x T)):=by
 subst hb;exact zA W _ c x (by rw[hx];exact K.j) (by rw[hx];exact hc) h1
theorem pK.st(K:pK T n z)(W:ak)(b o:Nat)(x:Array aB)(h:W.K b o n)(hx:x.j=n)(h1:x.all (·.h)=true):(zQ T (.c (some ⟨b,o,none⟩)) (.d x)).G ah W = .Y () (gX W b o x):=
 EO W b o _ x (by rw[hx];exact h) (by rw[hx];exact K.j) h1
theorem pK.bd(K:pK T n z)(W:ak)(ps:Array (Nat×aB))(cells:Array aB)(fs:Array oh)(places:Array (Nat×Nat))(hu:ah.k T=some (.d fs))
 (hp:(iF (fun f=>Prod.mk f.X <$> sizeOf f.p) fs:xI (Array (Nat×Nat))).G ah W = .Y places W) (hf:fD (places[·]?) z ps.a=some cells):(uW T ps).G ah W = .Y (.d cells) W:=by
 obtain⟨i,h1,h2,h3⟩:=K.ags;exact Qj W T fs i z ps cells places hu h1 h3 hp hf
end
theorem lI{w W:ak}{B:Nat}(h:aL B w W)(b o:Nat)(x:Array aB)(hb:B<=b):aL B w (gX W b o x):=yg hb _ o W h
theorem mo{w W:ak}{g:Nat}(h:w.d W (some g))(o:Nat)(x:Array aB):w.d (gX W g o x) (some g):=U6 _ o W h
theorem dM.put{W:ak}{b:Nat}{c:Array aB}(h:dM W b c)(x:Array aB)(hx:x.j=c.j):dM (gX W b 0 x) b x:=h.alr x hx
theorem dM.gK{W:ak}{b b2 o:Nat}{c x:Array aB}(h:dM W b c)(hne:b≠b2):dM (gX W b2 o x) b c:=by
 have:∀(vs:List aB)(o:Nat)(W:ak),dM W b c->dM (W.setCells b2 o vs) b c:=by
  intro vs
  induction vs with
  | nil=>exact fun _ _ h=>h
  | cons v vs ih=>intro o W h;exact ih (o+1) _ (h.dP _ v (fun e=>hne e.symm))
 exact this _ _ _ h
def r9(place:Nat->Option (Nat×Nat)):Nat->List (Nat×aB)->Nat->Prop
 | off,[],n=>off=n
 | off,(i,v)::ps,n=>place i=some (off,v.D.j)/\r9 place (off+v.D.j) ps n
def rF:List (Nat×aB)->Array aB
 | []=>#[]
 | (_,v)::ps=>v.D++rF ps
theorem Wp(p r v:Array aB)(h:v.j<=r.j):sV (p++r) p.j v=(p++v)++r.m v.j r.j:=by
 apply dZ;intro j;rw[EU];simp only[ou,aD,Array.getElem?_extract];split
 ·rename_i h1
  rw[if_pos (by omega),if_neg (by omega)]
 ·rename_i h1
  split
  ·rename_i h2
   rw[if_pos (by omega)]
  ·rename_i h2
   by_cases h3:j<p.j+v.j
   ·omega
   ·rw[if_neg h3]
    by_cases h4:j-p.j<r.j
    ·rw[if_pos (by omega)];congr 1;omega
    ·rw[if_neg (by omega),aU (by omega)]
theorem UE(place:Nat->Option (Nat×Nat)):∀(ps:List (Nat×aB))(p r:Array aB),r9 place p.j ps (p.j+r.j)->fD place (p++r) ps=some (p++rF ps)
 | [],p,r,h=>by
   have:r = #[]:=Array.eq_empty_of_size_eq_zero (by have h':p.j=p.j+r.j:=h;omega);subst this;simp[fD,rF]
 | (i,v)::ps,p,r,h=>by
   obtain⟨h1,h2⟩:=h;have hle:∀(ps:List (Nat×aB))(a b:Nat),r9 place a ps b->a<=b:=by
    intro ps
    induction ps with
    | nil=>intro a b h;exact aX h
    | cons q ps ih=>intro a b h;have:=ih _ _ h.2;omega
   have hl:=hle _ _ _ h2;rw[EX place _ i p.j v.D.j v ps h1 rfl (by rw[ou];omega),Wp p r v.D (by omega)];have:=UE place ps (p++v.D) (r.m v.D.j r.j) (by
    rw[ou,jJ]
    rwa [show p.j+v.D.j+(min r.j r.j-v.D.j)=p.j+r.j by omega])
   rw[this,rF,gD]
theorem vo{place:Nat->Option (Nat×Nat)}{ps:List (Nat×aB)}{z c:Array aB}{n:Nat}(hz:z.j=n)(h:r9 place 0 ps n)(hc:rF ps=c):fD place z ps=some c:=by
 have:=UE place ps #[] z (by simpa[hz]using h);simpa[hc]using this
theorem pK.bd0{T:bE}{n:Nat}{z:Array aB}(K:pK T n z)(W:ak)(fs:Array oh)(hu:ah.k T=some (.d fs))(hp:∃places,(iF (fun f=>Prod.mk f.X <$> sizeOf f.p) fs:xI (Array (Nat×Nat))).G ah W = .Y places W):(uW T #[]).G ah W = .Y (.d z) W:=by
 obtain⟨places,hp⟩:=hp;exact K.bd W _ _ fs places hu hp (by simp[fD])
theorem qB{c:Array aB}{n:Nat}(h:c.j=n):c.m 0 n=c:=by rw[<-h];simp
theorem uw{c:Array aB}{k m:Nat}(h:c.j<=k):c.m k m = #[]:=by apply Array.eq_empty_of_size_eq_zero;simp;omega
def Bl(v:Vector UInt8 6):Array aB:=(v.a.map bv).c
def jc(v:Vector UInt8 16):Array aB:=(v.a.map bv).c
theorem gN(v:Vector UInt8 6):(Bl v).j=6:=by simp[Bl]
theorem dN(v:Vector UInt8 16):(jc v).j=16:=by simp[jc]
theorem jN(v:Vector Int 6):(Lj v).j=6:=by simp[Lj]
theorem abw(v:Vector UInt8 6):(Bl v).all (·.h)=true:=by simp[Bl];intro x _;rfl
theorem aqw(v:Vector Int 6):(Lj v).all (·.h)=true:=by simp[Lj];intro x _;rfl
@[go_sem]theorem asL:eO #[bT false,aA,aA,aA,aA,aA,aA,aA,aA,aA,aA,aA,aA,aA,aA,aA,aA] 27=eO nM.ay 27:=rfl
@[go_sem]theorem axi:cB #[bT false,aA,aA,aA,aA,aA,aA,aA,aA,aA,aA,aA,aA,aA,aA,aA,aA]=cB nM.ay:=rfl
theorem abx:pK 27 17 nM.ay:=⟨⟨_,fB,rfl⟩,by kernel_rfl,by kernel_rfl,fC.r _⟩
theorem kTu:pK 81 37 afA.ay:=⟨⟨_,jI,rfl⟩,by kernel_rfl,by kernel_rfl,Tu.r _⟩
@[go_sem ↓]theorem aG0(v x:aB):eU 27 v x=zQ 27 v x:=rfl
@[go_sem]theorem aBG(W:ak)(c:Array aB)(x:fC)(b:Nat)(hb:b=W.a.j)(hc:eB c=17):(zQ 27 (.c (some ⟨b,0,none⟩)) (.d x.ay)).G ah (W.alloc (.D c 27)) = .Y () (W.alloc (.D x.ay 27)):=abx.stN W c x.ay b hb hc (fC.r x) (fC.dw x)
@[go_sem]theorem aDK(W:ak)(b o:Nat)(x:fC)(h:W.K b o 17):(zQ 27 (.c (some ⟨b,o,none⟩)) (.d x.ay)).G ah W = .Y () (gX W b o x.ay):=abx.st W b o x.ay h (fC.r x) (fC.dw x)
@[go_sem]theorem fC.all(x:fC):x.ay.m 0 17=x.ay:=qB (fC.r x)
theorem asM(x:aB)(b:Array aB)(j:Nat):(#[x]++b)[j+1]? = b[j]?:=by simp[aD]
section
variable {T:bE} {n:Nat} {z:Array aB} {fn:Func} {p u:Tmp} {W:ak} {b:Nat} {c:Array aB}
theorem pK.zI(K:pK T n z)(h:fn.results = #[.cell p T])(tmps:Array aB)(hp:tmps.b p undef=.c (some ⟨b,0,none⟩))(hb:dM W b c)(hc:c.j=n):(results fn tmps).G ah W = .Y (.d c) W:=by
 obtain⟨t,hb⟩:=hb;obtain⟨d,h1,h2⟩:=K.row;exact results_cell_row h tmps W b t c (0,0) d hp hb h1 (by cases d<;>simp_all[TypeDesc.isRow]) (by rw[hc];exact K.j)
theorem pK.qW(K:pK T n z)(h:fn.results = #[.cell p T,.tmp u])(tmps:Array aB)(hp:tmps.b p undef=.c (some ⟨b,0,none⟩))(hb:dM W b c)(hc:c.j=n):(results fn tmps).G ah W = .Y (.I #[.d c,tmps.b u undef]) W:=by
 obtain⟨_,_,h3,h4⟩:=hb.J;have hl:=K.ld W b 0 (by rw[h3 0 n (by unfold eB;omega)];trivial);rw[h4 0 n (by unfold eB;omega),bl,<-hc,Array.extract_size]at hl;unfold yY at hl;simp only[cK,Instr.sureAddr,Sem.run_bind,Sem.run_pure,gQ]at hl;rw[results_cell_tmp h,hp];simp[asAddr,iK,hl]
end
structure Vp where
 h:fC
 aQ:Int
 S:Int
 Wq:Bool
deriving DecidableEq
def Vp.ay(x:Vp):Array aB:=x.h.ay ++ #[.b .a x.aQ,.b .a x.S,.e x.Wq]
theorem Vp.r(x:Vp):x.ay.j=20:=by simp[Vp.ay,fC.r]
theorem Vp.dw(x:Vp):x.ay.all (·.h)=true:=ig (fC.dw _) ((by simp[dx]))
@[go_sem]theorem Vp.eB(x:Vp):eB x.ay=20:=Vp.r x
@[go_sem]theorem Vp.all(x:Vp):x.ay.m 0 20=x.ay:=by have:=Vp.r x;rw[<-this];simp
@[go_sem]theorem Vp.DX(x:Vp):x.ay.m 0 17=x.h.ay:=by simp[Vp.ay,dD,fC.r,qB,uw]
@[go_sem]theorem Vp.Cv(x:Vp):x.ay[17]? = some (.b .a x.aQ):=by simp[Vp.ay,aD,fC.r]
@[go_sem]theorem Vp.KW(x:Vp):x.ay[18]? = some (.b .a x.S):=by simp[Vp.ay,aD,fC.r]
@[go_sem]theorem Vp.ajN(x:Vp):x.ay[19]? = some (.e x.Wq):=by simp[Vp.ay,aD,fC.r]
def oL:Vp:=⟨nM,0,0,false⟩
@[go_sem]theorem ayM:cB #[bT false,aA,aA,aA,aA,aA,aA,aA,aA,aA,aA,aA,aA,aA,aA,aA,aA,bg,bg,bT false]=cB oL.ay:=rfl
@[go_sem]theorem auD:eO #[bT false,aA,aA,aA,aA,aA,aA,aA,aA,aA,aA,aA,aA,aA,aA,aA,aA,bg,bg,bT false] 98=eO oL.ay 98:=rfl
theorem kVp:pK 98 20 oL.ay:=⟨⟨_,sK,rfl⟩,by kernel_rfl,by kernel_rfl,Vp.r _⟩
@[go_sem ↓]theorem aJu(v:aB):cK 98 v=yY 98 v:=rfl
@[go_sem ↓]theorem aJv(v x:aB):eU 98 v x=zQ 98 v x:=rfl
@[go_sem]theorem aG1(W:ak)(b o:Nat)(h:vK W b o 20):(yY 98 (.c (some ⟨b,o,none⟩))).G ah W = .Y (.d (dO W b o 20)) W:=kVp.ld W b o h
@[go_sem]theorem aDL(W:ak)(c:Array aB)(x:Vp)(b:Nat)(hb:b=W.a.j)(hc:eB c=20):(zQ 98 (.c (some ⟨b,0,none⟩)) (.d x.ay)).G ah (W.alloc (.D c 98)) = .Y () (W.alloc (.D x.ay 98)):=kVp.stN W c x.ay b hb hc (Vp.r x) (Vp.dw x)
@[go_sem]theorem aG2(W:ak)(b o:Nat)(x:Vp)(h:W.K b o 20):(zQ 98 (.c (some ⟨b,o,none⟩)) (.d x.ay)).G ah W = .Y () (gX W b o x.ay):=kVp.st W b o x.ay h (Vp.r x) (Vp.dw x)
@[go_sem ↓]theorem aJw(ps:Array (Nat×aB)):fQ 98 ps=uW 98 ps:=rfl
theorem ayN(w:ak)(fs:Array oh)(h:ah.k 98=some (.d fs)):(iF (fun f=>Prod.mk f.X <$> sizeOf f.p) fs:xI (Array (Nat×Nat))).G ah w = .Y #[(0,17),(17,1),(18,1),(19,1)] w:=by
 have e:=sK;rw[h]at e;cases e;show _=_
 kernel_rfl
@[go_sem]theorem aDM(W:ak):(uW 98 #[]).G ah W = .Y (.d oL.ay) W:=kVp.bd0 W _ sK ⟨_,ayN W _ sK⟩
structure Cn where
 qP:Option aT
 iX:Nat
 qZ:Nat
 j:Int
 dS:Int
 kH:Vector Int 6
 kF:Int
 S:Int
 Bw:Vector UInt8 6
 Du:fC
 h:fC
 agt:Int
 keep:Int
 Wr:Int
def Cn.ay(x:Cn):Array aB:=#[.a x.qP x.iX x.qZ,.b .a x.j,.b .a x.dS]++(Lj x.kH++(#[.b .a x.kF,.b .a x.S]++(Bl x.Bw++(x.Du.ay++(x.h.ay ++ #[.b .a x.agt,.b .a x.keep,.b .a x.Wr])))))
theorem Cn.r(x:Cn):x.ay.j=54:=by simp[Cn.ay,fC.r,gN,jN]
theorem Cn.dw(x:Cn):x.ay.all (·.h)=true:=ig ((by simp[dx])) (ig (aqw _) (ig ((by simp[dx])) (ig (abw _) (ig (fC.dw _) (ig (fC.dw _) ((by simp[dx])))))))
@[go_sem]theorem Cn.eB(x:Cn):eB x.ay=54:=Cn.r x
@[go_sem]theorem Cn.all(x:Cn):x.ay.m 0 54=x.ay:=by have:=Cn.r x;rw[<-this];simp
@[go_sem]theorem Cn.KX(x:Cn):x.ay[0]? = some (.a x.qP x.iX x.qZ):=by simp[Cn.ay,aD,fC.r,gN,jN]
@[go_sem]theorem Cn.Hr(x:Cn):x.ay[1]? = some (.b .a x.j):=by simp[Cn.ay,aD,fC.r,gN,jN]
@[go_sem]theorem Cn.OJ(x:Cn):x.ay[2]? = some (.b .a x.dS):=by simp[Cn.ay,aD,fC.r,gN,jN]
@[go_sem]theorem Cn.UF(x:Cn):x.ay.m 3 9=Lj x.kH:=by simp[Cn.ay,dD,fC.r,gN,jN,qB,uw]
@[go_sem]theorem Cn.OL(x:Cn):x.ay[9]? = some (.b .a x.kF):=by simp[Cn.ay,aD,fC.r,gN,jN]
@[go_sem]theorem Cn.OO(x:Cn):x.ay[10]? = some (.b .a x.S):=by simp[Cn.ay,aD,fC.r,gN,jN]
@[go_sem]theorem Cn.agu(x:Cn):x.ay.m 11 17=Bl x.Bw:=by simp[Cn.ay,dD,fC.r,gN,jN,qB,uw]
@[go_sem]theorem Cn.aby(x:Cn):x.ay.m 17 34=x.Du.ay:=by simp[Cn.ay,dD,fC.r,gN,jN,qB,uw]
@[go_sem]theorem Cn.agv(x:Cn):x.ay.m 34 51=x.h.ay:=by simp[Cn.ay,dD,fC.r,gN,jN,qB,uw]
@[go_sem]theorem Cn.aBH(x:Cn):x.ay[51]? = some (.b .a x.agt):=by simp[Cn.ay,aD,fC.r,gN,jN]
@[go_sem]theorem Cn.abz(x:Cn):x.ay[52]? = some (.b .a x.keep):=by simp[Cn.ay,aD,fC.r,gN,jN]
@[go_sem]theorem Cn.ayO(x:Cn):x.ay[53]? = some (.b .a x.Wr):=by simp[Cn.ay,aD,fC.r,gN,jN]
theorem Cn.OP(x:Cn)(A:Option aT)(n c:Nat):x.ay.c 0 (.a A n c)=({x with qP:=A,iX:=n,qZ:=c}:Cn).ay:=by simp[Cn.ay,aM,fC.r,gN,jN]
def Rh:Cn:=⟨none,0,0,0,0,(bJ 6 0),0,0,(bJ 6 0),nM,nM,0,0,0⟩
@[go_sem]theorem ayP:cB #[bC none 0 0,bg,bg,bg,bg,bg,bg,bg,bg,bg,bg,aA,aA,aA,aA,aA,aA,bT false,aA,aA,aA,aA,aA,aA,aA,aA,aA,aA,aA,aA,aA,aA,aA,aA,bT false,aA,aA,aA,aA,aA,aA,aA,aA,aA,aA,aA,aA,aA,aA,aA,aA,bg,bg,bg]=cB Rh.ay:=rfl
@[go_sem]theorem auE:eO #[bC none 0 0,bg,bg,bg,bg,bg,bg,bg,bg,bg,bg,aA,aA,aA,aA,aA,aA,bT false,aA,aA,aA,aA,aA,aA,aA,aA,aA,aA,aA,aA,aA,aA,aA,aA,bT false,aA,aA,aA,aA,aA,aA,aA,aA,aA,aA,aA,aA,aA,aA,aA,aA,bg,bg,bg] 29=eO Rh.ay 29:=rfl
theorem Qf:pK 29 54 Rh.ay:=⟨⟨_,nK,rfl⟩,by kernel_rfl,by kernel_rfl,Cn.r _⟩
@[go_sem ↓]theorem aJx(v:aB):cK 29 v=yY 29 v:=rfl
@[go_sem ↓]theorem aJy(v x:aB):eU 29 v x=zQ 29 v x:=rfl
@[go_sem]theorem aG3(W:ak)(b o:Nat)(h:vK W b o 54):(yY 29 (.c (some ⟨b,o,none⟩))).G ah W = .Y (.d (dO W b o 54)) W:=Qf.ld W b o h
@[go_sem]theorem aDN(W:ak)(c:Array aB)(x:Cn)(b:Nat)(hb:b=W.a.j)(hc:eB c=54):(zQ 29 (.c (some ⟨b,0,none⟩)) (.d x.ay)).G ah (W.alloc (.D c 29)) = .Y () (W.alloc (.D x.ay 29)):=Qf.stN W c x.ay b hb hc (Cn.r x) (Cn.dw x)
@[go_sem]theorem aG4(W:ak)(b o:Nat)(x:Cn)(h:W.K b o 54):(zQ 29 (.c (some ⟨b,o,none⟩)) (.d x.ay)).G ah W = .Y () (gX W b o x.ay):=Qf.st W b o x.ay h (Cn.r x) (Cn.dw x)
@[go_sem ↓]theorem aJz(ps:Array (Nat×aB)):fQ 29 ps=uW 29 ps:=rfl
theorem auF(w:ak)(fs:Array oh)(h:ah.k 29=some (.d fs)):(iF (fun f=>Prod.mk f.X <$> sizeOf f.p) fs:xI (Array (Nat×Nat))).G ah w = .Y #[(0,1),(1,1),(2,1),(3,6),(9,1),(10,1),(11,6),(17,17),(34,17),(51,1),(52,1),(53,1)] w:=by
 have e:=nK;rw[h]at e;cases e;show _=_
 kernel_rfl
@[go_sem]theorem aDO(W:ak):(uW 29 #[]).G ah W = .Y (.d Rh.ay) W:=Qf.bd0 W _ nK ⟨_,auF W _ nK⟩
def ad3(v:Vp):Bool:=qg v.h&&(v.aQ==6||v.aQ==17)&&(decide (1<=v.S)&&decide (v.S<=65535))
def yF(a:fC)(p q:Int)(v:Vp):Bool:=decide (v.h=a)&&v.aQ==p&&v.S==q
def zJ(l:List Vp)(a:fC)(p q:Int):Option Nat:=l.findIdx? (yF a p q)
def EA(l:List Vp)(i:Nat):Bool:=ad3 (l.b i oL) && !(l.d i).any (yF (l.b i oL).h (l.b i oL).aQ (l.b i oL).S)
def zw(l:List Vp):Bool:=decide (l.a<=64)&&(bY l.a).all (EA l)
def Cw(v:Vector Int 6):Bool:=v.a.b 0 0==0&&(bY 6).all fun i=>decide (0<=v.a.b i 0)&&decide (v.a.b i 0<=1000000)
def yG(x:Cn)(l:List Vp):Bool:=Cw x.kH&&zw l&&(decide (2<=x.j)&&decide (x.j<=65537)&&lT x.j.g)&&(decide (1<=x.dS)&&decide (x.dS<=4096))&&(decide (1<=x.kF)&&decide (x.kF<=100))&&(decide (1<=x.S)&&decide (x.S<=100))
 && (!x.Du.h&&qg x.Du)&&x.h.h&&(decide (1000<=x.agt)&&decide (x.agt<=1048576))&&(decide (1<=x.keep)&&decide (x.keep<=100))&&(decide (1<=x.Wr)&&decide (x.Wr<=1000))
abbrev RdV:=iE Vp.ay 20
structure Fo where
 head:Int
 dB:Int
 Qg:Int
 id:Int
 oV:Bool
 keep:Bool
 MV:Int
 aQ:Int
 h:fC
 S:fC
def Fo.ay(x:Fo):Array aB:=#[.b .a x.head,.b .a x.dB,.b .a x.Qg,.b .a x.id,.e x.oV,.e x.keep,.b .a x.MV,.b .a x.aQ]++(x.h.ay++x.S.ay)
theorem Fo.r(x:Fo):x.ay.j=42:=by simp[Fo.ay,fC.r]
theorem Fo.dw(x:Fo):x.ay.all (·.h)=true:=ig ((by simp[dx])) (ig (fC.dw _) (fC.dw _))
@[go_sem]theorem Fo.eB(x:Fo):eB x.ay=42:=Fo.r x
@[go_sem]theorem Fo.KY(x:Fo):x.ay[0]? = some (.b .a x.head):=by simp[Fo.ay,aD,fC.r]
@[go_sem]theorem Fo.yH(x:Fo):x.ay[1]? = some (.b .a x.dB):=by simp[Fo.ay,aD,fC.r]
@[go_sem]theorem Fo.auG(x:Fo):x.ay[2]? = some (.b .a x.Qg):=by simp[Fo.ay,aD,fC.r]
@[go_sem]theorem Fo.ayR(x:Fo):x.ay[3]? = some (.b .a x.id):=by simp[Fo.ay,aD,fC.r]
@[go_sem]theorem Fo.UG(x:Fo):x.ay[4]? = some (.e x.oV):=by simp[Fo.ay,aD,fC.r]
@[go_sem]theorem Fo.abz(x:Fo):x.ay[5]? = some (.e x.keep):=by simp[Fo.ay,aD,fC.r]
@[go_sem]theorem Fo.auH(x:Fo):x.ay[6]? = some (.b .a x.MV):=by simp[Fo.ay,aD,fC.r]
@[go_sem]theorem Fo.Cv(x:Fo):x.ay[7]? = some (.b .a x.aQ):=by simp[Fo.ay,aD,fC.r]
@[go_sem]theorem Fo.JK(x:Fo):x.ay.m 8 25=x.h.ay:=by simp[Fo.ay,dD,fC.r,qB,uw]
@[go_sem]theorem Fo.JL(x:Fo):x.ay.m 25 42=x.S.ay:=by simp[Fo.ay,dD,fC.r,qB,uw]
def xD:Fo:=⟨0,0,0,0,false,false,0,0,nM,nM⟩
@[go_sem]theorem ayS:cB #[bg,bg,bg,bg,bT false,bT false,bg,bg,bT false,aA,aA,aA,aA,aA,aA,aA,aA,aA,aA,aA,aA,aA,aA,aA,aA,bT false,aA,aA,aA,aA,aA,aA,aA,aA,aA,aA,aA,aA,aA,aA,aA,aA]=cB xD.ay:=rfl
@[go_sem]theorem auI:eO #[bg,bg,bg,bg,bT false,bT false,bg,bg,bT false,aA,aA,aA,aA,aA,aA,aA,aA,aA,aA,aA,aA,aA,aA,aA,aA,bT false,aA,aA,aA,aA,aA,aA,aA,aA,aA,aA,aA,aA,aA,aA,aA,aA] 192=eO xD.ay 192:=rfl
theorem kFo:pK 192 42 xD.ay:=⟨⟨_,pV,rfl⟩,by kernel_rfl,by kernel_rfl,Fo.r _⟩
@[go_sem ↓]theorem aJA(v:aB):cK 192 v=yY 192 v:=rfl
@[go_sem ↓]theorem aJB(v x:aB):eU 192 v x=zQ 192 v x:=rfl
@[go_sem]theorem aDP(W:ak)(c:Array aB)(x:Fo)(b:Nat)(hb:b=W.a.j)(hc:eB c=42):(zQ 192 (.c (some ⟨b,0,none⟩)) (.d x.ay)).G ah (W.alloc (.D c 192)) = .Y () (W.alloc (.D x.ay 192)):=kFo.stN W c x.ay b hb hc (Fo.r x) (Fo.dw x)
@[go_sem]theorem aG5(W:ak)(b o:Nat)(x:Fo)(h:W.K b o 42):(zQ 192 (.c (some ⟨b,o,none⟩)) (.d x.ay)).G ah W = .Y () (gX W b o x.ay):=kFo.st W b o x.ay h (Fo.r x) (Fo.dw x)
@[go_sem ↓]theorem aJC(ps:Array (Nat×aB)):fQ 192 ps=uW 192 ps:=rfl
theorem auJ(w:ak)(fs:Array oh)(h:ah.k 192=some (.d fs)):(iF (fun f=>Prod.mk f.X <$> sizeOf f.p) fs:xI (Array (Nat×Nat))).G ah w = .Y #[(0,1),(1,1),(2,1),(3,1),(4,1),(5,1),(6,1),(7,1),(8,17),(25,17)] w:=by
 have e:=pV;rw[h]at e;cases e;show _=_
 kernel_rfl
@[go_sem]theorem aDQ(W:ak):(uW 192 #[]).G ah W = .Y (.d xD.ay) W:=kFo.bd0 W _ pV ⟨_,auJ W _ pV⟩
@[go_sem]theorem ayT(W:ak)(head:Int)(dB:Int)(Qg:Int)(id:Int)(oV:Bool)(keep:Bool)(MV:Int)(aQ:Int)(src:fC)(dst:fC):(uW 192 #[(0,.b .a head),(1,.b .a dB),(2,.b .a Qg),(3,.b .a id),(4,.e oV),(5,.e keep),(6,.b .a MV),(7,.b .a aQ),(8,.d (src.ay)),(9,.d (dst.ay))]).G ah W = .Y (.d (Fo.mk head dB Qg id oV keep MV aQ src dst).ay) W:=kFo.bd W _ _ _ _ pV (auJ W _ pV) (by
 refine vo (Fo.r _) ?_ ?_
 ·simp[r9,cZ,fC.r]
 ·simp[rF,cZ,Fo.ay]<;>(simp only[<-gD];rfl))
structure Sx where
 head:Int
 dB:Int
 IU:Int
 oV:Bool
 IW:Int
 aQ:Int
 h:fC
 S:fC
def Sx.ay(x:Sx):Array aB:=#[.b .a x.head,.b .a x.dB,.b .a x.IU,.e x.oV,.b .a x.IW,.b .a x.aQ]++(x.h.ay++x.S.ay)
theorem Sx.r(x:Sx):x.ay.j=40:=by simp[Sx.ay,fC.r]
theorem Sx.dw(x:Sx):x.ay.all (·.h)=true:=ig ((by simp[dx])) (ig (fC.dw _) (fC.dw _))
@[go_sem]theorem Sx.eB(x:Sx):eB x.ay=40:=Sx.r x
@[go_sem]theorem Sx.all(x:Sx):x.ay.m 0 40=x.ay:=by have:=Sx.r x;rw[<-this];simp
@[go_sem]theorem Sx.KY(x:Sx):x.ay[0]? = some (.b .a x.head):=by simp[Sx.ay,aD,fC.r]
@[go_sem]theorem Sx.yH(x:Sx):x.ay[1]? = some (.b .a x.dB):=by simp[Sx.ay,aD,fC.r]
@[go_sem]theorem Sx.auK(x:Sx):x.ay[2]? = some (.b .a x.IU):=by simp[Sx.ay,aD,fC.r]
@[go_sem]theorem Sx.UG(x:Sx):x.ay[3]? = some (.e x.oV):=by simp[Sx.ay,aD,fC.r]
@[go_sem]theorem Sx.aqy(x:Sx):x.ay[4]? = some (.b .a x.IW):=by simp[Sx.ay,aD,fC.r]
@[go_sem]theorem Sx.Cv(x:Sx):x.ay[5]? = some (.b .a x.aQ):=by simp[Sx.ay,aD,fC.r]
@[go_sem]theorem Sx.JK(x:Sx):x.ay.m 6 23=x.h.ay:=by simp[Sx.ay,dD,fC.r,qB,uw]
@[go_sem]theorem Sx.JL(x:Sx):x.ay.m 23 40=x.S.ay:=by simp[Sx.ay,dD,fC.r,qB,uw]
theorem Sx.OQ(x:Sx)(v:Int):x.ay.c 0 (.b .a v)=({x with head:=v}:Sx).ay:=by simp[Sx.ay,aM,fC.r]
theorem Sx.amZ(x:Sx)(v:Bool):x.ay.c 3 (.e v)=({x with oV:=v}:Sx).ay:=by simp[Sx.ay,aM,fC.r]
theorem Sx.am0(x:Sx)(v:Int):x.ay.c 4 (.b .a v)=({x with IW:=v}:Sx).ay:=by simp[Sx.ay,aM,fC.r]
theorem Sx.Zn(x:Sx)(v:Int):x.ay.c 5 (.b .a v)=({x with aQ:=v}:Sx).ay:=by simp[Sx.ay,aM,fC.r]
def qX:Sx:=⟨0,0,0,false,0,0,nM,nM⟩
@[go_sem]theorem ayU:cB #[bg,bg,bg,bT false,bg,bg,bT false,aA,aA,aA,aA,aA,aA,aA,aA,aA,aA,aA,aA,aA,aA,aA,aA,bT false,aA,aA,aA,aA,aA,aA,aA,aA,aA,aA,aA,aA,aA,aA,aA,aA]=cB qX.ay:=rfl
@[go_sem]theorem auL:eO #[bg,bg,bg,bT false,bg,bg,bT false,aA,aA,aA,aA,aA,aA,aA,aA,aA,aA,aA,aA,aA,aA,aA,aA,bT false,aA,aA,aA,aA,aA,aA,aA,aA,aA,aA,aA,aA,aA,aA,aA,aA] 189=eO qX.ay 189:=rfl
theorem kSx:pK 189 40 qX.ay:=⟨⟨_,pW,rfl⟩,by kernel_rfl,by kernel_rfl,Sx.r _⟩
@[go_sem ↓]theorem aJD(v:aB):cK 189 v=yY 189 v:=rfl
@[go_sem ↓]theorem aJE(v x:aB):eU 189 v x=zQ 189 v x:=rfl
@[go_sem]theorem aG6(W:ak)(b o:Nat)(h:vK W b o 40):(yY 189 (.c (some ⟨b,o,none⟩))).G ah W = .Y (.d (dO W b o 40)) W:=kSx.ld W b o h
@[go_sem]theorem aDR(W:ak)(c:Array aB)(x:Sx)(b:Nat)(hb:b=W.a.j)(hc:eB c=40):(zQ 189 (.c (some ⟨b,0,none⟩)) (.d x.ay)).G ah (W.alloc (.D c 189)) = .Y () (W.alloc (.D x.ay 189)):=kSx.stN W c x.ay b hb hc (Sx.r x) (Sx.dw x)
@[go_sem]theorem aG7(W:ak)(b o:Nat)(x:Sx)(h:W.K b o 40):(zQ 189 (.c (some ⟨b,o,none⟩)) (.d x.ay)).G ah W = .Y () (gX W b o x.ay):=kSx.st W b o x.ay h (Sx.r x) (Sx.dw x)
@[go_sem ↓]theorem aJF(ps:Array (Nat×aB)):fQ 189 ps=uW 189 ps:=rfl
theorem auM(w:ak)(fs:Array oh)(h:ah.k 189=some (.d fs)):(iF (fun f=>Prod.mk f.X <$> sizeOf f.p) fs:xI (Array (Nat×Nat))).G ah w = .Y #[(0,1),(1,1),(2,1),(3,1),(4,1),(5,1),(6,17),(23,17)] w:=by
 have e:=pW;rw[h]at e;cases e;show _=_
 kernel_rfl
@[go_sem]theorem aDS(W:ak):(uW 189 #[]).G ah W = .Y (.d qX.ay) W:=kSx.bd0 W _ pW ⟨_,auM W _ pW⟩
structure Pt where
 jv:Int
 iQ:Int
 vw:Int
 head:Int
 dB:Int
def Pt.ay(x:Pt):Array aB:=#[.b .a x.jv,.b .a x.iQ,.b .a x.vw,.b .a x.head,.b .a x.dB]
theorem Pt.r(x:Pt):x.ay.j=5:=by simp[Pt.ay]
theorem Pt.dw(x:Pt):x.ay.all (·.h)=true:=by simp[Pt.ay,dx]
@[go_sem]theorem Pt.eB(x:Pt):eB x.ay=5:=Pt.r x
@[go_sem]theorem Pt.all(x:Pt):x.ay.m 0 5=x.ay:=by have:=Pt.r x;rw[<-this];simp
@[go_sem]theorem Pt.ayV(x:Pt):x.ay[0]? = some (.b .a x.jv):=by simp[Pt.ay,aD]
@[go_sem]theorem Pt.ayW(x:Pt):x.ay[1]? = some (.b .a x.iQ):=by simp[Pt.ay,aD]
@[go_sem]theorem Pt.OT(x:Pt):x.ay[2]? = some (.b .a x.vw):=by simp[Pt.ay,aD]
@[go_sem]theorem Pt.KY(x:Pt):x.ay[3]? = some (.b .a x.head):=by simp[Pt.ay,aD]
@[go_sem]theorem Pt.yH(x:Pt):x.ay[4]? = some (.b .a x.dB):=by simp[Pt.ay,aD]
theorem Pt.Ri(x:Pt)(v:Int):x.ay.c 2 (.b .a v)=({x with vw:=v}:Pt).ay:=by simp[Pt.ay,aM]
theorem Pt.OQ(x:Pt)(v:Int):x.ay.c 3 (.b .a v)=({x with head:=v}:Pt).ay:=by simp[Pt.ay,aM]
theorem Pt.Rj(x:Pt)(v:Int):x.ay.c 4 (.b .a v)=({x with dB:=v}:Pt).ay:=by simp[Pt.ay,aM]
def ra:Pt:=⟨0,0,0,0,0⟩
@[go_sem]theorem ayX:cB #[bg,bg,bg,bg,bg]=cB ra.ay:=rfl
@[go_sem]theorem auN:eO #[bg,bg,bg,bg,bg] 172=eO ra.ay 172:=rfl
theorem UH:pK 172 5 ra.ay:=⟨⟨_,pX,rfl⟩,by kernel_rfl,by kernel_rfl,Pt.r _⟩
@[go_sem ↓]theorem aJG(v:aB):cK 172 v=yY 172 v:=rfl
@[go_sem ↓]theorem aJH(v x:aB):eU 172 v x=zQ 172 v x:=rfl
@[go_sem]theorem aG8(W:ak)(b o:Nat)(h:vK W b o 5):(yY 172 (.c (some ⟨b,o,none⟩))).G ah W = .Y (.d (dO W b o 5)) W:=UH.ld W b o h
@[go_sem]theorem aDT(W:ak)(c:Array aB)(x:Pt)(b:Nat)(hb:b=W.a.j)(hc:eB c=5):(zQ 172 (.c (some ⟨b,0,none⟩)) (.d x.ay)).G ah (W.alloc (.D c 172)) = .Y () (W.alloc (.D x.ay 172)):=UH.stN W c x.ay b hb hc (Pt.r x) (Pt.dw x)
@[go_sem]theorem aG9(W:ak)(b o:Nat)(x:Pt)(h:W.K b o 5):(zQ 172 (.c (some ⟨b,o,none⟩)) (.d x.ay)).G ah W = .Y () (gX W b o x.ay):=UH.st W b o x.ay h (Pt.r x) (Pt.dw x)
@[go_sem ↓]theorem aJI(ps:Array (Nat×aB)):fQ 172 ps=uW 172 ps:=rfl
theorem auO(w:ak)(fs:Array oh)(h:ah.k 172=some (.d fs)):(iF (fun f=>Prod.mk f.X <$> sizeOf f.p) fs:xI (Array (Nat×Nat))).G ah w = .Y #[(0,1),(1,1),(2,1),(3,1),(4,1)] w:=by
 have e:=pX;rw[h]at e;cases e;show _=_
 kernel_rfl
@[go_sem]theorem aDU(W:ak):(uW 172 #[]).G ah W = .Y (.d ra.ay) W:=UH.bd0 W _ pX ⟨_,auO W _ pX⟩
@[go_sem]theorem ayY(W:ak)(jv:Int)(iQ:Int)(vw:Int)(head:Int)(dB:Int):(uW 172 #[(0,.b .a jv),(1,.b .a iQ),(2,.b .a vw),(3,.b .a head),(4,.b .a dB)]).G ah W = .Y (.d (Pt.mk jv iQ vw head dB).ay) W:=UH.bd W _ _ _ _ pX (auO W _ pX) (by
 refine vo (Pt.r _) ?_ ?_
 ·simp[r9,cZ]
 ·simp[rF,cZ,Pt.ay]<;>(simp only[<-gD];rfl))
structure Nt where
 head:Int
 dB:Int
 aQ:Int
 oV:Bool
 h:fC
 S:fC
def Nt.ay(x:Nt):Array aB:=#[.b .a x.head,.b .a x.dB,.b .a x.aQ,.e x.oV]++(x.h.ay++x.S.ay)
theorem Nt.r(x:Nt):x.ay.j=38:=by simp[Nt.ay,fC.r]
theorem Nt.dw(x:Nt):x.ay.all (·.h)=true:=ig ((by simp[dx])) (ig (fC.dw _) (fC.dw _))
@[go_sem]theorem Nt.eB(x:Nt):eB x.ay=38:=Nt.r x
@[go_sem]theorem Nt.KY(x:Nt):x.ay[0]? = some (.b .a x.head):=by simp[Nt.ay,aD,fC.r]
@[go_sem]theorem Nt.yH(x:Nt):x.ay[1]? = some (.b .a x.dB):=by simp[Nt.ay,aD,fC.r]
@[go_sem]theorem Nt.Cv(x:Nt):x.ay[2]? = some (.b .a x.aQ):=by simp[Nt.ay,aD,fC.r]
@[go_sem]theorem Nt.UG(x:Nt):x.ay[3]? = some (.e x.oV):=by simp[Nt.ay,aD,fC.r]
@[go_sem]theorem Nt.JK(x:Nt):x.ay.m 4 21=x.h.ay:=by simp[Nt.ay,dD,fC.r,qB,uw]
@[go_sem]theorem Nt.JL(x:Nt):x.ay.m 21 38=x.S.ay:=by simp[Nt.ay,dD,fC.r,qB,uw]
def abA:Nt:=⟨0,0,0,false,nM,nM⟩
@[go_sem]theorem ayZ:cB #[bg,bg,bg,bT false,bT false,aA,aA,aA,aA,aA,aA,aA,aA,aA,aA,aA,aA,aA,aA,aA,aA,bT false,aA,aA,aA,aA,aA,aA,aA,aA,aA,aA,aA,aA,aA,aA,aA,aA]=cB abA.ay:=rfl
@[go_sem]theorem auP:eO #[bg,bg,bg,bT false,bT false,aA,aA,aA,aA,aA,aA,aA,aA,aA,aA,aA,aA,aA,aA,aA,aA,bT false,aA,aA,aA,aA,aA,aA,aA,aA,aA,aA,aA,aA,aA,aA,aA,aA] 168=eO abA.ay 168:=rfl
theorem kNt:pK 168 38 abA.ay:=⟨⟨_,Ej,rfl⟩,by kernel_rfl,by kernel_rfl,Nt.r _⟩
@[go_sem ↓]theorem aJJ(v:aB):cK 168 v=yY 168 v:=rfl
@[go_sem ↓]theorem aJK(v x:aB):eU 168 v x=zQ 168 v x:=rfl
@[go_sem]theorem aG'(W:ak)(b o:Nat)(x:Nt)(h:W.K b o 38):(zQ 168 (.c (some ⟨b,o,none⟩)) (.d x.ay)).G ah W = .Y () (gX W b o x.ay):=kNt.st W b o x.ay h (Nt.r x) (Nt.dw x)
@[go_sem ↓]theorem aJL(ps:Array (Nat×aB)):fQ 168 ps=uW 168 ps:=rfl
theorem aDV(w:ak)(fs:Array oh)(h:ah.k 168=some (.d fs)):(iF (fun f=>Prod.mk f.X <$> sizeOf f.p) fs:xI (Array (Nat×Nat))).G ah w = .Y #[(0,1),(1,1),(2,1),(3,1),(4,17),(21,17)] w:=by
 have e:=Ej;rw[h]at e;cases e;show _=_
 kernel_rfl
@[go_sem]theorem ay0(W:ak)(head:Int)(dB:Int)(aQ:Int)(oV:Bool)(src:fC)(dst:fC):(uW 168 #[(0,.b .a head),(1,.b .a dB),(2,.b .a aQ),(3,.e oV),(4,.d (src.ay)),(5,.d (dst.ay))]).G ah W = .Y (.d (Nt.mk head dB aQ oV src dst).ay) W:=kNt.bd W _ _ _ _ Ej (aDV W _ Ej) (by
 refine vo (Nt.r _) ?_ ?_
 ·simp[r9,cZ,fC.r]
 ·simp[rF,cZ,Nt.ay]<;>(simp only[<-gD];rfl))
structure Pk where
 kind:Int
 I:Tu
 vw:Int
 Dv:Int
 rP:Int
 Ht:Int
def Pk.ay(x:Pk):Array aB:=#[.b .a x.kind]++(x.I.ay ++ #[.b .a x.vw,.b .a x.Dv,.b .a x.rP,.b .a x.Ht])
theorem Pk.r(x:Pk):x.ay.j=42:=by simp[Pk.ay,Tu.r]
theorem Pk.dw(x:Pk):x.ay.all (·.h)=true:=ig ((by simp[dx])) (ig (Tu.dw _) ((by simp[dx])))
@[go_sem]theorem Pk.eB(x:Pk):eB x.ay=42:=Pk.r x
@[go_sem]theorem Pk.DY(x:Pk):x.ay[0]? = some (.b .a x.kind):=by simp[Pk.ay,aD,Tu.r]
@[go_sem]theorem Pk.JM(x:Pk):x.ay.m 1 38=x.I.ay:=by simp[Pk.ay,dD,Tu.r,qB,uw]
@[go_sem]theorem Pk.OT(x:Pk):x.ay[38]? = some (.b .a x.vw):=by simp[Pk.ay,aD,Tu.r]
@[go_sem]theorem Pk.am1(x:Pk):x.ay[39]? = some (.b .a x.Dv):=by simp[Pk.ay,aD,Tu.r]
@[go_sem]theorem Pk.am2(x:Pk):x.ay[40]? = some (.b .a x.rP):=by simp[Pk.ay,aD,Tu.r]
@[go_sem]theorem Pk.aqz(x:Pk):x.ay[41]? = some (.b .a x.Ht):=by simp[Pk.ay,aD,Tu.r]
def OU:Pk:=⟨0,afA,0,0,0,0⟩
@[go_sem]theorem ay1:cB #[bg,bT false,aA,aA,aA,aA,aA,aA,aA,aA,aA,aA,aA,aA,aA,aA,aA,aA,bT false,aA,aA,aA,aA,aA,aA,aA,aA,aA,aA,aA,aA,aA,aA,aA,aA,bg,bg,bg,bg,bg,bg,bg]=cB OU.ay:=rfl
@[go_sem]theorem auQ:eO #[bg,bT false,aA,aA,aA,aA,aA,aA,aA,aA,aA,aA,aA,aA,aA,aA,aA,aA,bT false,aA,aA,aA,aA,aA,aA,aA,aA,aA,aA,aA,aA,aA,aA,aA,aA,bg,bg,bg,bg,bg,bg,bg] 83=eO OU.ay 83:=rfl
theorem kPk:pK 83 42 OU.ay:=⟨⟨_,vJ,rfl⟩,by kernel_rfl,by kernel_rfl,Pk.r _⟩
@[go_sem ↓]theorem aJM(v:aB):cK 83 v=yY 83 v:=rfl
@[go_sem ↓]theorem aJN(v x:aB):eU 83 v x=zQ 83 v x:=rfl
@[go_sem]theorem aDW(W:ak)(c:Array aB)(x:Pk)(b:Nat)(hb:b=W.a.j)(hc:eB c=42):(zQ 83 (.c (some ⟨b,0,none⟩)) (.d x.ay)).G ah (W.alloc (.D c 83)) = .Y () (W.alloc (.D x.ay 83)):=kPk.stN W c x.ay b hb hc (Pk.r x) (Pk.dw x)
@[go_sem]theorem aHa(W:ak)(b o:Nat)(x:Pk)(h:W.K b o 42):(zQ 83 (.c (some ⟨b,o,none⟩)) (.d x.ay)).G ah W = .Y () (gX W b o x.ay):=kPk.st W b o x.ay h (Pk.r x) (Pk.dw x)
@[go_sem ↓]theorem aJO(ps:Array (Nat×aB)):fQ 83 ps=uW 83 ps:=rfl
theorem ay2(w:ak)(fs:Array oh)(h:ah.k 83=some (.d fs)):(iF (fun f=>Prod.mk f.X <$> sizeOf f.p) fs:xI (Array (Nat×Nat))).G ah w = .Y #[(0,1),(1,37),(38,1),(39,1),(40,1),(41,1)] w:=by
 have e:=vJ;rw[h]at e;cases e;show _=_
 kernel_rfl
structure Tn where
 head:Int
 dB:Int
 aQ:Int
 oV:Bool
 Y:Bool
def Tn.ay(x:Tn):Array aB:=#[.b .a x.head,.b .a x.dB,.b .a x.aQ,.e x.oV,.e x.Y]
theorem Tn.r(x:Tn):x.ay.j=5:=by simp[Tn.ay]
theorem Tn.dw(x:Tn):x.ay.all (·.h)=true:=by simp[Tn.ay,dx]
@[go_sem]theorem Tn.yH(x:Tn):x.ay[1]? = some (.b .a x.dB):=by simp[Tn.ay,aD]
@[go_sem]theorem Tn.ay3(x:Tn):x.ay[4]? = some (.e x.Y):=by simp[Tn.ay,aD]
def tK:Tn:=⟨0,0,0,false,false⟩
@[go_sem]theorem ay4:cB #[aI bU 0,aI bU 0,aI bU 0,bT false,bT false]=cB tK.ay:=rfl
@[go_sem]theorem auS:eO #[aI bU 0,aI bU 0,aI bU 0,bT false,bT false] 179=eO tK.ay 179:=rfl
theorem kTn:pK 179 5 tK.ay:=⟨⟨_,uF,rfl⟩,by kernel_rfl,by kernel_rfl,Tn.r _⟩
@[go_sem ↓]theorem aJP(v:aB):cK 179 v=yY 179 v:=rfl
@[go_sem ↓]theorem aJQ(v x:aB):eU 179 v x=zQ 179 v x:=rfl
@[go_sem]theorem aHb(W:ak)(b o:Nat)(x:Tn)(h:W.K b o 5):(zQ 179 (.c (some ⟨b,o,none⟩)) (.d x.ay)).G ah W = .Y () (gX W b o x.ay):=kTn.st W b o x.ay h (Tn.r x) (Tn.dw x)
@[go_sem ↓]theorem aJR(ps:Array (Nat×aB)):fQ 179 ps=uW 179 ps:=rfl
theorem ay5(w:ak)(fs:Array oh)(h:ah.k 179=some (.d fs)):(iF (fun f=>Prod.mk f.X <$> sizeOf f.p) fs:xI (Array (Nat×Nat))).G ah w = .Y #[(0,1),(1,1),(2,1),(3,1),(4,1)] w:=by
 have e:=uF;rw[h]at e;cases e;show _=_
 kernel_rfl
@[go_sem]theorem aDX(W:ak):(uW 179 #[]).G ah W = .Y (.d tK.ay) W:=kTn.bd0 W _ uF ⟨_,ay5 W _ uF⟩
@[go_sem]theorem ay6(W:ak)(head:Int)(dB:Int)(aQ:Int)(oV:Bool)(ok:Bool):(uW 179 #[(0,.b .a head),(1,.b .a dB),(2,.b .a aQ),(3,.e oV),(4,.e ok)]).G ah W = .Y (.d (Tn.mk head dB aQ oV ok).ay) W:=kTn.bd W _ _ _ _ uF (ay5 W _ uF) (by
 refine vo (Tn.r _) ?_ ?_
 ·simp[r9,cZ]
 ·simp[rF,cZ,Tn.ay]<;>(simp only[<-gD];rfl))
structure Lc where
 S:Vector UInt8 6
 h:Vector UInt8 6
 Ws:Option aT
 Fz:Nat
 ah3:Nat
 oM:Int
 fH:Int
def Lc.ay(x:Lc):Array aB:=Bl x.S++(Bl x.h ++ #[.a x.Ws x.Fz x.ah3,.b .a x.oM,.b .a x.fH])
theorem Lc.r(x:Lc):x.ay.j=15:=by simp[Lc.ay,gN]
theorem Lc.dw(x:Lc):x.ay.all (·.h)=true:=ig (abw _) (ig (abw _) ((by simp[dx])))
@[go_sem]theorem Lc.eB(x:Lc):eB x.ay=15:=Lc.r x
@[go_sem]theorem Lc.all(x:Lc):x.ay.m 0 15=x.ay:=by have:=Lc.r x;rw[<-this];simp
@[go_sem]theorem Lc.JL(x:Lc):x.ay.m 0 6=Bl x.S:=by simp[Lc.ay,dD,gN,qB,uw]
@[go_sem]theorem Lc.JK(x:Lc):x.ay.m 6 12=Bl x.h:=by simp[Lc.ay,dD,gN,qB,uw]
@[go_sem]theorem Lc.abB(x:Lc):x.ay[12]? = some (.a x.Ws x.Fz x.ah3):=by simp[Lc.ay,aD,gN]
@[go_sem]theorem Lc.EC(x:Lc):x.ay[13]? = some (.b .a x.oM):=by simp[Lc.ay,aD,gN]
@[go_sem]theorem Lc.MW(x:Lc):x.ay[14]? = some (.b .a x.fH):=by simp[Lc.ay,aD,gN]
theorem Lc.am3(x:Lc)(A:Option aT)(n c:Nat):x.ay.c 12 (.a A n c)=({x with Ws:=A,Fz:=n,ah3:=c}:Lc).ay:=by simp[Lc.ay,aM,gN]
theorem Lc.UJ(x:Lc)(v:Int):x.ay.c 13 (.b .a v)=({x with oM:=v}:Lc).ay:=by simp[Lc.ay,aM,gN]
theorem Lc.aqB(x:Lc)(v:Int):x.ay.c 14 (.b .a v)=({x with fH:=v}:Lc).ay:=by simp[Lc.ay,aM,gN]
def rb:Lc:=⟨(bJ 6 0),(bJ 6 0),none,0,0,0,0⟩
@[go_sem]theorem ay7:cB #[aA,aA,aA,aA,aA,aA,aA,aA,aA,aA,aA,aA,bC none 0 0,bg,bg]=cB rb.ay:=rfl
@[go_sem]theorem auT:eO #[aA,aA,aA,aA,aA,aA,aA,aA,aA,aA,aA,aA,bC none 0 0,bg,bg] 108=eO rb.ay 108:=rfl
theorem kLc:pK 108 15 rb.ay:=⟨⟨_,uG,rfl⟩,by kernel_rfl,by kernel_rfl,Lc.r _⟩
@[go_sem ↓]theorem aJS(v:aB):cK 108 v=yY 108 v:=rfl
@[go_sem ↓]theorem aJT(v x:aB):eU 108 v x=zQ 108 v x:=rfl
@[go_sem]theorem aHc(W:ak)(b o:Nat)(h:vK W b o 15):(yY 108 (.c (some ⟨b,o,none⟩))).G ah W = .Y (.d (dO W b o 15)) W:=kLc.ld W b o h
@[go_sem]theorem aDY(W:ak)(c:Array aB)(x:Lc)(b:Nat)(hb:b=W.a.j)(hc:eB c=15):(zQ 108 (.c (some ⟨b,0,none⟩)) (.d x.ay)).G ah (W.alloc (.D c 108)) = .Y () (W.alloc (.D x.ay 108)):=kLc.stN W c x.ay b hb hc (Lc.r x) (Lc.dw x)
@[go_sem]theorem aHd(W:ak)(b o:Nat)(x:Lc)(h:W.K b o 15):(zQ 108 (.c (some ⟨b,o,none⟩)) (.d x.ay)).G ah W = .Y () (gX W b o x.ay):=kLc.st W b o x.ay h (Lc.r x) (Lc.dw x)
@[go_sem ↓]theorem aJU(ps:Array (Nat×aB)):fQ 108 ps=uW 108 ps:=rfl
theorem ay8(w:ak)(fs:Array oh)(h:ah.k 108=some (.d fs)):(iF (fun f=>Prod.mk f.X <$> sizeOf f.p) fs:xI (Array (Nat×Nat))).G ah w = .Y #[(0,6),(6,6),(12,1),(13,1),(14,1)] w:=by
 have e:=uG;rw[h]at e;cases e;show _=_
 kernel_rfl
@[go_sem]theorem aDZ(W:ak):(uW 108 #[]).G ah W = .Y (.d rb.ay) W:=kLc.bd0 W _ uG ⟨_,ay8 W _ uG⟩
structure Tg where
 oM:Int
 tci:Int
def Tg.ay(x:Tg):Array aB:=#[.b .a x.oM,.b .a x.tci]
theorem Tg.r(x:Tg):x.ay.j=2:=by simp[Tg.ay]
theorem Tg.dw(x:Tg):x.ay.all (·.h)=true:=by simp[Tg.ay,dx]
@[go_sem]theorem Tg.EC(x:Tg):x.ay[0]? = some (.b .a x.oM):=by simp[Tg.ay,aD]
@[go_sem]theorem Tg.am4(x:Tg):x.ay[1]? = some (.b .a x.tci):=by simp[Tg.ay,aD]
def Ui:Tg:=⟨0,0⟩
@[go_sem]theorem ay9:cB #[aI bU 0,aI bU 0]=cB Ui.ay:=rfl
@[go_sem]theorem auU:eO #[aI bU 0,aI bU 0] 268=eO Ui.ay 268:=rfl
theorem kTg:pK 268 2 Ui.ay:=⟨⟨_,El,rfl⟩,by kernel_rfl,by kernel_rfl,Tg.r _⟩
@[go_sem ↓]theorem aJV(v:aB):cK 268 v=yY 268 v:=rfl
@[go_sem ↓]theorem aJW(v x:aB):eU 268 v x=zQ 268 v x:=rfl
@[go_sem]theorem aHe(W:ak)(b o:Nat)(h:vK W b o 2):(yY 268 (.c (some ⟨b,o,none⟩))).G ah W = .Y (.d (dO W b o 2)) W:=kTg.ld W b o h
@[go_sem]theorem aD0(W:ak)(c:Array aB)(x:Tg)(b:Nat)(hb:b=W.a.j)(hc:eB c=2):(zQ 268 (.c (some ⟨b,0,none⟩)) (.d x.ay)).G ah (W.alloc (.D c 268)) = .Y () (W.alloc (.D x.ay 268)):=kTg.stN W c x.ay b hb hc (Tg.r x) (Tg.dw x)
@[go_sem ↓]theorem aJX(ps:Array (Nat×aB)):fQ 268 ps=uW 268 ps:=rfl
theorem aD1(w:ak)(fs:Array oh)(h:ah.k 268=some (.d fs)):(iF (fun f=>Prod.mk f.X <$> sizeOf f.p) fs:xI (Array (Nat×Nat))).G ah w = .Y #[(0,1),(1,1)] w:=by
 have e:=El;rw[h]at e;cases e;show _=_
 kernel_rfl
@[go_sem]theorem aza(W:ak)(oM:Int)(tci:Int):(uW 268 #[(0,.b .a oM),(1,.b .a tci)]).G ah W = .Y (.d (Tg.mk oM tci).ay) W:=kTg.bd W _ _ _ _ El (aD1 W _ El) (by
 refine vo (Tg.r _) ?_ ?_
 ·simp[r9,cZ]
 ·simp[rF,cZ,Tg.ay]<;>(simp only[<-gD];rfl))
def eY(l:List UInt8)(k:Nat):Nat:=256*(l.b k 0).g+(l.b (k+1) 0).g
theorem vP(l:List UInt8)(k:Nat):eY l k<=65535:=by
 have h1:=(l.b k 0).a;have h2:=(l.b (k+1) 0).a;unfold eY;omega
theorem JN(l:List UInt8)(k:Nat)(h:k+1<l.a):oP (((l.f k).d 2).d 8)=eY l k:=by
 rw[Vx l k h];simp[oP,eY];omega
theorem jW(n:Int)(h : -9223372036854775808<=n/\n<=9223372036854775807):bU.d n=n:=by simp[vS,nZ,mq];omega
section
variable (W:ak) (A:Option aT) (n c B:Nat) (l:List UInt8) (k:Nat)
theorem ajP(hk:k+1<n)(hnc:n<=c)(hc:c<=9223372036854775807)(hr:gu W W.a.j A n l):aP ah 246 #[.a A n c,.b .a k] W (fT W (.b .a (eY l k:Nat))):=by
 have hl:=hr.len;have h0:=ab (vP l k);have h1:(k:Int)+2<=c:=by omega
 have h2:(k:Int)<=(k:Int)+2:=by omega
 have P:=hr.Sy (z:=k) (b:=k+2) (c:=c) (by omega) (by omega) (by omega);rw[kP,if_neg (by omega)]at P;have C:=ab (Nu _ 2 (c-k) _ W (by omega) (by omega) P);rw[JN l k (by omega)]at C;have h3:wrap64 (eY l k:Nat)=(eY l k:Nat):=by have:=h0.i;unfold wrap64;omega
 generalize eY l k=x at *;clear P hr;go_enter Tryz.func246,Tryz.ntmps246;go_wp2_with (go_at_call 180;with_reducible refine C.i.e ?_;rintro e w' ⟨rfl,hb⟩);go_ret;exact⟨congrArg (fun z=>uE (.b .a z)) h3,hb⟩
theorem abD(i:Int)(hi:i=k)(hk:k+1<n)(hnc:n<=c)(hc:c<=9223372036854775807)(hr:gu W W.a.j A n l):aP ah 246 #[.a A n c,.b .a i] W (fT W (.b .a (eY l k:Nat))):=by subst hi;exact ajP W A n c l k hk hnc hc hr
theorem am5(hk:k+1<n)(hnc:n<=c)(hc:c<=9223372036854775807)(hr:gu W W.a.j A n l):aP ah 249 #[.a A n c,.b .a k] W (fT W (.b .a (eY l k:Nat))):=by
 have hl:=hr.len;have h0:=ab (vP l k);have h1:(k:Int)+2<=c:=by omega
 have h2:(k:Int)<=(k:Int)+2:=by omega
 have P:=hr.Sy (z:=k) (b:=k+2) (c:=c) (by omega) (by omega) (by omega);rw[kP,if_neg (by omega)]at P;have C:=ab (Nu _ 2 (c-k) _ W (by omega) (by omega) P);rw[JN l k (by omega)]at C;have h3:wrap64 (eY l k:Nat)=(eY l k:Nat):=by have:=h0.i;unfold wrap64;omega
 generalize eY l k=x at *;clear P hr;go_enter Tryz.func249,Tryz.ntmps249;go_wp2_with (go_at_call 180;with_reducible refine C.i.e ?_;rintro e w' ⟨rfl,hb⟩);go_ret;exact⟨congrArg (fun z=>uE (.b .a z)) h3,hb⟩
theorem am6(i:Int)(hi:i=k)(hk:k+1<n)(hnc:n<=c)(hc:c<=9223372036854775807)(hr:gu W W.a.j A n l):aP ah 249 #[.a A n c,.b .a i] W (fT W (.b .a (eY l k:Nat))):=by subst hi;exact am5 W A n c l k hk hnc hc hr
theorem ajQ(hk:k+1<n)(hnc:n<=c)(hc:c<=9223372036854775807)(hr:gu W W.a.j A n l):aP ah 177 #[.a A n c,.b .a k] W (fT W (.b .a (eY l k:Nat))):=by
 have hl:=hr.len;have h0:=ab (vP l k);have h1:(k:Int)+2<=c:=by omega
 have h2:(k:Int)<=(k:Int)+2:=by omega
 have P:=hr.Sy (z:=k) (b:=k+2) (c:=c) (by omega) (by omega) (by omega);rw[kP,if_neg (by omega)]at P;have C:=ab (Nu _ 2 (c-k) _ W (by omega) (by omega) P);rw[JN l k (by omega)]at C;have h3:wrap64 (eY l k:Nat)=(eY l k:Nat):=by have:=h0.i;unfold wrap64;omega
 generalize eY l k=x at *;clear P hr;go_enter Tryz.func177,Tryz.ntmps177;go_wp2_with (go_at_call 180;with_reducible refine C.i.e ?_;rintro e w' ⟨rfl,hb⟩);go_ret;exact⟨congrArg (fun z=>uE (.b .a z)) h3,hb⟩
theorem OV(i:Int)(hi:i=k)(hk:k+1<n)(hnc:n<=c)(hc:c<=9223372036854775807)(hr:gu W W.a.j A n l):aP ah 177 #[.a A n c,.b .a i] W (fT W (.b .a (eY l k:Nat))):=by subst hi;exact ajQ W A n c l k hk hnc hc hr
theorem agw(hk:k+1<n)(hnn:n<=1000000000)(hr:gu W B A n l):aP ah 299 #[.a A n c,.b .a k] W fun e W'=>e=.a (.b .a (eY l k:Nat))/\∃q,W'=W.drewN q:=by
 obtain⟨a,rfl,_,h1⟩:=hr.fH (show k<n by omega);obtain⟨a',e,_,h2⟩:=hr.fH hk;injection e with e
 subst e;have h3:=h2;unfold qQ at h3;rw[if_neg (by omega)]at h3;have H:=ab (show eY l k=256*(l.b k 0).g+(l.b (k+1) 0).g from rfl);have b1:=(l.b k 0).a;have b2:=(l.b (k+1) 0).a;unfold bv at h1 h2 h3;generalize(l.b k 0).g=x at *;generalize(l.b (k+1) 0).g=y at *;have hk1:(k:Int)<n:=by omega
 have hk2:(k:Int)+1<n:=by omega
 have hk3:(0:Int)<=(k:Int)+1:=by omega
 have w1:=jW ((k:Int)+1) (by omega);have w2:=jW (x:Int) (by omega);have w3:=jW (y:Int) (by omega);have w4:=jW (256*(x:Int)) (by omega);have w5:=jW (256*(x:Int)+y) (by omega);clear hr;go_enter Tryz.func299,Tryz.ntmps299;go_wp2_with fail;go_quiet (fail);go_wp2;go_ret;exact⟨by rw[H.i];rfl,_,rfl⟩
theorem JO(hk:2<=n)(hnc:n<=c)(hc:c<=9223372036854775807)(hr:gu W W.a.j A n l):aP ah 173 #[.a A n c] W (fT W (.b .a (eY l 0:Nat))):=by
 have hl:=hr.len;have h0:=ab (vP l 0);have h1:(2:Int)<=c:=by omega
 have P:gu W W.a.j A 2 (l.d 2):=by
  have:=Rd.upto hr (k:=2) (by omega);rw[gL,<-AA]at this;exact this
 have C:=ab (Nu _ 2 c _ W (by omega) (by omega) P);rw[show oP ((l.d 2).d 8)=eY l 0 from JN l 0 (by omega)]at C;have h3:wrap64 (eY l 0:Nat)=(eY l 0:Nat):=by have:=h0.i;unfold wrap64;omega
 generalize eY l 0=x at *;clear P hr;go_enter Tryz.func173,Tryz.ntmps173;go_wp2_with (go_at_call 180;with_reducible refine C.i.e ?_;rintro e w' ⟨rfl,hb⟩);go_ret;exact⟨congrArg (fun z=>uE (.b .a z)) h3,hb⟩
def uy(n:Int):Bool:=decide (n=33024\/n=34984)
theorem abE(n:Int):aP ah 174 #[.b .a n] W fun e W'=>e=.a (.e (uy n))/\W=W':=by
 go_enter Tryz.func174,Tryz.ntmps174;go_wp2
 all_goals(go_ret;refine⟨?_,rfl⟩;(by_cases h1:n=33024<;>by_cases h2:n=34984<;>simp_all[uy]))
end
structure Lk where
 S:Vector UInt8 6
 h:Vector UInt8 6
 fP:List Tg
 oM:Int
 fH:Nat
def FC:Lk:=⟨bJ 6 0,bJ 6 0,[],0,0⟩
def Dw(l:List UInt8):Nat->Nat->List Tg->Lk×Int
 | m,k,fP=>if uy (eY l (k-2))then(match m with
  | 0=>(FC,4)
  | m+1=>if l.a<k+4 then(FC,2)else Dw l m (k+4) (fP++[⟨eY l (k-2),eY l k⟩]))
   else(⟨qE 6 l,qE 6 (l.f 6),fP,eY l (k-2),k⟩,0)
theorem zZ{l:List UInt8}{m k:Nat}{fP:List Tg}(h:uy (eY l (k-2):Nat)=false):Dw l m k fP=(⟨qE 6 l,qE 6 (l.f 6),fP,eY l (k-2),k⟩,0):=by cases m<;>simp[Dw,h]
theorem KZ{l:List UInt8}{k:Nat}{fP:List Tg}(h:uy (eY l (k-2):Nat)=true):Dw l 0 k fP=(FC,4):=by simp[Dw,h]
theorem Cx{l:List UInt8}{m k:Nat}{fP:List Tg}(h:uy (eY l (k-2):Nat)=true)(h2:l.a<k+4):Dw l (m+1) k fP=(FC,2):=by simp[Dw,h,h2]
theorem FD{l:List UInt8}{m k:Nat}{fP:List Tg}(h:uy (eY l (k-2):Nat)=true)(h2:¬l.a<k+4):Dw l (m+1) k fP=Dw l m (k+4) (fP++[⟨(eY l (k-2):Nat),(eY l k:Nat)⟩]):=by simp[Dw,h,h2]
def mO(l:List UInt8):Lk×Int:=if l.a<14 then(FC,2)else Dw l 2 14 []
def Lk.cell(x:Lk)(A:Option aT)(c:Nat):Lc:=⟨x.S,x.h,A,x.fP.a,c,x.oM,x.fH⟩
def LkP(W:ak)(r:Lk×Int)(e:lU)(W':ak):Prop:=∃A c,e=.a (.I #[.d (r.1.cell A c).ay,.b .a r.2])/\iE Tg.ay 2 W' W'.a.j A r.1.fP.a r.1.fP/\aL W.a.j W W'
theorem Hu{q r v:Array aB}(h:v.j=q.j):sV (q++r) 0 v=v++r:=by
 have:=Wp #[] (q++r) v (by simp;omega);simp only[Array.empty_append,Array.size_empty]at this;rw[this,h];simp[dD,uw]
theorem re{p q r v:Array aB}(h:v.j=q.j)(k:Nat)(hk:p.j=k):sV (p++(q++r)) k v=p++(v++r):=by
 subst hk;rw[Wp p (q++r) v (by simp;omega),h,gD];simp[dD,uw]
theorem dM.setCells{W:ak}{b:Nat}{c:Array aB}(h:dM W b c)(o:Nat)(vs:List aB):dM (W.setCells b o vs) b (sV c o vs.c):=by
 obtain⟨t,h⟩:=h;exact⟨t,U8 b t vs o c W h⟩
theorem Lc.abF(x:Lc)(v:Vector UInt8 6):sV x.ay 0 (Bl v)=({x with S:=v}:Lc).ay:=by
 unfold Lc.ay;exact Hu (by rw[gN,gN])
theorem Lc.abG(x:Lc)(v:Vector UInt8 6):sV x.ay 6 (Bl v)=({x with h:=v}:Lc).ay:=by
 unfold Lc.ay;exact re (by rw[gN,gN]) 6 (gN _)
theorem FH{P:eD}(W:ak){B y o m n c d:Nat}{A:Option aT}{l:List UInt8}(hR:gu W B A n l)(hm:m<=n)(hm0:0<m)(hth:W.K y o m)(T ty e:bE)(hu:P.k T=some (.a e))(hs:(P.l e).map (·.j)=some 1):
 (qR #[T,T] ty #[.a (some ⟨y,o,none⟩) m d,.a A n c]).G P W = .Y (goInt m) (W.setCells y o ((l.d m).map bv)):=by
 have hn:=hR.len;obtain⟨a,rfl,_,hc⟩:=hR.2 (by omega);have hl:((l.d m).map bv).a=m:=by simp;omega
 have:=run_copy_cells (P:=P) W T T ty e y o m d a n c ((l.d m).map bv) hu hs (by rw[hl];exact(Nat.min_eq_right hm).symm) (fun j v hj=>hc j v (by
  have hj2:j<m:=by
   rcases aZ j m with h|h
   ·exact h
   ·rw[aS (by rw[hl];exact h)]at hj;cases hj
  rw[iy,iw hj2,<-iy]at hj;exact hj)) (fun j hj=>(hth j (by rw[hl]at hj;exact hj)).1) (fun j hj=>(hth j (by rw[hl]at hj;exact hj)).2) (Gs _)
 rw[hl]at this;exact this
theorem OX(k:Nat)(l:List UInt8)(h:k<=l.a):(l.d k).map bv=(qE k l).a.map bv:=by
 congr 1;apply iR;intro j;rcases aZ j k with hj|hj
 ·rw[iw hj]
  simp[qE,hj,au,aC (show j<l.a by omega)]
 ·rw[aS (by simp;omega),aS (by simpa using hj)]
theorem aqC:abt 106 268 Tg.ay 2:=by
 obtain⟨i,h1,h2,h3⟩:=kTg.ags;have h4:(ah.l 268).map (fun i=>decide (i.bytes<=1000))=some true:=by kernel_rfl
 rw[h1]at h4;simp at h4;exact⟨i,_,Tryz.underlying106,h1,h3,h2,Tg.r _,by omega,h4,Tg.r,Tg.dw⟩
def asN(n:Nat)(ps:Array (Nat×aB)):xI aB:=bM 106 n ps
@[go_sem ↓]theorem azb(n:Nat)(ps:Array (Nat×aB)):bM 106 n ps=asN n ps:=rfl
@[go_sem]theorem axj(w:ak)(x:Tg):(asN 1 #[(0,.d x.ay)]).G ah w = .Y (.a (some ⟨w.a.j,0,none⟩) 1 1) (w.alloc (.D x.ay 268)):=by
 obtain⟨i,h1,h2,h3⟩:=kTg.ags;exact sD w _ _ i (.d Ui.ay) 2 Tryz.underlying106 h1 h3 h2 (Tg.r _) (by omega) (by omega) x.ay (Tg.r x)
section
variable {α:Type} {f:α->Array aB} {sz:Nat} {e:bE} {L:List (Nat×Array aB)} {w0 W:ak} {v:aB} {l:List α} {q:Nat} {c:Array aB}
theorem Rz.am7(h:Rz f sz e ((q,c)::L) w0 W v l)(hq:w0.a.j<=q)(hL:∀p∈L,p.1≠q)(j:Nat)(u:aB):Rz f sz e ((q,c.c j u)::L) w0 (W.F ⟨q,j,none⟩ u) v l:=
 ⟨U4 h.vL (h.r (q,c) (by simp)).2 u,h.O.F hq u,fun p hp=>by
  rcases bB.1 hp with rfl|hp
  ·exact⟨h.R.eX j u,(h.r (q,c) (by simp)).2⟩
  ·obtain⟨h1,h2⟩:=h.r p (by simp[hp]);exact⟨h1.dP _ u (fun e=>hL p hp e.symm),h2⟩⟩
theorem abH{base size n:Nat}{xs:List aB}(vs:List aB):∀(o:Nat)(W:ak),W.c base e size v n xs->v.f≠some q->(W.setCells q o vs).c base e size v n xs:=by
 induction vs with
 | nil=>exact fun _ _ h _=>h
 | cons u vs ih=>intro o W h hq;exact ih (o+1) _ (U4 h hq u) hq
theorem Rz.auV(h:Rz f sz e ((q,c)::L) w0 W v l)(hq:w0.a.j<=q)(hL:∀p∈L,p.1≠q)(o:Nat)(x:Array aB):Rz f sz e ((q,sV c o x)::L) w0 (gX W q o x) v l:=
 ⟨abH _ _ _ h.vL (h.r (q,c) (by simp)).2,lI h.O q o x hq,fun p hp=>by
  rcases bB.1 hp with rfl|hp
  ·exact⟨by have:=h.R.setCells o x.a;simpa[gX]using this,(h.r (q,c) (by simp)).2⟩
  ·obtain⟨h1,h2⟩:=h.r p (by simp[hp]);exact⟨h1.gK (hL p hp),h2⟩⟩
theorem Rz.swap{p1 p2:Nat×Array aB}(h:Rz f sz e (p1::p2::L) w0 W v l):Rz f sz e (p2::p1::L) w0 W v l:=
 ⟨h.vL,h.O,fun p hp=>h.r p (by simp at hp⊢;rcases hp with h|h|h<;>simp[h])⟩
end
theorem Rz.ans{α:Type}{f:α->Array aB}{sz:Nat}{e:bE}{w0 W:ak}{v:aB}{l:List α}{q r:Nat}{c d x:Array aB}(h:Rz f sz e [(q,c),(r,d)] w0 W v l)(hr:w0.a.j<=r)(hne:r≠q)(hx:x.j=d.j):Rz f sz e [(r,x),(q,c)] w0 (gX W r 0 x) v l:=by
 have h1:=h.swap.auV hr (fun p hp=>by rw[fV.1 hp];exact fun e=>hne e.symm) 0 x;refine⟨h1.vL,h1.O,fun p hp=>?_⟩;rcases bB.1 hp with rfl|hp
 ·exact⟨h.b1.put x hx,(h.r (r,d) (by simp)).2⟩
 ·exact h1.r p (by simp[hp])
theorem auW{ops:Array iM}{o:iM}{a:qG}{W:ak}{K:qG->ak->Prop}{Q:yP->qG->ak->Prop}{E:Prop}(hgd:o.guard=none)(h:nG ah o a W K Q):if fq o (yielded ops a.tmps)=true then nG ah o a W K Q else E:=by
 have hw:fq o (yielded ops a.tmps)=true:=by simp[fq,hgd]
 rw[if_pos hw];exact h
theorem auX{α:Type}{f:α->Array aB}{sz:Nat}{e t:bE}{L:List (Nat×Array aB)}{w0 W:ak}{l ys:List α}(T:abt t e f sz){ops:Array iM}{o:iM}{a:qG}{K:qG->ak->Prop}{Q:yP->qG->ak->Prop}{E:Prop}(hgd:o.guard=none)(s x:qj)
 (ho:o.op=.call {callee:=.builtin .append,args:=#[s,x],argTypes:=#[t,t]}) (v:aB) (A:Option aT) (m c:Nat) (hs:a.eval s=v) (H:Rz f sz e L w0 W v l) {C:Nat} (hx:a.eval x=.a A m c) (hr:iE f sz W C A m ys)
 (hlen:l.a+m<=1000000)
 (h:∀A' n' c' w',Rz f sz e L w0 w' (.a A' n' c') (l++ys)->W.d w' v.f->K (a.put o.S (.a A' n' c')) w'):if fq o (yielded ops a.tmps)=true then nG ah o a W K Q else E:=
 aqn T hgd s x ho hs H hx hr hlen h
@[go_sem]theorem azc(W:ak)(t k:Int):(uW 108 #[(3,.b .a t),(4,.b .a k)]).G ah W = .Y (.d (Lc.mk (bJ 6 0) (bJ 6 0) none 0 0 t k).ay) W:=
 kLc.bd W _ _ _ _ uG (ay8 W _ uG) rfl
def mP(l:List UInt8)(k:Nat):Nat:=(l.b k 0).g
theorem vB(l:List UInt8)(k:Nat):mP l k<256:=(l.b k 0).a
def JQ(l:List UInt8):fC:=⟨false,qE 16 (l.d 4)⟩
def MX(l:List UInt8):Nat:=mP l 0%16*4
def Rk(l:List UInt8):Fo:=⟨MX l,eY l 2,mP l 1,eY l 4,decide (eY l 6%16384≠0),decide (eY l 6/16384%2=1),mP l 8,mP l 9,JQ (l.f 12),JQ (l.f 16)⟩
def DZ(l:List UInt8):Int:=
 if l.a<20 then 2 else if mP l 0/16≠4\/MX l<20 then 3 else if l.a<MX l then 2 else if eY l 2<MX l then 3
 else if l.a<eY l 2 then 2 else if xA (l.d (MX l))≠0 then 8 else 0
def Ak(l:List UInt8):Fo×Int:=if DZ l=0 then(Rk l,0)else(xD,DZ l)
theorem fC.JR(a:fC):a.ay = #[.e a.h]++jc a.b:=by simp[fC.ay,jc]
section
variable (W:ak) (A:Option aT) (n c B:Nat) (l:List UInt8)
theorem aD3(l:List UInt8)(h:4<=l.a):sV nM.ay 1 ((l.d 4).map bv).c=(JQ l).ay:=by
 apply dZ;intro j;rw[EU,fC.JR,fC.JR];rcases j with _|j
 ·simp[nM,JQ,aD]
 ·rw[asM,asM]
  have hs:((l.d 4).map bv).c.j=4:=by simp;omega
  rw[hs,ou,dN];have hb:∀v:Vector UInt8 16,∀k,k<16->(jc v)[k]? = some (bv (v.a.b k 0)):=by
   intro v k hk;simp[jc,au,hk]
  rcases(show j<4\/(4<=j/\j<16)\/16<=j by omega)with h|⟨h,h'⟩|h
  ·rw[if_pos ⟨by omega,by omega,by simp;omega⟩,hb _ _ (by omega)]
   simp[JQ,qE,show j<16 by omega,h,au,iw h,aC (show j<l.a by omega)]
  ·rw[if_neg (by omega),hb _ _ h',hb _ _ h']
   have:(l.d 4).a<=j:=by simp;omega
   congr 2;rw[show nM.b.a=dY 16 0 from Vector.toList_replicate,au,List.getElem?_replicate,if_pos h'];simp[JQ,qE,h',au,aS this]
  ·rw[if_neg (by omega),aU (by rw[dN];exact h),aU (by rw[dN];exact h)]
theorem Zo(hn:4<=n)(hr:gu W W.a.j A n l):aP ah 248 #[.a A n c] W (fT W (.d (JQ l).ay)):=by
 have hl:=hr.len;have B1:=ab (((aG W.a.j W).alloc (av _) (.D nM.ay 27)).alloc (by simp) (.D nM.ay 27));have x1:=ab (dM.TJ W (.D nM.ay 27) nM.ay 27);have x0:=ab ((dM.new W nM.ay 27).alloc (.D nM.ay 27));have R1:=ab ((hr.M B1.i).lN B1.i.j:gu ((W.alloc (.D nM.ay 27)).alloc (.D nM.ay 27)) ((W.alloc (.D nM.ay 27)).alloc (.D nM.ay 27)).a.j A n l);go_enter Tryz.func248,Tryz.ntmps248;generalize hw1:(W.alloc (.D nM.ay 27)).alloc (.D nM.ay 27)=w1 at B1 x1 x0 R1;have cp:∀ty,(qR #[56,56] ty #[.a (some ⟨W.a.j+1,1,none⟩) 4 16,.a A n c]).G ah w1 = .Y (goInt 4) (gX w1 (W.a.j+1) 1 ((l.d 4).map bv).c):=fun ty=>by
  have h1:=x1.i.K 1 4 (by rw[fC.r];omega);have:=FH (c:=c) (d:=16) w1 R1.i (m:=4) hn (by omega) h1 56 ty 5 cO amI;rw[this];simp only[gX,List.toList_toArray];rfl
 have x2:=ab (x1.i.setCells 1 ((l.d 4).map bv));rw[aD3 l (by omega)]at x2;have x3:=ab (show dM (gX w1 (W.a.j+1) 1 ((l.d 4).map bv).c) (W.a.j+1) (JQ l).ay by have:=x2.i;simp only[gX,List.toList_toArray];exact this);have x4:=ab (show dM (gX w1 (W.a.j+1) 1 ((l.d 4).map bv).c) W.a.j nM.ay from x0.i.gK (by omega));have B2:=ab (lI B1.i (W.a.j+1) 1 ((l.d 4).map bv).c (by omega));obtain⟨a,ha⟩:=bZ (JQ l);rw[<-ha]at x3 ⊢;clear ha;obtain⟨v,hv⟩:=bZ (((l.d 4).map bv).c);rw[<-hv]at cp x3 x4 B2;clear hv x2;obtain⟨y1,y2,y3,y4⟩:=x3.i.J;have th:=x4.i.K 0 17 (by rw[fC.r];omega);go_upto_region 2 with fail
 clear hw1;go_wp2;have x5:=ab (x4.i.put a.ay (by rw[fC.r,fC.r]));refine aN (abx.zI rfl _ rfl x5.i (fC.r _)) rfl ?_;exact⟨rfl,lI B2.i _ _ _ (av _)⟩
end
theorem azd(b:Nat)(h:b<256):bits .and .b (b:Int) 15=((b%16:Nat):Int):=(by decide +kernel:∀b:Fin 256,bits .and .b ((b.val:Nat):Int) 15=((b.val%16:Nat):Int)) ⟨b,h⟩
theorem aze(x:Nat)(hx:x<=65535):(bits .and .a (x:Int) 16383 != 0)=decide (x%16384≠0):=by
 have h1:(gF 64 (x:Int)).g=x:=by rw[mD,nR];exact fO (by omega)
 have:bits .and .a (x:Int) 16383=((x%16384:Nat):Int):=by
  show bU.d ((gF 64 (x:Int) &&& gF 64 16383).g:Int)=_;rw[Gp,h1,show(gF 64 16383).g=2^14-1 by decide,Nat.and_two_pow_sub_one_eq_mod,jW _ (by omega)]
 rw[this,bF];simp;omega
theorem aqD(x k:Nat):(x &&& 2^k=0)↔x.testBit k=false:=by
 constructor
 ·intro h
  have:=congrArg (fun z=>Nat.testBit z k) h;simpa[Nat.testBit_and,Nat.testBit_two_pow]using this
 ·intro h
  apply Nat.eq_of_testBit_eq;intro i;rw[Nat.testBit_and,Nat.testBit_two_pow,Nat.zero_testBit];by_cases hi:k=i
  ·subst hi;simp[h]
  ·simp[hi]
theorem ajR(x:Nat)(hx:x<=65535):(bits .and .a (x:Int) 16384 != 0)=decide (x/16384%2=1):=by
 have h1:(gF 64 (x:Int)).g=x:=by rw[mD,nR];exact fO (by omega)
 have h2:x &&& 2^14<=x:=Nat.and_le_left;have:bits .and .a (x:Int) 16384=((x &&& 2^14:Nat):Int):=by
  show bU.d ((gF 64 (x:Int) &&& gF 64 16384).g:Int)=_;rw[Gp,h1,show(gF 64 16384).g=2^14 by decide,jW _ (by omega)]
 have h3:=aqD x 14;rw[Nat.testBit_eq_decide_div_mod_eq]at h3;have h4:((x &&& 2^14:Nat):Int)=0↔x &&& 2^14=0:=by omega
 rw[this,bF,bne_iff_ne,decide_eq_true_eq,Ne,h4,h3,decide_eq_false_iff_not,Classical.not_not]
theorem Hw{l:List UInt8}{k:Int}(h:DZ l=k)(hk:k≠0):Ak l=(xD,k):=by unfold Ak;rw[h,if_neg hk]
theorem auY{l:List UInt8}(h:DZ l=0):Ak l=(Rk l,0):=by unfold Ak;rw[if_pos h]
def FoP(W:ak)(r:Fo×Int)(e:lU)(W':ak):Prop:=e=.a (.I #[.d r.1.ay,.b .a r.2])/\aL W.a.j W W'
theorem aqE:mF 1 = #[0]:=by apply pQ;rw[kC];rfl
@[go_sem]theorem asO(w:ak)(A:Option aT)(a b:Nat):(Hq 1 #[(0,.a A a b)]).G ah w = .Y (.a (some ⟨w.a.j,0,none⟩) 1 1) (w.alloc (.D #[.a A a b] 56)):=by
 obtain⟨i0,hi0,hz0,hz1⟩:=UD;simp[Hq,bM,dJ Ei,zeroValue,sizeOf,typeInfo,hi0,hz0,hz1,fD,newRow,cZ,aqE]
theorem gu.Yk{w:ak}{B n:Nat}{A:Option aT}{l:List UInt8}(h:gu w B A n l)(k:Nat)(hk:k+1<n):∃a,A=some a/\w.b ⟨a.block,a.off+(k+1),none⟩=some (.b .b (mP l (k+1))):=by
 obtain⟨a,e,_,h1⟩:=h.fH hk;unfold qQ at h1;rw[if_neg (by omega)]at h1;exact⟨a,e,h1⟩
theorem OY(W:ak)(A:Option aT)(n c:Nat)(l:List UInt8)(hnc:n<=c)(hc:c<=9223372036854775807/\n<=1000000000)(hr:gu W W.a.j A n l):aP ah 175 #[.a A n c] W (FoP W (Ak l)):=by
 have HR:=ab hr;have hl:=ab hr.len;have b0:=ab (dM.new W xD.ay 192);have B0:=ab ((aG W.a.j W).alloc (av _) (.D xD.ay 192));clear hr;go_enter Tryz.func175,Tryz.ntmps175;by_cases h20:n<20
 ·have aqF:(n:Int)<20:=by omega
  have H:=ab (show Ak l=(xD,2)from Hw (by unfold DZ;rw[if_pos (by rw[hl.i];exact h20)]) (by decide));go_wp2;refine aN (kFo.qW rfl _ rfl b0.i (Fo.r _)) rfl ?_;rw[H.i];exact⟨rfl,B0.i⟩
 have aqF:¬(n:Int)<20:=by omega
 have i0:(0:Int)<n:=by omega
 have i0':0<n:=by omega
 generalize hw1:W.alloc (.D xD.ay 192)=w1 at b0 B0;obtain⟨T,f,n0,E0,es,ew⟩:=Cc (fun W'=>aL W.a.j W W'/\dM W' W.a.j xD.ay) w1 ⟨B0.i.drew,b0.i.drew⟩;have hT:Nonempty T:=⟨n0⟩
 have ES:=ab es;have EW:=ab ew;clear es ew;have RF:=ab (fun m=>(HR.i.M (ES.i m).1).lN (ES.i m).1.j:∀m,gu (f m) (f m).a.j A n l);have C2:=ab (fun m=>abD (f m) A n c l 2 2 rfl (by omega) hnc (by omega) (RF.i m));have C6:=ab (fun m=>abD (f m) A n c l 6 6 rfl (by omega) hnc (by omega) (RF.i m));obtain⟨a,rfl,hab,hc0⟩:=HR.i.fH (show 0<n by omega);rw[Kt]at hc0;have hf0:∀m,(f m).b a=some (.b .b (mP l 0)):=fun m=>((ES.i m).1.cell hab).trans hc0
 have hb:=vB l 0;have hA:=azd _ hb;have hw16:=jW ((mP l 0%16:Nat):Int) (by omega);have hw64:=jW (((mP l 0%16:Nat):Int)*4) (by omega);clear hc0;go_upto_region 3 with fail
 clear hw1;refine lQ f (by kernel_rfl) (by kernel_rfl) n0 E0 ?_
 repeat(go_big_quiet_step ((first
  | (go_at_call 246;with_reducible refine(C2.i _).e ?_;rintro e w2 ⟨rfl,hb⟩;exact⟨rfl,EW.i _ ⟨(ES.i _).1.trans (hb.e (ES.i _).1.j),(ES.i _).2.go hb⟩⟩)
  | (go_at_call 246;with_reducible refine(C6.i _).e ?_;rintro e w2 ⟨rfl,hb⟩;exact⟨rfl,EW.i _ ⟨(ES.i _).1.trans (hb.e (ES.i _).1.j),(ES.i _).2.go hb⟩⟩))))
 refine eG ?_;rintro _ ⟨m,rfl⟩;obtain⟨hS1,hS2⟩:=ES.i m;have S1:=ab hS1;have S2:=ab hS2;have R2:=ab (RF.i m);have cb:=hf0 m;clear hS1 hS2 ES EW RF C2 C6 hf0 E0 hT n0 hA hw16 hw64;generalize f m=w2 at *;have HE:=ab (fun(x:Fo)=>show dM (gX w2 W.a.j 0 x.ay) W.a.j x.ay/\aL W.a.j W (gX w2 W.a.j 0 x.ay)from⟨S2.i.put x.ay (by rw[Fo.r,Fo.r]),lI S1.i _ _ _ (av _)⟩);have yZ:=S2.i.K 0 42 (by rw[Fo.r];omega);obtain⟨hd,hhd⟩:=bZ (MX l);have HD:=ab hhd.symm;have ehd:(mP l 0:Int)%16*4=(hd:Int):=by rw[hhd];unfold MX;omega
 obtain⟨t,ht⟩:=bZ (eY l 2);have HT:=ab ht.symm;have htl:t<=65535:=by rw[ht];exact vP l 2
 rw[<-ht];clear hhd ht;have N20:=ab (show¬l.a<20 by rw[hl.i];exact h20);by_cases e1:¬mP l 0/16=4
 ·have q:((mP l 0:Int)/16 != 4)=true:=by rw[bne_iff_ne];omega
  have H:=ab (show Ak l=(xD,3)from Hw (by unfold DZ;rw[if_neg N20.i,if_pos (.a e1)]) (by decide));go_wp2;refine aN (kFo.qW rfl _ rfl (HE.i xD).1 (Fo.r _)) rfl ?_;rw[H.i];exact⟨rfl,(HE.i xD).2⟩
 have qe1:((mP l 0:Int)/16 != 4)=false:=by simp;omega
 by_cases e2:hd<20
 ·have q:(hd:Int)<20:=by omega
  have H:=ab (show Ak l=(xD,3)from Hw (by unfold DZ;rw[if_neg N20.i,if_pos (.b (by rw[HD.i];exact e2))]) (by decide));go_wp2;refine aN (kFo.qW rfl _ rfl (HE.i xD).1 (Fo.r _)) rfl ?_;rw[H.i];exact⟨rfl,(HE.i xD).2⟩
 have qe2:¬(hd:Int)<20:=by omega
 by_cases e3:n<hd
 ·have q:(n:Int)<hd:=by omega
  have H:=ab (show Ak l=(xD,2)from Hw (by unfold DZ;rw[if_neg N20.i,if_neg (fun h=>h.elim e1 (by rw[HD.i];exact e2)),if_pos (by rw[hl.i,HD.i];exact e3)]) (by decide));go_wp2;refine aN (kFo.qW rfl _ rfl (HE.i xD).1 (Fo.r _)) rfl ?_;rw[H.i];exact⟨rfl,(HE.i xD).2⟩
 have qe3:¬(n:Int)<hd:=by omega
 by_cases e4:t<hd
 ·have q:(t:Int)<hd:=by omega
  have H:=ab (show Ak l=(xD,3)from Hw (by unfold DZ;rw[if_neg N20.i,if_neg (fun h=>h.elim e1 (by rw[HD.i];exact e2)),if_neg (by rw[hl.i,HD.i];exact e3),if_pos (by rw[HT.i,HD.i];exact e4)]) (by decide));go_wp2;refine aN (kFo.qW rfl _ rfl (HE.i xD).1 (Fo.r _)) rfl ?_;rw[H.i];exact⟨rfl,(HE.i xD).2⟩
 have qe4:¬(t:Int)<hd:=by omega
 by_cases e5:n<t
 ·have q:(n:Int)<t:=by omega
  have H:=ab (show Ak l=(xD,2)from Hw (by unfold DZ;rw[if_neg N20.i,if_neg (fun h=>h.elim e1 (by rw[HD.i];exact e2)),if_neg (by rw[hl.i,HD.i];exact e3),if_neg (by rw[HT.i,HD.i];exact e4),if_pos (by rw[hl.i,HT.i];exact e5)]) (by decide));go_wp2;refine aN (kFo.qW rfl _ rfl (HE.i xD).1 (Fo.r _)) rfl ?_;rw[H.i];exact⟨rfl,(HE.i xD).2⟩
 have qe5:¬(n:Int)<t:=by omega
 have FE:=ab (show DZ l=if xA (l.d hd)≠0 then 8 else 0 by
  unfold DZ;rw[if_neg N20.i,if_neg (fun h=>h.elim e1 (by rw[HD.i];exact e2)),if_neg (by rw[hl.i,HD.i];exact e3),if_neg (by rw[HT.i,HD.i];exact e4),if_neg (by rw[hl.i,HT.i];exact e5),HD.i])
 have PH:gu w2 w2.a.j (some a) hd (l.d hd):=by
  have:=Rd.upto R2.i (k:=hd) (by omega);rw[gL,<-AA]at this;exact this
 have S3:=ab (S1.i.alloc S1.i.j (.D #[.a (some a) hd c] 56));have C13:=ab (adx (w2.alloc (.D #[.a (some a) hd c] 56)) w2.a.j (some a) hd c w2.a.j (l.d hd) (by omega) (lX _ _ _ _) (PH.alloc (av _) _));have S4:=ab (S2.i.alloc (.D #[.a (some a) hd c] 56));have R4:=ab ((R2.i.alloc (av _) (.D #[.a (some a) hd c] 56)).lN (by simp):gu (w2.alloc (.D #[.a (some a) hd c] 56)) (w2.alloc (.D #[.a (some a) hd c] 56)).a.j (some a) n l);have i4:(hd:Int)<=c:=by omega
 have hn4:=adw;clear PH HE yZ S1 S2 R2;obtain⟨d,hd⟩:=bZ (decide (xA (l.d hd)=0));have DD:=ab hd;rw[<-hd]at C13;clear hd;cases d with
 | false=>
   go_upto_region 14 with(go_at_call 247;with_reducible refine C13.i.e ?_;rintro e w3 ⟨rfl,rfl⟩)
   obtain⟨w3,hw3⟩:=bZ (w2.alloc (.D #[.a (some a) hd c] 56));rw[<-hw3]at S3 S4 R4 ⊢;clear hw3 C13;have HE:=ab (fun(x:Fo)=>show dM (gX w3 W.a.j 0 x.ay) W.a.j x.ay/\aL W.a.j W (gX w3 W.a.j 0 x.ay)from⟨S4.i.put x.ay (by rw[Fo.r,Fo.r]),lI S3.i _ _ _ (av _)⟩);have yZ:=S4.i.K 0 42 (by rw[Fo.r];omega);have e6:¬xA (l.d hd)=0:=of_decide_eq_false DD.i.symm;have H:=ab (show Ak l=(xD,8)from Hw (by rw[FE.i,if_pos e6]) (by decide));go_wp2;refine aN (kFo.qW rfl _ rfl (HE.i xD).1 (Fo.r _)) rfl ?_;rw[H.i];exact⟨rfl,(HE.i xD).2⟩
 | true=>
   go_upto_region 15 with(go_at_call 247;with_reducible refine C13.i.e ?_;rintro e w3 ⟨rfl,rfl⟩)
   obtain⟨w3,hw3⟩:=bZ (w2.alloc (.D #[.a (some a) hd c] 56));rw[<-hw3]at S3 S4 R4 ⊢;clear hw3 C13;have e6:xA (l.d hd)=0:=of_decide_eq_true DD.i.symm;have H0:=ab (show Ak l=(Rk l,0)from auY (by rw[FE.i,if_neg (by simp[e6])]));obtain⟨f1,f2,f3⟩:8<n/\9<n/\12+4<=n:=by omega
   obtain⟨u,hu⟩:=bZ (eY l 6);have hu0:u<=65535:=by rw[hu];exact vP l 6
   have HU:=ab hu;clear hu;have H:=ab (show Ak l=((⟨(hd:Int),(t:Int),(mP l 1:Nat),(eY l 4:Nat),decide (u%16384≠0),decide (u/16384%2=1),(mP l 8:Nat),(mP l 9:Nat),JQ (l.f 12),JQ (l.f 16)⟩:Fo),0)by rw[H0.i];unfold Rk;rw[HD.i,HT.i,<-HU.i]);have HU:=ab HU.i.symm;clear H0;rw[HU.i];have G14:=aze u hu0;have G15:=ajR u hu0;obtain⟨T,f,n0,E0,es,ew⟩:=Cc (fun W'=>aL W.a.j W W'/\dM W' W.a.j xD.ay) w3 ⟨S3.i.drew,S4.i.drew⟩;have hT:Nonempty T:=⟨n0⟩
   have ES:=ab es;have EW:=ab ew;clear es ew;have RF:=ab (fun m=>(HR.i.M (ES.i m).1).lN (ES.i m).1.j:∀m,gu (f m) (f m).a.j (some a) n l);have C4:=ab (fun m=>abD (f m) (some a) n c l 4 4 rfl (by omega) hnc (by omega) (RF.i m));have R12:=ab (fun m=>(RF.i m).from (z:=12) (c:=c) (by omega) hnc);have R16:=ab (fun m=>(RF.i m).from (z:=16) (c:=c) (by omega) hnc);have cne:¬c=12/\¬c=16:=by omega
   simp only[if_neg cne.1,if_neg cne.2,Option.map_some,show a.add 12=⟨a.block,a.off+12,none⟩by simp[qQ],show a.add 16=⟨a.block,a.off+16,none⟩by simp[qQ]]at R12 R16;have C12:=ab (fun m=>Zo (f m) _ (n-12) (c-12) _ (by omega) (R12.i m));have C16:=ab (fun m=>Zo (f m) _ (n-16) (c-16) _ (by omega) (R16.i m));obtain⟨_,he1,hc1⟩:=R4.i.Yk 0 (by omega);obtain⟨_,he8,hc8⟩:=R4.i.Yk 7 (by omega);obtain⟨_,he9,hc9⟩:=R4.i.Yk 8 (by omega);cases he1;cases he8;cases he9;have hf1:∀m,(f m).b ⟨a.block,a.off+1,none⟩=some (.b .b (mP l 1)):=fun m=>by
    obtain⟨_,he,hc⟩:=(RF.i m).Yk 0 (by omega);cases he;exact hc
   have hf8:∀m,(f m).b ⟨a.block,a.off+8,none⟩=some (.b .b (mP l 8)):=fun m=>by
    obtain⟨_,he,hc⟩:=(RF.i m).Yk 7 (by omega);cases he;exact hc
   have hf9:∀m,(f m).b ⟨a.block,a.off+9,none⟩=some (.b .b (mP l 9)):=fun m=>by
    obtain⟨_,he,hc⟩:=(RF.i m).Yk 8 (by omega);cases he;exact hc
   have hx1:=jW (mP l 1) (by have:=vB l 1;omega);have hx8:=jW (mP l 8) (by have:=vB l 8;omega);have hx9:=jW (mP l 9) (by have:=vB l 9;omega);clear hc1 hc8 hc9;clear R12 R16 S3 S4 R4 RF FE N20 DD HR B0 b0;refine Vy f 29 (by kernel_rfl) (by kernel_rfl) n0 E0 ?_;simp only[jA,j6,jU,lH]
   repeat(go_big_quiet_step ((first
    | (go_at_call 246;with_reducible refine(C4.i _).e ?_;rintro e w2 ⟨rfl,hb⟩;exact⟨rfl,EW.i _ ⟨(ES.i _).1.trans (hb.e (ES.i _).1.j),(ES.i _).2.go hb⟩⟩)
    | (go_at_call 248;with_reducible refine(C12.i _).e ?_;rintro e w2 ⟨rfl,hb⟩;exact⟨rfl,EW.i _ ⟨(ES.i _).1.trans (hb.e (ES.i _).1.j),(ES.i _).2.go hb⟩⟩)
    | (go_at_call 248;with_reducible refine(C16.i _).e ?_;rintro e w2 ⟨rfl,hb⟩;exact⟨rfl,EW.i _ ⟨(ES.i _).1.trans (hb.e (ES.i _).1.j),(ES.i _).2.go hb⟩⟩))))
   refine eG ?_;rintro _ ⟨m',rfl⟩;obtain⟨hS1,hS2⟩:=ES.i m';clear ES EW C12 C16 C4 hf1 hf8 hf9 E0;generalize f m'=w5 at *;clear hT n0;have HE:=ab (fun(x:Fo)=>show dM (gX w5 W.a.j 0 x.ay) W.a.j x.ay/\aL W.a.j W (gX w5 W.a.j 0 x.ay)from⟨hS2.put x.ay (by rw[Fo.r,Fo.r]),lI hS1 _ _ _ (av _)⟩);have yZ:=hS2.K 0 42 (by rw[Fo.r];omega);clear hS1 hS2;obtain⟨X,hX⟩:=bZ ((⟨(hd:Int),(t:Int),(mP l 1:Nat),(eY l 4:Nat),!decide (u%16384=0),decide (u/16384%2=1),(mP l 8:Nat),(mP l 9:Nat),JQ (l.f 12),JQ (l.f 16)⟩:Fo));have H:=ab (show Ak l=(X,0)by rw[H.i,hX];simp only[ne_eq,decide_not]);rw[<-hX];clear hX;have hE:=HE.i X;clear HE G14 G15 hx1 hx8 hx9 cne;go_step;go_simp;go_step;go_step;go_simp;go_step;go_step;go_wp2;refine aN (kFo.qW rfl _ rfl hE.1 (Fo.r _)) rfl ?_;rw[H.i];exact⟨rfl,hE.2⟩
structure ajS(g:FuncId):Prop where
 G:∀(c:Nat)(w:ak),aP ah g #[.b .b c] w fun e w'=>e=.a (.e ((c:Int) != 0))/\w=w'
 enter:∀(args:Array aB)(w:ak),(callFunc g args).G ah w = .Y (.enter g args) w
def nzB(l:List UInt8):Bool:=l.any fun b=>b != 0
theorem am8{l:List UInt8}(h:∀j,j<l.a->l.b j 0=0):nzB l=false:=by
 unfold nzB;rw[List.any_eq_false];intro b hb;obtain⟨j,hj,rfl⟩:=List.getElem_of_mem hb;have:=h j hj;simp[au,hj]at this;simp[this]
theorem au0{l:List UInt8}{j:Nat}(hj:j<l.a)(h:l.b j 0≠0):nzB l=true:=by
 unfold nzB;rw[List.any_eq_true];refine⟨l[j],fG _,?_⟩;simp[au,hj]at h;simp[h]
theorem azg(g:FuncId)(G:ajS g)(A:Option aT)(n c B:Nat)(w:ak)(l:List UInt8)(hc:n<=1000000000)(hr:gu w B A n l):
 aP ah 260 #[.a A n c,.func (.func g) #[] #[]] w fun e w'=>∃r:Int,e=.a (.b .a r)/\(decide (0<=r)=nzB l)/\w=w':=by
 have hen:=G.enter;have GG:=ab G.G;have HR:=ab hr;have hl:=ab hr.len;clear hr;go_enter Tryz.func260,Tryz.ntmps260;go_wp2;go_loop [8] (fun s8=>∃i:Nat,i<=n/\s8=.b .a i/\∀j,j<i->l.b j 0=0) (fun s8=>n-(intOf s8).g)
 case atStart=>exact⟨0,by omega,rfl,fun j h1=>by omega⟩
 case round=>
  obtain⟨i,hi,rfl,hall⟩:=hrel;have HA:=ab hall;clear hall;by_cases hlt:i<n
  ·have hin:(i:Int)<n:=by omega
   obtain⟨a,rfl,hab,hcell⟩:=HR.i.fH hlt;unfold bv at hcell;have hz:((l.b i 0).g:Int)=0↔l.b i 0=0:=by
    constructor
    ·intro h;apply kJ.1;have:(0:UInt8).g=0:=rfl;omega
    ·intro h;rw[h];rfl
   have HZ:=ab hz;clear hz hab;obtain⟨m,hm⟩:∃m:Nat,m=(l.b i 0).g:=⟨_,rfl⟩
   rw[<-hm]at hcell HZ;clear hm;by_cases h0:m=0
   ·have h1:((m:Int) != 0)=false:=by rw[h0];rfl
    have hz0:l.b i 0=0:=HZ.i.1 (by omega);have HZ0:=ab hz0;clear hz0 h0;go_wp2_with (refine(GG.i m _).e ?_;rintro e w' ⟨rfl,rfl⟩);go_round
    case rel=>exact⟨i+1,by omega,by go_num,fun j h1=>by
     by_cases hji:j=i
     ·rw[hji];exact HZ0.i
     ·exact HA.i j (by omega)⟩
    case measure=>simp[intOf]<;>omega
   ·have h1:((m:Int) != 0)=true:=by rw[bne_iff_ne];omega
    have Gy:=ab (au0 (l:=l) (j:=i) (by rw[hl.i];exact hlt) (fun h=>h0 (by have:=HZ.i.2 h;omega)));clear h0;go_wp2_with (refine(GG.i m _).e ?_;rintro e w' ⟨rfl,rfl⟩);go_ret;exact⟨_,rfl,by rw[Gy.i];simp,rfl⟩
  ·obtain rfl:i=n:=by omega
   have HS:=ab (am8 (l:=l) (fun j hj=>HA.i j (by rw[hl.i]at hj;exact hj)));go_wp2;go_ret;exact⟨_,rfl,by rw[HS.i];simp,rfl⟩
theorem ah4(g:FuncId)(G:ajS g)(A:Option aT)(n c B:Nat)(w:ak)(l:List UInt8)(hc:n<=1000000000)(hr:gu w B A n l):
 aP ah 189 #[.a A n c,.func (.func g) #[] #[]] w fun e w'=>e=.a (.e (nzB l))/\w=w':=by
 have I:=ab (azg g G A n c B w l hc hr);clear hr;go_enter Tryz.func189,Tryz.ntmps189;go_wp2_with (go_at_call 260;refine I.i.e ?_;rintro e w' ⟨r,rfl,hr,rfl⟩);go_ret;exact⟨by simp,rfl⟩
theorem am9:ajS 354:=⟨fun c w=>by
 go_enter Tryz.func354,Tryz.ntmps354;go_wp2;go_ret;exact⟨rfl,rfl⟩,fun args w=>by kernel_rfl⟩
theorem gu.OZ{w:ak}{B b o:Nat}{l:List UInt8}(hb:b<B)(h:∀j,j<l.a->w.b ⟨b,o+j,none⟩=some (bv (l.b j 0))):gu w B (some ⟨b,o,none⟩) l.a l:=by
 refine⟨by simp,fun h0=>⟨⟨b,o,none⟩,rfl,hb,fun j u hu=>?_⟩⟩;have hj:j<l.a:=by
  rcases aZ j l.a with h1|h1
  ·exact h1
  ·rw[aS (by simpa using h1)]at hu;cases hu
 rw[show(⟨b,o,none⟩:aT).add j=⟨b,o+j,none⟩by unfold qQ;split<;>simp_all,h j hj];rw[iy,aC hj]at hu;simp only[Option.map_some,Option.some.injEq]at hu;rw[<-hu,au,aC hj];rfl
theorem K6(a:fC):nzB (a.b.a.f 4) = !a.lG:=by
 unfold nzB fC.lG;rw[List.any_eq_not_all_not];congr 2;funext c;show(!(c != 0))=(c==0);unfold bne;rw[Bool.not_not]
theorem gu.tail{w:ak}{B h:Nat}{a:fC}(hb:h<B)(x:dM w h a.ay):gu w B (some ⟨h,5,none⟩) 12 (a.b.a.f 4):=by
 have hl:(a.b.a.f 4).a=12:=by rw[jF,fC.ax8]
 have:=gu.OZ (w:=w) (o:=5) (l:=a.b.a.f 4) hb (fun j hj=>by
  rw[hl]at hj;rw[x.J.1 (5+j),show 5+j=(4+j)+1 by omega,fC.BR a (4+j) (by omega)];simp[au])
 rwa [hl]at this
theorem agy(k m:Int)(w:ak):aP ah 316 #[.b .a k,.b .a m] w (fT w (.e (decide (0<=k)&&decide (k<=m)))):=by
 go_enter Tryz.func316,Tryz.ntmps316;by_cases h1:0<=k<;>by_cases h2:k<=m
 all_goals
  go_wp2;go_ret;exact⟨by simp[h1,h2],aG _ _⟩
theorem Wt(a:fC)(w:ak):aP ah 317 #[.d a.ay] w (fT w (.e (!a.h&&a.lG))):=by
 have HB:=ab ((aG w.a.j w).alloc (av _) (.D a.ay 27));have x0:=dM.new w a.ay 27;have C:=ab (ah4 _ am9 _ 12 12 _ _ _ (by omega) (gu.tail (B:=w.a.j+1) (mV _) x0));have HS:=ab (K6 a);obtain⟨z,hz⟩:=bZ (nzB (a.b.a.f 4));rw[<-hz]at C HS;clear hz;cases h6:a.h
 ·have H6:=ab h6
  go_enter Tryz.func317,Tryz.ntmps317;go_wp2_with fail;refine C.i.e ?_;rintro e w' ⟨rfl,rfl⟩;cases z
  all_goals
   go_wp2;go_ret;exact⟨by have:=HS.i;simp at this;simp[<-this],HB.i⟩
 ·go_enter Tryz.func317,Tryz.ntmps317
  go_wp2;go_ret;exact⟨rfl,HB.i⟩
theorem ajU(k:Int)(w:ak):aP ah 313 #[.b .a k] w (fT w (.b .a (if k=6 then 16 else if k=17 then 6 else 0))):=by
 go_enter Tryz.func313,Tryz.ntmps313;by_cases h1:k=6
 ·subst h1
  go_wp2;go_ret;exact⟨rfl,aG _ _⟩
 by_cases h2:k=17
 ·subst h2
  go_wp2;go_ret;exact⟨rfl,aG _ _⟩
 have q1:(k==6)=false:=by simp[h1]
 have q2:(k==17)=false:=by simp[h2]
 go_wp2;go_ret;exact⟨rfl,aG _ _⟩
@[go_sem]theorem aD8(W:ak)(a b c d:Int):(uW 172 #[(0,.b .a a),(1,.b .a b),(3,.b .a c),(4,.b .a d)]).G ah W = .Y (.d (Pt.mk a b 0 c d).ay) W:=UH.bd W _ _ _ _ pX (auO W _ pX) rfl
def qM(aQ:Int)(l:List UInt8):Pt:=if aQ=6 then⟨eY l 0,eY l 2,(mP l 13%64:Nat),(mP l 12/16*4:Nat),l.a⟩else⟨eY l 0,eY l 2,0,8,eY l 4⟩
def vC(aQ:Int)(l:List UInt8):Int:=
 if aQ≠6/\aQ≠17 then 5 else if l.a<(if aQ=6 then 20 else 8)then 2
 else if(aQ=6/\(qM aQ l).head<20)\/(qM aQ l).dB<8 then 3 else if(l.a:Int)<max (qM aQ l).head (qM aQ l).dB then 2 else 0
def JU(aQ:Int)(l:List UInt8):Pt×Int:=if vC aQ l=0 then(qM aQ l,0)else(ra,vC aQ l)
theorem uT{p:Int}{l:List UInt8}{k:Int}(h:vC p l=k)(hk:k≠0):JU p l=(ra,k):=by unfold JU;rw[h,if_neg hk]
theorem Wu{p:Int}{l:List UInt8}(h:vC p l=0):JU p l=(qM p l,0):=by unfold JU;rw[if_pos h]
def PtP(W:ak)(r:Pt×Int)(e:lU)(W':ak):Prop:=e=.a (.I #[.d r.1.ay,.b .a r.2])/\aL W.a.j W W'
theorem gu.upon{W w1:ak}{n:Nat}{A:Option aT}{l:List UInt8}(h:gu W W.a.j A n l)(hb:aL W.a.j W w1):gu w1 w1.a.j A n l:=(h.M hb).lN hb.j
theorem azh(b:Nat)(h:b<256):bits .and .b (b:Int) 63=((b%64:Nat):Int):=(by decide +kernel:∀b:Fin 256,bits .and .b ((b.val:Nat):Int) 63=((b.val%64:Nat):Int)) ⟨b,h⟩
theorem abI(W:ak)(p:Int)(A:Option aT)(n c:Nat)(l:List UInt8)(hnc:n<=c)(hc:c<=9223372036854775807/\n<=1000000000)(hr:gu W W.a.j A n l):aP ah 95 #[.b .a p,.a A n c] W (PtP W (JU p l)):=by
 have HR:=ab hr;have hl:=ab hr.len;have b0:=ab (dM.new W ra.ay 172);have B0:=ab ((aG W.a.j W).alloc (av _) (.D ra.ay 172));clear hr;go_enter Tryz.func95,Tryz.ntmps95;by_cases hp:p≠6/\p≠17
 ·have q1:(p==6)=false:=by simp[hp.1]
  have q2:(p != 17)=true:=by simp[hp.2]
  have H:=ab (show JU p l=(ra,5)from uT (by unfold vC;rw[if_pos hp]) (by decide));go_wp2;refine aN (UH.qW rfl _ rfl b0.i (Pt.r _)) rfl ?_;rw[H.i];exact⟨rfl,B0.i⟩
 have HP:=ab hp;by_cases p6:p=6
 ·subst p6
  by_cases h20:n<20
  ·have aqF:(n:Int)<20:=by omega
   have H:=ab (show JU 6 l=(ra,2)from uT (by unfold vC;rw[if_neg HP.i,if_pos rfl,if_pos (by rw[hl.i];exact h20)]) (by decide));go_wp2;refine aN (UH.qW rfl _ rfl b0.i (Pt.r _)) rfl ?_;rw[H.i];exact⟨rfl,B0.i⟩
  have aqF:¬(n:Int)<20:=by omega
  have h8':¬(n:Int)<8:=by omega
  have R1:=HR.i.upon B0.i;have C0:=ab (OV _ A n c l 0 0 rfl (by omega) hnc (by omega) R1);go_upto_region 9 with(go_at_call 177;first|(refine C0.i.e ?_;rintro e w1 ⟨rfl,hb1⟩;have C2:=ab (OV w1 A n c l 2 2 rfl (by omega) hnc (by omega) ((HR.i.upon B0.i).upon hb1));clear C0)|(refine C2.i.e ?_;rintro e w2 ⟨rfl,hb2⟩))
  have B2:=ab (B0.i.trans (hb1.e B0.i.j));have B3:=ab (B2.i.trans (hb2.e B2.i.j));have R2:=ab (HR.i.upon B3.i);have b2:=ab ((b0.i.go hb1).go hb2);clear hb1 hb2 C2;obtain⟨k,hk⟩:=bZ w2.a.j;obtain⟨w3,hw3⟩:=bZ (w2.alloc (.D (Pt.mk (eY l 0) (eY l 2) 0 8 n).ay 172));have x3:=ab (show dM w3 k (Pt.mk (eY l 0) (eY l 2) 0 8 n).ay by rw[hw3,hk];exact dM.new _ _ _);have b3:=ab (show dM w3 W.a.j ra.ay by rw[hw3];exact b2.i.alloc _);have R3:=ab (show gu w3 k A n l by rw[hw3,hk];exact R2.i.alloc (av _) _);have hlt:=b2.i.lt;have hs3:W.a.j<k:=by rw[hk];exact hlt
  rw[<-hw3,<-hk];have B4:=ab (show aL W.a.j W w3 by rw[hw3];exact B3.i.alloc B3.i.j _);clear hk hw3 hlt R2 b2 B2 B3 B0 b0;obtain⟨a,ea,hab,_⟩:=R3.i.fH (show 0<n by omega);subst ea;obtain⟨_,e12,h12⟩:=R3.i.Yk 11 (by omega);cases e12;obtain⟨_,e13,h13⟩:=R3.i.Yk 12 (by omega);cases e13;have hne:a.block≠k:=by omega
  have hne':k≠a.block:=by omega
  obtain⟨x1,x2,x4,x5⟩:=x3.i.J;obtain⟨i12,i13⟩:12<n/\13<n:=by omega
  have aD9:=vB l 12;have hA:=ab (azh _ (vB l 13));have hw1:bU.d ((mP l 12:Int)/16)=(mP l 12:Int)/16:=jW _ (by omega);have hw2:bU.d ((mP l 12:Int)/16*4)=(mP l 12:Int)/16*4:=jW _ (by omega);have hw3:wrap64 ((mP l 13%64:Nat):Int)=((mP l 13%64:Nat):Int):=by unfold wrap64;omega
  have hw1:=ab hw1;have hw2:=ab hw2;have hw3:=ab hw3;have hw4:bU.d ((mP l 13%64:Nat):Int)=((mP l 13%64:Nat):Int):=jW _ (by omega);have hw4:=ab hw4;clear aD9;go_region_held_law (fun W'=>W'.b ⟨a.block,a.off+12,none⟩=some (.b .b (mP l 12))/\W'.b ⟨a.block,a.off+13,none⟩=some (.b .b (mP l 13)))
   (first|exact⟨h12,h13⟩|go_keep) (fail)
  all_goals
   go_upto_region 11 with fail
  all_goals
   have eh:(mP l 12:Int)/16*4=((mP l 12/16*4:Nat):Int):=by omega
   simp only[hA.i,hw1.i,hw2.i,hw3.i,hw4.i,eh];obtain⟨g,hg⟩:=bZ (mP l 13%64);obtain⟨h,hh⟩:=bZ (mP l 12/16*4);have G0:=ab (show qM 6 l=⟨eY l 0,eY l 2,(g:Nat),(h:Nat),n⟩by unfold qM;rw[if_pos rfl,<-hg,<-hh,hl.i]);rw[<-hg,<-hh];clear hg hh eh hA hw1 hw2 hw3 hw4 h12 h13 x1 x2 x4 x5;have X1:=x3.i.eX 3 (.b .a (h:Int));rw[Pt.OQ]at X1;have X2:=X1.eX 2 (.b .a (g:Int));rw[Pt.Ri]at X2;have b5:=(b3.i.dP ⟨k,3,none⟩ (.b .a (h:Int)) (by show k≠_;omega)).dP ⟨k,2,none⟩ (.b .a (g:Int)) (by show k≠_;omega);have B5:=((B4.i.F (p:=⟨k,3,none⟩) (mX hs3) (.b .a (h:Int))).F (p:=⟨k,2,none⟩) (mX hs3) (.b .a (g:Int))).drew;have X2:=X2.drew;have b5:=b5.drew;clear x3 b3 B4 R3 X1;generalize((w3.F ⟨k,3,none⟩ (.b .a (h:Int))).F ⟨k,2,none⟩ (.b .a (g:Int))).drew=w5 at *;have N20:=ab (show¬l.a<(if(6:Int)=6 then 20 else 8)by rw[if_pos rfl,hl.i];exact h20);have HE:=ab (fun(x:Pt)=>show dM (gX w5 W.a.j 0 x.ay) W.a.j x.ay/\aL W.a.j W (gX w5 W.a.j 0 x.ay)from⟨b5.put x.ay (by rw[Pt.r,Pt.r]),lI B5 _ _ _ (av _)⟩);have yZ:=b5.K 0 5 (by rw[Pt.r];omega);obtain⟨y1,y2,y3,y4⟩:=X2.J;clear b5 B5 X2;have n8:¬(n:Int)<8:=by omega
   by_cases e1:h<20
   ·have q:(h:Int)<20:=by omega
    have H:=ab (show JU 6 l=(ra,3)from uT (by unfold vC;rw[if_neg HP.i,if_neg N20.i,if_pos (.a ⟨rfl,by rw[G0.i];exact q⟩)]) (by decide));go_wp2;refine aN (UH.qW rfl _ rfl (HE.i ra).1 (Pt.r _)) rfl ?_;rw[H.i];exact⟨rfl,(HE.i ra).2⟩
   have q:¬(h:Int)<20:=by omega
   by_cases e2:n<h
   ·have q2:max (h:Int) n>n:=by omega
    have H:=ab (show JU 6 l=(ra,2)from uT (by unfold vC;rw[if_neg HP.i,if_neg N20.i,if_neg (by rw[G0.i];rintro(h|h);exact q h.2;exact n8 h),if_pos (by rw[G0.i,hl.i];exact q2)]) (by decide));go_wp2;refine aN (UH.qW rfl _ rfl (HE.i ra).1 (Pt.r _)) rfl ?_;rw[H.i];exact⟨rfl,(HE.i ra).2⟩
   have q2:¬max (h:Int) n>n:=by omega
   have H:=ab (show JU 6 l=(qM 6 l,0)from Wu (by unfold vC;rw[if_neg HP.i,if_neg N20.i,if_neg (by rw[G0.i];rintro(h|h);exact q h.2;exact n8 h),if_neg (by rw[G0.i,hl.i];exact q2)]));rw[G0.i]at H;go_wp2;refine aN (UH.qW rfl _ rfl (HE.i ⟨eY l 0,eY l 2,(g:Nat),(h:Nat),n⟩).1 (Pt.r _)) rfl ?_;rw[H.i];exact⟨rfl,(HE.i _).2⟩
 ·obtain rfl:p=17:=by omega
  by_cases h20:n<8
  ·have aqF:(n:Int)<8:=by omega
   have H:=ab (show JU 17 l=(ra,2)from uT (by unfold vC;rw[if_neg HP.i,if_neg p6,if_pos (by rw[hl.i];exact h20)]) (by decide));go_wp2;refine aN (UH.qW rfl _ rfl b0.i (Pt.r _)) rfl ?_;rw[H.i];exact⟨rfl,B0.i⟩
  have h8':¬(n:Int)<8:=by omega
  have R1:=HR.i.upon B0.i;have C0:=ab (OV _ A n c l 0 0 rfl (by omega) hnc (by omega) R1);have q6:((17:Int)==6)=false:=rfl;go_upto_region 10 with(go_at_call 177;first|(refine C0.i.e ?_;rintro e w1 ⟨rfl,hb1⟩;have C2:=ab (OV w1 A n c l 2 2 rfl (by omega) hnc (by omega) ((HR.i.upon B0.i).upon hb1));clear C0)|(refine C2.i.e ?_;rintro e w2 ⟨rfl,hb2⟩))
  have B2:=ab (B0.i.trans (hb1.e B0.i.j));have B3:=ab (B2.i.trans (hb2.e B2.i.j));have R2:=ab (HR.i.upon B3.i);have b2:=ab ((b0.i.go hb1).go hb2);clear hb1 hb2 C2;obtain⟨k,hk⟩:=bZ w2.a.j;obtain⟨w3,hw3⟩:=bZ (w2.alloc (.D (Pt.mk (eY l 0) (eY l 2) 0 8 n).ay 172));have x3:=ab (show dM w3 k (Pt.mk (eY l 0) (eY l 2) 0 8 n).ay by rw[hw3,hk];exact dM.new _ _ _);have b3:=ab (show dM w3 W.a.j ra.ay by rw[hw3];exact b2.i.alloc _);have R3:=ab (show gu w3 w3.a.j A n l by rw[hw3];exact(R2.i.alloc (av _) _).lN (by simp));have hlt:=b2.i.lt;have hs3:W.a.j<k:=by rw[hk];exact hlt
  rw[<-hw3,<-hk];have B4:=ab (show aL W.a.j W w3 by rw[hw3];exact B3.i.alloc B3.i.j _);clear hk hw3 hlt R2 b2 B2 B3 B0 b0;have C4:=ab (OV w3 A n c l 4 4 rfl (by omega) hnc (by omega) R3.i);have hk3:=x3.i.lt;go_upto_region 11 with(go_at_call 177;refine C4.i.e ?_;rintro e w4 ⟨rfl,hb4⟩;have b4:=ab (b3.i.go hb4);have x4:=ab (x3.i.go hb4);have B5:=ab (B4.i.trans (hb4.e B4.i.j));obtain⟨x5,x6,x7,x8⟩:=x4.i.J;clear hb4)
  obtain⟨t,ht⟩:=bZ (eY l 4);have G0:=ab (show qM 17 l=⟨eY l 0,eY l 2,0,8,(t:Nat)⟩by unfold qM;rw[if_neg (by decide),<-ht]);rw[<-ht];clear ht;have X2:=x4.i.eX 4 (.b .a (t:Int));rw[Pt.Rj]at X2;have b5:=b4.i.dP ⟨k,4,none⟩ (.b .a (t:Int)) (by show k≠_;omega);have B6:=B5.i.F (p:=⟨k,4,none⟩) (mX hs3) (.b .a (t:Int));clear x3 b3 B4 R3 x4 b4 B5 x5 x6 x7 x8 C4;generalize w4.F ⟨k,4,none⟩ (.b .a (t:Int))=w5 at *;have N20:=ab (show¬l.a<(if(17:Int)=6 then 20 else 8)by rw[if_neg (by decide),hl.i];exact h20);have HE:=ab (fun(x:Pt)=>show dM (gX w5 W.a.j 0 x.ay) W.a.j x.ay/\aL W.a.j W (gX w5 W.a.j 0 x.ay)from⟨b5.put x.ay (by rw[Pt.r,Pt.r]),lI B6 _ _ _ (av _)⟩);have yZ:=b5.K 0 5 (by rw[Pt.r];omega);obtain⟨y1,y2,y3,y4⟩:=X2.J;clear b5 B6 X2;by_cases e1:t<8
  ·have q:(t:Int)<8:=by omega
   have H:=ab (show JU 17 l=(ra,3)from uT (by unfold vC;rw[if_neg HP.i,if_neg N20.i,if_pos (.b (by rw[G0.i];exact q))]) (by decide));go_wp2;refine aN (UH.qW rfl _ rfl (HE.i ra).1 (Pt.r _)) rfl ?_;rw[H.i];exact⟨rfl,(HE.i ra).2⟩
  have q:¬(t:Int)<8:=by omega
  by_cases e2:n<t
  ·have q2:max (8:Int) t>n:=by omega
   have H:=ab (show JU 17 l=(ra,2)from uT (by unfold vC;rw[if_neg HP.i,if_neg N20.i,if_neg (by rw[G0.i];rintro(h|h);exact p6 h.1;exact q h),if_pos (by rw[G0.i,hl.i];exact q2)]) (by decide));go_wp2;refine aN (UH.qW rfl _ rfl (HE.i ra).1 (Pt.r _)) rfl ?_;rw[H.i];exact⟨rfl,(HE.i ra).2⟩
  have q2:¬max (8:Int) t>n:=by omega
  have H:=ab (show JU 17 l=(qM 17 l,0)from Wu (by unfold vC;rw[if_neg HP.i,if_neg N20.i,if_neg (by rw[G0.i];rintro(h|h);exact p6 h.1;exact q h),if_neg (by rw[G0.i,hl.i];exact q2)]));rw[G0.i]at H;go_wp2;refine aN (UH.qW rfl _ rfl (HE.i ⟨eY l 0,eY l 2,0,8,(t:Nat)⟩).1 (Pt.r _)) rfl ?_;rw[H.i];exact⟨rfl,(HE.i _).2⟩
def JV(n:Nat):Array aB:=((dY n (0:UInt8)).map bv).c
theorem ad5(n:Nat):(JV n).j=n:=by simp[JV]
theorem agz(n:Nat):madeCells (aI .b 0).D n=JV n:=by
 apply dZ;intro j;rcases aZ j n with h|h
 ·simp[madeCells,JV,cZ,bv,h,Nat.mod_one]
 ·rw[aU (by simp[madeCells];omega),aU (by rw[ad5];omega)]
theorem ajV(n:Nat)(hn:n<=16777216)(w:ak):(xU 56 (.b .a (n:Int)) (.b .a (n:Int))).G ah w = .Y (.a (some ⟨w.a.j,0,none⟩) n n) (w.alloc (.D (JV n) 5)):=by
 obtain⟨i0,hi0,hz0,hz1,hz2⟩:=yE;have:=run_makeSlice w 56 5 i0 _ cO hi0 hz0 .a .a (n:Int) (n:Int) (by omega) (Int.le_refl _) (by rw[hz1];simp;omega) (by rw[hz2];omega) (by omega);rw[this,hz1,Int.toNat_natCast,gL,agz]
def rG(p:Int)(l:List UInt8):Nat:=if p=0\/p=43\/p=60 then mP l 1*4+mP l 1*4+8 else if p=51 then mP l 1*4+8 else if p=44 then 8 else 0
def Aa(p:Int):Bool:=decide (p=0\/p=43\/p=60\/p=51\/p=44)
theorem SA(p:Int)(l:List UInt8):(0<rG p l)↔Aa p=true:=by
 unfold rG Aa;rw[decide_eq_true_eq];split
 ·rename_i h;constructor
  ·intro _;rcases h with h|h|h<;>simp[h]
  ·intro _;omega
 ·split
  ·rename_i h;simp[h]
  ·split
   ·rename_i h;simp[h]
   ·simp;omega
theorem agA(p:Int)(l:List UInt8):rG p l<=2048:=by
 have:=vB l 1;unfold rG
 repeat(first|split|omega)
theorem SC(p:Int)(A:Option aT)(n c B:Nat)(l:List UInt8)(W:ak)(h2:2<=n)(hr:gu W B A n l):aP ah 251 #[.b .a p,.a A n c] W fun e W'=>e=.a (.b .a (rG p l))/\W=W':=by
 obtain⟨a,rfl,hc⟩:=hr.Yk 0 (by omega);have i1:1<n:=by omega
 have E:=ab (show∀b,b=mP l 1->rG p l=if p=0\/p=43\/p=60 then b*4+b*4+8 else if p=51 then b*4+8 else if p=44 then 8 else 0 from fun b h=>by rw[h];rfl);obtain⟨b,hb⟩:=bZ (mP l 1);have Yz:b<256:=by rw[hb];exact vB l 1
 have E:=ab (E.i b hb);rw[<-hb]at hc;clear hb hr;have w1:=jW (b:Int) (by omega);have w2:=jW ((b:Int)*4) (by omega);have w3:=jW ((b:Int)*4+b*4) (by omega);have w4:=jW ((b:Int)*4+b*4+8) (by omega);have w5:=jW ((b:Int)*4+8) (by omega);by_cases p0:p=0
 ·subst p0
  go_enter Dp,AB;go_wp2;go_ret;exact⟨by rw[E.i];simp,rfl⟩
 by_cases p43:p=43
 ·subst p43
  go_enter Dp,AB;go_wp2;go_ret;exact⟨by rw[E.i];simp,rfl⟩
 by_cases p60:p=60
 ·subst p60
  go_enter Dp,AB;go_wp2;go_ret;exact⟨by rw[E.i];simp,rfl⟩
 by_cases p51:p=51
 ·subst p51
  go_enter Dp,AB;go_wp2;go_ret;exact⟨by rw[E.i];simp,rfl⟩
 by_cases p44:p=44
 ·subst p44
  go_enter Dp,AB;go_wp2;go_ret;exact⟨by rw[E.i];simp,rfl⟩
 have q0:(p==0)=false:=by simp[p0]
 have q43:(p==43)=false:=by simp[p43]
 have q60:(p==60)=false:=by simp[p60]
 have q51:(p==51)=false:=by simp[p51]
 have q44:(p==44)=false:=by simp[p44]
 go_enter Dp,AB;go_wp2;go_ret;exact⟨by rw[E.i];simp[p0,p43,p60,p51,p44],rfl⟩
@[go_sem]theorem au1(w:ak):(xU 56 (.b .a 8) (.b .a 8)).G ah w = .Y (.a (some ⟨w.a.j,0,none⟩) 8 8) (w.alloc (.D (JV 8) 5)):=ajV 8 (by decide) w
theorem gu.au2(W:ak):gu (W.alloc (.D (JV 8) 5)) (W.a.j+1) (some ⟨W.a.j,0,none⟩) 8 (dY 8 0):=by
 refine gu.OZ (l:=dY 8 0) (mV _) (fun j hj=>?_);rw[lX,bl];rcases j with _|_|_|_|_|_|_|_|j
 all_goals first|rfl|(simp at hj;omega)
theorem Wv(p:Int)(W:ak):aP ah 250 #[.b .a p] W (fT W (.e (Aa p))):=by
 have C:=ab (SC p _ 8 8 _ _ _ (by decide) (gu.au2 W));have B:=ab ((aG W.a.j W).alloc (av _) (.D (JV 8) 5));have E:=ab (SA p (dY 8 0));generalize rG p (dY 8 0)=x at *;go_enter Tryz.func250,Tryz.ntmps250;go_wp2_with (go_at_call 251;refine C.i.e ?_;rintro e w ⟨rfl,rfl⟩);go_ret;have e:decide (0<x)=Aa p:=by rw[bF,<-E.i,decide_eq_true_eq]
 exact⟨congrArg (fun z=>uE (.e z)) e,B.i⟩
def MZ(r:List UInt8):Bool:=decide (mP r 2≠0\/mP r 3/8≠0\/mP r 3%2=1)
theorem ajW:∀a:Fin 256,∀b:Fin 256,((256*a.val+b.val) &&& 65529==0) = !(decide (a.val≠0\/b.val/8≠0\/b.val%2=1)):=by decide +kernel
theorem aqG(l:List UInt8)(k:Nat):eY l k=256*mP l k+mP l (k+1):=rfl
theorem am'(r:List UInt8):(bits .and .a (eY r 2:Nat) 65529 != 0)=MZ r:=by
 have h1:(gF 64 (eY r 2:Nat)).g=eY r 2:=by rw[mD,nR];exact fO (by have:=vP r 2;omega)
 have h2:eY r 2 &&& 65529<=eY r 2:=Nat.and_le_left;have h3:=vP r 2;have:bits .and .a (eY r 2:Nat) 65529=((eY r 2 &&& 65529:Nat):Int):=by
  show bU.d ((gF 64 (eY r 2:Nat) &&& gF 64 65529).g:Int)=_;rw[Gp,h1,show(gF 64 65529).g=65529 by decide,jW _ (by omega)]
 rw[this];have h4:=ajW ⟨mP r 2,vB r 2⟩ ⟨mP r 3,vB r 3⟩;simp only at h4;rw[<-aqG]at h4;unfold MZ;rw[bF,bne_iff_ne];have h5:=congrArg (fun z=>!z) h4;simp only[Bool.not_not]at h5;rw[<-h5];simp
def ze:Nat->Sx->List UInt8->Sx×Int
 | 0,x,_=>if x.oV=true\/Aa x.aQ=false then(x,0)else(qX,4)
 | f+1,x,r=>
   if x.oV=true\/Aa x.aQ=false then(x,0)
   else if r.a<8\/r.a<rG x.aQ r then(qX,2)
   else ze f ⟨x.head+rG x.aQ r,x.dB,x.IU,decide (x.aQ=44)&&MZ r,x.IW+1,(mP r 0:Nat),x.h,x.S⟩ (r.f (rG x.aQ r))
def ajX(l:List UInt8):fC:=⟨true,qE 16 l⟩
def sx0(l:List UInt8):Sx:=⟨40,40+eY l 4,(mP l 7:Nat),false,0,(mP l 6:Nat),ajX (l.f 8),ajX (l.f 24)⟩
def Bn(l:List UInt8):Sx×Int:=
 if l.a<40 then(qX,2)else if mP l 0/16≠6 then(qX,3)else if l.a<40+eY l 4 then(qX,2)
 else ze 8 (sx0 l) ((l.d (40+eY l 4)).f 40)
theorem Pb{f:Nat}{x:Sx}{r:List UInt8}(h:x.oV=true\/Aa x.aQ=false):ze f x r=(x,0):=by cases f<;>simp[ze,h]
theorem Zp{x:Sx}{r:List UInt8}(h:x.oV=false)(h':Aa x.aQ=true):ze 0 x r=(qX,4):=by simp[ze,h,h']
theorem M7{f:Nat}{x:Sx}{r:List UInt8}(h:x.oV=false)(h':Aa x.aQ=true)(hs:r.a<8\/r.a<rG x.aQ r):ze (f+1) x r=(qX,2):=by simp[ze,h,h',hs]
theorem Zq{f:Nat}{x:Sx}{r:List UInt8}(h:x.oV=false)(h':Aa x.aQ=true)(hs:¬(r.a<8\/r.a<rG x.aQ r)):
 ze (f+1) x r=ze f ⟨x.head+rG x.aQ r,x.dB,x.IU,decide (x.aQ=44)&&MZ r,x.IW+1,(mP r 0:Nat),x.h,x.S⟩ (r.f (rG x.aQ r)):=by simp[ze,h,h',hs]
theorem iB{place:Nat->Option (Nat×Nat)}{cells c':Array aB}{i off:Nat}{v:aB}{rest:List (Nat×aB)}(hp:place i=some (off,1))(hv:v.D = #[v])(hf:off+1<=cells.j)(h:cells.c off v=c'):fD place cells ((i,v)::rest)=fD place c' rest:=by
 rw[EX place cells i off 1 v rest hp (by rw[hv];rfl) hf,hv,alo,h]
theorem tu{place:Nat->Option (Nat×Nat)}{cells c' x:Array aB}{i off n:Nat}{rest:List (Nat×aB)}(hp:place i=some (off,n))(hx:x.j=n)(hf:off+n<=cells.j)(h:sV cells off x=c'):fD place cells ((i,.d x)::rest)=fD place c' rest:=by
 rw[EX place cells i off n (.d x) rest hp (by rw[Qi];exact hx) hf,Qi,h]
theorem Sx.Rj(x:Sx)(v:Int):x.ay.c 1 (.b .a v)=({x with dB:=v}:Sx).ay:=by simp[Sx.ay,aM,fC.r]
theorem Sx.aqH(x:Sx)(v:Int):x.ay.c 2 (.b .a v)=({x with IU:=v}:Sx).ay:=by simp[Sx.ay,aM,fC.r]
theorem Sx.abJ(x:Sx)(t:fC):sV x.ay 6 t.ay=({x with h:=t}:Sx).ay:=by
 unfold Sx.ay;exact re (by rw[fC.r,fC.r]) 6 rfl
theorem Sx.UK(x:Sx)(t:fC):sV x.ay 23 t.ay=({x with S:=t}:Sx).ay:=by
 unfold Sx.ay;have:=re (p:=#[.b .a x.head,.b .a x.dB,.b .a x.IU,.e x.oV,.b .a x.IW,.b .a x.aQ]++x.h.ay) (q:=x.S.ay) (r:=#[]) (v:=t.ay) (by rw[fC.r,fC.r]) 23 (by simp[fC.r]);simpa[gD]using this
theorem Sx.abG(x:Sx)(v:Vector UInt8 16):sV x.ay 7 (jc v)=({x with h:=⟨x.h.h,v⟩}:Sx).ay:=by
 unfold Sx.ay;rw[fC.JR x.h,fC.JR ⟨x.h.h,v⟩];have:=re (p:=#[.b .a x.head,.b .a x.dB,.b .a x.IU,.e x.oV,.b .a x.IW,.b .a x.aQ] ++ #[.e x.h.h]) (q:=jc x.h.b) (r:=x.S.ay) (v:=jc v) (by rw[dN,dN]) 7 rfl;simpa[gD]using this
theorem Sx.abF(x:Sx)(v:Vector UInt8 16):sV x.ay 24 (jc v)=({x with S:=⟨x.S.h,v⟩}:Sx).ay:=by
 unfold Sx.ay;rw[fC.JR x.S,fC.JR ⟨x.S.h,v⟩];have:=re (p:=#[.b .a x.head,.b .a x.dB,.b .a x.IU,.e x.oV,.b .a x.IW,.b .a x.aQ]++x.h.ay ++ #[.e x.S.h]) (q:=jc x.S.b) (r:=#[]) (v:=jc v) (by rw[dN,dN]) 24 (by simp[fC.r]);simpa[gD]using this
@[go_sem]theorem aD'(W:ak)(a b c d:Int)(s t:fC):(uW 189 #[(0,.b .a a),(1,.b .a b),(5,.b .a c),(2,.b .a d),(6,.d s.ay),(7,.d t.ay)]).G ah W = .Y (.d (Sx.mk a b d false 0 c s t).ay) W:=kSx.bd W _ _ _ _ pW (auM W _ pW) (by
 refine(iB rfl rfl (by rw[Sx.r];omega) (Sx.OQ _ _)).trans ?_;refine(iB rfl rfl (by rw[Sx.r];omega) (Sx.Rj _ _)).trans ?_;refine(iB rfl rfl (by rw[Sx.r];omega) (Sx.Zn _ _)).trans ?_;refine(iB rfl rfl (by rw[Sx.r];omega) (Sx.aqH _ _)).trans ?_;refine(tu rfl (fC.r _) (by rw[Sx.r];omega) (Sx.abJ _ _)).trans ?_;refine(tu rfl (fC.r _) (by rw[Sx.r];omega) (Sx.UK _ _)).trans ?_;rfl)
@[go_sem ↓]theorem aHi(ps:Array (Nat×aB)):fQ 27 ps=uW 27 ps:=rfl
theorem azi(w:ak)(fs:Array oh)(h:ah.k 27=some (.d fs)):(iF (fun f=>Prod.mk f.X <$> sizeOf f.p) fs:xI (Array (Nat×Nat))).G ah w = .Y #[(0,1),(1,16)] w:=by
 have e:=fB;rw[h]at e;cases e;show _=_
 kernel_rfl
theorem fC.aqI(x:fC)(v:Bool):x.ay.c 0 (.e v)=({x with h:=v}:fC).ay:=by rw[fC.JR,fC.JR];simp[aM]
@[go_sem]theorem axk(W:ak)(v:Bool):(uW 27 #[(0,.e v)]).G ah W = .Y (.d (fC.mk v nM.b).ay) W:=abx.bd W _ _ _ _ fB (azi W _ fB) (by
 refine(iB rfl rfl (by rw[fC.r];omega) (fC.aqI _ _)).trans ?_;rfl)
def Bx(L:List (Nat×Array aB))(W0 W:ak):Prop:=aL W0.a.j W0 W/\∀p∈L,W0.a.j<=p.1/\dM W p.1 p.2
section
variable {L:List (Nat×Array aB)} {W0 W W':ak} {q:Nat} {c:Array aB}
theorem Bx.start(W0:ak):Bx [] W0 W0:=⟨aG _ _,fun p hp=>by cases hp⟩
theorem Bx.O(h:Bx L W0 W):aL W0.a.j W0 W:=h.1
theorem Bx.go(h:Bx L W0 W)(hb:aL W.a.j W W'):Bx L W0 W':=⟨h.1.trans (hb.e h.1.j),fun p hp=>⟨(h.2 p hp).1,(h.2 p hp).2.go hb⟩⟩
theorem Bx.drew(h:Bx L W0 W):Bx L W0 W.drew:=⟨h.1.drew,fun p hp=>⟨(h.2 p hp).1,(h.2 p hp).2.drew⟩⟩
theorem Bx.drewN(h:Bx L W0 W)(k:Nat):Bx L W0 (W.drewN k):=⟨eH h.1 k,fun p hp=>⟨(h.2 p hp).1,(h.2 p hp).2.drewN k⟩⟩
theorem Bx.alloc(h:Bx L W0 W)(ob:Obj):Bx L W0 (W.alloc ob):=h.go ((aG _ _).alloc (av _) ob)
theorem Bx.new(h:Bx L W0 W)(c:Array aB)(t:bE):Bx ((W.a.j,c)::L) W0 (W.alloc (.D c t)):=
 ⟨h.1.alloc h.1.j _,fun p hp=>by
  rcases bB.1 hp with rfl|hp
  ·exact⟨h.1.j,dM.new W c t⟩
  ·exact⟨(h.2 p hp).1,(h.2 p hp).2.alloc _⟩⟩
theorem Bx.R(h:Bx ((q,c)::L) W0 W):dM W q c:=(h.2 (q,c) (by simp)).2
theorem Bx.g0(h:Bx ((q,c)::L) W0 W):W0.a.j<=q:=(h.2 (q,c) (by simp)).1
theorem Bx.Uh{p:Nat×Array aB}(h:Bx (p::L) W0 W):Bx L W0 W:=⟨h.1,fun r hr=>h.2 r (j5 _ hr)⟩
theorem Bx.b1{p:Nat×Array aB}(h:Bx (p::(q,c)::L) W0 W):dM W q c:=h.Uh.R
theorem Bx.b2{p p2:Nat×Array aB}(h:Bx (p::p2::(q,c)::L) W0 W):dM W q c:=h.Uh.Uh.R
theorem Bx.b3{p p2 p3:Nat×Array aB}(h:Bx (p::p2::p3::(q,c)::L) W0 W):dM W q c:=h.Uh.Uh.Uh.R
theorem Bx.swap{p p2:Nat×Array aB}(h:Bx (p::p2::L) W0 W):Bx (p2::p::L) W0 W:=⟨h.1,fun r hr=>h.2 r (by simp at hr⊢;rcases hr with h|h|h<;>simp[h])⟩
theorem Bx.sub{L':List (Nat×Array aB)}(h:Bx L W0 W)(hs:∀p∈L',p∈L):Bx L' W0 W:=⟨h.1,fun p hp=>h.2 p (hs p hp)⟩
theorem Bx.set(h:Bx ((q,c)::L) W0 W)(hL:∀p∈L,p.1≠q)(j:Nat)(u:aB):Bx ((q,c.c j u)::L) W0 (W.F ⟨q,j,none⟩ u):=
 ⟨h.1.F h.g0 u,fun p hp=>by
  rcases bB.1 hp with rfl|hp
  ·exact⟨h.g0,h.R.eX j u⟩
  ·have:=h.2 p (by simp[hp]);exact⟨this.1,this.2.dP _ u (fun e=>hL p hp e.symm)⟩⟩
theorem Bx.lay(h:Bx ((q,c)::L) W0 W)(hL:∀p∈L,p.1≠q)(o:Nat)(x:Array aB):Bx ((q,sV c o x)::L) W0 (gX W q o x):=
 ⟨lI h.1 q o x h.g0,fun p hp=>by
  rcases bB.1 hp with rfl|hp
  ·exact⟨h.g0,by have:=h.R.setCells o x.a;simpa[gX]using this⟩
  ·have:=h.2 p (by simp[hp]);exact⟨this.1,this.2.gK (hL p hp)⟩⟩
theorem Bx.put(h:Bx ((q,c)::L) W0 W)(hL:∀p∈L,p.1≠q)(x:Array aB)(hx:x.j=c.j):Bx ((q,x)::L) W0 (gX W q 0 x):=
 ⟨lI h.1 q 0 x h.g0,fun p hp=>by
  rcases bB.1 hp with rfl|hp
  ·exact⟨h.g0,h.R.put x hx⟩
  ·have:=h.2 p (by simp[hp]);exact⟨this.1,this.2.gK (hL p hp)⟩⟩
theorem Bx.Pf{A:Option aT}{n:Nat}{l:List UInt8}(h:Bx L W0 W)(hr:gu W0 W0.a.j A n l):gu W W.a.j A n l:=(hr.M h.1).lN h.1.j
theorem Bx.rdR{α:Type}{f:α->Array aB}{s:Nat}{A:Option aT}{n:Nat}{l:List α}(h:Bx L W0 W)(hr:iE f s W0 W0.a.j A n l):iE f s W W.a.j A n l:=(hr.M h.1).lN h.1.j
end
theorem gu.Ww{w:ak}{B n:Nat}{a:aT}{l:List UInt8}(h:gu w B (some a) n l)(k:Nat)(hk:k+1<n):w.b ⟨a.block,a.off+(k+1),none⟩=some (.b .b (mP l (k+1))):=by
 obtain⟨_,he,hc⟩:=h.Yk k hk;cases he;exact hc
theorem gu.asP{w:ak}{B n:Nat}{a:aT}{l:List UInt8}(h:gu w B (some a) n l)(hk:0<n):w.b a=some (.b .b (mP l 0)):=by
 obtain⟨_,he,_,hc⟩:=h.fH hk;cases he;rw[Kt]at hc;exact hc
theorem gu.ah5{w:ak}{B n:Nat}{A:Option aT}{l:List UInt8}(h:gu w B A n l)(hk:0<n):∃a,A=some a/\a.block<B:=by
 obtain⟨a,he,hb,_⟩:=h.fH hk;exact⟨a,he,hb⟩
def vQ(A:Option aT)(z c s:Nat):Option aT:=if c=z then A else A.map (·.add (z*s))
theorem gu.ad6{w:ak}{B n:Nat}{A:Option aT}{l:List UInt8}(h:gu w B A n l){z b c:Nat}(hz:z<=b)(hb:b<=n)(hc:n<=c):gu w B (vQ A z c 1) (b-z) ((l.d b).f z):=by
 have:=h.Sy hz hb hc;rw[<-List.drop_take]at this;unfold vQ;rw[gL];exact this
theorem gu.yX{w:ak}{B n:Nat}{A:Option aT}{l:List UInt8}(h:gu w B A n l){z c:Nat}(hz:z<=n)(hc:n<=c):gu w B (vQ A z c 1) (n-z) (l.f z):=by
 have:=h.from hz hc
 unfold vQ;rw[gL];exact this
section
variable {P:eD} (w:ak) (t:bE) (a:Option aT) (len cap:Nat) (ht:P.k t=some (.a (P.elem t)))
include ht
theorem jd(kl kh:IntKind)(l h:Int)(h0:0<=l)(h1:l<=h)(h2:h<=cap):
 (Instr.slice t (.a a len cap) (some (.b kl l)) (some (.b kh h)) none).G P w =
  ((sizeOf (P.elem t)).G P w).andThen fun s w=>.Y (.a (vQ a l.g cap s) (h.g-l.g) (cap-l.g)) w:=by
 rw[run_slice_lh w t a len cap ht kl kh l h h0 h1 h2];rfl
theorem jL(kl:IntKind)(l:Int)(h0:0<=l)(h1:l<=len):
 (Instr.slice t (.a a len cap) (some (.b kl l)) none none).G P w =
  ((sizeOf (P.elem t)).G P w).andThen fun s w=>.Y (.a (vQ a l.g cap s) (len-l.g) (cap-l.g)) w:=by
 rw[run_slice_l w t a len cap ht kl l h0 h1];rfl
end
section
variable {P:eD} {md:Lh}
def lq(o:iM):iM:={o with op:=.move (.const undef)}
def Hy(ops:Array iM)(k n d:Nat):Bool:=(bY n).all fun j=>j==k||(match ops[j]? with|some o=>!(o.looksAt ops).contains d&&o.S != some d|none=>true)
def SE:List iM->Bool
 | []=>true
 | o::l=>(match o.S with|some d=>l.all fun p=>p.S != some d|none=>true)&&SE l
theorem Hz:∀{l:List iM},SE l=true->∀{i j:Nat} {oi oj:iM} {d:Nat},l[i]? = some oi->l[j]? = some oj->oi.S=some d->oj.S=some d->i=j
 | [],_,i,j,oi,oj,d,hi,_,_,_=>by simp at hi
 | o::l,h,i,j,oi,oj,d,hi,hj,di,dj=>by
   simp only[SE,bf]at h;obtain⟨h1,h2⟩:=h;rcases i with _|i<;>rcases j with _|j
   ·rfl
   ·simp at hi hj
    subst hi;rw[di]at h1;have:=fM.1 h1 oj (List.mem_of_getElem? hj);simp[dj]at this
   ·simp at hi hj
    subst hj;rw[dj]at h1;have:=fM.1 h1 oi (List.mem_of_getElem? hi);simp[di]at this
   ·simp at hi hj
    rw[Hz h2 hi hj di dj]
def Yl(P:eD)(md:Lh)(ops:Array iM)(C:ak->Prop)(n g:Nat)(aF:qG):Nat->Array Bool->qG->Prop:=
 wqL P md ops C n (fun listed a=>lK md ops g n listed=true/\a=aF)
theorem Pg{listed:Array Bool}{j:Nat}(h:listed.b j true=false){i:Nat}(hij:j≠i):(listed.c i true).b j true=false:=by rw[xJ true (jB hij)];exact h
theorem EF{listed:Array Bool}{i j:Nat}(h:(listed.c i true).b j true=false):listed.b j true=false:=by
 by_cases hij:i=j
 ·subst hij
  rcases aZ i listed.j with h1|h1
  ·simp[h1]at h
  ·simp[aU h1]at h
 ·rwa [xJ true hij]at h
theorem Ab{listed:Array Bool}{i j:Nat}(h:(listed.c i true).b j true=false):j≠i:=by
 rintro rfl;rcases aZ j listed.j with h1|h1
 ·simp[h1]at h
 ·simp[aU h1]at h
theorem Cy{ops:Array iM}{C:ak->Prop}{n g:Nat}{aF:qG}:∀(f:Nat)(listed:Array Bool)(a:qG),Yl P md ops C n g aF f listed a ->
 aF.defers=a.defers/\aF.tmps.j=a.tmps.j/\∀d,(∀j oj,ops[j]? = some oj->listed.b j true=false->oj.S≠some d)->aF.tmps[d]? = a.tmps[d]?
 | 0,listed,a,h=>by obtain⟨_,rfl⟩:=h;exact⟨rfl,rfl,fun _ _=>rfl⟩
 | f+1,listed,a,h=>by
   obtain⟨h0,h1⟩:=h;obtain⟨i,hi⟩:=List.exists_mem_of_ne_nil _ h0;obtain⟨hun,oi,hoi,_⟩:=kL.1 hi;obtain⟨v,_,hK⟩:=rD hoi (h1 i hi).2;obtain⟨e1,e2,e3⟩:=Cy f _ _ hK;have ed:(a.put oi.S v).defers=a.defers:=by cases oi.S<;>rfl
   have es:(a.put oi.S v).tmps.j=a.tmps.j:=by cases oi.S<;>simp[lM]
   refine⟨e1.trans ed,e2.trans es,fun d hd=>?_⟩;rw[e3 d fun j oj hj hl=>hd j oj hj (EF hl)];have:=hd i oi hoi hun;cases h2:oi.S with
   | none=>rfl
   | some e=>
     have:e≠d:=fun e'=>this (by rw[h2,e'])
     simp[lM,dR,this]
theorem ad7{l:List iM}(hD:SE l=true){C C':ak->Prop}{n g f:Nat}{aF:qG}{listed:Array Bool}{a:qG}{i:Nat}{oi:iM}(hi:i∈fZ md l.c listed)(hoi:l.c[i]? = some oi)
 (h:Yl P md l.c C n g aF (f+1) listed a) (h':Yl P md l.c C' n g aF (f+1) listed a) :
 ∃v v',YieldsIn P l.c C oi v a/\Yl P md l.c C n g aF f (listed.c i true) (a.put oi.S v)/\YieldsIn P l.c C' oi v' a/\Yl P md l.c C' n g aF f (listed.c i true) (a.put oi.S v')/\a.put oi.S v=a.put oi.S v':=by
 obtain⟨v,hy,hK⟩:=rD hoi (h.2 i hi).2;obtain⟨v',hy',hK'⟩:=rD hoi (h'.2 i hi).2;refine⟨v,v',hy,hK,hy',hK',?_⟩;cases hd:oi.S with
 | none=>rfl
 | some d=>
   have hno:∀j oj,l.c[j]? = some oj->(listed.c i true).b j true=false->oj.S≠some d:=fun j oj hj hl hdj=>by
    have:=Hz hD (by simpa using hoi) (by simpa using hj) hd hdj;exact Ab hl this.symm
   have e1:=(Cy f _ _ hK).2.2 d hno;have e2:=(Cy f _ _ hK').2.2 d hno;rw[hd]at e1 e2;have e:=e1.symm.trans e2;simp only[lM,dR,if_pos]at e ⊢;by_cases hs:d<a.tmps.j
   ·simp[hs]at e;rw[e]
   ·have hs':=Nat.le_of_not_lt hs
    rw[jV hs',jV hs']
theorem Ph(a:qG)(d:Nat)(u v:aB):(a.put (some d) u).put (some d) v=a.put (some d) v:=by simp[lM]
theorem Iw{ops:Array iM}{C:ak->Prop}{o:iM}{a:qG}{K:qG->Prop}{K':qG->ak->Prop}{Q':yP->qG->ak->Prop}{w:ak}{d:Nat}{u:aB}(hs:∀cs b,o.op≠.select cs b)(hl:d∉o.looksAt ops)(hd:o.S≠some d)
 (hw:C w) (h:∀a w',C w'->K a->K' (a.put (some d) u) w') (hh:o.quiet P a C K):o.wp P (a.put (some d) u) w K' Q':=by
 obtain⟨v,h1,h2⟩:=hh;have h3:=h1 w hw;have e:execOp (a.put (some d) u).eval o=execOp a.eval o:=execOp_put o hs a (some d) u (fun e he=>by cases he;exact hl);have c:∀x,(a.put (some d) u).put o.S x=(a.put o.S x).put (some d) u:=fun x=>Act.put_comm a u x (fun e he=>by cases he;exact hd)
 unfold Oper.quietAt at h3;unfold nG;rw[e];generalize(execOp a.eval o).G P w=r at *;cases r with
 | ok n w'=>
   cases n<;>simp only[Oper.quietUpon]at h3<;>simp only[Np]
   case value x=>
    obtain⟨e1,e2⟩:=h3;rw[e1,e2,c];exact h _ _ hw h2
   case skip=>
    obtain⟨e1,e2⟩:=h3;rw[e1,c,<-e2];exact h _ _ hw h2
   case enter f args=>
    obtain⟨e1,hc⟩:=h3;rw[e1];exact hc.e fun e w'' ⟨he,hw''⟩=>by subst he;dsimp only;rw[c];exact h _ _ hw'' h2
 | halt x w'=>simp only[Oper.quietUpon]at h3
def Shut(S:ak->Prop):Prop:=∀w w',S w->aL w.a.j w w'->S w'
theorem ad8{l:List iM}{k:Nat}{o:iM}(hk:l[k]? = some o)(tmps:Array aB):yielded (l.set k (lq o)).c tmps=yielded l.c tmps:=by
 funext j;unfold yielded;have:((l.set k (lq o)).c[j]?).bind (·.S)=(l.c[j]?).bind (·.S):=by
  simp only[dW,fI];split
  ·rename_i h
   subst h;have:=(iL.1 hk).1;rw[hk];simp[this,lq]
  ·rfl
 rw[this]
theorem ad9{l:List iM}{k:Nat}{o:iM}(hk:l[k]? = some o)(listed:Array Bool):fZ md (l.set k (lq o)).c listed=fZ md l.c listed:=by
 unfold fZ;have hsz:(l.set k (lq o)).c.j=l.c.j:=by simp
 rw[hsz];refine Gd fun i _=>?_
 by_cases hik:i=k
 ·subst hik
  obtain⟨hl,hlo⟩:=iL.1 hk;simp[fI,hl,hlo,lq]
 ·simp[fI,jB hik]
theorem K7{l:List iM}{k:Nat}{o:iM}(hk:l[k]? = some o)(listed:Array Bool)(i:Nat):i∈fZ md (l.set k (lq o)).c listed↔i∈fZ md l.c listed:=by rw[ad9 hk]
section
variable {l:List iM} {k n g d:Nat} {o:iM} {T:bE} {z:Array aB} {aF:qG} {Q:yP->qG->ak->Prop}
theorem Zr(hk:l[k]? = some o){i:Nat}(hik:i≠k):(l.set k (lq o)).c[i]? = l.c[i]?:=by
 simp[fI,jB hik]
theorem Wx(hA:Hy l.c k n d=true){i:Nat}{oi:iM}(hin:i<n)(hik:i≠k)(hoi:l.c[i]? = some oi):d∉oi.looksAt l.c/\oi.S≠some d:=by
 have:=fM.1 hA i (dV.2 hin);simp only[hoi,mJ,beq_iff_eq,bf]at this;rcases this with h|h
 ·exact absurd h hik
 ·exact⟨by simpa using h.1,by simpa using h.2⟩
theorem Wz(hk:l[k]? = some o)(oi:iM)(tmps:Array aB):fq oi (yielded (l.set k (lq o)).c tmps)=fq oi (yielded l.c tmps):=by rw[ad8 hk]
theorem M8(hk:l[k]? = some o)(hA:Hy l.c k n d=true)(hsel:∀(j:Nat)(o:iM) cs b,l.c[j]? = some o->o.op≠.select cs b){C:ak->Prop}{u:aB}
 (hend:∀listed w',C w'->lK md (l.set k (lq o)).c g n listed=true->wpAny P md l.c Q g listed (aF.put (some d) u) w') :
 ∀(f:Nat)(listed:Array Bool)(a:qG)(w:ak),listed.b k true=true->C w->Yl P md (l.set k (lq o)).c C n g aF f listed a->wpAny P md l.c Q (f+g) listed (a.put (some d) u) w
 | 0,listed,a,w,hun,hw,h=>by
   obtain⟨h1,rfl⟩:=h;rw[bl];exact hend _ _ hw h1
 | f+1,listed,a,w,hun,hw,h=>by
   rw[show f+1+g=(f+g)+1 by omega];refine⟨fun h0=>absurd ?_ h.1,fun i hi=>?_⟩
   ·rw[tY]
    intro i hi;rw[K7 hk]at hi;rw[h0]at hi;cases hi
   ·have hi':=(K7 hk listed i).2 hi
    have hik:i≠k:=fun e=>by
     subst e;have:=(kL.1 hi).1;rw[hun]at this;cases this
    obtain⟨_,oi,hoi,_⟩:=kL.1 hi;obtain⟨hin,hq⟩:=h.2 i hi';obtain⟨hl,hd⟩:=Wx hA hin hik hoi;have hun':∀i,(listed.c i true).b k true=true:=fun i=>by
     by_cases e:i=k
     ·subst e
      rcases aZ i listed.j with h1|h1
      ·simp[h1]
      ·simp[aU h1]
     ·rw[xJ true e];exact hun
    unfold qOp at hq;rw[Zr hk hik,hoi]at hq;unfold wpOp;simp only[hoi];simp only[Wz hk]at hq;rw[wanted_put oi a (some d) u (fun e he=>by cases he;exact hl)];split
    ·rename_i hw2
     simp only[hw2,if_true]at hq;exact .a (Iw (fun cs b=>hsel i oi cs b hoi) hl hd hw (fun a' w' hw' h'=>M8 hk hA hsel hend f _ a' w' (hun' i) hw' h') hq)
    ·rename_i hw2
     simp only[hw2]at hq;rw[Act.put_comm a u undef (fun e he=>by cases he;exact hd)];exact M8 hk hA hsel hend f _ _ w (hun' i) hw hq
theorem WA{S:ak->Prop}(hS:Shut S)(w0:ak):Shut fun w=>S w/\aL w0.a.j w0 w:=fun w w' h hb=>⟨hS w w' h.1 hb,h.2.trans (hb.e h.2.j)⟩
theorem Zt(hk:l[k]? = some o)(hkn:k<n)(hA:Hy l.c k n d=true)(hD:SE (l.set k (lq o))=true)(hsel:∀(j:Nat)(o:iM) cs b,l.c[j]? = some o->o.op≠.select cs b)
 (hod:o.S=some d) (hog:o.guard=none) (hoa:o.after = #[]) (hrun:∀(a:qG) w,(execOp a.eval o).G P w = .Y (.value (.c (some ⟨w.a.j,0,none⟩))) (w.alloc (.D z T))) {S:ak->Prop} (hS:Shut S)
 (hend:∀listed w1 w',S w1->S w'->aL (w1.alloc (.D z T)).a.j (w1.alloc (.D z T)) w'->lK md (l.set k (lq o)).c g n listed=true->wpAny P md l.c Q g listed (aF.put (some d) (.c (some ⟨w1.a.j,0,none⟩))) w') :
 ∀(f:Nat)(listed:Array Bool)(a:qG)(w:ak),listed.j=l.a->listed.b k true=false->S w->(∀C:ak->Prop,(∀w,C w->S w)->Shut C->(∃w,C w)->Yl P md (l.set k (lq o)).c C n g aF f listed a)->wpAny P md l.c Q (f+g) listed a w
 | 0,listed,a,w,hsz,hun,hw,H=>by
   obtain⟨h1,_⟩:=H S (fun _ h=>h) hS ⟨w,hw⟩;have hkl:k<l.a:=(iL.1 hk).1;have:k∈fZ md (l.set k (lq o)).c listed:=kL.2 ⟨hun,lq o,by simp[fI,hkl],fun e he=>by simp[lq,hoa]at he⟩;have:=seqB_ready h1 k this;omega
 | f+1,listed,a,w,hsz,hun,hw,H=>by
   rw[show f+1+g=(f+g)+1 by omega];have H0:=H S (fun _ h=>h) hS ⟨w,hw⟩;have hkl:k<l.a:=(iL.1 hk).1;refine⟨fun h0=>absurd ?_ H0.1,fun i hi=>?_⟩
   ·rw[tY]
    intro i hi;rw[K7 hk]at hi;rw[h0]at hi;cases hi
   ·have hi':=(K7 hk listed i).2 hi
    by_cases hik:i=k
    ·subst hik
     unfold wpOp;simp only[dW,hk];rw[if_pos (by simp[fq,hog])];refine .a ?_;unfold nG;rw[hrun];simp only[Np,hod];have hC:=H (fun w'=>S w'/\aL (w.alloc (.D z T)).a.j (w.alloc (.D z T)) w') (fun _ h=>h.1) (WA hS _) ⟨_,hS _ _ hw ((aG _ _).alloc (av _) _),aG _ _⟩;obtain⟨v,_,hK⟩:=rD (o:=lq o) (by simp[fI,hkl]) (hC.2 i hi').2;have:=M8 (C:=fun w'=>S w'/\aL (w.alloc (.D z T)).a.j (w.alloc (.D z T)) w') (u:=.c (some ⟨w.a.j,0,none⟩)) hk hA hsel (fun listed' w' hw' hB=>hend listed' w w' hw hw'.1 hw'.2 hB) f _ _ (w.alloc (.D z T)) (by
      have:i<listed.j:=by rw[hsz];exact hkl
      simp[this]) ⟨hS _ _ hw ((aG _ _).alloc (av _) _),aG _ _⟩ hK
     have e:(lq o).S=some d:=hod;rw[e,Ph]at this;exact this
    ·obtain⟨_,oi,hoi,_⟩:=kL.1 hi
     have agB:(l.set k (lq o)).c[i]? = some oi:=by rw[Zr hk hik];exact hoi
     obtain⟨v,hy,hK⟩:=rD agB (H0.2 i hi').2;have hq:qOp P l.c S i (fun a'=>a'=a.put oi.S v) a:=by
      unfold qOp;simp only[hoi];unfold YieldsIn at hy;simp only[Wz hk]at hy;rcases hy with⟨h1,h2⟩|⟨h1,rfl⟩
      ·simp only[h1,if_true];exact⟨v,h2,rfl⟩
      ·simp only[h1,iV,if_false]
     refine wpOp_of_qOp hw (fun a' w' hw' e=>?_) hq;subst e;refine Zt hk hkn hA hD hsel hod hog hoa hrun hS hend f _ _ w' (by simp[hsz]) (Pg hun (jB hik)) hw' (fun C hC1 hC2 hC3=>?_);obtain⟨_,v2,_,_,_,hK2,_⟩:=ad7 hD hi' agB H0 (H C hC1 hC2 hC3);have e1:a.put oi.S v=a.put oi.S v2:=by
      cases hd:oi.S with
      | none=>rfl
      | some dd=>
        have hno:∀j oj,(l.set k (lq o)).c[j]? = some oj->(listed.c i true).b j true=false->oj.S≠some dd:=fun j oj hj hl hdj=>by
         have:=Hz hD (by simpa using agB) (by simpa using hj) hd hdj;exact Ab hl this.symm
        have q1:=(Cy f _ _ hK).2.2 dd hno;have q2:=(Cy f _ _ hK2).2.2 dd hno;rw[hd]at q1 q2;have q:=q1.symm.trans q2;simp only[lM,dR,if_pos]at q ⊢;by_cases hs:dd<a.tmps.j
        ·simp[hs]at q;rw[q]
        ·have hs':=Nat.le_of_not_lt hs
         rw[jV hs',jV hs']
     rw[e1];exact hK2
end
theorem Bx.abK(L:List (Nat×Array aB))(W0:ak):Shut (Bx L W0):=fun _ _ h hb=>h.go hb
theorem Rl{S:ak->Prop}(hS:Shut S)(k n d:Nat){id:Nat}{Q:yP->qG->ak->Prop}{a:qG}{w:ak}{l:List iM}{o:iM}(T:bE)(z:Array aB)(hm:P.follows .mixedOrders=true)
 (hk:l[k]? = some o) (hB:xK .any (l.set k (lq o)).c n=true) (hkn:k<n) (hn':n<l.a) (hA:Hy l.c k n d=true) (hD:SE (l.set k (lq o))=true) (hsel:AV l.c=true)
 (hod:o.S=some d) (hog:o.guard=none) (hoa:o.after = #[]) (hrun:∀(a:qG) w,(execOp a.eval o).G P w = .Y (.value (.c (some ⟨w.a.j,0,none⟩))) (w.alloc (.D z T))) (h0:S w.drew)
 (hh:∃aF:qG,(∀(T:Type)(f:T->ak),Nonempty T->(∀m,S (f m))->(∀m w',aL (f m).a.j (f m) w'->∃m',w'=f m')->wpQuiet P (l.set k (lq o)).c (fun w'=>∃m,w'=f m) (fun a'=>a'=aF) ((l.set k (lq o)).d n) a)
 /\ (∀w1 w',S w1->S w'->aL (w1.alloc (.D z T)).a.j (w1.alloc (.D z T)) w'->wpList P l.c Q (l.f n) (aF.put (some d) (.c (some ⟨w1.a.j,0,none⟩))) w')):(Code.region id l.c true).wp P Q a w:=by
 obtain⟨aF,h,h2⟩:=hh;simp only[xK,bf,decide_eq_true_eq]at hB;obtain⟨⟨⟨⟨ana,hn⟩,hs⟩,hc⟩,hlex⟩:=hB;have hlen:(l.set k (lq o)).a=l.a:=by simp
 have hsz:(l.set k (lq o)).c.j=l.c.j:=by simp
 have htl:((l.set k (lq o)).d n).a=n:=by simp;omega
 have hdl:(l.f n).a=l.c.j-n:=by simp
 have inv0:HeadInv .any (l.set k (lq o)).c n (nQ l.c.j false):=
  ⟨by simp,fun j oj _ hl=>(by rw[mZ]at hl;cases hl),fun t _ ht=>getD_in (by simpa using ht) (mZ _ _)⟩
 refine zk hm ?_;rw[hsz]at hlex;have hseq:∀listed,lK .any (l.set k (lq o)).c (l.c.j-n) n listed=true->lK .any l.c (l.c.j-n) n listed=true:=by
  have:∀(g:Nat)(j:Nat) listed,lK .any (l.set k (lq o)).c g j listed=true->lK .any l.c g j listed=true:=by
   have he:∀listed,fZ .any (l.set k (lq o)).c listed=fZ .any l.c listed:=ad9 hk;intro g
   induction g with
   | zero=>intro j listed h;simp only[lK]at h⊢;rwa [he]at h
   | succ g ih=>intro j listed h;simp only[lK,bf]at h⊢;rw[he]at h;exact⟨h.1,ih _ _ h.2⟩
  exact fun listed=>this _ _ listed
 have:=Zt (P:=P) (md:=.any) (g:=l.c.j-n) (aF:=aF) (Q:=Q) hk hkn hA hD (Region.noSelect_spec hsel) hod hog hoa hrun hS (fun listed w1 w' hw1 hw' hb hq=>by
  have:=wpAny_of_seq (P:=P) (md:=.any) (Q':=Q) (ops:=l.c) (l.f n) n listed (aF.put (some d) (.c (some ⟨w1.a.j,0,none⟩))) w' (fun j=>by simp[jq]) (by rw[hdl];exact hseq _ hq) (h2 w1 w' hw1 hw' hb)
  rwa [hdl]at this) n (nQ l.c.j false) a {w with drawn:=w.Z+1} (by simp) (getD_in (by simp;omega) (mZ _ _)) h0 (fun C hC1 hC2 hC3=>by
  have hq:=h {w // C w} Subtype.val (let⟨w,hw⟩:=hC3;⟨⟨w,hw⟩⟩) (fun m=>hC1 _ m.2) (fun m w' hb=>⟨⟨w',hC2 _ _ m.2 hb⟩,rfl⟩);have e:(fun w':ak=>∃m:{w // C w},w'=m.val)=C:=by
   funext w';rw[eq_iff_iff];exact⟨fun⟨m,hm⟩=>by rw[hm];exact m.2,fun h=>⟨⟨w',h⟩,rfl⟩⟩
  rw[e]at hq;have:=aaZ (md:=.any) (C:=C) (g:=l.c.j-n) ana hs hc hn ((l.set k (lq o)).d n) 0 (nQ l.c.j false) a (fun j hj=>by
   have hj':j<n:=by rw[htl]at hj;exact hj
   rw[iw hj',bl];simp) (by simpa using htl) inv0 (by rw[htl];exact hlex) hq
  rw[htl]at this;exact this)
 rw[show n+(l.c.j-n)=l.c.j by simp;omega]at this;exact this
end
section
attribute [local go_sem high] jd jL
def slN:aB->Nat
 | .a _ n _=>n
 | _=>0
def SxP(W:ak)(r:Sx×Int)(e:lU)(W':ak):Prop:=e=.a (.I #[.d r.1.ay,.b .a r.2])/\aL W.a.j W W'
theorem SG(W:ak)(A:Option aT)(n c:Nat)(l:List UInt8)(hnc:n<=c)(hc:c<=9223372036854775807/\n<=1000000000)(hr:gu W W.a.j A n l):aP ah 176 #[.a A n c] W (SxP W (Bn l)):=by
 have HR:=ab hr;have hl:=ab hr.len;have b0:=ab ((Bx.start W).new qX.ay 189);clear hr;go_enter Tryz.func176,Tryz.ntmps176;by_cases h40:n<40
 ·have aEc:(n:Int)<40:=by omega
  have H:=ab (show Bn l=(qX,2)by unfold Bn;rw[if_pos (by rw[hl.i];exact h40)]);go_wp2;refine aN (kSx.qW rfl _ rfl b0.i.R (Sx.r _)) rfl ?_;rw[H.i];exact⟨rfl,b0.i.O⟩
 have aEc:¬(n:Int)<40:=by omega
 have N40:=ab (show¬l.a<40 by rw[hl.i];exact h40);go_upto_region 3 with fail
 generalize hw1:W.alloc (.D qX.ay 189)=w1 at b0 ⊢;obtain⟨a,rfl,hab⟩:=HR.i.ah5 (show 0<n by omega);have KS:=ab (show∀W',Bx [(W.a.j,qX.ay)] W W'->W'.b ⟨a.block,a.off+6,none⟩=some (.b .b (mP l 6))/\W'.b ⟨a.block,a.off+7,none⟩=some (.b .b (mP l 7))from fun W' h=>⟨(h.Pf HR.i).Ww 5 (by omega),(h.Pf HR.i).Ww 6 (by omega)⟩);obtain⟨i6,i7⟩:6<n/\7<n:=by omega
 have hx6:=jW (mP l 6) (by have:=vB l 6;omega);have hx7:=jW (mP l 7) (by have:=vB l 7;omega);obtain⟨t,ht⟩:=bZ (eY l 4);have HT:=ab ht.symm;have htl:t<=65535:=by rw[ht];exact vP l 4
 have hx4:=jW (40+(t:Int)) (by omega);have C4:=ab (fun(W':ak) (h:Bx [(W.a.j,qX.ay)] W W')=>am6 W' (some a) n c l 4 4 rfl (by omega) hnc (by omega) (h.Pf HR.i));rw[<-ht]at C4;clear ht;have HX0:∃X:Sx,X=Sx.mk 40 (40+(t:Int)) (mP l 7) false 0 (mP l 6) ⟨true,nM.b⟩ ⟨true,nM.b⟩:=⟨_,rfl⟩
 clear hw1;have hWy:=ab b0.i.R.lt;refine Rl (Bx.abK [(W.a.j,qX.ay)] W) 14 15 4 189 qX.ay (by kernel_rfl) rfl (by kernel_rfl) (by decide) (by decide) (by kernel_rfl) (by kernel_rfl) (by kernel_rfl) rfl rfl rfl (fun a w=>by simp[go_sem]) b0.i.drew ?_;apply Exists.intro;refine⟨fun T f hT es ew=>?_,?_⟩
 ·have KF:=fun m=>KS.i _ (es m)
  have CF:=ab (fun m=>C4.i _ (es m));have EW:=ab ew;obtain⟨k1,k2⟩:(∀m,(f m).b ⟨a.block,a.off+6,none⟩=some (.b .b (mP l 6)))/\(∀m,(f m).b ⟨a.block,a.off+7,none⟩=some (.b .b (mP l 7))):=⟨fun m=>(KF m).1,fun m=>(KF m).2⟩
  clear KF;simp only[lq,bK,bR,jA,j6]
  repeat(go_big_quiet_step ((first
   | (go_at_call 249;with_reducible refine(CF.i _).e ?_;rintro e w2 ⟨rfl,hb⟩;exact⟨rfl,EW.i _ _ hb⟩))))
  exact eG rfl
 ·intro w2 w3 hw2 _ hb
  have Z2:=ab ((hw2.new qX.ay 189).go hb);have hy:=hw2.R.lt;generalize w2.a.j=y at *;clear hw2 hb;simp only[lM,bL,bK,bR,jU,lH];obtain⟨X0,hX0⟩:∃X:Sx,X=Sx.mk 40 (40+(t:Int)) (mP l 7) false 0 (mP l 6) ⟨true,nM.b⟩ ⟨true,nM.b⟩:=⟨_,rfl⟩
  have HX0:=ab hX0;rw[<-hX0];clear hX0 hx4 hx6 hx7;have hne:∀p∈[(W.a.j,qX.ay)],p.1≠y:=fun p hp=>by rw[fV.1 hp];exact jQ hy
  have hne:=ab hne;have yZ:=Z2.i.R.K 0 40 (by rw[Sx.r];omega);have Z3:=ab (Z2.i.put hne.i X0.ay (by rw[Sx.r,Sx.r]));clear C4 KS;go_step;go_simp;go_step;go_step;clear yZ Z2;generalize gX w3 y 0 X0.ay=w4 at Z3 ⊢;obtain⟨m,hm⟩:=bZ (40+t);have hm':40+(t:Int)=m:=by omega
  rw[hm']at HX0;have HM:=ab (show m=40+eY l 4 by rw[HT.i];exact hm);have hm1:40<=m/\m<=65575:=by omega
  clear hm hm' htl;have i8:(8:Int)<=n:=by omega
  have i24:(24:Int)<=n:=by omega
  have R8:=(Z3.i.drew.Pf HR.i).yX (z:=8) (c:=c) (by omega) hnc;have cp1:∀ty,(qR #[56,56] ty #[.a (some ⟨y,7,none⟩) 16 16,.a (vQ (some a) 8 c 1) (n-8) (c-8)]).G ah w4.drew = .Y (goInt 16) (gX w4.drew y 7 (jc (qE 16 (l.f 8)))):=fun ty=>by
   have:=FH (c:=c-8) (d:=16) _ R8 (m:=16) (by omega) (by omega) (Z3.i.drew.R.K 7 16 (by rw[Sx.r];omega)) 56 ty 5 cO amI;rw[OX 16 _ (by rw[jF,hl.i];omega)]at this;exact this
  have Z4:=ab (Z3.i.drew.lay hne.i 7 (jc (qE 16 (l.f 8))));rw[Sx.abG]at Z4;go_upto_region 4 with fail
  go_region;clear cp1 R8 Z3;generalize gX w4.drew y 7 (jc (qE 16 (l.f 8)))=w5 at Z4 ⊢;have R24:=(Z4.i.drew.Pf HR.i).yX (z:=24) (c:=c) (by omega) hnc;have cp2:∀ty,(qR #[56,56] ty #[.a (some ⟨y,24,none⟩) 16 16,.a (vQ (some a) 24 c 1) (n-24) (c-24)]).G ah w5.drew = .Y (goInt 16) (gX w5.drew y 24 (jc (qE 16 (l.f 24)))):=fun ty=>by
   have:=FH (c:=c-24) (d:=16) _ R24 (m:=16) (by omega) (by omega) (Z4.i.drew.R.K 24 16 (by rw[Sx.r];omega)) 56 ty 5 cO amI;rw[OX 16 _ (by rw[jF,hl.i];omega)]at this;exact this
  have Z5:=ab (Z4.i.drew.lay hne.i 24 (jc (qE 16 (l.f 24))));rw[Sx.abF,HX0.i]at Z5;go_upto_region 5 with fail
  go_region;clear cp2 R24 Z4 i8 i24;generalize gX w5.drew y 24 (jc (qE 16 (l.f 24)))=w6 at Z5 ⊢;simp only at Z5;have S0:=ab (show sx0 l=Sx.mk 40 m (mP l 7) false 0 (mP l 6) ⟨true,qE 16 (l.f 8)⟩ ⟨true,qE 16 (l.f 24)⟩by unfold sx0 ajX;rw[HM.i];simp);obtain⟨X1,hX1⟩:∃X,X=sx0 l:=⟨_,rfl⟩
  rw[<-S0.i,<-hX1]at Z5;have HX1:=ab hX1;have ht1:X1.dB=m:=by rw[hX1,S0.i]
  have HT1:=ab ht1;clear hX1 HX0 ht1;have HE:=ab (fun(w':ak) (x z:Sx) (h:Bx [(y,x.ay),(W.a.j,qX.ay)] W w')=>show dM (gX w' W.a.j 0 z.ay) W.a.j z.ay/\aL W.a.j W (gX w' W.a.j 0 z.ay)from
   have k:=h.swap.put (fun p hp=>by rw[fV.1 hp];exact uP hy) z.ay (by rw[Sx.r,Sx.r])
   ⟨k.R,k.O⟩)
  have TH:=ab (fun(w':ak) (x:Sx) (h:Bx [(y,x.ay),(W.a.j,qX.ay)] W w')=>show w'.K W.a.j 0 40 from h.b1.K 0 40 (by rw[Sx.r];omega));have yZ:=TH.i _ _ Z5.i;have cb:=(Z5.i.Pf HR.i).asP (by omega);obtain⟨x1,x2,x3,x4⟩:=Z5.i.R.J;have ht1:=HT1.i;have i0:(0:Int)<n:=by omega
  have i0':0<n:=by omega
  by_cases e1:¬mP l 0/16=6
  ·have q:((mP l 0:Int)/16 != 6)=true:=by rw[bne_iff_ne];omega
   have H:=ab (show Bn l=(qX,3)by unfold Bn;rw[if_neg N40.i,if_pos e1]);go_wp2;refine aN (kSx.qW rfl _ rfl (HE.i _ _ qX Z5.i).1 (Sx.r _)) rfl ?_;rw[H.i];exact⟨rfl,(HE.i _ _ qX Z5.i).2⟩
  have q:((mP l 0:Int)/16 != 6)=false:=by simp;omega
  by_cases e2:n<m
  ·have q2:(n:Int)<m:=by omega
   have H:=ab (show Bn l=(qX,2)by unfold Bn;rw[if_neg N40.i,if_neg e1,if_pos (by rw[hl.i,<-HM.i];exact e2)]);go_wp2;refine aN (kSx.qW rfl _ rfl (HE.i _ _ qX Z5.i).1 (Sx.r _)) rfl ?_;rw[H.i];exact⟨rfl,(HE.i _ _ qX Z5.i).2⟩
  have q2:¬(n:Int)<m:=by omega
  have H1:=ab (show Bn l=ze 8 (sx0 l) ((l.d m).f 40)by unfold Bn;rw[if_neg N40.i,if_neg e1,if_neg (by rw[hl.i,<-HM.i];exact e2),<-HM.i]);have RP:=ab (HR.i.ad6 (z:=40) (b:=m) (c:=c) (by omega) (by omega) hnc);have j1:(40:Int)<=m:=by omega
  have j2:(m:Int)<=c:=by omega
  have hy':=ab hy;clear hy;go_wp2_with fail;clear j1 j2 q q2 i0 i0' yZ cb x1 x2 x3 x4 ht1;obtain⟨A0,hA0⟩:=bZ (vQ (some a) 40 c 1);rw[<-hA0]at RP ⊢;clear hA0;go_loopw [5] (fun s5 wr=>∃(x:Sx)(A':Option aT)(n' c':Nat)(r:List UInt8) (f:Nat),s5=.a A' n' c'/\n'<=c'/\c'<=c/\Bx [(y,x.ay),(W.a.j,qX.ay)] W wr/\gu W W.a.j A' n' r/\Bn l=ze f x r/\x.IW+f=8/\0<=x.head/\x.head+2048*f<=20000)
   (fun s5 wr=>slN s5)
  case atStart=>exact⟨X1,A0,m-40,c-40,_,8,rfl,by omega,by omega,Z5.i,RP.i,by rw[HX1.i];exact H1.i,by rw[HX1.i];rfl,by rw[HX1.i];simp[sx0],by rw[HX1.i];simp[sx0]⟩
  case round=>
   obtain⟨x,A',n',c',r,f,rfl,hn',hc',hz,hr,hsx,hf,hh0,hh1⟩:=hrel;have HZ:=ab hz;have HRr:=ab hr;have HSX:=ab hsx;have hrl:=ab hr.len;obtain⟨x1,x2,x3,x4⟩:=hz.R.J;have CE:=ab (Wv x.aQ wr);have GO:=ab (fun(w1:ak) (hb:aL wr.a.j wr w1)=>HZ.i.go hb);have yZ:=TH.i _ _ hz;have HFn:=ab hf;have HH0:=ab hh0;have HH1:=ab hh1;clear hz hr hsx Z5 RP HX1 H1 HT1 HX0 S0 HM HT;by_cases hfr:x.oV=true
   ·have H:=ab (show Bn l=(x,0)by rw[HSX.i,Pb (.a hfr)])
    go_wp2;refine aN (kSx.qW rfl _ rfl (HE.i _ _ x HZ.i).1 (Sx.r _)) rfl ?_;rw[H.i];exact⟨rfl,(HE.i _ _ x HZ.i).2⟩
   have hfr:x.oV=false:=by simpa using hfr
   by_cases hex:Aa x.aQ=false
   ·have H:=ab (show Bn l=(x,0)by rw[HSX.i,Pb (.b hex)])
    go_wp2_with (go_at_call 250;with_reducible refine CE.i.e ?_;rintro e w1 ⟨rfl,hb1⟩;have Z1:=ab (GO.i w1 hb1);have t1:=TH.i _ _ Z1.i;obtain⟨y1,y2,y3,y4⟩:=Z1.i.R.J;clear hb1);refine aN (kSx.qW rfl _ rfl (HE.i _ _ x Z1.i).1 (Sx.r _)) rfl ?_;rw[H.i];exact⟨rfl,(HE.i _ _ x Z1.i).2⟩
   have hex:Aa x.aQ=true:=by simpa using hex
   clear yZ x1 x2 x3 x4;obtain⟨x1,x2,x3,x4⟩:=HZ.i.R.J;rcases f with _|f
   ·have hx8:x.IW=8:=by have:=HFn.i;simpa using this
    have H:=ab (show Bn l=(qX,4)by rw[HSX.i,Zp hfr hex]);go_wp2_with (go_at_call 250;with_reducible refine CE.i.e ?_;rintro e w1 ⟨rfl,hb1⟩;have Z1:=ab (GO.i w1 hb1);have t1:=TH.i _ _ Z1.i;obtain⟨y1,y2,y3,y4⟩:=Z1.i.R.J;clear hb1);refine aN (kSx.qW rfl _ rfl (HE.i _ _ qX Z1.i).1 (Sx.r _)) rfl ?_;rw[H.i];exact⟨rfl,(HE.i _ _ qX Z1.i).2⟩
   have hx8:(x.IW==8)=false:=by rw[beq_eq_false_iff_ne];omega
   by_cases hs8:n'<8
   ·have q8:(n':Int)<8:=by omega
    have H:=ab (show Bn l=(qX,2)by rw[HSX.i,M7 hfr hex (.a (by rw[hrl.i];exact hs8))]);go_wp2_with (go_at_call 250;with_reducible refine CE.i.e ?_;rintro e w1 ⟨rfl,hb1⟩;have Z1:=ab (GO.i w1 hb1);have t1:=TH.i _ _ Z1.i;obtain⟨y1,y2,y3,y4⟩:=Z1.i.R.J;clear hb1);refine aN (kSx.qW rfl _ rfl (HE.i _ _ qX Z1.i).1 (Sx.r _)) rfl ?_;rw[H.i];exact⟨rfl,(HE.i _ _ qX Z1.i).2⟩
   have q8:¬(n':Int)<8:=by omega
   have CS:=ab (fun(w1:ak) (h:Bx [(y,x.ay),(W.a.j,qX.ay)] W w1)=>SC x.aQ A' n' c' _ r w1 (by omega) (h.Pf HRr.i));obtain⟨sz,hsz⟩:=bZ (rG x.aQ r);have HSZ:=ab hsz;have SZ1:=ab (show 0<sz by rw[hsz];exact(SA _ _).2 hex);have SZ2:=ab (show sz<=2048 by rw[hsz];exact agA _ _);rw[<-hsz]at CS;clear hsz;by_cases hss:n'<sz
   ·have q9:(n':Int)<sz:=by omega
    have H:=ab (show Bn l=(qX,2)by rw[HSX.i,M7 hfr hex (.b (by rw[hrl.i,<-HSZ.i];exact hss))]);go_wp2_with (first|(go_at_call 250;with_reducible refine CE.i.e ?_;rintro e w1 ⟨rfl,hb1⟩;have Z1:=ab (GO.i w1 hb1);have t1:=TH.i _ _ Z1.i;obtain⟨y1,y2,y3,y4⟩:=Z1.i.R.J;clear hb1)|(go_at_call 251;with_reducible refine(CS.i _ Z1.i).e ?_;rintro e w2 ⟨rfl,rfl⟩));refine aN (kSx.qW rfl _ rfl (HE.i _ _ qX Z1.i).1 (Sx.r _)) rfl ?_;rw[H.i];exact⟨rfl,(HE.i _ _ qX Z1.i).2⟩
   have q9:¬(n':Int)<sz:=by omega
   have H:=ab (show Bn l=ze f ⟨x.head+sz,x.dB,x.IU,decide (x.aQ=44)&&MZ r,x.IW+1,(mP r 0:Nat),x.h,x.S⟩ (r.f sz)by
    rw[HSX.i,Zq hfr hex (by rw[hrl.i,<-HSZ.i];rintro(h|h);exact hs8 h;exact hss h),<-HSZ.i])
   have wh:bU.d (x.head+sz)=x.head+sz:=jW _ (by have:=SZ2.i;omega);have we:bU.d (x.IW+1)=x.IW+1:=jW _ (by omega);have wb:bU.d ((mP r 0:Nat):Int)=((mP r 0:Nat):Int):=jW _ (by have:=vB r 0;omega);obtain⟨a',rfl,hab'⟩:=HRr.i.ah5 (show 0<n' by omega);have hne1:a'.block≠y:=by have:=hy'.i;omega
   have hne2:∀o,¬(⟨y,o,none⟩:aT)=a':=fun o e=>hne1 (by rw[<-e])
   have aJ4:∀o,¬a'=(⟨y,o,none⟩:aT):=fun o e=>hne1 (by rw[e])
   have ip:(0:Int)<n':=by omega
   have ip':0<n':=by omega
   have is2:(sz:Int)<=n':=by omega
   have BY:=ab (fun(w1:ak) (h:Bx [(y,x.ay),(W.a.j,qX.ay)] W w1)=>(h.Pf HRr.i).asP ip');have ZE:=ab (fun(w':ak) (fr:Bool) (p h e:Int) (hz:Bx [(y,x.ay),(W.a.j,qX.ay)] W w')=>show Bx [(y,(Sx.mk h x.dB x.IU fr e p x.h x.S).ay),(W.a.j,qX.ay)] W ((((w'.F ⟨y,3,none⟩ (.e fr)).F ⟨y,5,none⟩ (.b .a p)).F ⟨y,0,none⟩ (.b .a h)).F ⟨y,4,none⟩ (.b .a e))by
    have:=(((hz.set hne.i 3 (.e fr)).set hne.i 5 (.b .a p)).set hne.i 0 (.b .a h)).set hne.i 4 (.b .a e);rw[Sx.amZ,Sx.Zn,Sx.OQ,Sx.am0]at this;exact this)
   by_cases p44:x.aQ=44
   ·have C2:=ab (fun(w1:ak) (h:Bx [(y,x.ay),(W.a.j,qX.ay)] W w1)=>am6 w1 _ n' c' r 2 2 rfl (by omega) hn' (by omega) (h.Pf HRr.i))
    have hpt:=am' r;have aEg:(x.aQ==44)=true:=by simp[p44]
    have aEh:=ab p44;clear p44;obtain⟨fr,hfr2⟩:=bZ (MZ r);rw[<-hfr2]at hpt;have HF2:=ab hfr2;clear hfr2;go_wp2_with (first|(go_at_call 250;with_reducible refine CE.i.e ?_;rintro e w1 ⟨rfl,hb1⟩;have Z1:=ab (GO.i w1 hb1);have t1:=TH.i _ _ Z1.i;obtain⟨y1,y2,y3,y4⟩:=Z1.i.R.J;clear hb1)|(go_at_call 251;with_reducible refine(CS.i _ Z1.i).e ?_;rintro e w2 ⟨rfl,rfl⟩)|(go_at_call 249;with_reducible refine(C2.i _ Z1.i).e ?_;rintro e w3 ⟨rfl,hb3⟩;have Z3:=ab (Z1.i.go hb3);obtain⟨z1,z2,z3,z4⟩:=Z3.i.R.J;have bz:=BY.i _ Z3.i;clear hb3));refine⟨⟨⟨x.head+sz,x.dB,x.IU,fr,x.IW+1,(mP r 0:Nat),x.h,x.S⟩,vQ (some a') sz c' 1,n'-sz,c'-sz,r.f sz,f,rfl,by omega,by omega,ZE.i _ _ _ _ _ Z3.i,HRr.i.yX (by omega) hn',?_,?_,?_,?_⟩,?_⟩
    ·rw[H.i,HF2.i];simp[aEh.i]
    ·have:=HFn.i;simp only;omega
    ·have:=HH0.i;simp only;omega
    ·have:=HH1.i;have:=SZ2.i;simp only;omega
    ·have:=SZ1.i;simp only[slN];omega
   ·have aEg:(x.aQ==44)=false:=by simp[p44]
    go_wp2_with (first|(go_at_call 250;with_reducible refine CE.i.e ?_;rintro e w1 ⟨rfl,hb1⟩;have Z1:=ab (GO.i w1 hb1);have t1:=TH.i _ _ Z1.i;obtain⟨y1,y2,y3,y4⟩:=Z1.i.R.J;have bz:=BY.i _ Z1.i;clear hb1)|(go_at_call 251;with_reducible refine(CS.i _ Z1.i).e ?_;rintro e w2 ⟨rfl,rfl⟩));refine⟨⟨⟨x.head+sz,x.dB,x.IU,false,x.IW+1,(mP r 0:Nat),x.h,x.S⟩,vQ (some a') sz c' 1,n'-sz,c'-sz,r.f sz,f,rfl,by omega,by omega,ZE.i _ _ _ _ _ Z1.i,HRr.i.yX (by omega) hn',?_,?_,?_,?_⟩,?_⟩
    ·rw[H.i];simp[p44]
    ·have:=HFn.i;simp only;omega
    ·have:=HH0.i;simp only;omega
    ·have:=HH1.i;have:=SZ2.i;simp only;omega
    ·have:=SZ1.i;simp only[slN];omega
end
theorem Pj(W:ak)(A:Option aT)(n c:Nat)(l:List UInt8)(hnc:n<=c)(hc:c<=9223372036854775807/\n<=1000000000)(hr:gu W W.a.j A n l):aP ah 91 #[.a A n c] W (LkP W (mO l)):=by
 have HR:=ab hr;have hl:=ab hr.len;have b0:=ab (dM.new W rb.ay 108);have B0:=ab ((aG W.a.j W).alloc (av _) (.D rb.ay 108));have HR0:=ab ((hr.M B0.i).lN B0.i.j:gu (W.alloc (.D rb.ay 108)) (W.alloc (.D rb.ay 108)).a.j A n l);clear hr;go_enter Tryz.func91,Tryz.ntmps91;by_cases h14:n<14
 ·have aEi:(n:Int)<14:=by omega
  have H:=ab (show mO l=(FC,2)by unfold mO;rw[if_pos (by rw[hl.i];exact h14)]);go_wp2;refine aN (kLc.qW rfl _ rfl b0.i (Lc.r _)) rfl ?_;rw[H.i];exact⟨none,0,rfl,iE.nil _ _,B0.i⟩
 have aEi:¬(n:Int)<14:=by omega
 have i1:(12:Int)<=c:=by omega
 obtain⟨w1,hw1⟩:=bZ (W.alloc (.D rb.ay 108));have PC:=HR0.i.Sy (z:=12) (b:=n) (c:=c) (by omega) (by omega) (by omega);rw[if_neg (by omega),show(fun x:aT=>x.add 12)=fun x=>⟨x.block,x.off+12,none⟩from funext fun x=>by simp[qQ]]at PC;have C1:=ab (JO _ _ (n-12) (c-12) _ (by omega) (by omega) (by omega) PC);rw[show eY ((l.f 12).d (n-12)) 0=eY l 12 by rw[<-hl.i,<-jF,List.take_length];simp[eY,au]]at C1;clear PC;go_upto_region 4 with(go_at_call 173;with_reducible refine C1.i.e ?_;rintro e w2 ⟨rfl,hb2⟩)
 have d0:=ab (b0.i.M hb2 b0.i.lt);have B2:=ab (show aL W.a.j W w2 from B0.i.trans (hb2.e B0.i.j));have hs2:W.a.j<w2.a.j:=by have:=hb2.j;simp at this;omega
 clear hb2 C1 HR0 B0 b0 hw1;obtain⟨X0,hX0⟩:∃X:Lc,X=Lc.mk (bJ 6 0) (bJ 6 0) none 0 0 (eY l 12:Nat) 14:=⟨_,rfl⟩
 have Z3:=ab (show Rz Tg.ay 2 268 [(w2.a.j,X0.ay),(W.a.j,rb.ay)] W (w2.alloc (.D X0.ay 108)) (.a none 0 0) []from
  Rz.new ⟨fu _ _ _ _,B2.i,fun p hp=>by rw[fV.1 hp];exact⟨d0.i,by simp[jy]⟩⟩ X0.ay _)
 rw[<-hX0];generalize hw3:w2.alloc (.D X0.ay 108)=w3 at Z3 ⊢;generalize w2.a.j=y at *;clear hw3 d0 B2;have R3:=ab ((HR.i.M Z3.i.O).lN Z3.i.O.j:gu w3 w3.a.j A n l);have cp1:∀ty,(qR #[56,56] ty #[.a (some ⟨y,0,none⟩) 6 6,.a A n c]).G ah w3 = .Y (goInt 6) (gX w3 y 0 (Bl (qE 6 l))):=fun ty=>by
  have:=FH (c:=c) (d:=6) w3 R3.i (m:=6) (by omega) (by omega) (Z3.i.R.K 0 6 (by rw[Lc.r];omega)) 56 ty 5 cO amI;rw[OX 6 l (by rw[hl.i];omega)]at this;exact this
 have hne:∀p∈[(W.a.j,rb.ay)],p.1≠y:=fun p hp=>by rw[fV.1 hp];exact jQ hs2
 have Z4:=ab ((Z3.i.auV (mX hs2) hne 0 (Bl (qE 6 l))).drew);rw[Lc.abF]at Z4;go_upto_region 5 with fail
 have R4:=ab ((HR.i.M Z4.i.O).lN Z4.i.O.j:gu (gX w3 y 0 (Bl (qE 6 l))).drew (gX w3 y 0 (Bl (qE 6 l))).drew.a.j A n l);have cp2:∀ty,(qR #[56,56] ty #[.a (some ⟨y,6,none⟩) 6 6,.a (Option.map (fun x=>⟨x.block,x.off+6,none⟩) A) (n-6) (c-6)]).G ah (gX w3 y 0 (Bl (qE 6 l))).drew = .Y (goInt 6) (gX (gX w3 y 0 (Bl (qE 6 l))).drew y 6 (Bl (qE 6 (l.f 6)))):=fun ty=>by
  have P:=R4.i.Sy (z:=6) (b:=n) (c:=c) (by omega) (by omega) (by omega);rw[if_neg (by omega),show(fun x:aT=>x.add 6)=fun x=>⟨x.block,x.off+6,none⟩from funext fun x=>by simp[qQ]]at P;rw[aJ (by simp;have:=hl.i;omega)]at P;have:=FH (c:=c-6) (d:=6) _ P (m:=6) (by omega) (by omega) (Z4.i.R.K 6 6 (by rw[Lc.r];omega)) 56 ty 5 cO amI;rw[OX 6 _ (by simp;have:=hl.i;omega)]at this;exact this
 have i6:(6:Int)<=c:=by omega
 go_region;have Z5:=ab (Z4.i.auV (mX hs2) hne 6 (Bl (qE 6 (l.f 6))));rw[Lc.abG,hX0]at Z5;simp only at Z5;clear Z3 Z4 R3 R4 cp1 cp2 i6 hX0;generalize gX (gX w3 y 0 (Bl (qE 6 l))).drew y 6 (Bl (qE 6 (l.f 6)))=w5 at Z5 ⊢;go_wp2_with fail;go_loopw [] (fun wr=>∃(fP:List Tg)(A':Option aT)(c' k:Nat),fP.a<=2/\14<=k/\k<=n/\Rz Tg.ay 2 268 [(y,(Lc.mk (qE 6 l) (qE 6 (l.f 6)) A' fP.a c' (eY l (k-2):Nat) k).ay),(W.a.j,rb.ay)] W wr (.a A' fP.a c') fP/\mO l=Dw l (2-fP.a) k fP)
  (fun wr=>n-(intOf ((wr.b ⟨y,14,none⟩).b undef)).g)
 case atStart=>exact⟨[],none,0,14,by simp,by omega,by omega,Z5.i,by unfold mO;rw[if_neg (by rw[hl.i];exact h14)];rfl⟩
 case round=>
  obtain⟨fP,A',c',k,ht2,aJ7,hkn,hz,hlk⟩:=hrel;have HZ:=ab hz;have HK:=ab hlk;have HT:=ab (fun W=>abE W (eY l (k-2):Nat));have T0:=HZ.i.R;obtain⟨x1,x2,x3,x4⟩:=T0.J;have hWy:W.a.j≠y:=jQ hs2;have hA:=ab (fun(x:Lc)=>HZ.i.ans (x:=x.ay) (av _) hWy (by rw[Lc.r,Lc.r]));have yZ:=HZ.i.b1.K 0 15 (by rw[Lc.r];omega);clear hz hlk T0 Z5;cases htag:uy (eY l (k-2):Nat)
  ·rw[htag]at HT
   have H:=ab (show mO l=(⟨qE 6 l,qE 6 (l.f 6),fP,(eY l (k-2):Nat),k⟩,0)by rw[HK.i,zZ htag]);go_wp2_with (go_at_call 174;with_reducible refine(HT.i _).e ?_;rintro e w' ⟨rfl,rfl⟩);have hz2:=hA.i (Lc.mk (qE 6 l) (qE 6 (l.f 6)) A' fP.a c' (eY l (k-2):Nat) k);refine aN (kLc.qW rfl _ rfl hz2.R (Lc.r _)) rfl ?_;rw[H.i];exact⟨A',c',rfl,hz2.rd,hz2.O⟩
  rw[htag]at HT;by_cases h2:fP.a=2
  ·have h2':((fP.a:Int)==2)=true:=by rw[h2];rfl
   have H:=ab (show mO l=(FC,4)by rw[HK.i,h2];exact KZ htag);go_wp2_with (go_at_call 174;with_reducible refine(HT.i _).e ?_;rintro e w' ⟨rfl,rfl⟩);have hz2:=hA.i rb;refine aN (kLc.qW rfl _ rfl hz2.R (Lc.r _)) rfl ?_;rw[H.i];exact⟨none,0,rfl,iE.nil _ _,hz2.O⟩
  have h2':((fP.a:Int)==2)=false:=by rw[beq_eq_false_iff_ne];omega
  by_cases h4:n<k+4
  ·have h4':(n:Int)<(k:Int)+4:=by omega
   have H:=ab (show mO l=(FC,2)by rw[HK.i,show 2-fP.a=(1-fP.a)+1 by omega];exact Cx htag (by rw[hl.i];exact h4));go_wp2_with (go_at_call 174;with_reducible refine(HT.i _).e ?_;rintro e w' ⟨rfl,rfl⟩);have hz2:=hA.i rb;refine aN (kLc.qW rfl _ rfl hz2.R (Lc.r _)) rfl ?_;rw[H.i];exact⟨none,0,rfl,iE.nil _ _,hz2.O⟩
  have h4':¬(n:Int)<(k:Int)+4:=by omega
  have H:=ab (show mO l=Dw l (2-(fP.a+1)) (k+4) (fP++[⟨(eY l (k-2):Nat),(eY l k:Nat)⟩])by rw[HK.i,show 2-fP.a=(2-(fP.a+1))+1 by omega];exact FD htag (by rw[hl.i];exact h4));go_upto_region 11 with(go_at_call 174;with_reducible refine(HT.i _).e ?_;rintro e w' ⟨rfl,rfl⟩)
  obtain⟨vr,hvr⟩:∃v,v=wr:=⟨_,rfl⟩
  rw[<-hvr]at HZ x1 x2 x3 x4 ⊢;have HV:=ab hvr;clear hA yZ HT h2' h4' HK hvr;obtain⟨X,hX⟩:∃X:Lc,X=Lc.mk (qE 6 l) (qE 6 (l.f 6)) A' fP.a c' (eY l (k-2):Nat) k:=⟨_,rfl⟩
  have hi4:(k:Int)<=c:=by omega
  have hck:¬c=k:=by omega
  have PC:=(((HR.i.M HZ.i.O).lN HZ.i.O.j:gu vr vr.a.j A n l)).Sy (z:=k) (b:=n) (c:=c) (by omega) (by omega) (by omega);rw[if_neg (by omega),aJ (by simp;have:=hl.i;omega)]at PC;have PD:=ab PC;have C2:=ab (JO vr.drew _ (n-k) (c-k) _ (by omega) (by omega) (by omega) PC);rw[show eY (l.f k) 0=eY l k by simp[eY,au]]at C2;have KG:=ab (fun(W':ak) (h:dM W' y X.ay)=>show W'.b ⟨y,12,none⟩=some (.a A' fP.a c')/\W'.b ⟨y,13,none⟩=some (.b .a (eY l (k-2):Nat))/\W'.b ⟨y,14,none⟩=some (.b .a k)by
   rw[hX]at h;exact⟨(h.J.1 12).trans (Lc.abB _),(h.J.1 13).trans (Lc.EC _),(h.J.1 14).trans (Lc.MW _)⟩)
  rw[<-hX]at HZ;have ZG:=ab (fun(wa:ak) (h:aL vr.drew.a.j vr.drew wa)=>HZ.i.drew.go h);have HGL:=ab (show fP.a+1<=1000000 by omega);obtain⟨k1,k2,k3⟩:=KG.i vr.drew HZ.i.drew.R;clear PC;go_cut []from 37 to 49 (fun wx=>∃A5 c5,Rz Tg.ay 2 268 [(y,(Lc.mk (qE 6 l) (qE 6 (l.f 6)) A5 (fP.a+1) c5 (eY l (k-2):Nat) k).ay),(W.a.j,rb.ay)] W wx (.a A5 (fP.a+1) c5) (fP++[⟨(eY l (k-2):Nat),(eY l k:Nat)⟩]))
  case first=>
   go_region_law (first|(refine auW (o:=⟨some 45,_,_,_,_,_⟩) rfl ?_;go_simp;go_at_call 173;(with_reducible refine C2.i.e ?_);rintro e wa ⟨rfl,hba⟩;have Za:=ab (ZG.i wa hba);have ka:=KG.i wa Za.i.R;have Zb:=ab (Za.i.alloc (.D (Tg.mk (eY l (k-2):Nat) (eY l k:Nat)).ay 268));have kb:=KG.i _ Zb.i.R;have RO:=ab (iE.one (f:=Tg.ay) (Tg.mk (eY l (k-2):Nat) (eY l k:Nat)) Tg.r wa 268);clear hba)|(refine auX (o:=⟨some 48,_,_,_,_,_⟩) aqC rfl (.tmp 38) (.tmp 47) rfl (.a A' fP.a c') (some ⟨wa.a.j,0,none⟩) 1 1 (by kernel_rfl) Zb.i (by kernel_rfl) RO.i HGL.i ?_;intro A5 n5 c5 w5 h5 h6;have Z5:=ab h5;have k5:=(h5.R.J.1 12).trans (Lc.abB _);have f5:=h5.R.J.2.1 12;clear h5 h6))
   all_goals
    have Z6:=ab (Z5.i.am7 (mX hs2) hne 12 (.a A5 n5 c5));rw[Lc.am3]at Z6;obtain rfl:n5=fP.a+1:=by have:=Z5.i.len;simpa using this
    rw[hX]at Z6;clear Z5 k5 f5 k1 k2 k3 ka kb;go_wp2_with fail;go_meet
    case rel=>exact⟨A5,c5,Z6.i⟩
  obtain⟨A5,c5,Z6⟩:=hcut;have Z6:=ab Z6;generalize wc=w6 at Z6 ⊢;obtain⟨x1,x2,x3,x4⟩:=Z6.i.R.J;obtain⟨m,hm⟩:=bZ (k+2);have PC:=(((HR.i.M Z6.i.O).lN Z6.i.O.j:gu w6 w6.a.j A n l)).Sy (z:=m) (b:=n) (c:=c) (by omega) (by omega) (by omega);rw[if_neg (by omega),aJ (by simp;have:=hl.i;omega)]at PC;have C3:=ab (JO w6 _ (n-m) (c-m) _ (by omega) (by omega) (by omega) PC);rw[show eY (l.f m) 0=eY l m by simp[eY,au,Nat.add_assoc]]at C3;have hi2:(m:Int)<=c:=by omega
  have aJ8:¬c=m:=by omega
  have hm2:(k:Int)+2=m:=by omega
  have HM:=ab hm;have HX:=ab hX;clear PC C2 PD KG ZG hX k1 k2 k3 hm;go_wp2_with (go_at_call 173;with_reducible refine C3.i.e ?_;rintro e w7 ⟨rfl,hb7⟩;have Z7:=ab (Z6.i.go hb7);have k7:=(Z7.i.R.J.1 13).trans (Lc.EC _);have f7:=Z7.i.R.J.2.1;have k8:=(Z7.i.R.J.1 14).trans (Lc.MW _);clear hb7);have Z8:=ab ((Z7.i.am7 (mX hs2) hne 13 (.b .a (eY l m:Nat))));rw[Lc.UJ]at Z8;have Z9:=ab (Z8.i.am7 (mX hs2) hne 14 (.b .a ((k:Int)+4)));rw[Lc.aqB]at Z9;have q1:=(Z9.i.R.J.1 14).trans (Lc.MW _);have q2:=(HZ.i.R.J.1 14)
  rw[HX.i,HV.i]at q2;have q2:=q2.trans (Lc.MW _);simp only at q1 q2;refine⟨?_,?_⟩
  ·refine⟨fP++[⟨(eY l (k-2):Nat),(eY l k:Nat)⟩],A5,c5,k+4,by simp;omega,by omega,by omega,?_,by rw[H.i];simp⟩
   obtain rfl:=HM.i;simpa using Z9.i
  ·rw[q1,q2]
   simp[intOf]<;>omega
section
attribute [local go_sem high] jd jL
def Zu(k:Int)(l:List UInt8):Nt×Int:=if k=2048 then(⟨(Ak l).1.head,(Ak l).1.dB,(Ak l).1.aQ,(Ak l).1.oV,(Ak l).1.h,(Ak l).1.S⟩,(Ak l).2)
 else(⟨(Bn l).1.head,(Bn l).1.dB,(Bn l).1.aQ,(Bn l).1.oV,(Bn l).1.h,(Bn l).1.S⟩,(Bn l).2)
def xQ(k:Int):Pk:=⟨k,afA,0,0,0,0⟩
def ny(l:List UInt8):Nt×Int:=Zu (mO l).1.oM (l.f (mO l).1.fH)
def Na(l:List UInt8):Pt×Int:=JU (ny l).1.aQ ((l.d ((mO l).1.fH+(ny l).1.dB.g)).f ((mO l).1.fH+(ny l).1.head.g))
def wE(l:List UInt8):Pk:=
 if(mO l).2≠0 then xQ 1 else if(mO l).1.oM≠2048/\(mO l).1.oM≠34525 then xQ 2 else if(ny l).2≠0 then xQ 3 else if(ny l).1.oV=true then xQ 4
 else if(ny l).1.aQ≠6/\(ny l).1.aQ≠17 then xQ 5 else if(Na l).2≠0 then xQ 6
 else⟨0,⟨(ny l).1.h,(ny l).1.S,(ny l).1.aQ,(Na l).1.jv,(Na l).1.iQ⟩,(Na l).1.vw,(mO l).1.fH,(mO l).1.fH+(ny l).1.head,(mO l).1.fH+(ny l).1.dB⟩
theorem ah6{l:List UInt8}:∀(m k:Nat)(fP:List Tg),14<=k->k<=l.a->(Dw l m k fP).2=0->14<=(Dw l m k fP).1.fH/\(Dw l m k fP).1.fH<=l.a
 | 0,k,fP,h1,h2,h=>by
   cases ht:uy (eY l (k-2):Nat)with
   | false=>rw[zZ ht]at h⊢;exact⟨h1,h2⟩
   | true=>rw[KZ ht]at h;cases h
 | m+1,k,fP,h1,h2,h=>by
   cases ht:uy (eY l (k-2):Nat)with
   | false=>rw[zZ ht]at h⊢;exact⟨h1,h2⟩
   | true=>
     by_cases h4:l.a<k+4
     ·rw[Cx ht h4]at h;cases h
     ·rw[FD ht h4]at h⊢;exact ah6 m (k+4) _ (by omega) (by omega) h
theorem agC{l:List UInt8}(h:(mO l).2=0):14<=(mO l).1.fH/\(mO l).1.fH<=l.a:=by
 unfold mO at h ⊢;split at h
 ·cases h
 ·rename_i hl;rw[if_neg hl];exact ah6 2 14 [] (by omega) (by omega) h
theorem anb{l:List UInt8}(h:(Ak l).2=0):20<=(Ak l).1.head/\(Ak l).1.head<=(Ak l).1.dB/\(Ak l).1.dB<=l.a:=by
 unfold Ak at h ⊢;split at h
 ·rename_i he
  rw[if_pos he];unfold DZ at he;simp only[Rk]
  repeat(first|(split at he;(first|(cases he;done)|skip))|(exact absurd he (by decide)))
  all_goals(first|omega|(simp at he;done))
 ·exact absurd h ‹_›
theorem aqJ(f:Nat):∀(x:Sx)(r:List UInt8),40<=x.head->x.head+r.a=x.dB->(ze f x r).2=0->40<=(ze f x r).1.head/\(ze f x r).1.head<=(ze f x r).1.dB/\(ze f x r).1.dB=x.dB:=by
 induction f with
 | zero=>
   intro x r h1 h2 h;by_cases hx:x.oV=true\/Aa x.aQ=false
   ·rw[Pb hx]at h⊢;exact⟨h1,by simp only;omega,rfl⟩
   ·have hf:x.oV=false:=by simpa using fun e=>hx (.a e)
    have he:Aa x.aQ=true:=by simpa using fun e=>hx (.b e)
    rw[Zp hf he]at h;cases h
 | succ f ih=>
   intro x r h1 h2 h;by_cases hx:x.oV=true\/Aa x.aQ=false
   ·rw[Pb hx]at h⊢;exact⟨h1,by simp only;omega,rfl⟩
   ·have hf:x.oV=false:=by simpa using fun e=>hx (.a e)
    have he:Aa x.aQ=true:=by simpa using fun e=>hx (.b e)
    by_cases hs:r.a<8\/r.a<rG x.aQ r
    ·rw[M7 hf he hs]at h;cases h
    ·rw[Zq hf he hs]at h ⊢
     exact ih ⟨x.head+rG x.aQ r,x.dB,x.IU,decide (x.aQ=44)&&MZ r,x.IW+1,(mP r 0:Nat),x.h,x.S⟩ (r.f (rG x.aQ r)) (by simp only;omega) (by simp only[jF];omega) h
theorem anc{l:List UInt8}(h:(Bn l).2=0):40<=(Bn l).1.head/\(Bn l).1.head<=(Bn l).1.dB/\(Bn l).1.dB<=l.a:=by
 unfold Bn at h ⊢;split at h
 ·cases h
 ·rename_i h1
  rw[if_neg h1];split at h
  ·cases h
  ·rename_i h2
   rw[if_neg h2];split at h
   ·cases h
   ·rename_i h3
    rw[if_neg h3];obtain⟨e1,e2,e3⟩:=aqJ 8 (sx0 l) _ (by simp[sx0]) (by simp[sx0];omega) h;refine⟨e1,e2,?_⟩;rw[e3];simp only[sx0];omega
theorem ane{k:Int}{l:List UInt8}(h:(Zu k l).2=0):20<=(Zu k l).1.head/\(Zu k l).1.head<=(Zu k l).1.dB/\(Zu k l).1.dB<=l.a:=by
 unfold Zu at h ⊢;split at h
 ·rename_i hk;rw[if_pos hk];exact anb h
 ·rename_i hk;rw[if_neg hk];have:=anc h;simp only;omega
@[go_sem ↓]theorem aJ9(ps:Array (Nat×aB)):fQ 81 ps=uW 81 ps:=rfl
theorem aEl(w:ak)(fs:Array oh)(h:ah.k 81=some (.d fs)):(iF (fun f=>Prod.mk f.X <$> sizeOf f.p) fs:xI (Array (Nat×Nat))).G ah w = .Y #[(0,17),(17,17),(34,1),(35,1),(36,1)] w:=by
 have e:=jI;rw[h]at e;cases e;show _=_
 kernel_rfl
theorem Tu.abJ(x:Tu)(t:fC):sV x.ay 0 t.ay=({x with h:=t}:Tu).ay:=by unfold Tu.ay;exact Hu (by rw[fC.r,fC.r])
theorem Tu.UK(x:Tu)(t:fC):sV x.ay 17 t.ay=({x with S:=t}:Tu).ay:=by unfold Tu.ay;exact re (by rw[fC.r,fC.r]) 17 (fC.r _)
@[go_sem]theorem aEm(W:ak)(s t:fC)(p a b:Int):(uW 81 #[(0,.d s.ay),(1,.d t.ay),(2,.b .a p),(3,.b .a a),(4,.b .a b)]).G ah W = .Y (.d (Tu.mk s t p a b).ay) W:=kTu.bd W _ _ _ _ jI (aEl W _ jI) (by
 refine(tu rfl (fC.r _) (by rw[Tu.r];omega) (Tu.abJ _ _)).trans ?_;refine(tu rfl (fC.r _) (by rw[Tu.r];omega) (Tu.UK _ _)).trans ?_;refine(iB rfl rfl (by rw[Tu.r];omega) (Tu.ayu _ _)).trans ?_;refine(iB rfl rfl (by rw[Tu.r];omega) (Tu.ayv _ _)).trans ?_;refine(iB rfl rfl (by rw[Tu.r];omega) (Tu.asD _ _)).trans ?_;rfl)
theorem Pk.FJ(x:Pk)(v:Int):x.ay.c 0 (.b .a v)=({x with kind:=v}:Pk).ay:=by simp[Pk.ay,aM,Tu.r]
theorem Pk.Ri(x:Pk)(v:Int):x.ay.c 38 (.b .a v)=({x with vw:=v}:Pk).ay:=by simp[Pk.ay,aM,Tu.r]
theorem Pk.aqK(x:Pk)(v:Int):x.ay.c 39 (.b .a v)=({x with Dv:=v}:Pk).ay:=by simp[Pk.ay,aM,Tu.r]
theorem Pk.aqL(x:Pk)(v:Int):x.ay.c 40 (.b .a v)=({x with rP:=v}:Pk).ay:=by simp[Pk.ay,aM,Tu.r]
theorem Pk.anf(x:Pk)(v:Int):x.ay.c 41 (.b .a v)=({x with Ht:=v}:Pk).ay:=by simp[Pk.ay,aM,Tu.r]
theorem Pk.aj0(x:Pk)(t:Tu):sV x.ay 1 t.ay=({x with I:=t}:Pk).ay:=by unfold Pk.ay;exact re (by rw[Tu.r,Tu.r]) 1 rfl
@[go_sem]theorem aEn(W:ak)(k:Int):(uW 83 #[(0,.b .a k)]).G ah W = .Y (.d (xQ k).ay) W:=kPk.bd W _ _ _ _ vJ (ay2 W _ vJ) (by
 refine(iB rfl rfl (by rw[Pk.r];omega) (Pk.FJ _ _)).trans ?_;rfl)
@[go_sem]theorem aEo(W:ak)(t:Tu)(a b c d:Int):(uW 83 #[(1,.d t.ay),(2,.b .a a),(3,.b .a b),(4,.b .a c),(5,.b .a d)]).G ah W = .Y (.d (Pk.mk 0 t a b c d).ay) W:=kPk.bd W _ _ _ _ vJ (ay2 W _ vJ) (by
 refine(tu rfl (Tu.r _) (by rw[Pk.r];omega) (Pk.aj0 _ _)).trans ?_;refine(iB rfl rfl (by rw[Pk.r];omega) (Pk.Ri _ _)).trans ?_;refine(iB rfl rfl (by rw[Pk.r];omega) (Pk.aqK _ _)).trans ?_;refine(iB rfl rfl (by rw[Pk.r];omega) (Pk.aqL _ _)).trans ?_;refine(iB rfl rfl (by rw[Pk.r];omega) (Pk.anf _ _)).trans ?_;rfl)
theorem aea(p:Int)(W:ak):aP ah 94 #[.b .a p] W fun e W'=>e=.a (.e (decide (p=6)||decide (p=17)))/\W=W':=by
 go_enter Tryz.func94,Tryz.ntmps94;by_cases h:p=6
 ·have q:(p==6)=true:=by simp[h]
  go_wp2;go_ret;exact⟨by simp[h],rfl⟩
 ·have q:(p==6)=false:=by simp[h]
  go_wp2;go_ret;exact⟨by simp[h];rw[bF];simp,rfl⟩
def aeb(k:Int):aB:=.iface 162 (.b .a k)
theorem aqM(k:Int)(W:ak):aP ah 92 #[.e true,.b .a k] W fun e W'=>e=.a (.I #[])/\W=W':=by
 go_enter Tryz.func92,Tryz.ntmps92;go_wp2;go_end0;exact⟨rfl,rfl⟩
theorem aqN(k:Int)(W:ak):aP ah 92 #[.e false,.b .a k] W fun e W'=>e=.panicked [{v:=aeb k,recovered:=false}]/\W=W':=by
 go_enter Tryz.func92,Tryz.ntmps92;go_wp2;exact⟨rfl,rfl,rfl⟩
theorem agD(W:ak)(k:Int)(A:Option aT)(n c:Nat)(l:List UInt8)(hnc:n<=c)(hc:c<=9223372036854775807/\n<=1000000000)(hr:gu W W.a.j A n l):aP ah 93 #[.b .a k,.a A n c] W (fT W (.I #[.d (Zu k l).1.ay,.b .a (Zu k l).2])):=by
 have b0:=ab ((Bx.start W).new abA.ay 168);have R0:=b0.i.Pf hr;have C4:=ab (OY _ A n c l hnc hc R0);have C6:=ab (SG _ A n c l hnc hc R0);clear R0 hr;have hne:∀(w:ak),W.a.j<w.a.j->∀p∈[(w.a.j,(#[]:Array aB))],True:=fun _ _ _ _=>trivial
 go_enter Tryz.func93,Tryz.ntmps93;by_cases hk:k=2048
 ·have q:(k==2048)=true:=by simp[hk]
  have H:=ab (show Zu k l=(⟨(Ak l).1.head,(Ak l).1.dB,(Ak l).1.aQ,(Ak l).1.oV,(Ak l).1.h,(Ak l).1.S⟩,(Ak l).2)by unfold Zu;rw[if_pos hk]);obtain⟨x,hx⟩:=bZ ((Ak l));obtain⟨x,er⟩:=x;rw[<-hx]at H;unfold FoP at C4;rw[<-hx]at C4;clear hx hk;go_wp2_with (go_at_call 175;with_reducible refine C4.i.e ?_;rintro e w1 ⟨rfl,hb1⟩;have Z1:=ab (b0.i.go hb1);have Z2:=ab (Z1.i.new x.ay 192);obtain⟨y1,y2,y3,y4⟩:=Z2.i.R.J;have yZ:=Z2.i.b1.K 0 38 (aX (Nt.r abA).symm);clear hb1);have Z3:=ab (Z2.i.swap.put (fun p hp=>by rw[fV.1 hp];exact uP Z1.i.R.lt) (Nt.mk x.head x.dB x.aQ x.oV x.h x.S).ay (by rw[Nt.r,Nt.r]));refine aN (kNt.qW rfl _ rfl Z3.i.R (Nt.r _)) rfl ?_;rw[H.i];exact⟨rfl,Z3.i.O⟩
 ·have q:(k==2048)=false:=by simp[hk]
  have H:=ab (show Zu k l=(⟨(Bn l).1.head,(Bn l).1.dB,(Bn l).1.aQ,(Bn l).1.oV,(Bn l).1.h,(Bn l).1.S⟩,(Bn l).2)by unfold Zu;rw[if_neg hk]);obtain⟨x,hx⟩:=bZ ((Bn l));obtain⟨x,er⟩:=x;rw[<-hx]at H;unfold SxP at C6;rw[<-hx]at C6;clear hx hk;go_wp2_with (go_at_call 176;with_reducible refine C6.i.e ?_;rintro e w1 ⟨rfl,hb1⟩;have Z1:=ab (b0.i.go hb1);have Z2:=ab (Z1.i.new x.ay 189);obtain⟨y1,y2,y3,y4⟩:=Z2.i.R.J;have yZ:=Z2.i.b1.K 0 38 (aX (Nt.r abA).symm);clear hb1);have Z3:=ab (Z2.i.swap.put (fun p hp=>by rw[fV.1 hp];exact uP Z1.i.R.lt) (Nt.mk x.head x.dB x.aQ x.oV x.h x.S).ay (by rw[Nt.r,Nt.r]));refine aN (kNt.qW rfl _ rfl Z3.i.R (Nt.r _)) rfl ?_;rw[H.i];exact⟨rfl,Z3.i.O⟩
theorem WC{P:eD}{t:bE}{ik:IntKind}(hu:P.k t=some (.b ik))(v:aB)(xT:bE)(w:ak):(Ij (.iface t v) xT t true).G P w = .Y (.I #[v,.e true]) w:=by
 simp[Ij,dJ hu]
theorem Uj(q:Nat)(k:Int)(kG:List PanicEntry)(w:ak)(hth:w.K q 0 42):
 CallsD ah 90 #[.c (some ⟨q,0,none⟩)] (.panicking ({v:=aeb k,recovered:=false}::kG)) w fun e u' w'=>
  e=.a (.I #[])/\u'=.panicking ({v:=aeb k,recovered:=true}::kG)/\w'=gX w q 0 (xQ k).ay:=by
 refine callsD_of_wpS Tryz.func90 rfl fun c₀ cs hu=>?_
 simp only[Ja,dL,bD,gP,Nat.reduceAdd,Nat.reduceSub,Array.replicate_succ,Array.replicate_zero,List.push_toArray,List.append_toArray,dH,gW];apply Jb;apply Df;simp[wpOpsS,go_sem,recoverD,hu,Ja,Exit.thenS];apply Jb;apply Df;simp[wpOpsS,go_sem,recoverD,hu,Ja,Exit.thenS,aeb];refine wpS_cond (t:=true) (by simp[Act.eval,nQ]) ?_;simp only[if_true];refine wpS_of_wp ?_;have hty:=fun v xT w=>WC (P:=ah) Tryz.underlying162 v xT w
 have aJ':=hth;go_wp2;exact⟨rfl,_,rfl,_,results_none rfl _ _ _,rfl,rfl,rfl⟩
theorem agE(q:Nat)(w:ak):
 CallsD ah 90 #[.c (some ⟨q,0,none⟩)] .returning w fun e u' w'=>e=.a (.I #[])/\u'=.returning/\w'=w:=by
 refine callsD_of_wpS Tryz.func90 rfl fun c₀ cs hu=>?_
 apply Jb;apply Df;simp[wpOpsS,go_sem,recoverD,hu,Ja,Exit.thenS];apply Jb;apply Df;simp[wpOpsS,go_sem,recoverD,hu,Ja,Exit.thenS];refine wpS_cond (t:=false) (by simp[Act.eval,nQ]) ?_;simp only[iV,if_false];refine wpS_of_wp (wp_skip ?_);cases c₀;simp_all[bodyPostS,results,Tryz.results90]
end
def yI(o:iM)(e:Nat):iM:={o with after:=o.after.push {on:=e,ground:=.data}}
theorem Md{listed:Array Bool}{k i:Nat}{b:Bool}(h:listed.b k b=true):(listed.c i true).b k b=true:=by
 by_cases e:i=k
 ·subst e
  rcases aZ i listed.j with h1|h1
  ·simp[h1]
  ·rw[jV h1];exact h
 ·rw[xJ b e];exact h
def ang(ops:Array iM)(k s e d:Nat):Bool:=match ops[s]?,ops[e]?,ops[s+1]? with
 | some os,some oe,some ot=>((bY s).all fun i=>i==e||os.after.any fun x=>qU .any x&&x.on==i)&&(oe.after.all fun x=>!qU .any x||os.after.any fun y=>qU .any y&&y.on==x.on)
  && (ot.after.any fun x=>qU .any x&&x.on==e)&&os.S==none&&os.guard==none&&oe.guard==none&&decide (e<s)&&decide (k<s)&&e != k&&(match oe.S with|some x=>!(os.looksAt ops).contains x&&x != d|none=>false) && !(oe.looksAt ops).contains d
  && ((bY ops.j).all fun t=>decide (t<=s+1)||Region.waitsFor .any ops t (t-1))
 | _,_,_=>false
section
variable {P:eD}
section
variable {l:List iM} {k s e g d:Nat} {o os oe:iM} {T:bE} {z:Array aB} {aF:qG} {Q:yP->qG->ak->Prop}
def ng(l:List iM)(k s e:Nat)(o os:iM):List iM:=(l.set k (lq o)).set s (yI os e)
theorem zK(i:Nat)(hk:i≠k)(hs:i≠s):(ng l k s e o os).c[i]? = l.c[i]?:=by
 simp[ng,fI,jB hk,jB hs]
theorem abL(hs:l[s]? = some os):(ng l k s e o os).c[s]? = some (yI os e):=by
 have:=(iL.1 hs).1;simp[ng,fI,this]
theorem WE(hk:l[k]? = some o)(hks:k≠s):(ng l k s e o os).c[k]? = some (lq o):=by
 have:=(iL.1 hk).1;simp[ng,fI,this,jB hks]
theorem WG(hk:l[k]? = some o)(hs:l[s]? = some os)(hks:k≠s)(tmps:Array aB):yielded (ng l k s e o os).c tmps=yielded l.c tmps:=by
 funext j;unfold yielded;have:((ng l k s e o os).c[j]?).bind (·.S)=(l.c[j]?).bind (·.S):=by
  by_cases h1:j=s
  ·subst h1;rw[abL hs];simp[hs,yI]
  ·by_cases h2:j=k
   ·subst h2;rw[WE hk hks];simp[hk,lq]
   ·rw[zK j h2 h1]
 rw[this]
theorem Nb(hk:l[k]? = some o)(hs:l[s]? = some os)(hks:k≠s){listed:Array Bool}{i:Nat}(h:i∈fZ .any (ng l k s e o os).c listed):i∈fZ .any l.c listed:=by
 obtain⟨h1,p,hp,h2⟩:=kL.1 h;by_cases e1:i=s
 ·subst e1
  rw[abL hs]at hp;cases hp;exact kL.2 ⟨h1,os,by simpa using hs,fun x hx hb=>h2 x (by simp[yI,hx]) hb⟩
 ·by_cases e2:i=k
  ·subst e2
   rw[WE hk hks]at hp;cases hp;exact kL.2 ⟨h1,o,by simpa using hk,h2⟩
  ·rw[zK i e2 e1]at hp
   exact kL.2 ⟨h1,p,hp,h2⟩
theorem Nc(hk:l[k]? = some o)(hs:l[s]? = some os)(hks:k≠s){listed:Array Bool}{i:Nat}(h:i∈fZ .any l.c listed):i∈fZ .any (ng l k s e o os).c listed\/(i=s/\listed.b e false=false):=by
 obtain⟨h1,p,hp,h2⟩:=kL.1 h;by_cases e1:i=s
 ·subst e1
  cases he:listed.b e false with
  | false=>exact .b ⟨rfl,rfl⟩
  | true=>
    have:p=os:=by simp[hs]at hp;exact hp.symm
    subst this;refine .a (kL.2 ⟨h1,yI p e,abL hs,fun x hx hb=>?_⟩);simp only[yI,Array.mem_push]at hx;rcases hx with hx|rfl
    ·exact h2 x hx hb
    ·exact he
 ·left
  by_cases e2:i=k
  ·subst e2
   have:p=o:=by simp[hk]at hp;exact hp.symm
   subst this;exact kL.2 ⟨h1,lq p,WE hk hks,h2⟩
  ·exact kL.2 ⟨h1,p,by rw[zK i e2 e1];exact hp,h2⟩
theorem Zv(hk:l[k]? = some o)(hs:l[s]? = some os)(hks:k≠s){listed:Array Bool}(he:listed.b e false=true):fZ .any (ng l k s e o os).c listed=fZ .any l.c listed:=by
 have hiff:∀i,i∈fZ .any (ng l k s e o os).c listed↔i∈fZ .any l.c listed:=fun i=>
  ⟨Nb hk hs hks,fun h=>(Nc hk hs hks h).resolve_right fun h2=>by rw[he]at h2;cases h2.2⟩
 have hsz:(ng l k s e o os).c.j=l.c.j:=by simp[ng]
 unfold fZ at hiff ⊢;rw[hsz]at hiff ⊢;refine Gd fun i hi=>?_
 have:=hiff i;rw[mK,mK]at this;rw[bF];exact⟨fun h=>(this.1 ⟨hi,h⟩).2,fun h=>(this.2 ⟨hi,h⟩).2⟩
theorem abM(hk:l[k]? = some o)(hs:l[s]? = some os)(hks:k≠s):∀(g j:Nat)(listed:Array Bool),listed.b e false=true->listed.j=l.a->lK .any (ng l k s e o os).c g j listed=true->lK .any l.c g j listed=true
 | 0,j,listed,he,hz,h=>by simp only[lK]at h⊢;rwa [Zv hk hs hks he]at h
 | g+1,j,listed,he,hz,h=>by
   simp only[lK,bf]at h ⊢;rw[Zv hk hs hks he]at h;exact⟨h.1,abM hk hs hks g (j+1) _ (getD_set_true he) (by simp[hz]) h.2⟩
def Pure(P:eD)(oe:iM):Prop:=∀(a:qG)(w w':ak)(n:Next)(w1:ak),(execOp a.eval oe).G P w = .Y n w1->∃v,n=.value v/\w1=w/\(execOp a.eval oe).G P w' = .Y (.value v) w'
structure Rm(l:List iM)(k s e d x:Nat)(o os oe ot:iM):Prop where
 hk:l[k]? = some o
 hs:l[s]? = some os
 he:l[e]? = some oe
 ht:l[s+1]? = some ot
 all:∀i,i<s->i≠e->∃y∈os.after,qU .any y=true/\y.on=i
 sub:∀y∈oe.after,qU .any y=true->∃z∈os.after,qU .any z=true/\z.on=y.on
 wt:∃y∈ot.after,qU .any y=true/\y.on=e
 sd:os.S=none
 sg:os.guard=none
 eg:oe.guard=none
 es:e<s
 ks:k<s
 ek:e≠k
 ed:oe.S=some x
 sx:x∉os.looksAt l.c
 xd:x≠d
 edl:d∉oe.looksAt l.c
 chain:∀t,t<l.a->s+1<t->Region.waitsFor .any l.c t (t-1)=true
theorem Rm.of{x:Nat}{ot:iM}(hk:l[k]? = some o)(hs:l[s]? = some os)(he:l[e]? = some oe)(ht:l[s+1]? = some ot)(hx:oe.S=some x)(h:ang l.c k s e d=true):Rm l k s e d x o os oe ot:=by
 unfold ang at h;simp only[dW,hs,he,ht,bf,decide_eq_true_eq,hx,beq_iff_eq,bne_iff_ne]at h;obtain⟨⟨⟨⟨⟨⟨⟨⟨⟨⟨⟨h1,h2⟩,h3⟩,h4⟩,h5⟩,h6⟩,h7⟩,h8⟩,h9⟩,h10,h11⟩,h12⟩,h13⟩:=h;refine⟨hk,hs,he,ht,fun i hi hie=>?_,fun y hy hb=>?_,?_,h4,h5,h6,h7,h8,h9,hx,by simpa using h10,h11,by simpa using h12,fun t ht1 ht2=>?_⟩
 ·have:=fM.1 h1 i (dV.2 hi)
  simp only[mJ,beq_iff_eq]at this;obtain⟨y,hy,hy2⟩:=Array.any_eq_true'.1 (this.resolve_left hie);simp only[bf,beq_iff_eq]at hy2;exact⟨y,hy,hy2⟩
 ·have:=Array.all_eq_true'.1 h2 y hy
  simp only[mJ,Bool.not_eq_true',hb]at this;obtain⟨z,hz,hz2⟩:=Array.any_eq_true'.1 (this.resolve_left (by simp));simp only[bf,beq_iff_eq]at hz2;exact⟨z,hz,hz2⟩
 ·obtain⟨y,hy,hy2⟩:=Array.any_eq_true'.1 h3
  simp only[bf,beq_iff_eq]at hy2;exact⟨y,hy,hy2⟩
 ·have:=fM.1 h13 t (dV.2 (by simpa using ht1))
  simp only[mJ,decide_eq_true_eq]at this;exact this.resolve_left (by omega)
theorem aj1{x:Nat}{ot:iM}(H:Rm l k s e d x o os oe ot)(hsel:∀(j:Nat)(o:iM) cs b,l.c[j]? = some o->o.op≠.select cs b)(hp:Pure P oe){C:ak->Prop}{u:aB}{f:Nat}{listed:Array Bool}{a:qG}{w:ak}
 (hsz:listed.j=l.a) (htail:∀t,s<=t->t<l.a->listed.b t true=false) (hq:Yl P .any (ng l k s e o os).c C s (l.a-s) aF (f+1) listed a) (hw:C w) (hsr:s∈fZ .any l.c listed) (hel:listed.b e false=false)
 (hst:∀w',C w'->∃w2,(execOp (aF.put (some d) u).eval os).G P w' = .Y .skip w2/\wpList P l.c Q (l.f (s+1)) (aF.put (some d) u) w2) :
 wpOp P l.c Q s (wpAny P .any l.c Q (f+(l.a-s)) (listed.c s true)) (a.put (some d) u) w:=by
 have hks:=jQ H.ks;have hes:=jQ H.es;obtain⟨_,p,hpo,hall⟩:=kL.1 hsr;have:p=os:=by have:=H.hs;simp[this]at hpo;exact hpo.symm
 subst this;have hlt:s+1<l.a:=(iL.1 H.ht).1;have au5:e<listed.j:=by rw[hsz];have:=H.es;omega
 have he':e∈fZ .any (ng l k s e o p).c listed:=kL.2 ⟨getD_in au5 hel,oe,by rw[zK e H.ek hes];simpa using H.he,fun y hy hb=>by
  obtain⟨z,hz,hzb,hzo⟩:=H.sub y hy hb;rw[<-hzo];exact hall z hz hzb⟩
 obtain⟨v,hy,hK⟩:=rD (by rw[zK e H.ek hes];simpa using H.he) (hq.2 e he').2;have ah7:∀i,i<s->i≠e->listed.b i false=true:=fun i hi hie=>by
  obtain⟨y,hy,hb,ho⟩:=H.all i hi hie;rw[<-ho];exact hall y hy hb
 obtain rfl:f=0:=by
  rcases f with _|f
  ·rfl
  ·exfalso
   obtain⟨i,hi⟩:=List.exists_mem_of_ne_nil _ hK.1;have hin:=(hK.2 i hi).1;have hun:=(kL.1 hi).1;have h1:=Ab hun;have h2:=EF hun;have h3:=ah7 i hin h1;rw[getD_both h2]at h3;cases h3
 obtain⟨hseq,hact⟩:=hK;rw[H.ed]at hact;have hA:aF.put (some d) u=(a.put (some d) u).put (some x) v:=by rw[<-hact];exact Act.put_comm a v u (fun e he=>by cases he;simpa using jB H.xd)
 unfold wpOp;rw[hpo];simp only;rw[if_pos (by simp[fq,H.sg])];refine .a ?_;obtain⟨w2,hrun,hrest⟩:=hst w hw;rw[hA,execOp_put p (fun cs b=>hsel s p cs b hpo) (a.put (some d) u) (some x) v (fun e he=>by cases he;exact H.sx)]at hrun;unfold nG;rw[hrun];simp only[Np,H.sd,lM];rw[bl];obtain⟨g,hg⟩:∃g,l.a-s=g+1:=⟨l.a-s-1,by omega⟩
 rw[hg]at hseq ⊢;simp only[lK,bf,decide_eq_true_eq]at hseq;have azl:(listed.c s true).b e false=false:=by rw[xJ false (jB hes)];exact hel
 have her:e∈fZ .any l.c (listed.c s true):=kL.2 ⟨getD_in (by simpa using au5) azl,oe,by simpa using H.he,fun y hy hb=>by
  obtain⟨z,hz,hzb,hzo⟩:=H.sub y hy hb;rw[<-hzo];exact getD_set_true (hall z hz hzb)⟩
 refine⟨fun h0=>(by rw[h0]at her;cases her),fun i hi=>?_⟩;obtain rfl:i=e:=by
  obtain⟨hun,q,hqo,hqa⟩:=kL.1 hi;have h1:=Ab hun;have h2:=EF hun;by_cases hie:i=e
  ·exact hie
  ·exfalso
   rcases aZ i s with h3|h3
   ·have h4:=ah7 i h3 hie
    rw[getD_both h2]at h4;cases h4
   ·have hil:i<l.a:=by have:=(Array.getElem?_eq_some_iff.1 hqo).1;simpa using this
    rcases aZ (s+1) i with h4|h4
    ·obtain⟨q',hq',y,hy,hb,ho⟩:=Region.waitsFor_spec (H.chain i hil h4)
     have:q'=q:=Option.some.inj (hq'.symm.trans hqo);subst this;have h5:=hqa y hy hb;rw[ho,xJ false (by omega),getD_both (htail (i-1) (by omega) (by omega))]at h5;cases h5
    ·obtain rfl:i=s+1:=by omega
     have:q=ot:=by have:=H.ht;simp[this]at hqo;exact hqo.symm
     subst this;obtain⟨y,hy,hb,ho⟩:=H.wt;have h5:=hqa y hy hb;rw[ho,azl]at h5;cases h5
 have heo:l.c[i]? = some oe:=by simpa using H.he
 unfold wpOp;simp only[heo];rw[if_pos (by simp[fq,H.eg])];refine .a ?_;have hyv:(execOp a.eval oe).G P w2 = .Y (.value v) w2:=by
  rcases hy with⟨_,h2⟩|⟨h1,_⟩
  ·have h3:=h2 w hw
   unfold Oper.quietAt at h3;generalize hr:(execOp a.eval oe).G P w=r at h3;cases r with
   | halt y w'=>cases h3
   | ok n w'=>
     obtain⟨v',rfl,rfl,h4⟩:=hp a w w2 n w' hr;simp only[Oper.quietUpon]at h3;rw[<-h3.2];exact h4
  ·simp[fq,H.eg]at h1
 unfold nG;have hex:execOp (a.put (some d) u).eval oe=execOp a.eval oe:=execOp_put oe (fun cs b=>hsel i oe cs b heo) a (some d) u (fun e he=>by cases he;exact H.edl);have ha2:({tmps:=a.tmps.c d u,defers:=a.defers}:qG)=a.put (some d) u:=rfl;rw[ha2,hex,hyv];simp only[Np,H.ed];rw[<-hA];have hdl:(l.f (s+1)).a=g:=by simp;omega
 have:=wpAny_of_seq (P:=P) (md:=.any) (Q':=Q) (ops:=l.c) (l.f (s+1)) (s+1) ((listed.c s true).c i true) (aF.put (some d) u) w2 (fun j=>by simp[jq]) (by
  rw[hdl,Array.setIfInBounds_comm _ _ (jB hes)];refine abM H.hk H.hs hks g (s+1) _ ?_ (by simp[hsz]) hseq.2;rw[xJ false (jB hes)];simp[au5]) hrest
 rw[hdl]at this;exact this
theorem Pm{listed:Array Bool}{i:Nat}(h:∀t,s<=t->t<l.a->listed.b t true=false)(hi:i<s):∀t,s<=t->t<l.a->(listed.c i true).b t true=false:=fun t h1 h2=>by rw[xJ true (by omega)];exact h t h1 h2
theorem JW{x:Nat}{ot:iM}(H:Rm l k s e d x o os oe ot)(hA:Hy l.c k s d=true)(hsel:∀(j:Nat)(o:iM) cs b,l.c[j]? = some o->o.op≠.select cs b)(hp:Pure P oe){C:ak->Prop}{u:aB}
 (hst:∀w',C w'->∃w2,(execOp (aF.put (some d) u).eval os).G P w' = .Y .skip w2/\wpList P l.c Q (l.f (s+1)) (aF.put (some d) u) w2)
 (hend:∀listed w',listed.j=l.a->C w'->lK .any (ng l k s e o os).c (l.a-s) s listed=true->wpAny P .any l.c Q (l.a-s) listed (aF.put (some d) u) w') :
 ∀(f:Nat)(listed:Array Bool)(a:qG)(w:ak),listed.j=l.a->(∀t,s<=t->t<l.a->listed.b t true=false)->listed.b k true=true->C w->Yl P .any (ng l k s e o os).c C s (l.a-s) aF f listed a->wpAny P .any l.c Q (f+(l.a-s)) listed (a.put (some d) u) w
 | 0,listed,a,w,hsz,_,_,hw,h=>by
   obtain⟨h1,rfl⟩:=h;rw[bl];exact hend _ _ hsz hw h1
 | f+1,listed,a,w,hsz,htl,hkt,hw,h=>by
   rw[show f+1+(l.a-s)=(f+(l.a-s))+1 by omega];have hks:=jQ H.ks;refine⟨fun h0=>absurd ?_ h.1,fun i hi=>?_⟩
   ·rw[tY]
    intro i hi;have:=Nb H.hk H.hs hks hi;rw[h0]at this;cases this
   ·rcases Nc (e:=e) H.hk H.hs hks hi with hi'|⟨rfl,hel⟩
    ·obtain⟨hin,hq⟩:=h.2 i hi'
     obtain⟨hun,oi,hoi,_⟩:=kL.1 hi;have hik:i≠k:=fun e=>by rw[e,hkt]at hun;cases hun
     have his:i≠s:=jQ hin;obtain⟨hl,hd⟩:=Wx hA hin hik hoi;unfold qOp at hq;rw[zK i hik his,hoi]at hq;unfold wpOp;simp only[hoi];simp only[WG H.hk H.hs hks]at hq;rw[wanted_put oi a (some d) u (fun e he=>by cases he;exact hl)];split
     ·rename_i hw2
      simp only[hw2,if_true]at hq;exact .a (Iw (fun cs b=>hsel i oi cs b hoi) hl hd hw (fun a' w' hw' h'=>JW H hA hsel hp hst hend f _ a' w' (by simp[hsz]) (Pm htl hin) (Md hkt) hw' h') hq)
     ·rename_i hw2
      simp only[hw2]at hq;rw[Act.put_comm a u undef (fun e he=>by cases he;exact hd)];exact JW H hA hsel hp hst hend f _ _ w (by simp[hsz]) (Pm htl hin) (Md hkt) hw hq
    ·exact aj1 H hsel hp hsz htl h hw hi hel hst
theorem WH{x:Nat}{ot:iM}(H:Rm l k s e d x o os oe ot)(hA:Hy l.c k s d=true)(hD:SE (ng l k s e o os)=true)(hsel:∀(j:Nat)(o:iM) cs b,l.c[j]? = some o->o.op≠.select cs b)(hp:Pure P oe)
 (hod:o.S=some d) (hog:o.guard=none) (hoa:o.after = #[]) (hrun:∀(a:qG) w,(execOp a.eval o).G P w = .Y (.value (.c (some ⟨w.a.j,0,none⟩))) (w.alloc (.D z T))) {S:ak->Prop} (hS:Shut S)
 (hst:∀w1 w',S w1->S w'->aL (w1.alloc (.D z T)).a.j (w1.alloc (.D z T)) w'->∃w2,(execOp (aF.put (some d) (.c (some ⟨w1.a.j,0,none⟩))).eval os).G P w' = .Y .skip w2/\wpList P l.c Q (l.f (s+1)) (aF.put (some d) (.c (some ⟨w1.a.j,0,none⟩))) w2)
 (hend:∀listed w1 w',listed.j=l.a->S w1->S w'->aL (w1.alloc (.D z T)).a.j (w1.alloc (.D z T)) w'->lK .any (ng l k s e o os).c (l.a-s) s listed=true->wpAny P .any l.c Q (l.a-s) listed (aF.put (some d) (.c (some ⟨w1.a.j,0,none⟩))) w') :
 ∀(f:Nat)(listed:Array Bool)(a:qG)(w:ak),listed.j=l.a->(∀t,s<=t->t<l.a->listed.b t true=false)->listed.b k true=false->S w->(∀C:ak->Prop,(∀w,C w->S w)->Shut C->(∃w,C w)->Yl P .any (ng l k s e o os).c C s (l.a-s) aF f listed a)->wpAny P .any l.c Q (f+(l.a-s)) listed a w
 | 0,listed,a,w,hsz,_,hun,hw,HH=>by
   obtain⟨h1,_⟩:=HH S (fun _ h=>h) hS ⟨w,hw⟩;have:k∈fZ .any (ng l k s e o os).c listed:=kL.2 ⟨hun,lq o,WE H.hk (jQ H.ks),fun e he=>by simp[lq,hoa]at he⟩;have:=seqB_ready h1 k this;have:=H.ks;omega
 | f+1,listed,a,w,hsz,htl,hun,hw,HH=>by
   rw[show f+1+(l.a-s)=(f+(l.a-s))+1 by omega];have hks:=jQ H.ks;have H0:=HH S (fun _ h=>h) hS ⟨w,hw⟩;have hkl:k<l.a:=(iL.1 H.hk).1;refine⟨fun h0=>absurd ?_ H0.1,fun i hi=>?_⟩
   ·rw[tY]
    intro i hi;have:=Nb H.hk H.hs hks hi;rw[h0]at this;cases this
   ·rcases Nc (e:=e) H.hk H.hs hks hi with hi'|⟨rfl,hel⟩
    ·have hin:=(H0.2 i hi').1
     by_cases hik:i=k
     ·subst hik
      unfold wpOp;simp only[dW,H.hk];rw[if_pos (by simp[fq,hog])];refine .a ?_;unfold nG;rw[hrun];simp only[Np,hod];have hC:=HH (fun w'=>S w'/\aL (w.alloc (.D z T)).a.j (w.alloc (.D z T)) w') (fun _ h=>h.1) (WA hS _) ⟨_,hS _ _ hw ((aG _ _).alloc (av _) _),aG _ _⟩;obtain⟨v,_,hK⟩:=rD (o:=lq o) (WE H.hk hks) (hC.2 i hi').2;have:=JW (C:=fun w'=>S w'/\aL (w.alloc (.D z T)).a.j (w.alloc (.D z T)) w') (u:=.c (some ⟨w.a.j,0,none⟩)) H hA hsel hp (fun w' hw'=>hst w w' hw hw'.1 hw'.2) (fun listed' w' hz hw' hB=>hend listed' w w' hz hw hw'.1 hw'.2 hB) f _ _ (w.alloc (.D z T)) (by simp[hsz]) (Pm htl hin) (by
       have:i<listed.j:=by rw[hsz];exact hkl
       simp[this]) ⟨hS _ _ hw ((aG _ _).alloc (av _) _),aG _ _⟩ hK
      have e1:(lq o).S=some d:=hod;rw[e1,Ph]at this;exact this
     ·obtain⟨_,oi,hoi,_⟩:=kL.1 hi
      have his:i≠s:=jQ hin;have agB:(ng l k s e o os).c[i]? = some oi:=by rw[zK i hik his];exact hoi
      obtain⟨v,hy,hK⟩:=rD agB (H0.2 i hi').2;have hq:qOp P l.c S i (fun a'=>a'=a.put oi.S v) a:=by
       unfold qOp;simp only[hoi];unfold YieldsIn at hy;simp only[WG H.hk H.hs hks]at hy;rcases hy with⟨h1,h2⟩|⟨h1,rfl⟩
       ·simp only[h1,if_true];exact⟨v,h2,rfl⟩
       ·simp only[h1,iV,if_false]
      refine wpOp_of_qOp hw (fun a' w' hw' e1=>?_) hq;subst e1;refine WH H hA hD hsel hp hod hog hoa hrun hS hst hend f _ _ w' (by simp[hsz]) (Pm htl hin) (Pg hun (jB hik)) hw' (fun C hC1 hC2 hC3=>?_);obtain⟨_,v2,_,_,_,hK2,_⟩:=ad7 hD hi' agB H0 (HH C hC1 hC2 hC3);have e1:a.put oi.S v=a.put oi.S v2:=by
       cases hd:oi.S with
       | none=>rfl
       | some dd=>
         have hno:∀j oj,(ng l k s e o os).c[j]? = some oj->(listed.c i true).b j true=false->oj.S≠some dd:=fun j oj hj hl hdj=>by
          have:=Hz hD (by simpa using agB) (by simpa using hj) hd hdj;exact Ab hl this.symm
         have q1:=(Cy f _ _ hK).2.2 dd hno;have q2:=(Cy f _ _ hK2).2.2 dd hno;rw[hd]at q1 q2;have q:=q1.symm.trans q2;simp only[lM,dR,if_pos]at q ⊢;by_cases hs:dd<a.tmps.j
         ·simp[hs]at q;rw[q]
         ·have hs':=Nat.le_of_not_lt hs
          rw[jV hs',jV hs']
      rw[e1];exact hK2
    ·exfalso
     obtain⟨_,p,hpo,hall⟩:=kL.1 hi;have:p=os:=by have:=H.hs;simp[this]at hpo;exact hpo.symm
     subst this;obtain⟨y,hy,hb,ho⟩:=H.all k H.ks (jB H.ek);have:=hall y hy hb;rw[ho,getD_both hun]at this;cases this
theorem xE{S:ak->Prop}(hS:Shut S)(k s e d x:Nat){id:Nat}{Q:yP->qG->ak->Prop}{a:qG}{w:ak}{l:List iM}{o os oe ot:iM}(T:bE)(z:Array aB)(hm:P.follows .mixedOrders=true)
 (hk:l[k]? = some o) (hs:l[s]? = some os) (he:l[e]? = some oe) (ht:l[s+1]? = some ot) (hx:oe.S=some x) (hL:ang l.c k s e d=true) (hB:xK .any (ng l k s e o os).c s=true) (hA:Hy l.c k s d=true) (hD:SE (ng l k s e o os)=true) (hsel:AV l.c=true)
 (hod:o.S=some d) (hog:o.guard=none) (hoa:o.after = #[]) (hrun:∀(a:qG) w,(execOp a.eval o).G P w = .Y (.value (.c (some ⟨w.a.j,0,none⟩))) (w.alloc (.D z T))) (hp:Pure P oe) (h0:S w.drew)
 (hh:∃aF:qG,(∀(T:Type)(f:T->ak),Nonempty T->(∀m,S (f m))->(∀m w',aL (f m).a.j (f m) w'->∃m',w'=f m')->wpQuiet P (ng l k s e o os).c (fun w'=>∃m,w'=f m) (fun a'=>a'=aF) ((ng l k s e o os).d s) a)
 /\ (∀w1 w',S w1->S w'->aL (w1.alloc (.D z T)).a.j (w1.alloc (.D z T)) w'->∃w2,(execOp (aF.put (some d) (.c (some ⟨w1.a.j,0,none⟩))).eval os).G P w' = .Y .skip w2/\wpList P l.c Q (l.f (s+1)) (aF.put (some d) (.c (some ⟨w1.a.j,0,none⟩))) w2)):(Code.region id l.c true).wp P Q a w:=by
 obtain⟨aF,h,h2⟩:=hh;have H:=Rm.of hk hs he ht hx hL;have hks:=jQ H.ks;have hsl:s<l.a:=(iL.1 hs).1;simp only[xK,bf,decide_eq_true_eq]at hB;obtain⟨⟨⟨⟨ana,hn⟩,hs'⟩,hc⟩,hlex⟩:=hB;have hsz:(ng l k s e o os).c.j=l.a:=by simp[ng]
 have htl:((ng l k s e o os).d s).a=s:=by simp[ng];omega
 have inv0:HeadInv .any (ng l k s e o os).c s (nQ l.c.j false):=
  ⟨by simp[ng],fun j oj _ hl=>(by rw[mZ]at hl;cases hl),fun t _ ht=>getD_in (by rw[hsz]at ht;simpa using ht) (mZ _ _)⟩
 refine zk hm ?_;rw[hsz]at hlex;have hdl:(l.f s).a=l.a-s:=by simp
 have:=WH (P:=P) (aF:=aF) (Q:=Q) H hA hD (Region.noSelect_spec hsel) hp hod hog hoa hrun hS h2 (fun listed w1 w' hz hw1 hw' hb hq=>by
  obtain⟨w2,hr,hrest⟩:=h2 w1 w' hw1 hw' hb;have hel:listed.b e false=true:=by
   obtain⟨g,hg⟩:∃g,l.a-s=g+1:=⟨l.a-s-1,by omega⟩
   rw[hg]at hq;simp only[lK,bf,decide_eq_true_eq]at hq;have:s∈fZ .any (ng l k s e o os).c listed:=by rw[hq.1];simp
   obtain⟨_,p,hpo,hall⟩:=kL.1 this;rw[abL hs]at hpo;cases hpo;exact hall {on:=e,ground:=.data} (by simp[yI]) rfl
  have:=wpAny_of_seq (P:=P) (md:=.any) (Q':=Q) (ops:=l.c) (l.f s) s listed (aF.put (some d) (.c (some ⟨w1.a.j,0,none⟩))) w' (fun j=>by simp[jq]) (by rw[hdl];exact abM H.hk H.hs hks _ _ _ hel hz hq) (by
   have hd:l.f s=os::l.f (s+1):=by
    have:=List.drop_eq_getElem_cons hsl;have h3:=(iL.1 hs).2;rw[this,h3]
   rw[hd];unfold wpList;rw[if_pos (by simp[fq,H.sg])];refine .a ?_;unfold nG;rw[hr];simp only[Np,H.sd];exact hrest)
  rwa [hdl]at this) s (nQ l.c.j false) a {w with drawn:=w.Z+1} (by simp) (fun t _ ht=>getD_in (by simpa using ht) (mZ _ _)) (getD_in (by simp;have:=H.ks;omega) (mZ _ _)) h0 (fun C hC1 hC2 hC3=>by
  have hq:=h {w // C w} Subtype.val (let⟨w,hw⟩:=hC3;⟨⟨w,hw⟩⟩) (fun m=>hC1 _ m.2) (fun m w' hb=>⟨⟨w',hC2 _ _ m.2 hb⟩,rfl⟩);have e:(fun w':ak=>∃m:{w // C w},w'=m.val)=C:=by
   funext w';rw[eq_iff_iff];exact⟨fun⟨m,hm⟩=>by rw[hm];exact m.2,fun h=>⟨⟨w',h⟩,rfl⟩⟩
  rw[e]at hq;have:=aaZ (md:=.any) (C:=C) (g:=l.a-s) ana hs' hc hn ((ng l k s _ o os).d s) 0 (nQ l.c.j false) a (fun j hj=>by
   have hj':j<s:=by rw[htl]at hj;exact hj
   rw[iw hj',bl];simp) (by simpa using htl) inv0 (by rw[htl];simpa using hlex) hq
  rw[htl]at this;exact this)
 rw[show s+(l.a-s)=l.c.j by simp;omega]at this;exact this
theorem uh{oe:iM}{t:qj}{i:Nat}(h:oe.op=.m t i):Pure P oe:=by
 intro a w w' n w1 hr;simp only[execOp,h]at hr ⊢;generalize a.eval t=v at hr ⊢;unfold Instr.extract at hr ⊢;split at hr
 ·rename_i vs
  split at hr
  ·rename_i u hu
   simp at hr;exact⟨u,hr.1.symm,hr.2.symm,by simp⟩
  ·simp at hr
 ·simp at hr
end
end
section
attribute [local go_sem high] jd jL
theorem WI:∀(l:List UInt8)(i:Nat),i%2=0->i<l.a->words (l.d (i+2))=words (l.d i)++[256*mP l i+mP l (i+1)]
 | [],i,_,h=>by simp at h
 | [a],0,_,_=>by simp[words,mP]
 | [a],i+1,h1,h=>by simp at h
 | a::b::l,0,_,_=>by simp[words,mP]
 | a::b::l,1,h1,_=>by omega
 | a::b::l,i+2,h1,h=>by
   have:=WI l i (by omega) (by simp at h;omega);show(256*a.g+b.g)::words (l.d (i+2))=((256*a.g+b.g)::words (l.d i))++[256*mP l i+mP l (i+1)];rw[this];rfl
theorem Rn:∀l:List UInt8,(words l).a=(l.a+1)/2
 | []=>rfl
 | [a]=>by simp[words]
 | a::b::l=>by have:=Rn l;simp[words,this];omega
theorem aec:abt 70 3 Ho 1:=by
 obtain⟨i,hi,hz,hs⟩:=UC;have h4:(ah.l 3).map (fun i=>decide (i.bytes<=1000))=some true:=by kernel_rfl
 rw[hi]at h4;simp at h4;exact⟨i,_,oH,hi,hz,hs,rfl,by omega,h4,Zg,fun s=>by simp[Ho,dx]⟩
def zL(l:List UInt8):List Int:=(words l).map fun n:Nat=>(n:Int)
theorem aed:∀(l:List UInt8)(x:Nat),x∈words l->x<=65535
 | [],x,h=>by simp[words]at h
 | [a],x,h=>by have:=a.a;simp[words]at h;omega
 | a::b::l,x,h=>by
   have:=a.a;have:=b.a;simp only[words,bB]at h;rcases h with rfl|h
   ·omega
   ·exact aed l x h
def WdP(W:ak)(l:List UInt8)(e:lU)(W':ak):Prop:=∃A' m c',e=.a (.a A' m c')/\RdI W' W'.a.j A' m (zL l)/\aL W.a.j W W'
theorem abN(W:ak)(A:Option aT)(n c:Nat)(l:List UInt8)(hn:n<=1000000)(hr:gu W W.a.j A n l):aP ah 257 #[.a A n c] W (WdP W l):=by
 have HR:=ab hr;have hl:=ab hr.len;clear hr;go_enter Tryz.func257,Tryz.ntmps257;go_wp2;go_loopw [3,4] (fun s3 s4 wr=>∃(i:Nat)(A':Option aT)(m c':Nat),i%2=0/\i<=n+1/\s4=.b .a i/\s3=.a A' m c'/\Rz Ho 1 3 [] W wr (.a A' m c') (zL (l.d i)))
  (fun s3 s4 wr=>n+2-(intOf s4).g)
 case atStart=>exact⟨0,none,0,0,rfl,by omega,rfl,rfl,by simpa[zL,words]using Rz.nil (f:=Ho) (sz:=1) (e:=3) W⟩
 case round=>
  obtain⟨i,A',m,c',hi2,hin,rfl,rfl,hz⟩:=hrel;have HZ:=ab hz;have hm:=hz.len;clear hz;by_cases hlt:i<n
  ·have q:(i:Int)<n:=by omega
   obtain⟨a,rfl,hab⟩:=HR.i.ah5 (show 0<n by omega);have RW:=ab ((HR.i.M HZ.i.O).lN HZ.i.O.j:gu wr wr.a.j (some a) n l);obtain⟨_,e1,_,hc1⟩:=RW.i.fH hlt;cases e1;unfold bv at hc1;have hb0:((l.b i 0).g:Int)=(mP l i:Nat):=rfl;rw[hb0]at hc1;have au6:=vB l i;have hlt1:=vB l (i+1);have HML:=ab (show(zL (l.d i)).a+1<=1000000 by simp[zL,Rn];omega);have w1:=jW (mP l i:Nat) (by omega);have w2:=jW (256*(mP l i:Int)) (by omega);have w3:=jW ((i:Int)+1) (by omega);have HS:=ab (WI l i hi2 (by rw[hl.i];exact hlt));have FIN:=ab (fun(v:Int) (A5:Option aT) (n5 c5:Nat) (w5:ak) (hv:v=((256*mP l i+mP l (i+1):Nat):Int)) (h:Rz Ho 1 3 [] W w5 (.a A5 n5 c5) (zL (l.d i)++[v]))=>show Rz Ho 1 3 [] W w5 (.a A5 n5 c5) (zL (l.d (i+2)))by
    unfold zL at h ⊢;rw[HS.i,iY];rw[hv]at h;exact h)
   by_cases h1:i+1<n
   ·have q1:(i:Int)+1<n:=by omega
    have hc2:=RW.i.Ww i h1;have w4:=jW (mP l (i+1):Nat) (by omega);have w5:=jW (256*(mP l i:Int)+(mP l (i+1):Nat)) (by omega);have Za:=ab (HZ.i.alloc (.D (sZ [256*(mP l i:Int)+(mP l (i+1):Nat)]) 3));have RO:=ab (RdI.lit wr [256*(mP l i:Int)+(mP l (i+1):Nat)] 3);go_wp2_with (at_builtin;refine Rf aec rfl (.tmp 31) (.tmp 33) rfl rfl Za.i rfl RO.i HML.i ?_;intro A5 n5 c5 w5 h5 h6;have Z5:=ab h5;clear h5 h6);exact⟨⟨i+2,A5,n5,c5,by omega,by omega,by rw[show((i+2:Nat):Int)=(i:Int)+2 by omega],rfl,FIN.i _ _ _ _ _ (by omega) Z5.i⟩,by simp only[intOf];omega⟩
   ·have q1:¬(i:Int)+1<n:=by omega
    have HB0:=ab (show mP l (i+1)=0 by unfold mP;rw[au,aS (by rw[hl.i];omega)];rfl);have Za:=ab (HZ.i.alloc (.D (sZ [256*(mP l i:Int)]) 3));have RO:=ab (RdI.lit wr [256*(mP l i:Int)] 3);go_wp2_with (at_builtin;refine Rf aec rfl (.tmp 31) (.tmp 33) rfl rfl Za.i rfl RO.i HML.i ?_;intro A5 n5 c5 w5 h5 h6;have Z5:=ab h5;clear h5 h6);exact⟨⟨i+2,A5,n5,c5,by omega,by omega,by rw[show((i+2:Nat):Int)=(i:Int)+2 by omega],rfl,FIN.i _ _ _ _ _ (by rw[HB0.i];omega) Z5.i⟩,by simp only[intOf];omega⟩
  ·have q:¬(i:Int)<n:=by omega
   have H:=ab (show zL (l.d i)=zL l by rw[aJ (by rw[hl.i];omega)]);clear hm;go_wp2;go_ret;rw[H.i]at HZ;exact⟨A',m,c',rfl,HZ.i.rd,HZ.i.O⟩
theorem aj2(l:List Nat)(i:Nat)(h:i<l.a):(l.d (i+1)).foldl vO 0=vO ((l.d i).foldl vO 0) (l.b i 0):=by
 rw[List.take_succ_eq_append_getElem h,List.foldl_append];simp[au,h]
theorem Pn:∀(l:List Nat)(a:Nat),a<=65535->(∀x∈l,x<=65535)->l.foldl vO a<=65535
 | [],a,h,_=>h
 | x::l,a,h,hl=>Pn l _ (GQ h (hl x (by simp))) (fun y hy=>hl y (by simp[hy]))
theorem WJ(W:ak)(A:Option aT)(n c:Nat)(l:List UInt8)(hn:n<=1000000)(hr:gu W W.a.j A n l):aP ah 186 #[.a A n c] W (fT W (.b .a (xA l:Nat))):=by
 have hl:=hr.len;have hwl:=Rn l;have CW:=ab (abN W A n c l hn hr);unfold WdP at CW;clear hr;have HW:=ab (aed l);go_enter Tryz.func186,Tryz.ntmps186;go_wp2_with (go_at_call 257;(with_reducible refine CW.i.e ?_);rintro e w1 ⟨A',m,c',rfl,h1,h2⟩;have R1:=ab h1;have B1:=ab h2;clear h1 h2);have hm:=R1.i.len;unfold zL at hm;rw[bV]at hm;have hmb:m<=1000000:=by omega
 clear hl hwl;go_loopw [4,5] (fun s4 s5 wr=>∃i:Nat,i<=m/\s5=.b .a i/\s4=.b .a (((words l).d i).foldl vO 0:Nat)/\wr=w1)
  (fun s4 s5 wr=>m-(intOf s5).g)
 case atStart=>exact⟨0,by omega,rfl,rfl,rfl⟩
 case round=>
  obtain⟨i,him,rfl,rfl,hwr⟩:=hrel;rw[hwr];clear hwr;by_cases hlt:i<m
  ·have q:(i:Int)<m:=by omega
   obtain⟨b,o,rfl,_,hcell⟩:=R1.i.cell Zg 0 hlt;have hc:=hcell 0 (by omega);have hv:(Ho ((zL l).b i 0))[0]? = some (.b .a ((words l).b i 0:Nat)):=by
    unfold zL Ho;rw[au,iy,aC (by omega)];simp[au,aC (show i<(words l).a by omega)]
   rw[hv]at hc;simp only[gL,Nat.add_zero]at hc;clear hcell hv;have HS:=ab (aj2 (words l) i (by omega));have hx:(words l).b i 0<=65535:=HW.i _ (by rw[au,aC (show i<(words l).a by omega)];exact fG _);obtain⟨x,hx1⟩:=bZ ((words l).b i 0);obtain⟨y,hy1⟩:=bZ (((words l).d i).foldl vO 0);have hy:y<=65535:=by rw[hy1];exact Pn _ _ (by omega) (fun z hz=>HW.i z (List.mem_of_mem_take hz))
   rw[<-hx1]at hc hx HS;rw[<-hy1]at HS ⊢;have CR:=ab (adu y x w1 hy hx);clear hx1 hy1;go_wp2_with (go_at_call 258;(with_reducible refine CR.i.e ?_);rintro e w2 ⟨rfl,rfl⟩);exact⟨⟨i+1,by omega,by rw[show((i+1:Nat):Int)=(i:Int)+1 by omega],by rw[HS.i],trivial⟩,by simp only[intOf];omega⟩
  ·have q:¬(i:Int)<m:=by omega
   have H:=ab (show((words l).d i).foldl vO 0=NY 0 l by rw[aJ (by omega)];rfl);have hle:=aaX l 0 (by omega);rw[H.i];have HB:=ab (show(65535:Int)-(NY 0 l:Nat)=(xA l:Nat)by unfold xA;omega);generalize NY 0 l=z at *;go_wp2;go_ret;exact⟨by rw[<-HB.i];rfl,B1.i⟩
end
section
attribute [local go_sem high] jd jL
end
section
attribute [local go_sem high] jd jL
theorem aqO{p:Int}{l:List UInt8}(h6:p≠6)(h17:p≠17):JU p l=(ra,5):=uT (by unfold vC;rw[if_pos ⟨h6,h17⟩]) (by decide)
theorem asS(l:List UInt8):JU 6 l=if l.a<20 then(ra,2)else if mP l 12/16*4<20 then(ra,3)else if l.a<mP l 12/16*4 then(ra,2)else(⟨eY l 0,eY l 2,(mP l 13%64:Nat),(mP l 12/16*4:Nat),l.a⟩,0):=by
 split
 ·rename_i h;exact uT (by unfold vC;rw[if_neg (by simp),if_pos (by rw[if_pos rfl];exact h)]) (by decide)
 ·rename_i h
  have hg:qM 6 l=⟨eY l 0,eY l 2,(mP l 13%64:Nat),(mP l 12/16*4:Nat),l.a⟩:=by unfold qM;rw[if_pos rfl]
  have e1:¬l.a<(if(6:Int)=6 then 20 else 8):=by rw[if_pos rfl];exact h
  split
  ·rename_i h2;exact uT (by unfold vC;rw[if_neg (by simp),if_neg e1,if_pos (.a ⟨rfl,by rw[hg];simp only;omega⟩)]) (by decide)
  ·rename_i h2
   have e2:¬(((6:Int)=6/\(qM 6 l).head<20)\/(qM 6 l).dB<8):=by rw[hg];simp only;omega
   split
   ·rename_i h3;exact uT (by unfold vC;rw[if_neg (by simp),if_neg e1,if_neg e2,if_pos (by rw[hg];simp only;omega)]) (by decide)
   ·rename_i h3
    have:=Wu (p:=6) (l:=l) (by unfold vC;rw[if_neg (by simp),if_neg e1,if_neg e2,if_neg (by rw[hg];simp only;omega)]);rw[this,hg]
theorem anh(l:List UInt8):JU 17 l=if l.a<8 then(ra,2)else if eY l 4<8 then(ra,3)else if l.a<eY l 4 then(ra,2)else(⟨eY l 0,eY l 2,0,8,eY l 4⟩,0):=by
 split
 ·rename_i h;exact uT (by unfold vC;rw[if_neg (by simp),if_pos (by rw[if_neg (by decide)];exact h)]) (by decide)
 ·rename_i h
  have hg:qM 17 l=⟨eY l 0,eY l 2,0,8,eY l 4⟩:=by unfold qM;rw[if_neg (by decide)]
  have e1:¬l.a<(if(17:Int)=6 then 20 else 8):=by rw[if_neg (by decide)];exact h
  split
  ·rename_i h2;exact uT (by unfold vC;rw[if_neg (by simp),if_neg e1,if_pos (.b (by rw[hg];simp only;omega))]) (by decide)
  ·rename_i h2
   have e2:¬(((17:Int)=6/\(qM 17 l).head<20)\/(qM 17 l).dB<8):=by rw[hg];simp only;omega
   split
   ·rename_i h3;exact uT (by unfold vC;rw[if_neg (by simp),if_neg e1,if_neg e2,if_pos (by rw[hg];simp only;omega)]) (by decide)
   ·rename_i h3
    have:=Wu (p:=17) (l:=l) (by unfold vC;rw[if_neg (by simp),if_neg e1,if_neg e2,if_neg (by rw[hg];simp only;omega)]);rw[this,hg]
theorem WK(W:ak)(A:Option aT)(n c B:Nat)(l:List UInt8)(k:Nat)(i:Int)(hi:i=k)(hk:k+1<n)(hnn:n<=1000000000)(hr:gu W B A n l):aP ah 299 #[.a A n c,.b .a i] W fun e W'=>e=.a (.b .a (eY l k:Nat))/\∃q,W'=W.drewN q:=by subst hi;exact agw W A n c B l k hk hnn hr
theorem aee(W:ak)(p:Int)(A:Option aT)(n c:Nat)(l:List UInt8)(hc:n<=1000000000)(hr:gu W W.a.j A n l):aP ah 227 #[.b .a p,.a A n c] W (PtP W (JU p l)):=by
 have HR:=ab hr;have hl:=ab hr.len;have b0:=ab ((Bx.start W).new ra.ay 172);clear hr;go_enter Tryz.func227,Tryz.ntmps227;by_cases p6:p=6
 ·subst p6
  have HP:=ab (asS l);rw[hl.i]at HP;by_cases h20:n<20
  ·have q:(n:Int)<20:=by omega
   go_wp2;refine aN (UH.qW rfl _ rfl b0.i.R (Pt.r _)) rfl ?_;rw[HP.i,if_pos h20];exact⟨rfl,b0.i.O⟩
  have q:¬(n:Int)<20:=by omega
  obtain⟨a,rfl,hab⟩:=HR.i.ah5 (show 0<n by omega);have c12:=(b0.i.Pf HR.i).Ww 11 (by omega);have i12:12<n:=by omega
  obtain⟨k,hk⟩:∃k:Nat,k=mP l 12/16*4:=⟨_,rfl⟩
  have hkk:4*((mP l 12:Int)/16)=(k:Int):=by omega
  have hkl:k<100:=by have:=vB l 12;omega
  have w13:4*((mP l 12:Int)/16%256)=(k:Int):=by have:=vB l 12;omega
  rw[<-hk]at HP;clear hk hkk;by_cases h2:k<20
  ·have q2:(k:Int)<20:=by omega
   go_wp2;refine aN (UH.qW rfl _ rfl b0.i.R (Pt.r _)) rfl ?_;rw[HP.i,if_neg h20,if_pos h2];exact⟨rfl,b0.i.O⟩
  have q2:¬(k:Int)<20:=by omega
  by_cases h3:n<k
  ·have q3:(n:Int)<k:=by omega
   go_wp2;refine aN (UH.qW rfl _ rfl b0.i.R (Pt.r _)) rfl ?_;rw[HP.i,if_neg h20,if_neg h2,if_pos h3];exact⟨rfl,b0.i.O⟩
  have q3:¬(n:Int)<k:=by omega
  have i13:13<n:=by omega
  obtain⟨g,hg⟩:∃g:Nat,g=mP l 13%64:=⟨_,rfl⟩
  have hgg:(mP l 13:Int)%64=(g:Int):=by omega
  have w14:(mP l 13:Int)%64%256=(g:Int):=by omega
  have w15:(mP l 13:Int)%64=(g:Int):=by omega
  rw[<-hg]at HP;clear hg hgg;go_upto_region 9 with fail
  generalize W.alloc (.D ra.ay 172)=w1 at b0 ⊢;obtain⟨T,f,n0,E0,es,ew⟩:=Cc (Bx ([(W.a.j,ra.ay)]) W) (w1) (b0.i.drew);have hT:Nonempty T:=⟨n0⟩
  have ES:=ab es;have EW:=ab ew;clear es ew;have RF:=ab (fun m=>(ES.i m).Pf HR.i);have k13:∀m,(f m).b ⟨a.block,a.off+13,none⟩=some (.b .b (mP l 13)):=fun m=>(RF.i m).Ww 12 (by omega)
  have C0:=ab (fun m=>WK (f m) (some a) n c _ l 0 0 rfl (by omega) hc (RF.i m));have C2:=ab (fun m=>WK (f m) (some a) n c _ l 2 2 rfl (by omega) hc (RF.i m));refine Vy f 13 (by kernel_rfl) (by kernel_rfl) n0 E0 ?_;simp only[jA,j6,jU,lH]
  repeat(go_big_quiet_step ((first|(go_at_call 299;(with_reducible refine(C0.i _).e ?_);rintro e w2 ⟨rfl,q,rfl⟩;exact⟨rfl,EW.i _ ((ES.i _).drewN q)⟩)|(go_at_call 299;(with_reducible refine(C2.i _).e ?_);rintro e w2 ⟨rfl,q,rfl⟩;exact⟨rfl,EW.i _ ((ES.i _).drewN q)⟩))))
  refine eG ?_;rintro _ ⟨m',rfl⟩;have ZT:=ab (ES.i m');clear ES EW C0 C2 E0 RF k13;generalize f m'=w8 at *;clear hT n0;have yZ:=ZT.i.R.K 0 5 (aX (Pt.r ra).symm);have Z2:=ab (ZT.i.put (fun p hp=>by cases hp) (Pt.mk (eY l 0) (eY l 2) g k n).ay (by rw[Pt.r,Pt.r]));go_step;go_simp;go_step;go_step;go_wp2;refine aN (UH.qW rfl _ rfl Z2.i.R (Pt.r _)) rfl ?_;rw[HP.i,if_neg h20,if_neg h2,if_neg h3];exact⟨rfl,Z2.i.O⟩
 have q6:(p==6)=false:=by simp[p6]
 by_cases p17:¬p=17
 ·have q17:(p != 17)=true:=by simp[p17]
  go_wp2;refine aN (UH.qW rfl _ rfl b0.i.R (Pt.r _)) rfl ?_;rw[aqO p6 p17];exact⟨rfl,b0.i.O⟩
 obtain rfl:p=17:=by simpa using p17
 have HP:=ab (anh l);rw[hl.i]at HP;by_cases h20:n<8
 ·have q:(n:Int)<8:=by omega
  go_wp2;refine aN (UH.qW rfl _ rfl b0.i.R (Pt.r _)) rfl ?_;rw[HP.i,if_pos h20];exact⟨rfl,b0.i.O⟩
 have q:¬(n:Int)<8:=by omega
 have CT:=ab (fun(w:ak) (h:Bx [(W.a.j,ra.ay)] W w) (k:Nat) (i:Int) (hi:i=k) (hk:k<6)=>WK w A n c _ l k i hi (by omega) hc (h.Pf HR.i));have C4:=ab (fun w h=>CT.i w h 4 4 rfl (by omega));have C0:=ab (fun w h=>CT.i w h 0 0 rfl (by omega));have C2:=ab (fun w h=>CT.i w h 2 2 rfl (by omega));obtain⟨t,ht⟩:=bZ (eY l 4);rw[<-ht]at C4 HP;clear ht;generalize hw1:W.alloc (.D ra.ay 172)=w1 at b0 ⊢;have b1:=ab (fun q=>b0.i.drewN q);by_cases h2:t<8
 ·have q2:(t:Int)<8:=by omega
  go_wp2_with (go_at_call 299;(with_reducible refine(C4.i _ b0.i).e ?_);rintro e w2 ⟨rfl,q,rfl⟩;have yZ:=(b1.i q).R.K 0 5 (aX (Pt.r ra).symm);have Z2:=ab ((b1.i q).put (fun p hp=>by cases hp) ra.ay rfl));refine aN (UH.qW rfl _ rfl Z2.i.R (Pt.r _)) rfl ?_;rw[HP.i,if_neg h20,if_pos h2];exact⟨rfl,Z2.i.O⟩
 have q2:¬(t:Int)<8:=by omega
 have TH:=ab (fun q=>((b1.i q).R.K 0 5 (aX (Pt.r ra).symm):(w1.drewN q).K W.a.j 0 5));have PU:=ab (fun q (x:Pt)=>(b1.i q).put (fun p hp=>by cases hp) x.ay (by rw[Pt.r,Pt.r]));by_cases h3:n<t
 ·have q3:(n:Int)<t:=by omega
  go_upto_region 17 with(first|(go_at_call 299;(with_reducible refine(C4.i _ b0.i).e ?_);rintro e w2 ⟨rfl,qq,rfl⟩)|(go_at_call 299;(with_reducible refine(C4.i _ (b1.i _)).e ?_);rintro e w2 ⟨rfl,qq,rfl⟩)|(go_at_call 299;(with_reducible refine(C0.i _ b0.i).e ?_);rintro e w2 ⟨rfl,qq,rfl⟩)|(go_at_call 299;(with_reducible refine(C0.i _ (b1.i _)).e ?_);rintro e w2 ⟨rfl,qq,rfl⟩)|(go_at_call 299;(with_reducible refine(C2.i _ b0.i).e ?_);rintro e w2 ⟨rfl,qq,rfl⟩)|(go_at_call 299;(with_reducible refine(C2.i _ (b1.i _)).e ?_);rintro e w2 ⟨rfl,qq,rfl⟩))
  have th2:=TH.i;go_wp2;refine aN (UH.qW rfl _ rfl (PU.i _ ra).R (Pt.r _)) rfl ?_;rw[HP.i,if_neg h20,if_neg h2,if_pos h3];exact⟨rfl,(PU.i _ ra).O⟩
 have q3:¬(n:Int)<t:=by omega
 have th2:=TH.i;go_wp2_with (first|(go_at_call 299;(with_reducible refine(C4.i _ b0.i).e ?_);rintro e w2 ⟨rfl,qq,rfl⟩)|(go_at_call 299;(with_reducible refine(C4.i _ (b1.i _)).e ?_);rintro e w2 ⟨rfl,qq,rfl⟩)|(go_at_call 299;(with_reducible refine(C0.i _ b0.i).e ?_);rintro e w2 ⟨rfl,qq,rfl⟩)|(go_at_call 299;(with_reducible refine(C0.i _ (b1.i _)).e ?_);rintro e w2 ⟨rfl,qq,rfl⟩)|(go_at_call 299;(with_reducible refine(C2.i _ b0.i).e ?_);rintro e w2 ⟨rfl,qq,rfl⟩)|(go_at_call 299;(with_reducible refine(C2.i _ (b1.i _)).e ?_);rintro e w2 ⟨rfl,qq,rfl⟩));refine aN (UH.qW rfl _ rfl (PU.i _ (Pt.mk (eY l 0) (eY l 2) 0 8 t)).R (Pt.r _)) rfl ?_;rw[HP.i,if_neg h20,if_neg h2,if_neg h3];exact⟨rfl,(PU.i _ _).O⟩
end
section
attribute [local go_sem high] jd jL
end
section
attribute [local go_sem high] jd jL
end
section
attribute [local go_sem high] jd jL
end
section
attribute [local go_sem high] jd jL
def PkP(W:ak)(x:Pk)(e:lU)(W':ak):Prop:=e=.a (.d x.ay)/\aL W.a.j W W'
theorem Ro{W w:ak}{c:Array aB}(tmps:Array aB)(k:Int)(ht:tmps.b 2 undef=.c (some ⟨W.a.j,0,none⟩))(hb:dM w W.a.j c)(hc:c.j=42)(hl:aL W.a.j W w):
 bodyPostD ah Tryz.f32 (PkP W (xQ k)) (Exit.panic [{v:=aeb k,recovered:=false}]) {tmps:=tmps,defers:=[{target:=Target.fn (Fn.func 90) #[sO (some ⟨W.a.j,0,none⟩)],args:=#[]}]} w:=by
 refine leaves_cons (f:=90) (args:=#[.c (some ⟨W.a.j,0,none⟩)]) (by simp) (by simp[go_sem]) ?_;have hr:=kPk.zI (fn:=Tryz.f32) (p:=2) (by kernel_rfl) tmps ht (hb.put (xQ k).ay (by rw[Pk.r,hc])) (Pk.r _);have hb2:=lI hl W.a.j 0 (xQ k).ay (av _);have hq:=Uj W.a.j k [] w (hb.K 0 42 (by omega));generalize gX w W.a.j 0 (xQ k).ay=w2 at *;refine hq.e ?_;rintro e u' w'' ⟨he,hu,hw⟩;rw[he,hu,hw];exact⟨_,hr,rfl,hb2⟩
theorem au7{W w:ak}(tmps:Array aB)(x:Pk)(ht:tmps.b 2 undef=.c (some ⟨W.a.j,0,none⟩))(hb:dM w W.a.j x.ay)(hl:aL W.a.j W w):
 bodyPostD ah Tryz.f32 (PkP W x) Exit.ret {tmps:=tmps,defers:=[{target:=Target.fn (Fn.func 90) #[sO (some ⟨W.a.j,0,none⟩)],args:=#[]}]} w:=by
 have hr:=kPk.zI (fn:=Tryz.f32) (p:=2) (by kernel_rfl) tmps ht hb (Pk.r _);refine leaves_cons (f:=90) (args:=#[.c (some ⟨W.a.j,0,none⟩)]) (by simp) (by simp[go_sem]) ?_;refine(agE W.a.j w).e ?_;rintro e u' w'' ⟨rfl,rfl,rfl⟩;exact⟨_,hr,rfl,hl⟩
theorem JX(W:ak)(A:Option aT)(n c:Nat)(l:List UInt8)(hnc:n<=c)(hc:c<=9223372036854775807/\n<=1000000000)(hr:gu W W.a.j A n l):aP ah 32 #[.a A n c] W (PkP W (wE l)):=by
 have HR:=ab hr;have hl:=ab hr.len;have b0:=ab ((Bx.start W).new OU.ay 83);have CL:=ab (Pj _ A n c l hnc hc (b0.i.Pf hr));clear hr;have hmf:∀(fn:Fn)(first cap:Array aB)(w:ak),(Instr.makeFunc fn first cap).G ah w = .Y (.func fn first cap) w:=fun _ _ _ _=>rfl
 have NO:=ab aqN;have OK:=ab aqM;go_enter_defers Tryz.func32,Tryz.ntmps32;obtain⟨r,hrr⟩:=bZ (mO l);have HRR:=ab hrr;obtain⟨k,er⟩:=r;unfold LkP at CL;rw[<-hrr]at CL;clear hrr;by_cases h1:er≠0
 ·have q:(er==0)=false:=by simp[h1]
  have H:=ab (show wE l=xQ 1 by unfold wE;rw[<-HRR.i,if_pos h1]);go_wp2_with (first|(go_at_call 91;with_reducible refine CL.i.e ?_;rintro e w1 ⟨TA,tc,rfl,_,hb1⟩;have Z1:=ab ((b0.i.go hb1).new (k.cell TA tc).ay 108);clear hb1)|(go_at_call 92;with_reducible refine(NO.i 1 _).e ?_;rintro e w2 ⟨rfl,rfl⟩));rw[H.i];exact Ro _ 1 rfl Z1.i.b1 (Pk.r _) Z1.i.O
 obtain rfl:er=0:=by simpa using h1
 obtain⟨xu,aef⟩:=agC (l:=l) (by rw[<-HRR.i]);rw[<-HRR.i]at xu aef;rw[hl.i]at aef;simp only at xu aef;go_upto_region 4 with(first|(go_at_call 91;with_reducible refine CL.i.e ?_;rintro e w1 ⟨TA,tc,rfl,_,hb1⟩;have Z1:=ab ((b0.i.go hb1).new (k.cell TA tc).ay 108);have hy3:=(b0.i.go hb1).R.lt;clear hb1)|(go_at_call 92;with_reducible refine(OK.i 1 _).e ?_;rintro e w2 ⟨rfl,rfl⟩))
 generalize w1.alloc (.D (k.cell TA tc).ay 108)=w2 at Z1 ⊢;generalize w1.a.j=y3 at *;have F3:=ab (fun(L:List (Nat×Array aB)) (w:ak) (h:Bx ((y3,(k.cell TA tc).ay)::L) W w)=>show w.b ⟨y3,13,none⟩=some (.b .a k.oM)/\w.b ⟨y3,14,none⟩=some (.b .a (k.fH:Nat))from⟨(h.R.J.1 13).trans (Lc.EC _),(h.R.J.1 14).trans (Lc.MW _)⟩);obtain⟨f1,f2⟩:=F3.i _ _ Z1.i;by_cases hty:k.oM≠2048/\k.oM≠34525
 ·have q1:(k.oM==2048)=false:=by simp[hty.1]
  have q2:(k.oM==34525)=false:=by simp[hty.2]
  have H:=ab (show wE l=xQ 2 by unfold wE;rw[<-HRR.i];rw[if_neg (by simp),if_pos hty]);go_wp2_with (go_at_call 92;with_reducible refine(NO.i 2 _).e ?_;rintro e w3 ⟨rfl,rfl⟩);rw[H.i];exact Ro _ 2 rfl Z1.i.b1 (Pk.r _) Z1.i.O
 have HTY:=ab hty;go_cut []from 17 to 25 (fun wx=>wx=w2)
 case first=>
  by_cases q0:k.oM=2048
  ·have q1:(k.oM==2048)=true:=by simp[q0]
   go_wp2_with (go_at_call 92;with_reducible refine(OK.i 2 _).e ?_;rintro e w3 ⟨rfl,rfl⟩);go_meet
   case rel=>rfl
  ·have q1:(k.oM==2048)=false:=by simp[q0]
   have q2:(k.oM==34525)=true:=by simp;omega
   go_wp2_with (go_at_call 92;with_reducible refine(OK.i 2 _).e ?_;rintro e w3 ⟨rfl,rfl⟩);go_meet
   case rel=>rfl
 have hcut:=hcut;rw[hcut];clear hcut f1 f2;have xu:=xu;obtain⟨g,hg⟩:=bZ (ny l);have HG:=ab hg;have HG2:=ab (show g=Zu k.oM (l.f k.fH)by rw[hg];unfold ny;rw[<-HRR.i]);clear hg;obtain⟨g,e2⟩:=g;have i1:(k.fH:Int)<=n:=by omega
 have CI:=ab (fun(w:ak) (h:Bx [(y3,(k.cell TA tc).ay),(W.a.j,OU.ay)] W w)=>agD w k.oM (vQ A k.fH c 1) (n-k.fH) (c-k.fH) (l.f k.fH) (by omega) (by omega) ((h.Pf HR.i).yX (by omega) hnc));rw[<-HG2.i]at CI;go_upto_region 5 with fail
 refine xE (Bx.abK ([(y3,(k.cell TA tc).ay),(W.a.j,OU.ay)]) W) 10 11 9 5 35 168 abA.ay (by kernel_rfl) rfl rfl rfl rfl rfl (by kernel_rfl) (by kernel_rfl) (by kernel_rfl) (by kernel_rfl) (by kernel_rfl) rfl rfl rfl (fun a w=>by simp[go_sem]) (uh rfl) Z1.i.drew ?_;apply Exists.intro;refine⟨fun T f hT es ew=>?_,?_⟩
 ·have EW:=ab ew
  have ES:=ab es;have k1:=fun m=>(F3.i _ _ (ES.i m)).1
  have k2:=fun m=>(F3.i _ _ (ES.i m)).2
  have CF:=ab (fun m=>CI.i _ (ES.i m));clear es ew;simp only[ng,yI,lq,bK,bR,jA,j6]
  repeat(go_big_quiet_step ((first|(go_at_call 93;(with_reducible refine(CF.i _).e ?_);rintro e w2 ⟨rfl,hb⟩;exact⟨rfl,EW.i _ _ hb⟩))))
  exact eG rfl
 ·intro w9 w8 Ad _ hb
  have ZN:=ab ((Ad.new abA.ay 168).go hb);have hyy:=ab Ad;have hy:=Ad.O.j;have hyv:=ab (fun p (hp:p∈[(y3,(k.cell TA tc).ay),(W.a.j,OU.ay)])=>((Ad.2 p hp).2.lt:p.1<w9.a.j));generalize w9.a.j=y at *;clear hb Ad;have yZ:=ZN.i.R.K 0 38 (aX (Nt.r abA).symm);refine⟨gX w8 y 0 g.ay,?_,?_⟩
  ·simp[go_sem,yZ]
  simp only[lM,bL,bK,bR,jU,lH];have Z2:=ab (ZN.i.put (fun p hp=>jQ (hyv.i p hp)) g.ay (by rw[Nt.r,Nt.r]));clear yZ ZN hyy hyv;generalize gX w8 y 0 g.ay=w3 at Z2 ⊢;go_step;go_step;go_step;obtain⟨y1,y2,y3',y4⟩:=Z2.i.R.J;have HP:=ab (show wE l=(if e2≠0 then xQ 3 else if g.oV=true then xQ 4 else if g.aQ≠6/\g.aQ≠17 then xQ 5 else if(JU g.aQ ((l.d (k.fH+g.dB.g)).f (k.fH+g.head.g))).2≠0 then xQ 6
   else⟨0,⟨g.h,g.S,g.aQ,(JU g.aQ ((l.d (k.fH+g.dB.g)).f (k.fH+g.head.g))).1.jv,(JU g.aQ ((l.d (k.fH+g.dB.g)).f (k.fH+g.head.g))).1.iQ⟩,(JU g.aQ ((l.d (k.fH+g.dB.g)).f (k.fH+g.head.g))).1.vw,k.fH,k.fH+g.head,k.fH+g.dB⟩)by
   unfold wE Na;rw[<-HRR.i,<-HG.i,if_neg (by simp),if_neg HTY.i])
  by_cases h2:e2≠0
  ·have q:(e2==0)=false:=by simp[h2]
   go_wp2_with (go_at_call 92;(with_reducible refine(NO.i 3 _).e ?_);rintro e w4 ⟨rfl,rfl⟩);rw[HP.i,if_pos h2];exact Ro _ 3 rfl Z2.i.b2 (Pk.r _) Z2.i.O
  obtain rfl:e2=0:=by simpa using h2
  cases hf:g.oV
  case true=>
   go_wp2_with (first|(go_at_call 92;(with_reducible refine(OK.i 3 _).e ?_);rintro e w4 ⟨rfl,rfl⟩)|(go_at_call 92;(with_reducible refine(NO.i 4 _).e ?_);rintro e w4 ⟨rfl,rfl⟩));rw[HP.i,if_neg h2,if_pos hf];exact Ro _ 4 rfl Z2.i.b2 (Pk.r _) Z2.i.O
  case false=>
   have CC:=ab (aea g.aQ w3);by_cases hp:g.aQ≠6/\g.aQ≠17
   ·rw[show(decide (g.aQ=6)||decide (g.aQ=17))=false by simp[hp.1,hp.2]]at CC
    go_wp2_with (first|(go_at_call 92;(with_reducible refine(OK.i 3 _).e ?_);rintro e w4 ⟨rfl,rfl⟩)|(go_at_call 92;(with_reducible refine(OK.i 4 _).e ?_);rintro e w4 ⟨rfl,rfl⟩)|(go_at_call 94;(with_reducible refine CC.i.e ?_);rintro e w4 ⟨rfl,rfl⟩)|(go_at_call 92;(with_reducible refine(NO.i 5 _).e ?_);rintro e w4 ⟨rfl,rfl⟩));rw[HP.i,if_neg h2,if_neg (by rw[hf];simp),if_pos hp];exact Ro _ 5 rfl Z2.i.b2 (Pk.r _) Z2.i.O
   rw[show(decide (g.aQ=6)||decide (g.aQ=17))=true by simp;omega]at CC;obtain⟨g1,g2,g3⟩:=ane (k:=k.oM) (l:=l.f k.fH) (by rw[<-HG2.i]);rw[<-HG2.i,jF,hl.i]at g3;rw[<-HG2.i]at g1 g2;simp only at g1 g2 g3;obtain⟨a1,ha1⟩:∃a1:Nat,(k.fH:Int)+g.head=a1:=⟨k.fH+g.head.g,by omega⟩
   obtain⟨b1,hb1⟩:∃b1:Nat,(k.fH:Int)+g.dB=b1:=⟨k.fH+g.dB.g,by omega⟩
   have e1:k.fH+g.head.g=a1:=by omega
   have e1':k.fH+g.dB.g=b1:=by omega
   have hab:a1<=b1/\b1<=n:=by omega
   rw[e1,e1',ha1,hb1]at HP;have hw1:bU.d ((k.fH:Int)+g.head)=(a1:Int):=by rw[ha1];exact jW _ (by omega)
   have hw2:bU.d ((k.fH:Int)+g.dB)=(b1:Int):=by rw[hb1];exact jW _ (by omega)
   obtain⟨j1,j2⟩:(a1:Int)<=b1/\(b1:Int)<=c:=by omega
   have j0:(0:Int)<=a1:=by omega
   have CP:=ab (fun(w:ak) (h:Bx [(y,g.ay),(y3,(k.cell TA tc).ay),(W.a.j,OU.ay)] W w)=>abI w g.aQ (vQ A a1 c 1) (b1-a1) (c-a1) ((l.d b1).f a1) (by omega) (by omega) ((h.Pf HR.i).ad6 hab.1 hab.2 hnc));unfold PtP at CP;obtain⟨pr,hpr⟩:=bZ (JU g.aQ ((l.d b1).f a1));obtain⟨pt,e3⟩:=pr;rw[<-hpr]at CP HP;clear hpr ha1 hb1 e1 e1' g1 g2 g3 hab;have F5:=ab (fun(w:ak) (h:Bx [(y,g.ay),(y3,(k.cell TA tc).ay),(W.a.j,OU.ay)] W w)=>show w.b ⟨y,0,none⟩=some (.b .a g.head)/\w.b ⟨y,1,none⟩=some (.b .a g.dB)/\w.b ⟨y,2,none⟩=some (.b .a g.aQ)from⟨(h.R.J.1 0).trans (Nt.KY _),(h.R.J.1 1).trans (Nt.yH _),(h.R.J.1 2).trans (Nt.Cv _)⟩);go_upto_region 9 with(first|(go_at_call 92;(with_reducible refine(OK.i 3 _).e ?_);rintro e w4 ⟨rfl,rfl⟩)|(go_at_call 92;(with_reducible refine(OK.i 4 _).e ?_);rintro e w4 ⟨rfl,rfl⟩)|(go_at_call 94;(with_reducible refine CC.i.e ?_);rintro e w4 ⟨rfl,rfl⟩)|(go_at_call 92;(with_reducible refine(OK.i 5 _).e ?_);rintro e w4 ⟨rfl,rfl⟩))
   clear y1 y2 y3' y4;refine xE (Bx.abK ([(y,g.ay),(y3,(k.cell TA tc).ay),(W.a.j,OU.ay)]) W) 18 19 17 6 64 172 ra.ay (by kernel_rfl) rfl rfl rfl rfl rfl (by kernel_rfl) (by kernel_rfl) (by kernel_rfl) (by kernel_rfl) (by kernel_rfl) rfl rfl rfl (fun a w=>by simp[go_sem]) (uh rfl) Z2.i.drew ?_;apply Exists.intro;refine⟨fun T f hT es ew=>?_,?_⟩
   ·have EW:=ab ew
    have ES:=ab es;have k1:=fun m=>(F5.i _ (ES.i m)).1
    have k2:=fun m=>(F5.i _ (ES.i m)).2.1
    have k3:=fun m=>(F5.i _ (ES.i m)).2.2
    have k4:=fun m=>(F3.i _ _ (ES.i m).swap).2
    have CF:=ab (fun m=>CP.i _ (ES.i m));clear es ew;simp only[ng,yI,lq,bK,bR,jA,j6]
    repeat(go_big_quiet_step ((first|(go_at_call 95;(with_reducible refine(CF.i _).e ?_);rintro e w2 ⟨rfl,hb⟩;exact⟨rfl,EW.i _ _ hb⟩))))
    exact eG rfl
   ·intro w9 w8 Ad _ hb
    have ZN:=ab ((Ad.new ra.ay 172).go hb);have hyy:=ab Ad;have hy:=Ad.O.j;have hyv:=ab (fun p (hp:p∈[(y,g.ay),(y3,(k.cell TA tc).ay),(W.a.j,OU.ay)])=>((Ad.2 p hp).2.lt:p.1<w9.a.j));generalize w9.a.j=z at *;clear hb Ad;have yZ:=ZN.i.R.K 0 5 (aX (Pt.r ra).symm);refine⟨gX w8 z 0 pt.ay,?_,?_⟩
    ·simp[go_sem,yZ]
    simp only[lM,bL,bK,bR,jU,lH];have Z4:=ab (ZN.i.put (fun p hp=>jQ (hyv.i p hp)) pt.ay (by rw[Pt.r,Pt.r]));clear yZ ZN hyy hyv;generalize gX w8 z 0 pt.ay=w4 at Z4 ⊢;go_step;go_step;go_step;obtain⟨u1,u2,u3,u4⟩:=Z4.i.R.J;by_cases h4:e3≠0
    ·have q:(e3==0)=false:=by simp[h4]
     go_wp2_with (go_at_call 92;(with_reducible refine(NO.i 6 _).e ?_);rintro e w4 ⟨rfl,rfl⟩);rw[HP.i,if_neg h2,if_neg (by rw[hf];simp),if_neg hp,if_pos h4];exact Ro _ 6 rfl Z4.i.b3 (Pk.r _) Z4.i.O
    obtain rfl:e3=0:=by simpa using h4
    obtain⟨v1,v2,v3,v4⟩:=Z4.i.b1.J;have Z5:=ab (Z4.i.new (Tu.mk g.h g.S g.aQ pt.jv pt.iQ).ay 81);go_upto_region 12 with(go_at_call 92;(with_reducible refine(OK.i 6 _).e ?_);rintro e w4 ⟨rfl,rfl⟩)
    clear u1 u2 u3 u4 v1 v2 v3 v4;generalize w4.alloc (.D (Tu.mk g.h g.S g.aQ pt.jv pt.iQ).ay 81)=w5 at Z5 ⊢;generalize w4.a.j=x5 at *;have Zw:=ab (Z5.i.sub (L':=[(W.a.j,OU.ay)]) (by simp));obtain⟨c1,c2⟩:=F3.i _ _ (Z5.i.sub (L':=[(y3,(k.cell TA tc).ay)]) (by simp));obtain⟨d1,d2,d3⟩:=F5.i _ (Z5.i.sub (by simp));obtain⟨m1,m2,m3,m4⟩:=Z5.i.R.J;have pz:=(Z5.i.b1.J.1 2).trans (Pt.OT _);have thw:=Zw.i.R.K 0 42 (aX (Pk.r OU).symm);have Z6:=ab (Zw.i.put (fun p hp=>by cases hp) (Pk.mk 0 (Tu.mk g.h g.S g.aQ pt.jv pt.iQ) pt.vw k.fH a1 b1).ay (by rw[Pk.r,Pk.r]));go_wp2;rw[HP.i,if_neg h2,if_neg (by rw[hf];simp),if_neg hp,if_neg h4];exact au7 _ _ rfl Z6.i.R Z6.i.O
end
section
attribute [local go_sem high] jd jL
end
section
open Go.ChangeShapes Go.WideShapes Go.ChangeAt Go.RowKit Go.Deep
section
variable {H:Type} {enc:bE×aB->H} {w:ak} {base:Nat} {spare:Nat->Bool} {held:Bool} {fuel:Nat} {cs:List aB} {x:DataW H×List oZ}
theorem aqP(h:kY enc ah w base spare held fuel 81 cs=some x):∃t:Tu,cs=t.ay.a:=by
 obtain⟨xs,n,_,_,hl,hxl,hf⟩:=om jI h;rw[show ah.a 81=37 by kernel_rfl]at hl;obtain⟨y0,h0⟩:=Dr hxl hf 0 _ rfl;obtain⟨y1,h1⟩:=Dr hxl hf 1 _ rfl;obtain⟨y2,h2⟩:=Dr hxl hf 2 _ rfl;obtain⟨y3,h3⟩:=Dr hxl hf 3 _ rfl;obtain⟨y4,h4⟩:=Dr hxl hf 4 _ rfl;obtain⟨a,ha⟩:=Fv h0;obtain⟨b,hb⟩:=Fv h1;obtain⟨p,hp,_,_⟩:=nE (by kernel_rfl) h2;obtain⟨q,hq,_,_⟩:=nE (by kernel_rfl) h3;obtain⟨r,hr,_,_⟩:=nE (by kernel_rfl) h4;have c0:(cs.f 0).d 17=a.ay.a:=ha;have c1:(cs.f 17).d 17=b.ay.a:=hb;have c2:(cs.f 34).d 1=[.b .a p]:=hp;have c3:(cs.f 35).d 1=[.b .a q]:=hq;have c4:(cs.f 36).d 1=[.b .a r]:=hr;refine⟨⟨a,b,p,q,r⟩,?_⟩;have e:=rP cs 0 17;rw[c0,rP cs (0+17) 17,c1,rP cs (0+17+17) 1,c2,rP cs (0+17+17+1) 1,c3,rP cs (0+17+17+1+1) 1,c4,gq (i:=0+17+17+1+1+1) (by omega)]at e;simpa[Tu.ay,tuT]using e
def Fw.Nw(x:Fw):Prop:=x.E.a<=9223372036854775807
theorem aqQ(h:kY enc ah w base spare held fuel 86 cs=some x):∃t:Fw,cs=t.ay.a/\t.Nw:=by
 obtain⟨xs,n,_,_,hl,hxl,hf⟩:=om lW h;rw[show ah.a 86=41 by kernel_rfl]at hl;obtain⟨y0,h0⟩:=Dr hxl hf 0 _ rfl;obtain⟨y1,h1⟩:=Dr hxl hf 1 _ rfl;obtain⟨y2,h2⟩:=Dr hxl hf 2 _ rfl;obtain⟨y3,h3⟩:=Dr hxl hf 3 _ rfl;obtain⟨y4,h4⟩:=Dr hxl hf 4 _ rfl;obtain⟨a,ha⟩:=aqP h0;obtain⟨s,hs,hsl⟩:=U3 (by kernel_rfl) h1;obtain⟨p,hp,_,_⟩:=nE (by kernel_rfl) h2;obtain⟨q,hq,_,_⟩:=nE (by kernel_rfl) h3;obtain⟨r,hr,_,_⟩:=nE (by kernel_rfl) h4;have c0:(cs.f 0).d 37=a.ay.a:=ha;have c1:(cs.f 37).d 1=[.string (bP s)]:=hs;have c2:(cs.f 38).d 1=[.b .a p]:=hp;have c3:(cs.f 39).d 1=[.b .a q]:=hq;have c4:(cs.f 40).d 1=[.b .a r]:=hr;refine⟨⟨a,s,p,q,r⟩,?_,hsl⟩;have e:=rP cs 0 37;rw[c0,rP cs (0+37) 1,c1,rP cs (0+37+1) 1,c2,rP cs (0+37+1+1) 1,c3,rP cs (0+37+1+1+1) 1,c4,gq (i:=0+37+1+1+1+1) (by omega)]at e;simpa[Fw.ay,fwT]using e
theorem Zx{P:eD}{k:Nat}{t e:bE}(ht:P.k t=some (.array k e))(he:P.k e=some (.b .a))(hc:P.a e=1)(hk:P.a t=k)(h:kY enc P w base spare held fuel t cs=some x):∃v:Vector Int k,cs=v.a.map (aI .a):=by
 obtain⟨xs,m,_,_,hl,hxl,hf⟩:=DataW.trod_array ht h;rw[hk]at hl;have hg:∀i,i<k->∃b:Int,cs[i]? = some (.b .a b):=fun i hi=>by
  have h1:=hf i hi;rw[hc,gL,aC (by omega)]at h1;obtain⟨b,hb,_,_⟩:=nE he h1;refine⟨b,?_⟩;rw[take1_drop cs i undef (by omega)]at hb;simp only[List.cons.injEq,and_true]at hb;rw[aC (by omega),<-hb,au,aC (by omega)];rfl
 obtain⟨f,hf⟩:∃f:Nat->Int,∀i,i<k->cs[i]? = some (.b .a (f i)):=by
  refine⟨fun i=>if hi:i<k then(hg i hi).choose else 0,fun i hi=>?_⟩;simp only[hi,dif_pos];exact(hg i hi).choose_spec
 refine⟨Vector.ofFn fun i:Fin k=>f i,?_⟩;apply iR;intro i;rcases aZ i k with hi|hi
 ·rw[hf i hi]
  simp[hi]
 ·rw[aS (by omega),aS (by simpa using hi)]
end
section
variable {H:Type} {enc:bE×aB->H} {W:ak} {base:Nat} {v:aB} {d:DataW H} {ps:List oZ} {held:Bool}
theorem aqR{fuel:Nat}{cs:List aB}{x:DataW H×List oZ}(h:kY enc ah W 0 (fun _=>true) held fuel 37 cs=some x):∃(x:Sh)(s:rE),cs=x.ay.a/\StW W W.a.j x s:=by
 obtain⟨xs,n,_,_,hl,hxl,hf⟩:=om oG h;rw[show ah.a 37=17 by kernel_rfl]at hl;obtain⟨y0,h0⟩:=Dr hxl hf 0 _ rfl;obtain⟨y1,h1⟩:=Dr hxl hf 1 _ rfl;obtain⟨y2,h2⟩:=Dr hxl hf 2 _ rfl;obtain⟨y3,h3⟩:=Dr hxl hf 3 _ rfl;obtain⟨y4,h4⟩:=Dr hxl hf 4 _ rfl;obtain⟨y5,h5⟩:=Dr hxl hf 5 _ rfl;obtain⟨z,A,n,c,l,hs,_,hR,hg,hm⟩:=aju h0;obtain⟨gA,gn,gc,gl,ghs,gnc,gcc,ghl,ghr,ghp,ghg⟩:=Ky Hl.ay Hl.Nw 3 Hl.r (by kernel_rfl:ah.k _=some (.a 100)) (by kernel_rfl) (by omega) (fun n cs y hy=>apr hy) h1;obtain⟨fA,fn,fc,fl,fhs,fnc,fcc,fhl,fhr,fhp,fhg⟩:=Ky Fw.ay Fw.Nw 41 Fw.r (by kernel_rfl:ah.k _=some (.a 86)) (by kernel_rfl) (by omega) (fun n cs y hy=>aqQ hy) h2;obtain⟨p,hp,_,_⟩:=nE (by kernel_rfl) h3;obtain⟨q,hq,_,_⟩:=nE (by kernel_rfl) h4;obtain⟨ct,hct⟩:=Zx (k:=11) (e:=3) (by kernel_rfl) (by kernel_rfl) (by kernel_rfl) (by kernel_rfl) h5;have c0:(cs.f 0).d 2=[.b .a z,.a A n c]:=hs;have c1:(cs.f 2).d 1=[.a gA gn gc]:=ghs;have c2:(cs.f 3).d 1=[.a fA fn fc]:=fhs;have c3:(cs.f 4).d 1=[.b .a p]:=hp;have c4:(cs.f 5).d 1=[.b .a q]:=hq;have c5:(cs.f 6).d 11=ct.a.map (aI .a):=hct;refine⟨⟨z,⟨A,n,c⟩,⟨gA,gn,gc⟩,⟨fA,fn,fc⟩,p,q,ct⟩,⟨z,l,gl,fl,p,q,ct⟩,?_,⟨rfl,hR,⟨ghl,ghr,ghp⟩,⟨fhl,fhr,fhp⟩,rfl,rfl,rfl,fun y hy=>(hg y hy).1,fun y hy=>(ghg y hy).1,fun y hy=>fhg y hy,hm,aO gnc gcc,aO fnc fcc⟩⟩;have e:=rP cs 0 2;rw[c0,rP cs (0+2) 1,c1,rP cs (0+2+1) 1,c2,rP cs (0+2+1+1) 1,c3,rP cs (0+2+1+1+1) 1,c4,rP cs (0+2+1+1+1+1) 11,c5,gq (i:=0+2+1+1+1+1+11) (by omega)]at e;simpa[Sh.ay,shT,yD]using e
theorem ah8(hval:Value.okWide ah W .any base 37 v)(h:DataW.Trod enc ah W 0 (fun _=>true) held 37 v d ps):∃(x:Sh)(s:rE),v=.d x.ay/\StW W W.a.j x s:=by
 obtain⟨cs,rfl,_⟩:=okWide_struct oG hval;obtain⟨fuel,hf⟩:=h;obtain⟨x,s,hcs,hr⟩:=aqR hf;have hc:cs.a=x.ay.a:=hcs;exact⟨x,s,by rw[Array.toList_inj.1 hc],hr⟩
end
@[go_sem]theorem au8(w:ak):(zY 0 #[]).G ah w = .Y (.a (some ⟨w.a.j,0,none⟩) 0 0) (w.alloc (.D #[] 5)):=by
 obtain⟨i0,hi0,hz0,hz1,hz2⟩:=yE;simp[zY,bM,dJ cO,zeroValue,sizeOf,typeInfo,hi0,hz0,hz1,fD,newRow,cZ,show mF 0 = #[]by apply pQ;rw[kC];rfl]
theorem gu.go{W w1:ak}{n:Nat}{A:Option aT}{l:List UInt8}(h:gu W W.a.j A n l)(hb:aL W.a.j W w1):gu w1 w1.a.j A n l:=(h.to hb (av _)).lN hb.j
end
@[go_sem]theorem au9(w:ak)(a b:Int):(zY 2 #[(0,.b .b a),(1,.b .b b)]).G ah w = .Y (.a (some ⟨w.a.j,0,none⟩) 2 2) (w.alloc (.D #[.b .b a,.b .b b] 5)):=by
 obtain⟨i0,hi0,hz0,hz1,hz2⟩:=yE;simp[zY,bM,dJ cO,zeroValue,sizeOf,typeInfo,hi0,hz0,hz1,fD,newRow,cZ,agm]
@[go_sem]theorem au'(w:ak)(a b c d e:Int):(zY 5 #[(0,.b .b a),(1,.b .b b),(2,.b .b c),(3,.b .b d),(4,.b .b e)]).G ah w = .Y (.a (some ⟨w.a.j,0,none⟩) 5 5) (w.alloc (.D #[.b .b a,.b .b b,.b .b c,.b .b d,.b .b e] 5)):=by
 obtain⟨i0,hi0,hz0,hz1,hz2⟩:=yE;simp[zY,bM,dJ cO,zeroValue,sizeOf,typeInfo,hi0,hz0,hz1,fD,newRow,cZ,amS]
theorem Rp(w:ak)(c:Array aB)(l:List UInt8)(h:c.a=l.map bv):gu (w.alloc (.D c 5)) (w.a.j+1) (some ⟨w.a.j,0,none⟩) l.a l:=by
 refine⟨by simp,fun _=>⟨_,rfl,by simp,fun j u hu=>?_⟩⟩;rw[iJ,bl];have:=lX w c 5 j;rw[this,<-hu,<-h];simp
theorem ah9(n:Nat)(hn:n<65536):gM n 2 true=[aK (n/256),aK (n%256)]:=by
 unfold gM rR;simp[List.range_succ];constructor<;>(apply kJ.1;simp[Dq]<;>omega)
theorem uz(l:List UInt8)(i:Nat)(h:i<l.a):l.d (i+1)=l.d i++[l.b i 0]:=by
 rw[List.take_add_one,aC h,au,aC h];rfl
theorem Ly.azo(w w1:ak)(hb:aL w.a.j w w1)(b:UInt8)(a:Int)(ha:a=(b.g:Int)):Ly w.a.j [] w (w1.alloc (.D #[.b .b a] 5)) (.a (some ⟨w1.a.j,0,none⟩) 1 1) [b]:=by
 subst ha;have h1:(w1.alloc (.D #[.b .b (b.g:Int)] 5)).c w1.a.j 5 1 (.a (some ⟨w1.a.j,0,none⟩) 1 1) 1 ([b].map bv):=World.ownsRow_lit w1 #[.b .b (b.g:Int)] 1 (av _) (by unfold maxLen;omega) rfl;refine⟨⟨iH h1 hb.j,?_,.b ⟨_,rfl,hb.j⟩,av _,fun k h=>by cases h⟩,fun p hp=>by cases hp⟩;have h2:=hb.alloc hb.j (.D #[.b .b (b.g:Int)] 5);exact⟨h2.os,h2.tape,h2.output,h2.j,fun i hi _=>h2.block i hi⟩
theorem aqS(t:Tu)(h:uf t)(wr:ak):gu (wr.alloc (.D #[.b .b t.aQ,.b .b (t.jv/256),.b .b (t.jv%256),.b .b (t.iQ/256),.b .b (t.iQ%256)] 5)) (wr.a.j+1) (some ⟨wr.a.j,0,none⟩) 5 ([aK t.aQ.g]++(gM t.jv.g 2 true++gM t.iQ.g 2 true)):=by
 obtain⟨⟨p1,p2⟩,⟨s1,s2⟩,d1,d2⟩:=h;have:=Rp wr #[.b .b t.aQ,.b .b (t.jv/256),.b .b (t.jv%256),.b .b (t.iQ/256),.b .b (t.iQ%256)] ([aK t.aQ.g]++(gM t.jv.g 2 true++gM t.iQ.g 2 true)) (by
  rw[ah9 _ (by omega),ah9 _ (by omega)];simp only[List.map_cons,List.map_nil,bv,gW,dH];rw[dig _ (by omega),dig _ (by omega),dig _ (by omega),dig _ (by omega),dig _ (by omega)];have e1:t.aQ=(t.aQ.g:Int):=by omega
  have e2:t.jv/256=((t.jv.g/256:Nat):Int):=by omega
  have e3:t.jv%256=((t.jv.g%256:Nat):Int):=by omega
  have e4:t.iQ/256=((t.iQ.g/256:Nat):Int):=by omega
  have e5:t.iQ%256=((t.iQ.g%256:Nat):Int):=by omega
  rw[e2,e3,e4,e5,<-e1])
 have hl:([aK t.aQ.g]++(gM t.jv.g 2 true++gM t.iQ.g 2 true)).a=5:=by simp[tZ]
 rwa [hl]at this
theorem WL(t:Tu)(ht:uf t)(w:ak):aP ah 122 #[.d t.ay] w (IV w (GH t)):=by
 obtain⟨⟨p1,p2⟩,⟨s1,s2⟩,d1,d2⟩:=id ht;have PR:=ab (fun wr:ak=>aqS t ht wr);have T:=ab (dM.new w t.ay 81);have HB:=ab ((aG w.a.j w).alloc (av _) (.D t.ay 81));have hone:(w.alloc (.D t.ay 81)).a.j=w.a.j+1:=by simp
 have L0:=(Ly.azo w _ HB.i 4 4 rfl).add (q:=w.a.j) (c:=t.ay) (T.i.alloc _) (by rw[hone];simp[jy]);have ava:((w.alloc (.D t.ay 81)).alloc (.D #[.b .b 4] 5)).a.j=w.a.j+1+1:=by simp
 have L1:=(Ly.azo w _ (HB.i.alloc (by simp) (.D #[.b .b 4] 5)) 6 6 rfl).add (q:=w.a.j) (c:=t.ay) ((T.i.alloc _).alloc _) (by rw[ava];simp[jy];omega);rw[hone]at L0;rw[ava]at L1;have H0:=ab L0;have H1:=ab L1;obtain⟨b6,hb6⟩:∃b,t.h.h=b:=⟨_,rfl⟩
 have H6:=ab hb6;have x0:=Tu.nS t;rw[hb6]at x0;have HT:=ab (show GH t=([if b6 then 6 else 4]++t.h.b.a++t.S.b.a)++([aK t.aQ.g]++(gM t.jv.g 2 true++gM t.iQ.g 2 true))by rw[GH,hb6];simp only[cu]);clear ht hb6 L0 L1 hone ava;obtain⟨q1,q2,q3,q4⟩:=(T.i.alloc (.D #[.b .b 4] 5)).J;have hlq:=(T.i.alloc (.D #[.b .b 4] 5)).lt;obtain⟨bs,hbs⟩:∃bs:List UInt8,bs=[if b6 then 6 else 4]:=⟨_,rfl⟩
 have HBS:=ab hbs;have EP:=ab (show bs.a=1 by rw[hbs];rfl);rw[<-hbs]at HT;cases b6
 all_goals
  have S0:=ab (show Ly w.a.j [(w.a.j,t.ay)] w _ _ bs by rw[hbs];first|exact H1.i|exact H0.i);clear hbs;go_enter Tryz.func122,Tryz.ntmps122;go_wp2;go_loopw [3,4] (fun s3 s4 wr=>∃(i:Nat)(A':Option aT)(m' c':Nat),i<=16/\s4=.b .a i/\s3=.a A' m' c'/\Ly w.a.j [(w.a.j,t.ay)] w wr (.a A' m' c') (bs++t.h.b.a.d i)) (fun _ s4 _=>16-(intOf s4).g)
  case atStart=>exact⟨0,_,_,_,by omega,rfl,rfl,by simpa using S0.i⟩
  case round=>
   obtain⟨i,A',m',c',hi,rfl,rfl,h⟩:=hrel;have HO:=ab h;clear h q1 q2 q3 q4 hlq;obtain⟨q1,q2,q3,q4⟩:=HO.i.R.J;have hlq:=HO.i.R.lt;by_cases hlt:i<16
   ·have hlt2:(i:Int)<16:=by omega
    have hc:=Tu.LZ t (i+1) (by omega);rw[fC.BR _ i hlt,kM i 1]at hc;obtain⟨u,hu⟩:=rT (t.h.b.a.b i 0);rw[hu]at hc;unfold bv at hc;have HS:=ab (uz t.h.b.a i (by simp;omega));rw[hu]at HS;have L1:=ab (HO.i.alloc (.D #[.b .b (u.g:Int)] 5));have R1:=ab (Cu wr u _ rfl);have K8:=ab (show(bs++t.h.b.a.d i).a+1<=1000000000 by rw[aR,bH,EP.i];omega);go_wp2_with (at_builtin;refine jK rfl (.tmp 15) (.tmp 21) rfl rfl L1.i.o rfl R1.i K8.i ?_;intro A5 n5 c5 w5 h2 h3;have L2:=ab (L1.i.step h3);clear h2 h3);go_roundw
    case rel=>exact⟨i+1,A5,n5,c5,by omega,by go_num,rfl,by rw[HS.i,<-cu];exact L2.i⟩
    case measure=>simp[intOf]<;>omega
   ·have hge:¬(i:Int)<16:=by omega
    have HF:=ab (show t.h.b.a.d i=t.h.b.a from aJ (by simp;omega));rw[HF.i]at HO;obtain⟨UL,Ce⟩:∃b,b=bs++t.h.b.a:=⟨_,rfl⟩
    have anj:=ab (show UL.a=17 by rw[Ce,aR,EP.i];simp);rw[<-Ce]at HO HT;clear Ce HF hge hi S0 H0 H1;go_wp2;clear q1 q2 q3 q4 hlq;go_loopw [3,5] (fun s3 s5 wr=>∃(i:Nat)(A':Option aT)(m' c':Nat),i<=16/\s5=.b .a i/\s3=.a A' m' c'/\Ly w.a.j [(w.a.j,t.ay)] w wr (.a A' m' c') (UL++t.S.b.a.d i)) (fun _ s5 _=>16-(intOf s5).g)
    case atStart=>exact⟨0,_,_,_,by omega,rfl,rfl,by simpa using HO.i⟩
    case round=>
     clear HO;obtain⟨i,A',m',c',hi,rfl,rfl,h⟩:=hrel;have HO:=ab h;clear h;obtain⟨q1,q2,q3,q4⟩:=HO.i.R.J;have hlq:=HO.i.R.lt;by_cases hlt:i<16
     ·have hlt2:(i:Int)<16:=by omega
      have hc:=Tu.JG t (i+1) (by omega);rw[fC.BR _ i hlt,show i+1+17=18+i by omega]at hc;obtain⟨u,hu⟩:=rT (t.S.b.a.b i 0);rw[hu]at hc;unfold bv at hc;have HS:=ab (uz t.S.b.a i (by simp;omega));rw[hu]at HS;have L1:=ab (HO.i.alloc (.D #[.b .b (u.g:Int)] 5));have R1:=ab (Cu wr u _ rfl);have K8:=ab (show(UL++t.S.b.a.d i).a+1<=1000000000 by rw[aR,bH,anj.i];omega);go_wp2_with (at_builtin;refine jK rfl (.tmp 27) (.tmp 33) rfl rfl L1.i.o rfl R1.i K8.i ?_;intro A5 n5 c5 w5 h2 h3;have L2:=ab (L1.i.step h3);clear h2 h3);go_roundw
      case rel=>exact⟨i+1,A5,n5,c5,by omega,by go_num,rfl,by rw[HS.i,<-cu];exact L2.i⟩
      case measure=>simp[intOf]<;>omega
     ·have hge:¬(i:Int)<16:=by omega
      have HF:=ab (show t.S.b.a.d i=t.S.b.a from aJ (by simp;omega));rw[HF.i]at HO;have L4:=ab (HO.i.alloc (.D #[.b .b t.aQ,.b .b (t.jv/256),.b .b (t.jv%256),.b .b (t.iQ/256),.b .b (t.iQ%256)] 5));have R4:=ab (PR.i wr);have HL4:=ab (show(UL++t.S.b.a).a+5<=1000000000 by rw[aR,anj.i];simp);go_wp2_with (at_builtin;refine jK rfl (.tmp 35) (.tmp 55) rfl rfl L4.i.o rfl R4.i HL4.i ?_;intro A5 n5 c5 w5 h2 h3;have L5:=ab (L4.i.step h3);clear h2 h3);go_ret;rw[<-HT.i]at L5;have ho:=L5.i.o;obtain⟨A9,c9,e9⟩:=ho.Cr;injection e9 with e9 e10 e11
      subst e10;exact⟨A5,_,c5,rfl,rfl,ho.vL,ho.O⟩
end Go.Proofs.YtkjojjopamaoiaaGreat
