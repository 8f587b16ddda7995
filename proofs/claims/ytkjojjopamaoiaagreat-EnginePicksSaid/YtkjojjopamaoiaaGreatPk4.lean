/- Parts. -/
import Derived.Test.YtkjojjopamaoiaaGreatPk3
import Derived.Test.YtkjojjopamaoiaaGreatPk2
import Derived.Deep.RegionHeldLaw
import Derived.Shelf.SlIter.Sorted
set_option linter.all false
set_option maxRecDepth 100000
set_option maxHeartbeats 8000000
open Array renaming getElem?_setIfInBounds->dO,mapM->iB,getElem?_append->aD,ext_getElem?->dW,getElem?_eq_none->aU,size_extract->jE,size_append->nU,range->lU,ext'->oQ,toList_range->j3,append_assoc->fP,extract_append->bW,setIfInBounds_append->aM,setIfInBounds_eq_of_size_le->jO,replicate->ng,size->Array.j,toList->Array.a,getD->Array.b,setIfInBounds->Array.c,extract->Array.m
open BitVec renaming ofInt->fQ,ofInt_natCast->lS,toNat_ofNat->ny,toNat_and->Fy,toNat->BitVec.e
open Bool renaming false_eq_true->jc,and_eq_true->bf,eq_iff_iff->dA,or_eq_true->nu
open ByteArray renaming size->ByteArray.j,extract->ByteArray.m
open Go renaming Value->aB,Sem->xE,World->ak,Field->nS,run_storeAt_new->yV,run_storeAt_mid->D8,TypeInfo->nJ,Calls->aQ,Addr->aS,Program->eG,Oper->iU,Act->qQ,Exit->zR,Operand->pI,TypeId->bM,wpList_plain->sS,info_parts->Ci,Ending->lq,run_underlying->dL,run_equalIn_struct->zu,bodyPost_ret->aN,wpQuiet_nil->gK,getD_set_ne->xG,mem_ready->kF,yieldsIn_of_qOp->qL,getD_replicate_false->mI,wpS_seq->Ij,wpS_region->Cj,underlying->Go.k
open Go.Act renaming put->lI
open Go.Addr renaming add_mid->iC,add->rb
open Go.BoundsCode renaming toNat->Go.BoundsCode.e
open Go.Builtin renaming append_->zZ,firstCells->tT,zeroCells->nR,copy_->qy
open Go.Calls renaming mono->Go.Calls.g
open Go.CallsD renaming mono->Go.CallsD.g
open Go.DataW renaming agg->Go.DataW.d
open Go.Ending renaming returned->uh,returned->Go.Ending.a
open Go.Field renaming name->Go.Field.E,offset->Go.Field.Z,type->Go.Field.p
open Go.FrameMode renaming run->Go.FrameMode.I
open Go.Instr renaming build->fI,loadAt->bZ,storeAt->eF,buildSlice->bI,fill->fB,makeSlice->xP,typeAssert->Gz,slice->Go.Instr.a,extract->Go.Instr.m
open Go.IntKind renaming u64->jm,wrap_u64->jQ,u8->aX,wrap_u8->Hg,i64->bU,wrap->vP,bits->nQ,signed->lN,i64->Go.IntKind.a,u8->Go.IntKind.b
open Go.Lib renaming hid->ab
open Go.Obj renaming cells->eD,cells->Go.Obj.D
open Go.Op renaming eqItems->Km,equalIn->jg,eqFields->wG,bytesLess->bR,slice->Go.Op.a,extract->Go.Op.m
open Go.Oper renaming wp->ni,upon->Mi,dst->Go.Oper.Y,type->Go.Oper.p
open Go.Program renaming fieldsOf->jP,underlying->Go.Program.k
open Go.Proofs.Tryz renaming prog->ah,underlying81->jW,underlying86->mV,underlying37->rY,underlying35->Fj,underlying56->dx,underlying3->gQ,underlying70->nZ,underlying276->Dz,underlying27->eZ,underlying98->rZ,underlying29->mW,underlying192->oU,underlying189->oV,underlying172->oW,underlying168->DC,underlying83->vF,underlying179->uj,underlying108->um,underlying268->DF,func251->Ct,ntmps251->Aq,ntmps90->Ii
open Go.Region renaming wanted->fC,seqB->lu,ready->fT,lexTailB->xH,binds->qA
open Go.Result renaming andThen->iD,andThen_ok->gJ
open Go.RowKit renaming Below->aL
open Go.RowKit.Below renaming refl->aH,size->Go.RowKit.Below.j,mono->Go.RowKit.Below.g,setCell->Go.RowKit.Below.F
open Go.RowKit.Hid renaming out->Go.RowKit.Hid.i
open Go.Sem renaming run->Go.Sem.I
open Go.Shut renaming out->Go.Shut.i
open Go.Tables renaming info?->Go.Tables.l
open Go.TypeDesc renaming slice->Go.TypeDesc.a,int->Go.TypeDesc.b,pointer->Go.TypeDesc.c,tuple->Go.TypeDesc.J,bool->Go.TypeDesc.e,struct->Go.TypeDesc.d
open Go.TypeInfo renaming size->Go.TypeInfo.j
open Go.Value renaming oneCell'->cB,bool->bL,string->ig,agg->bY,int->aI,slice->bC,cells->cO,pointer->su,cells->Go.Value.D,slice->Go.Value.a,int->Go.Value.b,pointer->Go.Value.c,agg->Go.Value.d,tuple->Go.Value.J,bool->Go.Value.e,ownBlock->Go.Value.f,oneCell'->Go.Value.h
open Go.World renaming ownsRow_nil->eY,heap->Go.World.a,cell?->Go.World.b,setCell->Go.World.F,ownsRow->Go.World.c,there->Go.World.O,grownBy->Go.World.d
open Go.World.grownBy renaming size->Go.World.grownBy.j
open Int renaming toNat->Int.e
open List renaming getElem?_toArray->eB,getD_eq_getElem?_getD->au,size_toArray->dK,length_nil->gH,take_append_drop->iF,map_append->je,length_append->aR,length_map->bQ,take_of_length_le->aK,flatMap_cons->iK,ext_getElem?->iJ,getElem?_take_of_lt->gZ,getElem?_eq_none->aT,append_assoc->dB,mem_cons->bB,mem_cons_of_mem->jy,range->dX,all_eq_true->fM,mem_range->dU,mem_iff_getElem->jv,pairwise_cons->gL,length_cons->bD,mem_filter->mh,replicate->dV,filter_eq_self->wW,map_take->Ap,getElem?_map->jC,getElem?_eq_getElem->aC,mem_singleton->fD,take_succ_cons->jM,take_zero->jX,drop_succ_cons->jN,drop_zero->kX,getElem_mem->dR,length_drop->jA,getElem?_set->fF,getElem?_eq_some_iff->iE,filter_congr->Fp,eq_nil_iff_forall_not_mem->tJ,getElem?_drop->iZ,set_cons_succ->bG,set_cons_zero->bP,setIfInBounds_toArray->bH,length->List.a,getD->List.b,toArray->List.c,take->List.d,drop->List.f,flatMap->List.h,below->List.S,extract->List.m
open List.Perm renaming length_eq->List.Perm.t
open Nat renaming le_refl->av,lt_or_ge->aZ,zero_add->bl,add_comm->uG,add_sub_cancel_left->kJ,mul_one->gB,le_trans->aO,lt_of_lt_of_le->eO,le_succ->Mf,lt_succ_self->mG,mod_eq_of_lt->fK,le_succ_of_le->ql,le_of_eq->aW,le_of_lt->mH,ne_of_lt->jJ,ne_of_gt->uF,below->Nat.S
open Ne renaming symm->jh
open Option renaming toList->Option.a,getD->Option.b
open Or renaming inl->Or.a,inr->Or.b
open UInt8 renaming toNat_inj->lY,ofNat->aJ,toNat->UInt8.e,toNat_lt->UInt8.a
open Vector renaming replicate->bF,toList->Vector.a
namespace Go.Proofs.YtkjojjopamaoiaaGreat
open Go.RowKit
theorem aa0(c:Array aB)(i j:Nat)(v:aB)(hi:i<c.j):(c.c i v)[j]? = if i=j then some v else c[j]?:=by
 rw[dO];split
 ·rename_i h;subst h;simp[hi]
 ·rfl
def axH(ps:Array (Nat×aB)):xE aB:=fI 62 ps
@[go_sem ↓]theorem aAJ(ps:Array (Nat×aB)):fI 62 ps=axH ps:=rfl
theorem ajf(w:ak)(fs:Array nS)(h:ah.k 62=some (.d fs)):(iB (fun f=>Prod.mk f.Z <$> sizeOf f.p) fs:xE (Array (Nat×Nat))).I ah w=.ok #[(0,1),(1,17),(18,1),(19,6),(25,1),(26,1)] w:=by
 have e:=Tryz.underlying62;rw[h]at e;cases e;show _=_
 kernel_rfl
theorem aml:(ah.l 5).map (·.j)=some 1:=by kernel_rfl
theorem AJ(a b:Array aB)(k j:Nat)(ha:a.j=k):(a++b)[j]? = if j<k then a[j]? else b[j-k]?:=by
 rw[aD,ha]
def tuT(t:Tu):Array aB:=#[.b .a t.aP,.b .a t.kV,.b .a t.jR]
def Tu.ay(t:Tu):Array aB:=t.h.ay++(t.Y.ay++tuT t)
theorem Tu.G(t:Tu):t.ay.j=37:=by simp[Tu.ay,tuT,fu.G]
theorem Tu.Nc(t:Tu)(j:Nat)(hj:j<17):t.ay[j]? = t.h.ay[j]?:=by
 unfold Tu.ay;rw[AJ _ _ 17 _ (fu.G _),if_pos hj]
theorem Tu.KX(t:Tu)(j:Nat)(hj:j<17):t.ay[j+17]? = t.Y.ay[j]?:=by
 unfold Tu.ay;rw[AJ _ _ 17 _ (fu.G _),if_neg (by omega),AJ _ _ 17 _ (fu.G _),if_pos (by omega)];congr 1
theorem Tu.BH(t:Tu)(j:Nat)(hj:j<3):t.ay[j+34]? = (tuT t)[j]?:=by
 unfold Tu.ay;rw[AJ _ _ 17 _ (fu.G _),if_neg (by omega),AJ _ _ 17 _ (fu.G _),if_neg (by omega)];congr 1
@[go_sem]theorem Tu.pW(t:Tu):t.ay[0]? = some (.e t.h.h):=(Tu.Nc t 0 (by omega)).trans (fu.pW _)
@[go_sem]theorem Tu.atA(t:Tu):t.ay[17]? = some (.e t.Y.h):=(Tu.KX t 0 (by omega)).trans (fu.pW _)
@[go_sem]theorem Tu.Vu(t:Tu):t.ay[34]? = some (.b .a t.aP):=Tu.BH t 0 (by omega)
@[go_sem]theorem Tu.afQ(t:Tu):t.ay[35]? = some (.b .a t.kV):=Tu.BH t 1 (by omega)
@[go_sem]theorem Tu.aa1(t:Tu):t.ay[36]? = some (.b .a t.jR):=Tu.BH t 2 (by omega)
theorem gW{a b:Array aB}(h1:a.all (·.h)=true)(h2:b.all (·.h)=true):(a++b).all (·.h)=true:=by
 rw[Array.all_append,h1,h2];rfl
theorem Tu.cK(t:Tu):t.ay.all (·.h)=true:=gW (fu.cK _) (gW (fu.cK _) (by simp[tuT,cB]))
theorem Tu.aa2{c:Array aB}{t:Tu}(hc:c.j=37)(h0:∀j,j<17->c[j]? = t.h.ay[j]?)(h1:∀j,j<17->c[j+17]? = t.Y.ay[j]?)(h2:∀j,j<3->c[j+34]? = (tuT t)[j]?):c=t.ay:=by
 apply dW;intro j;rcases(show j<17\/(17<=j/\j<34)\/(34<=j/\j<37)\/37<=j by omega)with h|⟨h,h'⟩|⟨h,h'⟩|h
 ·rw[h0 j h,Tu.Nc t j h]
 ·obtain⟨i,rfl⟩:∃i,j=i+17:=⟨j-17,by omega⟩
  rw[h1 i (by omega),Tu.KX t i (by omega)]
 ·obtain⟨i,rfl⟩:∃i,j=i+34:=⟨j-34,by omega⟩
  rw[h2 i (by omega),Tu.BH t i (by omega)]
 ·rw[aU (by omega),aU (by rw[Tu.G];exact h)]
@[go_sem]theorem Tu.dZ(x:Tu):dZ x.ay=37:=Tu.G x
@[go_sem]theorem Tu.j5(x:Tu):x.ay.m 0 37=x.ay:=by
 have:=Tu.G x;rw[<-this];simp
def tL(v:aB):xE aB:=bZ 81 v
def ahG(v x:aB):xE Unit:=eF 81 v x
@[go_sem ↓]theorem av9(v:aB):bZ 81 v=tL v:=rfl
@[go_sem ↓]theorem atB(v x:aB):eF 81 v x=ahG v x:=rfl
@[go_sem]theorem JX(W:ak)(b o:Nat)(h:xJ W b o 37):(tL (.c (some ⟨b,o,none⟩))).I ah W=.ok (.d (eu W b o 37)) W:=
 kg W b o 37 _ _ jW rfl (by kernel_rfl) h
@[go_sem]theorem apJ(W:ak)(c:Array aB)(x:Tu)(b:Nat)(hb:b=W.a.j)(hc:dZ c=37):
 (ahG (.c (some ⟨b,0,none⟩)) (.d x.ay)).I ah (W.alloc (.D c 81))=.ok () (W.alloc (.D x.ay 81)):=by
 subst hb;exact yV W _ c x.ay (by rw[Tu.G];kernel_rfl) (by rw[Tu.G];exact hc) (Tu.cK x)
def Tu.to0(t:Tu)(n:Int):Tu:={t with aP:=n}
def Tu.to1(t:Tu)(n:Int):Tu:={t with kV:=n}
def Tu.to2(t:Tu)(n:Int):Tu:={t with jR:=n}
theorem Tu.axI(t:Tu)(u:Int):t.ay.c 34 (.b .a u)=(t.to0 u).ay:=by
 refine Tu.aa2 (by simp[Tu.G]) ?_ ?_ ?_<;>intro j hj<;>rw[aa0 _ _ _ _ (by rw[Tu.G];omega)]
 ·rw[if_neg (by omega),Tu.Nc t j hj];rfl
 ·rw[if_neg (by omega),Tu.KX t j hj];rfl
 ·rcases(show j=0\/j=1\/j=2 by omega)with rfl|rfl|rfl
  ·rw[if_pos (by omega)];rfl
  ·rw[if_neg (by omega),Tu.BH t 1 (by omega)];rfl
  ·rw[if_neg (by omega),Tu.BH t 2 (by omega)];rfl
theorem Tu.axJ(t:Tu)(u:Int):t.ay.c 35 (.b .a u)=(t.to1 u).ay:=by
 refine Tu.aa2 (by simp[Tu.G]) ?_ ?_ ?_<;>intro j hj<;>rw[aa0 _ _ _ _ (by rw[Tu.G];omega)]
 ·rw[if_neg (by omega),Tu.Nc t j hj];rfl
 ·rw[if_neg (by omega),Tu.KX t j hj];rfl
 ·rcases(show j=0\/j=1\/j=2 by omega)with rfl|rfl|rfl
  ·rw[if_neg (by omega),Tu.BH t 0 (by omega)];rfl
  ·rw[if_pos (by omega)];rfl
  ·rw[if_neg (by omega),Tu.BH t 2 (by omega)];rfl
theorem Tu.ar2(t:Tu)(u:Int):t.ay.c 36 (.b .a u)=(t.to2 u).ay:=by
 refine Tu.aa2 (by simp[Tu.G]) ?_ ?_ ?_<;>intro j hj<;>rw[aa0 _ _ _ _ (by rw[Tu.G];omega)]
 ·rw[if_neg (by omega),Tu.Nc t j hj];rfl
 ·rw[if_neg (by omega),Tu.KX t j hj];rfl
 ·rcases(show j=0\/j=1\/j=2 by omega)with rfl|rfl|rfl
  ·rw[if_neg (by omega),Tu.BH t 0 (by omega)];rfl
  ·rw[if_neg (by omega),Tu.BH t 1 (by omega)];rfl
  ·rw[if_pos (by omega)];rfl
def fwT(x:Fw):Array aB:=#[.string (bK x.E),.b .a x.vT,.b .a x.seen,.b .a x.no]
def Fw.ay(x:Fw):Array aB:=x.key.ay++fwT x
theorem Fw.G(x:Fw):x.ay.j=41:=by simp[Fw.ay,fwT,Tu.G]
theorem Fw.axL(x:Fw)(j:Nat)(hj:j<37):x.ay[j]? = x.key.ay[j]?:=by
 unfold Fw.ay;rw[AJ _ _ 37 _ (Tu.G _),if_pos hj]
theorem Fw.BH(x:Fw)(j:Nat)(hj:j<4):x.ay[j+37]? = (fwT x)[j]?:=by
 unfold Fw.ay;rw[AJ _ _ 37 _ (Tu.G _),if_neg (by omega)];congr 1
@[go_sem]theorem Fw.Vv(x:Fw):x.ay[37]? = some (.string (bK x.E)):=Fw.BH x 0 (by omega)
@[go_sem]theorem Fw.afR(x:Fw):x.ay[38]? = some (.b .a x.vT):=Fw.BH x 1 (by omega)
@[go_sem]theorem Fw.aa3(x:Fw):x.ay[39]? = some (.b .a x.seen):=Fw.BH x 2 (by omega)
@[go_sem]theorem Fw.Vw(x:Fw):x.ay[40]? = some (.b .a x.no):=Fw.BH x 3 (by omega)
theorem Fw.cK(x:Fw):x.ay.all (·.h)=true:=gW (Tu.cK _) (by simp[fwT,cB])
@[go_sem]theorem Fw.dZ(x:Fw):dZ x.ay=41:=Fw.G x
@[go_sem]theorem Fw.j5(x:Fw):x.ay.m 0 41=x.ay:=by
 have:=Fw.G x;rw[<-this];simp
def LA(v:aB):xE aB:=bZ 86 v
def aa4(v x:aB):xE Unit:=eF 86 v x
@[go_sem ↓]theorem av'(v:aB):bZ 86 v=LA v:=rfl
@[go_sem ↓]theorem atC(v x:aB):eF 86 v x=aa4 v x:=rfl
@[go_sem]theorem aa5(W:ak)(b o:Nat)(h:xJ W b o 41):(LA (.c (some ⟨b,o,none⟩))).I ah W=.ok (.d (eu W b o 41)) W:=
 kg W b o 41 _ _ mV rfl (by kernel_rfl) h
@[go_sem]theorem apK(W:ak)(c:Array aB)(x:Fw)(b:Nat)(hb:b=W.a.j)(hc:dZ c=41):
 (aa4 (.c (some ⟨b,0,none⟩)) (.d x.ay)).I ah (W.alloc (.D c 86))=.ok () (W.alloc (.D x.ay 86)):=by
 subst hb;exact yV W _ c x.ay (by rw[Fw.G];kernel_rfl) (by rw[Fw.G];exact hc) (Fw.cK x)
def Av(W:ak)(b o:Nat)(x:Fw):ak:=W.setCells b o x.ay.a
@[go_sem]theorem axM(W:ak)(b o:Nat)(x:Fw)(h:W.O b o 41):(aa4 (.c (some ⟨b,o,none⟩)) (.d x.ay)).I ah W=.ok () (Av W b o x):=
 D8 W b o _ x.ay (by rw[Fw.G];exact h) (by rw[Fw.G];kernel_rfl) (Fw.cK x)
theorem afS:∃i:nJ,ah.l 86=some i/\i.zero=some (.d jq.ay)/\i.j=41/\i.bytes<=400:=by
 cases h:ah.l 86 with
 | none=>exact absurd h (by have:(ah.l 86).isSome=true:=by kernel_rfl
                            intro e;rw[e]at this;cases this)
 | some i=>
   have h1:(ah.l 86).map (·.j)=some 41:=by kernel_rfl
   have h2:(ah.l 86).map (fun i=>decide (i.bytes<=400))=some true:=by kernel_rfl
   have h3:(ah.l 86).map (·.zero)=some (some (.d jq.ay)):=by kernel_rfl
   rw[h]at h1 h2 h3;simp at h1 h2 h3;exact⟨i,rfl,h3,h1,h2⟩
def atD(ps:Array (Nat×aB)):xE aB:=fI 86 ps
@[go_sem ↓]theorem aAK(ps:Array (Nat×aB)):fI 86 ps=atD ps:=rfl
def ar3(n:Nat)(ps:Array (Nat×aB)):xE aB:=bI 34 n ps
@[go_sem ↓]theorem axN(n:Nat)(ps:Array (Nat×aB)):bI 34 n ps=ar3 n ps:=rfl
@[go_sem]theorem awc(w:ak)(x:Fw):(ar3 1 #[(0,.d x.ay)]).I ah w=.ok (.a (some ⟨w.a.j,0,none⟩) 1 1) (w.alloc (.D x.ay 86)):=by
 obtain⟨i0,hi0,hz0,hz1,hzb⟩:=afS;exact rR w _ _ i0 (.d jq.ay) 41 Tryz.underlying34 hi0 hz0 hz1 (Fw.G jq) (by omega) (by omega) x.ay (Fw.G x)
@[go_sem]theorem atE:eD #[bL false,aA,aA,aA,aA,aA,aA,aA,aA,aA,aA,aA,aA,aA,aA,aA,aA,bL false,aA,aA,aA,aA,aA,aA,aA,aA,aA,aA,aA,aA,aA,aA,aA,aA,bg,bg,bg] 81=eD aff.ay 81:=rfl
@[go_sem]theorem atF:eD #[bL false,aA,aA,aA,aA,aA,aA,aA,aA,aA,aA,aA,aA,aA,aA,aA,aA,bL false,aA,aA,aA,aA,aA,aA,aA,aA,aA,aA,aA,aA,aA,aA,aA,aA,bg,bg,bg,ig {data:=#[]},bg,bg,bg] 86=eD jq.ay 86:=rfl
@[go_sem]theorem axO:bY #[bL false,aA,aA,aA,aA,aA,aA,aA,aA,aA,aA,aA,aA,aA,aA,aA,aA,bL false,aA,aA,aA,aA,aA,aA,aA,aA,aA,aA,aA,aA,aA,aA,aA,aA,bg,bg,bg]=bY aff.ay:=rfl
@[go_sem]theorem axP:bY #[bL false,aA,aA,aA,aA,aA,aA,aA,aA,aA,aA,aA,aA,aA,aA,aA,aA,bL false,aA,aA,aA,aA,aA,aA,aA,aA,aA,aA,aA,aA,aA,aA,aA,aA,bg,bg,bg,ig {data:=#[]},bg,bg,bg]=bY jq.ay:=rfl
theorem pF{W:ak}{b:Nat}{t:Tu}(h:dJ W b t.ay):(tL (.c (some ⟨b,0,none⟩))).I ah W=.ok (.d t.ay) W:=by
 obtain⟨_,_,h3,h4⟩:=h.K;rw[JX _ _ _ (by rw[h3 0 37 (by rw[Tu.dZ];omega)];trivial),h4 0 37 (by rw[Tu.dZ];omega),Tu.j5]
theorem adB(c:Nat)(w:ak):aQ ah 262 #[.b .b c] w fun e w'=>e=.a (.e ((c:Int) != 0))/\w=w':=by
 go_enter Tryz.func262,Tryz.ntmps262;go_wp2;go_ret;exact⟨rfl,rfl⟩
theorem Vx(args:Array aB)(w:ak):(callFunc 262 args).I ah w=.ok (.enter 262 args) w:=by kernel_rfl
theorem amm(a:fu)(b o c:Nat)(w:ak)(hc:∀j,j<12->w.b ⟨b,o+j,none⟩=some (.b .b ((a.at_ (4+j)).e:Nat))):
 aQ ah 260 #[.a (some ⟨b,o,none⟩) 12 c,.func (.func 262) #[] #[]] w fun e w'=>∃r:Int,e=.a (.b .a r)/\(decide (0<=r) = !a.mJ)/\w=w':=by
 have hen:=Vx;have HC:=ab hc;clear hc;go_enter Tryz.func260,Tryz.ntmps260;go_wp2;go_loop [8] (fun s8=>∃i:Nat,i<=12/\s8=.b .a i/\∀j,4<=j->j<4+i->a.at_ j=0) (fun s8=>12-(intOf s8).e)
 case atStart=>exact⟨0,by omega,rfl,fun j h1 h2=>by omega⟩
 case round=>
  obtain⟨i,hi,rfl,hall⟩:=hrel;have HA:=ab hall;clear hall;by_cases hlt:i<12
  ·have hin:(i:Int)<12:=by omega
   have hcell:=HC.i i hlt;have hz:((a.at_ (4+i)).e:Int)=0↔a.at_ (4+i)=0:=by
    constructor
    ·intro h;apply lY.1;have:(0:UInt8).e=0:=rfl;omega
    ·intro h;rw[h];rfl
   have HZ:=ab hz;clear hz;obtain⟨n,hn⟩:∃n:Nat,n=(a.at_ (4+i)).e:=⟨_,rfl⟩
   rw[<-hn]at hcell HZ;clear hn;by_cases h0:n=0
   ·have h1:((n:Int) != 0)=false:=by rw[h0];rfl
    have hz0:a.at_ (4+i)=0:=HZ.i.1 (by omega);have HZ0:=ab hz0;clear hz0 h0;go_wp2_with (go_at_call 262;refine(adB n _).g ?_;rintro e w' ⟨rfl,rfl⟩);go_round
    case rel=>exact⟨i+1,by omega,by go_num,fun j h1 h2=>by
     by_cases hji:j=4+i
     ·rw[hji];exact HZ0.i
     ·exact HA.i j h1 (by omega)⟩
    case measure=>simp[intOf]<;>omega
   ·have h1:((n:Int) != 0)=true:=by rw[bne_iff_ne];omega
    have hno:a.mJ=false:=fu.Ux (i:=4+i) (by omega) (by omega) (fun h=>h0 (by have:=HZ.i.2 h;omega));have Ea:=ab hno;clear hno h0;go_wp2_with (go_at_call 262;refine(adB n _).g ?_;rintro e w' ⟨rfl,rfl⟩);go_ret;exact⟨_,rfl,by rw[Ea.i];simp,rfl⟩
  ·obtain rfl:i=12:=by omega
   have hs:a.mJ=true:=a.JN.2 HA.i;have HS:=ab hs;clear hs;go_wp2;go_ret;exact⟨_,rfl,by rw[HS.i];simp,rfl⟩
theorem amn(a:fu)(b o c:Nat)(w:ak)(hc:∀j,j<12->w.b ⟨b,o+j,none⟩=some (.b .b ((a.at_ (4+j)).e:Nat))):
 aQ ah 189 #[.a (some ⟨b,o,none⟩) 12 c,.func (.func 262) #[] #[]] w fun e w'=>e=.a (.e (!a.mJ))/\w=w':=by
 have HC:=ab hc;clear hc;go_enter Tryz.func189,Tryz.ntmps189;go_wp2_with (go_at_call 260;refine(amm a b o c _ HC.i).g ?_;rintro e w' ⟨r,rfl,hr,rfl⟩);go_ret;exact⟨by simp,rfl⟩
theorem fu.qE(a:fu):qE a=(a.h||a.mJ):=rfl
theorem I5(a:fu)(w:ak):aQ ah 193 #[.d a.ay] w (gM w (.e (qE a))):=by
 have HB:=ab ((aH w.a.j w).alloc (av _) (.D a.ay 27));have HT:=ab (show∀j,j<12->(w.alloc (.D a.ay 27)).b ⟨w.a.j,5+j,none⟩=some (.b .b ((a.at_ (4+j)).e:Nat))from fun j hj=>by
  rw[mQ,show 5+j=(4+j)+1 by omega];exact fu.Eo a (4+j) (by omega))
 have HK:=ab (fu.qE a);cases h6:a.h
 ·have H6:=ab h6
  obtain⟨K,hK⟩:=sH a.mJ;have HKK:=ab hK;clear hK;go_enter Tryz.func193,Tryz.ntmps193;go_wp2_with fail;refine(amn a _ 5 _ _ HT.i).g ?_;rintro e w' ⟨rfl,rfl⟩;rw[HKK.i];cases K
  all_goals
   go_wp2;go_ret;exact⟨by rw[HK.i,HKK.i,H6.i];rfl,HB.i⟩
 ·have H6:=ab h6
  go_enter Tryz.func193,Tryz.ntmps193;go_wp2;go_ret;exact⟨by rw[HK.i,H6.i];rfl,HB.i⟩
@[go_sem]theorem Tu.ajg(t:Tu):t.ay.m 0 17=t.h.ay:=by
 apply dW;intro j;rcases aZ j 17 with h|h
 ·rw[nV t.ay 0 17 j h (by rw[Tu.G];omega),bl,Tu.Nc t j h]
 ·rw[aU (by rw[jE,Tu.G];omega),aU (by rw[fu.G];exact h)]
@[go_sem]theorem Tu.ajh(t:Tu):t.ay.m 17 34=t.Y.ay:=by
 apply dW;intro j;rcases aZ j 17 with h|h
 ·rw[show(34:Nat)=17+17 from rfl,nV t.ay 17 17 j h (by rw[Tu.G];omega),uG,Tu.KX t j h]
 ·rw[aU (by rw[jE,Tu.G];omega),aU (by rw[fu.G];exact h)]
@[go_sem]theorem Fw.Dl(x:Fw):x.ay.m 0 37=x.key.ay:=by
 apply dW;intro j;rcases aZ j 37 with h|h
 ·rw[nV x.ay 0 37 j h (by rw[Fw.G];omega),bl,Fw.axL x j h]
 ·rw[aU (by rw[jE,Fw.G];omega),aU (by rw[Tu.G];exact h)]
theorem SX(t:Tu):FP t=(decide (t.h.h=t.Y.h)&&qE t.h&&qE t.Y&&(decide (0<=t.aP)&&decide (t.aP<=255))&&(decide (0<=t.kV)&&decide (t.kV<=65535))&&(decide (0<=t.jR)&&decide (t.jR<=65535))):=rfl
theorem JY(t:Tu)(w:ak):aQ ah 115 #[.d t.ay] w (gM w (.e (FP t))):=by
 have HB0:=ab ((aH w.a.j w).alloc (av _) (.D t.ay 81));have B0:=ab (dJ.new w t.ay 81);obtain⟨x1,x2,x3,x4⟩:=B0.i.K;have hl0:=B0.i.lt;obtain⟨K1,h1⟩:∃K,qE t.h=K:=⟨_,rfl⟩
 obtain⟨K2,h2⟩:∃K,qE t.Y=K:=⟨_,rfl⟩
 have SI:=ab h1;have HS2:=ab h2;clear h1 h2;obtain⟨s6,h6⟩:∃s,t.h.h=s:=⟨_,rfl⟩
 obtain⟨d6,g6⟩:∃s,t.Y.h=s:=⟨_,rfl⟩
 by_cases he:s6=d6;rotate_left
 ·have HE:=ab (show¬t.h.h=t.Y.h by rw[h6,g6];exact he)
  have hne:(s6==d6)=false:=by simpa using he
  clear he;go_enter Tryz.func115,Tryz.ntmps115;go_wp2;go_ret;exact⟨by rw[SX];simp[HE.i]<;>omega,HB0.i⟩
 have HE:=ab (show t.h.h=t.Y.h by rw[h6,g6];exact he);have hne:(s6==d6)=true:=by simpa using he
 clear he;cases K1
 ·skip
  go_enter Tryz.func115,Tryz.ntmps115;go_wp2_with fail;refine(I5 t.h _).g ?_;rintro e w1 ⟨rfl,hb1⟩;rw[SI.i];have B1:=ab (B0.i.go hb1);have HB1:=ab (gV HB0.i hb1);obtain⟨y1,y2,y3,y4⟩:=B1.i.K;have hl1:=B1.i.lt;clear hb1;go_wp2;go_ret;exact⟨by rw[SX];simp[HE.i,SI.i]<;>omega,HB1.i⟩
 cases K2
 ·skip
  go_enter Tryz.func115,Tryz.ntmps115;go_wp2_with fail;refine(I5 t.h _).g ?_;rintro e w1 ⟨rfl,hb1⟩;rw[SI.i];have B1:=ab (B0.i.go hb1);have HB1:=ab (gV HB0.i hb1);obtain⟨y1,y2,y3,y4⟩:=B1.i.K;have hl1:=B1.i.lt;clear hb1;go_wp2_with fail;refine(I5 t.Y _).g ?_;rintro e w2 ⟨rfl,hb2⟩;rw[HS2.i];have B2:=ab (B1.i.go hb2);have HB2:=ab (gV HB1.i hb2);obtain⟨z1,z2,z3,z4⟩:=B2.i.K;have hl2:=B2.i.lt;clear hb2 y1 y2 y3 y4 hl1;go_wp2;go_ret;exact⟨by rw[SX];simp_all[HE.i,SI.i,HS2.i]<;>omega,HB2.i⟩
 go_enter Tryz.func115,Tryz.ntmps115;go_wp2_with fail;refine(I5 t.h _).g ?_;rintro e w1 ⟨rfl,hb1⟩;rw[SI.i];have B1:=ab (B0.i.go hb1);have HB1:=ab (gV HB0.i hb1);obtain⟨y1,y2,y3,y4⟩:=B1.i.K;have hl1:=B1.i.lt;clear hb1;go_wp2_with fail;refine(I5 t.Y _).g ?_;rintro e w2 ⟨rfl,hb2⟩;rw[HS2.i];have B2:=ab (B1.i.go hb2);have HB2:=ab (gV HB1.i hb2);obtain⟨z1,z2,z3,z4⟩:=B2.i.K;have hl2:=B2.i.lt;clear hb2 y1 y2 y3 y4 hl1;by_cases p0:0<=t.aP;by_cases p1:t.aP<=255;by_cases p2:0<=t.kV;by_cases p3:t.kV<=65535;by_cases p4:0<=t.jR;by_cases p5:t.jR<=65535
 all_goals
  go_wp2;go_ret;exact⟨by rw[SX];simp_all[HE.i,SI.i,HS2.i]<;>omega,HB2.i⟩
theorem aa6(x:Fw):zU x=(FP x.key&&uR x.E&&decide (1<=x.vT)&&decide (x.vT<=5)&&(decide (0<=x.seen)&&decide (x.seen<=1099511627776))&&(decide (0<=x.no)&&decide (x.no<=1152921504606846976))):=rfl
theorem KY(x:Fw)(w:ak)(hn:x.E.a<=9223372036854775807):aQ ah 48 #[.d x.ay] w (gM w (.e (zU x))):=by
 have HB0:=ab ((aH w.a.j w).alloc (av _) (.D x.ay 86));have B0:=ab (dJ.new w x.ay 86);obtain⟨x1,x2,x3,x4⟩:=B0.i.K;have hl0:=B0.i.lt;obtain⟨K1,h1⟩:∃K,FP x.key=K:=⟨_,rfl⟩
 obtain⟨K2,h2⟩:∃K,uR x.E=K:=⟨_,rfl⟩
 have SI:=ab h1;have HS2:=ab h2;clear h1 h2;cases K1
 ·skip
  go_enter Tryz.func48,Tryz.ntmps48;go_wp2_with fail;refine(JY x.key _).g ?_;rintro e w1 ⟨rfl,hb1⟩;rw[SI.i];have B1:=ab (B0.i.go hb1);have HB1:=ab (gV HB0.i hb1);obtain⟨y1,y2,y3,y4⟩:=B1.i.K;have hl1:=B1.i.lt;clear hb1;go_wp2;go_ret;exact⟨by rw[aa6];simp[SI.i]<;>omega,HB1.i⟩
 cases K2
 ·skip
  go_enter Tryz.func48,Tryz.ntmps48;go_wp2_with fail;refine(JY x.key _).g ?_;rintro e w1 ⟨rfl,hb1⟩;rw[SI.i];have B1:=ab (B0.i.go hb1);have HB1:=ab (gV HB0.i hb1);obtain⟨y1,y2,y3,y4⟩:=B1.i.K;have hl1:=B1.i.lt;clear hb1;go_wp2_with fail;refine(Ul x.E _ hn).g ?_;rintro e w2 ⟨rfl,hb2⟩;rw[HS2.i];have B2:=ab (B1.i.go hb2);have HB2:=ab (gV HB1.i hb2);obtain⟨z1,z2,z3,z4⟩:=B2.i.K;have hl2:=B2.i.lt;clear hb2 y1 y2 y3 y4 hl1;go_wp2;go_ret;exact⟨by rw[aa6];simp_all[SI.i,HS2.i]<;>omega,HB2.i⟩
 go_enter Tryz.func48,Tryz.ntmps48;go_wp2_with fail;refine(JY x.key _).g ?_;rintro e w1 ⟨rfl,hb1⟩;rw[SI.i];have B1:=ab (B0.i.go hb1);have HB1:=ab (gV HB0.i hb1);obtain⟨y1,y2,y3,y4⟩:=B1.i.K;have hl1:=B1.i.lt;clear hb1;go_wp2_with fail;refine(Ul x.E _ hn).g ?_;rintro e w2 ⟨rfl,hb2⟩;rw[HS2.i];have B2:=ab (B1.i.go hb2);have HB2:=ab (gV HB1.i hb2);obtain⟨z1,z2,z3,z4⟩:=B2.i.K;have hl2:=B2.i.lt;clear hb2 y1 y2 y3 y4 hl1;by_cases p0:1<=x.vT;by_cases p1:x.vT<=5;by_cases p2:0<=x.seen;by_cases p3:x.seen<=1099511627776;by_cases p4:0<=x.no;by_cases p5:x.no<=1152921504606846976
 all_goals
  go_wp2;go_ret;exact⟨by rw[aa6];simp_all[SI.i,HS2.i]<;>omega,HB2.i⟩
structure Yb where
 A:Option aS
 n:Nat
 c:Nat
deriving DecidableEq
structure Sh where
 Y:Int
 b:Yb
 h:Yb
 f:Yb
 gF:Int
 no:Int
 lW:Vector Int 11
deriving DecidableEq
def shT(x:Sh):Array aB:=#[.b .a x.Y,.a x.b.A x.b.n x.b.c,.a x.h.A x.h.n x.h.c,.a x.f.A x.f.n x.f.c,.b .a x.gF,.b .a x.no]
def yH(v:Vector Int 11):Array aB:=(v.a.map (aI .a)).c
def Sh.ay(x:Sh):Array aB:=shT x++yH x.lW
theorem jY(v:Vector Int 11):(yH v).j=11:=by simp[yH]
theorem Sh.G(x:Sh):x.ay.j=17:=by simp[Sh.ay,shT,jY]
theorem Sh.Vy(x:Sh)(j:Nat)(hj:j<6):x.ay[j]? = (shT x)[j]?:=by unfold Sh.ay;rw[AJ _ _ 6 _ rfl,if_pos hj]
theorem Vz(v:Vector Int 11)(j:Nat)(hj:j<11):(yH v)[j]? = some (.b .a (v.a.b j 0)):=by
 simp[yH,eB,hj,au]
theorem Sh.ahH(x:Sh)(j:Nat)(hj:j<11):x.ay[6+j]? = some (.b .a (x.lW.a.b j 0)):=by
 unfold Sh.ay;rw[AJ _ _ 6 _ rfl,if_neg (by omega),kJ,Vz _ _ hj]
@[go_sem]theorem Sh.pW(x:Sh):x.ay[0]? = some (.b .a x.Y):=Sh.Vy x 0 (by omega)
@[go_sem]theorem Sh.GL(x:Sh):x.ay[1]? = some (.a x.b.A x.b.n x.b.c):=Sh.Vy x 1 (by omega)
@[go_sem]theorem Sh.Qr(x:Sh):x.ay[2]? = some (.a x.h.A x.h.n x.h.c):=Sh.Vy x 2 (by omega)
@[go_sem]theorem Sh.YG(x:Sh):x.ay[3]? = some (.a x.f.A x.f.n x.f.c):=Sh.Vy x 3 (by omega)
@[go_sem]theorem Sh.ahI(x:Sh):x.ay[4]? = some (.b .a x.gF):=Sh.Vy x 4 (by omega)
@[go_sem]theorem Sh.ahJ(x:Sh):x.ay[5]? = some (.b .a x.no):=Sh.Vy x 5 (by omega)
theorem amo(l:List Int):((l.map (aI .a)).c).all (·.h)=true:=by
 rw[Array.all_eq_true_iff_forall_mem];intro v hv;simp at hv;obtain⟨z,_,rfl⟩:=hv;rfl
theorem Sh.cK(x:Sh):x.ay.all (·.h)=true:=gW (by simp[shT,cB]) (amo _)
def Dm:Yb:=⟨none,0,0⟩
def I6:Sh:=⟨0,Dm,Dm,Dm,0,0,bF 11 0⟩
@[go_sem]theorem atG:eD #[bg,bC none 0 0,bC none 0 0,bC none 0 0,bg,bg,bg,bg,bg,bg,bg,bg,bg,bg,bg,bg,bg] 37=eD I6.ay 37:=rfl
@[go_sem]theorem axR:bY #[bg,bC none 0 0,bC none 0 0,bC none 0 0,bg,bg,bg,bg,bg,bg,bg,bg,bg,bg,bg,bg,bg]=bY I6.ay:=rfl
@[go_sem]theorem Sh.dZ(x:Sh):dZ x.ay=17:=Sh.G x
@[go_sem]theorem Sh.j5(x:Sh):x.ay.m 0 17=x.ay:=by
 have:=Sh.G x;rw[<-this];simp
def afT(v:aB):xE aB:=bZ 37 v
def aa7(v x:aB):xE Unit:=eF 37 v x
@[go_sem ↓]theorem awd(v:aB):bZ 37 v=afT v:=rfl
@[go_sem ↓]theorem atH(v x:aB):eF 37 v x=aa7 v x:=rfl
@[go_sem]theorem aAL(W:ak)(b o:Nat)(h:xJ W b o 17):(afT (.c (some ⟨b,o,none⟩))).I ah W=.ok (.d (eu W b o 17)) W:=
 kg W b o 17 _ _ rY rfl (by kernel_rfl) h
@[go_sem]theorem apL(W:ak)(c:Array aB)(x:Sh)(b:Nat)(hb:b=W.a.j)(hc:dZ c=17):
 (aa7 (.c (some ⟨b,0,none⟩)) (.d x.ay)).I ah (W.alloc (.D c 37))=.ok () (W.alloc (.D x.ay 37)):=by
 subst hb;exact yV W _ c x.ay (by rw[Sh.G];kernel_rfl) (by rw[Sh.G];exact hc) (Sh.cK x)
def amq(W:ak)(b o:Nat)(x:Sh):ak:=W.setCells b o x.ay.a
@[go_sem]theorem axS(W:ak)(b o:Nat)(x:Sh)(h:W.O b o 17):(aa7 (.c (some ⟨b,o,none⟩)) (.d x.ay)).I ah W=.ok () (amq W b o x):=
 D8 W b o _ x.ay (by rw[Sh.G];exact h) (by rw[Sh.G];kernel_rfl) (Sh.cK x)
theorem atI:∃i:nJ,ah.l 37=some i/\i.zero=some (.d I6.ay)/\i.j=17/\i.bytes<=400:=by
 cases h:ah.l 37 with
 | none=>exact absurd h (by have:(ah.l 37).isSome=true:=by kernel_rfl
                            intro e;rw[e]at this;cases this)
 | some i=>
   have h1:(ah.l 37).map (·.j)=some 17:=by kernel_rfl
   have h2:(ah.l 37).map (fun i=>decide (i.bytes<=400))=some true:=by kernel_rfl
   have h3:(ah.l 37).map (·.zero)=some (some (.d I6.ay)):=by kernel_rfl
   rw[h]at h1 h2 h3;simp at h1 h2 h3;exact⟨i,rfl,h3,h1,h2⟩
def atJ(ps:Array (Nat×aB)):xE aB:=fI 37 ps
@[go_sem ↓]theorem aAM(ps:Array (Nat×aB)):fI 37 ps=atJ ps:=rfl
theorem YW(w:ak)(fs:Array nS)(h:ah.k 37=some (.d fs)):(iB (fun f=>Prod.mk f.Z <$> sizeOf f.p) fs:xE (Array (Nat×Nat))).I ah w=.ok #[(0,2),(2,1),(3,1),(4,1),(5,1),(6,11)] w:=by
 have e:=rY;rw[h]at e;cases e;show _=_
 kernel_rfl
@[go_sem]theorem atK(w:ak):(atJ #[]).I ah w=.ok (.d I6.ay) w:=by
 obtain⟨i0,hi0,hz0,_,_⟩:=atI;exact OB w _ _ i0 I6.ay _ _ _ rY hi0 hz0 (YW w _ rY) rfl
@[go_sem]theorem Sh.AL(x:Sh):x.ay.m 0 2 = #[.b .a x.Y,.a x.b.A x.b.n x.b.c]:=by
 apply dW;intro j;rcases aZ j 2 with h|h
 ·rw[nV x.ay 0 2 j h (by rw[Sh.G];omega),bl,Sh.Vy x j (by omega)]
  rcases(show j=0\/j=1 by omega)with rfl|rfl<;>rfl
 ·rw[aU (by rw[jE,Sh.G];omega),aU (by simp;omega)]
@[go_sem]theorem Sh.ar4(x:Sh):x.ay.m 6 17=yH x.lW:=by
 apply dW;intro j;rcases aZ j 11 with h|h
 ·rw[show(17:Nat)=6+11 from rfl,nV x.ay 6 11 j h (by rw[Sh.G];omega),Sh.ahH x j h,Vz _ _ h]
 ·rw[aU (by rw[jE,Sh.G];omega),aU (by rw[jY];exact h)]
structure StR(w:ak)(B:Nat)(x:Sh)(s:pG):Prop where
 Y:x.Y=s.Y
 b:gX Bk.ay 27 w B x.b.A x.b.n s.qU
 h:gX Hl.ay 3 w B x.h.A x.h.n s.G
 f:gX Fw.ay 41 w B x.f.A x.f.n s.h
 gF:x.gF=s.gF
 no:x.no=s.no
 lW:x.lW=s.lW
 rF:∀y∈s.qU,y.rF
 amr:∀y∈s.G,y.E.a<=9223372036854775807
 ahK:∀y∈s.h,y.E.a<=9223372036854775807
 nb:x.b.n<=4611686018427387903
 nh:x.h.n<=4611686018427387903
 nf:x.f.n<=4611686018427387903
theorem StR.go{w w':ak}{x:Sh}{s:pG}(h:StR w w.a.j x s)(hb:aL w.a.j w w'):StR w' w'.a.j x s:=⟨h.Y,h.b.go hb,h.h.go hb,h.f.go hb,h.gF,h.no,h.lW,h.rF,h.amr,h.ahK,h.nb,h.nh,h.nf⟩
def ams(v:aB):xE aB:=bZ 35 v
@[go_sem ↓]theorem awe(v:aB):bZ 35 v=ams v:=rfl
@[go_sem]theorem aAN(W:ak)(b o:Nat)(h:xJ W b o 11):(ams (.c (some ⟨b,o,none⟩))).I ah W=.ok (.d (eu W b o 11)) W:=
 kg W b o 11 _ _ Fj rfl (by kernel_rfl) h
theorem afU(l:List Bk)(hf:∀x∈l,x.rF)(v:Int)(A:Option aS)(n c:Nat)(w:ak)(hR:gX Bk.ay 27 w w.a.j A n l)(hn:n<=4611686018427387903)(K:Bool)(hK:xW v l=K):
 aQ ah 45 #[.d #[.b .a v,.a A n c]] w (gM w (.e K)):=by
 subst hK;obtain rfl:=hR.1;exact XJ l hf v A c w hR (by omega)
theorem gX.fw{W:ak}{B n:Nat}{A:Option aS}{l:List Fw}{k:Nat}(h:gX Fw.ay 41 W B A n l)(hk:k<n):∃b o,A=some ⟨b,o,none⟩/\b<B/\xJ W b (o+k*41) 41/\eu W b (o+k*41) 41=(l.b k jq).ay:=gX.at_ Fw.G jq h hk
section
variable {P:eG}
theorem VD{w:ak}{ops:Array iU}{rest:List iU}{o:iU}{a:qQ}{Q:zR->qQ->ak->Prop}(hgd:o.guard=none)(s x:pI)(t tn:bM)
 (ho:o.op=.call {callee:=.builtin .append,args:=#[s,x],argTypes:=#[t,tn]}) (u v r:aB) (hs:a.eval s=u) (hx:a.eval x=v) (w2:ak)
 (hrun:∀ty,(zZ #[t,tn] ty #[u,v]).I P w=.ok r w2) (h:wpList P ops Q rest (a.put o.Y r) w2):wpList P ops Q (o::rest) a w:=by
 refine sS hgd fun K hK=>?_
 unfold ni;simp[execOp,ho,resolve,invoke,builtin,hs,hx,hrun,iD];exact hK _ _ h
end
theorem amt(k:Nat)(hk:k<=1000000000)(w:ak):
 aQ ah 253 #[.a none 0 0,.b .a k] w fun e w'=>∃v,e=.a v/\w'.c w.a.j 5 1 v 0 []/\aL w.a.j w w':=by
 obtain⟨i0,hi0,hz0,hz1,hz2⟩:=Ci Lh;rcases Nat.eq_zero_or_pos k with h0|h0
 ·subst h0
  go_enter Tryz.func253,Tryz.ntmps253;go_wp2;go_ret;exact⟨_,rfl,eY _ _ _ _,aH _ _⟩
 ·have hrun:=fun ty=>Lib.run_append_grow_zeros (P:=ah) w 56 3 ty 5 i0 (.b .b 0) .a .a dx gQ hi0 hz0 none 0 0 [] (by simp[tT]) k h0 (by omega) (by omega) (by omega) (by rw[hz2];omega) (growslice_fits (by omega) (by rw[hz2];omega))
  have hge:=grownCap_ge w (0+k) 0 5;have hle:=grownCap_le_maxLen w (0+k) 0 5 (by unfold maxLen;omega);rw[bl]at hrun hge hle;obtain⟨cap,hcap⟩:=sH (grownCap w k 0 5);rw[hcap]at hrun hge hle;obtain⟨cells,hcells⟩:=dw (([]:List aB).c++nR (aI .b 0).D k++nR (aI .b 0).D (cap-k));have hsz:cells.j=cap*1:=by
   rw[hcells];simp only[nU,dK,gH,size_zeroCells,show(aI .b 0).D.j=1 from rfl];omega
  rw[<-hcells]at hrun;have O1:=ab (World.ownsRow_made w.drew cells cap (base:=w.a.j) (e:=5) (size:=1) (av _) hle hsz);have hc0:(0:Int)<=(cap:Int):=by omega
  have aID:¬cap=0:=by omega
  have hle2:(cap:Int)<=9223372036854775807:=by unfold maxLen at hle;omega
  have aCB:=ab hrun;clear hcells hcap hsz hle hrun;go_enter Tryz.func253,Tryz.ntmps253;go_wp2_with (at_builtin;refine VD rfl (.tmp 20) (.tmp 21) _ _ rfl (.a none 0 0) (.b .a k) _ rfl rfl _ aCB.i ?_);go_ret;exact⟨_,rfl,O1.i,((aH w.a.j w).drew).alloc (av _) _⟩
def amu(x:Yb):Array aB:=#[.a x.A x.n x.c]
theorem YX(x:Yb):(amu x).j=1:=rfl
abbrev RdS:=gX amu 1
def yI(l:List Yb):Nat:=(l.map (·.n)).sum
theorem Pq(l:List Yb)(i:Nat)(hi:i<l.a):yI (l.d (i+1))=yI (l.d i)+(l.b i Dm).n:=by
 rw[<-oD Dm l i hi];simp[yI]
theorem aa8(l:List Yb)(i:Nat):yI (l.d i)<=yI l:=by
 unfold yI
 conv=>rhs;rw[<-iF i l,je,List.sum_append]
 omega
def Nf(W:ak)(B:Nat)(l:List Yb)(bss:List (List UInt8)):Prop:=l.a=bss.a/\∀i,i<l.a->gq W B (l.b i Dm).A (l.b i Dm).n (bss.b i [])
theorem YZ(l:List (List UInt8))(i:Nat)(hi:i<l.a):(l.d (i+1)).flatten=(l.d i).flatten++l.b i []:=by
 rw[<-oD [] l i hi];simp
theorem VE{W:ak}{B:Nat}{l:List Yb}{bss:List (List UInt8)}(h:Nf W B l bss)(i:Nat)(hi:i<=l.a):(bss.d i).flatten.a=yI (l.d i):=by
 induction i with
 | zero=>simp[yI]
 | succ i ih=>
   have h1:=(h.2 i (by omega)).len;rw[YZ bss i (by have:=h.1;omega),aR,ih (by omega),Pq l i (by omega),h1]
def atL(bss:List (List UInt8))(w:ak)(e:lq)(w':ak):Prop:=∃v,e=.a v/\w'.c w.a.j 5 1 v bss.flatten.a (bss.flatten.map bv)/\aL w.a.j w w'
theorem apM{w wr:ak}{A':Option aS}{m c' j:Nat}{bss:List (List UInt8)}(ho:wr.c w.a.j 5 1 (.a A' m c') m ((bss.d j).flatten.map bv))(hf:bss.d j=bss)(hb:aL w.a.j w wr):atL bss w (.a (.a A' m c')) wr:=by
 rw[hf]at ho;have h2:=ho.1;rw[bQ,gB]at h2;refine⟨_,rfl,?_,hb⟩;rw[h2];exact ho
theorem LC(l:List Yb)(bss:List (List UInt8))(A:Option aS)(n c:Nat)(w:ak)(hR:RdS w w.a.j A n l)(hH:Nf w w.a.j l bss)(hn:n<=1000)(hs:yI l<=1000000000):
 aQ ah 181 #[.a A n c] w (atL bss w):=by
 obtain⟨i0,hi0,hz0,hz1,hz2⟩:=Ci Lh;have HR:=ab hR;have HH:=ab hH;have HN:=ab hR.1;have HS:=ab hs;clear hR hH;go_enter Tryz.func181,Tryz.ntmps181;go_wp2;go_loop [3,11] (fun s3 s11=>∃i:Nat,i<=n/\s11=.b .a i/\s3=.b .a (yI (l.d i):Nat)) (fun _ s11=>n-(intOf s11).e)
 case atStart=>exact⟨0,by omega,rfl,rfl⟩
 case round=>
  obtain⟨i,hi,rfl,rfl⟩:=hrel;by_cases hlt:i<n
  ·have hlt2:(i:Int)<n:=by omega
   obtain⟨b,o,rfl,hbb,hcell⟩:=gX.cell YX Dm HR.i hlt;have hc0:=hcell 0 (by omega);have hst:=Pq l i (by rw[HN.i];exact hlt);have hsl:=aa8 l (i+1);obtain⟨y,hy⟩:=sH (l.b i Dm);rw[hy]at hc0 hst;have hc1:w.b ⟨b,o+i,none⟩=some (.a y.A y.n y.c):=by simpa[amu]using hc0
   obtain⟨z,hz⟩:=sH (yI (l.d i));have hzb:z+y.n<=1000000000:=by have:=HS.i;omega
   rw[hz]at hst ⊢;have HST:=ab hst;clear hcell hc0 hy hz hst hsl;go_wp2;go_round
   case rel=>exact⟨i+1,by omega,by go_num,by rw[HST.i];go_num⟩
   case measure=>simp[intOf]<;>omega
  ·have hge:¬(i:Int)<n:=by omega
   have HT:=ab (show yI (l.d i)=yI l by rw[aK (by rw[HN.i];omega)]);obtain⟨z,hz⟩:=sH (yI (l.d i));rw[hz]at HT ⊢;have hzb:z<=1000000000:=by rw[HT.i];exact HS.i
   clear hz;go_wp2_with fail;refine(amt z hzb w).g ?_;rintro e w1 ⟨v,rfl,ho,hb⟩;obtain⟨A0,c0,rfl,_,_⟩:=jG ho;have O0:=ab ho;have B0:=ab hb;clear ho hb;go_wp2;go_loopw [6,27] (fun s6 s27 wr=>∃(j m:Nat)(A':Option aS)(c':Nat),j<=n/\s27=.b .a j/\s6=.a A' m c'/\wr.c w.a.j 5 1 (.a A' m c') m ((bss.d j).flatten.map bv)/\aL w.a.j w wr) (fun _ s27 _=>n-(intOf s27).e)
   case atStart=>exact⟨0,0,A0,c0,by omega,rfl,rfl,O0.i,B0.i⟩
   case round=>
    obtain⟨j,m,A',c',hj,rfl,rfl,ho,hb⟩:=hrel;have HO:=ab ho;have HB:=ab hb;have HM:=ab (show m<=1000000000 by
     have h1:=ho.1;rw[bQ,VE HH.i j (by rw[HN.i];exact hj)]at h1;have:=aa8 l j;have:=HS.i;omega)
    clear ho hb;by_cases hlt:j<n
    ·have hlt2:(j:Int)<n:=by omega
     obtain⟨b,o,rfl,hbb,hcell⟩:=gX.cell YX Dm (HR.i.to HB.i (av _)) hlt;have hc0:=hcell 0 (by omega);have hrd:=(HH.i.2 j (by rw[HN.i];exact hlt)).to HB.i (av _);have hst:=Pq l j (by rw[HN.i];exact hlt);have hsl:=aa8 l (j+1);have HFL:=ab (YZ bss j (by have:=HH.i.1;have:=HN.i;omega));have HML:=ab (show m=yI (l.d j)by have h1:=HO.i.1;rw[bQ,VE HH.i j (by rw[HN.i];exact hj)]at h1;omega);obtain⟨y,hy⟩:=sH (l.b j Dm);rw[hy]at hc0 hst hrd;have hc1:wr.b ⟨b,o+j,none⟩=some (.a y.A y.n y.c):=by simpa[amu]using hc0
     have HRD:=ab hrd;have Qz:=ab (show m+y.n<=maxLen by have:=HS.i;have:=HML.i;unfold maxLen;omega);have QA:=ab (show(m+y.n)*1<=140737488355328 by have:=HS.i;have:=HML.i;omega);have BS:=ab HB.i.j;have ON:=ab (JG (bss.b j []));have GR:=ab (fun w5 (hg:wr.d w5 (bC A' m c').f)=>show aL w.a.j w w5 from HB.i.grown hg HB.i.j (fun x hx=>(HO.i.lt x hx).1));clear hcell hc0 hy hst hsl hrd;go_wp2_with (at_builtin;refine ji _ rfl (.tmp 31) (.tmp 32) _ rfl w.a.j 5 i0 (.b .b 0) 1 1 dx hi0 hz0 hz1 hz2 rfl (av 1) (.a A' m c') m ((bss.d j).flatten.map bv) rfl HO.i w.a.j y.A y.n y.c ((bss.b j []).map bv) rfl HRD.i ON.i Qz.i QA.i BS.i ?_;intro v1 w5 hown1 hg1 wJ;have O5:=ab hown1;have G5:=ab (GR.i _ hg1);clear hown1 hg1 wJ);obtain⟨A5,c5,rfl,_,_⟩:=jG O5.i;go_roundw
     case rel=>exact⟨j+1,m+y.n,A5,c5,by omega,by go_num,rfl,by rw[HFL.i,je];exact O5.i,G5.i⟩
     case measure=>simp[intOf]<;>omega
    ·have aIE:¬(j:Int)<n:=by omega
     have HF:=ab (show bss.d j=bss from aK (by have:=HH.i.1;have:=HN.i;omega));go_wp2;go_ret;exact apM HO.i HF.i HB.i
structure Ow(B:Nat)(g0:Option Nat)(w0:ak)(v:aB)(bs:List UInt8)(w:ak):Prop where
 vS:w.c B 5 1 v bs.a (bs.map bv)
 gr:w0.d w g0
 sP:v.f=g0\/∃k,v.f=some k/\w0.a.j<=k
 hB:B<=w0.a.j
 gb:∀k,g0=some k->B<=k/\k<w0.a.j
theorem atM{a w:ak}{g:Option Nat}(h:a.d w g){p:aS}(hp:some p.block=g\/a.a.j<=p.block)(u:aB):a.d (w.F p u) g:=
 ⟨h.os,h.tape,h.output,by simpa[World.setCell]using h.j,fun i hi hne=>(Below.heap_setCell w p u i (by
  rintro rfl;rcases hp with hp|hp
  ·exact hne hp
  ·omega)).trans (h.block i hi hne)⟩
section
variable {B:Nat} {g0:Option Nat} {w0 W W':ak} {v v':aB} {bs bs':List UInt8}
theorem Ow.nil(w:ak):Ow w.a.j none w (.a none 0 0) [] w:=⟨eY _ _ _ _,World.grownBy.refl _ _,.a rfl,av _,fun k h=>by cases h⟩
theorem Ow.gU{w:ak}{n:Nat}(h:w.c B 5 1 v n (bs.map bv))(hB:B<=w.a.j):Ow B v.f w v bs w:=by
 have h1:=h.1;rw[bQ,gB]at h1;subst h1;exact⟨h,World.grownBy.refl _ _,.a rfl,hB,fun k hk=>h.lt k hk⟩
theorem Ow.go(h:Ow B g0 w0 v bs W)(hb:aL W.a.j W W'):Ow B g0 w0 v bs W':=
 ⟨jo h.vS hb,⟨hb.os.trans h.gr.os,hb.tape.trans h.gr.tape,hb.output.trans h.gr.output,aO h.gr.j hb.j,fun k hk hn=>(hb.block k (eO hk h.gr.j)).trans (h.gr.block k hk hn)⟩,h.sP,h.hB,h.gb⟩
theorem Ow.drew(h:Ow B g0 w0 v bs W):Ow B g0 w0 v bs W.drew:=⟨h.vS,⟨h.gr.os,h.gr.tape,h.gr.output,h.gr.j,h.gr.block⟩,h.sP,h.hB,h.gb⟩
theorem Ow.step(h:Ow B g0 w0 v bs W)(k:Ow B v.f W v' bs' W'):Ow B g0 w0 v' bs' W':=by
 refine⟨k.vS,⟨k.gr.os.trans h.gr.os,k.gr.tape.trans h.gr.tape,k.gr.output.trans h.gr.output,aO h.gr.j k.gr.j,fun i hi hn=>(k.gr.block i (eO hi h.gr.j) (fun e=>?_)).trans (h.gr.block i hi hn)⟩,?_,h.hB,h.gb⟩
 ·rcases h.sP with h1|⟨j,h1,h2⟩
  ·exact hn (e.trans h1)
  ·rw[h1]at e;injection e with e;omega
 ·rcases k.sP with h1|⟨j,h1,h2⟩
  ·rw[h1];exact h.sP
  ·exact .b ⟨j,h1,aO h.gr.j h2⟩
theorem Ow.box{q:Nat}{c:Array aB}(h:Ow B g0 w0 v bs W)(hb:dJ w0 q c)(hq:some q≠g0):dJ W q c:=hb.grown h.gr hq
theorem Ow.S(h:Ow B g0 w0 v bs W):aL B w0 W:=⟨h.gr.os,h.gr.tape,h.gr.output,h.gr.j,fun k hk=>h.gr.block k (eO hk h.hB) (fun e=>by have:=(h.gb k e.symm).1;omega)⟩
theorem Ow.R(h:Ow B none w0 v bs W):aL w0.a.j w0 W:=⟨h.gr.os,h.gr.tape,h.gr.output,h.gr.j,fun k hk=>h.gr.block k hk (fun e=>by cases e)⟩
theorem Ow.Cu(h:Ow B g0 w0 v bs W):∃A c,v=.a A bs.a c:=by obtain⟨A,c,e,_⟩:=jG h.vS;exact⟨A,c,e⟩
theorem Ow.lt(h:Ow B g0 w0 v bs W){k:Nat}(hk:v.f=some k):k<W.a.j:=(h.vS.lt k hk).2
theorem Ow.j(h:Ow B g0 w0 v bs W):B<=W.a.j:=aO h.hB h.gr.j
end
section
variable {P:eG} {w:ak}
theorem zA:∃i:nJ,ah.l 5=some i/\i.zero=some (.b .b 0)/\i.j=1/\i.bytes=1:=Ci Lh
theorem kC{ops:Array iU}{rest:List iU}{o:iU}{a:qQ}{Q:zR->qQ->ak->Prop}(hgd:o.guard=none)(s x:pI)
 (ho:o.op=.call {callee:=.builtin .append,args:=#[s,x],argTypes:=#[56,56]})
 {B:Nat} {g0:Option Nat} {w0:ak} {v:aB} {bs ys:List UInt8} (hs:a.eval s=v) (H:Ow B g0 w0 v bs w) {C:Nat} {A:Option aS} {m c:Nat} (hx:a.eval x=.a A m c) (hr:gq w C A m ys)
 (hlen:bs.a+m<=1000000000)
 (h:∀A' n' c' w',Ow B g0 w0 (.a A' n' c') (bs++ys) w'->Ow B v.f w (.a A' n' c') (bs++ys) w'->wpList ah ops Q rest (a.put o.Y (.a A' n' c')) w'):wpList ah ops Q (o::rest) a w:=by
 obtain⟨i0,hi0,hz0,hz1,hz2⟩:=zA;have hm:=hr.len;refine ji w hgd s x _ ho B 5 i0 (.b .b 0) 1 1 dx hi0 hz0 hz1 hz2 rfl (av 1) v bs.a (bs.map bv) hs H.vS C A m c (ys.map bv) hx hr (JG ys) (by unfold maxLen;omega) (by omega) H.j ?_;intro v1 w1 h1 h2 h3;rw[<-je,<-hm,<-aR]at h1;have hk:Ow B v.f w v1 (bs++ys) w1:=⟨h1,h2,by rcases h3 with h|h;exact .a h;exact .b ⟨_,h,av _⟩,H.j,fun k hk=>H.vS.lt k hk⟩
 obtain⟨A',c',rfl⟩:=hk.Cu;exact h A' _ c' w1 (H.step hk) hk
theorem axU{o:iU}{a:qQ}{K:qQ->ak->Prop}{Q:zR->qQ->ak->Prop}(s x:pI)
 (ho:o.op=.call {callee:=.builtin .append,args:=#[s,x],argTypes:=#[56,56]})
 {B:Nat} {g0:Option Nat} {w0:ak} {v:aB} {bs ys:List UInt8} (hs:a.eval s=v) (H:Ow B g0 w0 v bs w) {C:Nat} {A:Option aS} {m c:Nat} (hx:a.eval x=.a A m c) (hr:gq w C A m ys)
 (hlen:bs.a+m<=1000000000)
 (h:∀A' n' c' w',Ow B g0 w0 (.a A' n' c') (bs++ys) w'->Ow B v.f w (.a A' n' c') (bs++ys) w'->K (a.put o.Y (.a A' n' c')) w'):o.wp ah a w K Q:=by
 obtain⟨i0,hi0,hz0,hz1,hz2⟩:=zA;have hm:=hr.len;refine JH w s x _ ho B 5 i0 (.b .b 0) 1 1 dx hi0 hz0 hz1 hz2 rfl (av 1) v bs.a (bs.map bv) hs H.vS C A m c (ys.map bv) hx hr (JG ys) (by unfold maxLen;omega) (by omega) H.j ?_;intro v1 w1 h1 h2 h3;rw[<-je,<-hm,<-aR]at h1;have hk:Ow B v.f w v1 (bs++ys) w1:=⟨h1,h2,by rcases h3 with h|h;exact .a h;exact .b ⟨_,h,av _⟩,H.j,fun k hk=>H.vS.lt k hk⟩
 obtain⟨A',c',rfl⟩:=hk.Cu;exact h A' _ c' w1 (H.step hk) hk
end
def Gd(z:Int):Array aB:=#[.b .a z]
theorem Y0(z:Int):(Gd z).j=1:=rfl
abbrev Yc:=gX Gd 1
theorem S9:∃i:nJ,ah.l 3=some i/\i.zero=some (.b .a 0)/\i.j=1:=by
 cases h:ah.l 3 with
 | none=>exact absurd h (by have:(ah.l 3).isSome=true:=by kernel_rfl
                            intro e;rw[e]at this;cases this)
 | some i=>
   have h1:(ah.l 3).map (·.j)=some 1:=by kernel_rfl
   have h3:(ah.l 3).map (·.zero)=some (some (.b .a 0)):=by kernel_rfl
   rw[h]at h1 h3;simp at h1 h3;exact⟨i,rfl,h3,h1⟩
theorem afV:lU 1 = #[0]:=by apply oQ;rw[j3];rfl
theorem afW:lU 2 = #[0,1]:=by apply oQ;rw[j3];rfl
theorem atN:lU 3 = #[0,1,2]:=by apply oQ;rw[j3];rfl
def LG(n:Nat)(ps:Array (Nat×aB)):xE aB:=bI 70 n ps
@[go_sem ↓]theorem awf(n:Nat)(ps:Array (Nat×aB)):bI 70 n ps=LG n ps:=rfl
def sM(l:List Int):Array aB:=(l.map (aI .a)).c
@[go_sem]theorem ar5(w:ak)(a:Int):(LG 1 #[(0,.b .a a)]).I ah w=.ok (.a (some ⟨w.a.j,0,none⟩) 1 1) (w.alloc (.D (sM [a]) 3)):=by
 obtain⟨i0,hi0,hz0,hz1⟩:=S9;simp[LG,bI,dL nZ,zeroValue,sizeOf,typeInfo,hi0,hz0,hz1,fB,newRow,sM,cO,afV,afW,atN]
theorem Yc.lit(w:ak)(l:List Int)(t:bM):Yc (w.alloc (.D (sM l) t)) (w.alloc (.D (sM l) t)).a.j (some ⟨w.a.j,0,none⟩) l.a l:=by
 have hf:(l.h fun x=>(Gd x).a)=l.map (aI .a):=by induction l with
  | nil=>rfl
  | cons z l ih=>simp only[iK,ih];rfl
 refine⟨rfl,⟨by rw[hf];simp,fun _=>⟨_,rfl,by simp,?_⟩⟩,fun a h _=>by injection h with h;rw[<-h]⟩;intro j v hv;rw[hf]at hv;rw[iC,bl];have:=mQ w (sM l) t j;rw[this];simpa[sM]using hv
def Gf(n:Nat)(ps:Array (Nat×aB)):xE aB:=bI 276 n ps
@[go_sem ↓]theorem awg(n:Nat)(ps:Array (Nat×aB)):bI 276 n ps=Gf n ps:=rfl
theorem Te:∃i:nJ,ah.l 56=some i/\i.zero=some (.a none 0 0)/\i.j=1:=by
 cases h:ah.l 56 with
 | none=>exact absurd h (by have:(ah.l 56).isSome=true:=by kernel_rfl
                            intro e;rw[e]at this;cases this)
 | some i=>
   have h1:(ah.l 56).map (·.j)=some 1:=by kernel_rfl
   have h3:(ah.l 56).map (·.zero)=some (some (.a none 0 0)):=by kernel_rfl
   rw[h]at h1 h3;simp at h1 h3;exact⟨i,rfl,h3,h1⟩
def yR(l:List Yb):Array aB:=(l.map fun x=>bC x.A x.n x.c).c
theorem atO:lU 5 = #[0,1,2,3,4]:=by apply oQ;rw[j3];rfl
@[go_sem]theorem ar6(w:ak)(A B:Option aS)(a b c d:Nat):(Gf 2 #[(0,.a A a b),(1,.a B c d)]).I ah w=.ok (.a (some ⟨w.a.j,0,none⟩) 2 2) (w.alloc (.D (yR [⟨A,a,b⟩,⟨B,c,d⟩]) 56)):=by
 obtain⟨i0,hi0,hz0,hz1⟩:=Te;simp[Gf,bI,dL Dz,zeroValue,sizeOf,typeInfo,hi0,hz0,hz1,fB,newRow,yR,cO,afW]
@[go_sem]theorem ar7(w:ak)(A0 A1 A2 A3 A4:Option aS)(n0 n1 n2 n3 n4 c0 c1 c2 c3 c4:Nat):(Gf 5 #[(0,.a A0 n0 c0),(1,.a A1 n1 c1),(2,.a A2 n2 c2),(3,.a A3 n3 c3),(4,.a A4 n4 c4)]).I ah w=.ok (.a (some ⟨w.a.j,0,none⟩) 5 5) (w.alloc (.D (yR [⟨A0,n0,c0⟩,⟨A1,n1,c1⟩,⟨A2,n2,c2⟩,⟨A3,n3,c3⟩,⟨A4,n4,c4⟩]) 56)):=by
 obtain⟨i0,hi0,hz0,hz1⟩:=Te;simp[Gf,bI,dL Dz,zeroValue,sizeOf,typeInfo,hi0,hz0,hz1,fB,newRow,yR,cO,atO]
theorem RdS.lit(w:ak)(l:List Yb)(t:bM):RdS (w.alloc (.D (yR l) t)) (w.alloc (.D (yR l) t)).a.j (some ⟨w.a.j,0,none⟩) l.a l:=by
 have hf:(l.h fun x=>(amu x).a)=l.map (fun x=>bC x.A x.n x.c):=by induction l with
  | nil=>rfl
  | cons z l ih=>simp only[iK,ih];rfl
 refine⟨rfl,⟨by rw[hf];simp,fun _=>⟨_,rfl,by simp,?_⟩⟩,fun a h _=>by injection h with h;rw[<-h]⟩;intro j v hv;rw[hf]at hv;rw[iC,bl];have:=mQ w (yR l) t j;rw[this];simpa[yR]using hv
theorem Nf.cons{w:ak}{B:Nat}{x:Yb}{l:List Yb}{ys:List UInt8}{bss:List (List UInt8)}(h:gq w B x.A x.n ys)(k:Nf w B l bss):Nf w B (x::l) (ys::bss):=by
 refine⟨by simp[k.1],fun i hi=>?_⟩;cases i with
 | zero=>exact h
 | succ i=>exact k.2 i (by simpa using hi)
theorem Nf.nil{w:ak}{B:Nat}:Nf w B [] []:=⟨rfl,fun i hi=>by simp at hi⟩
theorem BI(l:List Yb)(bss:List (List UInt8))(t:bM)(n:Nat)(w:ak)(hn:l.a=n)(hH:Nf w w.a.j l bss)(h1:n<=1000)(hs:yI l<=1000000000):
 aQ ah 181 #[.a (some ⟨w.a.j,0,none⟩) n n] (w.alloc (.D (yR l) t)) fun e w'=>∃A m c,e=.a (.a A m c)/\m=bss.flatten.a/\gq w' w'.a.j A m bss.flatten/\w'.c (w.a.j+1) 5 1 (.a A m c) m (bss.flatten.map bv)/\aL w.a.j w w':=by
 subst hn;refine(LC l bss _ _ _ _ (RdS.lit w l t) ⟨hH.1,fun i hi=>((hH.2 i hi).alloc (av _) _).lD (by simp)⟩ h1 hs).g ?_;rintro e w' ⟨v,rfl,ho,hb⟩;obtain⟨A,c,rfl,_,_⟩:=jG ho;exact⟨A,_,c,rfl,rfl,gq.gU ho,by simpa using ho,axc (aH _ _) hb⟩
theorem apN(w:ak)(s:List UInt8):gq (sD w 5 s) (sD w 5 s).a.j (some ⟨w.a.j,0,none⟩) s.a s/\aL w.a.j w (sD w 5 s):=
 ⟨(GI w _ s).lD (by unfold sD;rw[Lib.bytesWorld_size];omega),GH w _ s⟩
theorem uV(n k:Nat)(big:Bool):(iN n k big).a=k:=by cases big<;>simp[iN,wm]
theorem Ng{w:ak}{ops:Array iU}{o:iU}{a:qQ}{K:qQ->ak->Prop}{Q:zR->qQ->ak->Prop}{E:Prop}(hgd:o.guard=none)(s x:pI)
 (ho:o.op=.call {callee:=.builtin .append,args:=#[s,x],argTypes:=#[56,56]})
 (v:aB) (A:Option aS) (m c:Nat) {B:Nat} {g0:Option Nat} {w0:ak} {bs ys:List UInt8} (hs:a.eval s=v) (H:Ow B g0 w0 v bs w) {C:Nat} (hx:a.eval x=.a A m c) (hr:gq w C A m ys)
 (hlen:bs.a+m<=1000000000)
 (h:∀A' n' c' w',Ow B g0 w0 (.a A' n' c') (bs++ys) w'->Ow B v.f w (.a A' n' c') (bs++ys) w'->K (a.put o.Y (.a A' n' c')) w') :
 if fC o (yielded ops a.tmps)=true then ni ah o a w K Q else E:=by
 have hw:fC o (yielded ops a.tmps)=true:=by simp[fC,hgd]
 rw[if_pos hw];exact axU s x ho hs H hx hr hlen h
def TwP(w:ak)(bs:List UInt8)(e:lq)(w':ak):Prop:=∃A,e=.a (.a A 2 2)/\Ow w.a.j none w (.a A 2 2) bs w'/\aL w.a.j w w'
theorem aa9{w:ak}{g k B:Nat}{f:Nat->aB}{l:List UInt8}(h:w.rowIs g 5 k f)(hl:l.a=k)(hk:k<=1000)(hB:B<=g)(hf:∀j,j<k->f j=bv (l.b j 0)):w.c B 5 1 (.a (some ⟨g,0,none⟩) k k) k (l.map bv):=by
 obtain⟨c,hc,hs,hg⟩:=h;refine⟨by simp[hl],.b ⟨g,k,c,rfl,hB,hc,av _,by unfold maxLen;omega,by omega,?_⟩⟩;apply iJ;intro j;by_cases hj:j<k
 ·rw[gZ (by omega),Array.getElem?_toList,hg j hj,hf j hj]
  simp[au,hl,hj]
 ·rw[aT (by simp;omega),aT (by simp[hl];omega)]
theorem wK(n:Nat)(hn:n<=65535)(w:ak):aQ ah 184 #[.b .u64 n,.b .a 2,.e true] w (TwP w (iN n 2 true)):=by
 refine(aoV n 2 (by omega) (by omega) true w).g ?_;rintro e w' ⟨rfl,hr,hb⟩;have ho:=aa9 (B:=w.a.j) (l:=iN n 2 true) hr (uV _ _ _) (by omega) (av _) (fun j hj=>rfl);refine⟨_,rfl,⟨by rw[uV];exact ho,⟨hb.os,hb.tape,hb.output,hb.j,fun k hk _=>hb.block k hk⟩,.b ⟨_,rfl,av _⟩,av _,fun k hk=>by cases hk⟩,hb⟩
theorem ar8{B B':Nat}{w1 w w':ak}{v:aB}{bs:List UInt8}(h:Ow B' none w v bs w')(h1:B<=B')(hb:aL w'.a.j w' w1):Ow B v.f w1 v bs w1:=Ow.gU (iG (jo h.vS hb) h1) (aO (aO h1 h.j) hb.j)
theorem Dn{B n c:Nat}{w1 w w':ak}{A:Option aS}{bs:List UInt8}(h:Ow B none w (.a A n c) bs w')(hb:aL w'.a.j w' w1):gq w1 w1.a.j A n bs:=by
 have h2:=jo h.vS hb;obtain⟨A',c',e⟩:=h.Cu;injection e with e1 e2 e3
 subst e2;exact gq.gU h2
theorem Nh{W W':ak}(h:aL W.drew.a.j W.drew W'):aL W.a.j W W':=⟨h.os,h.tape,h.output,h.j,h.block⟩
theorem apO{w w1 w2:ak}{g0:Option Nat}{v':aB}{bs:List UInt8}{c0:Array aB}(h:Ow (w.a.j+1) g0 w1 v' bs w2)(hB:aL w.a.j w w1)(hT:dJ w1 w.a.j c0):
 (∃A n c,v'=.a A n c/\w2.c w.a.j 5 1 (.a A n c) n (bs.map bv)/\aL w.a.j w w2)/\dJ w2 w.a.j c0:=by
 obtain⟨A,c,rfl⟩:=h.Cu;have hb:=h.S;exact⟨⟨A,_,c,rfl,iG h.vS (Mf _),hB.trans (hb.g (Mf _))⟩,hT.S hb (mG _)⟩
def BJ(n:Nat)(ps:Array (Nat×aB)):xE aB:=bI 56 n ps
@[go_sem ↓]theorem axV(n:Nat)(ps:Array (Nat×aB)):bI 56 n ps=BJ n ps:=rfl
@[go_sem]theorem atP(w:ak)(a:Int):(BJ 1 #[(0,.b .b a)]).I ah w=.ok (.a (some ⟨w.a.j,0,none⟩) 1 1) (w.alloc (.D #[.b .b a] 5)):=by
 obtain⟨i0,hi0,hz0,hz1,hz2⟩:=zA;simp[BJ,bI,dL dx,zeroValue,sizeOf,typeInfo,hi0,hz0,hz1,fB,newRow,cO,afV]
theorem EF(w:ak)(b:UInt8)(a:Int)(ha:a=(b.e:Int)):gq (w.alloc (.D #[.b .b a] 5)) (w.a.j+1) (some ⟨w.a.j,0,none⟩) 1 [b]:=by
 subst ha;refine⟨rfl,fun _=>⟨_,rfl,by simp,fun j u hu=>?_⟩⟩;rw[iC,bl];have:=mQ w #[.b .b (b.e:Int)] 5 j;rw[this];simpa[bv]using hu
theorem Tu.rdS{W:ak}{q:Nat}{t:Tu}(h:dJ W q t.ay):gq W W.a.j (some ⟨q,1,none⟩) 16 t.h.b.a:=by
 refine⟨by simp,fun _=>⟨_,rfl,h.lt,fun j u hu=>?_⟩⟩;have hj:j<16:=by
  rcases aZ j 16 with hj|hj
  ·exact hj
  ·rw[aT (by simp;omega)]at hu;cases hu
 rw[iC,h.K.1,uG 1 j,Tu.Nc t (j+1) (by omega),fu.Eo _ j hj,<-hu];simp[au,hj]
theorem Tu.rdD{W:ak}{q:Nat}{t:Tu}(h:dJ W q t.ay):gq W W.a.j (some ⟨q,18,none⟩) 16 t.Y.b.a:=by
 refine⟨by simp,fun _=>⟨_,rfl,h.lt,fun j u hu=>?_⟩⟩;have hj:j<16:=by
  rcases aZ j 16 with hj|hj
  ·exact hj
  ·rw[aT (by simp;omega)]at hu;cases hu
 rw[iC,h.K.1,show 18+j=(j+1)+17 by omega,Tu.KX t (j+1) (by omega),fu.Eo _ j hj,<-hu];simp[au,hj]
def Kv(w:ak)(bs:List UInt8)(e:lq)(w':ak):Prop:=∃A n c,e=.a (.a A n c)/\n=bs.a/\w'.c w.a.j 5 1 (.a A n c) n (bs.map bv)/\aL w.a.j w w'
def axW(w:ak)(q:Nat)(c:Array aB)(bs:List UInt8)(e:lq)(w':ak):Prop:=∃A n c2,e=.a (.a A n c2)/\n=bs.a/\w'.c w.a.j 5 1 (.a A n c2) n (bs.map bv)/\aL w.a.j w w'/\dJ w' q c
theorem adC(t:Tu)(f p:UInt8)(hf:f=if t.h.h then 6 else 4)(hp:p=aJ t.aP.e)(l:List UInt8)(hl:l=iN t.kV.e 2 true++iN t.jR.e 2 true):[[f],t.h.b.a,t.Y.b.a,[p],l].flatten=Lj t:=by
 subst hf hp hl;simp[Lj]
theorem apP(t:Tu):(Lj t).a=38:=by simp[Lj,uV]
def xq(t:Tu):Prop:=(0<=t.aP/\t.aP<=255)/\(0<=t.kV/\t.kV<=65535)/\(0<=t.jR/\t.jR<=65535)
theorem aCE(W w0:ak)(q:Nat)(t:Tu)(f p:UInt8)(fi pi:Int)(A:Option aS)(n c:Nat)(l:List UInt8)(hf:f=if t.h.h then 6 else 4)(hp:p=aJ t.aP.e)(hl:l=iN t.kV.e 2 true++iN t.jR.e 2 true)
 (hfi:fi=(f.e:Int)) (hpi:pi=(p.e:Int)) (hB:dJ W q t.ay) (hr:gq W W.a.j A n l) (hn:n=4) (h0:aL w0.a.j w0 W) :
 aQ ah 181 #[.a (some ⟨W.a.j+1+1,0,none⟩) 5 5] (((W.alloc (.D #[.b .b fi] 5)).alloc (.D #[.b .b pi] 5)).alloc (.D (yR [⟨some ⟨W.a.j,0,none⟩,1,1⟩,⟨some ⟨q,1,none⟩,16,16⟩,⟨some ⟨q,18,none⟩,16,16⟩,⟨some ⟨W.a.j+1,0,none⟩,1,1⟩,⟨A,n,c⟩]) 56)) (axW w0 q t.ay (Lj t)):=by
 have e1:(W.alloc (.D #[.b .b fi] 5)).a.j=W.a.j+1:=by simp
 have e2:((W.alloc (.D #[.b .b fi] 5)).alloc (.D #[.b .b pi] 5)).a.j=W.a.j+1+1:=by simp
 have up:∀{A:Option aS} {n:Nat} {l:List UInt8},gq W W.a.j A n l->gq ((W.alloc (.D #[.b .b fi] 5)).alloc (.D #[.b .b pi] 5)) ((W.alloc (.D #[.b .b fi] 5)).alloc (.D #[.b .b pi] 5)).a.j A n l:=fun h=>
  ((h.alloc (av _) _).alloc (by rw[e1];omega) _).lD (by rw[e2];omega)
 have h1:=((EF W f fi hfi).alloc (by rw[e1];omega) (.D #[.b .b pi] 5)).lD (show W.a.j+1<=((W.alloc (.D #[.b .b fi] 5)).alloc (.D #[.b .b pi] 5)).a.j by rw[e2];omega);have h4:=(EF (W.alloc (.D #[.b .b fi] 5)) p pi hpi).lD (show _<=((W.alloc (.D #[.b .b fi] 5)).alloc (.D #[.b .b pi] 5)).a.j by rw[e2,e1];omega);rw[e1]at h4;have:=BI [⟨some ⟨W.a.j,0,none⟩,1,1⟩,⟨some ⟨q,1,none⟩,16,16⟩,⟨some ⟨q,18,none⟩,16,16⟩,⟨some ⟨W.a.j+1,0,none⟩,1,1⟩,⟨A,n,c⟩] [[f],t.h.b.a,t.Y.b.a,[p],l] 56 5 _ rfl (.cons h1 (.cons (up (Tu.rdS hB)) (.cons (up (Tu.rdD hB)) (.cons h4 (.cons (up hr) .nil))))) (by omega) (by simp[yI,hn]);rw[e2,adC t f p hf hp l hl]at this;refine this.g ?_;rintro e w' ⟨A',m,c',rfl,hm,_,ho,hb⟩;have hsz:=h0.j;have hWb:=(((aH W.a.j W).alloc (av _) _).alloc (by simp) _).trans (hb.g (by omega));exact⟨A',m,c',rfl,hm,iG ho (by omega),gV h0 hWb,hB.go hWb⟩
theorem aCF(W w0:ak)(q:Nat)(t:Tu)(f p:UInt8)(fi pi:Int)(A:Option aS)(n c:Nat)(l:List UInt8)(hf:f=if t.h.h then 6 else 4)(hp:p=aJ t.aP.e)(hl:l=iN t.kV.e 2 true++iN t.jR.e 2 true)
 (hfi:fi=(f.e:Int)) (hpi:pi=(p.e:Int)) (hB:dJ W q t.ay) (hr:gq W W.a.j A n l) (hn:n=4) (h0:aL w0.a.j w0 W) :
 aQ ah 181 #[.a (some ⟨W.a.j+1+1,0,none⟩) 5 5] (((W.alloc (.D #[.b .b pi] 5)).alloc (.D #[.b .b fi] 5)).alloc (.D (yR [⟨some ⟨W.a.j+1,0,none⟩,1,1⟩,⟨some ⟨q,1,none⟩,16,16⟩,⟨some ⟨q,18,none⟩,16,16⟩,⟨some ⟨W.a.j,0,none⟩,1,1⟩,⟨A,n,c⟩]) 56)) (axW w0 q t.ay (Lj t)):=by
 have e1:(W.alloc (.D #[.b .b pi] 5)).a.j=W.a.j+1:=by simp
 have e2:((W.alloc (.D #[.b .b pi] 5)).alloc (.D #[.b .b fi] 5)).a.j=W.a.j+1+1:=by simp
 have up:∀{A:Option aS} {n:Nat} {l:List UInt8},gq W W.a.j A n l->gq ((W.alloc (.D #[.b .b pi] 5)).alloc (.D #[.b .b fi] 5)) ((W.alloc (.D #[.b .b pi] 5)).alloc (.D #[.b .b fi] 5)).a.j A n l:=fun h=>
  ((h.alloc (av _) _).alloc (by rw[e1];omega) _).lD (by rw[e2];omega)
 have h4:=((EF W p pi hpi).alloc (by rw[e1];omega) (.D #[.b .b fi] 5)).lD (show W.a.j+1<=((W.alloc (.D #[.b .b pi] 5)).alloc (.D #[.b .b fi] 5)).a.j by rw[e2];omega);have h1:=(EF (W.alloc (.D #[.b .b pi] 5)) f fi hfi).lD (show _<=((W.alloc (.D #[.b .b pi] 5)).alloc (.D #[.b .b fi] 5)).a.j by rw[e2,e1];omega);rw[e1]at h1;have:=BI [⟨some ⟨W.a.j+1,0,none⟩,1,1⟩,⟨some ⟨q,1,none⟩,16,16⟩,⟨some ⟨q,18,none⟩,16,16⟩,⟨some ⟨W.a.j,0,none⟩,1,1⟩,⟨A,n,c⟩] [[f],t.h.b.a,t.Y.b.a,[p],l] 56 5 _ rfl (.cons h1 (.cons (up (Tu.rdS hB)) (.cons (up (Tu.rdD hB)) (.cons h4 (.cons (up hr) .nil))))) (by omega) (by simp[yI,hn]);rw[e2,adC t f p hf hp l hl]at this;refine this.g ?_;rintro e w' ⟨A',m,c',rfl,hm,_,ho,hb⟩;have hsz:=h0.j;have hWb:=(((aH W.a.j W).alloc (av _) _).alloc (by simp) _).trans (hb.g (by omega));exact⟨A',m,c',rfl,hm,iG ho (by omega),gV h0 hWb,hB.go hWb⟩
theorem aa'(t:Tu)(ht:xq t)(w:ak):aQ ah 98 #[.d t.ay] w (Kv w (Lj t)):=by
 obtain⟨⟨p1,p2⟩,⟨s1,s2⟩,d1,d2⟩:=ht;have T0:=ab (dJ.new w t.ay 81);have B0:=ab ((aH w.a.j w).alloc (av _) (.D t.ay 81));obtain⟨w1,hw1⟩:=dw (w.alloc (.D t.ay 81));obtain⟨sn,hsn⟩:∃sn:Nat,t.kV=(sn:Int):=⟨t.kV.e,by omega⟩
 obtain⟨dn,hdn⟩:∃dn:Nat,t.jR=(dn:Int):=⟨t.jR.e,by omega⟩
 have PS:=ab (fun W=>wK sn (by omega) W);have PD:=ab (fun W=>wK dn (by omega) W);have cs:jm.wrap t.kV=(sn:Int):=by rw[jQ];omega
 have cd:jm.wrap t.jR=(dn:Int):=by rw[jQ];omega
 have cp:aX.wrap t.aP=t.aP:=by rw[Hg];omega
 obtain⟨f,hf⟩:∃f:UInt8,f=if t.h.h then 6 else 4:=⟨_,rfl⟩
 have HL:=ab (show iN sn 2 true++iN dn 2 true=iN t.kV.e 2 true++iN t.jR.e 2 true by rw[show sn=t.kV.e by omega,show dn=t.jR.e by omega]);have HPI:=ab (show t.aP=((aJ t.aP.e).e:Int)by rw[dig _ (by omega)];omega);obtain⟨fi,hfi⟩:∃fi:Int,fi=(f.e:Int):=⟨_,rfl⟩
 have KS:=ab (show∀W',dJ W' w.a.j t.ay->W'.b ⟨w.a.j,35,none⟩=some (.b .a t.kV)/\W'.b ⟨w.a.j,36,none⟩=some (.b .a t.jR)from fun W' h=>⟨by rw[h.K.1];exact Tu.afQ t,by rw[h.K.1];exact Tu.aa1 t⟩);have KP:=ab (show∀W',dJ W' w.a.j t.ay->W'.b ⟨w.a.j,34,none⟩=some (.b .a t.aP)from fun W' h=>by rw[h.K.1];exact Tu.Vu t);have CA:=ab (fun W A n c (hB:dJ W w.a.j t.ay) (hr:gq W W.a.j A n (iN sn 2 true++iN dn 2 true)) (hn:n=4) (h0:aL w.a.j w W)=>aCE W w w.a.j t f _ fi t.aP A n c _ hf rfl HL.i hfi HPI.i hB hr hn h0);have CB:=ab (fun W A n c (hB:dJ W w.a.j t.ay) (hr:gq W W.a.j A n (iN sn 2 true++iN dn 2 true)) (hn:n=4) (h0:aL w.a.j w W)=>aCF W w w.a.j t f _ fi t.aP A n c _ hf rfl HL.i hfi HPI.i hB hr hn h0);have HFI:=ab (show fi=if t.h.h then 6 else 4 by rw[hfi,hf];cases t.h.h<;>rfl);rw[<-hw1]at T0 B0;have hb1:w.a.j<w1.a.j:=by rw[hw1];simp
 have LB0:=ab (show w.a.j+1<=w1.drew.a.j from hb1);have LB1:=ab (show∀W,aL w1.drew.a.j w1.drew W->w.a.j+1<=W.a.j from fun W h=>aO hb1 h.j);have H4:=ab (show(iN sn 2 true).a+2<=1000000000 by rw[uV];omega);clear hf hfi hsn hdn p1 p2 s1 s2 d1 d2;obtain⟨j4,aCH⟩:∃b,t.h.h=b:=⟨_,rfl⟩
 rw[aCH]at HFI;subst hw1;cases j4
 all_goals
  have axY:=HFI.i;simp only[jc,if_false,if_true]at axY;subst axY;clear HFI;go_enter Tryz.func98,Tryz.ntmps98;go_wp2_with fail;go_cut [4]from 8 to 16 (fun s4 wx=>∃A n c,s4=.a A n c/\wx.c w.a.j 5 1 (.a A n c) n ((iN sn 2 true++iN dn 2 true).map bv)/\aL w.a.j w wx/\dJ wx w.a.j t.ay)
  case first=>
   go_region_held_law (fun W'=>W'.b ⟨w.a.j,35,none⟩=some (.b .a t.kV)/\W'.b ⟨w.a.j,36,none⟩=some (.b .a t.jR))
    (first|exact KS.i _ T0.i.drew|exact KS.i _ Ta.i|exact KS.i _ Tb.i|exact KS.i _ Tc.i|exact KS.i _ Td.i|exact KS.i _ Tz.i|go_keep)
    (first|(go_at_call 184;(with_reducible refine(PS.i _).g ?_);rintro e wa ⟨Awa,rfl,ho,hb⟩;have Oa:=ab ho;have Ta:=ab (T0.i.drew.go hb);have Ba:=ab (gV B0.i (Nh hb));clear ho hb)|(go_at_call 184;(with_reducible refine(PD.i _).g ?_);rintro e wb ⟨Awb,rfl,ho,hb⟩;have Ob:=ab ho;have Tb:=ab (T0.i.drew.go hb);have Bb:=ab (gV B0.i (Nh hb));have Lb:=ab (LB1.i _ hb);clear ho hb)|(go_at_call 184;(with_reducible refine(PD.i _).g ?_);rintro e wc2 ⟨aCI,rfl,ho,hb⟩;have Tc:=ab (Ta.i.go hb);have Bc:=ab (gV Ba.i hb);have Q1:=ab (ar8 Oa.i LB0.i hb);have Q2:=ab (Dn ho (aH _ _));clear ho hb)|(go_at_call 184;(with_reducible refine(PS.i _).g ?_);rintro e wd ⟨Awd,rfl,ho,hb⟩;have Td:=ab (Tb.i.go hb);have Bd:=ab (gV Bb.i hb);have Q3:=ab (ar8 ho Lb.i (aH _ _));have Q4:=ab (Dn Ob.i hb);clear ho hb)|(refine Ng (o:=⟨some 16,_,_,_,_,_⟩) rfl (.tmp 11) (.tmp 15) rfl (.a Awd 2 2) Awb 2 2 rfl Q3.i rfl Q4.i H4.i ?_;intro A3 n3 c3 w3 h2 h3;have Tz:=ab (apO h2 Bd.i Td.i).2;have Oz:=ab (apO h2 Bd.i Td.i).1;clear h2 h3)|(refine Ng (o:=⟨some 16,_,_,_,_,_⟩) rfl (.tmp 11) (.tmp 15) rfl (.a Awa 2 2) aCI 2 2 rfl Q1.i rfl Q2.i H4.i ?_;intro A3 n3 c3 w3 h2 h3;have Tz:=ab (apO h2 Bc.i Tc.i).2;have Oz:=ab (apO h2 Bc.i Tc.i).1;clear h2 h3))
   all_goals
    go_wp2_with fail;go_meet
    case rel=>obtain⟨A9,n9,c9,e9,ho9,hb9⟩:=Oz.i;exact⟨A9,n9,c9,e9,ho9,hb9,Tz.i⟩
  case rest=>
   obtain⟨A,n,c,rfl,ho,hb,hT⟩:=hcut;have hn4:n=4:=by have:=ho.1;rw[bQ,aR,uV,uV]at this;omega
   subst hn4;have HT:=ab hT;have HB:=ab hb;have HR:=ab (gq.gU ho);clear ho hb hT;go_wp2_with fail;have CA1:=CA.i wc.drew A 4 c HT.i.drew HR.i rfl HB.i.drew;have CB1:=CB.i wc.drew A 4 c HT.i.drew HR.i rfl HB.i.drew;simp only[show wc.drew.a.j=wc.a.j from rfl,show∀(w:ak) ob,w.drew.alloc ob=(w.alloc ob).drew from fun _ _=>rfl]at CA1 CB1;have CA2:=ab CA1;have CB2:=ab CB1;clear CA1 CB1;go_region_held_law (fun W'=>W'.b ⟨w.a.j,34,none⟩=some (.b .a t.aP))
    (first|exact KP.i _ HT.i.drew|exact KP.i _ (HT.i.drew.alloc _)|exact KP.i _ ((HT.i.drew.alloc _).alloc _)|exact KP.i _ (((HT.i.drew.alloc _).alloc _).alloc _)|exact KP.i _ FX.i|go_keep)
    (first|(go_at_call 181;(with_reducible refine CA2.i.g ?_);rintro e w2 ⟨A2,n2,c2,rfl,hn2,ho2,hb2,hx2⟩;have FX:=ab hx2;have FN:=ab hn2;have FO:=ab ho2;have FB:=ab hb2;clear hn2 ho2 hb2 hx2)|(go_at_call 181;(with_reducible refine CB2.i.g ?_);rintro e w2 ⟨A2,n2,c2,rfl,hn2,ho2,hb2,hx2⟩;have FX:=ab hx2;have FN:=ab hn2;have FO:=ab ho2;have FB:=ab hb2;clear hn2 ho2 hb2 hx2))
   all_goals
    go_wp2_with fail;go_ret;exact⟨_,_,_,rfl,FN.i,FO.i,FB.i⟩
theorem afX(l:List UInt8):iN (oC l) l.a true=l:=by
 simp[iN,Rh]
theorem VF(l:List UInt8)(k:Nat)(h:l.a=k):iN (oC l) k true=l:=by rw[<-h];exact afX l
theorem adD{n m k:Nat}(hn:n<2^(8*k))(hm:m<2^(8*k))(h:iN n k true=iN m k true):n=m:=by
 have h1:wm n k=wm m k:=by
  have:=congrArg List.reverse h;simpa[iN]using this
 have h2:∀i,i<k->Im n i=Im m i:=fun i hi=>by
  have:=congrArg (fun l:List UInt8=>l[i]?) h1;simpa[wm,hi]using this
 have h3:=acN k h2;rw[fK hn,fK hm]at h3;exact h3
theorem VG(l:List UInt8):oC l<2^(8*l.a):=by
 have:=JI l;rw[Nat.pow_mul];exact this
theorem afY{n k:Nat}(hn:n<2^(8*k)):oC (iN n k true)=n:=by
 have hl:(iN n k true).a=k:=uV _ _ _;have h:=VF (iN n k true) k hl;have h2:=VG (iN n k true);rw[hl]at h2;exact adD h2 hn h
theorem Pv(l t:List UInt8)(k:Nat)(h:l.a=k):GN k (some (l++t))=(l,some t):=by
 subst h;simp[GN]
theorem Pw{k:Nat}{s:RS}{l t:List UInt8}(h:GN k s=(l,some t)):s=some (l++t)/\l.a=k:=by
 cases s with
 | none=>simp[GN]at h
 | some b=>
   unfold GN at h;simp only at h;split at h
   ·rename_i hk
    injection h with h1 h2
    injection h2 with h2
    subst h1 h2;exact⟨by rw[iF],by rw[List.length_take];omega⟩
   ·injection h with h1 h2;cases h2
theorem Ni(n k:Nat)(t:List UInt8)(hn:n<2^(8*k)):acR k (some (iN n k true++t))=(n,some t):=by
 unfold acR;rw[Pv (iN n k true) t k (uV _ _ _)];simp only[afY hn]
theorem Nj{k n:Nat}{s:RS}{t:List UInt8}(h:acR k s=(n,some t)):s=some (iN n k true++t)/\n<2^(8*k):=by
 unfold acR at h;injection h with h1 h2
 have h3:GN k s=((GN k s).1,some t):=by rw[<-h2]
 obtain⟨h4,h5⟩:=Pw h3;refine⟨?_,?_⟩
 ·rw[<-h1,VF _ k h5];exact h4
 ·have:=VG (GN k s).1
  rw[h5]at this;rw[<-h1];exact this
theorem ahL(n:Nat)(hn:n<256):iN n 1 true=[aJ n]:=by
 simp[iN,wm,Im]
theorem amw{n:Nat}(v:Vector UInt8 n):pX n v.a=v:=by
 apply Vector.ext;intro i hi;simp[pX,hi]
theorem adE{n:Nat}(l:List UInt8)(h:l.a=n):(pX n l).a=l:=by
 apply List.ext_getElem
 ·simp[h]
 ·intro i h1 h2
  simp[pX,h2]
structure Cdc{α:Type}(one:RS->(α×Bool)×RS)(lay:α->List UInt8)(ok:α->Prop):Prop where
 fwd:∀x t,ok x->one (some (lay x++t))=((x,true),some t)
 inv:∀s x t,one s=((x,true),some t)->ok x->s=some (lay x++t)
theorem Bn{α:Type}{p:α×RS}{t:List UInt8}(h:p.2=some t):p=(p.1,some t):=Prod.ext rfl h
def Y1(t:Tu):Prop:=t.h.h=t.Y.h/\(0<=t.aP/\t.aP<=255)/\(0<=t.kV/\t.kV<=65535)/\0<=t.jR/\t.jR<=65535
theorem amx:Cdc tuO Lj Y1 where
 fwd:=by
  intro x t ⟨h0,⟨h1,h2⟩,⟨h3,h4⟩,h5,h6⟩;have hf:∀b:Bool,(if b then 6 else 4:Nat)<2^(8*1):=by intro b;cases b<;>decide
  have e0:Lj x++t=iN (if x.h.h then 6 else 4) 1 true++(x.h.b.a++(x.Y.b.a++(iN x.aP.e 1 true++(iN x.kV.e 2 true++(iN x.jR.e 2 true++t))))):=by
   have:∀b:Bool,iN (if b then 6 else 4) 1 true=[if b then 6 else 4]:=by intro b;cases b<;>decide
   rw[ahL x.aP.e (by omega),this];simp[Lj,dB]
  rw[e0];unfold tuO;simp only[Ni _ 1 _ (hf _),Pv x.h.b.a _ 16 (by simp),Pv x.Y.b.a _ 16 (by simp),Ni x.aP.e 1 _ (by omega),Ni x.kV.e 2 _ (by omega),Ni x.jR.e 2 _ (by omega),amw];have g:∀b:Bool,(((if b then 6 else 4:Nat)==6)=b)/\(b||((if b then 6 else 4:Nat)==4))=true:=by intro b;cases b<;>decide
  simp only[(g _).1,(g _).2];congr 2;obtain⟨⟨a,b⟩,⟨c,d⟩,p,q,r⟩:=x;simp only at h0 h1 h2 h3 h4 h5 h6 ⊢;subst h0;congr<;>omega
 inv:=by
  intro s x t h _;unfold tuO at h;simp only[Prod.mk.injEq]at h;obtain⟨⟨h1,c⟩,h2⟩:=h;obtain⟨i6,_⟩:=Nj (Bn h2);obtain⟨i5,_⟩:=Nj (Bn i6);obtain⟨i4,l4⟩:=Nj (Bn i5);obtain⟨i3,l3⟩:=Pw (Bn i4);obtain⟨i2,l2⟩:=Pw (Bn i3);obtain⟨i1,_⟩:=Nj (Bn i2);rw[i1,<-h1];congr 1;unfold Lj;have:∀n:Nat,((n==6)||(n==4))=true->iN n 1 true=[if(n==6)=true then 6 else 4]:=by
   intro n hn;simp at hn;rcases hn with rfl|rfl<;>decide
  rw[this _ c];have e4:∀n:Nat,n<2^(8*1)->[aJ n]=iN n 1 true:=fun n hn=>(ahL n (by omega)).symm
  simp only[dB,adE _ l2,adE _ l3,Int.toNat_natCast,e4 _ l4]
theorem apQ(n m:Int):XL n m=true↔0<=n/\n<=m:=by simp[XL]
theorem Nk{x:Tu}(h:FP x=true):Y1 x:=by
 unfold FP at h;simp only[bf,decide_eq_true_eq,apQ]at h;exact⟨h.1.1.1.1.1,h.1.1.2,h.1.2,h.2⟩
structure Ly(B:Nat)(L:List (Nat×Array aB))(w0 W:ak)(v:aB)(bs:List UInt8):Prop where
 o:Ow B none w0 v bs W
 G:∀p∈L,dJ W p.1 p.2/\v.f≠some p.1
section
variable {B:Nat} {L:List (Nat×Array aB)} {w0 W W':ak} {v v':aB} {bs bs':List UInt8}
theorem Ly.go(h:Ly B L w0 W v bs)(hb:aL W.a.j W W'):Ly B L w0 W' v bs:=⟨h.o.go hb,fun p hp=>⟨(h.G p hp).1.go hb,(h.G p hp).2⟩⟩
theorem Ly.alloc(h:Ly B L w0 W v bs)(ob:Obj):Ly B L w0 (W.alloc ob) v bs:=h.go ((aH _ _).alloc (av _) ob)
theorem Ly.drew(h:Ly B L w0 W v bs):Ly B L w0 W.drew v bs:=⟨h.o.drew,fun p hp=>⟨(h.G p hp).1.drew,(h.G p hp).2⟩⟩
theorem Ly.new(h:Ly B L w0 W v bs)(c:Array aB)(t:bM):Ly B ((W.a.j,c)::L) w0 (W.alloc (.D c t)) v bs:=
 ⟨(h.alloc _).o,fun p hp=>by
   rcases bB.1 hp with rfl|hp
   ·exact⟨dJ.new W c t,fun e=>absurd (h.o.lt e) (Nat.lt_irrefl _)⟩
   ·exact(h.alloc _).G p hp⟩
theorem Ly.add(h:Ly B L w0 W v bs){q:Nat}{c:Array aB}(hb:dJ W q c)(hq:v.f≠some q):Ly B ((q,c)::L) w0 W v bs:=
 ⟨h.o,fun p hp=>by
  rcases bB.1 hp with rfl|hp
  ·exact⟨hb,hq⟩
  ·exact h.G p hp⟩
theorem Ly.step(h:Ly B L w0 W v bs)(k:Ow B v.f W v' bs' W'):Ly B L w0 W' v' bs':=
 ⟨h.o.step k,fun p hp=>⟨k.box (h.G p hp).1 (fun e=>(h.G p hp).2 e.symm),by
  rcases k.sP with e|⟨j,e,e2⟩
  ·rw[e];exact(h.G p hp).2
  ·rw[e];intro e3;injection e3 with e3;have:=(h.G p hp).1.lt;omega⟩⟩
theorem Ly.VH{p:Nat×Array aB}(h:Ly B (p::L) w0 W v bs):Ly B L w0 W v bs:=⟨h.o,fun q hq=>h.G q (jy _ hq)⟩
theorem Ly.X{q:Nat}{c:Array aB}(h:Ly B ((q,c)::L) w0 W v bs):dJ W q c:=(h.G (q,c) (by simp)).1
theorem Ly.b1{p:Nat×Array aB}{q:Nat}{c:Array aB}(h:Ly B (p::(q,c)::L) w0 W v bs):dJ W q c:=h.VH.X
theorem Ly.b2{p p2:Nat×Array aB}{q:Nat}{c:Array aB}(h:Ly B (p::p2::(q,c)::L) w0 W v bs):dJ W q c:=h.VH.VH.X
end
theorem Yc.box{W:ak}{q o:Nat}{l:List Int}{c:Array aB}(h:dJ W q c)(hc:∀j,j<l.a->c[o+j]? = some (.b .a (l.b j 0))):Yc W W.a.j (some ⟨q,o,none⟩) l.a l:=by
 have hf:(l.h fun x=>(Gd x).a)=l.map (aI .a):=by
  clear hc
  induction l with
  | nil=>rfl
  | cons z l ih=>simp only[iK,ih];rfl
 refine⟨rfl,⟨by rw[hf];simp,fun _=>⟨_,rfl,h.lt,?_⟩⟩,fun a h _=>by injection h with h;rw[<-h]⟩;intro j v hv;rw[hf]at hv;have hj:j<l.a:=by
  rcases aZ j l.a with hj|hj
  ·exact hj
  ·rw[aT (by simpa using hj)]at hv;cases hv
 rw[iC,h.K.1,hc j hj,<-hv];simp[au,hj]
theorem Y8(l:List Int)(j:Nat)(hj:j<l.a):(sM l)[0+j]? = some (.b .a (l.b j 0)):=by
 simp[sM,au,hj]
theorem Ly.nil{w:ak}:Ly w.a.j [] w w (.a none 0 0) []:=⟨Ow.nil w,fun p hp=>by cases hp⟩
def abb{α:Type}(t e:bM)(f:α->Array aB)(sz:Nat):Prop:=∃(i:nJ)(z:aB),ah.k t=some (.a e)/\ah.l e=some i/\i.zero=some z/\i.j=sz/\z.D.j=sz/\0<sz/\i.bytes<=1000/\(∀x,(f x).j=sz)/\∀x,(f x).all (·.h)=true
structure Rz{α:Type}(f:α->Array aB)(sz:Nat)(e:bM)(L:List (Nat×Array aB))(w0 W:ak)(v:aB)(l:List α):Prop where
 vS:W.c w0.a.j e sz v l.a (l.h fun x=>(f x).a)
 R:aL w0.a.j w0 W
 G:∀p∈L,dJ W p.1 p.2/\v.f≠some p.1
section
variable {α:Type} {f:α->Array aB} {sz:Nat} {e t:bM} {L:List (Nat×Array aB)} {w0 W W':ak} {v v':aB} {l ys:List α}
theorem Rz.nil(w:ak):Rz f sz e [] w w (.a none 0 0) []:=⟨eY _ _ _ _,aH _ _,fun p hp=>by cases hp⟩
theorem Rz.go(h:Rz f sz e L w0 W v l)(hb:aL W.a.j W W'):Rz f sz e L w0 W' v l:=⟨jo h.vS hb,gV h.R hb,fun p hp=>⟨(h.G p hp).1.go hb,(h.G p hp).2⟩⟩
theorem Rz.alloc(h:Rz f sz e L w0 W v l)(ob:Obj):Rz f sz e L w0 (W.alloc ob) v l:=h.go ((aH _ _).alloc (av _) ob)
theorem Rz.drew(h:Rz f sz e L w0 W v l):Rz f sz e L w0 W.drew v l:=⟨h.vS,h.R.drew,fun p hp=>⟨(h.G p hp).1.drew,(h.G p hp).2⟩⟩
theorem Rz.lt(h:Rz f sz e L w0 W v l){k:Nat}(hk:v.f=some k):w0.a.j<=k/\k<W.a.j:=h.vS.lt k hk
theorem Rz.new(h:Rz f sz e L w0 W v l)(c:Array aB)(t:bM):Rz f sz e ((W.a.j,c)::L) w0 (W.alloc (.D c t)) v l:=
 ⟨(h.alloc _).vS,(h.alloc _).R,fun p hp=>by
   rcases bB.1 hp with rfl|hp
   ·exact⟨dJ.new W c t,fun e=>absurd (h.lt e).2 (Nat.lt_irrefl _)⟩
   ·exact(h.alloc _).G p hp⟩
theorem Rz.VH{p:Nat×Array aB}(h:Rz f sz e (p::L) w0 W v l):Rz f sz e L w0 W v l:=⟨h.vS,h.R,fun q hq=>h.G q (jy _ hq)⟩
theorem Rz.X{q:Nat}{c:Array aB}(h:Rz f sz e ((q,c)::L) w0 W v l):dJ W q c:=(h.G (q,c) (by simp)).1
theorem Rz.b1{p:Nat×Array aB}{q:Nat}{c:Array aB}(h:Rz f sz e (p::(q,c)::L) w0 W v l):dJ W q c:=h.VH.X
theorem Rz.Cu(h:Rz f sz e L w0 W v l):∃A c,v=.a A l.a c:=by obtain⟨A,c,e,_⟩:=jG h.vS;exact⟨A,c,e⟩
theorem Rz.rd{A:Option aS}{n c:Nat}(h:Rz f sz e L w0 W (.a A n c) l):gX f sz W W.a.j A n l:=by
 obtain⟨A2,c2,e2⟩:=h.Cu;injection e2 with e3 e4 e5
 subst e3 e4 e5;exact gX.gU rfl h.vS
theorem Rz.len{A:Option aS}{n c:Nat}(h:Rz f sz e L w0 W (.a A n c) l):n=l.a:=h.rd.1.symm
theorem Rz.grown(h:Rz f sz e L w0 W v l)(hg:W.d W' v.f)(h1:W'.c w0.a.j e sz v' ys.a (ys.h fun x=>(f x).a))(h2:v'.f=v.f\/v'.f=some W.a.j):Rz f sz e L w0 W' v' ys:=by
 refine⟨h1,⟨hg.os.trans h.R.os,hg.tape.trans h.R.tape,hg.output.trans h.R.output,aO h.R.j hg.j,fun k hk=>(hg.block k (eO hk h.R.j) (fun e=>by have:=(h.lt e.symm).1;omega)).trans (h.R.block k hk)⟩,fun p hp=>⟨(h.G p hp).1.grown hg (fun e=>(h.G p hp).2 e.symm),?_⟩⟩;rcases h2 with e|e
 ·rw[e];exact(h.G p hp).2
 ·rw[e];intro e3;injection e3 with e3;have:=(h.G p hp).1.lt;omega
theorem ar9(T:abb t e f sz){o:iU}{a:qQ}{K:qQ->ak->Prop}{Q:zR->qQ->ak->Prop}(s x:pI)
 (ho:o.op=.call {callee:=.builtin .append,args:=#[s,x],argTypes:=#[t,t]}) (hs:a.eval s=v) (H:Rz f sz e L w0 W v l) {C:Nat} {A:Option aS} {m c:Nat} (hx:a.eval x=.a A m c) (hr:gX f sz W C A m ys)
 (hlen:l.a+m<=1000000)
 (h:∀A' n' c' w',Rz f sz e L w0 w' (.a A' n' c') (l++ys)->W.d w' v.f->K (a.put o.Y (.a A' n' c')) w'):o.wp ah a W K Q:=by
 obtain⟨i,z,ht,hi,hz,h1,h2,h3,h4,h5,h6⟩:=T;have hm:=hr.1;refine JH W s x t ho w0.a.j e i z sz i.bytes ht hi hz h1 rfl h2 h3 v l.a _ hs H.vS C A m c _ hx hr.2.1 (El f h6 ys) (by unfold maxLen;omega) (aO (Nat.mul_le_mul hlen h4) (by omega)) H.R.j ?_;intro v1 w1 k1 k2 k3;rw[acv,<-hm,<-aR]at k1;have hk:=H.grown k2 k1 k3;obtain⟨A',c',rfl⟩:=hk.Cu;exact h A' _ c' w1 hk k2
theorem Px(T:abb t e f sz){ops:Array iU}{rest:List iU}{o:iU}{a:qQ}{Q:zR->qQ->ak->Prop}(hgd:o.guard=none)(s x:pI)
 (ho:o.op=.call {callee:=.builtin .append,args:=#[s,x],argTypes:=#[t,t]}) (hs:a.eval s=v) (H:Rz f sz e L w0 W v l) {C:Nat} {A:Option aS} {m c:Nat} (hx:a.eval x=.a A m c) (hr:gX f sz W C A m ys)
 (hlen:l.a+m<=1000000)
 (h:∀A' n' c' w',Rz f sz e L w0 w' (.a A' n' c') (l++ys)->W.d w' v.f->wpList ah ops Q rest (a.put o.Y (.a A' n' c')) w'):wpList ah ops Q (o::rest) a W:=
 sS hgd fun _ hK=>ar9 T s x ho hs H hx hr hlen fun A' n' c' w' h2 h3=>hK _ _ (h A' n' c' w' h2 h3)
theorem apR(T:abb t e f sz){ops:Array iU}{o:iU}{a:qQ}{K:qQ->ak->Prop}{Q:zR->qQ->ak->Prop}{E:Prop}(hgd:o.guard=none)(s x:pI)
 (ho:o.op=.call {callee:=.builtin .append,args:=#[s,x],argTypes:=#[t,t]}) (hs:a.eval s=v) (H:Rz f sz e L w0 W v l) {C:Nat} {A:Option aS} {m c:Nat} (hx:a.eval x=.a A m c) (hr:gX f sz W C A m ys)
 (hlen:l.a+m<=1000000)
 (h:∀A' n' c' w',Rz f sz e L w0 w' (.a A' n' c') (l++ys)->W.d w' v.f->K (a.put o.Y (.a A' n' c')) w'):if fC o (yielded ops a.tmps)=true then ni ah o a W K Q else E:=by
 have hw:fC o (yielded ops a.tmps)=true:=by simp[fC,hgd]
 rw[if_pos hw];exact ar9 T s x ho hs H hx hr hlen h
end
theorem aji(l:List Bk)(hs:Es l)(s:List UInt8)(v:Int)(A:Option aS)(n c:Nat)(w:ak)(hR:gX Bk.ay 27 w w.a.j A n l)(hn:n<=100000)(K:Bool)(g:Bk)(h1:rE l s=K)(h2:oM l s=g):
 aQ ah 33 #[.d #[.b .a v,.a A n c],.string (bK s)] w (gM w (.J #[.d g.ay,.e K])):=by
 obtain rfl:=hR.1;subst h1 h2;exact zF l hs s v A c w hR (by omega)
theorem Ly.rd{B:Nat}{L:List (Nat×Array aB)}{w0 W:ak}{A:Option aS}{n c:Nat}{bs:List UInt8}(h:Ly B L w0 W (.a A n c) bs):gq W W.a.j A n bs:=by
 obtain⟨A2,c2,e2⟩:=h.o.Cu;injection e2 with e3 e4 e5
 subst e3 e4 e5;exact gq.gU h.o.vS
theorem Nl(d:Nat)(l m:List Int)(W:ak):∀is:List Nat,(∀i∈is,i<l.a/\i<m.a)->(Km (d+1) 3 1 (sM l) (sM m) is).I ah W=.ok (is.all fun i=>l.b i 0==m.b i 0) W
 | [],_=>by simp[Km]
 | i::is,h=>by
   have hi:=h i (by simp);have ih:=Nl d l m W is (fun j hj=>h j (by simp[hj]));have p1:∀l:List Int,i<l.a->(part 3 (sM l) (i*1)).I ah W=.ok (.b .a (l.b i 0)) W:=fun l hl=>
    o9 (by simp only[gQ]) (by rw[gB];have:=Y8 l i hl;rwa [bl]at this) W
   simp only[Km,Sem.run_bind,p1 l hi.1,p1 m hi.2,gJ,FH,List.all_cons];cases hb:(l.b i 0==m.b i 0)
   ·simp
   ·simpa using ih
theorem Y9(v:Vector Int 11):yH v=sM v.a:=rfl
theorem apS(a b:Vector Int 11):((dX 11).all fun i=>a.a.b i 0==b.a.b i 0)=decide (a=b):=by
 rw[dA];simp only[fM,dU,beq_iff_eq,decide_eq_true_eq];constructor
 ·intro h
  apply Vector.ext;intro i hi;have:=h i hi;simpa[au,hi]using this
 ·rintro rfl i _
  rfl
theorem afZ(a b:Vector Int 11)(d:Nat)(W:ak):(jg (d+2) 35 (.d (yH a)) (.d (yH b))).I ah W=.ok (decide (a=b)) W:=by
 obtain⟨i0,hi0,_,_⟩:=S9;rw[run_equalIn_array W (d+1) _ _ Fj hi0,show ah.cellsOf 3=1 by kernel_rfl,Y9,Y9,Nl d _ _ W _ (fun i hi=>by simp at hi⊢;exact hi),apS]
@[go_sem ↓]theorem aCM(a b:Vector Int 11)(W:ak):(jg 10000 35 (.d (yH a)) (.d (yH b))).I ah W=.ok (decide (a=b)) W:=afZ a b 9998 W
theorem ajj:ah.k 81=some (.d (ah.fieldsOf 81)):=by
 simp only[jP,jW]
theorem apT:∃f1 f2 f3 f4 f5:nS,(ah.fieldsOf 81).a=[f1,f2,f3,f4,f5]/\(f1.E ≠ "_" /\ f2.E ≠ "_" /\ f3.E ≠ "_" /\ f4.E ≠ "_" /\ f5.E ≠ "_")/\(f1.p=27/\f1.Z=0)/\(f2.p=27/\f2.Z=17)/\(f3.p=3/\f3.Z=34)/\(f4.p=3/\f4.Z=35)/\(f5.p=3/\f5.Z=36):=by
 refine⟨_,_,_,_,_,by simp only[jP,jW];rfl,⟨?_,?_,?_,?_,?_⟩,⟨rfl,rfl⟩,⟨rfl,rfl⟩,⟨rfl,rfl⟩,⟨rfl,rfl⟩,⟨rfl,rfl⟩⟩<;>decide
theorem Zd(x y:Tu)(d:Nat)(W:ak):(jg (d+4) 81 (.d x.ay) (.d y.ay)).I ah W=.ok (decide (x=y)) W:=by
 rw[zu W (d+3) _ _ _ ajj Tryz.stoodInHeld81];obtain⟨f1,f2,f3,f4,f5,hl,⟨n1,n2,n3,n4,n5⟩,⟨t1,o1⟩,⟨t2,o2⟩,⟨t3,o3⟩,⟨t4,o4⟩,⟨t5,o5⟩⟩:=apT;rw[hl];have p1:∀z:Tu,(part f1.p z.ay f1.Z).I ah W=.ok (.d z.h.ay) W:=fun z=>by
  rw[t1,o1,Ej (n:=17) (by simp only[eZ]) (by kernel_rfl) z.ay 0 W,Tu.ajg]
 have p2:∀z:Tu,(part f2.p z.ay f2.Z).I ah W=.ok (.d z.Y.ay) W:=fun z=>by
  rw[t2,o2,Ej (n:=17) (by simp only[eZ]) (by kernel_rfl) z.ay 17 W,show 17+17=34 from rfl,Tu.ajh]
 have p3:∀z:Tu,(part f3.p z.ay f3.Z).I ah W=.ok (.b .a z.aP) W:=fun z=>by
  rw[t3,o3];exact o9 (by simp only[gQ]) (Tu.Vu z) W
 have p4:∀z:Tu,(part f4.p z.ay f4.Z).I ah W=.ok (.b .a z.kV) W:=fun z=>by
  rw[t4,o4];exact o9 (by simp only[gQ]) (Tu.afQ z) W
 have p5:∀z:Tu,(part f5.p z.ay f5.Z).I ah W=.ok (.b .a z.jR) W:=fun z=>by
  rw[t5,o5];exact o9 (by simp only[gQ]) (Tu.aa1 z) W
 rw[show decide (x=y)=(decide (x.h=y.h)&&(decide (x.Y=y.Y)&&((x.aP==y.aP)&&((x.kV==y.kV)&&((x.jR==y.jR)&&true)))))by
  rw[dA];cases x;cases y;simp]
 exact iO _ _ _ _ _ n1 W _ _ _ _ (p1 x) (p1 y) (by rw[t1];exact FQ _ _ d W)
  (iO _ _ _ _ _ n2 W _ _ _ _ (p2 x) (p2 y) (by rw[t2];exact FQ _ _ d W)
  (iO _ _ _ _ _ n3 W _ _ _ _ (p3 x) (p3 y) (by rw[t3];exact FH _ _ _ W)
  (iO _ _ _ _ _ n4 W _ _ _ _ (p4 x) (p4 y) (by rw[t4];exact FH _ _ _ W)
  (iO _ _ _ _ _ n5 W _ _ _ _ (p5 x) (p5 y) (by rw[t5];exact FH _ _ _ W) (by simp[wG])))))
@[go_sem ↓]theorem aGg(x y:Tu)(W:ak):(jg 10000 81 (.d x.ay) (.d y.ay)).I ah W=.ok (decide (x=y)) W:=Zd x y 9996 W
theorem ajk:ah.k 86=some (.d (ah.fieldsOf 86)):=by
 simp only[jP,mV]
theorem apU:∃f1 f2 f3 f4 f5:nS,(ah.fieldsOf 86).a=[f1,f2,f3,f4,f5]/\(f1.E ≠ "_" /\ f2.E ≠ "_" /\ f3.E ≠ "_" /\ f4.E ≠ "_" /\ f5.E ≠ "_")/\(f1.p=81/\f1.Z=0)/\(f2.p=9/\f2.Z=37)/\(f3.p=3/\f3.Z=38)/\(f4.p=3/\f4.Z=39)/\(f5.p=3/\f5.Z=40):=by
 refine⟨_,_,_,_,_,by simp only[jP,mV];rfl,⟨?_,?_,?_,?_,?_⟩,⟨rfl,rfl⟩,⟨rfl,rfl⟩,⟨rfl,rfl⟩,⟨rfl,rfl⟩,⟨rfl,rfl⟩⟩<;>decide
theorem ajl(x y:Fw)(d:Nat)(W:ak):(jg (d+5) 86 (.d x.ay) (.d y.ay)).I ah W=.ok (decide (x=y)) W:=by
 rw[zu W (d+4) _ _ _ ajk Tryz.stoodInHeld86];obtain⟨f1,f2,f3,f4,f5,hl,⟨n1,n2,n3,n4,n5⟩,⟨t1,o1⟩,⟨t2,o2⟩,⟨t3,o3⟩,⟨t4,o4⟩,⟨t5,o5⟩⟩:=apU;rw[hl];have p1:∀z:Fw,(part f1.p z.ay f1.Z).I ah W=.ok (.d z.key.ay) W:=fun z=>by
  rw[t1,o1,Ej (n:=37) (by simp only[jW]) (by kernel_rfl) z.ay 0 W,bl,Fw.Dl]
 have p2:∀z:Fw,(part f2.p z.ay f2.Z).I ah W=.ok (.string (bK z.E)) W:=fun z=>by
  rw[t2,o2];exact o9 (by simp only[Tryz.underlying9]) (Fw.Vv z) W
 have p3:∀z:Fw,(part f3.p z.ay f3.Z).I ah W=.ok (.b .a z.vT) W:=fun z=>by
  rw[t3,o3];exact o9 (by simp only[gQ]) (Fw.afR z) W
 have p4:∀z:Fw,(part f4.p z.ay f4.Z).I ah W=.ok (.b .a z.seen) W:=fun z=>by
  rw[t4,o4];exact o9 (by simp only[gQ]) (Fw.aa3 z) W
 have p5:∀z:Fw,(part f5.p z.ay f5.Z).I ah W=.ok (.b .a z.no) W:=fun z=>by
  rw[t5,o5];exact o9 (by simp only[gQ]) (Fw.Vw z) W
 rw[show decide (x=y)=(decide (x.key=y.key)&&((x.E==y.E)&&((x.vT==y.vT)&&((x.seen==y.seen)&&((x.no==y.no)&&true)))))by
  rw[dA];cases x;cases y;simp]
 exact iO _ _ _ _ _ n1 W _ _ _ _ (p1 x) (p1 y) (by rw[t1];exact Zd _ _ d W)
  (iO _ _ _ _ _ n2 W _ _ _ _ (p2 x) (p2 y) (by rw[t2];exact OH _ _ _ W)
  (iO _ _ _ _ _ n3 W _ _ _ _ (p3 x) (p3 y) (by rw[t3];exact FH _ _ _ W)
  (iO _ _ _ _ _ n4 W _ _ _ _ (p4 x) (p4 y) (by rw[t4];exact FH _ _ _ W)
  (iO _ _ _ _ _ n5 W _ _ _ _ (p5 x) (p5 y) (by rw[t5];exact FH _ _ _ W) (by simp[wG])))))
@[go_sem ↓]theorem aGh(x y:Fw)(W:ak):(jg 10000 86 (.d x.ay) (.d y.ay)).I ah W=.ok (decide (x=y)) W:=ajl x y 9995 W
def af0(s t:pG):Bool:=Uz s.Y s.qU t.Y t.qU&&decide (s.G=t.G)&&decide (s.h=t.h)&&(s.gF==t.gF)&&(s.no==t.no)&&decide (s.lW=t.lW)
theorem apV(l m:List Hl)(A B:Option aS)(n k c d:Nat)(w:ak)(hR:RdH w w.a.j A n l)(hT:RdH w w.a.j B k m)(hn:n<=4611686018427387904)(hk:k<=4611686018427387904):
 aQ ah 54 #[.a A n c,.a B k d] w (gM w (.e (decide (l=m)))):=by
 have HR:=ab hR;have HT:=ab hT;have HN:=ab hR.1;have HK:=ab hT.1;clear hR hT;by_cases hlm:n=k;rotate_left
 ·have hne:((n:Int) != (k:Int))=true:=by rw[bne_iff_ne];omega
  have HF:=ab (show decide (l=m)=false from decide_eq_false (fun e=>hlm (by rw[<-HN.i,<-HK.i,e])));clear hlm;go_enter Tryz.func54,Tryz.ntmps54;go_wp2;go_ret;exact⟨by rw[HF.i];rfl,aH _ _⟩
 subst hlm;have hbn:((n:Int) != (n:Int))=false:=by simp
 go_enter Tryz.func54,Tryz.ntmps54;go_wp2;go_loopw [13] (fun s5 wr=>∃i:Nat,i<=n/\s5=.b .a i/\l.d i=m.d i/\aL w.a.j w wr) (fun s5 _=>n-(intOf s5).e)
 case atStart=>exact⟨0,by omega,rfl,rfl,aH _ _⟩
 case round=>
  obtain⟨i,hin,rfl,hall,hb⟩:=hrel;have HA:=ab hall;have HB:=ab hb;clear hall hb;by_cases hlt:i<n
  ·have hi:(i:Int)<n:=by omega
   obtain⟨b,o,rfl,hbb,hh,hc,_,_⟩:=(HR.i.S HB.i).hl hlt;obtain⟨b2,o2,rfl,acU,hh2,hc2,_,_⟩:=(HT.i.S HB.i).hl hlt;obtain⟨x,hx⟩:=dw (l.b i kY);obtain⟨y,hy⟩:=dw (m.b i kY);rw[<-hx]at hc;rw[<-hy]at hc2;have HX:=ab hx;have HY:=ab hy;clear hx hy hbb acU;by_cases hq:x=y
   ·have he:aiu x y=true:=by rw[ahb];simpa using hq
    have HS:=ab (show l.d (i+1)=m.d (i+1)by
     rw[<-oD kY l i (by rw[HN.i];exact hlt),<-oD kY m i (by rw[HK.i];exact hlt),HA.i,<-HX.i,<-HY.i,hq])
    clear hq;go_wp2;go_quiet (fail);go_wp2;go_roundw
    case rel=>exact⟨i+1,by omega,by go_num,HS.i,fO HB.i _⟩
    case measure=>simp[intOf]<;>omega
   ·have he:aiu x y=false:=by rw[ahb];simpa using hq
    have HF:=ab (show decide (l=m)=false from decide_eq_false (fun e=>hq (by rw[HX.i,HY.i,e])));clear hq;go_wp2;go_quiet (fail);go_wp2;go_ret;exact⟨by rw[HF.i];rfl,fO HB.i _⟩
  ·obtain rfl:i=n:=by omega
   have hd:decide ((i:Int)<i)=false:=by simp
   have HT2:=ab (show decide (l=m)=true from decide_eq_true (by
    have:=HA.i
    rwa [aK (by rw[HN.i];omega),aK (by rw[HK.i];omega)]at this))
   go_wp2;go_ret;exact⟨by rw[HT2.i];rfl,HB.i⟩
theorem apW(l m:List Fw)(A B:Option aS)(n k c d:Nat)(w:ak)(hR:gX Fw.ay 41 w w.a.j A n l)(hT:gX Fw.ay 41 w w.a.j B k m)(hn:n<=4611686018427387904)(hk:k<=4611686018427387904):
 aQ ah 55 #[.a A n c,.a B k d] w (gM w (.e (decide (l=m)))):=by
 have HR:=ab hR;have HT:=ab hT;have HN:=ab hR.1;have HK:=ab hT.1;clear hR hT;by_cases hlm:n=k;rotate_left
 ·have hne:((n:Int) != (k:Int))=true:=by rw[bne_iff_ne];omega
  have HF:=ab (show decide (l=m)=false from decide_eq_false (fun e=>hlm (by rw[<-HN.i,<-HK.i,e])));clear hlm;go_enter Tryz.func55,Tryz.ntmps55;go_wp2;go_ret;exact⟨by rw[HF.i];rfl,aH _ _⟩
 subst hlm;have hbn:((n:Int) != (n:Int))=false:=by simp
 go_enter Tryz.func55,Tryz.ntmps55;go_wp2;go_loopw [13] (fun s5 wr=>∃i:Nat,i<=n/\s5=.b .a i/\l.d i=m.d i/\aL w.a.j w wr) (fun s5 _=>n-(intOf s5).e)
 case atStart=>exact⟨0,by omega,rfl,rfl,aH _ _⟩
 case round=>
  obtain⟨i,hin,rfl,hall,hb⟩:=hrel;have HA:=ab hall;have HB:=ab hb;clear hall hb;by_cases hlt:i<n
  ·have hi:(i:Int)<n:=by omega
   obtain⟨b,o,rfl,hbb,hh,hc⟩:=gX.fw (HR.i.S HB.i) hlt;obtain⟨b2,o2,rfl,acU,hh2,hc2⟩:=gX.fw (HT.i.S HB.i) hlt;obtain⟨x,hx⟩:=dw (l.b i jq);obtain⟨y,hy⟩:=dw (m.b i jq);rw[<-hx]at hc;rw[<-hy]at hc2;have HX:=ab hx;have HY:=ab hy;clear hx hy hbb acU;by_cases hq:x=y
   ·have he:decide (x=y)=true:=by simpa using hq
    have HS:=ab (show l.d (i+1)=m.d (i+1)by
     rw[<-oD jq l i (by rw[HN.i];exact hlt),<-oD jq m i (by rw[HK.i];exact hlt),HA.i,<-HX.i,<-HY.i,hq])
    clear hq;go_wp2;go_quiet (fail);go_wp2;go_roundw
    case rel=>exact⟨i+1,by omega,by go_num,HS.i,fO HB.i _⟩
    case measure=>simp[intOf]<;>omega
   ·have he:decide (x=y)=false:=by simpa using hq
    have HF:=ab (show decide (l=m)=false from decide_eq_false (fun e=>hq (by rw[HX.i,HY.i,e])));clear hq;go_wp2;go_quiet (fail);go_wp2;go_ret;exact⟨by rw[HF.i];rfl,fO HB.i _⟩
  ·obtain rfl:i=n:=by omega
   have hd:decide ((i:Int)<i)=false:=by simp
   have HT2:=ab (show decide (l=m)=true from decide_eq_true (by
    have:=HA.i
    rwa [aK (by rw[HN.i];omega),aK (by rw[HK.i];omega)]at this))
   go_wp2;go_ret;exact⟨by rw[HT2.i];rfl,HB.i⟩
theorem ajm(l m:List Bk)(hf:∀x∈l,x.rF)(hg:∀x∈m,x.rF)(v v':Int)(A B:Option aS)(n n' c d:Nat)(w:ak)(hR:gX Bk.ay 27 w w.a.j A n l)(hT:gX Bk.ay 27 w w.a.j B n' m)(hn:n<=4611686018427387903)(hm:n'<=4611686018427387903)(K:Bool)(hK:Uz v l v' m=K):
 aQ ah 53 #[.d #[.b .a v,.a A n c],.d #[.b .a v',.a B n' d]] w (gM w (.e K)):=by
 rw[<-aiT v v' hf hg]at hK;subst hK;obtain rfl:=hR.1;obtain rfl:=hT.1;exact aay l m v v' A B c d w hR hT (by omega) (by omega)
theorem adF(s:pG):af0 s s=true:=by unfold af0;simp[afk]
theorem af2(x y:Sh)(s t:pG)(w:ak)(h:StR w w.a.j x s)(k:StR w w.a.j y t)(J:Bool)(hJ:af0 s t=J):
 aQ ah 17 #[.d x.ay,.d y.ay] w (gM w (.e J)):=by
 obtain⟨v1,⟨bA,bn,bc⟩,⟨gA,gn,gc⟩,⟨fA,fn,fc⟩,tk,nn,ct⟩:=x;obtain⟨v2,⟨bA2,bn2,bc2⟩,⟨gA2,gn2,gc2⟩,⟨fA2,fn2,fc2⟩,tk2,nn2,ct2⟩:=y;obtain rfl:v1=s.Y:=h.Y;obtain rfl:tk=s.gF:=h.gF;obtain rfl:nn=s.no:=h.no;obtain rfl:ct=s.lW:=h.lW;obtain rfl:v2=t.Y:=k.Y;obtain rfl:tk2=t.gF:=k.gF;obtain rfl:nn2=t.no:=k.no;obtain rfl:ct2=t.lW:=k.lW;obtain⟨W1,hW1⟩:=dw ((w.alloc (.D (Sh.mk s.Y ⟨bA,bn,bc⟩ ⟨gA,gn,gc⟩ ⟨fA,fn,fc⟩ s.gF s.no s.lW).ay 37)).alloc (.D (Sh.mk t.Y ⟨bA2,bn2,bc2⟩ ⟨gA2,gn2,gc2⟩ ⟨fA2,fn2,fc2⟩ t.gF t.no t.lW).ay 37));have HB0:=ab (show aL w.a.j w W1 by rw[hW1];exact((aH w.a.j w).alloc (av _) _).alloc (by simp) _);have B0:=ab (show dJ W1 w.a.j (Sh.mk s.Y ⟨bA,bn,bc⟩ ⟨gA,gn,gc⟩ ⟨fA,fn,fc⟩ s.gF s.no s.lW).ay by rw[hW1];exact(dJ.new w _ _).alloc _);have C0:=ab (show dJ W1 (w.a.j+1) (Sh.mk t.Y ⟨bA2,bn2,bc2⟩ ⟨gA2,gn2,gc2⟩ ⟨fA2,fn2,fc2⟩ t.gF t.no t.lW).ay by rw[hW1];exact dJ.Ud w _ _ _);have HS:=ab h;have HT:=ab k;obtain⟨x1,x2,x3,x4⟩:=B0.i.K;have hl0:=B0.i.lt;obtain⟨y1,y2,y3,y4⟩:=C0.i.K;have hl1:=C0.i.lt;obtain⟨K1,hK1⟩:∃K,Uz s.Y s.qU t.Y t.qU=K:=⟨_,rfl⟩
 obtain⟨K2,hK2⟩:∃K,decide (s.G=t.G)=K:=⟨_,rfl⟩
 obtain⟨K3,hK3⟩:∃K,decide (s.h=t.h)=K:=⟨_,rfl⟩
 have HJ:=ab (show J=(K1&&K2&&K3&&(s.gF==t.gF)&&(s.no==t.no)&&decide (s.lW=t.lW))by rw[<-hJ,<-hK1,<-hK2,<-hK3];rfl);have P1:=ab (ajm s.qU t.qU h.rF k.rF s.Y t.Y bA bA2 bn bn2 bc bc2 W1 ((h.go HB0.i).b) ((k.go HB0.i).b) h.nb k.nb K1 hK1);have P2:=ab (fun W (hb:aL w.a.j w W)=>apV s.G t.G gA gA2 gn gn2 gc gc2 W (HS.i.h.go hb) (HT.i.h.go hb) (ql HS.i.nh) (ql HT.i.nh));have P3:=ab (fun W (hb:aL w.a.j w W)=>apW s.h t.h fA fA2 fn fn2 fc fc2 W (HS.i.f.go hb) (HT.i.f.go hb) (ql HS.i.nf) (ql HT.i.nf));rw[hK2]at P2;rw[hK3]at P3;clear h k hK1 hK2 hK3 hJ;subst hW1;go_enter Tryz.func17,Tryz.ntmps17;go_wp2_with fail
 (with_reducible refine P1.i.g ?_)
 rintro e w1 ⟨rfl,hb1⟩;have HB1:=ab (gV HB0.i hb1);have B1:=ab (B0.i.go hb1);have C1:=ab (C0.i.go hb1);clear hb1 x1 x2 x3 x4 hl0 y1 y2 y3 y4 hl1;obtain⟨x1,x2,x3,x4⟩:=B1.i.K;have hl0:=B1.i.lt;obtain⟨y1,y2,y3,y4⟩:=C1.i.K;have hl1:=C1.i.lt;cases K1
 ·go_wp2
  go_ret;exact⟨by rw[HJ.i];rfl,HB1.i⟩
 go_wp2_with fail
 (with_reducible refine(P2.i _ HB1.i).g ?_)
 rintro e w2 ⟨rfl,hb2⟩;have HB2:=ab (gV HB1.i hb2);have B2:=ab (B1.i.go hb2);have C2:=ab (C1.i.go hb2);clear hb2 x1 x2 x3 x4 hl0 y1 y2 y3 y4 hl1;obtain⟨x1,x2,x3,x4⟩:=B2.i.K;have hl0:=B2.i.lt;obtain⟨y1,y2,y3,y4⟩:=C2.i.K;have hl1:=C2.i.lt;cases K2
 ·go_wp2
  go_ret;exact⟨by rw[HJ.i];rfl,HB2.i⟩
 go_wp2_with fail
 (with_reducible refine(P3.i _ HB2.i).g ?_)
 rintro e w3 ⟨rfl,hb3⟩;have HB3:=ab (gV HB2.i hb3);have B3:=ab (B2.i.go hb3);have C3:=ab (C2.i.go hb3);clear hb3 x1 x2 x3 x4 hl0 y1 y2 y3 y4 hl1;obtain⟨x1,x2,x3,x4⟩:=B3.i.K;have hl0:=B3.i.lt;obtain⟨y1,y2,y3,y4⟩:=C3.i.K;have hl1:=C3.i.lt;cases K3
 ·go_wp2
  go_ret;exact⟨by rw[HJ.i];rfl,HB3.i⟩
 obtain⟨K4,hK4⟩:∃K,(s.gF==t.gF)=K:=⟨_,rfl⟩
 have HK4:=ab hK4;cases K4
 ·go_wp2
  go_ret;exact⟨by rw[HJ.i,HK4.i];rfl,HB3.i⟩
 obtain⟨K5,hK5⟩:∃K,(s.no==t.no)=K:=⟨_,rfl⟩
 have HK5:=ab hK5;cases K5
 ·go_wp2
  go_ret;exact⟨by rw[HJ.i,HK4.i,HK5.i];rfl,HB3.i⟩
 go_wp2;go_ret;exact⟨by rw[HJ.i,HK4.i,HK5.i];rfl,HB3.i⟩
section
theorem apX{a b:Tu}(ha:Y1 a)(hb:Y1 b)(h:Lj a=Lj b):a=b:=by
 have h1:=amx.fwd a [] ha;have h2:=amx.fwd b [] hb;rw[h,h2]at h1;injection h1 with h3 h4
 injection h3 with h5 h6
 exact h5.symm
theorem wT{f:Fw}(h:zU f=true):FP f.key=true:=by
 unfold zU at h;simp only[bf]at h;exact h.1.1.1.1.1
def kS(a b:Fw):Bool:=if a.no=b.no then bR (Lj a.key) (Lj b.key)else decide (a.no<b.no)
theorem tN:IL kS:=by
 refine⟨fun x=>by simp[kS,sK],fun x y z h1 h2=>?_⟩;unfold kS at *;by_cases e1:x.no=y.no
 ·rw[if_pos e1]at h1
  by_cases e2:y.no=z.no
  ·rw[if_pos e2]at h2
   rw[if_pos (e1.trans e2)];exact yc _ _ _ h1 h2
  ·rw[if_neg e2]at h2
   rw[if_neg (by omega)];simp only[decide_eq_true_eq]at h2 ⊢;omega
 ·rw[if_neg e1]at h1
  simp only[decide_eq_true_eq]at h1;by_cases e2:y.no=z.no
  ·rw[if_neg (by omega)]
   simp only[decide_eq_true_eq];omega
  ·rw[if_neg e2]at h2
   simp only[decide_eq_true_eq]at h2;rw[if_neg (by omega)];simp only[decide_eq_true_eq];omega
theorem QI{a b:Fw}(ha:Y1 a.key)(hb:Y1 b.key)(hne:a.key≠b.key):kS a b=true\/kS b a=true:=by
 unfold kS;by_cases e:a.no=b.no
 ·rw[if_pos e,if_pos e.symm]
  cases h1:bR (Lj a.key) (Lj b.key)
  ·cases h2:bR (Lj b.key) (Lj a.key)
   ·exact absurd (apX ha hb (zK _ _ h1 h2)) hne
   ·exact .b rfl
  ·exact .a rfl
 ·rw[if_neg e,if_neg (jh e)]
  simp only[decide_eq_true_eq];omega
theorem ajn{a b:Fw}(h:a.no<b.no):kS b a=false/\kS a b=true:=by
 unfold kS;rw[if_neg (by omega),if_neg (by omega)];simp only[decide_eq_false_iff_not,decide_eq_true_eq];omega
def qF(k:Tu)(x:Fw):Bool:=decide (x.key=k)
def lX(l:List Fw)(k:Tu):Option Fw:=l.find? (qF k)
def yJ(l:List Fw)(k:Tu):List Fw:=l.filter fun x=>!qF k x
def BM(room:Int)(l:List Fw)(f:Fw):List Fw:=
 if zU f then(if(lX l f.key).isSome then ins kS f (yJ l f.key)else if room<=l.a then ins kS f l.tail else ins kS f l)else l
def LH(now:Int)(kD:Vector Int 6)(l:List Fw):List Fw:=l.filter fun x=>!DU x.vT x.seen now kD
structure vI(room:Int)(l:List Fw):Prop where
 asc:Asc kS l
 one:l.Pairwise fun x y=>x.key≠y.key
 ok:∀x∈l,zU x=true
 len:(l.a:Int)<=room
theorem vI.sub{room:Int}{l m:List Fw}(h:vI room l)(hs:m.Sublist l):vI room m:=
 ⟨h.asc.sub hs,h.one.sublist hs,fun x hx=>h.ok x (hs.subset hx),by have:=hs.length_le;have:=h.len;omega⟩
theorem vI.nil{room:Int}(h:0<=room):vI room []:=⟨List.Pairwise.nil,.nil,(fun x hx=>by cases hx),by simpa using h⟩
theorem vJ{l:List Fw}{k:Tu}{x:Fw}(h:lX l k=some x):x∈l/\x.key=k:=by
 unfold lX at h;exact⟨List.mem_of_find?_eq_some h,by simpa[qF]using List.find?_some h⟩
theorem zf{l:List Fw}{k:Tu}(h:lX l k=none):∀x∈l,x.key≠k:=by
 unfold lX at h;rw[List.find?_eq_none]at h;intro x hx e;exact h x hx (by simp[qF,e])
theorem vI.VI{room:Int}{l:List Fw}(h:vI room l){x:Fw}(hx:x∈l):lX l x.key=some x:=by
 cases hf:lX l x.key with
 | none=>exact absurd rfl (zf hf x hx)
 | some y=>
   obtain⟨h1,h2⟩:=vJ hf;obtain⟨i,hi,e1⟩:=jv.1 h1;obtain⟨j,hj,e2⟩:=jv.1 hx;have:=List.pairwise_iff_getElem.1 h.one;rcases Nat.lt_trichotomy i j with hij|hij|hij
   ·exact absurd (by rw[e1,e2,h2]) (this i j hi hj hij)
   ·subst hij;rw[<-e1,<-e2]
   ·exact absurd (by rw[e1,e2,h2]) (this j i hj hi hij)
theorem vI.ins{room:Int}{l:List Fw}(h:vI room l){f:Fw}(hf:zU f=true)(hn:∀x∈l,x.key≠f.key)(hl:(l.a:Int)+1<=room):vI room (ins kS f l):=by
 have p:=Bv (lt:=kS) f l;refine⟨ahj tN h.asc (fun x hx=>QI (Nk (wT hf)) (Nk (wT (h.ok x hx))) (jh (hn x hx))),?_,?_,?_⟩
 ·refine(p.pairwise_iff (fun{a b} (hab:a.key≠b.key)=>jh hab)).2 (gL.2 ⟨fun x hx=>jh (hn x hx),h.one⟩)
 ·intro x hx
  rcases bB.1 (p.subset hx)with rfl|hx
  ·exact hf
  ·exact h.ok x hx
 ·rw[p.t,bD]
  simpa using hl
theorem Nn(l:List Fw)(k:Tu):(yJ l k).Sublist l:=List.filter_sublist
theorem amy{l:List Fw}{k:Tu}:∀x∈yJ l k,x.key≠k:=by
 intro x hx;have:=(mh.1 hx).2;simpa[qF]using this
theorem apY{l:List Fw}{k:Tu}(h:(lX l k).isSome=true):(yJ l k).a+1<=l.a:=by
 obtain⟨x,hx⟩:=Option.isSome_iff_exists.1 h;obtain⟨h1,h2⟩:=vJ hx;have:=List.length_filter_lt_length_iff_exists (l:=l) (p:=fun x=>!qF k x);exact this.2 ⟨x,h1,by simp[qF,h2]⟩
theorem vI.put{room:Int}{l:List Fw}(h:vI room l)(h0:1<=room)(f:Fw):vI room (BM room l f):=by
 unfold BM;split
 ·rename_i hf
  split
  ·rename_i hs
   have:=apY hs;have:=h.len;exact(h.sub (Nn l f.key)).ins hf amy (by omega)
  ·rename_i hs
   have hno:∀x∈l,x.key≠f.key:=zf (by simpa using hs);split
   ·refine(h.sub (List.tail_sublist l)).ins hf (fun x hx=>hno x (List.mem_of_mem_tail hx)) ?_
    have:=h.len;rw[List.length_tail];omega
   ·exact h.ins hf hno (by omega)
 ·exact h
theorem vI.ax0{room:Int}{l:List Fw}(h:vI room l)(now:Int)(kD:Vector Int 6):vI room (LH now kD l):=h.sub List.filter_sublist
structure TbR(hm:Tu->Nat)(s:List (Option Fw))(l:List Fw):Prop where
 tab:Tab Fw.key hm s
 Pb:(iw s).Perm l
variable {hm:Tu->Nat} {s:List (Option Fw)} {l:List Fw}
theorem TbR.mem(h:TbR hm s l){x:Fw}:x∈l↔∃i,i<s.a/\at_ s i=some x:=(h.Pb.mem_iff.symm).trans OZ
theorem TbR.stop{room:Int}(h:TbR hm s l)(ho:vI room l){k:Tu}{d:Nat}(hd:Found hm Fw.key s k d):at_ s ((hm k+d)%s.a)=lX l k:=by
 have hN:0<s.a:=by have:=hd.1;omega
 cases hf:lX l k with
 | none=>
   have hno:=zf hf;obtain⟨e,he,h1⟩:=h.tab.ahi (k:=k) (fun j x hj hx=>hno x (h.mem.2 ⟨j,hj,hx⟩));rw[hd.Hr he];exact h1
 | some x=>
   obtain⟨h1,h2⟩:=vJ hf;obtain⟨j,hj,hx⟩:=h.mem.1 h1;obtain⟨e,he,h3⟩:=h.tab.aaG hj hx h2;rw[hd.Hr he,h3];exact hx
theorem TbR.new{N:Nat}(hN:0<N)(h:∀k,hm k<N):TbR hm (dV N none) []:=⟨Tab.new hN h,by rw[UJ]⟩
theorem VJ{room:Int}(ho:vI room l){x:Fw}(hx:x∈l){m:List Fw}(hm':l.Perm (x::m)):m.Perm (yJ l x.key):=by
 have h1:(l.filter fun y=>!qF x.key y).Perm ((x::m).filter fun y=>!qF x.key y):=hm'.filter _;have e:(x::m).filter (fun y=>!qF x.key y)=m:=by
  rw[List.filter_cons_of_neg (by simp[qF])];refine wW.2 (fun y hy=>?_);have:=(hm'.pairwise_iff (fun{a b:Fw} (hab:a.key≠b.key)=>jh hab)).1 ho.one;have:=(gL.1 this).1 y hy;simp[qF,jh this]
 rw[e]at h1;exact h1.symm
theorem TbR.put{room:Int}(h:TbR hm s l)(ho:vI room l){f:Fw}{d:Nat}(hd:Found hm Fw.key s f.key d)(hl:l.a+1<s.a)(m:List Fw)(hm':m.Perm (f::yJ l f.key)):TbR hm (s.set ((hm f.key+d)%s.a) (some f)) m:=by
 have hN:0<s.a:=by omega
 have hj:(hm f.key+d)%s.a<s.a:=Nat.mod_lt _ hN;have hst:=h.stop ho hd;have hfull:=fun hlt=>(Lr s).1 hlt
 have hel:=h.Pb.t;cases hf:lX l f.key with
 | none=>
   rw[hf]at hst;have hc:yJ l f.key=l:=wW.2 (fun x hx=>by have:=zf hf x hx;simp[qF,this]);have he:=Lp s _ f hj hst;obtain⟨z,hz1,hz2⟩:=(Lr (s.set ((hm f.key+d)%s.a) (some f))).1 (by rw[he.t];simp;omega);rw[FT _ _ _ _ hj]at hz2;split at hz2
   ·cases hz2
   rename_i hne;refine⟨h.tab.put hd (by simpa using hz1) hz2 (jh hne),he.trans (((h.Pb.cons f)).trans ?_)⟩;rw[hc]at hm';exact hm'.symm
 | some x=>
   rw[hf]at hst;obtain⟨h1,h2⟩:=vJ hf;obtain⟨z,hz1,hz2⟩:=hfull (by omega);refine⟨h.tab.put hd hz1 hz2 (fun e=>by rw[e,hst]at hz2;cases hz2),?_⟩;have e1:=ze s _ f hj;have e2:=OY s _ x hj hst;have e3:=VJ ho h1 (h.Pb.symm.trans e2);rw[h2]at e3;exact e1.trans ((e3.cons f).trans hm'.symm)
theorem ajo{room:Int}(h:TbR hm s l)(ho:vI room l):(iw s).foldl (least kS) none=l.head?:=by
 cases l with
 | nil=>
   have:=h.Pb.t;rw[gH]at this;rw[List.eq_nil_of_length_eq_zero this];rfl
 | cons m t=>
   rw[List.head?_cons];refine ac7 tN (iw s) none (.a (h.Pb.symm.subset (by simp))) (fun x hx=>?_) (fun y hy=>by cases hy);rcases bB.1 (h.Pb.subset hx)with rfl|hx
   ·exact .a rfl
   ·exact .b (ho.asc.apb hx)
theorem amA{room:Int}{x:Fw}{t:List Fw}(ho:vI room (x::t)):yJ (x::t) x.key=t:=by
 unfold yJ;rw[List.filter_cons_of_neg (by simp[qF])];refine wW.2 (fun y hy=>?_);have:=(gL.1 ho.one).1 y hy;simp[qF,jh this]
end
structure oO(T:bM)(n:Nat)(z:Array aB):Prop where
 row:∃d,ah.k T=some d/\d.isRow=true
 j:(ah.l T).map (·.j)=some n
 zero:(ah.l T).map (·.zero)=some (some (.d z))
 zs:z.j=n
def xu(T:bM)(v:aB):xE aB:=bZ T v
def yS(T:bM)(v x:aB):xE Unit:=eF T v x
def uN(T:bM)(ps:Array (Nat×aB)):xE aB:=fI T ps
def gI(W:ak)(b o:Nat)(c:Array aB):ak:=W.setCells b o c.a
section
variable {T:bM} {n:Nat} {z:Array aB}
theorem oO.af4(K:oO T n z):∃i,ah.l T=some i/\i.j=n/\i.zero=some (.d z):=by
 have h1:=K.j;have h2:=K.zero;cases h:ah.l T with
 | none=>rw[h]at h1;cases h1
 | some i=>rw[h]at h1 h2;simp at h1 h2;exact⟨i,rfl,h1,h2⟩
theorem oO.ld(K:oO T n z)(W:ak)(b o:Nat)(h:xJ W b o n):(xu T (.c (some ⟨b,o,none⟩))).I ah W=.ok (.d (eu W b o n)) W:=by
 obtain⟨d,h1,h2⟩:=K.row;exact kg W b o n T d h1 h2 K.j h
theorem oO.stN(K:oO T n z)(W:ak)(c x:Array aB)(b:Nat)(hb:b=W.a.j)(hc:dZ c=n)(hx:x.j=n)(h1:x.all (·.h)=true):(yS T (.c (some ⟨b,0,none⟩)) (.d x)).I ah (W.alloc (.D c T))=.ok () (W.alloc (.D x T)):=by
 subst hb;exact yV W _ c x (by rw[hx];exact K.j) (by rw[hx];exact hc) h1
theorem oO.st(K:oO T n z)(W:ak)(b o:Nat)(x:Array aB)(h:W.O b o n)(hx:x.j=n)(h1:x.all (·.h)=true):(yS T (.c (some ⟨b,o,none⟩)) (.d x)).I ah W=.ok () (gI W b o x):=
 D8 W b o _ x (by rw[hx];exact h) (by rw[hx];exact K.j) h1
theorem oO.bd(K:oO T n z)(W:ak)(ps:Array (Nat×aB))(cells:Array aB)(fs:Array nS)(places:Array (Nat×Nat))(hu:ah.k T=some (.d fs))
 (hp:(iB (fun f=>Prod.mk f.Z <$> sizeOf f.p) fs:xE (Array (Nat×Nat))).I ah W=.ok places W) (hf:fB (places[·]?) z ps.a=some cells):(uN T ps).I ah W=.ok (.d cells) W:=by
 obtain⟨i,h1,h2,h3⟩:=K.af4;exact OB W T fs i z ps cells places hu h1 h3 hp hf
end
theorem kR{w W:ak}{B:Nat}(h:aL B w W)(b o:Nat)(x:Array aB)(hb:B<=b):aL B w (gI W b o x):=xU hb _ o W h
theorem lM{w W:ak}{g:Nat}(h:w.d W (some g))(o:Nat)(x:Array aB):w.d (gI W g o x) (some g):=Uh _ o W h
theorem dJ.put{W:ak}{b:Nat}{c:Array aB}(h:dJ W b c)(x:Array aB)(hx:x.j=c.j):dJ (gI W b 0 x) b x:=h.ak9 x hx
theorem dJ.gy{W:ak}{b b2 o:Nat}{c x:Array aB}(h:dJ W b c)(hne:b≠b2):dJ (gI W b2 o x) b c:=by
 have:∀(vs:List aB)(o:Nat)(W:ak),dJ W b c->dJ (W.setCells b2 o vs) b c:=by
  intro vs
  induction vs with
  | nil=>exact fun _ _ h=>h
  | cons v vs ih=>intro o W h;exact ih (o+1) _ (h.dM _ v (fun e=>hne e.symm))
 exact this _ _ _ h
def rO(place:Nat->Option (Nat×Nat)):Nat->List (Nat×aB)->Nat->Prop
 | off,[],n=>off=n
 | off,(i,v)::ps,n=>place i=some (off,v.D.j)/\rO place (off+v.D.j) ps n
def qN:List (Nat×aB)->Array aB
 | []=>#[]
 | (_,v)::ps=>v.D++qN ps
theorem VK(p r v:Array aB)(h:v.j<=r.j):sF (p++r) p.j v=(p++v)++r.m v.j r.j:=by
 apply dW;intro j;rw[Eh];simp only[nU,aD,Array.getElem?_extract];split
 ·rename_i h1
  rw[if_pos (by omega),if_neg (by omega)]
 ·rename_i h1
  split
  ·rename_i h2
   rw[if_pos (by omega)]
  ·rename_i h2
   by_cases h3:j<p.j+v.j
   ·omega
   ·rw[if_neg h3]
    by_cases h4:j-p.j<r.j
    ·rw[if_pos (by omega)];congr 1;omega
    ·rw[if_neg (by omega),aU (by omega)]
theorem Tj(place:Nat->Option (Nat×Nat)):∀(ps:List (Nat×aB))(p r:Array aB),rO place p.j ps (p.j+r.j)->fB place (p++r) ps=some (p++qN ps)
 | [],p,r,h=>by
   have:r = #[]:=Array.eq_empty_of_size_eq_zero (by have h':p.j=p.j+r.j:=h;omega);subst this;simp[fB,qN]
 | (i,v)::ps,p,r,h=>by
   obtain⟨h1,h2⟩:=h;have hle:∀(ps:List (Nat×aB))(a b:Nat),rO place a ps b->a<=b:=by
    intro ps
    induction ps with
    | nil=>intro a b h;exact aW h
    | cons q ps ih=>intro a b h;have:=ih _ _ h.2;omega
   have hl:=hle _ _ _ h2;rw[Ei place _ i p.j v.D.j v ps h1 rfl (by rw[nU];omega),VK p r v.D (by omega)];have:=Tj place ps (p++v.D) (r.m v.D.j r.j) (by
    rw[nU,jE]
    rwa [show p.j+v.D.j+(min r.j r.j-v.D.j)=p.j+r.j by omega])
   rw[this,qN,fP]
theorem uW{place:Nat->Option (Nat×Nat)}{ps:List (Nat×aB)}{z c:Array aB}{n:Nat}(hz:z.j=n)(h:rO place 0 ps n)(hc:qN ps=c):fB place z ps=some c:=by
 have:=Tj place ps #[] z (by simpa[hz]using h);simpa[hc]using this
theorem oO.bd0{T:bM}{n:Nat}{z:Array aB}(K:oO T n z)(W:ak)(fs:Array nS)(hu:ah.k T=some (.d fs))(hp:∃places,(iB (fun f=>Prod.mk f.Z <$> sizeOf f.p) fs:xE (Array (Nat×Nat))).I ah W=.ok places W):(uN T #[]).I ah W=.ok (.d z) W:=by
 obtain⟨places,hp⟩:=hp;exact K.bd W _ _ fs places hu hp (by simp[fB])
theorem pR{c:Array aB}{n:Nat}(h:c.j=n):c.m 0 n=c:=by rw[<-h];simp
theorem tY{c:Array aB}{k m:Nat}(h:c.j<=k):c.m k m = #[]:=by apply Array.eq_empty_of_size_eq_zero;simp;omega
def AO(v:Vector UInt8 6):Array aB:=(v.a.map bv).c
def iH(v:Vector UInt8 16):Array aB:=(v.a.map bv).c
theorem gD(v:Vector UInt8 6):(AO v).j=6:=by simp[AO]
theorem dH(v:Vector UInt8 16):(iH v).j=16:=by simp[iH]
theorem jH(v:Vector Int 6):(Kr v).j=6:=by simp[Kr]
theorem abd(v:Vector UInt8 6):(AO v).all (·.h)=true:=by simp[AO];intro x _;rfl
theorem apZ(v:Vector Int 6):(Kr v).all (·.h)=true:=by simp[Kr];intro x _;rfl
@[go_sem]theorem ar':eD #[bL false,aA,aA,aA,aA,aA,aA,aA,aA,aA,aA,aA,aA,aA,aA,aA,aA] 27=eD mX.ay 27:=rfl
@[go_sem]theorem awj:bY #[bL false,aA,aA,aA,aA,aA,aA,aA,aA,aA,aA,aA,aA,aA,aA,aA,aA]=bY mX.ay:=rfl
theorem abe:oO 27 17 mX.ay:=⟨⟨_,eZ,rfl⟩,by kernel_rfl,by kernel_rfl,fu.G _⟩
theorem kTu:oO 81 37 aff.ay:=⟨⟨_,jW,rfl⟩,by kernel_rfl,by kernel_rfl,Tu.G _⟩
@[go_sem ↓]theorem aGj(v x:aB):eF 27 v x=yS 27 v x:=rfl
@[go_sem]theorem aAO(W:ak)(c:Array aB)(x:fu)(b:Nat)(hb:b=W.a.j)(hc:dZ c=17):(yS 27 (.c (some ⟨b,0,none⟩)) (.d x.ay)).I ah (W.alloc (.D c 27))=.ok () (W.alloc (.D x.ay 27)):=abe.stN W c x.ay b hb hc (fu.G x) (fu.cK x)
@[go_sem]theorem aCW(W:ak)(b o:Nat)(x:fu)(h:W.O b o 17):(yS 27 (.c (some ⟨b,o,none⟩)) (.d x.ay)).I ah W=.ok () (gI W b o x.ay):=abe.st W b o x.ay h (fu.G x) (fu.cK x)
@[go_sem]theorem fu.all(x:fu):x.ay.m 0 17=x.ay:=pR (fu.G x)
theorem asa(x:aB)(b:Array aB)(j:Nat):(#[x]++b)[j+1]? = b[j]?:=by simp[aD]
section
variable {T:bM} {n:Nat} {z:Array aB} {fn:Func} {p u:Tmp} {W:ak} {b:Nat} {c:Array aB}
theorem oO.zh(K:oO T n z)(h:fn.results = #[.cell p T])(tmps:Array aB)(hp:tmps.b p undef=.c (some ⟨b,0,none⟩))(hb:dJ W b c)(hc:c.j=n):(results fn tmps).I ah W=.ok (.d c) W:=by
 obtain⟨t,hb⟩:=hb;obtain⟨d,h1,h2⟩:=K.row;exact results_cell_row h tmps W b t c (0,0) d hp hb h1 (by cases d<;>simp_all[TypeDesc.isRow]) (by rw[hc];exact K.j)
theorem oO.qB(K:oO T n z)(h:fn.results = #[.cell p T,.tmp u])(tmps:Array aB)(hp:tmps.b p undef=.c (some ⟨b,0,none⟩))(hb:dJ W b c)(hc:c.j=n):(results fn tmps).I ah W=.ok (.J #[.d c,tmps.b u undef]) W:=by
 obtain⟨_,_,h3,h4⟩:=hb.K;have hl:=K.ld W b 0 (by rw[h3 0 n (by unfold dZ;omega)];trivial);rw[h4 0 n (by unfold dZ;omega),bl,<-hc,Array.extract_size]at hl;unfold xu at hl;simp only[bZ,Instr.sureAddr,Sem.run_bind,Sem.run_pure,gJ]at hl;rw[results_cell_tmp h,hp];simp[asAddr,iD,hl]
end
structure Vp where
 h:fu
 aP:Int
 nH:Int
 VL:Bool
deriving DecidableEq
def Vp.ay(x:Vp):Array aB:=x.h.ay ++ #[.b .a x.aP,.b .a x.nH,.e x.VL]
theorem Vp.G(x:Vp):x.ay.j=20:=by simp[Vp.ay,fu.G]
theorem Vp.cK(x:Vp):x.ay.all (·.h)=true:=gW (fu.cK _) ((by simp[cB]))
@[go_sem]theorem Vp.dZ(x:Vp):dZ x.ay=20:=Vp.G x
@[go_sem]theorem Vp.all(x:Vp):x.ay.m 0 20=x.ay:=by have:=Vp.G x;rw[<-this];simp
@[go_sem]theorem Vp.Dp(x:Vp):x.ay.m 0 17=x.h.ay:=by simp[Vp.ay,bW,fu.G,pR,tY]
@[go_sem]theorem Vp.BR(x:Vp):x.ay[17]? = some (.b .a x.aP):=by simp[Vp.ay,aD,fu.G]
@[go_sem]theorem Vp.JZ(x:Vp):x.ay[18]? = some (.b .a x.nH):=by simp[Vp.ay,aD,fu.G]
@[go_sem]theorem Vp.ajp(x:Vp):x.ay[19]? = some (.e x.VL):=by simp[Vp.ay,aD,fu.G]
def nM:Vp:=⟨mX,0,0,false⟩
@[go_sem]theorem ax1:bY #[bL false,aA,aA,aA,aA,aA,aA,aA,aA,aA,aA,aA,aA,aA,aA,aA,aA,bg,bg,bL false]=bY nM.ay:=rfl
@[go_sem]theorem atT:eD #[bL false,aA,aA,aA,aA,aA,aA,aA,aA,aA,aA,aA,aA,aA,aA,aA,aA,bg,bg,bL false] 98=eD nM.ay 98:=rfl
theorem kVp:oO 98 20 nM.ay:=⟨⟨_,rZ,rfl⟩,by kernel_rfl,by kernel_rfl,Vp.G _⟩
@[go_sem ↓]theorem aIS(v:aB):bZ 98 v=xu 98 v:=rfl
@[go_sem ↓]theorem aIT(v x:aB):eF 98 v x=yS 98 v x:=rfl
@[go_sem]theorem aGk(W:ak)(b o:Nat)(h:xJ W b o 20):(xu 98 (.c (some ⟨b,o,none⟩))).I ah W=.ok (.d (eu W b o 20)) W:=kVp.ld W b o h
@[go_sem]theorem aCX(W:ak)(c:Array aB)(x:Vp)(b:Nat)(hb:b=W.a.j)(hc:dZ c=20):(yS 98 (.c (some ⟨b,0,none⟩)) (.d x.ay)).I ah (W.alloc (.D c 98))=.ok () (W.alloc (.D x.ay 98)):=kVp.stN W c x.ay b hb hc (Vp.G x) (Vp.cK x)
@[go_sem]theorem aGl(W:ak)(b o:Nat)(x:Vp)(h:W.O b o 20):(yS 98 (.c (some ⟨b,o,none⟩)) (.d x.ay)).I ah W=.ok () (gI W b o x.ay):=kVp.st W b o x.ay h (Vp.G x) (Vp.cK x)
@[go_sem ↓]theorem aIU(ps:Array (Nat×aB)):fI 98 ps=uN 98 ps:=rfl
theorem ax2(w:ak)(fs:Array nS)(h:ah.k 98=some (.d fs)):(iB (fun f=>Prod.mk f.Z <$> sizeOf f.p) fs:xE (Array (Nat×Nat))).I ah w=.ok #[(0,17),(17,1),(18,1),(19,1)] w:=by
 have e:=rZ;rw[h]at e;cases e;show _=_
 kernel_rfl
@[go_sem]theorem aCY(W:ak):(uN 98 #[]).I ah W=.ok (.d nM.ay) W:=kVp.bd0 W _ rZ ⟨_,ax2 W _ rZ⟩
structure Cn where
 qG:Option aS
 iI:Nat
 qH:Nat
 j:Int
 Y:Int
 kD:Vector Int 6
 ko:Int
 fall:Int
 FJ:Vector UInt8 6
 Cv:fu
 h:fu
 af5:Int
 keep:Int
 VO:Int
def Cn.ay(x:Cn):Array aB:=#[.a x.qG x.iI x.qH,.b .a x.j,.b .a x.Y]++(Kr x.kD++(#[.b .a x.ko,.b .a x.fall]++(AO x.FJ++(x.Cv.ay++(x.h.ay ++ #[.b .a x.af5,.b .a x.keep,.b .a x.VO])))))
theorem Cn.G(x:Cn):x.ay.j=54:=by simp[Cn.ay,fu.G,gD,jH]
theorem Cn.cK(x:Cn):x.ay.all (·.h)=true:=gW ((by simp[cB])) (gW (apZ _) (gW ((by simp[cB])) (gW (abd _) (gW (fu.cK _) (gW (fu.cK _) ((by simp[cB])))))))
@[go_sem]theorem Cn.dZ(x:Cn):dZ x.ay=54:=Cn.G x
@[go_sem]theorem Cn.all(x:Cn):x.ay.m 0 54=x.ay:=by have:=Cn.G x;rw[<-this];simp
@[go_sem]theorem Cn.J3(x:Cn):x.ay[0]? = some (.a x.qG x.iI x.qH):=by simp[Cn.ay,aD,fu.G,gD,jH]
@[go_sem]theorem Cn.Dq(x:Cn):x.ay[1]? = some (.b .a x.j):=by simp[Cn.ay,aD,fu.G,gD,jH]
@[go_sem]theorem Cn.Tm(x:Cn):x.ay[2]? = some (.b .a x.Y):=by simp[Cn.ay,aD,fu.G,gD,jH]
@[go_sem]theorem Cn.Tp(x:Cn):x.ay.m 3 9=Kr x.kD:=by simp[Cn.ay,bW,fu.G,gD,jH,pR,tY]
@[go_sem]theorem Cn.Tq(x:Cn):x.ay[9]? = some (.b .a x.ko):=by simp[Cn.ay,aD,fu.G,gD,jH]
@[go_sem]theorem Cn.Tt(x:Cn):x.ay[10]? = some (.b .a x.fall):=by simp[Cn.ay,aD,fu.G,gD,jH]
@[go_sem]theorem Cn.af6(x:Cn):x.ay.m 11 17=AO x.FJ:=by simp[Cn.ay,bW,fu.G,gD,jH,pR,tY]
@[go_sem]theorem Cn.abf(x:Cn):x.ay.m 17 34=x.Cv.ay:=by simp[Cn.ay,bW,fu.G,gD,jH,pR,tY]
@[go_sem]theorem Cn.af7(x:Cn):x.ay.m 34 51=x.h.ay:=by simp[Cn.ay,bW,fu.G,gD,jH,pR,tY]
@[go_sem]theorem Cn.aAP(x:Cn):x.ay[51]? = some (.b .a x.af5):=by simp[Cn.ay,aD,fu.G,gD,jH]
@[go_sem]theorem Cn.abg(x:Cn):x.ay[52]? = some (.b .a x.keep):=by simp[Cn.ay,aD,fu.G,gD,jH]
@[go_sem]theorem Cn.ax3(x:Cn):x.ay[53]? = some (.b .a x.VO):=by simp[Cn.ay,aD,fu.G,gD,jH]
theorem Cn.Np(x:Cn)(A:Option aS)(n c:Nat):x.ay.c 0 (.a A n c)=({x with qG:=A,iI:=n,qH:=c}:Cn).ay:=by simp[Cn.ay,aM,fu.G,gD,jH]
def Py:Cn:=⟨none,0,0,0,0,(bF 6 0),0,0,(bF 6 0),mX,mX,0,0,0⟩
@[go_sem]theorem ax4:bY #[bC none 0 0,bg,bg,bg,bg,bg,bg,bg,bg,bg,bg,aA,aA,aA,aA,aA,aA,bL false,aA,aA,aA,aA,aA,aA,aA,aA,aA,aA,aA,aA,aA,aA,aA,aA,bL false,aA,aA,aA,aA,aA,aA,aA,aA,aA,aA,aA,aA,aA,aA,aA,aA,bg,bg,bg]=bY Py.ay:=rfl
@[go_sem]theorem atU:eD #[bC none 0 0,bg,bg,bg,bg,bg,bg,bg,bg,bg,bg,aA,aA,aA,aA,aA,aA,bL false,aA,aA,aA,aA,aA,aA,aA,aA,aA,aA,aA,aA,aA,aA,aA,aA,bL false,aA,aA,aA,aA,aA,aA,aA,aA,aA,aA,aA,aA,aA,aA,aA,aA,bg,bg,bg] 29=eD Py.ay 29:=rfl
theorem Xy:oO 29 54 Py.ay:=⟨⟨_,mW,rfl⟩,by kernel_rfl,by kernel_rfl,Cn.G _⟩
@[go_sem ↓]theorem aIV(v:aB):bZ 29 v=xu 29 v:=rfl
@[go_sem ↓]theorem aIW(v x:aB):eF 29 v x=yS 29 v x:=rfl
@[go_sem]theorem aGm(W:ak)(b o:Nat)(h:xJ W b o 54):(xu 29 (.c (some ⟨b,o,none⟩))).I ah W=.ok (.d (eu W b o 54)) W:=Xy.ld W b o h
@[go_sem]theorem aCZ(W:ak)(c:Array aB)(x:Cn)(b:Nat)(hb:b=W.a.j)(hc:dZ c=54):(yS 29 (.c (some ⟨b,0,none⟩)) (.d x.ay)).I ah (W.alloc (.D c 29))=.ok () (W.alloc (.D x.ay 29)):=Xy.stN W c x.ay b hb hc (Cn.G x) (Cn.cK x)
@[go_sem]theorem aGn(W:ak)(b o:Nat)(x:Cn)(h:W.O b o 54):(yS 29 (.c (some ⟨b,o,none⟩)) (.d x.ay)).I ah W=.ok () (gI W b o x.ay):=Xy.st W b o x.ay h (Cn.G x) (Cn.cK x)
@[go_sem ↓]theorem aIX(ps:Array (Nat×aB)):fI 29 ps=uN 29 ps:=rfl
theorem atV(w:ak)(fs:Array nS)(h:ah.k 29=some (.d fs)):(iB (fun f=>Prod.mk f.Z <$> sizeOf f.p) fs:xE (Array (Nat×Nat))).I ah w=.ok #[(0,1),(1,1),(2,1),(3,6),(9,1),(10,1),(11,6),(17,17),(34,17),(51,1),(52,1),(53,1)] w:=by
 have e:=mW;rw[h]at e;cases e;show _=_
 kernel_rfl
@[go_sem]theorem aC0(W:ak):(uN 29 #[]).I ah W=.ok (.d Py.ay) W:=Xy.bd0 W _ mW ⟨_,atV W _ mW⟩
def adH(v:Vp):Bool:=qE v.h&&(v.aP==6||v.aP==17)&&(decide (1<=v.nH)&&decide (v.nH<=65535))
def yg(a:fu)(p q:Int)(v:Vp):Bool:=decide (v.h=a)&&v.aP==p&&v.nH==q
def xw(l:List Vp)(a:fu)(p q:Int):Option Nat:=l.findIdx? (yg a p q)
def DV(l:List Vp)(i:Nat):Bool:=adH (l.b i nM) && !(l.d i).any (yg (l.b i nM).h (l.b i nM).aP (l.b i nM).nH)
def yT(l:List Vp):Bool:=decide (l.a<=64)&&(dX l.a).all (DV l)
def BU(v:Vector Int 6):Bool:=v.a.b 0 0==0&&(dX 6).all fun i=>decide (0<=v.a.b i 0)&&decide (v.a.b i 0<=1000000)
def yh(x:Cn)(l:List Vp):Bool:=BU x.kD&&yT l&&(decide (2<=x.j)&&decide (x.j<=65537)&&kZ x.j.e)&&(decide (1<=x.Y)&&decide (x.Y<=4096))&&(decide (1<=x.ko)&&decide (x.ko<=100))&&(decide (1<=x.fall)&&decide (x.fall<=100))
 && (!x.Cv.h&&qE x.Cv)&&x.h.h&&(decide (1000<=x.af5)&&decide (x.af5<=1048576))&&(decide (1<=x.keep)&&decide (x.keep<=100))&&(decide (1<=x.VO)&&decide (x.VO<=1000))
abbrev RdV:=gX Vp.ay 20
structure Fo where
 head:Int
 dz:Int
 Ot:Int
 id:Int
 oG:Bool
 keep:Bool
 LJ:Int
 aP:Int
 h:fu
 Y:fu
def Fo.ay(x:Fo):Array aB:=#[.b .a x.head,.b .a x.dz,.b .a x.Ot,.b .a x.id,.e x.oG,.e x.keep,.b .a x.LJ,.b .a x.aP]++(x.h.ay++x.Y.ay)
theorem Fo.G(x:Fo):x.ay.j=42:=by simp[Fo.ay,fu.G]
theorem Fo.cK(x:Fo):x.ay.all (·.h)=true:=gW ((by simp[cB])) (gW (fu.cK _) (fu.cK _))
@[go_sem]theorem Fo.dZ(x:Fo):dZ x.ay=42:=Fo.G x
@[go_sem]theorem Fo.J4(x:Fo):x.ay[0]? = some (.b .a x.head):=by simp[Fo.ay,aD,fu.G]
@[go_sem]theorem Fo.yj(x:Fo):x.ay[1]? = some (.b .a x.dz):=by simp[Fo.ay,aD,fu.G]
@[go_sem]theorem Fo.atW(x:Fo):x.ay[2]? = some (.b .a x.Ot):=by simp[Fo.ay,aD,fu.G]
@[go_sem]theorem Fo.ax6(x:Fo):x.ay[3]? = some (.b .a x.id):=by simp[Fo.ay,aD,fu.G]
@[go_sem]theorem Fo.Tv(x:Fo):x.ay[4]? = some (.e x.oG):=by simp[Fo.ay,aD,fu.G]
@[go_sem]theorem Fo.abg(x:Fo):x.ay[5]? = some (.e x.keep):=by simp[Fo.ay,aD,fu.G]
@[go_sem]theorem Fo.atX(x:Fo):x.ay[6]? = some (.b .a x.LJ):=by simp[Fo.ay,aD,fu.G]
@[go_sem]theorem Fo.BR(x:Fo):x.ay[7]? = some (.b .a x.aP):=by simp[Fo.ay,aD,fu.G]
@[go_sem]theorem Fo.I7(x:Fo):x.ay.m 8 25=x.h.ay:=by simp[Fo.ay,bW,fu.G,pR,tY]
@[go_sem]theorem Fo.I8(x:Fo):x.ay.m 25 42=x.Y.ay:=by simp[Fo.ay,bW,fu.G,pR,tY]
def xA:Fo:=⟨0,0,0,0,false,false,0,0,mX,mX⟩
@[go_sem]theorem ax7:bY #[bg,bg,bg,bg,bL false,bL false,bg,bg,bL false,aA,aA,aA,aA,aA,aA,aA,aA,aA,aA,aA,aA,aA,aA,aA,aA,bL false,aA,aA,aA,aA,aA,aA,aA,aA,aA,aA,aA,aA,aA,aA,aA,aA]=bY xA.ay:=rfl
@[go_sem]theorem atY:eD #[bg,bg,bg,bg,bL false,bL false,bg,bg,bL false,aA,aA,aA,aA,aA,aA,aA,aA,aA,aA,aA,aA,aA,aA,aA,aA,bL false,aA,aA,aA,aA,aA,aA,aA,aA,aA,aA,aA,aA,aA,aA,aA,aA] 192=eD xA.ay 192:=rfl
theorem kFo:oO 192 42 xA.ay:=⟨⟨_,oU,rfl⟩,by kernel_rfl,by kernel_rfl,Fo.G _⟩
@[go_sem ↓]theorem aIY(v:aB):bZ 192 v=xu 192 v:=rfl
@[go_sem ↓]theorem aIZ(v x:aB):eF 192 v x=yS 192 v x:=rfl
@[go_sem]theorem aC1(W:ak)(c:Array aB)(x:Fo)(b:Nat)(hb:b=W.a.j)(hc:dZ c=42):(yS 192 (.c (some ⟨b,0,none⟩)) (.d x.ay)).I ah (W.alloc (.D c 192))=.ok () (W.alloc (.D x.ay 192)):=kFo.stN W c x.ay b hb hc (Fo.G x) (Fo.cK x)
@[go_sem]theorem aGo(W:ak)(b o:Nat)(x:Fo)(h:W.O b o 42):(yS 192 (.c (some ⟨b,o,none⟩)) (.d x.ay)).I ah W=.ok () (gI W b o x.ay):=kFo.st W b o x.ay h (Fo.G x) (Fo.cK x)
@[go_sem ↓]theorem aI0(ps:Array (Nat×aB)):fI 192 ps=uN 192 ps:=rfl
theorem atZ(w:ak)(fs:Array nS)(h:ah.k 192=some (.d fs)):(iB (fun f=>Prod.mk f.Z <$> sizeOf f.p) fs:xE (Array (Nat×Nat))).I ah w=.ok #[(0,1),(1,1),(2,1),(3,1),(4,1),(5,1),(6,1),(7,1),(8,17),(25,17)] w:=by
 have e:=oU;rw[h]at e;cases e;show _=_
 kernel_rfl
@[go_sem]theorem aC2(W:ak):(uN 192 #[]).I ah W=.ok (.d xA.ay) W:=kFo.bd0 W _ oU ⟨_,atZ W _ oU⟩
@[go_sem]theorem ax8(W:ak)(head:Int)(dz:Int)(Ot:Int)(id:Int)(oG:Bool)(keep:Bool)(LJ:Int)(aP:Int)(src:fu)(dst:fu):(uN 192 #[(0,.b .a head),(1,.b .a dz),(2,.b .a Ot),(3,.b .a id),(4,.e oG),(5,.e keep),(6,.b .a LJ),(7,.b .a aP),(8,.d (src.ay)),(9,.d (dst.ay))]).I ah W=.ok (.d (Fo.mk head dz Ot id oG keep LJ aP src dst).ay) W:=kFo.bd W _ _ _ _ oU (atZ W _ oU) (by
 refine uW (Fo.G _) ?_ ?_
 ·simp[rO,cO,fu.G]
 ·simp[qN,cO,Fo.ay]<;>(simp only[<-fP];rfl))
structure Sx where
 head:Int
 dz:Int
 Hu:Int
 oG:Bool
 Hw:Int
 aP:Int
 h:fu
 Y:fu
def Sx.ay(x:Sx):Array aB:=#[.b .a x.head,.b .a x.dz,.b .a x.Hu,.e x.oG,.b .a x.Hw,.b .a x.aP]++(x.h.ay++x.Y.ay)
theorem Sx.G(x:Sx):x.ay.j=40:=by simp[Sx.ay,fu.G]
theorem Sx.cK(x:Sx):x.ay.all (·.h)=true:=gW ((by simp[cB])) (gW (fu.cK _) (fu.cK _))
@[go_sem]theorem Sx.dZ(x:Sx):dZ x.ay=40:=Sx.G x
@[go_sem]theorem Sx.all(x:Sx):x.ay.m 0 40=x.ay:=by have:=Sx.G x;rw[<-this];simp
@[go_sem]theorem Sx.J4(x:Sx):x.ay[0]? = some (.b .a x.head):=by simp[Sx.ay,aD,fu.G]
@[go_sem]theorem Sx.yj(x:Sx):x.ay[1]? = some (.b .a x.dz):=by simp[Sx.ay,aD,fu.G]
@[go_sem]theorem Sx.at1(x:Sx):x.ay[2]? = some (.b .a x.Hu):=by simp[Sx.ay,aD,fu.G]
@[go_sem]theorem Sx.Tv(x:Sx):x.ay[3]? = some (.e x.oG):=by simp[Sx.ay,aD,fu.G]
@[go_sem]theorem Sx.ap1(x:Sx):x.ay[4]? = some (.b .a x.Hw):=by simp[Sx.ay,aD,fu.G]
@[go_sem]theorem Sx.BR(x:Sx):x.ay[5]? = some (.b .a x.aP):=by simp[Sx.ay,aD,fu.G]
@[go_sem]theorem Sx.I7(x:Sx):x.ay.m 6 23=x.h.ay:=by simp[Sx.ay,bW,fu.G,pR,tY]
@[go_sem]theorem Sx.I8(x:Sx):x.ay.m 23 40=x.Y.ay:=by simp[Sx.ay,bW,fu.G,pR,tY]
theorem Sx.Nq(x:Sx)(v:Int):x.ay.c 0 (.b .a v)=({x with head:=v}:Sx).ay:=by simp[Sx.ay,aM,fu.G]
theorem Sx.amB(x:Sx)(v:Bool):x.ay.c 3 (.e v)=({x with oG:=v}:Sx).ay:=by simp[Sx.ay,aM,fu.G]
theorem Sx.amC(x:Sx)(v:Int):x.ay.c 4 (.b .a v)=({x with Hw:=v}:Sx).ay:=by simp[Sx.ay,aM,fu.G]
theorem Sx.Ze(x:Sx)(v:Int):x.ay.c 5 (.b .a v)=({x with aP:=v}:Sx).ay:=by simp[Sx.ay,aM,fu.G]
def qC:Sx:=⟨0,0,0,false,0,0,mX,mX⟩
@[go_sem]theorem ax9:bY #[bg,bg,bg,bL false,bg,bg,bL false,aA,aA,aA,aA,aA,aA,aA,aA,aA,aA,aA,aA,aA,aA,aA,aA,bL false,aA,aA,aA,aA,aA,aA,aA,aA,aA,aA,aA,aA,aA,aA,aA,aA]=bY qC.ay:=rfl
@[go_sem]theorem at5:eD #[bg,bg,bg,bL false,bg,bg,bL false,aA,aA,aA,aA,aA,aA,aA,aA,aA,aA,aA,aA,aA,aA,aA,aA,bL false,aA,aA,aA,aA,aA,aA,aA,aA,aA,aA,aA,aA,aA,aA,aA,aA] 189=eD qC.ay 189:=rfl
theorem kSx:oO 189 40 qC.ay:=⟨⟨_,oV,rfl⟩,by kernel_rfl,by kernel_rfl,Sx.G _⟩
@[go_sem ↓]theorem aI1(v:aB):bZ 189 v=xu 189 v:=rfl
@[go_sem ↓]theorem aI2(v x:aB):eF 189 v x=yS 189 v x:=rfl
@[go_sem]theorem aGp(W:ak)(b o:Nat)(h:xJ W b o 40):(xu 189 (.c (some ⟨b,o,none⟩))).I ah W=.ok (.d (eu W b o 40)) W:=kSx.ld W b o h
@[go_sem]theorem aC3(W:ak)(c:Array aB)(x:Sx)(b:Nat)(hb:b=W.a.j)(hc:dZ c=40):(yS 189 (.c (some ⟨b,0,none⟩)) (.d x.ay)).I ah (W.alloc (.D c 189))=.ok () (W.alloc (.D x.ay 189)):=kSx.stN W c x.ay b hb hc (Sx.G x) (Sx.cK x)
@[go_sem]theorem aGq(W:ak)(b o:Nat)(x:Sx)(h:W.O b o 40):(yS 189 (.c (some ⟨b,o,none⟩)) (.d x.ay)).I ah W=.ok () (gI W b o x.ay):=kSx.st W b o x.ay h (Sx.G x) (Sx.cK x)
@[go_sem ↓]theorem aI3(ps:Array (Nat×aB)):fI 189 ps=uN 189 ps:=rfl
theorem at6(w:ak)(fs:Array nS)(h:ah.k 189=some (.d fs)):(iB (fun f=>Prod.mk f.Z <$> sizeOf f.p) fs:xE (Array (Nat×Nat))).I ah w=.ok #[(0,1),(1,1),(2,1),(3,1),(4,1),(5,1),(6,17),(23,17)] w:=by
 have e:=oV;rw[h]at e;cases e;show _=_
 kernel_rfl
@[go_sem]theorem aC4(W:ak):(uN 189 #[]).I ah W=.ok (.d qC.ay) W:=kSx.bd0 W _ oV ⟨_,at6 W _ oV⟩
structure Pt where
 kV:Int
 jR:Int
 uX:Int
 head:Int
 dz:Int
def Pt.ay(x:Pt):Array aB:=#[.b .a x.kV,.b .a x.jR,.b .a x.uX,.b .a x.head,.b .a x.dz]
theorem Pt.G(x:Pt):x.ay.j=5:=by simp[Pt.ay]
theorem Pt.cK(x:Pt):x.ay.all (·.h)=true:=by simp[Pt.ay,cB]
@[go_sem]theorem Pt.dZ(x:Pt):dZ x.ay=5:=Pt.G x
@[go_sem]theorem Pt.all(x:Pt):x.ay.m 0 5=x.ay:=by have:=Pt.G x;rw[<-this];simp
@[go_sem]theorem Pt.ax'(x:Pt):x.ay[0]? = some (.b .a x.kV):=by simp[Pt.ay,aD]
@[go_sem]theorem Pt.aya(x:Pt):x.ay[1]? = some (.b .a x.jR):=by simp[Pt.ay,aD]
@[go_sem]theorem Pt.Nr(x:Pt):x.ay[2]? = some (.b .a x.uX):=by simp[Pt.ay,aD]
@[go_sem]theorem Pt.J4(x:Pt):x.ay[3]? = some (.b .a x.head):=by simp[Pt.ay,aD]
@[go_sem]theorem Pt.yj(x:Pt):x.ay[4]? = some (.b .a x.dz):=by simp[Pt.ay,aD]
theorem Pt.PE(x:Pt)(v:Int):x.ay.c 2 (.b .a v)=({x with uX:=v}:Pt).ay:=by simp[Pt.ay,aM]
theorem Pt.Nq(x:Pt)(v:Int):x.ay.c 3 (.b .a v)=({x with head:=v}:Pt).ay:=by simp[Pt.ay,aM]
theorem Pt.PG(x:Pt)(v:Int):x.ay.c 4 (.b .a v)=({x with dz:=v}:Pt).ay:=by simp[Pt.ay,aM]
def qI:Pt:=⟨0,0,0,0,0⟩
@[go_sem]theorem ayb:bY #[bg,bg,bg,bg,bg]=bY qI.ay:=rfl
@[go_sem]theorem at7:eD #[bg,bg,bg,bg,bg] 172=eD qI.ay 172:=rfl
theorem Tw:oO 172 5 qI.ay:=⟨⟨_,oW,rfl⟩,by kernel_rfl,by kernel_rfl,Pt.G _⟩
@[go_sem ↓]theorem aI4(v:aB):bZ 172 v=xu 172 v:=rfl
@[go_sem ↓]theorem aI5(v x:aB):eF 172 v x=yS 172 v x:=rfl
@[go_sem]theorem aGr(W:ak)(b o:Nat)(h:xJ W b o 5):(xu 172 (.c (some ⟨b,o,none⟩))).I ah W=.ok (.d (eu W b o 5)) W:=Tw.ld W b o h
@[go_sem]theorem aC5(W:ak)(c:Array aB)(x:Pt)(b:Nat)(hb:b=W.a.j)(hc:dZ c=5):(yS 172 (.c (some ⟨b,0,none⟩)) (.d x.ay)).I ah (W.alloc (.D c 172))=.ok () (W.alloc (.D x.ay 172)):=Tw.stN W c x.ay b hb hc (Pt.G x) (Pt.cK x)
@[go_sem]theorem aGs(W:ak)(b o:Nat)(x:Pt)(h:W.O b o 5):(yS 172 (.c (some ⟨b,o,none⟩)) (.d x.ay)).I ah W=.ok () (gI W b o x.ay):=Tw.st W b o x.ay h (Pt.G x) (Pt.cK x)
@[go_sem ↓]theorem aI6(ps:Array (Nat×aB)):fI 172 ps=uN 172 ps:=rfl
theorem aua(w:ak)(fs:Array nS)(h:ah.k 172=some (.d fs)):(iB (fun f=>Prod.mk f.Z <$> sizeOf f.p) fs:xE (Array (Nat×Nat))).I ah w=.ok #[(0,1),(1,1),(2,1),(3,1),(4,1)] w:=by
 have e:=oW;rw[h]at e;cases e;show _=_
 kernel_rfl
@[go_sem]theorem aC6(W:ak):(uN 172 #[]).I ah W=.ok (.d qI.ay) W:=Tw.bd0 W _ oW ⟨_,aua W _ oW⟩
@[go_sem]theorem ayc(W:ak)(kV:Int)(jR:Int)(uX:Int)(head:Int)(dz:Int):(uN 172 #[(0,.b .a kV),(1,.b .a jR),(2,.b .a uX),(3,.b .a head),(4,.b .a dz)]).I ah W=.ok (.d (Pt.mk kV jR uX head dz).ay) W:=Tw.bd W _ _ _ _ oW (aua W _ oW) (by
 refine uW (Pt.G _) ?_ ?_
 ·simp[rO,cO]
 ·simp[qN,cO,Pt.ay]<;>(simp only[<-fP];rfl))
structure Nt where
 head:Int
 dz:Int
 aP:Int
 oG:Bool
 h:fu
 Y:fu
def Nt.ay(x:Nt):Array aB:=#[.b .a x.head,.b .a x.dz,.b .a x.aP,.e x.oG]++(x.h.ay++x.Y.ay)
theorem Nt.G(x:Nt):x.ay.j=38:=by simp[Nt.ay,fu.G]
theorem Nt.cK(x:Nt):x.ay.all (·.h)=true:=gW ((by simp[cB])) (gW (fu.cK _) (fu.cK _))
@[go_sem]theorem Nt.dZ(x:Nt):dZ x.ay=38:=Nt.G x
@[go_sem]theorem Nt.J4(x:Nt):x.ay[0]? = some (.b .a x.head):=by simp[Nt.ay,aD,fu.G]
@[go_sem]theorem Nt.yj(x:Nt):x.ay[1]? = some (.b .a x.dz):=by simp[Nt.ay,aD,fu.G]
@[go_sem]theorem Nt.BR(x:Nt):x.ay[2]? = some (.b .a x.aP):=by simp[Nt.ay,aD,fu.G]
@[go_sem]theorem Nt.Tv(x:Nt):x.ay[3]? = some (.e x.oG):=by simp[Nt.ay,aD,fu.G]
@[go_sem]theorem Nt.I7(x:Nt):x.ay.m 4 21=x.h.ay:=by simp[Nt.ay,bW,fu.G,pR,tY]
@[go_sem]theorem Nt.I8(x:Nt):x.ay.m 21 38=x.Y.ay:=by simp[Nt.ay,bW,fu.G,pR,tY]
def abh:Nt:=⟨0,0,0,false,mX,mX⟩
@[go_sem]theorem ayd:bY #[bg,bg,bg,bL false,bL false,aA,aA,aA,aA,aA,aA,aA,aA,aA,aA,aA,aA,aA,aA,aA,aA,bL false,aA,aA,aA,aA,aA,aA,aA,aA,aA,aA,aA,aA,aA,aA,aA,aA]=bY abh.ay:=rfl
@[go_sem]theorem aub:eD #[bg,bg,bg,bL false,bL false,aA,aA,aA,aA,aA,aA,aA,aA,aA,aA,aA,aA,aA,aA,aA,aA,bL false,aA,aA,aA,aA,aA,aA,aA,aA,aA,aA,aA,aA,aA,aA,aA,aA] 168=eD abh.ay 168:=rfl
theorem kNt:oO 168 38 abh.ay:=⟨⟨_,DC,rfl⟩,by kernel_rfl,by kernel_rfl,Nt.G _⟩
@[go_sem ↓]theorem aI7(v:aB):bZ 168 v=xu 168 v:=rfl
@[go_sem ↓]theorem aI8(v x:aB):eF 168 v x=yS 168 v x:=rfl
@[go_sem]theorem aGt(W:ak)(b o:Nat)(x:Nt)(h:W.O b o 38):(yS 168 (.c (some ⟨b,o,none⟩)) (.d x.ay)).I ah W=.ok () (gI W b o x.ay):=kNt.st W b o x.ay h (Nt.G x) (Nt.cK x)
@[go_sem ↓]theorem aI9(ps:Array (Nat×aB)):fI 168 ps=uN 168 ps:=rfl
theorem aC7(w:ak)(fs:Array nS)(h:ah.k 168=some (.d fs)):(iB (fun f=>Prod.mk f.Z <$> sizeOf f.p) fs:xE (Array (Nat×Nat))).I ah w=.ok #[(0,1),(1,1),(2,1),(3,1),(4,17),(21,17)] w:=by
 have e:=DC;rw[h]at e;cases e;show _=_
 kernel_rfl
@[go_sem]theorem aye(W:ak)(head:Int)(dz:Int)(aP:Int)(oG:Bool)(src:fu)(dst:fu):(uN 168 #[(0,.b .a head),(1,.b .a dz),(2,.b .a aP),(3,.e oG),(4,.d (src.ay)),(5,.d (dst.ay))]).I ah W=.ok (.d (Nt.mk head dz aP oG src dst).ay) W:=kNt.bd W _ _ _ _ DC (aC7 W _ DC) (by
 refine uW (Nt.G _) ?_ ?_
 ·simp[rO,cO,fu.G]
 ·simp[qN,cO,Nt.ay]<;>(simp only[<-fP];rfl))
structure Pk where
 kind:Int
 J:Tu
 uX:Int
 Cw:Int
 tq:Int
 Gh:Int
def Pk.ay(x:Pk):Array aB:=#[.b .a x.kind]++(x.J.ay ++ #[.b .a x.uX,.b .a x.Cw,.b .a x.tq,.b .a x.Gh])
theorem Pk.G(x:Pk):x.ay.j=42:=by simp[Pk.ay,Tu.G]
theorem Pk.cK(x:Pk):x.ay.all (·.h)=true:=gW ((by simp[cB])) (gW (Tu.cK _) ((by simp[cB])))
@[go_sem]theorem Pk.dZ(x:Pk):dZ x.ay=42:=Pk.G x
@[go_sem]theorem Pk.yt(x:Pk):x.ay[0]? = some (.b .a x.kind):=by simp[Pk.ay,aD,Tu.G]
@[go_sem]theorem Pk.I9(x:Pk):x.ay.m 1 38=x.J.ay:=by simp[Pk.ay,bW,Tu.G,pR,tY]
@[go_sem]theorem Pk.Nr(x:Pk):x.ay[38]? = some (.b .a x.uX):=by simp[Pk.ay,aD,Tu.G]
@[go_sem]theorem Pk.amD(x:Pk):x.ay[39]? = some (.b .a x.Cw):=by simp[Pk.ay,aD,Tu.G]
@[go_sem]theorem Pk.amE(x:Pk):x.ay[40]? = some (.b .a x.tq):=by simp[Pk.ay,aD,Tu.G]
@[go_sem]theorem Pk.ap2(x:Pk):x.ay[41]? = some (.b .a x.Gh):=by simp[Pk.ay,aD,Tu.G]
def Ns:Pk:=⟨0,aff,0,0,0,0⟩
@[go_sem]theorem ayf:bY #[bg,bL false,aA,aA,aA,aA,aA,aA,aA,aA,aA,aA,aA,aA,aA,aA,aA,aA,bL false,aA,aA,aA,aA,aA,aA,aA,aA,aA,aA,aA,aA,aA,aA,aA,aA,bg,bg,bg,bg,bg,bg,bg]=bY Ns.ay:=rfl
@[go_sem]theorem auc:eD #[bg,bL false,aA,aA,aA,aA,aA,aA,aA,aA,aA,aA,aA,aA,aA,aA,aA,aA,bL false,aA,aA,aA,aA,aA,aA,aA,aA,aA,aA,aA,aA,aA,aA,aA,aA,bg,bg,bg,bg,bg,bg,bg] 83=eD Ns.ay 83:=rfl
theorem kPk:oO 83 42 Ns.ay:=⟨⟨_,vF,rfl⟩,by kernel_rfl,by kernel_rfl,Pk.G _⟩
@[go_sem ↓]theorem aI'(v:aB):bZ 83 v=xu 83 v:=rfl
@[go_sem ↓]theorem aJa(v x:aB):eF 83 v x=yS 83 v x:=rfl
@[go_sem]theorem aC8(W:ak)(c:Array aB)(x:Pk)(b:Nat)(hb:b=W.a.j)(hc:dZ c=42):(yS 83 (.c (some ⟨b,0,none⟩)) (.d x.ay)).I ah (W.alloc (.D c 83))=.ok () (W.alloc (.D x.ay 83)):=kPk.stN W c x.ay b hb hc (Pk.G x) (Pk.cK x)
@[go_sem]theorem aGu(W:ak)(b o:Nat)(x:Pk)(h:W.O b o 42):(yS 83 (.c (some ⟨b,o,none⟩)) (.d x.ay)).I ah W=.ok () (gI W b o x.ay):=kPk.st W b o x.ay h (Pk.G x) (Pk.cK x)
@[go_sem ↓]theorem aJb(ps:Array (Nat×aB)):fI 83 ps=uN 83 ps:=rfl
theorem ayg(w:ak)(fs:Array nS)(h:ah.k 83=some (.d fs)):(iB (fun f=>Prod.mk f.Z <$> sizeOf f.p) fs:xE (Array (Nat×Nat))).I ah w=.ok #[(0,1),(1,37),(38,1),(39,1),(40,1),(41,1)] w:=by
 have e:=vF;rw[h]at e;cases e;show _=_
 kernel_rfl
structure Tn where
 head:Int
 dz:Int
 aP:Int
 oG:Bool
 ok:Bool
def Tn.ay(x:Tn):Array aB:=#[.b .a x.head,.b .a x.dz,.b .a x.aP,.e x.oG,.e x.ok]
theorem Tn.G(x:Tn):x.ay.j=5:=by simp[Tn.ay]
theorem Tn.cK(x:Tn):x.ay.all (·.h)=true:=by simp[Tn.ay,cB]
@[go_sem]theorem Tn.yj(x:Tn):x.ay[1]? = some (.b .a x.dz):=by simp[Tn.ay,aD]
@[go_sem]theorem Tn.ayh(x:Tn):x.ay[4]? = some (.e x.ok):=by simp[Tn.ay,aD]
def sQ:Tn:=⟨0,0,0,false,false⟩
@[go_sem]theorem ayi:bY #[aI bU 0,aI bU 0,aI bU 0,bL false,bL false]=bY sQ.ay:=rfl
@[go_sem]theorem aue:eD #[aI bU 0,aI bU 0,aI bU 0,bL false,bL false] 179=eD sQ.ay 179:=rfl
theorem kTn:oO 179 5 sQ.ay:=⟨⟨_,uj,rfl⟩,by kernel_rfl,by kernel_rfl,Tn.G _⟩
@[go_sem ↓]theorem aJc(v:aB):bZ 179 v=xu 179 v:=rfl
@[go_sem ↓]theorem aJd(v x:aB):eF 179 v x=yS 179 v x:=rfl
@[go_sem]theorem aGv(W:ak)(b o:Nat)(x:Tn)(h:W.O b o 5):(yS 179 (.c (some ⟨b,o,none⟩)) (.d x.ay)).I ah W=.ok () (gI W b o x.ay):=kTn.st W b o x.ay h (Tn.G x) (Tn.cK x)
@[go_sem ↓]theorem aJe(ps:Array (Nat×aB)):fI 179 ps=uN 179 ps:=rfl
theorem ayj(w:ak)(fs:Array nS)(h:ah.k 179=some (.d fs)):(iB (fun f=>Prod.mk f.Z <$> sizeOf f.p) fs:xE (Array (Nat×Nat))).I ah w=.ok #[(0,1),(1,1),(2,1),(3,1),(4,1)] w:=by
 have e:=uj;rw[h]at e;cases e;show _=_
 kernel_rfl
@[go_sem]theorem aC9(W:ak):(uN 179 #[]).I ah W=.ok (.d sQ.ay) W:=kTn.bd0 W _ uj ⟨_,ayj W _ uj⟩
@[go_sem]theorem ayk(W:ak)(head:Int)(dz:Int)(aP:Int)(oG:Bool)(ok:Bool):(uN 179 #[(0,.b .a head),(1,.b .a dz),(2,.b .a aP),(3,.e oG),(4,.e ok)]).I ah W=.ok (.d (Tn.mk head dz aP oG ok).ay) W:=kTn.bd W _ _ _ _ uj (ayj W _ uj) (by
 refine uW (Tn.G _) ?_ ?_
 ·simp[rO,cO]
 ·simp[qN,cO,Tn.ay]<;>(simp only[<-fP];rfl))
structure Lc where
 Y:Vector UInt8 6
 h:Vector UInt8 6
 VQ:Option aS
 EH:Nat
 ahN:Nat
 oq:Int
 at_:Int
def Lc.ay(x:Lc):Array aB:=AO x.Y++(AO x.h ++ #[.a x.VQ x.EH x.ahN,.b .a x.oq,.b .a x.at_])
theorem Lc.G(x:Lc):x.ay.j=15:=by simp[Lc.ay,gD]
theorem Lc.cK(x:Lc):x.ay.all (·.h)=true:=gW (abd _) (gW (abd _) ((by simp[cB])))
@[go_sem]theorem Lc.dZ(x:Lc):dZ x.ay=15:=Lc.G x
@[go_sem]theorem Lc.all(x:Lc):x.ay.m 0 15=x.ay:=by have:=Lc.G x;rw[<-this];simp
@[go_sem]theorem Lc.I8(x:Lc):x.ay.m 0 6=AO x.Y:=by simp[Lc.ay,bW,gD,pR,tY]
@[go_sem]theorem Lc.I7(x:Lc):x.ay.m 6 12=AO x.h:=by simp[Lc.ay,bW,gD,pR,tY]
@[go_sem]theorem Lc.abj(x:Lc):x.ay[12]? = some (.a x.VQ x.EH x.ahN):=by simp[Lc.ay,aD,gD]
@[go_sem]theorem Lc.DW(x:Lc):x.ay[13]? = some (.b .a x.oq):=by simp[Lc.ay,aD,gD]
@[go_sem]theorem Lc.LK(x:Lc):x.ay[14]? = some (.b .a x.at_):=by simp[Lc.ay,aD,gD]
theorem Lc.amF(x:Lc)(A:Option aS)(n c:Nat):x.ay.c 12 (.a A n c)=({x with VQ:=A,EH:=n,ahN:=c}:Lc).ay:=by simp[Lc.ay,aM,gD]
theorem Lc.Tx(x:Lc)(v:Int):x.ay.c 13 (.b .a v)=({x with oq:=v}:Lc).ay:=by simp[Lc.ay,aM,gD]
theorem Lc.ap4(x:Lc)(v:Int):x.ay.c 14 (.b .a v)=({x with at_:=v}:Lc).ay:=by simp[Lc.ay,aM,gD]
def qJ:Lc:=⟨(bF 6 0),(bF 6 0),none,0,0,0,0⟩
@[go_sem]theorem ayl:bY #[aA,aA,aA,aA,aA,aA,aA,aA,aA,aA,aA,aA,bC none 0 0,bg,bg]=bY qJ.ay:=rfl
@[go_sem]theorem auf:eD #[aA,aA,aA,aA,aA,aA,aA,aA,aA,aA,aA,aA,bC none 0 0,bg,bg] 108=eD qJ.ay 108:=rfl
theorem kLc:oO 108 15 qJ.ay:=⟨⟨_,um,rfl⟩,by kernel_rfl,by kernel_rfl,Lc.G _⟩
@[go_sem ↓]theorem aJf(v:aB):bZ 108 v=xu 108 v:=rfl
@[go_sem ↓]theorem aJg(v x:aB):eF 108 v x=yS 108 v x:=rfl
@[go_sem]theorem aGw(W:ak)(b o:Nat)(h:xJ W b o 15):(xu 108 (.c (some ⟨b,o,none⟩))).I ah W=.ok (.d (eu W b o 15)) W:=kLc.ld W b o h
@[go_sem]theorem aC'(W:ak)(c:Array aB)(x:Lc)(b:Nat)(hb:b=W.a.j)(hc:dZ c=15):(yS 108 (.c (some ⟨b,0,none⟩)) (.d x.ay)).I ah (W.alloc (.D c 108))=.ok () (W.alloc (.D x.ay 108)):=kLc.stN W c x.ay b hb hc (Lc.G x) (Lc.cK x)
@[go_sem]theorem aGx(W:ak)(b o:Nat)(x:Lc)(h:W.O b o 15):(yS 108 (.c (some ⟨b,o,none⟩)) (.d x.ay)).I ah W=.ok () (gI W b o x.ay):=kLc.st W b o x.ay h (Lc.G x) (Lc.cK x)
@[go_sem ↓]theorem aJh(ps:Array (Nat×aB)):fI 108 ps=uN 108 ps:=rfl
theorem aym(w:ak)(fs:Array nS)(h:ah.k 108=some (.d fs)):(iB (fun f=>Prod.mk f.Z <$> sizeOf f.p) fs:xE (Array (Nat×Nat))).I ah w=.ok #[(0,6),(6,6),(12,1),(13,1),(14,1)] w:=by
 have e:=um;rw[h]at e;cases e;show _=_
 kernel_rfl
@[go_sem]theorem aDa(W:ak):(uN 108 #[]).I ah W=.ok (.d qJ.ay) W:=kLc.bd0 W _ um ⟨_,aym W _ um⟩
structure Tg where
 oq:Int
 tci:Int
def Tg.ay(x:Tg):Array aB:=#[.b .a x.oq,.b .a x.tci]
theorem Tg.G(x:Tg):x.ay.j=2:=by simp[Tg.ay]
theorem Tg.cK(x:Tg):x.ay.all (·.h)=true:=by simp[Tg.ay,cB]
@[go_sem]theorem Tg.DW(x:Tg):x.ay[0]? = some (.b .a x.oq):=by simp[Tg.ay,aD]
@[go_sem]theorem Tg.amG(x:Tg):x.ay[1]? = some (.b .a x.tci):=by simp[Tg.ay,aD]
def Sg:Tg:=⟨0,0⟩
@[go_sem]theorem ayn:bY #[aI bU 0,aI bU 0]=bY Sg.ay:=rfl
@[go_sem]theorem aug:eD #[aI bU 0,aI bU 0] 268=eD Sg.ay 268:=rfl
theorem kTg:oO 268 2 Sg.ay:=⟨⟨_,DF,rfl⟩,by kernel_rfl,by kernel_rfl,Tg.G _⟩
@[go_sem ↓]theorem aJi(v:aB):bZ 268 v=xu 268 v:=rfl
@[go_sem ↓]theorem aJj(v x:aB):eF 268 v x=yS 268 v x:=rfl
@[go_sem]theorem aGy(W:ak)(b o:Nat)(h:xJ W b o 2):(xu 268 (.c (some ⟨b,o,none⟩))).I ah W=.ok (.d (eu W b o 2)) W:=kTg.ld W b o h
@[go_sem]theorem aDb(W:ak)(c:Array aB)(x:Tg)(b:Nat)(hb:b=W.a.j)(hc:dZ c=2):(yS 268 (.c (some ⟨b,0,none⟩)) (.d x.ay)).I ah (W.alloc (.D c 268))=.ok () (W.alloc (.D x.ay 268)):=kTg.stN W c x.ay b hb hc (Tg.G x) (Tg.cK x)
@[go_sem ↓]theorem aJk(ps:Array (Nat×aB)):fI 268 ps=uN 268 ps:=rfl
theorem aDc(w:ak)(fs:Array nS)(h:ah.k 268=some (.d fs)):(iB (fun f=>Prod.mk f.Z <$> sizeOf f.p) fs:xE (Array (Nat×Nat))).I ah w=.ok #[(0,1),(1,1)] w:=by
 have e:=DF;rw[h]at e;cases e;show _=_
 kernel_rfl
@[go_sem]theorem ayp(W:ak)(oq:Int)(tci:Int):(uN 268 #[(0,.b .a oq),(1,.b .a tci)]).I ah W=.ok (.d (Tg.mk oq tci).ay) W:=kTg.bd W _ _ _ _ DF (aDc W _ DF) (by
 refine uW (Tg.G _) ?_ ?_
 ·simp[rO,cO]
 ·simp[qN,cO,Tg.ay]<;>(simp only[<-fP];rfl))
def eU(l:List UInt8)(k:Nat):Nat:=256*(l.b k 0).e+(l.b (k+1) 0).e
theorem vK(l:List UInt8)(k:Nat):eU l k<=65535:=by
 have h1:=(l.b k 0).a;have h2:=(l.b (k+1) 0).a;unfold eU;omega
theorem Ja(l:List UInt8)(k:Nat)(h:k+1<l.a):oC (((l.f k).d 2).d 8)=eU l k:=by
 rw[UM l k h];simp[oC,eU];omega
theorem jS(n:Int)(h : -9223372036854775808<=n/\n<=9223372036854775807):bU.wrap n=n:=by simp[vP,nQ,lN];omega
section
variable (W:ak) (A:Option aS) (n c B:Nat) (l:List UInt8) (k:Nat)
theorem ajr(hk:k+1<n)(hnc:n<=c)(hc:c<=9223372036854775807)(hr:gq W W.a.j A n l):aQ ah 246 #[.a A n c,.b .a k] W (gM W (.b .a (eU l k:Nat))):=by
 have hl:=hr.len;have h0:=ab (vK l k);have h1:(k:Int)+2<=c:=by omega
 have h2:(k:Int)<=(k:Int)+2:=by omega
 have P:=hr.QH (z:=k) (b:=k+2) (c:=c) (by omega) (by omega) (by omega);rw[kJ,if_neg (by omega)]at P;have C:=ab (Mr _ 2 (c-k) _ W (by omega) (by omega) P);rw[Ja l k (by omega)]at C;have h3:wrap64 (eU l k:Nat)=(eU l k:Nat):=by have:=h0.i;unfold wrap64;omega
 generalize eU l k=x at *;clear P hr;go_enter Tryz.func246,Tryz.ntmps246;go_wp2_with (go_at_call 180;with_reducible refine C.i.g ?_;rintro e w' ⟨rfl,hb⟩);go_ret;exact⟨congrArg (fun z=>uh (.b .a z)) h3,hb⟩
theorem abl(i:Int)(hi:i=k)(hk:k+1<n)(hnc:n<=c)(hc:c<=9223372036854775807)(hr:gq W W.a.j A n l):aQ ah 246 #[.a A n c,.b .a i] W (gM W (.b .a (eU l k:Nat))):=by subst hi;exact ajr W A n c l k hk hnc hc hr
theorem amH(hk:k+1<n)(hnc:n<=c)(hc:c<=9223372036854775807)(hr:gq W W.a.j A n l):aQ ah 249 #[.a A n c,.b .a k] W (gM W (.b .a (eU l k:Nat))):=by
 have hl:=hr.len;have h0:=ab (vK l k);have h1:(k:Int)+2<=c:=by omega
 have h2:(k:Int)<=(k:Int)+2:=by omega
 have P:=hr.QH (z:=k) (b:=k+2) (c:=c) (by omega) (by omega) (by omega);rw[kJ,if_neg (by omega)]at P;have C:=ab (Mr _ 2 (c-k) _ W (by omega) (by omega) P);rw[Ja l k (by omega)]at C;have h3:wrap64 (eU l k:Nat)=(eU l k:Nat):=by have:=h0.i;unfold wrap64;omega
 generalize eU l k=x at *;clear P hr;go_enter Tryz.func249,Tryz.ntmps249;go_wp2_with (go_at_call 180;with_reducible refine C.i.g ?_;rintro e w' ⟨rfl,hb⟩);go_ret;exact⟨congrArg (fun z=>uh (.b .a z)) h3,hb⟩
theorem amI(i:Int)(hi:i=k)(hk:k+1<n)(hnc:n<=c)(hc:c<=9223372036854775807)(hr:gq W W.a.j A n l):aQ ah 249 #[.a A n c,.b .a i] W (gM W (.b .a (eU l k:Nat))):=by subst hi;exact amH W A n c l k hk hnc hc hr
theorem ajs(hk:k+1<n)(hnc:n<=c)(hc:c<=9223372036854775807)(hr:gq W W.a.j A n l):aQ ah 177 #[.a A n c,.b .a k] W (gM W (.b .a (eU l k:Nat))):=by
 have hl:=hr.len;have h0:=ab (vK l k);have h1:(k:Int)+2<=c:=by omega
 have h2:(k:Int)<=(k:Int)+2:=by omega
 have P:=hr.QH (z:=k) (b:=k+2) (c:=c) (by omega) (by omega) (by omega);rw[kJ,if_neg (by omega)]at P;have C:=ab (Mr _ 2 (c-k) _ W (by omega) (by omega) P);rw[Ja l k (by omega)]at C;have h3:wrap64 (eU l k:Nat)=(eU l k:Nat):=by have:=h0.i;unfold wrap64;omega
 generalize eU l k=x at *;clear P hr;go_enter Tryz.func177,Tryz.ntmps177;go_wp2_with (go_at_call 180;with_reducible refine C.i.g ?_;rintro e w' ⟨rfl,hb⟩);go_ret;exact⟨congrArg (fun z=>uh (.b .a z)) h3,hb⟩
theorem Nu(i:Int)(hi:i=k)(hk:k+1<n)(hnc:n<=c)(hc:c<=9223372036854775807)(hr:gq W W.a.j A n l):aQ ah 177 #[.a A n c,.b .a i] W (gM W (.b .a (eU l k:Nat))):=by subst hi;exact ajs W A n c l k hk hnc hc hr
theorem af8(hk:k+1<n)(hnn:n<=1000000000)(hr:gq W B A n l):aQ ah 299 #[.a A n c,.b .a k] W fun e W'=>e=.a (.b .a (eU l k:Nat))/\∃q,W'=W.drewN q:=by
 obtain⟨a,rfl,_,h1⟩:=hr.at_ (show k<n by omega);obtain⟨a',e,_,h2⟩:=hr.at_ hk;injection e with e
 subst e;have h3:=h2;unfold rb at h3;rw[if_neg (by omega)]at h3;have H:=ab (show eU l k=256*(l.b k 0).e+(l.b (k+1) 0).e from rfl);have b1:=(l.b k 0).a;have b2:=(l.b (k+1) 0).a;unfold bv at h1 h2 h3;generalize(l.b k 0).e=x at *;generalize(l.b (k+1) 0).e=y at *;have hk1:(k:Int)<n:=by omega
 have hk2:(k:Int)+1<n:=by omega
 have hk3:(0:Int)<=(k:Int)+1:=by omega
 have w1:=jS ((k:Int)+1) (by omega);have w2:=jS (x:Int) (by omega);have w3:=jS (y:Int) (by omega);have w4:=jS (256*(x:Int)) (by omega);have w5:=jS (256*(x:Int)+y) (by omega);clear hr;go_enter Tryz.func299,Tryz.ntmps299;go_wp2_with fail;go_quiet (fail);go_wp2;go_ret;exact⟨by rw[H.i];rfl,_,rfl⟩
theorem Jb(hk:2<=n)(hnc:n<=c)(hc:c<=9223372036854775807)(hr:gq W W.a.j A n l):aQ ah 173 #[.a A n c] W (gM W (.b .a (eU l 0:Nat))):=by
 have hl:=hr.len;have h0:=ab (vK l 0);have h1:(2:Int)<=c:=by omega
 have P:gq W W.a.j A 2 (l.d 2):=by
  have:=Rd.upto hr (k:=2) (by omega);rw[gB,<-Ap]at this;exact this
 have C:=ab (Mr _ 2 c _ W (by omega) (by omega) P);rw[show oC ((l.d 2).d 8)=eU l 0 from Ja l 0 (by omega)]at C;have h3:wrap64 (eU l 0:Nat)=(eU l 0:Nat):=by have:=h0.i;unfold wrap64;omega
 generalize eU l 0=x at *;clear P hr;go_enter Tryz.func173,Tryz.ntmps173;go_wp2_with (go_at_call 180;with_reducible refine C.i.g ?_;rintro e w' ⟨rfl,hb⟩);go_ret;exact⟨congrArg (fun z=>uh (.b .a z)) h3,hb⟩
def tZ(n:Int):Bool:=decide (n=33024\/n=34984)
theorem abm(n:Int):aQ ah 174 #[.b .a n] W fun e W'=>e=.a (.e (tZ n))/\W=W':=by
 go_enter Tryz.func174,Tryz.ntmps174;go_wp2
 all_goals(go_ret;refine⟨?_,rfl⟩;(by_cases h1:n=33024<;>by_cases h2:n=34984<;>simp_all[tZ]))
end
structure Lk where
 Y:Vector UInt8 6
 h:Vector UInt8 6
 fG:List Tg
 oq:Int
 at_:Nat
def EI:Lk:=⟨bF 6 0,bF 6 0,[],0,0⟩
def Cx(l:List UInt8):Nat->Nat->List Tg->Lk×Int
 | m,k,fG=>if tZ (eU l (k-2))then(match m with
  | 0=>(EI,4)
  | m+1=>if l.a<k+4 then(EI,2)else Cx l m (k+4) (fG++[⟨eU l (k-2),eU l k⟩]))
   else(⟨pX 6 l,pX 6 (l.f 6),fG,eU l (k-2),k⟩,0)
theorem zL{l:List UInt8}{m k:Nat}{fG:List Tg}(h:tZ (eU l (k-2):Nat)=false):Cx l m k fG=(⟨pX 6 l,pX 6 (l.f 6),fG,eU l (k-2),k⟩,0):=by cases m<;>simp[Cx,h]
theorem J5{l:List UInt8}{k:Nat}{fG:List Tg}(h:tZ (eU l (k-2):Nat)=true):Cx l 0 k fG=(EI,4):=by simp[Cx,h]
theorem BZ{l:List UInt8}{m k:Nat}{fG:List Tg}(h:tZ (eU l (k-2):Nat)=true)(h2:l.a<k+4):Cx l (m+1) k fG=(EI,2):=by simp[Cx,h,h2]
theorem EJ{l:List UInt8}{m k:Nat}{fG:List Tg}(h:tZ (eU l (k-2):Nat)=true)(h2:¬l.a<k+4):Cx l (m+1) k fG=Cx l m (k+4) (fG++[⟨(eU l (k-2):Nat),(eU l k:Nat)⟩]):=by simp[Cx,h,h2]
def mq(l:List UInt8):Lk×Int:=if l.a<14 then(EI,2)else Cx l 2 14 []
def Lk.cell(x:Lk)(A:Option aS)(c:Nat):Lc:=⟨x.Y,x.h,A,x.fG.a,c,x.oq,x.at_⟩
def LkP(W:ak)(r:Lk×Int)(e:lq)(W':ak):Prop:=∃A c,e=.a (.J #[.d (r.1.cell A c).ay,.b .a r.2])/\gX Tg.ay 2 W' W'.a.j A r.1.fG.a r.1.fG/\aL W.a.j W W'
theorem Gi{q r v:Array aB}(h:v.j=q.j):sF (q++r) 0 v=v++r:=by
 have:=VK #[] (q++r) v (by simp;omega);simp only[Array.empty_append,Array.size_empty]at this;rw[this,h];simp[bW,tY]
theorem qK{p q r v:Array aB}(h:v.j=q.j)(k:Nat)(hk:p.j=k):sF (p++(q++r)) k v=p++(v++r):=by
 subst hk;rw[VK p (q++r) v (by simp;omega),h,fP];simp[bW,tY]
theorem dJ.setCells{W:ak}{b:Nat}{c:Array aB}(h:dJ W b c)(o:Nat)(vs:List aB):dJ (W.setCells b o vs) b (sF c o vs.c):=by
 obtain⟨t,h⟩:=h;exact⟨t,Ui b t vs o c W h⟩
theorem Lc.abn(x:Lc)(v:Vector UInt8 6):sF x.ay 0 (AO v)=({x with Y:=v}:Lc).ay:=by
 unfold Lc.ay;exact Gi (by rw[gD,gD])
theorem Lc.abo(x:Lc)(v:Vector UInt8 6):sF x.ay 6 (AO v)=({x with h:=v}:Lc).ay:=by
 unfold Lc.ay;exact qK (by rw[gD,gD]) 6 (gD _)
theorem EK{P:eG}(W:ak){B y o m n c d:Nat}{A:Option aS}{l:List UInt8}(hR:gq W B A n l)(hm:m<=n)(hm0:0<m)(hth:W.O y o m)(T ty e:bM)(hu:P.k T=some (.a e))(hs:(P.l e).map (·.j)=some 1):
 (qy #[T,T] ty #[.a (some ⟨y,o,none⟩) m d,.a A n c]).I P W=.ok (goInt m) (W.setCells y o ((l.d m).map bv)):=by
 have hn:=hR.len;obtain⟨a,rfl,_,hc⟩:=hR.2 (by omega);have hl:((l.d m).map bv).a=m:=by simp;omega
 have:=run_copy_cells (P:=P) W T T ty e y o m d a n c ((l.d m).map bv) hu hs (by rw[hl];exact(Nat.min_eq_right hm).symm) (fun j v hj=>hc j v (by
  have hj2:j<m:=by
   rcases aZ j m with h|h
   ·exact h
   ·rw[aT (by rw[hl];exact h)]at hj;cases hj
  rw[jC,gZ hj2,<-jC]at hj;exact hj)) (fun j hj=>(hth j (by rw[hl]at hj;exact hj)).1) (fun j hj=>(hth j (by rw[hl]at hj;exact hj)).2) (JG _)
 rw[hl]at this;exact this
theorem Nv(k:Nat)(l:List UInt8)(h:k<=l.a):(l.d k).map bv=(pX k l).a.map bv:=by
 congr 1;apply iJ;intro j;rcases aZ j k with hj|hj
 ·rw[gZ hj]
  simp[pX,hj,au,aC (show j<l.a by omega)]
 ·rw[aT (by simp;omega),aT (by simpa using hj)]
theorem ap5:abb 106 268 Tg.ay 2:=by
 obtain⟨i,h1,h2,h3⟩:=kTg.af4;have h4:(ah.l 268).map (fun i=>decide (i.bytes<=1000))=some true:=by kernel_rfl
 rw[h1]at h4;simp at h4;exact⟨i,_,Tryz.underlying106,h1,h3,h2,Tg.G _,by omega,h4,Tg.G,Tg.cK⟩
def asb(n:Nat)(ps:Array (Nat×aB)):xE aB:=bI 106 n ps
@[go_sem ↓]theorem ayq(n:Nat)(ps:Array (Nat×aB)):bI 106 n ps=asb n ps:=rfl
@[go_sem]theorem awk(w:ak)(x:Tg):(asb 1 #[(0,.d x.ay)]).I ah w=.ok (.a (some ⟨w.a.j,0,none⟩) 1 1) (w.alloc (.D x.ay 268)):=by
 obtain⟨i,h1,h2,h3⟩:=kTg.af4;exact rR w _ _ i (.d Sg.ay) 2 Tryz.underlying106 h1 h3 h2 (Tg.G _) (by omega) (by omega) x.ay (Tg.G x)
section
variable {α:Type} {f:α->Array aB} {sz:Nat} {e:bM} {L:List (Nat×Array aB)} {w0 W:ak} {v:aB} {l:List α} {q:Nat} {c:Array aB}
theorem Rz.amJ(h:Rz f sz e ((q,c)::L) w0 W v l)(hq:w0.a.j<=q)(hL:∀p∈L,p.1≠q)(j:Nat)(u:aB):Rz f sz e ((q,c.c j u)::L) w0 (W.F ⟨q,j,none⟩ u) v l:=
 ⟨Ug h.vS (h.G (q,c) (by simp)).2 u,h.R.F hq u,fun p hp=>by
  rcases bB.1 hp with rfl|hp
  ·exact⟨h.X.eH j u,(h.G (q,c) (by simp)).2⟩
  ·obtain⟨h1,h2⟩:=h.G p (by simp[hp]);exact⟨h1.dM _ u (fun e=>hL p hp e.symm),h2⟩⟩
theorem abp{base size n:Nat}{xs:List aB}(vs:List aB):∀(o:Nat)(W:ak),W.c base e size v n xs->v.f≠some q->(W.setCells q o vs).c base e size v n xs:=by
 induction vs with
 | nil=>exact fun _ _ h _=>h
 | cons u vs ih=>intro o W h hq;exact ih (o+1) _ (Ug h hq u) hq
theorem Rz.auh(h:Rz f sz e ((q,c)::L) w0 W v l)(hq:w0.a.j<=q)(hL:∀p∈L,p.1≠q)(o:Nat)(x:Array aB):Rz f sz e ((q,sF c o x)::L) w0 (gI W q o x) v l:=
 ⟨abp _ _ _ h.vS (h.G (q,c) (by simp)).2,kR h.R q o x hq,fun p hp=>by
  rcases bB.1 hp with rfl|hp
  ·exact⟨by have:=h.X.setCells o x.a;simpa[gI]using this,(h.G (q,c) (by simp)).2⟩
  ·obtain⟨h1,h2⟩:=h.G p (by simp[hp]);exact⟨h1.gy (hL p hp),h2⟩⟩
theorem Rz.swap{p1 p2:Nat×Array aB}(h:Rz f sz e (p1::p2::L) w0 W v l):Rz f sz e (p2::p1::L) w0 W v l:=
 ⟨h.vS,h.R,fun p hp=>h.G p (by simp at hp⊢;rcases hp with h|h|h<;>simp[h])⟩
end
theorem Rz.ans{α:Type}{f:α->Array aB}{sz:Nat}{e:bM}{w0 W:ak}{v:aB}{l:List α}{q r:Nat}{c d x:Array aB}(h:Rz f sz e [(q,c),(r,d)] w0 W v l)(hr:w0.a.j<=r)(hne:r≠q)(hx:x.j=d.j):Rz f sz e [(r,x),(q,c)] w0 (gI W r 0 x) v l:=by
 have h1:=h.swap.auh hr (fun p hp=>by rw[fD.1 hp];exact fun e=>hne e.symm) 0 x;refine⟨h1.vS,h1.R,fun p hp=>?_⟩;rcases bB.1 hp with rfl|hp
 ·exact⟨h.b1.put x hx,(h.G (r,d) (by simp)).2⟩
 ·exact h1.G p (by simp[hp])
theorem aui{ops:Array iU}{o:iU}{a:qQ}{W:ak}{K:qQ->ak->Prop}{Q:zR->qQ->ak->Prop}{E:Prop}(hgd:o.guard=none)(h:ni ah o a W K Q):if fC o (yielded ops a.tmps)=true then ni ah o a W K Q else E:=by
 have hw:fC o (yielded ops a.tmps)=true:=by simp[fC,hgd]
 rw[if_pos hw];exact h
theorem auj{α:Type}{f:α->Array aB}{sz:Nat}{e t:bM}{L:List (Nat×Array aB)}{w0 W:ak}{l ys:List α}(T:abb t e f sz){ops:Array iU}{o:iU}{a:qQ}{K:qQ->ak->Prop}{Q:zR->qQ->ak->Prop}{E:Prop}(hgd:o.guard=none)(s x:pI)
 (ho:o.op=.call {callee:=.builtin .append,args:=#[s,x],argTypes:=#[t,t]}) (v:aB) (A:Option aS) (m c:Nat) (hs:a.eval s=v) (H:Rz f sz e L w0 W v l) {C:Nat} (hx:a.eval x=.a A m c) (hr:gX f sz W C A m ys)
 (hlen:l.a+m<=1000000)
 (h:∀A' n' c' w',Rz f sz e L w0 w' (.a A' n' c') (l++ys)->W.d w' v.f->K (a.put o.Y (.a A' n' c')) w'):if fC o (yielded ops a.tmps)=true then ni ah o a W K Q else E:=
 apR T hgd s x ho hs H hx hr hlen h
@[go_sem]theorem ayr(W:ak)(t k:Int):(uN 108 #[(3,.b .a t),(4,.b .a k)]).I ah W=.ok (.d (Lc.mk (bF 6 0) (bF 6 0) none 0 0 t k).ay) W:=
 kLc.bd W _ _ _ _ um (aym W _ um) rfl
def nO(l:List UInt8)(k:Nat):Nat:=(l.b k 0).e
theorem uY(l:List UInt8)(k:Nat):nO l k<256:=(l.b k 0).a
def Jc(l:List UInt8):fu:=⟨false,pX 16 (l.d 4)⟩
def LM(l:List UInt8):Nat:=nO l 0%16*4
def PI(l:List UInt8):Fo:=⟨LM l,eU l 2,nO l 1,eU l 4,decide (eU l 6%16384≠0),decide (eU l 6/16384%2=1),nO l 8,nO l 9,Jc (l.f 12),Jc (l.f 16)⟩
def Dr(l:List UInt8):Int:=
 if l.a<20 then 2 else if nO l 0/16≠4\/LM l<20 then 3 else if l.a<LM l then 2 else if eU l 2<LM l then 3
 else if l.a<eU l 2 then 2 else if xg (l.d (LM l))≠0 then 8 else 0
def zV(l:List UInt8):Fo×Int:=if Dr l=0 then(PI l,0)else(xA,Dr l)
theorem fu.Jd(a:fu):a.ay = #[.e a.h]++iH a.b:=by simp[fu.ay,iH]
section
variable (W:ak) (A:Option aS) (n c B:Nat) (l:List UInt8)
theorem aDe(l:List UInt8)(h:4<=l.a):sF mX.ay 1 ((l.d 4).map bv).c=(Jc l).ay:=by
 apply dW;intro j;rw[Eh,fu.Jd,fu.Jd];rcases j with _|j
 ·simp[mX,Jc,aD]
 ·rw[asa,asa]
  have hs:((l.d 4).map bv).c.j=4:=by simp;omega
  rw[hs,nU,dH];have hb:∀v:Vector UInt8 16,∀k,k<16->(iH v)[k]? = some (bv (v.a.b k 0)):=by
   intro v k hk;simp[iH,au,hk]
  rcases(show j<4\/(4<=j/\j<16)\/16<=j by omega)with h|⟨h,h'⟩|h
  ·rw[if_pos ⟨by omega,by omega,by simp;omega⟩,hb _ _ (by omega)]
   simp[Jc,pX,show j<16 by omega,h,au,gZ h,aC (show j<l.a by omega)]
  ·rw[if_neg (by omega),hb _ _ h',hb _ _ h']
   have:(l.d 4).a<=j:=by simp;omega
   congr 2;rw[show mX.b.a=dV 16 0 from Vector.toList_replicate,au,List.getElem?_replicate,if_pos h'];simp[Jc,pX,h',au,aT this]
  ·rw[if_neg (by omega),aU (by rw[dH];exact h),aU (by rw[dH];exact h)]
theorem Zf(hn:4<=n)(hr:gq W W.a.j A n l):aQ ah 248 #[.a A n c] W (gM W (.d (Jc l).ay)):=by
 have hl:=hr.len;have B1:=ab (((aH W.a.j W).alloc (av _) (.D mX.ay 27)).alloc (by simp) (.D mX.ay 27));have x1:=ab (dJ.Ud W (.D mX.ay 27) mX.ay 27);have x0:=ab ((dJ.new W mX.ay 27).alloc (.D mX.ay 27));have R1:=ab ((hr.S B1.i).lD B1.i.j:gq ((W.alloc (.D mX.ay 27)).alloc (.D mX.ay 27)) ((W.alloc (.D mX.ay 27)).alloc (.D mX.ay 27)).a.j A n l);go_enter Tryz.func248,Tryz.ntmps248;generalize hw1:(W.alloc (.D mX.ay 27)).alloc (.D mX.ay 27)=w1 at B1 x1 x0 R1;have cp:∀ty,(qy #[56,56] ty #[.a (some ⟨W.a.j+1,1,none⟩) 4 16,.a A n c]).I ah w1=.ok (goInt 4) (gI w1 (W.a.j+1) 1 ((l.d 4).map bv).c):=fun ty=>by
  have h1:=x1.i.O 1 4 (by rw[fu.G];omega);have:=EK (c:=c) (d:=16) w1 R1.i (m:=4) hn (by omega) h1 56 ty 5 dx aml;rw[this];simp only[gI,List.toList_toArray];rfl
 have x2:=ab (x1.i.setCells 1 ((l.d 4).map bv));rw[aDe l (by omega)]at x2;have x3:=ab (show dJ (gI w1 (W.a.j+1) 1 ((l.d 4).map bv).c) (W.a.j+1) (Jc l).ay by have:=x2.i;simp only[gI,List.toList_toArray];exact this);have x4:=ab (show dJ (gI w1 (W.a.j+1) 1 ((l.d 4).map bv).c) W.a.j mX.ay from x0.i.gy (by omega));have B2:=ab (kR B1.i (W.a.j+1) 1 ((l.d 4).map bv).c (by omega));obtain⟨a,ha⟩:=dw (Jc l);rw[<-ha]at x3 ⊢;clear ha;obtain⟨v,hv⟩:=dw (((l.d 4).map bv).c);rw[<-hv]at cp x3 x4 B2;clear hv x2;obtain⟨y1,y2,y3,y4⟩:=x3.i.K;have th:=x4.i.O 0 17 (by rw[fu.G];omega);go_upto_region 2 with fail
 clear hw1;go_wp2;have x5:=ab (x4.i.put a.ay (by rw[fu.G,fu.G]));refine aN (abe.zh rfl _ rfl x5.i (fu.G _)) rfl ?_;exact⟨rfl,kR B2.i _ _ _ (av _)⟩
end
theorem ays(b:Nat)(h:b<256):bits .and .b (b:Int) 15=((b%16:Nat):Int):=(by decide +kernel:∀b:Fin 256,bits .and .b ((b.val:Nat):Int) 15=((b.val%16:Nat):Int)) ⟨b,h⟩
theorem ayt(x:Nat)(hx:x<=65535):(bits .and .a (x:Int) 16383 != 0)=decide (x%16384≠0):=by
 have h1:(fQ 64 (x:Int)).e=x:=by rw[lS,ny];exact fK (by omega)
 have:bits .and .a (x:Int) 16383=((x%16384:Nat):Int):=by
  show bU.wrap ((fQ 64 (x:Int) &&& fQ 64 16383).e:Int)=_;rw[Fy,h1,show(fQ 64 16383).e=2^14-1 by decide,Nat.and_two_pow_sub_one_eq_mod,jS _ (by omega)]
 rw[this,dA];simp;omega
theorem ap6(x k:Nat):(x &&& 2^k=0)↔x.testBit k=false:=by
 constructor
 ·intro h
  have:=congrArg (fun z=>Nat.testBit z k) h;simpa[Nat.testBit_and,Nat.testBit_two_pow]using this
 ·intro h
  apply Nat.eq_of_testBit_eq;intro i;rw[Nat.testBit_and,Nat.testBit_two_pow,Nat.zero_testBit];by_cases hi:k=i
  ·subst hi;simp[h]
  ·simp[hi]
theorem ajt(x:Nat)(hx:x<=65535):(bits .and .a (x:Int) 16384 != 0)=decide (x/16384%2=1):=by
 have h1:(fQ 64 (x:Int)).e=x:=by rw[lS,ny];exact fK (by omega)
 have h2:x &&& 2^14<=x:=Nat.and_le_left;have:bits .and .a (x:Int) 16384=((x &&& 2^14:Nat):Int):=by
  show bU.wrap ((fQ 64 (x:Int) &&& fQ 64 16384).e:Int)=_;rw[Fy,h1,show(fQ 64 16384).e=2^14 by decide,jS _ (by omega)]
 have h3:=ap6 x 14;rw[Nat.testBit_eq_decide_div_mod_eq]at h3;have h4:((x &&& 2^14:Nat):Int)=0↔x &&& 2^14=0:=by omega
 rw[this,dA,bne_iff_ne,decide_eq_true_eq,Ne,h4,h3,decide_eq_false_iff_not,Classical.not_not]
theorem Gj{l:List UInt8}{k:Int}(h:Dr l=k)(hk:k≠0):zV l=(xA,k):=by unfold zV;rw[h,if_neg hk]
theorem auk{l:List UInt8}(h:Dr l=0):zV l=(PI l,0):=by unfold zV;rw[if_pos h]
def FoP(W:ak)(r:Fo×Int)(e:lq)(W':ak):Prop:=e=.a (.J #[.d r.1.ay,.b .a r.2])/\aL W.a.j W W'
theorem ap7:lU 1 = #[0]:=by apply oQ;rw[j3];rfl
@[go_sem]theorem ase(w:ak)(A:Option aS)(a b:Nat):(Gf 1 #[(0,.a A a b)]).I ah w=.ok (.a (some ⟨w.a.j,0,none⟩) 1 1) (w.alloc (.D #[.a A a b] 56)):=by
 obtain⟨i0,hi0,hz0,hz1⟩:=Te;simp[Gf,bI,dL Dz,zeroValue,sizeOf,typeInfo,hi0,hz0,hz1,fB,newRow,cO,ap7]
theorem gq.Yd{w:ak}{B n:Nat}{A:Option aS}{l:List UInt8}(h:gq w B A n l)(k:Nat)(hk:k+1<n):∃a,A=some a/\w.b ⟨a.block,a.off+(k+1),none⟩=some (.b .b (nO l (k+1))):=by
 obtain⟨a,e,_,h1⟩:=h.at_ hk;unfold rb at h1;rw[if_neg (by omega)]at h1;exact⟨a,e,h1⟩
theorem Nw(W:ak)(A:Option aS)(n c:Nat)(l:List UInt8)(hnc:n<=c)(hc:c<=9223372036854775807/\n<=1000000000)(hr:gq W W.a.j A n l):aQ ah 175 #[.a A n c] W (FoP W (zV l)):=by
 have HR:=ab hr;have hl:=ab hr.len;have b0:=ab (dJ.new W xA.ay 192);have B0:=ab ((aH W.a.j W).alloc (av _) (.D xA.ay 192));clear hr;go_enter Tryz.func175,Tryz.ntmps175;by_cases h20:n<20
 ·have ap8:(n:Int)<20:=by omega
  have H:=ab (show zV l=(xA,2)from Gj (by unfold Dr;rw[if_pos (by rw[hl.i];exact h20)]) (by decide));go_wp2;refine aN (kFo.qB rfl _ rfl b0.i (Fo.G _)) rfl ?_;rw[H.i];exact⟨rfl,B0.i⟩
 have ap8:¬(n:Int)<20:=by omega
 have i0:(0:Int)<n:=by omega
 have i0':0<n:=by omega
 generalize hw1:W.alloc (.D xA.ay 192)=w1 at b0 B0;obtain⟨T,f,n0,E0,es,ew⟩:=IB (fun W'=>aL W.a.j W W'/\dJ W' W.a.j xA.ay) w1 ⟨B0.i.drew,b0.i.drew⟩;have hT:Nonempty T:=⟨n0⟩
 have ES:=ab es;have EW:=ab ew;clear es ew;have RF:=ab (fun m=>(HR.i.S (ES.i m).1).lD (ES.i m).1.j:∀m,gq (f m) (f m).a.j A n l);have C2:=ab (fun m=>abl (f m) A n c l 2 2 rfl (by omega) hnc (by omega) (RF.i m));have C6:=ab (fun m=>abl (f m) A n c l 6 6 rfl (by omega) hnc (by omega) (RF.i m));obtain⟨a,rfl,hab,hc0⟩:=HR.i.at_ (show 0<n by omega);rw[Ox]at hc0;have hf0:∀m,(f m).b a=some (.b .b (nO l 0)):=fun m=>((ES.i m).1.cell hab).trans hc0
 have hb:=uY l 0;have hA:=ays _ hb;have hw16:=jS ((nO l 0%16:Nat):Int) (by omega);have hw64:=jS (((nO l 0%16:Nat):Int)*4) (by omega);clear hc0;go_upto_region 3 with fail
 clear hw1;refine oh f (by kernel_rfl) (by kernel_rfl) n0 E0 ?_
 repeat(go_big_quiet_step ((first
  | (go_at_call 246;with_reducible refine(C2.i _).g ?_;rintro e w2 ⟨rfl,hb⟩;exact⟨rfl,EW.i _ ⟨(ES.i _).1.trans (hb.g (ES.i _).1.j),(ES.i _).2.go hb⟩⟩)
  | (go_at_call 246;with_reducible refine(C6.i _).g ?_;rintro e w2 ⟨rfl,hb⟩;exact⟨rfl,EW.i _ ⟨(ES.i _).1.trans (hb.g (ES.i _).1.j),(ES.i _).2.go hb⟩⟩))))
 refine gK ?_;rintro _ ⟨m,rfl⟩;obtain⟨hS1,hS2⟩:=ES.i m;have S1:=ab hS1;have S2:=ab hS2;have R2:=ab (RF.i m);have cb:=hf0 m;clear hS1 hS2 ES EW RF C2 C6 hf0 E0 hT n0 hA hw16 hw64;generalize f m=w2 at *;have HE:=ab (fun(x:Fo)=>show dJ (gI w2 W.a.j 0 x.ay) W.a.j x.ay/\aL W.a.j W (gI w2 W.a.j 0 x.ay)from⟨S2.i.put x.ay (by rw[Fo.G,Fo.G]),kR S1.i _ _ _ (av _)⟩);have yK:=S2.i.O 0 42 (by rw[Fo.G];omega);obtain⟨hd,hhd⟩:=dw (LM l);have HD:=ab hhd.symm;have ehd:(nO l 0:Int)%16*4=(hd:Int):=by rw[hhd];unfold LM;omega
 obtain⟨t,ht⟩:=dw (eU l 2);have HT:=ab ht.symm;have htl:t<=65535:=by rw[ht];exact vK l 2
 rw[<-ht];clear hhd ht;have N20:=ab (show¬l.a<20 by rw[hl.i];exact h20);by_cases e1:¬nO l 0/16=4
 ·have q:((nO l 0:Int)/16 != 4)=true:=by rw[bne_iff_ne];omega
  have H:=ab (show zV l=(xA,3)from Gj (by unfold Dr;rw[if_neg N20.i,if_pos (.a e1)]) (by decide));go_wp2;refine aN (kFo.qB rfl _ rfl (HE.i xA).1 (Fo.G _)) rfl ?_;rw[H.i];exact⟨rfl,(HE.i xA).2⟩
 have qe1:((nO l 0:Int)/16 != 4)=false:=by simp;omega
 by_cases e2:hd<20
 ·have q:(hd:Int)<20:=by omega
  have H:=ab (show zV l=(xA,3)from Gj (by unfold Dr;rw[if_neg N20.i,if_pos (.b (by rw[HD.i];exact e2))]) (by decide));go_wp2;refine aN (kFo.qB rfl _ rfl (HE.i xA).1 (Fo.G _)) rfl ?_;rw[H.i];exact⟨rfl,(HE.i xA).2⟩
 have qe2:¬(hd:Int)<20:=by omega
 by_cases e3:n<hd
 ·have q:(n:Int)<hd:=by omega
  have H:=ab (show zV l=(xA,2)from Gj (by unfold Dr;rw[if_neg N20.i,if_neg (fun h=>h.elim e1 (by rw[HD.i];exact e2)),if_pos (by rw[hl.i,HD.i];exact e3)]) (by decide));go_wp2;refine aN (kFo.qB rfl _ rfl (HE.i xA).1 (Fo.G _)) rfl ?_;rw[H.i];exact⟨rfl,(HE.i xA).2⟩
 have qe3:¬(n:Int)<hd:=by omega
 by_cases e4:t<hd
 ·have q:(t:Int)<hd:=by omega
  have H:=ab (show zV l=(xA,3)from Gj (by unfold Dr;rw[if_neg N20.i,if_neg (fun h=>h.elim e1 (by rw[HD.i];exact e2)),if_neg (by rw[hl.i,HD.i];exact e3),if_pos (by rw[HT.i,HD.i];exact e4)]) (by decide));go_wp2;refine aN (kFo.qB rfl _ rfl (HE.i xA).1 (Fo.G _)) rfl ?_;rw[H.i];exact⟨rfl,(HE.i xA).2⟩
 have qe4:¬(t:Int)<hd:=by omega
 by_cases e5:n<t
 ·have q:(n:Int)<t:=by omega
  have H:=ab (show zV l=(xA,2)from Gj (by unfold Dr;rw[if_neg N20.i,if_neg (fun h=>h.elim e1 (by rw[HD.i];exact e2)),if_neg (by rw[hl.i,HD.i];exact e3),if_neg (by rw[HT.i,HD.i];exact e4),if_pos (by rw[hl.i,HT.i];exact e5)]) (by decide));go_wp2;refine aN (kFo.qB rfl _ rfl (HE.i xA).1 (Fo.G _)) rfl ?_;rw[H.i];exact⟨rfl,(HE.i xA).2⟩
 have qe5:¬(n:Int)<t:=by omega
 have FE:=ab (show Dr l=if xg (l.d hd)≠0 then 8 else 0 by
  unfold Dr;rw[if_neg N20.i,if_neg (fun h=>h.elim e1 (by rw[HD.i];exact e2)),if_neg (by rw[hl.i,HD.i];exact e3),if_neg (by rw[HT.i,HD.i];exact e4),if_neg (by rw[hl.i,HT.i];exact e5),HD.i])
 have PH:gq w2 w2.a.j (some a) hd (l.d hd):=by
  have:=Rd.upto R2.i (k:=hd) (by omega);rw[gB,<-Ap]at this;exact this
 have S3:=ab (S1.i.alloc S1.i.j (.D #[.a (some a) hd c] 56));have C13:=ab (adb (w2.alloc (.D #[.a (some a) hd c] 56)) w2.a.j (some a) hd c w2.a.j (l.d hd) (by omega) (mQ _ _ _ _) (PH.alloc (av _) _));have S4:=ab (S2.i.alloc (.D #[.a (some a) hd c] 56));have R4:=ab ((R2.i.alloc (av _) (.D #[.a (some a) hd c] 56)).lD (by simp):gq (w2.alloc (.D #[.a (some a) hd c] 56)) (w2.alloc (.D #[.a (some a) hd c] 56)).a.j (some a) n l);have i4:(hd:Int)<=c:=by omega
 have hn4:=ada;clear PH HE yK S1 S2 R2;obtain⟨d,hd⟩:=dw (decide (xg (l.d hd)=0));have DD:=ab hd;rw[<-hd]at C13;clear hd;cases d with
 | false=>
   go_upto_region 14 with(go_at_call 247;with_reducible refine C13.i.g ?_;rintro e w3 ⟨rfl,rfl⟩)
   obtain⟨w3,hw3⟩:=dw (w2.alloc (.D #[.a (some a) hd c] 56));rw[<-hw3]at S3 S4 R4 ⊢;clear hw3 C13;have HE:=ab (fun(x:Fo)=>show dJ (gI w3 W.a.j 0 x.ay) W.a.j x.ay/\aL W.a.j W (gI w3 W.a.j 0 x.ay)from⟨S4.i.put x.ay (by rw[Fo.G,Fo.G]),kR S3.i _ _ _ (av _)⟩);have yK:=S4.i.O 0 42 (by rw[Fo.G];omega);have e6:¬xg (l.d hd)=0:=of_decide_eq_false DD.i.symm;have H:=ab (show zV l=(xA,8)from Gj (by rw[FE.i,if_pos e6]) (by decide));go_wp2;refine aN (kFo.qB rfl _ rfl (HE.i xA).1 (Fo.G _)) rfl ?_;rw[H.i];exact⟨rfl,(HE.i xA).2⟩
 | true=>
   go_upto_region 15 with(go_at_call 247;with_reducible refine C13.i.g ?_;rintro e w3 ⟨rfl,rfl⟩)
   obtain⟨w3,hw3⟩:=dw (w2.alloc (.D #[.a (some a) hd c] 56));rw[<-hw3]at S3 S4 R4 ⊢;clear hw3 C13;have e6:xg (l.d hd)=0:=of_decide_eq_true DD.i.symm;have H0:=ab (show zV l=(PI l,0)from auk (by rw[FE.i,if_neg (by simp[e6])]));obtain⟨f1,f2,f3⟩:8<n/\9<n/\12+4<=n:=by omega
   obtain⟨u,hu⟩:=dw (eU l 6);have hu0:u<=65535:=by rw[hu];exact vK l 6
   have HU:=ab hu;clear hu;have H:=ab (show zV l=((⟨(hd:Int),(t:Int),(nO l 1:Nat),(eU l 4:Nat),decide (u%16384≠0),decide (u/16384%2=1),(nO l 8:Nat),(nO l 9:Nat),Jc (l.f 12),Jc (l.f 16)⟩:Fo),0)by rw[H0.i];unfold PI;rw[HD.i,HT.i,<-HU.i]);have HU:=ab HU.i.symm;clear H0;rw[HU.i];have G14:=ayt u hu0;have G15:=ajt u hu0;obtain⟨T,f,n0,E0,es,ew⟩:=IB (fun W'=>aL W.a.j W W'/\dJ W' W.a.j xA.ay) w3 ⟨S3.i.drew,S4.i.drew⟩;have hT:Nonempty T:=⟨n0⟩
   have ES:=ab es;have EW:=ab ew;clear es ew;have RF:=ab (fun m=>(HR.i.S (ES.i m).1).lD (ES.i m).1.j:∀m,gq (f m) (f m).a.j (some a) n l);have C4:=ab (fun m=>abl (f m) (some a) n c l 4 4 rfl (by omega) hnc (by omega) (RF.i m));have R12:=ab (fun m=>(RF.i m).from (z:=12) (c:=c) (by omega) hnc);have R16:=ab (fun m=>(RF.i m).from (z:=16) (c:=c) (by omega) hnc);have cne:¬c=12/\¬c=16:=by omega
   simp only[if_neg cne.1,if_neg cne.2,Option.map_some,show a.add 12=⟨a.block,a.off+12,none⟩by simp[rb],show a.add 16=⟨a.block,a.off+16,none⟩by simp[rb]]at R12 R16;have C12:=ab (fun m=>Zf (f m) _ (n-12) (c-12) _ (by omega) (R12.i m));have C16:=ab (fun m=>Zf (f m) _ (n-16) (c-16) _ (by omega) (R16.i m));obtain⟨_,he1,hc1⟩:=R4.i.Yd 0 (by omega);obtain⟨_,he8,hc8⟩:=R4.i.Yd 7 (by omega);obtain⟨_,he9,hc9⟩:=R4.i.Yd 8 (by omega);cases he1;cases he8;cases he9;have hf1:∀m,(f m).b ⟨a.block,a.off+1,none⟩=some (.b .b (nO l 1)):=fun m=>by
    obtain⟨_,he,hc⟩:=(RF.i m).Yd 0 (by omega);cases he;exact hc
   have hf8:∀m,(f m).b ⟨a.block,a.off+8,none⟩=some (.b .b (nO l 8)):=fun m=>by
    obtain⟨_,he,hc⟩:=(RF.i m).Yd 7 (by omega);cases he;exact hc
   have hf9:∀m,(f m).b ⟨a.block,a.off+9,none⟩=some (.b .b (nO l 9)):=fun m=>by
    obtain⟨_,he,hc⟩:=(RF.i m).Yd 8 (by omega);cases he;exact hc
   have hx1:=jS (nO l 1) (by have:=uY l 1;omega);have hx8:=jS (nO l 8) (by have:=uY l 8;omega);have hx9:=jS (nO l 9) (by have:=uY l 9;omega);clear hc1 hc8 hc9;clear R12 R16 S3 S4 R4 RF FE N20 DD HR B0 b0;refine UN f 29 (by kernel_rfl) (by kernel_rfl) n0 E0 ?_;simp only[jM,jX,jN,kX]
   repeat(go_big_quiet_step ((first
    | (go_at_call 246;with_reducible refine(C4.i _).g ?_;rintro e w2 ⟨rfl,hb⟩;exact⟨rfl,EW.i _ ⟨(ES.i _).1.trans (hb.g (ES.i _).1.j),(ES.i _).2.go hb⟩⟩)
    | (go_at_call 248;with_reducible refine(C12.i _).g ?_;rintro e w2 ⟨rfl,hb⟩;exact⟨rfl,EW.i _ ⟨(ES.i _).1.trans (hb.g (ES.i _).1.j),(ES.i _).2.go hb⟩⟩)
    | (go_at_call 248;with_reducible refine(C16.i _).g ?_;rintro e w2 ⟨rfl,hb⟩;exact⟨rfl,EW.i _ ⟨(ES.i _).1.trans (hb.g (ES.i _).1.j),(ES.i _).2.go hb⟩⟩))))
   refine gK ?_;rintro _ ⟨m',rfl⟩;obtain⟨hS1,hS2⟩:=ES.i m';clear ES EW C12 C16 C4 hf1 hf8 hf9 E0;generalize f m'=w5 at *;clear hT n0;have HE:=ab (fun(x:Fo)=>show dJ (gI w5 W.a.j 0 x.ay) W.a.j x.ay/\aL W.a.j W (gI w5 W.a.j 0 x.ay)from⟨hS2.put x.ay (by rw[Fo.G,Fo.G]),kR hS1 _ _ _ (av _)⟩);have yK:=hS2.O 0 42 (by rw[Fo.G];omega);clear hS1 hS2;obtain⟨X,hX⟩:=dw ((⟨(hd:Int),(t:Int),(nO l 1:Nat),(eU l 4:Nat),!decide (u%16384=0),decide (u/16384%2=1),(nO l 8:Nat),(nO l 9:Nat),Jc (l.f 12),Jc (l.f 16)⟩:Fo));have H:=ab (show zV l=(X,0)by rw[H.i,hX];simp only[ne_eq,decide_not]);rw[<-hX];clear hX;have hE:=HE.i X;clear HE G14 G15 hx1 hx8 hx9 cne;go_step;go_simp;go_step;go_step;go_simp;go_step;go_step;go_wp2;refine aN (kFo.qB rfl _ rfl hE.1 (Fo.G _)) rfl ?_;rw[H.i];exact⟨rfl,hE.2⟩
structure aju(g:FuncId):Prop where
 I:∀(c:Nat)(w:ak),aQ ah g #[.b .b c] w fun e w'=>e=.a (.e ((c:Int) != 0))/\w=w'
 enter:∀(args:Array aB)(w:ak),(callFunc g args).I ah w=.ok (.enter g args) w
def nzB(l:List UInt8):Bool:=l.any fun b=>b != 0
theorem amK{l:List UInt8}(h:∀j,j<l.a->l.b j 0=0):nzB l=false:=by
 unfold nzB;rw[List.any_eq_false];intro b hb;obtain⟨j,hj,rfl⟩:=List.getElem_of_mem hb;have:=h j hj;simp[au,hj]at this;simp[this]
theorem aum{l:List UInt8}{j:Nat}(hj:j<l.a)(h:l.b j 0≠0):nzB l=true:=by
 unfold nzB;rw[List.any_eq_true];refine⟨l[j],dR _,?_⟩;simp[au,hj]at h;simp[h]
theorem ayv(g:FuncId)(G:aju g)(A:Option aS)(n c B:Nat)(w:ak)(l:List UInt8)(hc:n<=1000000000)(hr:gq w B A n l):
 aQ ah 260 #[.a A n c,.func (.func g) #[] #[]] w fun e w'=>∃r:Int,e=.a (.b .a r)/\(decide (0<=r)=nzB l)/\w=w':=by
 have hen:=G.enter;have GG:=ab G.I;have HR:=ab hr;have hl:=ab hr.len;clear hr;go_enter Tryz.func260,Tryz.ntmps260;go_wp2;go_loop [8] (fun s8=>∃i:Nat,i<=n/\s8=.b .a i/\∀j,j<i->l.b j 0=0) (fun s8=>n-(intOf s8).e)
 case atStart=>exact⟨0,by omega,rfl,fun j h1=>by omega⟩
 case round=>
  obtain⟨i,hi,rfl,hall⟩:=hrel;have HA:=ab hall;clear hall;by_cases hlt:i<n
  ·have hin:(i:Int)<n:=by omega
   obtain⟨a,rfl,hab,hcell⟩:=HR.i.at_ hlt;unfold bv at hcell;have hz:((l.b i 0).e:Int)=0↔l.b i 0=0:=by
    constructor
    ·intro h;apply lY.1;have:(0:UInt8).e=0:=rfl;omega
    ·intro h;rw[h];rfl
   have HZ:=ab hz;clear hz hab;obtain⟨m,hm⟩:∃m:Nat,m=(l.b i 0).e:=⟨_,rfl⟩
   rw[<-hm]at hcell HZ;clear hm;by_cases h0:m=0
   ·have h1:((m:Int) != 0)=false:=by rw[h0];rfl
    have hz0:l.b i 0=0:=HZ.i.1 (by omega);have HZ0:=ab hz0;clear hz0 h0;go_wp2_with (refine(GG.i m _).g ?_;rintro e w' ⟨rfl,rfl⟩);go_round
    case rel=>exact⟨i+1,by omega,by go_num,fun j h1=>by
     by_cases hji:j=i
     ·rw[hji];exact HZ0.i
     ·exact HA.i j (by omega)⟩
    case measure=>simp[intOf]<;>omega
   ·have h1:((m:Int) != 0)=true:=by rw[bne_iff_ne];omega
    have Ea:=ab (aum (l:=l) (j:=i) (by rw[hl.i];exact hlt) (fun h=>h0 (by have:=HZ.i.2 h;omega)));clear h0;go_wp2_with (refine(GG.i m _).g ?_;rintro e w' ⟨rfl,rfl⟩);go_ret;exact⟨_,rfl,by rw[Ea.i];simp,rfl⟩
  ·obtain rfl:i=n:=by omega
   have HS:=ab (amK (l:=l) (fun j hj=>HA.i j (by rw[hl.i]at hj;exact hj)));go_wp2;go_ret;exact⟨_,rfl,by rw[HS.i];simp,rfl⟩
theorem ahO(g:FuncId)(G:aju g)(A:Option aS)(n c B:Nat)(w:ak)(l:List UInt8)(hc:n<=1000000000)(hr:gq w B A n l):
 aQ ah 189 #[.a A n c,.func (.func g) #[] #[]] w fun e w'=>e=.a (.e (nzB l))/\w=w':=by
 have I:=ab (ayv g G A n c B w l hc hr);clear hr;go_enter Tryz.func189,Tryz.ntmps189;go_wp2_with (go_at_call 260;refine I.i.g ?_;rintro e w' ⟨r,rfl,hr,rfl⟩);go_ret;exact⟨by simp,rfl⟩
theorem amL:aju 354:=⟨fun c w=>by
 go_enter Tryz.func354,Tryz.ntmps354;go_wp2;go_ret;exact⟨rfl,rfl⟩,fun args w=>by kernel_rfl⟩
theorem gq.Ny{w:ak}{B b o:Nat}{l:List UInt8}(hb:b<B)(h:∀j,j<l.a->w.b ⟨b,o+j,none⟩=some (bv (l.b j 0))):gq w B (some ⟨b,o,none⟩) l.a l:=by
 refine⟨by simp,fun h0=>⟨⟨b,o,none⟩,rfl,hb,fun j u hu=>?_⟩⟩;have hj:j<l.a:=by
  rcases aZ j l.a with h1|h1
  ·exact h1
  ·rw[aT (by simpa using h1)]at hu;cases hu
 rw[show(⟨b,o,none⟩:aS).add j=⟨b,o+j,none⟩by unfold rb;split<;>simp_all,h j hj];rw[jC,aC hj]at hu;simp only[Option.map_some,Option.some.injEq]at hu;rw[<-hu,au,aC hj];rfl
theorem J6(a:fu):nzB (a.b.a.f 4) = !a.mJ:=by
 unfold nzB fu.mJ;rw[List.any_eq_not_all_not];congr 2;funext c;show(!(c != 0))=(c==0);unfold bne;rw[Bool.not_not]
theorem gq.tail{w:ak}{B h:Nat}{a:fu}(hb:h<B)(x:dJ w h a.ay):gq w B (some ⟨h,5,none⟩) 12 (a.b.a.f 4):=by
 have hl:(a.b.a.f 4).a=12:=by rw[jA,fu.axo]
 have:=gq.Ny (w:=w) (o:=5) (l:=a.b.a.f 4) hb (fun j hj=>by
  rw[hl]at hj;rw[x.K.1 (5+j),show 5+j=(4+j)+1 by omega,fu.Eo a (4+j) (by omega)];simp[au])
 rwa [hl]at this
theorem af'(k m:Int)(w:ak):aQ ah 316 #[.b .a k,.b .a m] w (gM w (.e (decide (0<=k)&&decide (k<=m)))):=by
 go_enter Tryz.func316,Tryz.ntmps316;by_cases h1:0<=k<;>by_cases h2:k<=m
 all_goals
  go_wp2;go_ret;exact⟨by simp[h1,h2],aH _ _⟩
theorem VR(a:fu)(w:ak):aQ ah 317 #[.d a.ay] w (gM w (.e (!a.h&&a.mJ))):=by
 have HB:=ab ((aH w.a.j w).alloc (av _) (.D a.ay 27));have x0:=dJ.new w a.ay 27;have C:=ab (ahO _ amL _ 12 12 _ _ _ (by omega) (gq.tail (B:=w.a.j+1) (mG _) x0));have HS:=ab (J6 a);obtain⟨z,hz⟩:=dw (nzB (a.b.a.f 4));rw[<-hz]at C HS;clear hz;cases h6:a.h
 ·have H6:=ab h6
  go_enter Tryz.func317,Tryz.ntmps317;go_wp2_with fail;refine C.i.g ?_;rintro e w' ⟨rfl,rfl⟩;cases z
  all_goals
   go_wp2;go_ret;exact⟨by have:=HS.i;simp at this;simp[<-this],HB.i⟩
 ·go_enter Tryz.func317,Tryz.ntmps317
  go_wp2;go_ret;exact⟨rfl,HB.i⟩
theorem ajw(k:Int)(w:ak):aQ ah 313 #[.b .a k] w (gM w (.b .a (if k=6 then 16 else if k=17 then 6 else 0))):=by
 go_enter Tryz.func313,Tryz.ntmps313;by_cases h1:k=6
 ·subst h1
  go_wp2;go_ret;exact⟨rfl,aH _ _⟩
 by_cases h2:k=17
 ·subst h2
  go_wp2;go_ret;exact⟨rfl,aH _ _⟩
 have q1:(k==6)=false:=by simp[h1]
 have q2:(k==17)=false:=by simp[h2]
 go_wp2;go_ret;exact⟨rfl,aH _ _⟩
@[go_sem]theorem aDj(W:ak)(a b c d:Int):(uN 172 #[(0,.b .a a),(1,.b .a b),(3,.b .a c),(4,.b .a d)]).I ah W=.ok (.d (Pt.mk a b 0 c d).ay) W:=Tw.bd W _ _ _ _ oW (aua W _ oW) rfl
def qp(aP:Int)(l:List UInt8):Pt:=if aP=6 then⟨eU l 0,eU l 2,(nO l 13%64:Nat),(nO l 12/16*4:Nat),l.a⟩else⟨eU l 0,eU l 2,0,8,eU l 4⟩
def uZ(aP:Int)(l:List UInt8):Int:=
 if aP≠6/\aP≠17 then 5 else if l.a<(if aP=6 then 20 else 8)then 2
 else if(aP=6/\(qp aP l).head<20)\/(qp aP l).dz<8 then 3 else if(l.a:Int)<max (qp aP l).head (qp aP l).dz then 2 else 0
def Je(aP:Int)(l:List UInt8):Pt×Int:=if uZ aP l=0 then(qp aP l,0)else(qI,uZ aP l)
theorem uJ{p:Int}{l:List UInt8}{k:Int}(h:uZ p l=k)(hk:k≠0):Je p l=(qI,k):=by unfold Je;rw[h,if_neg hk]
theorem VT{p:Int}{l:List UInt8}(h:uZ p l=0):Je p l=(qp p l,0):=by unfold Je;rw[if_pos h]
def PtP(W:ak)(r:Pt×Int)(e:lq)(W':ak):Prop:=e=.a (.J #[.d r.1.ay,.b .a r.2])/\aL W.a.j W W'
theorem gq.upon{W w1:ak}{n:Nat}{A:Option aS}{l:List UInt8}(h:gq W W.a.j A n l)(hb:aL W.a.j W w1):gq w1 w1.a.j A n l:=(h.S hb).lD hb.j
theorem ayw(b:Nat)(h:b<256):bits .and .b (b:Int) 63=((b%64:Nat):Int):=(by decide +kernel:∀b:Fin 256,bits .and .b ((b.val:Nat):Int) 63=((b.val%64:Nat):Int)) ⟨b,h⟩
theorem abq(W:ak)(p:Int)(A:Option aS)(n c:Nat)(l:List UInt8)(hnc:n<=c)(hc:c<=9223372036854775807/\n<=1000000000)(hr:gq W W.a.j A n l):aQ ah 95 #[.b .a p,.a A n c] W (PtP W (Je p l)):=by
 have HR:=ab hr;have hl:=ab hr.len;have b0:=ab (dJ.new W qI.ay 172);have B0:=ab ((aH W.a.j W).alloc (av _) (.D qI.ay 172));clear hr;go_enter Tryz.func95,Tryz.ntmps95;by_cases hp:p≠6/\p≠17
 ·have q1:(p==6)=false:=by simp[hp.1]
  have q2:(p != 17)=true:=by simp[hp.2]
  have H:=ab (show Je p l=(qI,5)from uJ (by unfold uZ;rw[if_pos hp]) (by decide));go_wp2;refine aN (Tw.qB rfl _ rfl b0.i (Pt.G _)) rfl ?_;rw[H.i];exact⟨rfl,B0.i⟩
 have HP:=ab hp;by_cases p6:p=6
 ·subst p6
  by_cases h20:n<20
  ·have ap8:(n:Int)<20:=by omega
   have H:=ab (show Je 6 l=(qI,2)from uJ (by unfold uZ;rw[if_neg HP.i,if_pos rfl,if_pos (by rw[hl.i];exact h20)]) (by decide));go_wp2;refine aN (Tw.qB rfl _ rfl b0.i (Pt.G _)) rfl ?_;rw[H.i];exact⟨rfl,B0.i⟩
  have ap8:¬(n:Int)<20:=by omega
  have h8':¬(n:Int)<8:=by omega
  have R1:=HR.i.upon B0.i;have C0:=ab (Nu _ A n c l 0 0 rfl (by omega) hnc (by omega) R1);go_upto_region 9 with(go_at_call 177;first|(refine C0.i.g ?_;rintro e w1 ⟨rfl,hb1⟩;have C2:=ab (Nu w1 A n c l 2 2 rfl (by omega) hnc (by omega) ((HR.i.upon B0.i).upon hb1));clear C0)|(refine C2.i.g ?_;rintro e w2 ⟨rfl,hb2⟩))
  have B2:=ab (B0.i.trans (hb1.g B0.i.j));have B3:=ab (B2.i.trans (hb2.g B2.i.j));have R2:=ab (HR.i.upon B3.i);have b2:=ab ((b0.i.go hb1).go hb2);clear hb1 hb2 C2;obtain⟨k,hk⟩:=dw w2.a.j;obtain⟨w3,hw3⟩:=dw (w2.alloc (.D (Pt.mk (eU l 0) (eU l 2) 0 8 n).ay 172));have x3:=ab (show dJ w3 k (Pt.mk (eU l 0) (eU l 2) 0 8 n).ay by rw[hw3,hk];exact dJ.new _ _ _);have b3:=ab (show dJ w3 W.a.j qI.ay by rw[hw3];exact b2.i.alloc _);have R3:=ab (show gq w3 k A n l by rw[hw3,hk];exact R2.i.alloc (av _) _);have hlt:=b2.i.lt;have hs3:W.a.j<k:=by rw[hk];exact hlt
  rw[<-hw3,<-hk];have B4:=ab (show aL W.a.j W w3 by rw[hw3];exact B3.i.alloc B3.i.j _);clear hk hw3 hlt R2 b2 B2 B3 B0 b0;obtain⟨a,ea,hab,_⟩:=R3.i.at_ (show 0<n by omega);subst ea;obtain⟨_,e12,h12⟩:=R3.i.Yd 11 (by omega);cases e12;obtain⟨_,e13,h13⟩:=R3.i.Yd 12 (by omega);cases e13;have hne:a.block≠k:=by omega
  have hne':k≠a.block:=by omega
  obtain⟨x1,x2,x4,x5⟩:=x3.i.K;obtain⟨i12,i13⟩:12<n/\13<n:=by omega
  have aDk:=uY l 12;have hA:=ab (ayw _ (uY l 13));have hw1:bU.wrap ((nO l 12:Int)/16)=(nO l 12:Int)/16:=jS _ (by omega);have hw2:bU.wrap ((nO l 12:Int)/16*4)=(nO l 12:Int)/16*4:=jS _ (by omega);have hw3:wrap64 ((nO l 13%64:Nat):Int)=((nO l 13%64:Nat):Int):=by unfold wrap64;omega
  have hw1:=ab hw1;have hw2:=ab hw2;have hw3:=ab hw3;have hw4:bU.wrap ((nO l 13%64:Nat):Int)=((nO l 13%64:Nat):Int):=jS _ (by omega);have hw4:=ab hw4;clear aDk;go_region_held_law (fun W'=>W'.b ⟨a.block,a.off+12,none⟩=some (.b .b (nO l 12))/\W'.b ⟨a.block,a.off+13,none⟩=some (.b .b (nO l 13)))
   (first|exact⟨h12,h13⟩|go_keep) (fail)
  all_goals
   go_upto_region 11 with fail
  all_goals
   have eh:(nO l 12:Int)/16*4=((nO l 12/16*4:Nat):Int):=by omega
   simp only[hA.i,hw1.i,hw2.i,hw3.i,hw4.i,eh];obtain⟨g,hg⟩:=dw (nO l 13%64);obtain⟨h,hh⟩:=dw (nO l 12/16*4);have G0:=ab (show qp 6 l=⟨eU l 0,eU l 2,(g:Nat),(h:Nat),n⟩by unfold qp;rw[if_pos rfl,<-hg,<-hh,hl.i]);rw[<-hg,<-hh];clear hg hh eh hA hw1 hw2 hw3 hw4 h12 h13 x1 x2 x4 x5;have X1:=x3.i.eH 3 (.b .a (h:Int));rw[Pt.Nq]at X1;have X2:=X1.eH 2 (.b .a (g:Int));rw[Pt.PE]at X2;have b5:=(b3.i.dM ⟨k,3,none⟩ (.b .a (h:Int)) (by show k≠_;omega)).dM ⟨k,2,none⟩ (.b .a (g:Int)) (by show k≠_;omega);have B5:=((B4.i.F (p:=⟨k,3,none⟩) (mH hs3) (.b .a (h:Int))).F (p:=⟨k,2,none⟩) (mH hs3) (.b .a (g:Int))).drew;have X2:=X2.drew;have b5:=b5.drew;clear x3 b3 B4 R3 X1;generalize((w3.F ⟨k,3,none⟩ (.b .a (h:Int))).F ⟨k,2,none⟩ (.b .a (g:Int))).drew=w5 at *;have N20:=ab (show¬l.a<(if(6:Int)=6 then 20 else 8)by rw[if_pos rfl,hl.i];exact h20);have HE:=ab (fun(x:Pt)=>show dJ (gI w5 W.a.j 0 x.ay) W.a.j x.ay/\aL W.a.j W (gI w5 W.a.j 0 x.ay)from⟨b5.put x.ay (by rw[Pt.G,Pt.G]),kR B5 _ _ _ (av _)⟩);have yK:=b5.O 0 5 (by rw[Pt.G];omega);obtain⟨y1,y2,y3,y4⟩:=X2.K;clear b5 B5 X2;have n8:¬(n:Int)<8:=by omega
   by_cases e1:h<20
   ·have q:(h:Int)<20:=by omega
    have H:=ab (show Je 6 l=(qI,3)from uJ (by unfold uZ;rw[if_neg HP.i,if_neg N20.i,if_pos (.a ⟨rfl,by rw[G0.i];exact q⟩)]) (by decide));go_wp2;refine aN (Tw.qB rfl _ rfl (HE.i qI).1 (Pt.G _)) rfl ?_;rw[H.i];exact⟨rfl,(HE.i qI).2⟩
   have q:¬(h:Int)<20:=by omega
   by_cases e2:n<h
   ·have q2:max (h:Int) n>n:=by omega
    have H:=ab (show Je 6 l=(qI,2)from uJ (by unfold uZ;rw[if_neg HP.i,if_neg N20.i,if_neg (by rw[G0.i];rintro(h|h);exact q h.2;exact n8 h),if_pos (by rw[G0.i,hl.i];exact q2)]) (by decide));go_wp2;refine aN (Tw.qB rfl _ rfl (HE.i qI).1 (Pt.G _)) rfl ?_;rw[H.i];exact⟨rfl,(HE.i qI).2⟩
   have q2:¬max (h:Int) n>n:=by omega
   have H:=ab (show Je 6 l=(qp 6 l,0)from VT (by unfold uZ;rw[if_neg HP.i,if_neg N20.i,if_neg (by rw[G0.i];rintro(h|h);exact q h.2;exact n8 h),if_neg (by rw[G0.i,hl.i];exact q2)]));rw[G0.i]at H;go_wp2;refine aN (Tw.qB rfl _ rfl (HE.i ⟨eU l 0,eU l 2,(g:Nat),(h:Nat),n⟩).1 (Pt.G _)) rfl ?_;rw[H.i];exact⟨rfl,(HE.i _).2⟩
 ·obtain rfl:p=17:=by omega
  by_cases h20:n<8
  ·have ap8:(n:Int)<8:=by omega
   have H:=ab (show Je 17 l=(qI,2)from uJ (by unfold uZ;rw[if_neg HP.i,if_neg p6,if_pos (by rw[hl.i];exact h20)]) (by decide));go_wp2;refine aN (Tw.qB rfl _ rfl b0.i (Pt.G _)) rfl ?_;rw[H.i];exact⟨rfl,B0.i⟩
  have h8':¬(n:Int)<8:=by omega
  have R1:=HR.i.upon B0.i;have C0:=ab (Nu _ A n c l 0 0 rfl (by omega) hnc (by omega) R1);have q6:((17:Int)==6)=false:=rfl;go_upto_region 10 with(go_at_call 177;first|(refine C0.i.g ?_;rintro e w1 ⟨rfl,hb1⟩;have C2:=ab (Nu w1 A n c l 2 2 rfl (by omega) hnc (by omega) ((HR.i.upon B0.i).upon hb1));clear C0)|(refine C2.i.g ?_;rintro e w2 ⟨rfl,hb2⟩))
  have B2:=ab (B0.i.trans (hb1.g B0.i.j));have B3:=ab (B2.i.trans (hb2.g B2.i.j));have R2:=ab (HR.i.upon B3.i);have b2:=ab ((b0.i.go hb1).go hb2);clear hb1 hb2 C2;obtain⟨k,hk⟩:=dw w2.a.j;obtain⟨w3,hw3⟩:=dw (w2.alloc (.D (Pt.mk (eU l 0) (eU l 2) 0 8 n).ay 172));have x3:=ab (show dJ w3 k (Pt.mk (eU l 0) (eU l 2) 0 8 n).ay by rw[hw3,hk];exact dJ.new _ _ _);have b3:=ab (show dJ w3 W.a.j qI.ay by rw[hw3];exact b2.i.alloc _);have R3:=ab (show gq w3 w3.a.j A n l by rw[hw3];exact(R2.i.alloc (av _) _).lD (by simp));have hlt:=b2.i.lt;have hs3:W.a.j<k:=by rw[hk];exact hlt
  rw[<-hw3,<-hk];have B4:=ab (show aL W.a.j W w3 by rw[hw3];exact B3.i.alloc B3.i.j _);clear hk hw3 hlt R2 b2 B2 B3 B0 b0;have C4:=ab (Nu w3 A n c l 4 4 rfl (by omega) hnc (by omega) R3.i);have hk3:=x3.i.lt;go_upto_region 11 with(go_at_call 177;refine C4.i.g ?_;rintro e w4 ⟨rfl,hb4⟩;have b4:=ab (b3.i.go hb4);have x4:=ab (x3.i.go hb4);have B5:=ab (B4.i.trans (hb4.g B4.i.j));obtain⟨x5,x6,x7,x8⟩:=x4.i.K;clear hb4)
  obtain⟨t,ht⟩:=dw (eU l 4);have G0:=ab (show qp 17 l=⟨eU l 0,eU l 2,0,8,(t:Nat)⟩by unfold qp;rw[if_neg (by decide),<-ht]);rw[<-ht];clear ht;have X2:=x4.i.eH 4 (.b .a (t:Int));rw[Pt.PG]at X2;have b5:=b4.i.dM ⟨k,4,none⟩ (.b .a (t:Int)) (by show k≠_;omega);have B6:=B5.i.F (p:=⟨k,4,none⟩) (mH hs3) (.b .a (t:Int));clear x3 b3 B4 R3 x4 b4 B5 x5 x6 x7 x8 C4;generalize w4.F ⟨k,4,none⟩ (.b .a (t:Int))=w5 at *;have N20:=ab (show¬l.a<(if(17:Int)=6 then 20 else 8)by rw[if_neg (by decide),hl.i];exact h20);have HE:=ab (fun(x:Pt)=>show dJ (gI w5 W.a.j 0 x.ay) W.a.j x.ay/\aL W.a.j W (gI w5 W.a.j 0 x.ay)from⟨b5.put x.ay (by rw[Pt.G,Pt.G]),kR B6 _ _ _ (av _)⟩);have yK:=b5.O 0 5 (by rw[Pt.G];omega);obtain⟨y1,y2,y3,y4⟩:=X2.K;clear b5 B6 X2;by_cases e1:t<8
  ·have q:(t:Int)<8:=by omega
   have H:=ab (show Je 17 l=(qI,3)from uJ (by unfold uZ;rw[if_neg HP.i,if_neg N20.i,if_pos (.b (by rw[G0.i];exact q))]) (by decide));go_wp2;refine aN (Tw.qB rfl _ rfl (HE.i qI).1 (Pt.G _)) rfl ?_;rw[H.i];exact⟨rfl,(HE.i qI).2⟩
  have q:¬(t:Int)<8:=by omega
  by_cases e2:n<t
  ·have q2:max (8:Int) t>n:=by omega
   have H:=ab (show Je 17 l=(qI,2)from uJ (by unfold uZ;rw[if_neg HP.i,if_neg N20.i,if_neg (by rw[G0.i];rintro(h|h);exact p6 h.1;exact q h),if_pos (by rw[G0.i,hl.i];exact q2)]) (by decide));go_wp2;refine aN (Tw.qB rfl _ rfl (HE.i qI).1 (Pt.G _)) rfl ?_;rw[H.i];exact⟨rfl,(HE.i qI).2⟩
  have q2:¬max (8:Int) t>n:=by omega
  have H:=ab (show Je 17 l=(qp 17 l,0)from VT (by unfold uZ;rw[if_neg HP.i,if_neg N20.i,if_neg (by rw[G0.i];rintro(h|h);exact p6 h.1;exact q h),if_neg (by rw[G0.i,hl.i];exact q2)]));rw[G0.i]at H;go_wp2;refine aN (Tw.qB rfl _ rfl (HE.i ⟨eU l 0,eU l 2,0,8,(t:Nat)⟩).1 (Pt.G _)) rfl ?_;rw[H.i];exact⟨rfl,(HE.i _).2⟩
def Jf(n:Nat):Array aB:=((dV n (0:UInt8)).map bv).c
theorem adJ(n:Nat):(Jf n).j=n:=by simp[Jf]
theorem aga(n:Nat):madeCells (aI .b 0).D n=Jf n:=by
 apply dW;intro j;rcases aZ j n with h|h
 ·simp[madeCells,Jf,cO,bv,h,Nat.mod_one]
 ·rw[aU (by simp[madeCells];omega),aU (by rw[adJ];omega)]
theorem ajx(n:Nat)(hn:n<=16777216)(w:ak):(xP 56 (.b .a (n:Int)) (.b .a (n:Int))).I ah w=.ok (.a (some ⟨w.a.j,0,none⟩) n n) (w.alloc (.D (Jf n) 5)):=by
 obtain⟨i0,hi0,hz0,hz1,hz2⟩:=zA;have:=run_makeSlice w 56 5 i0 _ dx hi0 hz0 .a .a (n:Int) (n:Int) (by omega) (Int.le_refl _) (by rw[hz1];simp;omega) (by rw[hz2];omega) (by omega);rw[this,hz1,Int.toNat_natCast,gB,aga]
def qO(p:Int)(l:List UInt8):Nat:=if p=0\/p=43\/p=60 then nO l 1*4+nO l 1*4+8 else if p=51 then nO l 1*4+8 else if p=44 then 8 else 0
def zM(p:Int):Bool:=decide (p=0\/p=43\/p=60\/p=51\/p=44)
theorem QJ(p:Int)(l:List UInt8):(0<qO p l)↔zM p=true:=by
 unfold qO zM;rw[decide_eq_true_eq];split
 ·rename_i h;constructor
  ·intro _;rcases h with h|h|h<;>simp[h]
  ·intro _;omega
 ·split
  ·rename_i h;simp[h]
  ·split
   ·rename_i h;simp[h]
   ·simp;omega
theorem agb(p:Int)(l:List UInt8):qO p l<=2048:=by
 have:=uY l 1;unfold qO
 repeat(first|split|omega)
theorem QK(p:Int)(A:Option aS)(n c B:Nat)(l:List UInt8)(W:ak)(h2:2<=n)(hr:gq W B A n l):aQ ah 251 #[.b .a p,.a A n c] W fun e W'=>e=.a (.b .a (qO p l))/\W=W':=by
 obtain⟨a,rfl,hc⟩:=hr.Yd 0 (by omega);have i1:1<n:=by omega
 have E:=ab (show∀b,b=nO l 1->qO p l=if p=0\/p=43\/p=60 then b*4+b*4+8 else if p=51 then b*4+8 else if p=44 then 8 else 0 from fun b h=>by rw[h];rfl);obtain⟨b,hb⟩:=dw (nO l 1);have Yt:b<256:=by rw[hb];exact uY l 1
 have E:=ab (E.i b hb);rw[<-hb]at hc;clear hb hr;have w1:=jS (b:Int) (by omega);have w2:=jS ((b:Int)*4) (by omega);have w3:=jS ((b:Int)*4+b*4) (by omega);have w4:=jS ((b:Int)*4+b*4+8) (by omega);have w5:=jS ((b:Int)*4+8) (by omega);by_cases p0:p=0
 ·subst p0
  go_enter Ct,Aq;go_wp2;go_ret;exact⟨by rw[E.i];simp,rfl⟩
 by_cases p43:p=43
 ·subst p43
  go_enter Ct,Aq;go_wp2;go_ret;exact⟨by rw[E.i];simp,rfl⟩
 by_cases p60:p=60
 ·subst p60
  go_enter Ct,Aq;go_wp2;go_ret;exact⟨by rw[E.i];simp,rfl⟩
 by_cases p51:p=51
 ·subst p51
  go_enter Ct,Aq;go_wp2;go_ret;exact⟨by rw[E.i];simp,rfl⟩
 by_cases p44:p=44
 ·subst p44
  go_enter Ct,Aq;go_wp2;go_ret;exact⟨by rw[E.i];simp,rfl⟩
 have q0:(p==0)=false:=by simp[p0]
 have q43:(p==43)=false:=by simp[p43]
 have q60:(p==60)=false:=by simp[p60]
 have q51:(p==51)=false:=by simp[p51]
 have q44:(p==44)=false:=by simp[p44]
 go_enter Ct,Aq;go_wp2;go_ret;exact⟨by rw[E.i];simp[p0,p43,p60,p51,p44],rfl⟩
@[go_sem]theorem aun(w:ak):(xP 56 (.b .a 8) (.b .a 8)).I ah w=.ok (.a (some ⟨w.a.j,0,none⟩) 8 8) (w.alloc (.D (Jf 8) 5)):=ajx 8 (by decide) w
theorem gq.auo(W:ak):gq (W.alloc (.D (Jf 8) 5)) (W.a.j+1) (some ⟨W.a.j,0,none⟩) 8 (dV 8 0):=by
 refine gq.Ny (l:=dV 8 0) (mG _) (fun j hj=>?_);rw[mQ,bl];rcases j with _|_|_|_|_|_|_|_|j
 all_goals first|rfl|(simp at hj;omega)
theorem VU(p:Int)(W:ak):aQ ah 250 #[.b .a p] W (gM W (.e (zM p))):=by
 have C:=ab (QK p _ 8 8 _ _ _ (by decide) (gq.auo W));have B:=ab ((aH W.a.j W).alloc (av _) (.D (Jf 8) 5));have E:=ab (QJ p (dV 8 0));generalize qO p (dV 8 0)=x at *;go_enter Tryz.func250,Tryz.ntmps250;go_wp2_with (go_at_call 251;refine C.i.g ?_;rintro e w ⟨rfl,rfl⟩);go_ret;have e:decide (0<x)=zM p:=by rw[dA,<-E.i,decide_eq_true_eq]
 exact⟨congrArg (fun z=>uh (.e z)) e,B.i⟩
def LP(r:List UInt8):Bool:=decide (nO r 2≠0\/nO r 3/8≠0\/nO r 3%2=1)
theorem ajy:∀a:Fin 256,∀b:Fin 256,((256*a.val+b.val) &&& 65529==0) = !(decide (a.val≠0\/b.val/8≠0\/b.val%2=1)):=by decide +kernel
theorem ap9(l:List UInt8)(k:Nat):eU l k=256*nO l k+nO l (k+1):=rfl
theorem amM(r:List UInt8):(bits .and .a (eU r 2:Nat) 65529 != 0)=LP r:=by
 have h1:(fQ 64 (eU r 2:Nat)).e=eU r 2:=by rw[lS,ny];exact fK (by have:=vK r 2;omega)
 have h2:eU r 2 &&& 65529<=eU r 2:=Nat.and_le_left;have h3:=vK r 2;have:bits .and .a (eU r 2:Nat) 65529=((eU r 2 &&& 65529:Nat):Int):=by
  show bU.wrap ((fQ 64 (eU r 2:Nat) &&& fQ 64 65529).e:Int)=_;rw[Fy,h1,show(fQ 64 65529).e=65529 by decide,jS _ (by omega)]
 rw[this];have h4:=ajy ⟨nO r 2,uY r 2⟩ ⟨nO r 3,uY r 3⟩;simp only at h4;rw[<-ap9]at h4;unfold LP;rw[dA,bne_iff_ne];have h5:=congrArg (fun z=>!z) h4;simp only[Bool.not_not]at h5;rw[<-h5];simp
def yL:Nat->Sx->List UInt8->Sx×Int
 | 0,x,_=>if x.oG=true\/zM x.aP=false then(x,0)else(qC,4)
 | f+1,x,r=>
   if x.oG=true\/zM x.aP=false then(x,0)
   else if r.a<8\/r.a<qO x.aP r then(qC,2)
   else yL f ⟨x.head+qO x.aP r,x.dz,x.Hu,decide (x.aP=44)&&LP r,x.Hw+1,(nO r 0:Nat),x.h,x.Y⟩ (r.f (qO x.aP r))
def ajz(l:List UInt8):fu:=⟨true,pX 16 l⟩
def sx0(l:List UInt8):Sx:=⟨40,40+eU l 4,(nO l 7:Nat),false,0,(nO l 6:Nat),ajz (l.f 8),ajz (l.f 24)⟩
def AQ(l:List UInt8):Sx×Int:=
 if l.a<40 then(qC,2)else if nO l 0/16≠6 then(qC,3)else if l.a<40+eU l 4 then(qC,2)
 else yL 8 (sx0 l) ((l.d (40+eU l 4)).f 40)
theorem Nz{f:Nat}{x:Sx}{r:List UInt8}(h:x.oG=true\/zM x.aP=false):yL f x r=(x,0):=by cases f<;>simp[yL,h]
theorem Zg{x:Sx}{r:List UInt8}(h:x.oG=false)(h':zM x.aP=true):yL 0 x r=(qC,4):=by simp[yL,h,h']
theorem LQ{f:Nat}{x:Sx}{r:List UInt8}(h:x.oG=false)(h':zM x.aP=true)(hs:r.a<8\/r.a<qO x.aP r):yL (f+1) x r=(qC,2):=by simp[yL,h,h',hs]
theorem Zh{f:Nat}{x:Sx}{r:List UInt8}(h:x.oG=false)(h':zM x.aP=true)(hs:¬(r.a<8\/r.a<qO x.aP r)):
 yL (f+1) x r=yL f ⟨x.head+qO x.aP r,x.dz,x.Hu,decide (x.aP=44)&&LP r,x.Hw+1,(nO r 0:Nat),x.h,x.Y⟩ (r.f (qO x.aP r)):=by simp[yL,h,h',hs]
theorem iy{place:Nat->Option (Nat×Nat)}{cells c':Array aB}{i off:Nat}{v:aB}{rest:List (Nat×aB)}(hp:place i=some (off,1))(hv:v.D = #[v])(hf:off+1<=cells.j)(h:cells.c off v=c'):fB place cells ((i,v)::rest)=fB place c' rest:=by
 rw[Ei place cells i off 1 v rest hp (by rw[hv];rfl) hf,hv,ak7,h]
theorem sN{place:Nat->Option (Nat×Nat)}{cells c' x:Array aB}{i off n:Nat}{rest:List (Nat×aB)}(hp:place i=some (off,n))(hx:x.j=n)(hf:off+n<=cells.j)(h:sF cells off x=c'):fB place cells ((i,.d x)::rest)=fB place c' rest:=by
 rw[Ei place cells i off n (.d x) rest hp (by rw[Oy];exact hx) hf,Oy,h]
theorem Sx.PG(x:Sx)(v:Int):x.ay.c 1 (.b .a v)=({x with dz:=v}:Sx).ay:=by simp[Sx.ay,aM,fu.G]
theorem Sx.ap'(x:Sx)(v:Int):x.ay.c 2 (.b .a v)=({x with Hu:=v}:Sx).ay:=by simp[Sx.ay,aM,fu.G]
theorem Sx.abr(x:Sx)(t:fu):sF x.ay 6 t.ay=({x with h:=t}:Sx).ay:=by
 unfold Sx.ay;exact qK (by rw[fu.G,fu.G]) 6 rfl
theorem Sx.TD(x:Sx)(t:fu):sF x.ay 23 t.ay=({x with Y:=t}:Sx).ay:=by
 unfold Sx.ay;have:=qK (p:=#[.b .a x.head,.b .a x.dz,.b .a x.Hu,.e x.oG,.b .a x.Hw,.b .a x.aP]++x.h.ay) (q:=x.Y.ay) (r:=#[]) (v:=t.ay) (by rw[fu.G,fu.G]) 23 (by simp[fu.G]);simpa[fP]using this
theorem Sx.abo(x:Sx)(v:Vector UInt8 16):sF x.ay 7 (iH v)=({x with h:=⟨x.h.h,v⟩}:Sx).ay:=by
 unfold Sx.ay;rw[fu.Jd x.h,fu.Jd ⟨x.h.h,v⟩];have:=qK (p:=#[.b .a x.head,.b .a x.dz,.b .a x.Hu,.e x.oG,.b .a x.Hw,.b .a x.aP] ++ #[.e x.h.h]) (q:=iH x.h.b) (r:=x.Y.ay) (v:=iH v) (by rw[dH,dH]) 7 rfl;simpa[fP]using this
theorem Sx.abn(x:Sx)(v:Vector UInt8 16):sF x.ay 24 (iH v)=({x with Y:=⟨x.Y.h,v⟩}:Sx).ay:=by
 unfold Sx.ay;rw[fu.Jd x.Y,fu.Jd ⟨x.Y.h,v⟩];have:=qK (p:=#[.b .a x.head,.b .a x.dz,.b .a x.Hu,.e x.oG,.b .a x.Hw,.b .a x.aP]++x.h.ay ++ #[.e x.Y.h]) (q:=iH x.Y.b) (r:=#[]) (v:=iH v) (by rw[dH,dH]) 24 (by simp[fu.G]);simpa[fP]using this
@[go_sem]theorem aDl(W:ak)(a b c d:Int)(s t:fu):(uN 189 #[(0,.b .a a),(1,.b .a b),(5,.b .a c),(2,.b .a d),(6,.d s.ay),(7,.d t.ay)]).I ah W=.ok (.d (Sx.mk a b d false 0 c s t).ay) W:=kSx.bd W _ _ _ _ oV (at6 W _ oV) (by
 refine(iy rfl rfl (by rw[Sx.G];omega) (Sx.Nq _ _)).trans ?_;refine(iy rfl rfl (by rw[Sx.G];omega) (Sx.PG _ _)).trans ?_;refine(iy rfl rfl (by rw[Sx.G];omega) (Sx.Ze _ _)).trans ?_;refine(iy rfl rfl (by rw[Sx.G];omega) (Sx.ap' _ _)).trans ?_;refine(sN rfl (fu.G _) (by rw[Sx.G];omega) (Sx.abr _ _)).trans ?_;refine(sN rfl (fu.G _) (by rw[Sx.G];omega) (Sx.TD _ _)).trans ?_;rfl)
@[go_sem ↓]theorem aGC(ps:Array (Nat×aB)):fI 27 ps=uN 27 ps:=rfl
theorem ayx(w:ak)(fs:Array nS)(h:ah.k 27=some (.d fs)):(iB (fun f=>Prod.mk f.Z <$> sizeOf f.p) fs:xE (Array (Nat×Nat))).I ah w=.ok #[(0,1),(1,16)] w:=by
 have e:=eZ;rw[h]at e;cases e;show _=_
 kernel_rfl
theorem fu.aqa(x:fu)(v:Bool):x.ay.c 0 (.e v)=({x with h:=v}:fu).ay:=by rw[fu.Jd,fu.Jd];simp[aM]
@[go_sem]theorem awl(W:ak)(v:Bool):(uN 27 #[(0,.e v)]).I ah W=.ok (.d (fu.mk v mX.b).ay) W:=abe.bd W _ _ _ _ eZ (ayx W _ eZ) (by
 refine(iy rfl rfl (by rw[fu.G];omega) (fu.aqa _ _)).trans ?_;rfl)
def Bx(L:List (Nat×Array aB))(W0 W:ak):Prop:=aL W0.a.j W0 W/\∀p∈L,W0.a.j<=p.1/\dJ W p.1 p.2
section
variable {L:List (Nat×Array aB)} {W0 W W':ak} {q:Nat} {c:Array aB}
theorem Bx.start(W0:ak):Bx [] W0 W0:=⟨aH _ _,fun p hp=>by cases hp⟩
theorem Bx.R(h:Bx L W0 W):aL W0.a.j W0 W:=h.1
theorem Bx.go(h:Bx L W0 W)(hb:aL W.a.j W W'):Bx L W0 W':=⟨h.1.trans (hb.g h.1.j),fun p hp=>⟨(h.2 p hp).1,(h.2 p hp).2.go hb⟩⟩
theorem Bx.drew(h:Bx L W0 W):Bx L W0 W.drew:=⟨h.1.drew,fun p hp=>⟨(h.2 p hp).1,(h.2 p hp).2.drew⟩⟩
theorem Bx.drewN(h:Bx L W0 W)(k:Nat):Bx L W0 (W.drewN k):=⟨fO h.1 k,fun p hp=>⟨(h.2 p hp).1,(h.2 p hp).2.drewN k⟩⟩
theorem Bx.alloc(h:Bx L W0 W)(ob:Obj):Bx L W0 (W.alloc ob):=h.go ((aH _ _).alloc (av _) ob)
theorem Bx.new(h:Bx L W0 W)(c:Array aB)(t:bM):Bx ((W.a.j,c)::L) W0 (W.alloc (.D c t)):=
 ⟨h.1.alloc h.1.j _,fun p hp=>by
  rcases bB.1 hp with rfl|hp
  ·exact⟨h.1.j,dJ.new W c t⟩
  ·exact⟨(h.2 p hp).1,(h.2 p hp).2.alloc _⟩⟩
theorem Bx.X(h:Bx ((q,c)::L) W0 W):dJ W q c:=(h.2 (q,c) (by simp)).2
theorem Bx.g0(h:Bx ((q,c)::L) W0 W):W0.a.j<=q:=(h.2 (q,c) (by simp)).1
theorem Bx.VH{p:Nat×Array aB}(h:Bx (p::L) W0 W):Bx L W0 W:=⟨h.1,fun r hr=>h.2 r (jy _ hr)⟩
theorem Bx.b1{p:Nat×Array aB}(h:Bx (p::(q,c)::L) W0 W):dJ W q c:=h.VH.X
theorem Bx.b2{p p2:Nat×Array aB}(h:Bx (p::p2::(q,c)::L) W0 W):dJ W q c:=h.VH.VH.X
theorem Bx.b3{p p2 p3:Nat×Array aB}(h:Bx (p::p2::p3::(q,c)::L) W0 W):dJ W q c:=h.VH.VH.VH.X
theorem Bx.swap{p p2:Nat×Array aB}(h:Bx (p::p2::L) W0 W):Bx (p2::p::L) W0 W:=⟨h.1,fun r hr=>h.2 r (by simp at hr⊢;rcases hr with h|h|h<;>simp[h])⟩
theorem Bx.sub{L':List (Nat×Array aB)}(h:Bx L W0 W)(hs:∀p∈L',p∈L):Bx L' W0 W:=⟨h.1,fun p hp=>h.2 p (hs p hp)⟩
theorem Bx.set(h:Bx ((q,c)::L) W0 W)(hL:∀p∈L,p.1≠q)(j:Nat)(u:aB):Bx ((q,c.c j u)::L) W0 (W.F ⟨q,j,none⟩ u):=
 ⟨h.1.F h.g0 u,fun p hp=>by
  rcases bB.1 hp with rfl|hp
  ·exact⟨h.g0,h.X.eH j u⟩
  ·have:=h.2 p (by simp[hp]);exact⟨this.1,this.2.dM _ u (fun e=>hL p hp e.symm)⟩⟩
theorem Bx.lay(h:Bx ((q,c)::L) W0 W)(hL:∀p∈L,p.1≠q)(o:Nat)(x:Array aB):Bx ((q,sF c o x)::L) W0 (gI W q o x):=
 ⟨kR h.1 q o x h.g0,fun p hp=>by
  rcases bB.1 hp with rfl|hp
  ·exact⟨h.g0,by have:=h.X.setCells o x.a;simpa[gI]using this⟩
  ·have:=h.2 p (by simp[hp]);exact⟨this.1,this.2.gy (hL p hp)⟩⟩
theorem Bx.put(h:Bx ((q,c)::L) W0 W)(hL:∀p∈L,p.1≠q)(x:Array aB)(hx:x.j=c.j):Bx ((q,x)::L) W0 (gI W q 0 x):=
 ⟨kR h.1 q 0 x h.g0,fun p hp=>by
  rcases bB.1 hp with rfl|hp
  ·exact⟨h.g0,h.X.put x hx⟩
  ·have:=h.2 p (by simp[hp]);exact⟨this.1,this.2.gy (hL p hp)⟩⟩
theorem Bx.NA{A:Option aS}{n:Nat}{l:List UInt8}(h:Bx L W0 W)(hr:gq W0 W0.a.j A n l):gq W W.a.j A n l:=(hr.S h.1).lD h.1.j
theorem Bx.rdR{α:Type}{f:α->Array aB}{s:Nat}{A:Option aS}{n:Nat}{l:List α}(h:Bx L W0 W)(hr:gX f s W0 W0.a.j A n l):gX f s W W.a.j A n l:=(hr.S h.1).lD h.1.j
end
theorem gq.VW{w:ak}{B n:Nat}{a:aS}{l:List UInt8}(h:gq w B (some a) n l)(k:Nat)(hk:k+1<n):w.b ⟨a.block,a.off+(k+1),none⟩=some (.b .b (nO l (k+1))):=by
 obtain⟨_,he,hc⟩:=h.Yd k hk;cases he;exact hc
theorem gq.asf{w:ak}{B n:Nat}{a:aS}{l:List UInt8}(h:gq w B (some a) n l)(hk:0<n):w.b a=some (.b .b (nO l 0)):=by
 obtain⟨_,he,_,hc⟩:=h.at_ hk;cases he;rw[Ox]at hc;exact hc
theorem gq.ahP{w:ak}{B n:Nat}{A:Option aS}{l:List UInt8}(h:gq w B A n l)(hk:0<n):∃a,A=some a/\a.block<B:=by
 obtain⟨a,he,hb,_⟩:=h.at_ hk;exact⟨a,he,hb⟩
def vL(A:Option aS)(z c s:Nat):Option aS:=if c=z then A else A.map (·.add (z*s))
theorem gq.adK{w:ak}{B n:Nat}{A:Option aS}{l:List UInt8}(h:gq w B A n l){z b c:Nat}(hz:z<=b)(hb:b<=n)(hc:n<=c):gq w B (vL A z c 1) (b-z) ((l.d b).f z):=by
 have:=h.QH hz hb hc;rw[<-List.drop_take]at this;unfold vL;rw[gB];exact this
theorem gq.yJ{w:ak}{B n:Nat}{A:Option aS}{l:List UInt8}(h:gq w B A n l){z c:Nat}(hz:z<=n)(hc:n<=c):gq w B (vL A z c 1) (n-z) (l.f z):=by
 have:=h.from hz hc
 unfold vL;rw[gB];exact this
section
variable {P:eG} (w:ak) (t:bM) (a:Option aS) (len cap:Nat) (ht:P.k t=some (.a (P.elem t)))
include ht
theorem iT(kl kh:IntKind)(l h:Int)(h0:0<=l)(h1:l<=h)(h2:h<=cap):
 (Instr.slice t (.a a len cap) (some (.b kl l)) (some (.b kh h)) none).I P w =
  ((sizeOf (P.elem t)).I P w).andThen fun s w=>.ok (.a (vL a l.e cap s) (h.e-l.e) (cap-l.e)) w:=by
 rw[run_slice_lh w t a len cap ht kl kh l h h0 h1 h2];rfl
theorem jF(kl:IntKind)(l:Int)(h0:0<=l)(h1:l<=len):
 (Instr.slice t (.a a len cap) (some (.b kl l)) none none).I P w =
  ((sizeOf (P.elem t)).I P w).andThen fun s w=>.ok (.a (vL a l.e cap s) (len-l.e) (cap-l.e)) w:=by
 rw[run_slice_l w t a len cap ht kl l h0 h1];rfl
end
section
variable {P:eG} {md:Region.Mode}
def kW(o:iU):iU:={o with op:=.move (.const undef)}
def Gl(ops:Array iU)(k n d:Nat):Bool:=(dX n).all fun j=>j==k||(match ops[j]? with|some o=>!(o.looksAt ops).contains d&&o.Y != some d|none=>true)
def QL:List iU->Bool
 | []=>true
 | o::l=>(match o.Y with|some d=>l.all fun p=>p.Y != some d|none=>true)&&QL l
theorem Gm:∀{l:List iU},QL l=true->∀{i j:Nat} {oi oj:iU} {d:Nat},l[i]? = some oi->l[j]? = some oj->oi.Y=some d->oj.Y=some d->i=j
 | [],_,i,j,oi,oj,d,hi,_,_,_=>by simp at hi
 | o::l,h,i,j,oi,oj,d,hi,hj,di,dj=>by
   simp only[QL,bf]at h;obtain⟨h1,h2⟩:=h;rcases i with _|i<;>rcases j with _|j
   ·rfl
   ·simp at hi hj
    subst hi;rw[di]at h1;have:=fM.1 h1 oj (List.mem_of_getElem? hj);simp[dj]at this
   ·simp at hi hj
    subst hj;rw[dj]at h1;have:=fM.1 h1 oi (List.mem_of_getElem? hi);simp[di]at this
   ·simp at hi hj
    rw[Gm h2 hi hj di dj]
def Ye(P:eG)(md:Region.Mode)(ops:Array iU)(C:ak->Prop)(n g:Nat)(aF:qQ):Nat->Array Bool->qQ->Prop:=
 wqL P md ops C n (fun listed a=>lu md ops g n listed=true/\a=aF)
theorem NC{listed:Array Bool}{j:Nat}(h:listed.b j true=false){i:Nat}(hij:j≠i):(listed.c i true).b j true=false:=by rw[xG true (jh hij)];exact h
theorem DX{listed:Array Bool}{i j:Nat}(h:(listed.c i true).b j true=false):listed.b j true=false:=by
 by_cases hij:i=j
 ·subst hij
  rcases aZ i listed.j with h1|h1
  ·simp[h1]at h
  ·simp[aU h1]at h
 ·rwa [xG true hij]at h
theorem zN{listed:Array Bool}{i j:Nat}(h:(listed.c i true).b j true=false):j≠i:=by
 rintro rfl;rcases aZ j listed.j with h1|h1
 ·simp[h1]at h
 ·simp[aU h1]at h
theorem Ca{ops:Array iU}{C:ak->Prop}{n g:Nat}{aF:qQ}:∀(f:Nat)(listed:Array Bool)(a:qQ),Ye P md ops C n g aF f listed a ->
 aF.defers=a.defers/\aF.tmps.j=a.tmps.j/\∀d,(∀j oj,ops[j]? = some oj->listed.b j true=false->oj.Y≠some d)->aF.tmps[d]? = a.tmps[d]?
 | 0,listed,a,h=>by obtain⟨_,rfl⟩:=h;exact⟨rfl,rfl,fun _ _=>rfl⟩
 | f+1,listed,a,h=>by
   obtain⟨h0,h1⟩:=h;obtain⟨i,hi⟩:=List.exists_mem_of_ne_nil _ h0;obtain⟨hun,oi,hoi,_⟩:=kF.1 hi;obtain⟨v,_,hK⟩:=qL hoi (h1 i hi).2;obtain⟨e1,e2,e3⟩:=Ca f _ _ hK;have ed:(a.put oi.Y v).defers=a.defers:=by cases oi.Y<;>rfl
   have es:(a.put oi.Y v).tmps.j=a.tmps.j:=by cases oi.Y<;>simp[lI]
   refine⟨e1.trans ed,e2.trans es,fun d hd=>?_⟩;rw[e3 d fun j oj hj hl=>hd j oj hj (DX hl)];have:=hd i oi hoi hun;cases h2:oi.Y with
   | none=>rfl
   | some e=>
     have:e≠d:=fun e'=>this (by rw[h2,e'])
     simp[lI,dO,this]
theorem adL{l:List iU}(hD:QL l=true){C C':ak->Prop}{n g f:Nat}{aF:qQ}{listed:Array Bool}{a:qQ}{i:Nat}{oi:iU}(hi:i∈fT md l.c listed)(hoi:l.c[i]? = some oi)
 (h:Ye P md l.c C n g aF (f+1) listed a) (h':Ye P md l.c C' n g aF (f+1) listed a) :
 ∃v v',YieldsIn P l.c C oi v a/\Ye P md l.c C n g aF f (listed.c i true) (a.put oi.Y v)/\YieldsIn P l.c C' oi v' a/\Ye P md l.c C' n g aF f (listed.c i true) (a.put oi.Y v')/\a.put oi.Y v=a.put oi.Y v':=by
 obtain⟨v,hy,hK⟩:=qL hoi (h.2 i hi).2;obtain⟨v',hy',hK'⟩:=qL hoi (h'.2 i hi).2;refine⟨v,v',hy,hK,hy',hK',?_⟩;cases hd:oi.Y with
 | none=>rfl
 | some d=>
   have hno:∀j oj,l.c[j]? = some oj->(listed.c i true).b j true=false->oj.Y≠some d:=fun j oj hj hl hdj=>by
    have:=Gm hD (by simpa using hoi) (by simpa using hj) hd hdj;exact zN hl this.symm
   have e1:=(Ca f _ _ hK).2.2 d hno;have e2:=(Ca f _ _ hK').2.2 d hno;rw[hd]at e1 e2;have e:=e1.symm.trans e2;simp only[lI,dO,if_pos]at e ⊢;by_cases hs:d<a.tmps.j
   ·simp[hs]at e;rw[e]
   ·have hs':=Nat.le_of_not_lt hs
    rw[jO hs',jO hs']
theorem ND(a:qQ)(d:Nat)(u v:aB):(a.put (some d) u).put (some d) v=a.put (some d) v:=by simp[lI]
theorem GU{ops:Array iU}{C:ak->Prop}{o:iU}{a:qQ}{K:qQ->Prop}{K':qQ->ak->Prop}{Q':zR->qQ->ak->Prop}{w:ak}{d:Nat}{u:aB}(hs:∀cs b,o.op≠.select cs b)(hl:d∉o.looksAt ops)(hd:o.Y≠some d)
 (hw:C w) (h:∀a w',C w'->K a->K' (a.put (some d) u) w') (hh:o.quiet P a C K):o.wp P (a.put (some d) u) w K' Q':=by
 obtain⟨v,h1,h2⟩:=hh;have h3:=h1 w hw;have e:execOp (a.put (some d) u).eval o=execOp a.eval o:=execOp_put o hs a (some d) u (fun e he=>by cases he;exact hl);have c:∀x,(a.put (some d) u).put o.Y x=(a.put o.Y x).put (some d) u:=fun x=>Act.put_comm a u x (fun e he=>by cases he;exact hd)
 unfold Oper.quietAt at h3;unfold ni;rw[e];generalize(execOp a.eval o).I P w=r at *;cases r with
 | ok n w'=>
   cases n<;>simp only[Oper.quietUpon]at h3<;>simp only[Mi]
   case value x=>
    obtain⟨e1,e2⟩:=h3;rw[e1,e2,c];exact h _ _ hw h2
   case skip=>
    obtain⟨e1,e2⟩:=h3;rw[e1,c,<-e2];exact h _ _ hw h2
   case enter f args=>
    obtain⟨e1,hc⟩:=h3;rw[e1];exact hc.g fun e w'' ⟨he,hw''⟩=>by subst he;dsimp only;rw[c];exact h _ _ hw'' h2
 | halt x w'=>simp only[Oper.quietUpon]at h3
def Shut(S:ak->Prop):Prop:=∀w w',S w->aL w.a.j w w'->S w'
theorem adM{l:List iU}{k:Nat}{o:iU}(hk:l[k]? = some o)(tmps:Array aB):yielded (l.set k (kW o)).c tmps=yielded l.c tmps:=by
 funext j;unfold yielded;have:((l.set k (kW o)).c[j]?).bind (·.Y)=(l.c[j]?).bind (·.Y):=by
  simp only[eB,fF];split
  ·rename_i h
   subst h;have:=(iE.1 hk).1;rw[hk];simp[this,kW]
  ·rfl
 rw[this]
theorem adN{l:List iU}{k:Nat}{o:iU}(hk:l[k]? = some o)(listed:Array Bool):fT md (l.set k (kW o)).c listed=fT md l.c listed:=by
 unfold fT;have hsz:(l.set k (kW o)).c.j=l.c.j:=by simp
 rw[hsz];refine Fp fun i _=>?_
 by_cases hik:i=k
 ·subst hik
  obtain⟨hl,hlo⟩:=iE.1 hk;simp[fF,hl,hlo,kW]
 ·simp[fF,jh hik]
theorem J7{l:List iU}{k:Nat}{o:iU}(hk:l[k]? = some o)(listed:Array Bool)(i:Nat):i∈fT md (l.set k (kW o)).c listed↔i∈fT md l.c listed:=by rw[adN hk]
section
variable {l:List iU} {k n g d:Nat} {o:iU} {T:bM} {z:Array aB} {aF:qQ} {Q:zR->qQ->ak->Prop}
theorem Zi(hk:l[k]? = some o){i:Nat}(hik:i≠k):(l.set k (kW o)).c[i]? = l.c[i]?:=by
 simp[fF,jh hik]
theorem VX(hA:Gl l.c k n d=true){i:Nat}{oi:iU}(hin:i<n)(hik:i≠k)(hoi:l.c[i]? = some oi):d∉oi.looksAt l.c/\oi.Y≠some d:=by
 have:=fM.1 hA i (dU.2 hin);simp only[hoi,nu,beq_iff_eq,bf]at this;rcases this with h|h
 ·exact absurd h hik
 ·exact⟨by simpa using h.1,by simpa using h.2⟩
theorem VY(hk:l[k]? = some o)(oi:iU)(tmps:Array aB):fC oi (yielded (l.set k (kW o)).c tmps)=fC oi (yielded l.c tmps):=by rw[adM hk]
theorem LU(hk:l[k]? = some o)(hA:Gl l.c k n d=true)(hsel:∀(j:Nat)(o:iU) cs b,l.c[j]? = some o->o.op≠.select cs b){C:ak->Prop}{u:aB}
 (hend:∀listed w',C w'->lu md (l.set k (kW o)).c g n listed=true->wpAny P md l.c Q g listed (aF.put (some d) u) w') :
 ∀(f:Nat)(listed:Array Bool)(a:qQ)(w:ak),listed.b k true=true->C w->Ye P md (l.set k (kW o)).c C n g aF f listed a->wpAny P md l.c Q (f+g) listed (a.put (some d) u) w
 | 0,listed,a,w,hun,hw,h=>by
   obtain⟨h1,rfl⟩:=h;rw[bl];exact hend _ _ hw h1
 | f+1,listed,a,w,hun,hw,h=>by
   rw[show f+1+g=(f+g)+1 by omega];refine⟨fun h0=>absurd ?_ h.1,fun i hi=>?_⟩
   ·rw[tJ]
    intro i hi;rw[J7 hk]at hi;rw[h0]at hi;cases hi
   ·have hi':=(J7 hk listed i).2 hi
    have hik:i≠k:=fun e=>by
     subst e;have:=(kF.1 hi).1;rw[hun]at this;cases this
    obtain⟨_,oi,hoi,_⟩:=kF.1 hi;obtain⟨hin,hq⟩:=h.2 i hi';obtain⟨hl,hd⟩:=VX hA hin hik hoi;have hun':∀i,(listed.c i true).b k true=true:=fun i=>by
     by_cases e:i=k
     ·subst e
      rcases aZ i listed.j with h1|h1
      ·simp[h1]
      ·simp[aU h1]
     ·rw[xG true e];exact hun
    unfold qOp at hq;rw[Zi hk hik,hoi]at hq;unfold wpOp;simp only[hoi];simp only[VY hk]at hq;rw[wanted_put oi a (some d) u (fun e he=>by cases he;exact hl)];split
    ·rename_i hw2
     simp only[hw2,if_true]at hq;exact .a (GU (fun cs b=>hsel i oi cs b hoi) hl hd hw (fun a' w' hw' h'=>LU hk hA hsel hend f _ a' w' (hun' i) hw' h') hq)
    ·rename_i hw2
     simp only[hw2]at hq;rw[Act.put_comm a u undef (fun e he=>by cases he;exact hd)];exact LU hk hA hsel hend f _ _ w (hun' i) hw hq
theorem VZ{S:ak->Prop}(hS:Shut S)(w0:ak):Shut fun w=>S w/\aL w0.a.j w0 w:=fun w w' h hb=>⟨hS w w' h.1 hb,h.2.trans (hb.g h.2.j)⟩
theorem Zj(hk:l[k]? = some o)(hkn:k<n)(hA:Gl l.c k n d=true)(hD:QL (l.set k (kW o))=true)(hsel:∀(j:Nat)(o:iU) cs b,l.c[j]? = some o->o.op≠.select cs b)
 (hod:o.Y=some d) (hog:o.guard=none) (hoa:o.after = #[]) (hrun:∀(a:qQ) w,(execOp a.eval o).I P w=.ok (.value (.c (some ⟨w.a.j,0,none⟩))) (w.alloc (.D z T))) {S:ak->Prop} (hS:Shut S)
 (hend:∀listed w1 w',S w1->S w'->aL (w1.alloc (.D z T)).a.j (w1.alloc (.D z T)) w'->lu md (l.set k (kW o)).c g n listed=true->wpAny P md l.c Q g listed (aF.put (some d) (.c (some ⟨w1.a.j,0,none⟩))) w') :
 ∀(f:Nat)(listed:Array Bool)(a:qQ)(w:ak),listed.j=l.a->listed.b k true=false->S w->(∀C:ak->Prop,(∀w,C w->S w)->Shut C->(∃w,C w)->Ye P md (l.set k (kW o)).c C n g aF f listed a)->wpAny P md l.c Q (f+g) listed a w
 | 0,listed,a,w,hsz,hun,hw,H=>by
   obtain⟨h1,_⟩:=H S (fun _ h=>h) hS ⟨w,hw⟩;have hkl:k<l.a:=(iE.1 hk).1;have:k∈fT md (l.set k (kW o)).c listed:=kF.2 ⟨hun,kW o,by simp[fF,hkl],fun e he=>by simp[kW,hoa]at he⟩;have:=seqB_ready h1 k this;omega
 | f+1,listed,a,w,hsz,hun,hw,H=>by
   rw[show f+1+g=(f+g)+1 by omega];have H0:=H S (fun _ h=>h) hS ⟨w,hw⟩;have hkl:k<l.a:=(iE.1 hk).1;refine⟨fun h0=>absurd ?_ H0.1,fun i hi=>?_⟩
   ·rw[tJ]
    intro i hi;rw[J7 hk]at hi;rw[h0]at hi;cases hi
   ·have hi':=(J7 hk listed i).2 hi
    by_cases hik:i=k
    ·subst hik
     unfold wpOp;simp only[eB,hk];rw[if_pos (by simp[fC,hog])];refine .a ?_;unfold ni;rw[hrun];simp only[Mi,hod];have hC:=H (fun w'=>S w'/\aL (w.alloc (.D z T)).a.j (w.alloc (.D z T)) w') (fun _ h=>h.1) (VZ hS _) ⟨_,hS _ _ hw ((aH _ _).alloc (av _) _),aH _ _⟩;obtain⟨v,_,hK⟩:=qL (o:=kW o) (by simp[fF,hkl]) (hC.2 i hi').2;have:=LU (C:=fun w'=>S w'/\aL (w.alloc (.D z T)).a.j (w.alloc (.D z T)) w') (u:=.c (some ⟨w.a.j,0,none⟩)) hk hA hsel (fun listed' w' hw' hB=>hend listed' w w' hw hw'.1 hw'.2 hB) f _ _ (w.alloc (.D z T)) (by
      have:i<listed.j:=by rw[hsz];exact hkl
      simp[this]) ⟨hS _ _ hw ((aH _ _).alloc (av _) _),aH _ _⟩ hK
     have e:(kW o).Y=some d:=hod;rw[e,ND]at this;exact this
    ·obtain⟨_,oi,hoi,_⟩:=kF.1 hi
     have agc:(l.set k (kW o)).c[i]? = some oi:=by rw[Zi hk hik];exact hoi
     obtain⟨v,hy,hK⟩:=qL agc (H0.2 i hi').2;have hq:qOp P l.c S i (fun a'=>a'=a.put oi.Y v) a:=by
      unfold qOp;simp only[hoi];unfold YieldsIn at hy;simp only[VY hk]at hy;rcases hy with⟨h1,h2⟩|⟨h1,rfl⟩
      ·simp only[h1,if_true];exact⟨v,h2,rfl⟩
      ·simp only[h1,jc,if_false]
     refine wpOp_of_qOp hw (fun a' w' hw' e=>?_) hq;subst e;refine Zj hk hkn hA hD hsel hod hog hoa hrun hS hend f _ _ w' (by simp[hsz]) (NC hun (jh hik)) hw' (fun C hC1 hC2 hC3=>?_);obtain⟨_,v2,_,_,_,hK2,_⟩:=adL hD hi' agc H0 (H C hC1 hC2 hC3);have e1:a.put oi.Y v=a.put oi.Y v2:=by
      cases hd:oi.Y with
      | none=>rfl
      | some dd=>
        have hno:∀j oj,(l.set k (kW o)).c[j]? = some oj->(listed.c i true).b j true=false->oj.Y≠some dd:=fun j oj hj hl hdj=>by
         have:=Gm hD (by simpa using agc) (by simpa using hj) hd hdj;exact zN hl this.symm
        have q1:=(Ca f _ _ hK).2.2 dd hno;have q2:=(Ca f _ _ hK2).2.2 dd hno;rw[hd]at q1 q2;have q:=q1.symm.trans q2;simp only[lI,dO,if_pos]at q ⊢;by_cases hs:dd<a.tmps.j
        ·simp[hs]at q;rw[q]
        ·have hs':=Nat.le_of_not_lt hs
         rw[jO hs',jO hs']
     rw[e1];exact hK2
end
theorem Bx.abt(L:List (Nat×Array aB))(W0:ak):Shut (Bx L W0):=fun _ _ h hb=>h.go hb
theorem PL{S:ak->Prop}(hS:Shut S)(k n d:Nat){id:Nat}{Q:zR->qQ->ak->Prop}{a:qQ}{w:ak}{l:List iU}{o:iU}(T:bM)(z:Array aB)(hm:P.follows .mixedOrders=true)
 (hk:l[k]? = some o) (hB:xH .any (l.set k (kW o)).c n=true) (hkn:k<n) (hn':n<l.a) (hA:Gl l.c k n d=true) (hD:QL (l.set k (kW o))=true) (hsel:Region.noSelect l.c=true)
 (hod:o.Y=some d) (hog:o.guard=none) (hoa:o.after = #[]) (hrun:∀(a:qQ) w,(execOp a.eval o).I P w=.ok (.value (.c (some ⟨w.a.j,0,none⟩))) (w.alloc (.D z T))) (h0:S w.drew)
 (hh:∃aF:qQ,(∀(T:Type)(f:T->ak),Nonempty T->(∀m,S (f m))->(∀m w',aL (f m).a.j (f m) w'->∃m',w'=f m')->wpQuiet P (l.set k (kW o)).c (fun w'=>∃m,w'=f m) (fun a'=>a'=aF) ((l.set k (kW o)).d n) a)
 /\ (∀w1 w',S w1->S w'->aL (w1.alloc (.D z T)).a.j (w1.alloc (.D z T)) w'->wpList P l.c Q (l.f n) (aF.put (some d) (.c (some ⟨w1.a.j,0,none⟩))) w')):(Code.region id l.c true).wp P Q a w:=by
 obtain⟨aF,h,h2⟩:=hh;simp only[xH,bf,decide_eq_true_eq]at hB;obtain⟨⟨⟨⟨amN,hn⟩,hs⟩,hc⟩,hlex⟩:=hB;have hlen:(l.set k (kW o)).a=l.a:=by simp
 have hsz:(l.set k (kW o)).c.j=l.c.j:=by simp
 have htl:((l.set k (kW o)).d n).a=n:=by simp;omega
 have hdl:(l.f n).a=l.c.j-n:=by simp
 have inv0:HeadInv .any (l.set k (kW o)).c n (ng l.c.j false):=
  ⟨by simp,fun j oj _ hl=>(by rw[mI]at hl;cases hl),fun t _ ht=>getD_in (by simpa using ht) (mI _ _)⟩
 refine wp_region_any hm ?_;rw[hsz]at hlex;have hseq:∀listed,lu .any (l.set k (kW o)).c (l.c.j-n) n listed=true->lu .any l.c (l.c.j-n) n listed=true:=by
  have:∀(g:Nat)(j:Nat) listed,lu .any (l.set k (kW o)).c g j listed=true->lu .any l.c g j listed=true:=by
   have he:∀listed,fT .any (l.set k (kW o)).c listed=fT .any l.c listed:=adN hk;intro g
   induction g with
   | zero=>intro j listed h;simp only[lu]at h⊢;rwa [he]at h
   | succ g ih=>intro j listed h;simp only[lu,bf]at h⊢;rw[he]at h;exact⟨h.1,ih _ _ h.2⟩
  exact fun listed=>this _ _ listed
 have:=Zj (P:=P) (md:=.any) (g:=l.c.j-n) (aF:=aF) (Q:=Q) hk hkn hA hD (Region.noSelect_spec hsel) hod hog hoa hrun hS (fun listed w1 w' hw1 hw' hb hq=>by
  have:=wpAny_of_seq (P:=P) (md:=.any) (Q':=Q) (ops:=l.c) (l.f n) n listed (aF.put (some d) (.c (some ⟨w1.a.j,0,none⟩))) w' (fun j=>by simp[iZ]) (by rw[hdl];exact hseq _ hq) (h2 w1 w' hw1 hw' hb)
  rwa [hdl]at this) n (ng l.c.j false) a {w with drawn:=w.drawn+1} (by simp) (getD_in (by simp;omega) (mI _ _)) h0 (fun C hC1 hC2 hC3=>by
  have hq:=h {w // C w} Subtype.val (let⟨w,hw⟩:=hC3;⟨⟨w,hw⟩⟩) (fun m=>hC1 _ m.2) (fun m w' hb=>⟨⟨w',hC2 _ _ m.2 hb⟩,rfl⟩);have e:(fun w':ak=>∃m:{w // C w},w'=m.val)=C:=by
   funext w';rw[eq_iff_iff];exact⟨fun⟨m,hm⟩=>by rw[hm];exact m.2,fun h=>⟨⟨w',h⟩,rfl⟩⟩
  rw[e]at hq;have:=aaN (md:=.any) (C:=C) (g:=l.c.j-n) amN hs hc hn ((l.set k (kW o)).d n) 0 (ng l.c.j false) a (fun j hj=>by
   have hj':j<n:=by rw[htl]at hj;exact hj
   rw[gZ hj',bl];simp) (by simpa using htl) inv0 (by rw[htl];exact hlex) hq
  rw[htl]at this;exact this)
 rw[show n+(l.c.j-n)=l.c.j by simp;omega]at this;exact this
end
section
attribute [local go_sem high] iT jF
def slN:aB->Nat
 | .a _ n _=>n
 | _=>0
def SxP(W:ak)(r:Sx×Int)(e:lq)(W':ak):Prop:=e=.a (.J #[.d r.1.ay,.b .a r.2])/\aL W.a.j W W'
theorem QM(W:ak)(A:Option aS)(n c:Nat)(l:List UInt8)(hnc:n<=c)(hc:c<=9223372036854775807/\n<=1000000000)(hr:gq W W.a.j A n l):aQ ah 176 #[.a A n c] W (SxP W (AQ l)):=by
 have HR:=ab hr;have hl:=ab hr.len;have b0:=ab ((Bx.start W).new qC.ay 189);clear hr;go_enter Tryz.func176,Tryz.ntmps176;by_cases h40:n<40
 ·have aDo:(n:Int)<40:=by omega
  have H:=ab (show AQ l=(qC,2)by unfold AQ;rw[if_pos (by rw[hl.i];exact h40)]);go_wp2;refine aN (kSx.qB rfl _ rfl b0.i.X (Sx.G _)) rfl ?_;rw[H.i];exact⟨rfl,b0.i.R⟩
 have aDo:¬(n:Int)<40:=by omega
 have N40:=ab (show¬l.a<40 by rw[hl.i];exact h40);go_upto_region 3 with fail
 generalize hw1:W.alloc (.D qC.ay 189)=w1 at b0 ⊢;obtain⟨a,rfl,hab⟩:=HR.i.ahP (show 0<n by omega);have KS:=ab (show∀W',Bx [(W.a.j,qC.ay)] W W'->W'.b ⟨a.block,a.off+6,none⟩=some (.b .b (nO l 6))/\W'.b ⟨a.block,a.off+7,none⟩=some (.b .b (nO l 7))from fun W' h=>⟨(h.NA HR.i).VW 5 (by omega),(h.NA HR.i).VW 6 (by omega)⟩);obtain⟨i6,i7⟩:6<n/\7<n:=by omega
 have hx6:=jS (nO l 6) (by have:=uY l 6;omega);have hx7:=jS (nO l 7) (by have:=uY l 7;omega);obtain⟨t,ht⟩:=dw (eU l 4);have HT:=ab ht.symm;have htl:t<=65535:=by rw[ht];exact vK l 4
 have hx4:=jS (40+(t:Int)) (by omega);have C4:=ab (fun(W':ak) (h:Bx [(W.a.j,qC.ay)] W W')=>amI W' (some a) n c l 4 4 rfl (by omega) hnc (by omega) (h.NA HR.i));rw[<-ht]at C4;clear ht;have HX0:∃X:Sx,X=Sx.mk 40 (40+(t:Int)) (nO l 7) false 0 (nO l 6) ⟨true,mX.b⟩ ⟨true,mX.b⟩:=⟨_,rfl⟩
 clear hw1;have hWy:=ab b0.i.X.lt;refine PL (Bx.abt [(W.a.j,qC.ay)] W) 14 15 4 189 qC.ay (by kernel_rfl) rfl (by kernel_rfl) (by decide) (by decide) (by kernel_rfl) (by kernel_rfl) (by kernel_rfl) rfl rfl rfl (fun a w=>by simp[go_sem]) b0.i.drew ?_;apply Exists.intro;refine⟨fun T f hT es ew=>?_,?_⟩
 ·have KF:=fun m=>KS.i _ (es m)
  have CF:=ab (fun m=>C4.i _ (es m));have EW:=ab ew;obtain⟨k1,k2⟩:(∀m,(f m).b ⟨a.block,a.off+6,none⟩=some (.b .b (nO l 6)))/\(∀m,(f m).b ⟨a.block,a.off+7,none⟩=some (.b .b (nO l 7))):=⟨fun m=>(KF m).1,fun m=>(KF m).2⟩
  clear KF;simp only[kW,bG,bP,jM,jX]
  repeat(go_big_quiet_step ((first
   | (go_at_call 249;with_reducible refine(CF.i _).g ?_;rintro e w2 ⟨rfl,hb⟩;exact⟨rfl,EW.i _ _ hb⟩))))
  exact gK rfl
 ·intro w2 w3 hw2 _ hb
  have Z2:=ab ((hw2.new qC.ay 189).go hb);have hy:=hw2.X.lt;generalize w2.a.j=y at *;clear hw2 hb;simp only[lI,bH,bG,bP,jN,kX];obtain⟨X0,hX0⟩:∃X:Sx,X=Sx.mk 40 (40+(t:Int)) (nO l 7) false 0 (nO l 6) ⟨true,mX.b⟩ ⟨true,mX.b⟩:=⟨_,rfl⟩
  have HX0:=ab hX0;rw[<-hX0];clear hX0 hx4 hx6 hx7;have hne:∀p∈[(W.a.j,qC.ay)],p.1≠y:=fun p hp=>by rw[fD.1 hp];exact jJ hy
  have hne:=ab hne;have yK:=Z2.i.X.O 0 40 (by rw[Sx.G];omega);have Z3:=ab (Z2.i.put hne.i X0.ay (by rw[Sx.G,Sx.G]));clear C4 KS;go_step;go_simp;go_step;go_step;clear yK Z2;generalize gI w3 y 0 X0.ay=w4 at Z3 ⊢;obtain⟨m,hm⟩:=dw (40+t);have hm':40+(t:Int)=m:=by omega
  rw[hm']at HX0;have HM:=ab (show m=40+eU l 4 by rw[HT.i];exact hm);have hm1:40<=m/\m<=65575:=by omega
  clear hm hm' htl;have i8:(8:Int)<=n:=by omega
  have i24:(24:Int)<=n:=by omega
  have R8:=(Z3.i.drew.NA HR.i).yJ (z:=8) (c:=c) (by omega) hnc;have cp1:∀ty,(qy #[56,56] ty #[.a (some ⟨y,7,none⟩) 16 16,.a (vL (some a) 8 c 1) (n-8) (c-8)]).I ah w4.drew=.ok (goInt 16) (gI w4.drew y 7 (iH (pX 16 (l.f 8)))):=fun ty=>by
   have:=EK (c:=c-8) (d:=16) _ R8 (m:=16) (by omega) (by omega) (Z3.i.drew.X.O 7 16 (by rw[Sx.G];omega)) 56 ty 5 dx aml;rw[Nv 16 _ (by rw[jA,hl.i];omega)]at this;exact this
  have Z4:=ab (Z3.i.drew.lay hne.i 7 (iH (pX 16 (l.f 8))));rw[Sx.abo]at Z4;go_upto_region 4 with fail
  go_region;clear cp1 R8 Z3;generalize gI w4.drew y 7 (iH (pX 16 (l.f 8)))=w5 at Z4 ⊢;have R24:=(Z4.i.drew.NA HR.i).yJ (z:=24) (c:=c) (by omega) hnc;have cp2:∀ty,(qy #[56,56] ty #[.a (some ⟨y,24,none⟩) 16 16,.a (vL (some a) 24 c 1) (n-24) (c-24)]).I ah w5.drew=.ok (goInt 16) (gI w5.drew y 24 (iH (pX 16 (l.f 24)))):=fun ty=>by
   have:=EK (c:=c-24) (d:=16) _ R24 (m:=16) (by omega) (by omega) (Z4.i.drew.X.O 24 16 (by rw[Sx.G];omega)) 56 ty 5 dx aml;rw[Nv 16 _ (by rw[jA,hl.i];omega)]at this;exact this
  have Z5:=ab (Z4.i.drew.lay hne.i 24 (iH (pX 16 (l.f 24))));rw[Sx.abn,HX0.i]at Z5;go_upto_region 5 with fail
  go_region;clear cp2 R24 Z4 i8 i24;generalize gI w5.drew y 24 (iH (pX 16 (l.f 24)))=w6 at Z5 ⊢;simp only at Z5;have S0:=ab (show sx0 l=Sx.mk 40 m (nO l 7) false 0 (nO l 6) ⟨true,pX 16 (l.f 8)⟩ ⟨true,pX 16 (l.f 24)⟩by unfold sx0 ajz;rw[HM.i];simp);obtain⟨X1,hX1⟩:∃X,X=sx0 l:=⟨_,rfl⟩
  rw[<-S0.i,<-hX1]at Z5;have HX1:=ab hX1;have ht1:X1.dz=m:=by rw[hX1,S0.i]
  have HT1:=ab ht1;clear hX1 HX0 ht1;have HE:=ab (fun(w':ak) (x z:Sx) (h:Bx [(y,x.ay),(W.a.j,qC.ay)] W w')=>show dJ (gI w' W.a.j 0 z.ay) W.a.j z.ay/\aL W.a.j W (gI w' W.a.j 0 z.ay)from
   have k:=h.swap.put (fun p hp=>by rw[fD.1 hp];exact uF hy) z.ay (by rw[Sx.G,Sx.G])
   ⟨k.X,k.R⟩)
  have TH:=ab (fun(w':ak) (x:Sx) (h:Bx [(y,x.ay),(W.a.j,qC.ay)] W w')=>show w'.O W.a.j 0 40 from h.b1.O 0 40 (by rw[Sx.G];omega));have yK:=TH.i _ _ Z5.i;have cb:=(Z5.i.NA HR.i).asf (by omega);obtain⟨x1,x2,x3,x4⟩:=Z5.i.X.K;have ht1:=HT1.i;have i0:(0:Int)<n:=by omega
  have i0':0<n:=by omega
  by_cases e1:¬nO l 0/16=6
  ·have q:((nO l 0:Int)/16 != 6)=true:=by rw[bne_iff_ne];omega
   have H:=ab (show AQ l=(qC,3)by unfold AQ;rw[if_neg N40.i,if_pos e1]);go_wp2;refine aN (kSx.qB rfl _ rfl (HE.i _ _ qC Z5.i).1 (Sx.G _)) rfl ?_;rw[H.i];exact⟨rfl,(HE.i _ _ qC Z5.i).2⟩
  have q:((nO l 0:Int)/16 != 6)=false:=by simp;omega
  by_cases e2:n<m
  ·have q2:(n:Int)<m:=by omega
   have H:=ab (show AQ l=(qC,2)by unfold AQ;rw[if_neg N40.i,if_neg e1,if_pos (by rw[hl.i,<-HM.i];exact e2)]);go_wp2;refine aN (kSx.qB rfl _ rfl (HE.i _ _ qC Z5.i).1 (Sx.G _)) rfl ?_;rw[H.i];exact⟨rfl,(HE.i _ _ qC Z5.i).2⟩
  have q2:¬(n:Int)<m:=by omega
  have H1:=ab (show AQ l=yL 8 (sx0 l) ((l.d m).f 40)by unfold AQ;rw[if_neg N40.i,if_neg e1,if_neg (by rw[hl.i,<-HM.i];exact e2),<-HM.i]);have RP:=ab (HR.i.adK (z:=40) (b:=m) (c:=c) (by omega) (by omega) hnc);have j1:(40:Int)<=m:=by omega
  have j2:(m:Int)<=c:=by omega
  have hy':=ab hy;clear hy;go_wp2_with fail;clear j1 j2 q q2 i0 i0' yK cb x1 x2 x3 x4 ht1;obtain⟨A0,hA0⟩:=dw (vL (some a) 40 c 1);rw[<-hA0]at RP ⊢;clear hA0;go_loopw [5] (fun s5 wr=>∃(x:Sx)(A':Option aS)(n' c':Nat)(r:List UInt8) (f:Nat),s5=.a A' n' c'/\n'<=c'/\c'<=c/\Bx [(y,x.ay),(W.a.j,qC.ay)] W wr/\gq W W.a.j A' n' r/\AQ l=yL f x r/\x.Hw+f=8/\0<=x.head/\x.head+2048*f<=20000)
   (fun s5 wr=>slN s5)
  case atStart=>exact⟨X1,A0,m-40,c-40,_,8,rfl,by omega,by omega,Z5.i,RP.i,by rw[HX1.i];exact H1.i,by rw[HX1.i];rfl,by rw[HX1.i];simp[sx0],by rw[HX1.i];simp[sx0]⟩
  case round=>
   obtain⟨x,A',n',c',r,f,rfl,hn',hc',hz,hr,hsx,hf,hh0,hh1⟩:=hrel;have HZ:=ab hz;have HRr:=ab hr;have HSX:=ab hsx;have hrl:=ab hr.len;obtain⟨x1,x2,x3,x4⟩:=hz.X.K;have CE:=ab (VU x.aP wr);have GO:=ab (fun(w1:ak) (hb:aL wr.a.j wr w1)=>HZ.i.go hb);have yK:=TH.i _ _ hz;have HFn:=ab hf;have HH0:=ab hh0;have HH1:=ab hh1;clear hz hr hsx Z5 RP HX1 H1 HT1 HX0 S0 HM HT;by_cases hfr:x.oG=true
   ·have H:=ab (show AQ l=(x,0)by rw[HSX.i,Nz (.a hfr)])
    go_wp2;refine aN (kSx.qB rfl _ rfl (HE.i _ _ x HZ.i).1 (Sx.G _)) rfl ?_;rw[H.i];exact⟨rfl,(HE.i _ _ x HZ.i).2⟩
   have hfr:x.oG=false:=by simpa using hfr
   by_cases hex:zM x.aP=false
   ·have H:=ab (show AQ l=(x,0)by rw[HSX.i,Nz (.b hex)])
    go_wp2_with (go_at_call 250;with_reducible refine CE.i.g ?_;rintro e w1 ⟨rfl,hb1⟩;have Z1:=ab (GO.i w1 hb1);have t1:=TH.i _ _ Z1.i;obtain⟨y1,y2,y3,y4⟩:=Z1.i.X.K;clear hb1);refine aN (kSx.qB rfl _ rfl (HE.i _ _ x Z1.i).1 (Sx.G _)) rfl ?_;rw[H.i];exact⟨rfl,(HE.i _ _ x Z1.i).2⟩
   have hex:zM x.aP=true:=by simpa using hex
   clear yK x1 x2 x3 x4;obtain⟨x1,x2,x3,x4⟩:=HZ.i.X.K;rcases f with _|f
   ·have hx8:x.Hw=8:=by have:=HFn.i;simpa using this
    have H:=ab (show AQ l=(qC,4)by rw[HSX.i,Zg hfr hex]);go_wp2_with (go_at_call 250;with_reducible refine CE.i.g ?_;rintro e w1 ⟨rfl,hb1⟩;have Z1:=ab (GO.i w1 hb1);have t1:=TH.i _ _ Z1.i;obtain⟨y1,y2,y3,y4⟩:=Z1.i.X.K;clear hb1);refine aN (kSx.qB rfl _ rfl (HE.i _ _ qC Z1.i).1 (Sx.G _)) rfl ?_;rw[H.i];exact⟨rfl,(HE.i _ _ qC Z1.i).2⟩
   have hx8:(x.Hw==8)=false:=by rw[beq_eq_false_iff_ne];omega
   by_cases hs8:n'<8
   ·have q8:(n':Int)<8:=by omega
    have H:=ab (show AQ l=(qC,2)by rw[HSX.i,LQ hfr hex (.a (by rw[hrl.i];exact hs8))]);go_wp2_with (go_at_call 250;with_reducible refine CE.i.g ?_;rintro e w1 ⟨rfl,hb1⟩;have Z1:=ab (GO.i w1 hb1);have t1:=TH.i _ _ Z1.i;obtain⟨y1,y2,y3,y4⟩:=Z1.i.X.K;clear hb1);refine aN (kSx.qB rfl _ rfl (HE.i _ _ qC Z1.i).1 (Sx.G _)) rfl ?_;rw[H.i];exact⟨rfl,(HE.i _ _ qC Z1.i).2⟩
   have q8:¬(n':Int)<8:=by omega
   have CS:=ab (fun(w1:ak) (h:Bx [(y,x.ay),(W.a.j,qC.ay)] W w1)=>QK x.aP A' n' c' _ r w1 (by omega) (h.NA HRr.i));obtain⟨sz,hsz⟩:=dw (qO x.aP r);have HSZ:=ab hsz;have SZ1:=ab (show 0<sz by rw[hsz];exact(QJ _ _).2 hex);have SZ2:=ab (show sz<=2048 by rw[hsz];exact agb _ _);rw[<-hsz]at CS;clear hsz;by_cases hss:n'<sz
   ·have q9:(n':Int)<sz:=by omega
    have H:=ab (show AQ l=(qC,2)by rw[HSX.i,LQ hfr hex (.b (by rw[hrl.i,<-HSZ.i];exact hss))]);go_wp2_with (first|(go_at_call 250;with_reducible refine CE.i.g ?_;rintro e w1 ⟨rfl,hb1⟩;have Z1:=ab (GO.i w1 hb1);have t1:=TH.i _ _ Z1.i;obtain⟨y1,y2,y3,y4⟩:=Z1.i.X.K;clear hb1)|(go_at_call 251;with_reducible refine(CS.i _ Z1.i).g ?_;rintro e w2 ⟨rfl,rfl⟩));refine aN (kSx.qB rfl _ rfl (HE.i _ _ qC Z1.i).1 (Sx.G _)) rfl ?_;rw[H.i];exact⟨rfl,(HE.i _ _ qC Z1.i).2⟩
   have q9:¬(n':Int)<sz:=by omega
   have H:=ab (show AQ l=yL f ⟨x.head+sz,x.dz,x.Hu,decide (x.aP=44)&&LP r,x.Hw+1,(nO r 0:Nat),x.h,x.Y⟩ (r.f sz)by
    rw[HSX.i,Zh hfr hex (by rw[hrl.i,<-HSZ.i];rintro(h|h);exact hs8 h;exact hss h),<-HSZ.i])
   have wh:bU.wrap (x.head+sz)=x.head+sz:=jS _ (by have:=SZ2.i;omega);have we:bU.wrap (x.Hw+1)=x.Hw+1:=jS _ (by omega);have wb:bU.wrap ((nO r 0:Nat):Int)=((nO r 0:Nat):Int):=jS _ (by have:=uY r 0;omega);obtain⟨a',rfl,hab'⟩:=HRr.i.ahP (show 0<n' by omega);have hne1:a'.block≠y:=by have:=hy'.i;omega
   have hne2:∀o,¬(⟨y,o,none⟩:aS)=a':=fun o e=>hne1 (by rw[<-e])
   have aJr:∀o,¬a'=(⟨y,o,none⟩:aS):=fun o e=>hne1 (by rw[e])
   have ip:(0:Int)<n':=by omega
   have ip':0<n':=by omega
   have is2:(sz:Int)<=n':=by omega
   have BY:=ab (fun(w1:ak) (h:Bx [(y,x.ay),(W.a.j,qC.ay)] W w1)=>(h.NA HRr.i).asf ip');have ZE:=ab (fun(w':ak) (fr:Bool) (p h e:Int) (hz:Bx [(y,x.ay),(W.a.j,qC.ay)] W w')=>show Bx [(y,(Sx.mk h x.dz x.Hu fr e p x.h x.Y).ay),(W.a.j,qC.ay)] W ((((w'.F ⟨y,3,none⟩ (.e fr)).F ⟨y,5,none⟩ (.b .a p)).F ⟨y,0,none⟩ (.b .a h)).F ⟨y,4,none⟩ (.b .a e))by
    have:=(((hz.set hne.i 3 (.e fr)).set hne.i 5 (.b .a p)).set hne.i 0 (.b .a h)).set hne.i 4 (.b .a e);rw[Sx.amB,Sx.Ze,Sx.Nq,Sx.amC]at this;exact this)
   by_cases p44:x.aP=44
   ·have C2:=ab (fun(w1:ak) (h:Bx [(y,x.ay),(W.a.j,qC.ay)] W w1)=>amI w1 _ n' c' r 2 2 rfl (by omega) hn' (by omega) (h.NA HRr.i))
    have hpt:=amM r;have aDs:(x.aP==44)=true:=by simp[p44]
    have aDt:=ab p44;clear p44;obtain⟨fr,hfr2⟩:=dw (LP r);rw[<-hfr2]at hpt;have HF2:=ab hfr2;clear hfr2;go_wp2_with (first|(go_at_call 250;with_reducible refine CE.i.g ?_;rintro e w1 ⟨rfl,hb1⟩;have Z1:=ab (GO.i w1 hb1);have t1:=TH.i _ _ Z1.i;obtain⟨y1,y2,y3,y4⟩:=Z1.i.X.K;clear hb1)|(go_at_call 251;with_reducible refine(CS.i _ Z1.i).g ?_;rintro e w2 ⟨rfl,rfl⟩)|(go_at_call 249;with_reducible refine(C2.i _ Z1.i).g ?_;rintro e w3 ⟨rfl,hb3⟩;have Z3:=ab (Z1.i.go hb3);obtain⟨z1,z2,z3,z4⟩:=Z3.i.X.K;have bz:=BY.i _ Z3.i;clear hb3));refine⟨⟨⟨x.head+sz,x.dz,x.Hu,fr,x.Hw+1,(nO r 0:Nat),x.h,x.Y⟩,vL (some a') sz c' 1,n'-sz,c'-sz,r.f sz,f,rfl,by omega,by omega,ZE.i _ _ _ _ _ Z3.i,HRr.i.yJ (by omega) hn',?_,?_,?_,?_⟩,?_⟩
    ·rw[H.i,HF2.i];simp[aDt.i]
    ·have:=HFn.i;simp only;omega
    ·have:=HH0.i;simp only;omega
    ·have:=HH1.i;have:=SZ2.i;simp only;omega
    ·have:=SZ1.i;simp only[slN];omega
   ·have aDs:(x.aP==44)=false:=by simp[p44]
    go_wp2_with (first|(go_at_call 250;with_reducible refine CE.i.g ?_;rintro e w1 ⟨rfl,hb1⟩;have Z1:=ab (GO.i w1 hb1);have t1:=TH.i _ _ Z1.i;obtain⟨y1,y2,y3,y4⟩:=Z1.i.X.K;have bz:=BY.i _ Z1.i;clear hb1)|(go_at_call 251;with_reducible refine(CS.i _ Z1.i).g ?_;rintro e w2 ⟨rfl,rfl⟩));refine⟨⟨⟨x.head+sz,x.dz,x.Hu,false,x.Hw+1,(nO r 0:Nat),x.h,x.Y⟩,vL (some a') sz c' 1,n'-sz,c'-sz,r.f sz,f,rfl,by omega,by omega,ZE.i _ _ _ _ _ Z1.i,HRr.i.yJ (by omega) hn',?_,?_,?_,?_⟩,?_⟩
    ·rw[H.i];simp[p44]
    ·have:=HFn.i;simp only;omega
    ·have:=HH0.i;simp only;omega
    ·have:=HH1.i;have:=SZ2.i;simp only;omega
    ·have:=SZ1.i;simp only[slN];omega
end
theorem NG(W:ak)(A:Option aS)(n c:Nat)(l:List UInt8)(hnc:n<=c)(hc:c<=9223372036854775807/\n<=1000000000)(hr:gq W W.a.j A n l):aQ ah 91 #[.a A n c] W (LkP W (mq l)):=by
 have HR:=ab hr;have hl:=ab hr.len;have b0:=ab (dJ.new W qJ.ay 108);have B0:=ab ((aH W.a.j W).alloc (av _) (.D qJ.ay 108));have HR0:=ab ((hr.S B0.i).lD B0.i.j:gq (W.alloc (.D qJ.ay 108)) (W.alloc (.D qJ.ay 108)).a.j A n l);clear hr;go_enter Tryz.func91,Tryz.ntmps91;by_cases h14:n<14
 ·have aDu:(n:Int)<14:=by omega
  have H:=ab (show mq l=(EI,2)by unfold mq;rw[if_pos (by rw[hl.i];exact h14)]);go_wp2;refine aN (kLc.qB rfl _ rfl b0.i (Lc.G _)) rfl ?_;rw[H.i];exact⟨none,0,rfl,gX.nil _ _,B0.i⟩
 have aDu:¬(n:Int)<14:=by omega
 have i1:(12:Int)<=c:=by omega
 obtain⟨w1,hw1⟩:=dw (W.alloc (.D qJ.ay 108));have PC:=HR0.i.QH (z:=12) (b:=n) (c:=c) (by omega) (by omega) (by omega);rw[if_neg (by omega),show(fun x:aS=>x.add 12)=fun x=>⟨x.block,x.off+12,none⟩from funext fun x=>by simp[rb]]at PC;have C1:=ab (Jb _ _ (n-12) (c-12) _ (by omega) (by omega) (by omega) PC);rw[show eU ((l.f 12).d (n-12)) 0=eU l 12 by rw[<-hl.i,<-jA,List.take_length];simp[eU,au]]at C1;clear PC;go_upto_region 4 with(go_at_call 173;with_reducible refine C1.i.g ?_;rintro e w2 ⟨rfl,hb2⟩)
 have d0:=ab (b0.i.S hb2 b0.i.lt);have B2:=ab (show aL W.a.j W w2 from B0.i.trans (hb2.g B0.i.j));have hs2:W.a.j<w2.a.j:=by have:=hb2.j;simp at this;omega
 clear hb2 C1 HR0 B0 b0 hw1;obtain⟨X0,hX0⟩:∃X:Lc,X=Lc.mk (bF 6 0) (bF 6 0) none 0 0 (eU l 12:Nat) 14:=⟨_,rfl⟩
 have Z3:=ab (show Rz Tg.ay 2 268 [(w2.a.j,X0.ay),(W.a.j,qJ.ay)] W (w2.alloc (.D X0.ay 108)) (.a none 0 0) []from
  Rz.new ⟨eY _ _ _ _,B2.i,fun p hp=>by rw[fD.1 hp];exact⟨d0.i,by simp[Value.ownBlock]⟩⟩ X0.ay _)
 rw[<-hX0];generalize hw3:w2.alloc (.D X0.ay 108)=w3 at Z3 ⊢;generalize w2.a.j=y at *;clear hw3 d0 B2;have R3:=ab ((HR.i.S Z3.i.R).lD Z3.i.R.j:gq w3 w3.a.j A n l);have cp1:∀ty,(qy #[56,56] ty #[.a (some ⟨y,0,none⟩) 6 6,.a A n c]).I ah w3=.ok (goInt 6) (gI w3 y 0 (AO (pX 6 l))):=fun ty=>by
  have:=EK (c:=c) (d:=6) w3 R3.i (m:=6) (by omega) (by omega) (Z3.i.X.O 0 6 (by rw[Lc.G];omega)) 56 ty 5 dx aml;rw[Nv 6 l (by rw[hl.i];omega)]at this;exact this
 have hne:∀p∈[(W.a.j,qJ.ay)],p.1≠y:=fun p hp=>by rw[fD.1 hp];exact jJ hs2
 have Z4:=ab ((Z3.i.auh (mH hs2) hne 0 (AO (pX 6 l))).drew);rw[Lc.abn]at Z4;go_upto_region 5 with fail
 have R4:=ab ((HR.i.S Z4.i.R).lD Z4.i.R.j:gq (gI w3 y 0 (AO (pX 6 l))).drew (gI w3 y 0 (AO (pX 6 l))).drew.a.j A n l);have cp2:∀ty,(qy #[56,56] ty #[.a (some ⟨y,6,none⟩) 6 6,.a (Option.map (fun x=>⟨x.block,x.off+6,none⟩) A) (n-6) (c-6)]).I ah (gI w3 y 0 (AO (pX 6 l))).drew=.ok (goInt 6) (gI (gI w3 y 0 (AO (pX 6 l))).drew y 6 (AO (pX 6 (l.f 6)))):=fun ty=>by
  have P:=R4.i.QH (z:=6) (b:=n) (c:=c) (by omega) (by omega) (by omega);rw[if_neg (by omega),show(fun x:aS=>x.add 6)=fun x=>⟨x.block,x.off+6,none⟩from funext fun x=>by simp[rb]]at P;rw[aK (by simp;have:=hl.i;omega)]at P;have:=EK (c:=c-6) (d:=6) _ P (m:=6) (by omega) (by omega) (Z4.i.X.O 6 6 (by rw[Lc.G];omega)) 56 ty 5 dx aml;rw[Nv 6 _ (by simp;have:=hl.i;omega)]at this;exact this
 have i6:(6:Int)<=c:=by omega
 go_region;have Z5:=ab (Z4.i.auh (mH hs2) hne 6 (AO (pX 6 (l.f 6))));rw[Lc.abo,hX0]at Z5;simp only at Z5;clear Z3 Z4 R3 R4 cp1 cp2 i6 hX0;generalize gI (gI w3 y 0 (AO (pX 6 l))).drew y 6 (AO (pX 6 (l.f 6)))=w5 at Z5 ⊢;go_wp2_with fail;go_loopw [] (fun wr=>∃(fG:List Tg)(A':Option aS)(c' k:Nat),fG.a<=2/\14<=k/\k<=n/\Rz Tg.ay 2 268 [(y,(Lc.mk (pX 6 l) (pX 6 (l.f 6)) A' fG.a c' (eU l (k-2):Nat) k).ay),(W.a.j,qJ.ay)] W wr (.a A' fG.a c') fG/\mq l=Cx l (2-fG.a) k fG)
  (fun wr=>n-(intOf ((wr.b ⟨y,14,none⟩).b undef)).e)
 case atStart=>exact⟨[],none,0,14,by simp,by omega,by omega,Z5.i,by unfold mq;rw[if_neg (by rw[hl.i];exact h14)];rfl⟩
 case round=>
  obtain⟨fG,A',c',k,ht2,aJu,hkn,hz,hlk⟩:=hrel;have HZ:=ab hz;have HK:=ab hlk;have HT:=ab (fun W=>abm W (eU l (k-2):Nat));have T0:=HZ.i.X;obtain⟨x1,x2,x3,x4⟩:=T0.K;have hWy:W.a.j≠y:=jJ hs2;have hA:=ab (fun(x:Lc)=>HZ.i.ans (x:=x.ay) (av _) hWy (by rw[Lc.G,Lc.G]));have yK:=HZ.i.b1.O 0 15 (by rw[Lc.G];omega);clear hz hlk T0 Z5;cases htag:tZ (eU l (k-2):Nat)
  ·rw[htag]at HT
   have H:=ab (show mq l=(⟨pX 6 l,pX 6 (l.f 6),fG,(eU l (k-2):Nat),k⟩,0)by rw[HK.i,zL htag]);go_wp2_with (go_at_call 174;with_reducible refine(HT.i _).g ?_;rintro e w' ⟨rfl,rfl⟩);have hz2:=hA.i (Lc.mk (pX 6 l) (pX 6 (l.f 6)) A' fG.a c' (eU l (k-2):Nat) k);refine aN (kLc.qB rfl _ rfl hz2.X (Lc.G _)) rfl ?_;rw[H.i];exact⟨A',c',rfl,hz2.rd,hz2.R⟩
  rw[htag]at HT;by_cases h2:fG.a=2
  ·have h2':((fG.a:Int)==2)=true:=by rw[h2];rfl
   have H:=ab (show mq l=(EI,4)by rw[HK.i,h2];exact J5 htag);go_wp2_with (go_at_call 174;with_reducible refine(HT.i _).g ?_;rintro e w' ⟨rfl,rfl⟩);have hz2:=hA.i qJ;refine aN (kLc.qB rfl _ rfl hz2.X (Lc.G _)) rfl ?_;rw[H.i];exact⟨none,0,rfl,gX.nil _ _,hz2.R⟩
  have h2':((fG.a:Int)==2)=false:=by rw[beq_eq_false_iff_ne];omega
  by_cases h4:n<k+4
  ·have h4':(n:Int)<(k:Int)+4:=by omega
   have H:=ab (show mq l=(EI,2)by rw[HK.i,show 2-fG.a=(1-fG.a)+1 by omega];exact BZ htag (by rw[hl.i];exact h4));go_wp2_with (go_at_call 174;with_reducible refine(HT.i _).g ?_;rintro e w' ⟨rfl,rfl⟩);have hz2:=hA.i qJ;refine aN (kLc.qB rfl _ rfl hz2.X (Lc.G _)) rfl ?_;rw[H.i];exact⟨none,0,rfl,gX.nil _ _,hz2.R⟩
  have h4':¬(n:Int)<(k:Int)+4:=by omega
  have H:=ab (show mq l=Cx l (2-(fG.a+1)) (k+4) (fG++[⟨(eU l (k-2):Nat),(eU l k:Nat)⟩])by rw[HK.i,show 2-fG.a=(2-(fG.a+1))+1 by omega];exact EJ htag (by rw[hl.i];exact h4));go_upto_region 11 with(go_at_call 174;with_reducible refine(HT.i _).g ?_;rintro e w' ⟨rfl,rfl⟩)
  obtain⟨vr,hvr⟩:∃v,v=wr:=⟨_,rfl⟩
  rw[<-hvr]at HZ x1 x2 x3 x4 ⊢;have HV:=ab hvr;clear hA yK HT h2' h4' HK hvr;obtain⟨X,hX⟩:∃X:Lc,X=Lc.mk (pX 6 l) (pX 6 (l.f 6)) A' fG.a c' (eU l (k-2):Nat) k:=⟨_,rfl⟩
  have hi4:(k:Int)<=c:=by omega
  have hck:¬c=k:=by omega
  have PC:=(((HR.i.S HZ.i.R).lD HZ.i.R.j:gq vr vr.a.j A n l)).QH (z:=k) (b:=n) (c:=c) (by omega) (by omega) (by omega);rw[if_neg (by omega),aK (by simp;have:=hl.i;omega)]at PC;have PD:=ab PC;have C2:=ab (Jb vr.drew _ (n-k) (c-k) _ (by omega) (by omega) (by omega) PC);rw[show eU (l.f k) 0=eU l k by simp[eU,au]]at C2;have KG:=ab (fun(W':ak) (h:dJ W' y X.ay)=>show W'.b ⟨y,12,none⟩=some (.a A' fG.a c')/\W'.b ⟨y,13,none⟩=some (.b .a (eU l (k-2):Nat))/\W'.b ⟨y,14,none⟩=some (.b .a k)by
   rw[hX]at h;exact⟨(h.K.1 12).trans (Lc.abj _),(h.K.1 13).trans (Lc.DW _),(h.K.1 14).trans (Lc.LK _)⟩)
  rw[<-hX]at HZ;have ZG:=ab (fun(wa:ak) (h:aL vr.drew.a.j vr.drew wa)=>HZ.i.drew.go h);have HGL:=ab (show fG.a+1<=1000000 by omega);obtain⟨k1,k2,k3⟩:=KG.i vr.drew HZ.i.drew.X;clear PC;go_cut []from 37 to 49 (fun wx=>∃A5 c5,Rz Tg.ay 2 268 [(y,(Lc.mk (pX 6 l) (pX 6 (l.f 6)) A5 (fG.a+1) c5 (eU l (k-2):Nat) k).ay),(W.a.j,qJ.ay)] W wx (.a A5 (fG.a+1) c5) (fG++[⟨(eU l (k-2):Nat),(eU l k:Nat)⟩]))
  case first=>
   go_region_law (first|(refine aui (o:=⟨some 45,_,_,_,_,_⟩) rfl ?_;go_simp;go_at_call 173;(with_reducible refine C2.i.g ?_);rintro e wa ⟨rfl,hba⟩;have Za:=ab (ZG.i wa hba);have ka:=KG.i wa Za.i.X;have Zb:=ab (Za.i.alloc (.D (Tg.mk (eU l (k-2):Nat) (eU l k:Nat)).ay 268));have kb:=KG.i _ Zb.i.X;have RO:=ab (gX.one (f:=Tg.ay) (Tg.mk (eU l (k-2):Nat) (eU l k:Nat)) Tg.G wa 268);clear hba)|(refine auj (o:=⟨some 48,_,_,_,_,_⟩) ap5 rfl (.tmp 38) (.tmp 47) rfl (.a A' fG.a c') (some ⟨wa.a.j,0,none⟩) 1 1 (by kernel_rfl) Zb.i (by kernel_rfl) RO.i HGL.i ?_;intro A5 n5 c5 w5 h5 h6;have Z5:=ab h5;have k5:=(h5.X.K.1 12).trans (Lc.abj _);have f5:=h5.X.K.2.1 12;clear h5 h6))
   all_goals
    have Z6:=ab (Z5.i.amJ (mH hs2) hne 12 (.a A5 n5 c5));rw[Lc.amF]at Z6;obtain rfl:n5=fG.a+1:=by have:=Z5.i.len;simpa using this
    rw[hX]at Z6;clear Z5 k5 f5 k1 k2 k3 ka kb;go_wp2_with fail;go_meet
    case rel=>exact⟨A5,c5,Z6.i⟩
  obtain⟨A5,c5,Z6⟩:=hcut;have Z6:=ab Z6;generalize wc=w6 at Z6 ⊢;obtain⟨x1,x2,x3,x4⟩:=Z6.i.X.K;obtain⟨m,hm⟩:=dw (k+2);have PC:=(((HR.i.S Z6.i.R).lD Z6.i.R.j:gq w6 w6.a.j A n l)).QH (z:=m) (b:=n) (c:=c) (by omega) (by omega) (by omega);rw[if_neg (by omega),aK (by simp;have:=hl.i;omega)]at PC;have C3:=ab (Jb w6 _ (n-m) (c-m) _ (by omega) (by omega) (by omega) PC);rw[show eU (l.f m) 0=eU l m by simp[eU,au,Nat.add_assoc]]at C3;have hi2:(m:Int)<=c:=by omega
  have aJv:¬c=m:=by omega
  have hm2:(k:Int)+2=m:=by omega
  have HM:=ab hm;have HX:=ab hX;clear PC C2 PD KG ZG hX k1 k2 k3 hm;go_wp2_with (go_at_call 173;with_reducible refine C3.i.g ?_;rintro e w7 ⟨rfl,hb7⟩;have Z7:=ab (Z6.i.go hb7);have k7:=(Z7.i.X.K.1 13).trans (Lc.DW _);have f7:=Z7.i.X.K.2.1;have k8:=(Z7.i.X.K.1 14).trans (Lc.LK _);clear hb7);have Z8:=ab ((Z7.i.amJ (mH hs2) hne 13 (.b .a (eU l m:Nat))));rw[Lc.Tx]at Z8;have Z9:=ab (Z8.i.amJ (mH hs2) hne 14 (.b .a ((k:Int)+4)));rw[Lc.ap4]at Z9;have q1:=(Z9.i.X.K.1 14).trans (Lc.LK _);have q2:=(HZ.i.X.K.1 14)
  rw[HX.i,HV.i]at q2;have q2:=q2.trans (Lc.LK _);simp only at q1 q2;refine⟨?_,?_⟩
  ·refine⟨fG++[⟨(eU l (k-2):Nat),(eU l k:Nat)⟩],A5,c5,k+4,by simp;omega,by omega,by omega,?_,by rw[H.i];simp⟩
   obtain rfl:=HM.i;simpa using Z9.i
  ·rw[q1,q2]
   simp[intOf]<;>omega
section
attribute [local go_sem high] iT jF
def Zk(k:Int)(l:List UInt8):Nt×Int:=if k=2048 then(⟨(zV l).1.head,(zV l).1.dz,(zV l).1.aP,(zV l).1.oG,(zV l).1.h,(zV l).1.Y⟩,(zV l).2)
 else(⟨(AQ l).1.head,(AQ l).1.dz,(AQ l).1.aP,(AQ l).1.oG,(AQ l).1.h,(AQ l).1.Y⟩,(AQ l).2)
def xM(k:Int):Pk:=⟨k,aff,0,0,0,0⟩
def mO(l:List UInt8):Nt×Int:=Zk (mq l).1.oq (l.f (mq l).1.at_)
def LV(l:List UInt8):Pt×Int:=Je (mO l).1.aP ((l.d ((mq l).1.at_+(mO l).1.dz.e)).f ((mq l).1.at_+(mO l).1.head.e))
def qV(l:List UInt8):Pk:=
 if(mq l).2≠0 then xM 1 else if(mq l).1.oq≠2048/\(mq l).1.oq≠34525 then xM 2 else if(mO l).2≠0 then xM 3 else if(mO l).1.oG=true then xM 4
 else if(mO l).1.aP≠6/\(mO l).1.aP≠17 then xM 5 else if(LV l).2≠0 then xM 6
 else⟨0,⟨(mO l).1.h,(mO l).1.Y,(mO l).1.aP,(LV l).1.kV,(LV l).1.jR⟩,(LV l).1.uX,(mq l).1.at_,(mq l).1.at_+(mO l).1.head,(mq l).1.at_+(mO l).1.dz⟩
theorem ahQ{l:List UInt8}:∀(m k:Nat)(fG:List Tg),14<=k->k<=l.a->(Cx l m k fG).2=0->14<=(Cx l m k fG).1.at_/\(Cx l m k fG).1.at_<=l.a
 | 0,k,fG,h1,h2,h=>by
   cases ht:tZ (eU l (k-2):Nat)with
   | false=>rw[zL ht]at h⊢;exact⟨h1,h2⟩
   | true=>rw[J5 ht]at h;cases h
 | m+1,k,fG,h1,h2,h=>by
   cases ht:tZ (eU l (k-2):Nat)with
   | false=>rw[zL ht]at h⊢;exact⟨h1,h2⟩
   | true=>
     by_cases h4:l.a<k+4
     ·rw[BZ ht h4]at h;cases h
     ·rw[EJ ht h4]at h⊢;exact ahQ m (k+4) _ (by omega) (by omega) h
theorem agf{l:List UInt8}(h:(mq l).2=0):14<=(mq l).1.at_/\(mq l).1.at_<=l.a:=by
 unfold mq at h ⊢;split at h
 ·cases h
 ·rename_i hl;rw[if_neg hl];exact ahQ 2 14 [] (by omega) (by omega) h
theorem amO{l:List UInt8}(h:(zV l).2=0):20<=(zV l).1.head/\(zV l).1.head<=(zV l).1.dz/\(zV l).1.dz<=l.a:=by
 unfold zV at h ⊢;split at h
 ·rename_i he
  rw[if_pos he];unfold Dr at he;simp only[PI]
  repeat(first|(split at he;(first|(cases he;done)|skip))|(exact absurd he (by decide)))
  all_goals(first|omega|(simp at he;done))
 ·exact absurd h ‹_›
theorem aqd(f:Nat):∀(x:Sx)(r:List UInt8),40<=x.head->x.head+r.a=x.dz->(yL f x r).2=0->40<=(yL f x r).1.head/\(yL f x r).1.head<=(yL f x r).1.dz/\(yL f x r).1.dz=x.dz:=by
 induction f with
 | zero=>
   intro x r h1 h2 h;by_cases hx:x.oG=true\/zM x.aP=false
   ·rw[Nz hx]at h⊢;exact⟨h1,by simp only;omega,rfl⟩
   ·have hf:x.oG=false:=by simpa using fun e=>hx (.a e)
    have he:zM x.aP=true:=by simpa using fun e=>hx (.b e)
    rw[Zg hf he]at h;cases h
 | succ f ih=>
   intro x r h1 h2 h;by_cases hx:x.oG=true\/zM x.aP=false
   ·rw[Nz hx]at h⊢;exact⟨h1,by simp only;omega,rfl⟩
   ·have hf:x.oG=false:=by simpa using fun e=>hx (.a e)
    have he:zM x.aP=true:=by simpa using fun e=>hx (.b e)
    by_cases hs:r.a<8\/r.a<qO x.aP r
    ·rw[LQ hf he hs]at h;cases h
    ·rw[Zh hf he hs]at h ⊢
     exact ih ⟨x.head+qO x.aP r,x.dz,x.Hu,decide (x.aP=44)&&LP r,x.Hw+1,(nO r 0:Nat),x.h,x.Y⟩ (r.f (qO x.aP r)) (by simp only;omega) (by simp only[jA];omega) h
theorem amP{l:List UInt8}(h:(AQ l).2=0):40<=(AQ l).1.head/\(AQ l).1.head<=(AQ l).1.dz/\(AQ l).1.dz<=l.a:=by
 unfold AQ at h ⊢;split at h
 ·cases h
 ·rename_i h1
  rw[if_neg h1];split at h
  ·cases h
  ·rename_i h2
   rw[if_neg h2];split at h
   ·cases h
   ·rename_i h3
    rw[if_neg h3];obtain⟨e1,e2,e3⟩:=aqd 8 (sx0 l) _ (by simp[sx0]) (by simp[sx0];omega) h;refine⟨e1,e2,?_⟩;rw[e3];simp only[sx0];omega
theorem amQ{k:Int}{l:List UInt8}(h:(Zk k l).2=0):20<=(Zk k l).1.head/\(Zk k l).1.head<=(Zk k l).1.dz/\(Zk k l).1.dz<=l.a:=by
 unfold Zk at h ⊢;split at h
 ·rename_i hk;rw[if_pos hk];exact amO h
 ·rename_i hk;rw[if_neg hk];have:=amP h;simp only;omega
@[go_sem ↓]theorem aJw(ps:Array (Nat×aB)):fI 81 ps=uN 81 ps:=rfl
theorem aDx(w:ak)(fs:Array nS)(h:ah.k 81=some (.d fs)):(iB (fun f=>Prod.mk f.Z <$> sizeOf f.p) fs:xE (Array (Nat×Nat))).I ah w=.ok #[(0,17),(17,17),(34,1),(35,1),(36,1)] w:=by
 have e:=jW;rw[h]at e;cases e;show _=_
 kernel_rfl
theorem Tu.abr(x:Tu)(t:fu):sF x.ay 0 t.ay=({x with h:=t}:Tu).ay:=by unfold Tu.ay;exact Gi (by rw[fu.G,fu.G])
theorem Tu.TD(x:Tu)(t:fu):sF x.ay 17 t.ay=({x with Y:=t}:Tu).ay:=by unfold Tu.ay;exact qK (by rw[fu.G,fu.G]) 17 (fu.G _)
@[go_sem]theorem aDy(W:ak)(s t:fu)(p a b:Int):(uN 81 #[(0,.d s.ay),(1,.d t.ay),(2,.b .a p),(3,.b .a a),(4,.b .a b)]).I ah W=.ok (.d (Tu.mk s t p a b).ay) W:=kTu.bd W _ _ _ _ jW (aDx W _ jW) (by
 refine(sN rfl (fu.G _) (by rw[Tu.G];omega) (Tu.abr _ _)).trans ?_;refine(sN rfl (fu.G _) (by rw[Tu.G];omega) (Tu.TD _ _)).trans ?_;refine(iy rfl rfl (by rw[Tu.G];omega) (Tu.axI _ _)).trans ?_;refine(iy rfl rfl (by rw[Tu.G];omega) (Tu.axJ _ _)).trans ?_;refine(iy rfl rfl (by rw[Tu.G];omega) (Tu.ar2 _ _)).trans ?_;rfl)
theorem Pk.EL(x:Pk)(v:Int):x.ay.c 0 (.b .a v)=({x with kind:=v}:Pk).ay:=by simp[Pk.ay,aM,Tu.G]
theorem Pk.PE(x:Pk)(v:Int):x.ay.c 38 (.b .a v)=({x with uX:=v}:Pk).ay:=by simp[Pk.ay,aM,Tu.G]
theorem Pk.aqe(x:Pk)(v:Int):x.ay.c 39 (.b .a v)=({x with Cw:=v}:Pk).ay:=by simp[Pk.ay,aM,Tu.G]
theorem Pk.aqf(x:Pk)(v:Int):x.ay.c 40 (.b .a v)=({x with tq:=v}:Pk).ay:=by simp[Pk.ay,aM,Tu.G]
theorem Pk.amR(x:Pk)(v:Int):x.ay.c 41 (.b .a v)=({x with Gh:=v}:Pk).ay:=by simp[Pk.ay,aM,Tu.G]
theorem Pk.ajC(x:Pk)(t:Tu):sF x.ay 1 t.ay=({x with J:=t}:Pk).ay:=by unfold Pk.ay;exact qK (by rw[Tu.G,Tu.G]) 1 rfl
@[go_sem]theorem aDz(W:ak)(k:Int):(uN 83 #[(0,.b .a k)]).I ah W=.ok (.d (xM k).ay) W:=kPk.bd W _ _ _ _ vF (ayg W _ vF) (by
 refine(iy rfl rfl (by rw[Pk.G];omega) (Pk.EL _ _)).trans ?_;rfl)
@[go_sem]theorem aDA(W:ak)(t:Tu)(a b c d:Int):(uN 83 #[(1,.d t.ay),(2,.b .a a),(3,.b .a b),(4,.b .a c),(5,.b .a d)]).I ah W=.ok (.d (Pk.mk 0 t a b c d).ay) W:=kPk.bd W _ _ _ _ vF (ayg W _ vF) (by
 refine(sN rfl (Tu.G _) (by rw[Pk.G];omega) (Pk.ajC _ _)).trans ?_;refine(iy rfl rfl (by rw[Pk.G];omega) (Pk.PE _ _)).trans ?_;refine(iy rfl rfl (by rw[Pk.G];omega) (Pk.aqe _ _)).trans ?_;refine(iy rfl rfl (by rw[Pk.G];omega) (Pk.aqf _ _)).trans ?_;refine(iy rfl rfl (by rw[Pk.G];omega) (Pk.amR _ _)).trans ?_;rfl)
theorem adO(p:Int)(W:ak):aQ ah 94 #[.b .a p] W fun e W'=>e=.a (.e (decide (p=6)||decide (p=17)))/\W=W':=by
 go_enter Tryz.func94,Tryz.ntmps94;by_cases h:p=6
 ·have q:(p==6)=true:=by simp[h]
  go_wp2;go_ret;exact⟨by simp[h],rfl⟩
 ·have q:(p==6)=false:=by simp[h]
  go_wp2;go_ret;exact⟨by simp[h];rw[dA];simp,rfl⟩
def adP(k:Int):aB:=.iface 162 (.b .a k)
theorem aqg(k:Int)(W:ak):aQ ah 92 #[.e true,.b .a k] W fun e W'=>e=.a (.J #[])/\W=W':=by
 go_enter Tryz.func92,Tryz.ntmps92;go_wp2;go_end0;exact⟨rfl,rfl⟩
theorem aqh(k:Int)(W:ak):aQ ah 92 #[.e false,.b .a k] W fun e W'=>e=.panicked [{v:=adP k,recovered:=false}]/\W=W':=by
 go_enter Tryz.func92,Tryz.ntmps92;go_wp2;exact⟨rfl,rfl,rfl⟩
theorem agh(W:ak)(k:Int)(A:Option aS)(n c:Nat)(l:List UInt8)(hnc:n<=c)(hc:c<=9223372036854775807/\n<=1000000000)(hr:gq W W.a.j A n l):aQ ah 93 #[.b .a k,.a A n c] W (gM W (.J #[.d (Zk k l).1.ay,.b .a (Zk k l).2])):=by
 have b0:=ab ((Bx.start W).new abh.ay 168);have R0:=b0.i.NA hr;have C4:=ab (Nw _ A n c l hnc hc R0);have C6:=ab (QM _ A n c l hnc hc R0);clear R0 hr;have hne:∀(w:ak),W.a.j<w.a.j->∀p∈[(w.a.j,(#[]:Array aB))],True:=fun _ _ _ _=>trivial
 go_enter Tryz.func93,Tryz.ntmps93;by_cases hk:k=2048
 ·have q:(k==2048)=true:=by simp[hk]
  have H:=ab (show Zk k l=(⟨(zV l).1.head,(zV l).1.dz,(zV l).1.aP,(zV l).1.oG,(zV l).1.h,(zV l).1.Y⟩,(zV l).2)by unfold Zk;rw[if_pos hk]);obtain⟨x,hx⟩:=dw ((zV l));obtain⟨x,er⟩:=x;rw[<-hx]at H;unfold FoP at C4;rw[<-hx]at C4;clear hx hk;go_wp2_with (go_at_call 175;with_reducible refine C4.i.g ?_;rintro e w1 ⟨rfl,hb1⟩;have Z1:=ab (b0.i.go hb1);have Z2:=ab (Z1.i.new x.ay 192);obtain⟨y1,y2,y3,y4⟩:=Z2.i.X.K;have yK:=Z2.i.b1.O 0 38 (aW (Nt.G abh).symm);clear hb1);have Z3:=ab (Z2.i.swap.put (fun p hp=>by rw[fD.1 hp];exact uF Z1.i.X.lt) (Nt.mk x.head x.dz x.aP x.oG x.h x.Y).ay (by rw[Nt.G,Nt.G]));refine aN (kNt.qB rfl _ rfl Z3.i.X (Nt.G _)) rfl ?_;rw[H.i];exact⟨rfl,Z3.i.R⟩
 ·have q:(k==2048)=false:=by simp[hk]
  have H:=ab (show Zk k l=(⟨(AQ l).1.head,(AQ l).1.dz,(AQ l).1.aP,(AQ l).1.oG,(AQ l).1.h,(AQ l).1.Y⟩,(AQ l).2)by unfold Zk;rw[if_neg hk]);obtain⟨x,hx⟩:=dw ((AQ l));obtain⟨x,er⟩:=x;rw[<-hx]at H;unfold SxP at C6;rw[<-hx]at C6;clear hx hk;go_wp2_with (go_at_call 176;with_reducible refine C6.i.g ?_;rintro e w1 ⟨rfl,hb1⟩;have Z1:=ab (b0.i.go hb1);have Z2:=ab (Z1.i.new x.ay 189);obtain⟨y1,y2,y3,y4⟩:=Z2.i.X.K;have yK:=Z2.i.b1.O 0 38 (aW (Nt.G abh).symm);clear hb1);have Z3:=ab (Z2.i.swap.put (fun p hp=>by rw[fD.1 hp];exact uF Z1.i.X.lt) (Nt.mk x.head x.dz x.aP x.oG x.h x.Y).ay (by rw[Nt.G,Nt.G]));refine aN (kNt.qB rfl _ rfl Z3.i.X (Nt.G _)) rfl ?_;rw[H.i];exact⟨rfl,Z3.i.R⟩
theorem V5{P:eG}{t:bM}{ik:IntKind}(hu:P.k t=some (.b ik))(v:aB)(xT:bM)(w:ak):(Gz (.iface t v) xT t true).I P w=.ok (.J #[v,.e true]) w:=by
 simp[Gz,dL hu]
theorem Si(q:Nat)(k:Int)(kS:List PanicEntry)(w:ak)(hth:w.O q 0 42):
 CallsD ah 90 #[.c (some ⟨q,0,none⟩)] (.panicking ({v:=adP k,recovered:=false}::kS)) w fun e u' w'=>
  e=.a (.J #[])/\u'=.panicking ({v:=adP k,recovered:=true}::kS)/\w'=gI w q 0 (xM k).ay:=by
 refine callsD_of_wpS Tryz.func90 rfl fun c₀ cs hu=>?_
 simp only[Ii,dK,bD,gH,Nat.reduceAdd,Nat.reduceSub,Array.replicate_succ,Array.replicate_zero,List.push_toArray,List.append_toArray,List.nil_append,List.cons_append];apply Ij;apply Cj;simp[wpOpsS,go_sem,recoverD,hu,Ii,Exit.thenS];apply Ij;apply Cj;simp[wpOpsS,go_sem,recoverD,hu,Ii,Exit.thenS,adP];refine wpS_cond (t:=true) (by simp[Act.eval,ng]) ?_;simp only[if_true];refine wpS_of_wp ?_;have hty:=fun v xT w=>V5 (P:=ah) Tryz.underlying162 v xT w
 have aJx:=hth;go_wp2;exact⟨rfl,_,rfl,_,results_none rfl _ _ _,rfl,rfl,rfl⟩
theorem agi(q:Nat)(w:ak):
 CallsD ah 90 #[.c (some ⟨q,0,none⟩)] .returning w fun e u' w'=>e=.a (.J #[])/\u'=.returning/\w'=w:=by
 refine callsD_of_wpS Tryz.func90 rfl fun c₀ cs hu=>?_
 apply Ij;apply Cj;simp[wpOpsS,go_sem,recoverD,hu,Ii,Exit.thenS];apply Ij;apply Cj;simp[wpOpsS,go_sem,recoverD,hu,Ii,Exit.thenS];refine wpS_cond (t:=false) (by simp[Act.eval,ng]) ?_;simp only[jc,if_false];refine wpS_of_wp (wp_skip ?_);cases c₀;simp_all[bodyPostS,results,Tryz.results90]
end
def yu(o:iU)(e:Nat):iU:={o with after:=o.after.push {on:=e,ground:=.data}}
theorem KZ{listed:Array Bool}{k i:Nat}{b:Bool}(h:listed.b k b=true):(listed.c i true).b k b=true:=by
 by_cases e:i=k
 ·subst e
  rcases aZ i listed.j with h1|h1
  ·simp[h1]
  ·rw[jO h1];exact h
 ·rw[xG b e];exact h
def amS(ops:Array iU)(k s e d:Nat):Bool:=match ops[s]?,ops[e]?,ops[s+1]? with
 | some os,some oe,some ot=>((dX s).all fun i=>i==e||os.after.any fun x=>qA .any x&&x.on==i)&&(oe.after.all fun x=>!qA .any x||os.after.any fun y=>qA .any y&&y.on==x.on)
  && (ot.after.any fun x=>qA .any x&&x.on==e)&&os.Y==none&&os.guard==none&&oe.guard==none&&decide (e<s)&&decide (k<s)&&e != k&&(match oe.Y with|some x=>!(os.looksAt ops).contains x&&x != d|none=>false) && !(oe.looksAt ops).contains d
  && ((dX ops.j).all fun t=>decide (t<=s+1)||Region.waitsFor .any ops t (t-1))
 | _,_,_=>false
section
variable {P:eG}
section
variable {l:List iU} {k s e g d:Nat} {o os oe:iU} {T:bM} {z:Array aB} {aF:qQ} {Q:zR->qQ->ak->Prop}
def mK(l:List iU)(k s e:Nat)(o os:iU):List iU:=(l.set k (kW o)).set s (yu os e)
theorem zi(i:Nat)(hk:i≠k)(hs:i≠s):(mK l k s e o os).c[i]? = l.c[i]?:=by
 simp[mK,fF,jh hk,jh hs]
theorem abu(hs:l[s]? = some os):(mK l k s e o os).c[s]? = some (yu os e):=by
 have:=(iE.1 hs).1;simp[mK,fF,this]
theorem V6(hk:l[k]? = some o)(hks:k≠s):(mK l k s e o os).c[k]? = some (kW o):=by
 have:=(iE.1 hk).1;simp[mK,fF,this,jh hks]
theorem V7(hk:l[k]? = some o)(hs:l[s]? = some os)(hks:k≠s)(tmps:Array aB):yielded (mK l k s e o os).c tmps=yielded l.c tmps:=by
 funext j;unfold yielded;have:((mK l k s e o os).c[j]?).bind (·.Y)=(l.c[j]?).bind (·.Y):=by
  by_cases h1:j=s
  ·subst h1;rw[abu hs];simp[hs,yu]
  ·by_cases h2:j=k
   ·subst h2;rw[V6 hk hks];simp[hk,kW]
   ·rw[zi j h2 h1]
 rw[this]
theorem LW(hk:l[k]? = some o)(hs:l[s]? = some os)(hks:k≠s){listed:Array Bool}{i:Nat}(h:i∈fT .any (mK l k s e o os).c listed):i∈fT .any l.c listed:=by
 obtain⟨h1,p,hp,h2⟩:=kF.1 h;by_cases e1:i=s
 ·subst e1
  rw[abu hs]at hp;cases hp;exact kF.2 ⟨h1,os,by simpa using hs,fun x hx hb=>h2 x (by simp[yu,hx]) hb⟩
 ·by_cases e2:i=k
  ·subst e2
   rw[V6 hk hks]at hp;cases hp;exact kF.2 ⟨h1,o,by simpa using hk,h2⟩
  ·rw[zi i e2 e1]at hp
   exact kF.2 ⟨h1,p,hp,h2⟩
theorem LX(hk:l[k]? = some o)(hs:l[s]? = some os)(hks:k≠s){listed:Array Bool}{i:Nat}(h:i∈fT .any l.c listed):i∈fT .any (mK l k s e o os).c listed\/(i=s/\listed.b e false=false):=by
 obtain⟨h1,p,hp,h2⟩:=kF.1 h;by_cases e1:i=s
 ·subst e1
  cases he:listed.b e false with
  | false=>exact .b ⟨rfl,rfl⟩
  | true=>
    have:p=os:=by simp[hs]at hp;exact hp.symm
    subst this;refine .a (kF.2 ⟨h1,yu p e,abu hs,fun x hx hb=>?_⟩);simp only[yu,Array.mem_push]at hx;rcases hx with hx|rfl
    ·exact h2 x hx hb
    ·exact he
 ·left
  by_cases e2:i=k
  ·subst e2
   have:p=o:=by simp[hk]at hp;exact hp.symm
   subst this;exact kF.2 ⟨h1,kW p,V6 hk hks,h2⟩
  ·exact kF.2 ⟨h1,p,by rw[zi i e2 e1];exact hp,h2⟩
theorem Zl(hk:l[k]? = some o)(hs:l[s]? = some os)(hks:k≠s){listed:Array Bool}(he:listed.b e false=true):fT .any (mK l k s e o os).c listed=fT .any l.c listed:=by
 have hiff:∀i,i∈fT .any (mK l k s e o os).c listed↔i∈fT .any l.c listed:=fun i=>
  ⟨LW hk hs hks,fun h=>(LX hk hs hks h).resolve_right fun h2=>by rw[he]at h2;cases h2.2⟩
 have hsz:(mK l k s e o os).c.j=l.c.j:=by simp[mK]
 unfold fT at hiff ⊢;rw[hsz]at hiff ⊢;refine Fp fun i hi=>?_
 have:=hiff i;rw[mh,mh]at this;rw[dA];exact⟨fun h=>(this.1 ⟨hi,h⟩).2,fun h=>(this.2 ⟨hi,h⟩).2⟩
theorem abv(hk:l[k]? = some o)(hs:l[s]? = some os)(hks:k≠s):∀(g j:Nat)(listed:Array Bool),listed.b e false=true->listed.j=l.a->lu .any (mK l k s e o os).c g j listed=true->lu .any l.c g j listed=true
 | 0,j,listed,he,hz,h=>by simp only[lu]at h⊢;rwa [Zl hk hs hks he]at h
 | g+1,j,listed,he,hz,h=>by
   simp only[lu,bf]at h ⊢;rw[Zl hk hs hks he]at h;exact⟨h.1,abv hk hs hks g (j+1) _ (getD_set_true he) (by simp[hz]) h.2⟩
def Pure(P:eG)(oe:iU):Prop:=∀(a:qQ)(w w':ak)(n:Next)(w1:ak),(execOp a.eval oe).I P w=.ok n w1->∃v,n=.value v/\w1=w/\(execOp a.eval oe).I P w'=.ok (.value v) w'
structure PN(l:List iU)(k s e d x:Nat)(o os oe ot:iU):Prop where
 hk:l[k]? = some o
 hs:l[s]? = some os
 he:l[e]? = some oe
 ht:l[s+1]? = some ot
 all:∀i,i<s->i≠e->∃y∈os.after,qA .any y=true/\y.on=i
 sub:∀y∈oe.after,qA .any y=true->∃z∈os.after,qA .any z=true/\z.on=y.on
 wt:∃y∈ot.after,qA .any y=true/\y.on=e
 sd:os.Y=none
 sg:os.guard=none
 eg:oe.guard=none
 es:e<s
 ks:k<s
 ek:e≠k
 ed:oe.Y=some x
 sx:x∉os.looksAt l.c
 xd:x≠d
 edl:d∉oe.looksAt l.c
 chain:∀t,t<l.a->s+1<t->Region.waitsFor .any l.c t (t-1)=true
theorem PN.of{x:Nat}{ot:iU}(hk:l[k]? = some o)(hs:l[s]? = some os)(he:l[e]? = some oe)(ht:l[s+1]? = some ot)(hx:oe.Y=some x)(h:amS l.c k s e d=true):PN l k s e d x o os oe ot:=by
 unfold amS at h;simp only[eB,hs,he,ht,bf,decide_eq_true_eq,hx,beq_iff_eq,bne_iff_ne]at h;obtain⟨⟨⟨⟨⟨⟨⟨⟨⟨⟨⟨h1,h2⟩,h3⟩,h4⟩,h5⟩,h6⟩,h7⟩,h8⟩,h9⟩,h10,h11⟩,h12⟩,h13⟩:=h;refine⟨hk,hs,he,ht,fun i hi hie=>?_,fun y hy hb=>?_,?_,h4,h5,h6,h7,h8,h9,hx,by simpa using h10,h11,by simpa using h12,fun t ht1 ht2=>?_⟩
 ·have:=fM.1 h1 i (dU.2 hi)
  simp only[nu,beq_iff_eq]at this;obtain⟨y,hy,hy2⟩:=Array.any_eq_true'.1 (this.resolve_left hie);simp only[bf,beq_iff_eq]at hy2;exact⟨y,hy,hy2⟩
 ·have:=Array.all_eq_true'.1 h2 y hy
  simp only[nu,Bool.not_eq_true',hb]at this;obtain⟨z,hz,hz2⟩:=Array.any_eq_true'.1 (this.resolve_left (by simp));simp only[bf,beq_iff_eq]at hz2;exact⟨z,hz,hz2⟩
 ·obtain⟨y,hy,hy2⟩:=Array.any_eq_true'.1 h3
  simp only[bf,beq_iff_eq]at hy2;exact⟨y,hy,hy2⟩
 ·have:=fM.1 h13 t (dU.2 (by simpa using ht1))
  simp only[nu,decide_eq_true_eq]at this;exact this.resolve_left (by omega)
theorem ajD{x:Nat}{ot:iU}(H:PN l k s e d x o os oe ot)(hsel:∀(j:Nat)(o:iU) cs b,l.c[j]? = some o->o.op≠.select cs b)(hp:Pure P oe){C:ak->Prop}{u:aB}{f:Nat}{listed:Array Bool}{a:qQ}{w:ak}
 (hsz:listed.j=l.a) (htail:∀t,s<=t->t<l.a->listed.b t true=false) (hq:Ye P .any (mK l k s e o os).c C s (l.a-s) aF (f+1) listed a) (hw:C w) (hsr:s∈fT .any l.c listed) (hel:listed.b e false=false)
 (hst:∀w',C w'->∃w2,(execOp (aF.put (some d) u).eval os).I P w'=.ok .skip w2/\wpList P l.c Q (l.f (s+1)) (aF.put (some d) u) w2) :
 wpOp P l.c Q s (wpAny P .any l.c Q (f+(l.a-s)) (listed.c s true)) (a.put (some d) u) w:=by
 have hks:=jJ H.ks;have hes:=jJ H.es;obtain⟨_,p,hpo,hall⟩:=kF.1 hsr;have:p=os:=by have:=H.hs;simp[this]at hpo;exact hpo.symm
 subst this;have hlt:s+1<l.a:=(iE.1 H.ht).1;have aur:e<listed.j:=by rw[hsz];have:=H.es;omega
 have he':e∈fT .any (mK l k s e o p).c listed:=kF.2 ⟨getD_in aur hel,oe,by rw[zi e H.ek hes];simpa using H.he,fun y hy hb=>by
  obtain⟨z,hz,hzb,hzo⟩:=H.sub y hy hb;rw[<-hzo];exact hall z hz hzb⟩
 obtain⟨v,hy,hK⟩:=qL (by rw[zi e H.ek hes];simpa using H.he) (hq.2 e he').2;have ahR:∀i,i<s->i≠e->listed.b i false=true:=fun i hi hie=>by
  obtain⟨y,hy,hb,ho⟩:=H.all i hi hie;rw[<-ho];exact hall y hy hb
 obtain rfl:f=0:=by
  rcases f with _|f
  ·rfl
  ·exfalso
   obtain⟨i,hi⟩:=List.exists_mem_of_ne_nil _ hK.1;have hin:=(hK.2 i hi).1;have hun:=(kF.1 hi).1;have h1:=zN hun;have h2:=DX hun;have h3:=ahR i hin h1;rw[getD_both h2]at h3;cases h3
 obtain⟨hseq,hact⟩:=hK;rw[H.ed]at hact;have hA:aF.put (some d) u=(a.put (some d) u).put (some x) v:=by rw[<-hact];exact Act.put_comm a v u (fun e he=>by cases he;simpa using jh H.xd)
 unfold wpOp;rw[hpo];simp only;rw[if_pos (by simp[fC,H.sg])];refine .a ?_;obtain⟨w2,hrun,hrest⟩:=hst w hw;rw[hA,execOp_put p (fun cs b=>hsel s p cs b hpo) (a.put (some d) u) (some x) v (fun e he=>by cases he;exact H.sx)]at hrun;unfold ni;rw[hrun];simp only[Mi,H.sd,lI];rw[bl];obtain⟨g,hg⟩:∃g,l.a-s=g+1:=⟨l.a-s-1,by omega⟩
 rw[hg]at hseq ⊢;simp only[lu,bf,decide_eq_true_eq]at hseq;have ayz:(listed.c s true).b e false=false:=by rw[xG false (jh hes)];exact hel
 have her:e∈fT .any l.c (listed.c s true):=kF.2 ⟨getD_in (by simpa using aur) ayz,oe,by simpa using H.he,fun y hy hb=>by
  obtain⟨z,hz,hzb,hzo⟩:=H.sub y hy hb;rw[<-hzo];exact getD_set_true (hall z hz hzb)⟩
 refine⟨fun h0=>(by rw[h0]at her;cases her),fun i hi=>?_⟩;obtain rfl:i=e:=by
  obtain⟨hun,q,hqo,hqa⟩:=kF.1 hi;have h1:=zN hun;have h2:=DX hun;by_cases hie:i=e
  ·exact hie
  ·exfalso
   rcases aZ i s with h3|h3
   ·have h4:=ahR i h3 hie
    rw[getD_both h2]at h4;cases h4
   ·have hil:i<l.a:=by have:=(Array.getElem?_eq_some_iff.1 hqo).1;simpa using this
    rcases aZ (s+1) i with h4|h4
    ·obtain⟨q',hq',y,hy,hb,ho⟩:=Region.waitsFor_spec (H.chain i hil h4)
     have:q'=q:=Option.some.inj (hq'.symm.trans hqo);subst this;have h5:=hqa y hy hb;rw[ho,xG false (by omega),getD_both (htail (i-1) (by omega) (by omega))]at h5;cases h5
    ·obtain rfl:i=s+1:=by omega
     have:q=ot:=by have:=H.ht;simp[this]at hqo;exact hqo.symm
     subst this;obtain⟨y,hy,hb,ho⟩:=H.wt;have h5:=hqa y hy hb;rw[ho,ayz]at h5;cases h5
 have heo:l.c[i]? = some oe:=by simpa using H.he
 unfold wpOp;simp only[heo];rw[if_pos (by simp[fC,H.eg])];refine .a ?_;have hyv:(execOp a.eval oe).I P w2=.ok (.value v) w2:=by
  rcases hy with⟨_,h2⟩|⟨h1,_⟩
  ·have h3:=h2 w hw
   unfold Oper.quietAt at h3;generalize hr:(execOp a.eval oe).I P w=r at h3;cases r with
   | halt y w'=>cases h3
   | ok n w'=>
     obtain⟨v',rfl,rfl,h4⟩:=hp a w w2 n w' hr;simp only[Oper.quietUpon]at h3;rw[<-h3.2];exact h4
  ·simp[fC,H.eg]at h1
 unfold ni;have hex:execOp (a.put (some d) u).eval oe=execOp a.eval oe:=execOp_put oe (fun cs b=>hsel i oe cs b heo) a (some d) u (fun e he=>by cases he;exact H.edl);have ha2:({tmps:=a.tmps.c d u,defers:=a.defers}:qQ)=a.put (some d) u:=rfl;rw[ha2,hex,hyv];simp only[Mi,H.ed];rw[<-hA];have hdl:(l.f (s+1)).a=g:=by simp;omega
 have:=wpAny_of_seq (P:=P) (md:=.any) (Q':=Q) (ops:=l.c) (l.f (s+1)) (s+1) ((listed.c s true).c i true) (aF.put (some d) u) w2 (fun j=>by simp[iZ]) (by
  rw[hdl,Array.setIfInBounds_comm _ _ (jh hes)];refine abv H.hk H.hs hks g (s+1) _ ?_ (by simp[hsz]) hseq.2;rw[xG false (jh hes)];simp[aur]) hrest
 rw[hdl]at this;exact this
theorem NH{listed:Array Bool}{i:Nat}(h:∀t,s<=t->t<l.a->listed.b t true=false)(hi:i<s):∀t,s<=t->t<l.a->(listed.c i true).b t true=false:=fun t h1 h2=>by rw[xG true (by omega)];exact h t h1 h2
theorem Jg{x:Nat}{ot:iU}(H:PN l k s e d x o os oe ot)(hA:Gl l.c k s d=true)(hsel:∀(j:Nat)(o:iU) cs b,l.c[j]? = some o->o.op≠.select cs b)(hp:Pure P oe){C:ak->Prop}{u:aB}
 (hst:∀w',C w'->∃w2,(execOp (aF.put (some d) u).eval os).I P w'=.ok .skip w2/\wpList P l.c Q (l.f (s+1)) (aF.put (some d) u) w2)
 (hend:∀listed w',listed.j=l.a->C w'->lu .any (mK l k s e o os).c (l.a-s) s listed=true->wpAny P .any l.c Q (l.a-s) listed (aF.put (some d) u) w') :
 ∀(f:Nat)(listed:Array Bool)(a:qQ)(w:ak),listed.j=l.a->(∀t,s<=t->t<l.a->listed.b t true=false)->listed.b k true=true->C w->Ye P .any (mK l k s e o os).c C s (l.a-s) aF f listed a->wpAny P .any l.c Q (f+(l.a-s)) listed (a.put (some d) u) w
 | 0,listed,a,w,hsz,_,_,hw,h=>by
   obtain⟨h1,rfl⟩:=h;rw[bl];exact hend _ _ hsz hw h1
 | f+1,listed,a,w,hsz,htl,hkt,hw,h=>by
   rw[show f+1+(l.a-s)=(f+(l.a-s))+1 by omega];have hks:=jJ H.ks;refine⟨fun h0=>absurd ?_ h.1,fun i hi=>?_⟩
   ·rw[tJ]
    intro i hi;have:=LW H.hk H.hs hks hi;rw[h0]at this;cases this
   ·rcases LX (e:=e) H.hk H.hs hks hi with hi'|⟨rfl,hel⟩
    ·obtain⟨hin,hq⟩:=h.2 i hi'
     obtain⟨hun,oi,hoi,_⟩:=kF.1 hi;have hik:i≠k:=fun e=>by rw[e,hkt]at hun;cases hun
     have his:i≠s:=jJ hin;obtain⟨hl,hd⟩:=VX hA hin hik hoi;unfold qOp at hq;rw[zi i hik his,hoi]at hq;unfold wpOp;simp only[hoi];simp only[V7 H.hk H.hs hks]at hq;rw[wanted_put oi a (some d) u (fun e he=>by cases he;exact hl)];split
     ·rename_i hw2
      simp only[hw2,if_true]at hq;exact .a (GU (fun cs b=>hsel i oi cs b hoi) hl hd hw (fun a' w' hw' h'=>Jg H hA hsel hp hst hend f _ a' w' (by simp[hsz]) (NH htl hin) (KZ hkt) hw' h') hq)
     ·rename_i hw2
      simp only[hw2]at hq;rw[Act.put_comm a u undef (fun e he=>by cases he;exact hd)];exact Jg H hA hsel hp hst hend f _ _ w (by simp[hsz]) (NH htl hin) (KZ hkt) hw hq
    ·exact ajD H hsel hp hsz htl h hw hi hel hst
theorem V8{x:Nat}{ot:iU}(H:PN l k s e d x o os oe ot)(hA:Gl l.c k s d=true)(hD:QL (mK l k s e o os)=true)(hsel:∀(j:Nat)(o:iU) cs b,l.c[j]? = some o->o.op≠.select cs b)(hp:Pure P oe)
 (hod:o.Y=some d) (hog:o.guard=none) (hoa:o.after = #[]) (hrun:∀(a:qQ) w,(execOp a.eval o).I P w=.ok (.value (.c (some ⟨w.a.j,0,none⟩))) (w.alloc (.D z T))) {S:ak->Prop} (hS:Shut S)
 (hst:∀w1 w',S w1->S w'->aL (w1.alloc (.D z T)).a.j (w1.alloc (.D z T)) w'->∃w2,(execOp (aF.put (some d) (.c (some ⟨w1.a.j,0,none⟩))).eval os).I P w'=.ok .skip w2/\wpList P l.c Q (l.f (s+1)) (aF.put (some d) (.c (some ⟨w1.a.j,0,none⟩))) w2)
 (hend:∀listed w1 w',listed.j=l.a->S w1->S w'->aL (w1.alloc (.D z T)).a.j (w1.alloc (.D z T)) w'->lu .any (mK l k s e o os).c (l.a-s) s listed=true->wpAny P .any l.c Q (l.a-s) listed (aF.put (some d) (.c (some ⟨w1.a.j,0,none⟩))) w') :
 ∀(f:Nat)(listed:Array Bool)(a:qQ)(w:ak),listed.j=l.a->(∀t,s<=t->t<l.a->listed.b t true=false)->listed.b k true=false->S w->(∀C:ak->Prop,(∀w,C w->S w)->Shut C->(∃w,C w)->Ye P .any (mK l k s e o os).c C s (l.a-s) aF f listed a)->wpAny P .any l.c Q (f+(l.a-s)) listed a w
 | 0,listed,a,w,hsz,_,hun,hw,HH=>by
   obtain⟨h1,_⟩:=HH S (fun _ h=>h) hS ⟨w,hw⟩;have:k∈fT .any (mK l k s e o os).c listed:=kF.2 ⟨hun,kW o,V6 H.hk (jJ H.ks),fun e he=>by simp[kW,hoa]at he⟩;have:=seqB_ready h1 k this;have:=H.ks;omega
 | f+1,listed,a,w,hsz,htl,hun,hw,HH=>by
   rw[show f+1+(l.a-s)=(f+(l.a-s))+1 by omega];have hks:=jJ H.ks;have H0:=HH S (fun _ h=>h) hS ⟨w,hw⟩;have hkl:k<l.a:=(iE.1 H.hk).1;refine⟨fun h0=>absurd ?_ H0.1,fun i hi=>?_⟩
   ·rw[tJ]
    intro i hi;have:=LW H.hk H.hs hks hi;rw[h0]at this;cases this
   ·rcases LX (e:=e) H.hk H.hs hks hi with hi'|⟨rfl,hel⟩
    ·have hin:=(H0.2 i hi').1
     by_cases hik:i=k
     ·subst hik
      unfold wpOp;simp only[eB,H.hk];rw[if_pos (by simp[fC,hog])];refine .a ?_;unfold ni;rw[hrun];simp only[Mi,hod];have hC:=HH (fun w'=>S w'/\aL (w.alloc (.D z T)).a.j (w.alloc (.D z T)) w') (fun _ h=>h.1) (VZ hS _) ⟨_,hS _ _ hw ((aH _ _).alloc (av _) _),aH _ _⟩;obtain⟨v,_,hK⟩:=qL (o:=kW o) (V6 H.hk hks) (hC.2 i hi').2;have:=Jg (C:=fun w'=>S w'/\aL (w.alloc (.D z T)).a.j (w.alloc (.D z T)) w') (u:=.c (some ⟨w.a.j,0,none⟩)) H hA hsel hp (fun w' hw'=>hst w w' hw hw'.1 hw'.2) (fun listed' w' hz hw' hB=>hend listed' w w' hz hw hw'.1 hw'.2 hB) f _ _ (w.alloc (.D z T)) (by simp[hsz]) (NH htl hin) (by
       have:i<listed.j:=by rw[hsz];exact hkl
       simp[this]) ⟨hS _ _ hw ((aH _ _).alloc (av _) _),aH _ _⟩ hK
      have e1:(kW o).Y=some d:=hod;rw[e1,ND]at this;exact this
     ·obtain⟨_,oi,hoi,_⟩:=kF.1 hi
      have his:i≠s:=jJ hin;have agc:(mK l k s e o os).c[i]? = some oi:=by rw[zi i hik his];exact hoi
      obtain⟨v,hy,hK⟩:=qL agc (H0.2 i hi').2;have hq:qOp P l.c S i (fun a'=>a'=a.put oi.Y v) a:=by
       unfold qOp;simp only[hoi];unfold YieldsIn at hy;simp only[V7 H.hk H.hs hks]at hy;rcases hy with⟨h1,h2⟩|⟨h1,rfl⟩
       ·simp only[h1,if_true];exact⟨v,h2,rfl⟩
       ·simp only[h1,jc,if_false]
      refine wpOp_of_qOp hw (fun a' w' hw' e1=>?_) hq;subst e1;refine V8 H hA hD hsel hp hod hog hoa hrun hS hst hend f _ _ w' (by simp[hsz]) (NH htl hin) (NC hun (jh hik)) hw' (fun C hC1 hC2 hC3=>?_);obtain⟨_,v2,_,_,_,hK2,_⟩:=adL hD hi' agc H0 (HH C hC1 hC2 hC3);have e1:a.put oi.Y v=a.put oi.Y v2:=by
       cases hd:oi.Y with
       | none=>rfl
       | some dd=>
         have hno:∀j oj,(mK l k s e o os).c[j]? = some oj->(listed.c i true).b j true=false->oj.Y≠some dd:=fun j oj hj hl hdj=>by
          have:=Gm hD (by simpa using agc) (by simpa using hj) hd hdj;exact zN hl this.symm
         have q1:=(Ca f _ _ hK).2.2 dd hno;have q2:=(Ca f _ _ hK2).2.2 dd hno;rw[hd]at q1 q2;have q:=q1.symm.trans q2;simp only[lI,dO,if_pos]at q ⊢;by_cases hs:dd<a.tmps.j
         ·simp[hs]at q;rw[q]
         ·have hs':=Nat.le_of_not_lt hs
          rw[jO hs',jO hs']
      rw[e1];exact hK2
    ·exfalso
     obtain⟨_,p,hpo,hall⟩:=kF.1 hi;have:p=os:=by have:=H.hs;simp[this]at hpo;exact hpo.symm
     subst this;obtain⟨y,hy,hb,ho⟩:=H.all k H.ks (jh H.ek);have:=hall y hy hb;rw[ho,getD_both hun]at this;cases this
theorem xB{S:ak->Prop}(hS:Shut S)(k s e d x:Nat){id:Nat}{Q:zR->qQ->ak->Prop}{a:qQ}{w:ak}{l:List iU}{o os oe ot:iU}(T:bM)(z:Array aB)(hm:P.follows .mixedOrders=true)
 (hk:l[k]? = some o) (hs:l[s]? = some os) (he:l[e]? = some oe) (ht:l[s+1]? = some ot) (hx:oe.Y=some x) (hL:amS l.c k s e d=true) (hB:xH .any (mK l k s e o os).c s=true) (hA:Gl l.c k s d=true) (hD:QL (mK l k s e o os)=true) (hsel:Region.noSelect l.c=true)
 (hod:o.Y=some d) (hog:o.guard=none) (hoa:o.after = #[]) (hrun:∀(a:qQ) w,(execOp a.eval o).I P w=.ok (.value (.c (some ⟨w.a.j,0,none⟩))) (w.alloc (.D z T))) (hp:Pure P oe) (h0:S w.drew)
 (hh:∃aF:qQ,(∀(T:Type)(f:T->ak),Nonempty T->(∀m,S (f m))->(∀m w',aL (f m).a.j (f m) w'->∃m',w'=f m')->wpQuiet P (mK l k s e o os).c (fun w'=>∃m,w'=f m) (fun a'=>a'=aF) ((mK l k s e o os).d s) a)
 /\ (∀w1 w',S w1->S w'->aL (w1.alloc (.D z T)).a.j (w1.alloc (.D z T)) w'->∃w2,(execOp (aF.put (some d) (.c (some ⟨w1.a.j,0,none⟩))).eval os).I P w'=.ok .skip w2/\wpList P l.c Q (l.f (s+1)) (aF.put (some d) (.c (some ⟨w1.a.j,0,none⟩))) w2)):(Code.region id l.c true).wp P Q a w:=by
 obtain⟨aF,h,h2⟩:=hh;have H:=PN.of hk hs he ht hx hL;have hks:=jJ H.ks;have hsl:s<l.a:=(iE.1 hs).1;simp only[xH,bf,decide_eq_true_eq]at hB;obtain⟨⟨⟨⟨amN,hn⟩,hs'⟩,hc⟩,hlex⟩:=hB;have hsz:(mK l k s e o os).c.j=l.a:=by simp[mK]
 have htl:((mK l k s e o os).d s).a=s:=by simp[mK];omega
 have inv0:HeadInv .any (mK l k s e o os).c s (ng l.c.j false):=
  ⟨by simp[mK],fun j oj _ hl=>(by rw[mI]at hl;cases hl),fun t _ ht=>getD_in (by rw[hsz]at ht;simpa using ht) (mI _ _)⟩
 refine wp_region_any hm ?_;rw[hsz]at hlex;have hdl:(l.f s).a=l.a-s:=by simp
 have:=V8 (P:=P) (aF:=aF) (Q:=Q) H hA hD (Region.noSelect_spec hsel) hp hod hog hoa hrun hS h2 (fun listed w1 w' hz hw1 hw' hb hq=>by
  obtain⟨w2,hr,hrest⟩:=h2 w1 w' hw1 hw' hb;have hel:listed.b e false=true:=by
   obtain⟨g,hg⟩:∃g,l.a-s=g+1:=⟨l.a-s-1,by omega⟩
   rw[hg]at hq;simp only[lu,bf,decide_eq_true_eq]at hq;have:s∈fT .any (mK l k s e o os).c listed:=by rw[hq.1];simp
   obtain⟨_,p,hpo,hall⟩:=kF.1 this;rw[abu hs]at hpo;cases hpo;exact hall {on:=e,ground:=.data} (by simp[yu]) rfl
  have:=wpAny_of_seq (P:=P) (md:=.any) (Q':=Q) (ops:=l.c) (l.f s) s listed (aF.put (some d) (.c (some ⟨w1.a.j,0,none⟩))) w' (fun j=>by simp[iZ]) (by rw[hdl];exact abv H.hk H.hs hks _ _ _ hel hz hq) (by
   have hd:l.f s=os::l.f (s+1):=by
    have:=List.drop_eq_getElem_cons hsl;have h3:=(iE.1 hs).2;rw[this,h3]
   rw[hd];unfold wpList;rw[if_pos (by simp[fC,H.sg])];refine .a ?_;unfold ni;rw[hr];simp only[Mi,H.sd];exact hrest)
  rwa [hdl]at this) s (ng l.c.j false) a {w with drawn:=w.drawn+1} (by simp) (fun t _ ht=>getD_in (by simpa using ht) (mI _ _)) (getD_in (by simp;have:=H.ks;omega) (mI _ _)) h0 (fun C hC1 hC2 hC3=>by
  have hq:=h {w // C w} Subtype.val (let⟨w,hw⟩:=hC3;⟨⟨w,hw⟩⟩) (fun m=>hC1 _ m.2) (fun m w' hb=>⟨⟨w',hC2 _ _ m.2 hb⟩,rfl⟩);have e:(fun w':ak=>∃m:{w // C w},w'=m.val)=C:=by
   funext w';rw[eq_iff_iff];exact⟨fun⟨m,hm⟩=>by rw[hm];exact m.2,fun h=>⟨⟨w',h⟩,rfl⟩⟩
  rw[e]at hq;have:=aaN (md:=.any) (C:=C) (g:=l.a-s) amN hs' hc hn ((mK l k s _ o os).d s) 0 (ng l.c.j false) a (fun j hj=>by
   have hj':j<s:=by rw[htl]at hj;exact hj
   rw[gZ hj',bl];simp) (by simpa using htl) inv0 (by rw[htl];simpa using hlex) hq
  rw[htl]at this;exact this)
 rw[show s+(l.a-s)=l.c.j by simp;omega]at this;exact this
theorem tO{oe:iU}{t:pI}{i:Nat}(h:oe.op=.m t i):Pure P oe:=by
 intro a w w' n w1 hr;simp only[execOp,h]at hr ⊢;generalize a.eval t=v at hr ⊢;unfold Instr.extract at hr ⊢;split at hr
 ·rename_i vs
  split at hr
  ·rename_i u hu
   simp at hr;exact⟨u,hr.1.symm,hr.2.symm,by simp⟩
  ·simp at hr
 ·simp at hr
end
end
section
attribute [local go_sem high] iT jF
theorem V9:∀(l:List UInt8)(i:Nat),i%2=0->i<l.a->words (l.d (i+2))=words (l.d i)++[256*nO l i+nO l (i+1)]
 | [],i,_,h=>by simp at h
 | [a],0,_,_=>by simp[words,nO]
 | [a],i+1,h1,h=>by simp at h
 | a::b::l,0,_,_=>by simp[words,nO]
 | a::b::l,1,h1,_=>by omega
 | a::b::l,i+2,h1,h=>by
   have:=V9 l i (by omega) (by simp at h;omega);show(256*a.e+b.e)::words (l.d (i+2))=((256*a.e+b.e)::words (l.d i))++[256*nO l i+nO l (i+1)];rw[this];rfl
theorem PW:∀l:List UInt8,(words l).a=(l.a+1)/2
 | []=>rfl
 | [a]=>by simp[words]
 | a::b::l=>by have:=PW l;simp[words,this];omega
theorem adQ:abb 70 3 Gd 1:=by
 obtain⟨i,hi,hz,hs⟩:=S9;have h4:(ah.l 3).map (fun i=>decide (i.bytes<=1000))=some true:=by kernel_rfl
 rw[hi]at h4;simp at h4;exact⟨i,_,nZ,hi,hz,hs,rfl,by omega,h4,Y0,fun s=>by simp[Gd,cB]⟩
def zk(l:List UInt8):List Int:=(words l).map fun n:Nat=>(n:Int)
theorem adR:∀(l:List UInt8)(x:Nat),x∈words l->x<=65535
 | [],x,h=>by simp[words]at h
 | [a],x,h=>by have:=a.a;simp[words]at h;omega
 | a::b::l,x,h=>by
   have:=a.a;have:=b.a;simp only[words,bB]at h;rcases h with rfl|h
   ·omega
   ·exact adR l x h
def WdP(W:ak)(l:List UInt8)(e:lq)(W':ak):Prop:=∃A' m c',e=.a (.a A' m c')/\Yc W' W'.a.j A' m (zk l)/\aL W.a.j W W'
theorem abw(W:ak)(A:Option aS)(n c:Nat)(l:List UInt8)(hn:n<=1000000)(hr:gq W W.a.j A n l):aQ ah 257 #[.a A n c] W (WdP W l):=by
 have HR:=ab hr;have hl:=ab hr.len;clear hr;go_enter Tryz.func257,Tryz.ntmps257;go_wp2;go_loopw [3,4] (fun s3 s4 wr=>∃(i:Nat)(A':Option aS)(m c':Nat),i%2=0/\i<=n+1/\s4=.b .a i/\s3=.a A' m c'/\Rz Gd 1 3 [] W wr (.a A' m c') (zk (l.d i)))
  (fun s3 s4 wr=>n+2-(intOf s4).e)
 case atStart=>exact⟨0,none,0,0,rfl,by omega,rfl,rfl,by simpa[zk,words]using Rz.nil (f:=Gd) (sz:=1) (e:=3) W⟩
 case round=>
  obtain⟨i,A',m,c',hi2,hin,rfl,rfl,hz⟩:=hrel;have HZ:=ab hz;have hm:=hz.len;clear hz;by_cases hlt:i<n
  ·have q:(i:Int)<n:=by omega
   obtain⟨a,rfl,hab⟩:=HR.i.ahP (show 0<n by omega);have RW:=ab ((HR.i.S HZ.i.R).lD HZ.i.R.j:gq wr wr.a.j (some a) n l);obtain⟨_,e1,_,hc1⟩:=RW.i.at_ hlt;cases e1;unfold bv at hc1;have hb0:((l.b i 0).e:Int)=(nO l i:Nat):=rfl;rw[hb0]at hc1;have aus:=uY l i;have hlt1:=uY l (i+1);have HML:=ab (show(zk (l.d i)).a+1<=1000000 by simp[zk,PW];omega);have w1:=jS (nO l i:Nat) (by omega);have w2:=jS (256*(nO l i:Int)) (by omega);have w3:=jS ((i:Int)+1) (by omega);have HS:=ab (V9 l i hi2 (by rw[hl.i];exact hlt));have FIN:=ab (fun(v:Int) (A5:Option aS) (n5 c5:Nat) (w5:ak) (hv:v=((256*nO l i+nO l (i+1):Nat):Int)) (h:Rz Gd 1 3 [] W w5 (.a A5 n5 c5) (zk (l.d i)++[v]))=>show Rz Gd 1 3 [] W w5 (.a A5 n5 c5) (zk (l.d (i+2)))by
    unfold zk at h ⊢;rw[HS.i,je];rw[hv]at h;exact h)
   by_cases h1:i+1<n
   ·have q1:(i:Int)+1<n:=by omega
    have hc2:=RW.i.VW i h1;have w4:=jS (nO l (i+1):Nat) (by omega);have w5:=jS (256*(nO l i:Int)+(nO l (i+1):Nat)) (by omega);have Za:=ab (HZ.i.alloc (.D (sM [256*(nO l i:Int)+(nO l (i+1):Nat)]) 3));have RO:=ab (Yc.lit wr [256*(nO l i:Int)+(nO l (i+1):Nat)] 3);go_wp2_with (at_builtin;refine Px adQ rfl (.tmp 31) (.tmp 33) rfl rfl Za.i rfl RO.i HML.i ?_;intro A5 n5 c5 w5 h5 h6;have Z5:=ab h5;clear h5 h6);exact⟨⟨i+2,A5,n5,c5,by omega,by omega,by rw[show((i+2:Nat):Int)=(i:Int)+2 by omega],rfl,FIN.i _ _ _ _ _ (by omega) Z5.i⟩,by simp only[intOf];omega⟩
   ·have q1:¬(i:Int)+1<n:=by omega
    have HB0:=ab (show nO l (i+1)=0 by unfold nO;rw[au,aT (by rw[hl.i];omega)];rfl);have Za:=ab (HZ.i.alloc (.D (sM [256*(nO l i:Int)]) 3));have RO:=ab (Yc.lit wr [256*(nO l i:Int)] 3);go_wp2_with (at_builtin;refine Px adQ rfl (.tmp 31) (.tmp 33) rfl rfl Za.i rfl RO.i HML.i ?_;intro A5 n5 c5 w5 h5 h6;have Z5:=ab h5;clear h5 h6);exact⟨⟨i+2,A5,n5,c5,by omega,by omega,by rw[show((i+2:Nat):Int)=(i:Int)+2 by omega],rfl,FIN.i _ _ _ _ _ (by rw[HB0.i];omega) Z5.i⟩,by simp only[intOf];omega⟩
  ·have q:¬(i:Int)<n:=by omega
   have H:=ab (show zk (l.d i)=zk l by rw[aK (by rw[hl.i];omega)]);clear hm;go_wp2;go_ret;rw[H.i]at HZ;exact⟨A',m,c',rfl,HZ.i.rd,HZ.i.R⟩
theorem ajE(l:List Nat)(i:Nat)(h:i<l.a):(l.d (i+1)).foldl vH 0=vH ((l.d i).foldl vH 0) (l.b i 0):=by
 rw[List.take_succ_eq_append_getElem h,List.foldl_append];simp[au,h]
theorem NI:∀(l:List Nat)(a:Nat),a<=65535->(∀x∈l,x<=65535)->l.foldl vH a<=65535
 | [],a,h,_=>h
 | x::l,a,h,hl=>NI l _ (FV h (hl x (by simp))) (fun y hy=>hl y (by simp[hy]))
theorem Wd(W:ak)(A:Option aS)(n c:Nat)(l:List UInt8)(hn:n<=1000000)(hr:gq W W.a.j A n l):aQ ah 186 #[.a A n c] W (gM W (.b .a (xg l:Nat))):=by
 have hl:=hr.len;have hwl:=PW l;have CW:=ab (abw W A n c l hn hr);unfold WdP at CW;clear hr;have HW:=ab (adR l);go_enter Tryz.func186,Tryz.ntmps186;go_wp2_with (go_at_call 257;(with_reducible refine CW.i.g ?_);rintro e w1 ⟨A',m,c',rfl,h1,h2⟩;have R1:=ab h1;have B1:=ab h2;clear h1 h2);have hm:=R1.i.len;unfold zk at hm;rw[bQ]at hm;have hmb:m<=1000000:=by omega
 clear hl hwl;go_loopw [4,5] (fun s4 s5 wr=>∃i:Nat,i<=m/\s5=.b .a i/\s4=.b .a (((words l).d i).foldl vH 0:Nat)/\wr=w1)
  (fun s4 s5 wr=>m-(intOf s5).e)
 case atStart=>exact⟨0,by omega,rfl,rfl,rfl⟩
 case round=>
  obtain⟨i,him,rfl,rfl,hwr⟩:=hrel;rw[hwr];clear hwr;by_cases hlt:i<m
  ·have q:(i:Int)<m:=by omega
   obtain⟨b,o,rfl,_,hcell⟩:=R1.i.cell Y0 0 hlt;have hc:=hcell 0 (by omega);have hv:(Gd ((zk l).b i 0))[0]? = some (.b .a ((words l).b i 0:Nat)):=by
    unfold zk Gd;rw[au,jC,aC (by omega)];simp[au,aC (show i<(words l).a by omega)]
   rw[hv]at hc;simp only[gB,Nat.add_zero]at hc;clear hcell hv;have HS:=ab (ajE (words l) i (by omega));have hx:(words l).b i 0<=65535:=HW.i _ (by rw[au,aC (show i<(words l).a by omega)];exact dR _);obtain⟨x,hx1⟩:=dw ((words l).b i 0);obtain⟨y,hy1⟩:=dw (((words l).d i).foldl vH 0);have hy:y<=65535:=by rw[hy1];exact NI _ _ (by omega) (fun z hz=>HW.i z (List.mem_of_mem_take hz))
   rw[<-hx1]at hc hx HS;rw[<-hy1]at HS ⊢;have CR:=ab (ac9 y x w1 hy hx);clear hx1 hy1;go_wp2_with (go_at_call 258;(with_reducible refine CR.i.g ?_);rintro e w2 ⟨rfl,rfl⟩);exact⟨⟨i+1,by omega,by rw[show((i+1:Nat):Int)=(i:Int)+1 by omega],by rw[HS.i],trivial⟩,by simp only[intOf];omega⟩
  ·have q:¬(i:Int)<m:=by omega
   have H:=ab (show((words l).d i).foldl vH 0=MI 0 l by rw[aK (by omega)];rfl);have hle:=aaL l 0 (by omega);rw[H.i];have HB:=ab (show(65535:Int)-(MI 0 l:Nat)=(xg l:Nat)by unfold xg;omega);generalize MI 0 l=z at *;go_wp2;go_ret;exact⟨by rw[<-HB.i];rfl,B1.i⟩
end
section
attribute [local go_sem high] iT jF
end
section
attribute [local go_sem high] iT jF
theorem aqi{p:Int}{l:List UInt8}(h6:p≠6)(h17:p≠17):Je p l=(qI,5):=uJ (by unfold uZ;rw[if_pos ⟨h6,h17⟩]) (by decide)
theorem asi(l:List UInt8):Je 6 l=if l.a<20 then(qI,2)else if nO l 12/16*4<20 then(qI,3)else if l.a<nO l 12/16*4 then(qI,2)else(⟨eU l 0,eU l 2,(nO l 13%64:Nat),(nO l 12/16*4:Nat),l.a⟩,0):=by
 split
 ·rename_i h;exact uJ (by unfold uZ;rw[if_neg (by simp),if_pos (by rw[if_pos rfl];exact h)]) (by decide)
 ·rename_i h
  have hg:qp 6 l=⟨eU l 0,eU l 2,(nO l 13%64:Nat),(nO l 12/16*4:Nat),l.a⟩:=by unfold qp;rw[if_pos rfl]
  have e1:¬l.a<(if(6:Int)=6 then 20 else 8):=by rw[if_pos rfl];exact h
  split
  ·rename_i h2;exact uJ (by unfold uZ;rw[if_neg (by simp),if_neg e1,if_pos (.a ⟨rfl,by rw[hg];simp only;omega⟩)]) (by decide)
  ·rename_i h2
   have e2:¬(((6:Int)=6/\(qp 6 l).head<20)\/(qp 6 l).dz<8):=by rw[hg];simp only;omega
   split
   ·rename_i h3;exact uJ (by unfold uZ;rw[if_neg (by simp),if_neg e1,if_neg e2,if_pos (by rw[hg];simp only;omega)]) (by decide)
   ·rename_i h3
    have:=VT (p:=6) (l:=l) (by unfold uZ;rw[if_neg (by simp),if_neg e1,if_neg e2,if_neg (by rw[hg];simp only;omega)]);rw[this,hg]
theorem amT(l:List UInt8):Je 17 l=if l.a<8 then(qI,2)else if eU l 4<8 then(qI,3)else if l.a<eU l 4 then(qI,2)else(⟨eU l 0,eU l 2,0,8,eU l 4⟩,0):=by
 split
 ·rename_i h;exact uJ (by unfold uZ;rw[if_neg (by simp),if_pos (by rw[if_neg (by decide)];exact h)]) (by decide)
 ·rename_i h
  have hg:qp 17 l=⟨eU l 0,eU l 2,0,8,eU l 4⟩:=by unfold qp;rw[if_neg (by decide)]
  have e1:¬l.a<(if(17:Int)=6 then 20 else 8):=by rw[if_neg (by decide)];exact h
  split
  ·rename_i h2;exact uJ (by unfold uZ;rw[if_neg (by simp),if_neg e1,if_pos (.b (by rw[hg];simp only;omega))]) (by decide)
  ·rename_i h2
   have e2:¬(((17:Int)=6/\(qp 17 l).head<20)\/(qp 17 l).dz<8):=by rw[hg];simp only;omega
   split
   ·rename_i h3;exact uJ (by unfold uZ;rw[if_neg (by simp),if_neg e1,if_neg e2,if_pos (by rw[hg];simp only;omega)]) (by decide)
   ·rename_i h3
    have:=VT (p:=17) (l:=l) (by unfold uZ;rw[if_neg (by simp),if_neg e1,if_neg e2,if_neg (by rw[hg];simp only;omega)]);rw[this,hg]
theorem Wh(W:ak)(A:Option aS)(n c B:Nat)(l:List UInt8)(k:Nat)(i:Int)(hi:i=k)(hk:k+1<n)(hnn:n<=1000000000)(hr:gq W B A n l):aQ ah 299 #[.a A n c,.b .a i] W fun e W'=>e=.a (.b .a (eU l k:Nat))/\∃q,W'=W.drewN q:=by subst hi;exact af8 W A n c B l k hk hnn hr
theorem adS(W:ak)(p:Int)(A:Option aS)(n c:Nat)(l:List UInt8)(hc:n<=1000000000)(hr:gq W W.a.j A n l):aQ ah 227 #[.b .a p,.a A n c] W (PtP W (Je p l)):=by
 have HR:=ab hr;have hl:=ab hr.len;have b0:=ab ((Bx.start W).new qI.ay 172);clear hr;go_enter Tryz.func227,Tryz.ntmps227;by_cases p6:p=6
 ·subst p6
  have HP:=ab (asi l);rw[hl.i]at HP;by_cases h20:n<20
  ·have q:(n:Int)<20:=by omega
   go_wp2;refine aN (Tw.qB rfl _ rfl b0.i.X (Pt.G _)) rfl ?_;rw[HP.i,if_pos h20];exact⟨rfl,b0.i.R⟩
  have q:¬(n:Int)<20:=by omega
  obtain⟨a,rfl,hab⟩:=HR.i.ahP (show 0<n by omega);have c12:=(b0.i.NA HR.i).VW 11 (by omega);have i12:12<n:=by omega
  obtain⟨k,hk⟩:∃k:Nat,k=nO l 12/16*4:=⟨_,rfl⟩
  have hkk:4*((nO l 12:Int)/16)=(k:Int):=by omega
  have hkl:k<100:=by have:=uY l 12;omega
  have w13:4*((nO l 12:Int)/16%256)=(k:Int):=by have:=uY l 12;omega
  rw[<-hk]at HP;clear hk hkk;by_cases h2:k<20
  ·have q2:(k:Int)<20:=by omega
   go_wp2;refine aN (Tw.qB rfl _ rfl b0.i.X (Pt.G _)) rfl ?_;rw[HP.i,if_neg h20,if_pos h2];exact⟨rfl,b0.i.R⟩
  have q2:¬(k:Int)<20:=by omega
  by_cases h3:n<k
  ·have q3:(n:Int)<k:=by omega
   go_wp2;refine aN (Tw.qB rfl _ rfl b0.i.X (Pt.G _)) rfl ?_;rw[HP.i,if_neg h20,if_neg h2,if_pos h3];exact⟨rfl,b0.i.R⟩
  have q3:¬(n:Int)<k:=by omega
  have i13:13<n:=by omega
  obtain⟨g,hg⟩:∃g:Nat,g=nO l 13%64:=⟨_,rfl⟩
  have hgg:(nO l 13:Int)%64=(g:Int):=by omega
  have w14:(nO l 13:Int)%64%256=(g:Int):=by omega
  have w15:(nO l 13:Int)%64=(g:Int):=by omega
  rw[<-hg]at HP;clear hg hgg;go_upto_region 9 with fail
  generalize W.alloc (.D qI.ay 172)=w1 at b0 ⊢;obtain⟨T,f,n0,E0,es,ew⟩:=IB (Bx ([(W.a.j,qI.ay)]) W) (w1) (b0.i.drew);have hT:Nonempty T:=⟨n0⟩
  have ES:=ab es;have EW:=ab ew;clear es ew;have RF:=ab (fun m=>(ES.i m).NA HR.i);have k13:∀m,(f m).b ⟨a.block,a.off+13,none⟩=some (.b .b (nO l 13)):=fun m=>(RF.i m).VW 12 (by omega)
  have C0:=ab (fun m=>Wh (f m) (some a) n c _ l 0 0 rfl (by omega) hc (RF.i m));have C2:=ab (fun m=>Wh (f m) (some a) n c _ l 2 2 rfl (by omega) hc (RF.i m));refine UN f 13 (by kernel_rfl) (by kernel_rfl) n0 E0 ?_;simp only[jM,jX,jN,kX]
  repeat(go_big_quiet_step ((first|(go_at_call 299;(with_reducible refine(C0.i _).g ?_);rintro e w2 ⟨rfl,q,rfl⟩;exact⟨rfl,EW.i _ ((ES.i _).drewN q)⟩)|(go_at_call 299;(with_reducible refine(C2.i _).g ?_);rintro e w2 ⟨rfl,q,rfl⟩;exact⟨rfl,EW.i _ ((ES.i _).drewN q)⟩))))
  refine gK ?_;rintro _ ⟨m',rfl⟩;have ZT:=ab (ES.i m');clear ES EW C0 C2 E0 RF k13;generalize f m'=w8 at *;clear hT n0;have yK:=ZT.i.X.O 0 5 (aW (Pt.G qI).symm);have Z2:=ab (ZT.i.put (fun p hp=>by cases hp) (Pt.mk (eU l 0) (eU l 2) g k n).ay (by rw[Pt.G,Pt.G]));go_step;go_simp;go_step;go_step;go_wp2;refine aN (Tw.qB rfl _ rfl Z2.i.X (Pt.G _)) rfl ?_;rw[HP.i,if_neg h20,if_neg h2,if_neg h3];exact⟨rfl,Z2.i.R⟩
 have q6:(p==6)=false:=by simp[p6]
 by_cases p17:¬p=17
 ·have q17:(p != 17)=true:=by simp[p17]
  go_wp2;refine aN (Tw.qB rfl _ rfl b0.i.X (Pt.G _)) rfl ?_;rw[aqi p6 p17];exact⟨rfl,b0.i.R⟩
 obtain rfl:p=17:=by simpa using p17
 have HP:=ab (amT l);rw[hl.i]at HP;by_cases h20:n<8
 ·have q:(n:Int)<8:=by omega
  go_wp2;refine aN (Tw.qB rfl _ rfl b0.i.X (Pt.G _)) rfl ?_;rw[HP.i,if_pos h20];exact⟨rfl,b0.i.R⟩
 have q:¬(n:Int)<8:=by omega
 have CT:=ab (fun(w:ak) (h:Bx [(W.a.j,qI.ay)] W w) (k:Nat) (i:Int) (hi:i=k) (hk:k<6)=>Wh w A n c _ l k i hi (by omega) hc (h.NA HR.i));have C4:=ab (fun w h=>CT.i w h 4 4 rfl (by omega));have C0:=ab (fun w h=>CT.i w h 0 0 rfl (by omega));have C2:=ab (fun w h=>CT.i w h 2 2 rfl (by omega));obtain⟨t,ht⟩:=dw (eU l 4);rw[<-ht]at C4 HP;clear ht;generalize hw1:W.alloc (.D qI.ay 172)=w1 at b0 ⊢;have b1:=ab (fun q=>b0.i.drewN q);by_cases h2:t<8
 ·have q2:(t:Int)<8:=by omega
  go_wp2_with (go_at_call 299;(with_reducible refine(C4.i _ b0.i).g ?_);rintro e w2 ⟨rfl,q,rfl⟩;have yK:=(b1.i q).X.O 0 5 (aW (Pt.G qI).symm);have Z2:=ab ((b1.i q).put (fun p hp=>by cases hp) qI.ay rfl));refine aN (Tw.qB rfl _ rfl Z2.i.X (Pt.G _)) rfl ?_;rw[HP.i,if_neg h20,if_pos h2];exact⟨rfl,Z2.i.R⟩
 have q2:¬(t:Int)<8:=by omega
 have TH:=ab (fun q=>((b1.i q).X.O 0 5 (aW (Pt.G qI).symm):(w1.drewN q).O W.a.j 0 5));have PU:=ab (fun q (x:Pt)=>(b1.i q).put (fun p hp=>by cases hp) x.ay (by rw[Pt.G,Pt.G]));by_cases h3:n<t
 ·have q3:(n:Int)<t:=by omega
  go_upto_region 17 with(first|(go_at_call 299;(with_reducible refine(C4.i _ b0.i).g ?_);rintro e w2 ⟨rfl,qq,rfl⟩)|(go_at_call 299;(with_reducible refine(C4.i _ (b1.i _)).g ?_);rintro e w2 ⟨rfl,qq,rfl⟩)|(go_at_call 299;(with_reducible refine(C0.i _ b0.i).g ?_);rintro e w2 ⟨rfl,qq,rfl⟩)|(go_at_call 299;(with_reducible refine(C0.i _ (b1.i _)).g ?_);rintro e w2 ⟨rfl,qq,rfl⟩)|(go_at_call 299;(with_reducible refine(C2.i _ b0.i).g ?_);rintro e w2 ⟨rfl,qq,rfl⟩)|(go_at_call 299;(with_reducible refine(C2.i _ (b1.i _)).g ?_);rintro e w2 ⟨rfl,qq,rfl⟩))
  have th2:=TH.i;go_wp2;refine aN (Tw.qB rfl _ rfl (PU.i _ qI).X (Pt.G _)) rfl ?_;rw[HP.i,if_neg h20,if_neg h2,if_pos h3];exact⟨rfl,(PU.i _ qI).R⟩
 have q3:¬(n:Int)<t:=by omega
 have th2:=TH.i;go_wp2_with (first|(go_at_call 299;(with_reducible refine(C4.i _ b0.i).g ?_);rintro e w2 ⟨rfl,qq,rfl⟩)|(go_at_call 299;(with_reducible refine(C4.i _ (b1.i _)).g ?_);rintro e w2 ⟨rfl,qq,rfl⟩)|(go_at_call 299;(with_reducible refine(C0.i _ b0.i).g ?_);rintro e w2 ⟨rfl,qq,rfl⟩)|(go_at_call 299;(with_reducible refine(C0.i _ (b1.i _)).g ?_);rintro e w2 ⟨rfl,qq,rfl⟩)|(go_at_call 299;(with_reducible refine(C2.i _ b0.i).g ?_);rintro e w2 ⟨rfl,qq,rfl⟩)|(go_at_call 299;(with_reducible refine(C2.i _ (b1.i _)).g ?_);rintro e w2 ⟨rfl,qq,rfl⟩));refine aN (Tw.qB rfl _ rfl (PU.i _ (Pt.mk (eU l 0) (eU l 2) 0 8 t)).X (Pt.G _)) rfl ?_;rw[HP.i,if_neg h20,if_neg h2,if_neg h3];exact⟨rfl,(PU.i _ _).R⟩
end
section
attribute [local go_sem high] iT jF
end
section
attribute [local go_sem high] iT jF
end
section
attribute [local go_sem high] iT jF
end
section
attribute [local go_sem high] iT jF
def PkP(W:ak)(x:Pk)(e:lq)(W':ak):Prop:=e=.a (.d x.ay)/\aL W.a.j W W'
theorem PX{W w:ak}{c:Array aB}(tmps:Array aB)(k:Int)(ht:tmps.b 2 undef=.c (some ⟨W.a.j,0,none⟩))(hb:dJ w W.a.j c)(hc:c.j=42)(hl:aL W.a.j W w):
 bodyPostD ah Tryz.f32 (PkP W (xM k)) (Exit.panic [{v:=adP k,recovered:=false}]) {tmps:=tmps,defers:=[{target:=Target.fn (Fn.func 90) #[su (some ⟨W.a.j,0,none⟩)],args:=#[]}]} w:=by
 refine leaves_cons (f:=90) (args:=#[.c (some ⟨W.a.j,0,none⟩)]) (by simp) (by simp[go_sem]) ?_;have hr:=kPk.zh (fn:=Tryz.f32) (p:=2) (by kernel_rfl) tmps ht (hb.put (xM k).ay (by rw[Pk.G,hc])) (Pk.G _);have hb2:=kR hl W.a.j 0 (xM k).ay (av _);have hq:=Si W.a.j k [] w (hb.O 0 42 (by omega));generalize gI w W.a.j 0 (xM k).ay=w2 at *;refine hq.g ?_;rintro e u' w'' ⟨he,hu,hw⟩;rw[he,hu,hw];exact⟨_,hr,rfl,hb2⟩
theorem aut{W w:ak}(tmps:Array aB)(x:Pk)(ht:tmps.b 2 undef=.c (some ⟨W.a.j,0,none⟩))(hb:dJ w W.a.j x.ay)(hl:aL W.a.j W w):
 bodyPostD ah Tryz.f32 (PkP W x) Exit.ret {tmps:=tmps,defers:=[{target:=Target.fn (Fn.func 90) #[su (some ⟨W.a.j,0,none⟩)],args:=#[]}]} w:=by
 have hr:=kPk.zh (fn:=Tryz.f32) (p:=2) (by kernel_rfl) tmps ht hb (Pk.G _);refine leaves_cons (f:=90) (args:=#[.c (some ⟨W.a.j,0,none⟩)]) (by simp) (by simp[go_sem]) ?_;refine(agi W.a.j w).g ?_;rintro e u' w'' ⟨rfl,rfl,rfl⟩;exact⟨_,hr,rfl,hl⟩
theorem Cb(W:ak)(A:Option aS)(n c:Nat)(l:List UInt8)(hnc:n<=c)(hc:c<=9223372036854775807/\n<=1000000000)(hr:gq W W.a.j A n l):aQ ah 32 #[.a A n c] W (PkP W (qV l)):=by
 have HR:=ab hr;have hl:=ab hr.len;have b0:=ab ((Bx.start W).new Ns.ay 83);have CL:=ab (NG _ A n c l hnc hc (b0.i.NA hr));clear hr;have hmf:∀(fn:Fn)(first cap:Array aB)(w:ak),(Instr.makeFunc fn first cap).I ah w=.ok (.func fn first cap) w:=fun _ _ _ _=>rfl
 have NO:=ab aqh;have OK:=ab aqg;go_enter_defers Tryz.func32,Tryz.ntmps32;obtain⟨r,hrr⟩:=dw (mq l);have HRR:=ab hrr;obtain⟨k,er⟩:=r;unfold LkP at CL;rw[<-hrr]at CL;clear hrr;by_cases h1:er≠0
 ·have q:(er==0)=false:=by simp[h1]
  have H:=ab (show qV l=xM 1 by unfold qV;rw[<-HRR.i,if_pos h1]);go_wp2_with (first|(go_at_call 91;with_reducible refine CL.i.g ?_;rintro e w1 ⟨TA,tc,rfl,_,hb1⟩;have Z1:=ab ((b0.i.go hb1).new (k.cell TA tc).ay 108);clear hb1)|(go_at_call 92;with_reducible refine(NO.i 1 _).g ?_;rintro e w2 ⟨rfl,rfl⟩));rw[H.i];exact PX _ 1 rfl Z1.i.b1 (Pk.G _) Z1.i.R
 obtain rfl:er=0:=by simpa using h1
 obtain⟨wJ,adT⟩:=agf (l:=l) (by rw[<-HRR.i]);rw[<-HRR.i]at wJ adT;rw[hl.i]at adT;simp only at wJ adT;go_upto_region 4 with(first|(go_at_call 91;with_reducible refine CL.i.g ?_;rintro e w1 ⟨TA,tc,rfl,_,hb1⟩;have Z1:=ab ((b0.i.go hb1).new (k.cell TA tc).ay 108);have hy3:=(b0.i.go hb1).X.lt;clear hb1)|(go_at_call 92;with_reducible refine(OK.i 1 _).g ?_;rintro e w2 ⟨rfl,rfl⟩))
 generalize w1.alloc (.D (k.cell TA tc).ay 108)=w2 at Z1 ⊢;generalize w1.a.j=y3 at *;have F3:=ab (fun(L:List (Nat×Array aB)) (w:ak) (h:Bx ((y3,(k.cell TA tc).ay)::L) W w)=>show w.b ⟨y3,13,none⟩=some (.b .a k.oq)/\w.b ⟨y3,14,none⟩=some (.b .a (k.at_:Nat))from⟨(h.X.K.1 13).trans (Lc.DW _),(h.X.K.1 14).trans (Lc.LK _)⟩);obtain⟨f1,f2⟩:=F3.i _ _ Z1.i;by_cases hty:k.oq≠2048/\k.oq≠34525
 ·have q1:(k.oq==2048)=false:=by simp[hty.1]
  have q2:(k.oq==34525)=false:=by simp[hty.2]
  have H:=ab (show qV l=xM 2 by unfold qV;rw[<-HRR.i];rw[if_neg (by simp),if_pos hty]);go_wp2_with (go_at_call 92;with_reducible refine(NO.i 2 _).g ?_;rintro e w3 ⟨rfl,rfl⟩);rw[H.i];exact PX _ 2 rfl Z1.i.b1 (Pk.G _) Z1.i.R
 have HTY:=ab hty;go_cut []from 17 to 25 (fun wx=>wx=w2)
 case first=>
  by_cases q0:k.oq=2048
  ·have q1:(k.oq==2048)=true:=by simp[q0]
   go_wp2_with (go_at_call 92;with_reducible refine(OK.i 2 _).g ?_;rintro e w3 ⟨rfl,rfl⟩);go_meet
   case rel=>rfl
  ·have q1:(k.oq==2048)=false:=by simp[q0]
   have q2:(k.oq==34525)=true:=by simp;omega
   go_wp2_with (go_at_call 92;with_reducible refine(OK.i 2 _).g ?_;rintro e w3 ⟨rfl,rfl⟩);go_meet
   case rel=>rfl
 have hcut:=hcut;rw[hcut];clear hcut f1 f2;have wJ:=wJ;obtain⟨g,hg⟩:=dw (mO l);have HG:=ab hg;have HG2:=ab (show g=Zk k.oq (l.f k.at_)by rw[hg];unfold mO;rw[<-HRR.i]);clear hg;obtain⟨g,e2⟩:=g;have i1:(k.at_:Int)<=n:=by omega
 have CI:=ab (fun(w:ak) (h:Bx [(y3,(k.cell TA tc).ay),(W.a.j,Ns.ay)] W w)=>agh w k.oq (vL A k.at_ c 1) (n-k.at_) (c-k.at_) (l.f k.at_) (by omega) (by omega) ((h.NA HR.i).yJ (by omega) hnc));rw[<-HG2.i]at CI;go_upto_region 5 with fail
 refine xB (Bx.abt ([(y3,(k.cell TA tc).ay),(W.a.j,Ns.ay)]) W) 10 11 9 5 35 168 abh.ay (by kernel_rfl) rfl rfl rfl rfl rfl (by kernel_rfl) (by kernel_rfl) (by kernel_rfl) (by kernel_rfl) (by kernel_rfl) rfl rfl rfl (fun a w=>by simp[go_sem]) (tO rfl) Z1.i.drew ?_;apply Exists.intro;refine⟨fun T f hT es ew=>?_,?_⟩
 ·have EW:=ab ew
  have ES:=ab es;have k1:=fun m=>(F3.i _ _ (ES.i m)).1
  have k2:=fun m=>(F3.i _ _ (ES.i m)).2
  have CF:=ab (fun m=>CI.i _ (ES.i m));clear es ew;simp only[mK,yu,kW,bG,bP,jM,jX]
  repeat(go_big_quiet_step ((first|(go_at_call 93;(with_reducible refine(CF.i _).g ?_);rintro e w2 ⟨rfl,hb⟩;exact⟨rfl,EW.i _ _ hb⟩))))
  exact gK rfl
 ·intro w9 w8 zO _ hb
  have ZN:=ab ((zO.new abh.ay 168).go hb);have hyy:=ab zO;have hy:=zO.R.j;have hyv:=ab (fun p (hp:p∈[(y3,(k.cell TA tc).ay),(W.a.j,Ns.ay)])=>((zO.2 p hp).2.lt:p.1<w9.a.j));generalize w9.a.j=y at *;clear hb zO;have yK:=ZN.i.X.O 0 38 (aW (Nt.G abh).symm);refine⟨gI w8 y 0 g.ay,?_,?_⟩
  ·simp[go_sem,yK]
  simp only[lI,bH,bG,bP,jN,kX];have Z2:=ab (ZN.i.put (fun p hp=>jJ (hyv.i p hp)) g.ay (by rw[Nt.G,Nt.G]));clear yK ZN hyy hyv;generalize gI w8 y 0 g.ay=w3 at Z2 ⊢;go_step;go_step;go_step;obtain⟨y1,y2,y3',y4⟩:=Z2.i.X.K;have HP:=ab (show qV l=(if e2≠0 then xM 3 else if g.oG=true then xM 4 else if g.aP≠6/\g.aP≠17 then xM 5 else if(Je g.aP ((l.d (k.at_+g.dz.e)).f (k.at_+g.head.e))).2≠0 then xM 6
   else⟨0,⟨g.h,g.Y,g.aP,(Je g.aP ((l.d (k.at_+g.dz.e)).f (k.at_+g.head.e))).1.kV,(Je g.aP ((l.d (k.at_+g.dz.e)).f (k.at_+g.head.e))).1.jR⟩,(Je g.aP ((l.d (k.at_+g.dz.e)).f (k.at_+g.head.e))).1.uX,k.at_,k.at_+g.head,k.at_+g.dz⟩)by
   unfold qV LV;rw[<-HRR.i,<-HG.i,if_neg (by simp),if_neg HTY.i])
  by_cases h2:e2≠0
  ·have q:(e2==0)=false:=by simp[h2]
   go_wp2_with (go_at_call 92;(with_reducible refine(NO.i 3 _).g ?_);rintro e w4 ⟨rfl,rfl⟩);rw[HP.i,if_pos h2];exact PX _ 3 rfl Z2.i.b2 (Pk.G _) Z2.i.R
  obtain rfl:e2=0:=by simpa using h2
  cases hf:g.oG
  case true=>
   go_wp2_with (first|(go_at_call 92;(with_reducible refine(OK.i 3 _).g ?_);rintro e w4 ⟨rfl,rfl⟩)|(go_at_call 92;(with_reducible refine(NO.i 4 _).g ?_);rintro e w4 ⟨rfl,rfl⟩));rw[HP.i,if_neg h2,if_pos hf];exact PX _ 4 rfl Z2.i.b2 (Pk.G _) Z2.i.R
  case false=>
   have CC:=ab (adO g.aP w3);by_cases hp:g.aP≠6/\g.aP≠17
   ·rw[show(decide (g.aP=6)||decide (g.aP=17))=false by simp[hp.1,hp.2]]at CC
    go_wp2_with (first|(go_at_call 92;(with_reducible refine(OK.i 3 _).g ?_);rintro e w4 ⟨rfl,rfl⟩)|(go_at_call 92;(with_reducible refine(OK.i 4 _).g ?_);rintro e w4 ⟨rfl,rfl⟩)|(go_at_call 94;(with_reducible refine CC.i.g ?_);rintro e w4 ⟨rfl,rfl⟩)|(go_at_call 92;(with_reducible refine(NO.i 5 _).g ?_);rintro e w4 ⟨rfl,rfl⟩));rw[HP.i,if_neg h2,if_neg (by rw[hf];simp),if_pos hp];exact PX _ 5 rfl Z2.i.b2 (Pk.G _) Z2.i.R
   rw[show(decide (g.aP=6)||decide (g.aP=17))=true by simp;omega]at CC;obtain⟨g1,g2,g3⟩:=amQ (k:=k.oq) (l:=l.f k.at_) (by rw[<-HG2.i]);rw[<-HG2.i,jA,hl.i]at g3;rw[<-HG2.i]at g1 g2;simp only at g1 g2 g3;obtain⟨a1,ha1⟩:∃a1:Nat,(k.at_:Int)+g.head=a1:=⟨k.at_+g.head.e,by omega⟩
   obtain⟨b1,hb1⟩:∃b1:Nat,(k.at_:Int)+g.dz=b1:=⟨k.at_+g.dz.e,by omega⟩
   have e1:k.at_+g.head.e=a1:=by omega
   have e1':k.at_+g.dz.e=b1:=by omega
   have hab:a1<=b1/\b1<=n:=by omega
   rw[e1,e1',ha1,hb1]at HP;have hw1:bU.wrap ((k.at_:Int)+g.head)=(a1:Int):=by rw[ha1];exact jS _ (by omega)
   have hw2:bU.wrap ((k.at_:Int)+g.dz)=(b1:Int):=by rw[hb1];exact jS _ (by omega)
   obtain⟨j1,j2⟩:(a1:Int)<=b1/\(b1:Int)<=c:=by omega
   have j0:(0:Int)<=a1:=by omega
   have CP:=ab (fun(w:ak) (h:Bx [(y,g.ay),(y3,(k.cell TA tc).ay),(W.a.j,Ns.ay)] W w)=>abq w g.aP (vL A a1 c 1) (b1-a1) (c-a1) ((l.d b1).f a1) (by omega) (by omega) ((h.NA HR.i).adK hab.1 hab.2 hnc));unfold PtP at CP;obtain⟨pr,hpr⟩:=dw (Je g.aP ((l.d b1).f a1));obtain⟨pt,e3⟩:=pr;rw[<-hpr]at CP HP;clear hpr ha1 hb1 e1 e1' g1 g2 g3 hab;have F5:=ab (fun(w:ak) (h:Bx [(y,g.ay),(y3,(k.cell TA tc).ay),(W.a.j,Ns.ay)] W w)=>show w.b ⟨y,0,none⟩=some (.b .a g.head)/\w.b ⟨y,1,none⟩=some (.b .a g.dz)/\w.b ⟨y,2,none⟩=some (.b .a g.aP)from⟨(h.X.K.1 0).trans (Nt.J4 _),(h.X.K.1 1).trans (Nt.yj _),(h.X.K.1 2).trans (Nt.BR _)⟩);go_upto_region 9 with(first|(go_at_call 92;(with_reducible refine(OK.i 3 _).g ?_);rintro e w4 ⟨rfl,rfl⟩)|(go_at_call 92;(with_reducible refine(OK.i 4 _).g ?_);rintro e w4 ⟨rfl,rfl⟩)|(go_at_call 94;(with_reducible refine CC.i.g ?_);rintro e w4 ⟨rfl,rfl⟩)|(go_at_call 92;(with_reducible refine(OK.i 5 _).g ?_);rintro e w4 ⟨rfl,rfl⟩))
   clear y1 y2 y3' y4;refine xB (Bx.abt ([(y,g.ay),(y3,(k.cell TA tc).ay),(W.a.j,Ns.ay)]) W) 18 19 17 6 64 172 qI.ay (by kernel_rfl) rfl rfl rfl rfl rfl (by kernel_rfl) (by kernel_rfl) (by kernel_rfl) (by kernel_rfl) (by kernel_rfl) rfl rfl rfl (fun a w=>by simp[go_sem]) (tO rfl) Z2.i.drew ?_;apply Exists.intro;refine⟨fun T f hT es ew=>?_,?_⟩
   ·have EW:=ab ew
    have ES:=ab es;have k1:=fun m=>(F5.i _ (ES.i m)).1
    have k2:=fun m=>(F5.i _ (ES.i m)).2.1
    have k3:=fun m=>(F5.i _ (ES.i m)).2.2
    have k4:=fun m=>(F3.i _ _ (ES.i m).swap).2
    have CF:=ab (fun m=>CP.i _ (ES.i m));clear es ew;simp only[mK,yu,kW,bG,bP,jM,jX]
    repeat(go_big_quiet_step ((first|(go_at_call 95;(with_reducible refine(CF.i _).g ?_);rintro e w2 ⟨rfl,hb⟩;exact⟨rfl,EW.i _ _ hb⟩))))
    exact gK rfl
   ·intro w9 w8 zO _ hb
    have ZN:=ab ((zO.new qI.ay 172).go hb);have hyy:=ab zO;have hy:=zO.R.j;have hyv:=ab (fun p (hp:p∈[(y,g.ay),(y3,(k.cell TA tc).ay),(W.a.j,Ns.ay)])=>((zO.2 p hp).2.lt:p.1<w9.a.j));generalize w9.a.j=z at *;clear hb zO;have yK:=ZN.i.X.O 0 5 (aW (Pt.G qI).symm);refine⟨gI w8 z 0 pt.ay,?_,?_⟩
    ·simp[go_sem,yK]
    simp only[lI,bH,bG,bP,jN,kX];have Z4:=ab (ZN.i.put (fun p hp=>jJ (hyv.i p hp)) pt.ay (by rw[Pt.G,Pt.G]));clear yK ZN hyy hyv;generalize gI w8 z 0 pt.ay=w4 at Z4 ⊢;go_step;go_step;go_step;obtain⟨u1,u2,u3,u4⟩:=Z4.i.X.K;by_cases h4:e3≠0
    ·have q:(e3==0)=false:=by simp[h4]
     go_wp2_with (go_at_call 92;(with_reducible refine(NO.i 6 _).g ?_);rintro e w4 ⟨rfl,rfl⟩);rw[HP.i,if_neg h2,if_neg (by rw[hf];simp),if_neg hp,if_pos h4];exact PX _ 6 rfl Z4.i.b3 (Pk.G _) Z4.i.R
    obtain rfl:e3=0:=by simpa using h4
    obtain⟨v1,v2,v3,v4⟩:=Z4.i.b1.K;have Z5:=ab (Z4.i.new (Tu.mk g.h g.Y g.aP pt.kV pt.jR).ay 81);go_upto_region 12 with(go_at_call 92;(with_reducible refine(OK.i 6 _).g ?_);rintro e w4 ⟨rfl,rfl⟩)
    clear u1 u2 u3 u4 v1 v2 v3 v4;generalize w4.alloc (.D (Tu.mk g.h g.Y g.aP pt.kV pt.jR).ay 81)=w5 at Z5 ⊢;generalize w4.a.j=x5 at *;have Zw:=ab (Z5.i.sub (L':=[(W.a.j,Ns.ay)]) (by simp));obtain⟨c1,c2⟩:=F3.i _ _ (Z5.i.sub (L':=[(y3,(k.cell TA tc).ay)]) (by simp));obtain⟨d1,d2,d3⟩:=F5.i _ (Z5.i.sub (by simp));obtain⟨m1,m2,m3,m4⟩:=Z5.i.X.K;have pz:=(Z5.i.b1.K.1 2).trans (Pt.Nr _);have thw:=Zw.i.X.O 0 42 (aW (Pk.G Ns).symm);have Z6:=ab (Zw.i.put (fun p hp=>by cases hp) (Pk.mk 0 (Tu.mk g.h g.Y g.aP pt.kV pt.jR) pt.uX k.at_ a1 b1).ay (by rw[Pk.G,Pk.G]));go_wp2;rw[HP.i,if_neg h2,if_neg (by rw[hf];simp),if_neg hp,if_neg h4];exact aut _ _ rfl Z6.i.X Z6.i.R
end
section
attribute [local go_sem high] iT jF
end
section
open Go.ChangeShapes Go.WideShapes Go.ChangeAt Go.RowKit Go.Deep
section
variable {H:Type} {enc:bM×aB->H} {w:ak} {base:Nat} {spare:Nat->Bool} {held:Bool} {fuel:Nat} {cs:List aB} {x:DataW H×List MemPlace}
theorem ajG{P:eG}{k:Nat}{t e:bM}(ht:P.k t=some (.array k e))(he:P.k e=some (.b .a))(hc:P.cellsOf e=1)(hk:P.cellsOf t=k)(h:DataW.trod enc P w base spare held fuel t cs=some x):∃v:Vector Int k,cs=v.a.map (aI .a):=by
 obtain⟨xs,m,_,_,hl,hxl,hf⟩:=DataW.trod_array ht h;rw[hk]at hl;have hg:∀i,i<k->∃b:Int,cs[i]? = some (.b .a b):=fun i hi=>by
  have h1:=hf i hi;rw[hc,gB,aC (by omega)]at h1;obtain⟨b,hb,_,_⟩:=sG he h1;refine⟨b,?_⟩;rw[take1_drop cs i undef (by omega)]at hb;simp only[List.cons.injEq,and_true]at hb;rw[aC (by omega),<-hb,au,aC (by omega)];rfl
 obtain⟨f,hf⟩:∃f:Nat->Int,∀i,i<k->cs[i]? = some (.b .a (f i)):=by
  refine⟨fun i=>if hi:i<k then(hg i hi).choose else 0,fun i hi=>?_⟩;simp only[hi,dif_pos];exact(hg i hi).choose_spec
 refine⟨Vector.ofFn fun i:Fin k=>f i,?_⟩;apply iJ;intro i;rcases aZ i k with hi|hi
 ·rw[hf i hi]
  simp[hi]
 ·rw[aT (by omega),aT (by simpa using hi)]
end
@[go_sem]theorem auu(w:ak):(BJ 0 #[]).I ah w=.ok (.a (some ⟨w.a.j,0,none⟩) 0 0) (w.alloc (.D #[] 5)):=by
 obtain⟨i0,hi0,hz0,hz1,hz2⟩:=zA;simp[BJ,bI,dL dx,zeroValue,sizeOf,typeInfo,hi0,hz0,hz1,fB,newRow,cO,show lU 0 = #[]by apply oQ;rw[j3];rfl]
theorem gq.go{W w1:ak}{n:Nat}{A:Option aS}{l:List UInt8}(h:gq W W.a.j A n l)(hb:aL W.a.j W w1):gq w1 w1.a.j A n l:=(h.to hb (av _)).lD hb.j
end
@[go_sem]theorem auv(w:ak)(a b:Int):(BJ 2 #[(0,.b .b a),(1,.b .b b)]).I ah w=.ok (.a (some ⟨w.a.j,0,none⟩) 2 2) (w.alloc (.D #[.b .b a,.b .b b] 5)):=by
 obtain⟨i0,hi0,hz0,hz1,hz2⟩:=zA;simp[BJ,bI,dL dx,zeroValue,sizeOf,typeInfo,hi0,hz0,hz1,fB,newRow,cO,afW]
theorem Wi(w:ak)(c:Array aB)(l:List UInt8)(h:c.a=l.map bv):gq (w.alloc (.D c 5)) (w.a.j+1) (some ⟨w.a.j,0,none⟩) l.a l:=by
 refine⟨by simp,fun _=>⟨_,rfl,by simp,fun j u hu=>?_⟩⟩;rw[iC,bl];have:=mQ w c 5 j;rw[this,<-hu,<-h];simp
theorem xO(l:List UInt8)(i:Nat)(h:i<l.a):l.d (i+1)=l.d i++[l.b i 0]:=by
 rw[List.take_add_one,aC h,au,aC h];rfl
end Go.Proofs.YtkjojjopamaoiaaGreat
