/- Parts. -/
import Derived.Test.YtkjojjopamaoiaaGreatSc3
import Derived.Test.YtkjojjopamaoiaaGreatSc2
import Derived.Deep.RegionHeldLaw
import Derived.Shelf.SlIter.Sorted
set_option linter.unusedSimpArgs false
set_option linter.unusedVariables false
set_option linter.unusedSectionVars false
set_option maxRecDepth 100000
set_option maxHeartbeats 8000000
open Array renaming getElem?_setIfInBounds->dS,mapM->iI,getElem?_append->aD,ext_getElem?->dZ,getElem?_eq_none->aW,size_extract->jA,size_append->oJ,range->mK,ext'->pU,toList_range->kF,append_assoc->gD,extract_append->bZ,setIfInBounds_append->aL,setIfInBounds_eq_of_size_le->jX,replicate->nU,size->Array.j,toList->Array.a,getD->Array.b,setIfInBounds->Array.c,extract->Array.m
open BitVec renaming ofInt->gI,ofInt_natCast->mI,toNat_ofNat->nW,toNat_and->Gs,toNat->BitVec.e
open Bool renaming false_eq_true->fM,and_eq_true->bf,eq_iff_iff->dG,or_eq_true->kR
open ByteArray renaming size->ByteArray.j,extract->ByteArray.m
open Go renaming Value->aB,Sem->yA,World->ak,Field->oz,run_storeAt_new->Ad,run_storeAt_mid->ER,TypeInfo->oh,Calls->aR,Addr->aV,Program->fB,Oper->ji,Act->rO,Exit->Bn,Operand->ql,TypeId->bL,wpList_plain->uq,info_parts->DC,Ending->lJ,run_underlying->dK,run_equalIn_struct->wF,bodyPost_ret->aO,wpQuiet_nil->iw,getD_set_ne->yB,mem_ready->kN,yieldsIn_of_qOp->rH,getD_replicate_false->nH,wpS_seq->I6,wpS_region->DF,underlying->Go.k
open Go.Act renaming put->mE
open Go.Addr renaming add_mid->iL,add->rU
open Go.BoundsCode renaming toNat->Go.BoundsCode.e
open Go.Builtin renaming append_->By,firstCells->uM,zeroCells->oI,copy_->qZ
open Go.Calls renaming mono->Go.Calls.g
open Go.CallsD renaming mono->Go.CallsD.g
open Go.DataW renaming agg->Go.DataW.d
open Go.Ending renaming returned->uT,returned->Go.Ending.a
open Go.Field renaming name->Go.Field.F,type->Go.Field.p
open Go.FrameMode renaming run->Go.FrameMode.O
open Go.Instr renaming build->fU,loadAt->dw,storeAt->eY,buildSlice->bJ,fill->fJ,makeSlice->yM,typeAssert->Ib,slice->Go.Instr.a,extract->Go.Instr.m
open Go.IntKind renaming u64->jG,wrap_u64->jZ,u8->aX,wrap_u8->Iz,i64->bT,wrap->wP,bits->oH,signed->mH,i64->Go.IntKind.a,u8->Go.IntKind.b
open Go.Lib renaming hid->ab
open Go.Obj renaming cells->eX,cells->Go.Obj.D
open Go.Op renaming eqItems->KZ,equalIn->je,eqFields->vw,bytesLess->bU,slice->Go.Op.a,extract->Go.Op.m
open Go.Oper renaming wp->nV,upon->MV,type->Go.Oper.p
open Go.Program renaming fieldsOf->jr,underlying->Go.Program.k
open Go.Proofs.Tryz renaming prog->ah,underlying81->jN,underlying86->nM,underlying37->qM,underlying35->Gi,underlying56->dD,underlying3->fI,underlying70->oP,underlying276->Em,underlying27->fG,underlying98->tu,underlying29->nO,underlying192->pX,underlying189->pY,underlying172->qc,underlying168->Eo,underlying83->qN,underlying179->uU,underlying108->uV,underlying268->Ep,func251->DR,ntmps251->BJ,ntmps90->I5
open Go.Region renaming wanted->fK,seqB->lV,ready->gJ,lexTailB->yC,binds->ra
open Go.Result renaming andThen->iM,andThen_ok->gW
open Go.RowKit renaming Below->aM
open Go.RowKit.Below renaming refl->aG,size->Go.RowKit.Below.j,mono->Go.RowKit.Below.g,setCell->Go.RowKit.Below.I
open Go.RowKit.Hid renaming out->Go.RowKit.Hid.i
open Go.Sem renaming run->Go.Sem.O
open Go.Shut renaming out->Go.Shut.i
open Go.Tables renaming info?->Go.Tables.l
open Go.TypeDesc renaming slice->Go.TypeDesc.a,int->Go.TypeDesc.b,pointer->Go.TypeDesc.c,tuple->Go.TypeDesc.K,bool->Go.TypeDesc.e,struct->Go.TypeDesc.d
open Go.TypeInfo renaming size->Go.TypeInfo.j
open Go.Value renaming oneCell'->dA,bool->bP,string->iK,agg->cO,int->aI,slice->bB,cells->dz,pointer->tJ,cells->Go.Value.D,slice->Go.Value.a,int->Go.Value.b,pointer->Go.Value.c,agg->Go.Value.d,tuple->Go.Value.K,bool->Go.Value.e,ownBlock->Go.Value.f,oneCell'->Go.Value.h
open Go.World renaming ownsRow_nil->fQ,heap->Go.World.a,cell?->Go.World.b,setCell->Go.World.I,ownsRow->Go.World.c,there->Go.World.S,grownBy->Go.World.d
open Go.World.grownBy renaming size->Go.World.grownBy.j
open Int renaming toNat->Int.e
open List renaming getElem?_toArray->eO,getD_eq_getElem?_getD->au,size_toArray->dN,length_nil->gU,take_append_drop->iQ,map_append->jC,length_append->aQ,length_map->bW,take_of_length_le->aK,flatMap_cons->iW,ext_getElem?->iC,getElem?_take_of_lt->iB,getElem?_eq_none->aT,append_assoc->bM,mem_cons->bD,mem_cons_of_mem->kr,range->eu,all_eq_true->gq,mem_range->fq,mem_iff_getElem->lC,pairwise_cons->gX,length_cons->bl,mem_filter->mY,replicate->dY,filter_eq_self->xY,map_take->BI,getElem?_map->jM,getElem?_eq_getElem->aC,mem_singleton->fO,take_succ_cons->jV,take_zero->kC,drop_succ_cons->jW,drop_zero->lN,getElem_mem->eZ,length_drop->fZ,getElem?_set->fu,getElem?_eq_some_iff->iN,filter_congr->Gj,eq_nil_iff_forall_not_mem->uJ,getElem?_drop->iY,set_cons_succ->bH,set_cons_zero->bQ,setIfInBounds_toArray->bI,length->List.a,take->List.E,getD->List.b,toArray->List.c,drop->List.G,flatMap->List.d,below->List.Y,extract->List.m
open List.Perm renaming length_eq->List.Perm.t
open Nat renaming le_refl->av,lt_or_ge->aZ,zero_add->bC,add_comm->vB,add_sub_cancel_left->cZ,mul_one->gP,le_trans->aP,lt_of_lt_of_le->fE,le_succ->MQ,lt_succ_self->nD,mod_eq_of_lt->gy,le_succ_of_le->qR,le_of_eq->aU,le_of_lt->nE,ne_of_lt->iO,ne_of_gt->tH,below->Nat.Y
open Ne renaming symm->jE
open Option renaming toList->Option.a,getD->Option.b
open Or renaming inr->Or.a,inl->Or.b
open UInt8 renaming toNat_inj->mR,ofNat->aJ,toNat->UInt8.e,toNat_lt->UInt8.a
open Vector renaming replicate->bG,ext->AB,toList->Vector.a
namespace Go.Proofs.YtkjojjopamaoiaaGreat
open Go.RowKit
theorem aaO(c:Array aB)(i j:Nat)(v:aB)(hi:i<c.j):(c.c i v)[j]? = if i=j then some v else c[j]?:=by
 rw[dS];split
 ·rename_i h;subst h;simp[hi]
 ·rfl
def ayd(ps:Array (Nat×aB)):yA aB:=fU 62 ps
@[go_sem ↓]theorem aBh(ps:Array (Nat×aB)):fU 62 ps=ayd ps:=rfl
theorem ajp(w:ak)(fs:Array oz)(h:ah.k 62=some (.d fs)):(iI (fun f=>Prod.mk f.offset <$> sizeOf f.p) fs:yA (Array (Nat×Nat))).O ah w=.ok #[(0,1),(1,17),(18,1),(19,6),(25,1),(26,1)] w:=by
 have e:=Tryz.underlying62;rw[h]at e;cases e;show _=_
 kernel_rfl
theorem amD:(ah.l 5).map (·.j)=some 1:=by kernel_rfl
theorem Ce(a b:Array aB)(k j:Nat)(ha:a.j=k):(a++b)[j]? = if j<k then a[j]? else b[j-k]?:=by
 rw[aD,ha]
def tuT(t:Tu):Array aB:=#[.b .a t.aN,.b .a t.kg,.b .a t.iG]
def Tu.ay(t:Tu):Array aB:=t.h.ay++(t.dst.ay++tuT t)
theorem Tu.J(t:Tu):t.ay.j=37:=by simp[Tu.ay,tuT,fD.J]
theorem Tu.NJ(t:Tu)(j:Nat)(hj:j<17):t.ay[j]? = t.h.ay[j]?:=by
 unfold Tu.ay;rw[Ce _ _ 17 _ (fD.J _),if_pos hj]
theorem Tu.LC(t:Tu)(j:Nat)(hj:j<17):t.ay[j+17]? = t.dst.ay[j]?:=by
 unfold Tu.ay;rw[Ce _ _ 17 _ (fD.J _),if_neg (by omega),Ce _ _ 17 _ (fD.J _),if_pos (by omega)];congr 1
theorem Tu.Di(t:Tu)(j:Nat)(hj:j<3):t.ay[j+34]? = (tuT t)[j]?:=by
 unfold Tu.ay;rw[Ce _ _ 17 _ (fD.J _),if_neg (by omega),Ce _ _ 17 _ (fD.J _),if_neg (by omega)];congr 1
@[go_sem]theorem Tu.qW(t:Tu):t.ay[0]? = some (.e t.h.h):=(Tu.NJ t 0 (by omega)).trans (fD.qW _)
@[go_sem]theorem Tu.at6(t:Tu):t.ay[17]? = some (.e t.dst.h):=(Tu.LC t 0 (by omega)).trans (fD.qW _)
@[go_sem]theorem Tu.Qc(t:Tu):t.ay[34]? = some (.b .a t.aN):=Tu.Di t 0 (by omega)
@[go_sem]theorem Tu.afN(t:Tu):t.ay[35]? = some (.b .a t.kg):=Tu.Di t 1 (by omega)
@[go_sem]theorem Tu.Qd(t:Tu):t.ay[36]? = some (.b .a t.iG):=Tu.Di t 2 (by omega)
theorem iy{a b:Array aB}(h1:a.all (·.h)=true)(h2:b.all (·.h)=true):(a++b).all (·.h)=true:=by
 rw[Array.all_append,h1,h2];rfl
theorem Tu.dx(t:Tu):t.ay.all (·.h)=true:=iy (fD.dx _) (iy (fD.dx _) (by simp[tuT,dA]))
theorem Tu.aaP{c:Array aB}{t:Tu}(hc:c.j=37)(h0:∀j,j<17->c[j]? = t.h.ay[j]?)(h1:∀j,j<17->c[j+17]? = t.dst.ay[j]?)(h2:∀j,j<3->c[j+34]? = (tuT t)[j]?):c=t.ay:=by
 apply dZ;intro j;rcases(show j<17\/(17<=j/\j<34)\/(34<=j/\j<37)\/37<=j by omega)with h|⟨h,h'⟩|⟨h,h'⟩|h
 ·rw[h0 j h,Tu.NJ t j h]
 ·obtain⟨i,rfl⟩:∃i,j=i+17:=⟨j-17,by omega⟩
  rw[h1 i (by omega),Tu.LC t i (by omega)]
 ·obtain⟨i,rfl⟩:∃i,j=i+34:=⟨j-34,by omega⟩
  rw[h2 i (by omega),Tu.Di t i (by omega)]
 ·rw[aW (by omega),aW (by rw[Tu.J];exact h)]
@[go_sem]theorem Tu.eU(x:Tu):eU x.ay=37:=Tu.J x
@[go_sem]theorem Tu.kG(x:Tu):x.ay.m 0 37=x.ay:=by
 have:=Tu.J x;rw[<-this];simp
def yh(v:aB):yA aB:=dw 81 v
def ahL(v x:aB):yA Unit:=eY 81 v x
@[go_sem ↓]theorem awM(v:aB):dw 81 v=yh v:=rfl
@[go_sem ↓]theorem at7(v x:aB):eY 81 v x=ahL v x:=rfl
@[go_sem]theorem TM(W:ak)(b o:Nat)(h:yE W b o 37):(yh (.c (some ⟨b,o,none⟩))).O ah W=.ok (.d (eH W b o 37)) W:=
 kH W b o 37 _ _ jN rfl (by kernel_rfl) h
@[go_sem]theorem ap4(W:ak)(c:Array aB)(x:Tu)(b:Nat)(hb:b=W.a.j)(hc:eU c=37):
 (ahL (.c (some ⟨b,0,none⟩)) (.d x.ay)).O ah (W.alloc (.D c 81))=.ok () (W.alloc (.D x.ay 81)):=by
 subst hb;exact Ad W _ c x.ay (by rw[Tu.J];kernel_rfl) (by rw[Tu.J];exact hc) (Tu.dx x)
def Tu.to0(t:Tu)(n:Int):Tu:={t with aN:=n}
def Tu.to1(t:Tu)(n:Int):Tu:={t with kg:=n}
def Tu.to2(t:Tu)(n:Int):Tu:={t with iG:=n}
theorem Tu.aye(t:Tu)(u:Int):t.ay.c 34 (.b .a u)=(t.to0 u).ay:=by
 refine Tu.aaP (by simp[Tu.J]) ?_ ?_ ?_<;>intro j hj<;>rw[aaO _ _ _ _ (by rw[Tu.J];omega)]
 ·rw[if_neg (by omega),Tu.NJ t j hj];rfl
 ·rw[if_neg (by omega),Tu.LC t j hj];rfl
 ·rcases(show j=0\/j=1\/j=2 by omega)with rfl|rfl|rfl
  ·rw[if_pos (by omega)];rfl
  ·rw[if_neg (by omega),Tu.Di t 1 (by omega)];rfl
  ·rw[if_neg (by omega),Tu.Di t 2 (by omega)];rfl
theorem Tu.ayf(t:Tu)(u:Int):t.ay.c 35 (.b .a u)=(t.to1 u).ay:=by
 refine Tu.aaP (by simp[Tu.J]) ?_ ?_ ?_<;>intro j hj<;>rw[aaO _ _ _ _ (by rw[Tu.J];omega)]
 ·rw[if_neg (by omega),Tu.NJ t j hj];rfl
 ·rw[if_neg (by omega),Tu.LC t j hj];rfl
 ·rcases(show j=0\/j=1\/j=2 by omega)with rfl|rfl|rfl
  ·rw[if_neg (by omega),Tu.Di t 0 (by omega)];rfl
  ·rw[if_pos (by omega)];rfl
  ·rw[if_neg (by omega),Tu.Di t 2 (by omega)];rfl
theorem Tu.asn(t:Tu)(u:Int):t.ay.c 36 (.b .a u)=(t.to2 u).ay:=by
 refine Tu.aaP (by simp[Tu.J]) ?_ ?_ ?_<;>intro j hj<;>rw[aaO _ _ _ _ (by rw[Tu.J];omega)]
 ·rw[if_neg (by omega),Tu.NJ t j hj];rfl
 ·rw[if_neg (by omega),Tu.LC t j hj];rfl
 ·rcases(show j=0\/j=1\/j=2 by omega)with rfl|rfl|rfl
  ·rw[if_neg (by omega),Tu.Di t 0 (by omega)];rfl
  ·rw[if_neg (by omega),Tu.Di t 1 (by omega)];rfl
  ·rw[if_pos (by omega)];rfl
def fwT(x:Fw):Array aB:=#[.string (bK x.F),.b .a x.yF,.b .a x.seen,.b .a x.no]
def Fw.ay(x:Fw):Array aB:=x.key.ay++fwT x
theorem Fw.J(x:Fw):x.ay.j=41:=by simp[Fw.ay,fwT,Tu.J]
theorem Fw.ayh(x:Fw)(j:Nat)(hj:j<37):x.ay[j]? = x.key.ay[j]?:=by
 unfold Fw.ay;rw[Ce _ _ 37 _ (Tu.J _),if_pos hj]
theorem Fw.Di(x:Fw)(j:Nat)(hj:j<4):x.ay[j+37]? = (fwT x)[j]?:=by
 unfold Fw.ay;rw[Ce _ _ 37 _ (Tu.J _),if_neg (by omega)];congr 1
@[go_sem]theorem Fw.afO(x:Fw):x.ay[37]? = some (.string (bK x.F)):=Fw.Di x 0 (by omega)
@[go_sem]theorem Fw.afP(x:Fw):x.ay[38]? = some (.b .a x.yF):=Fw.Di x 1 (by omega)
@[go_sem]theorem Fw.afQ(x:Fw):x.ay[39]? = some (.b .a x.seen):=Fw.Di x 2 (by omega)
@[go_sem]theorem Fw.aaQ(x:Fw):x.ay[40]? = some (.b .a x.no):=Fw.Di x 3 (by omega)
theorem Fw.dx(x:Fw):x.ay.all (·.h)=true:=iy (Tu.dx _) (by simp[fwT,dA])
@[go_sem]theorem Fw.eU(x:Fw):eU x.ay=41:=Fw.J x
@[go_sem]theorem Fw.kG(x:Fw):x.ay.m 0 41=x.ay:=by
 have:=Fw.J x;rw[<-this];simp
def Qe(v:aB):yA aB:=dw 86 v
def aaR(v x:aB):yA Unit:=eY 86 v x
@[go_sem ↓]theorem awN(v:aB):dw 86 v=Qe v:=rfl
@[go_sem ↓]theorem aua(v x:aB):eY 86 v x=aaR v x:=rfl
@[go_sem]theorem ahM(W:ak)(b o:Nat)(h:yE W b o 41):(Qe (.c (some ⟨b,o,none⟩))).O ah W=.ok (.d (eH W b o 41)) W:=
 kH W b o 41 _ _ nM rfl (by kernel_rfl) h
@[go_sem]theorem ap5(W:ak)(c:Array aB)(x:Fw)(b:Nat)(hb:b=W.a.j)(hc:eU c=41):
 (aaR (.c (some ⟨b,0,none⟩)) (.d x.ay)).O ah (W.alloc (.D c 86))=.ok () (W.alloc (.D x.ay 86)):=by
 subst hb;exact Ad W _ c x.ay (by rw[Fw.J];kernel_rfl) (by rw[Fw.J];exact hc) (Fw.dx x)
def BU(W:ak)(b o:Nat)(x:Fw):ak:=W.setCells b o x.ay.a
@[go_sem]theorem ayi(W:ak)(b o:Nat)(x:Fw)(h:W.S b o 41):(aaR (.c (some ⟨b,o,none⟩)) (.d x.ay)).O ah W=.ok () (BU W b o x):=
 ER W b o _ x.ay (by rw[Fw.J];exact h) (by rw[Fw.J];kernel_rfl) (Fw.dx x)
theorem afR:∃i:oh,ah.l 86=some i/\i.zero=some (.d lu.ay)/\i.j=41/\i.bytes<=400:=by
 cases h:ah.l 86 with
 | none=>exact absurd h (by have:(ah.l 86).isSome=true:=by kernel_rfl
                            intro e;rw[e]at this;cases this)
 | some i=>
   have h1:(ah.l 86).map (·.j)=some 41:=by kernel_rfl
   have h2:(ah.l 86).map (fun i=>decide (i.bytes<=400))=some true:=by kernel_rfl
   have h3:(ah.l 86).map (·.zero)=some (some (.d lu.ay)):=by kernel_rfl
   rw[h]at h1 h2 h3;simp at h1 h2 h3;exact⟨i,rfl,h3,h1,h2⟩
def aub(ps:Array (Nat×aB)):yA aB:=fU 86 ps
@[go_sem ↓]theorem aBi(ps:Array (Nat×aB)):fU 86 ps=aub ps:=rfl
def aso(n:Nat)(ps:Array (Nat×aB)):yA aB:=bJ 34 n ps
@[go_sem ↓]theorem ayj(n:Nat)(ps:Array (Nat×aB)):bJ 34 n ps=aso n ps:=rfl
@[go_sem]theorem awO(w:ak)(x:Fw):(aso 1 #[(0,.d x.ay)]).O ah w=.ok (.a (some ⟨w.a.j,0,none⟩) 1 1) (w.alloc (.D x.ay 86)):=by
 obtain⟨i0,hi0,hz0,hz1,hzb⟩:=afR;exact sM w _ _ i0 (.d lu.ay) 41 Tryz.underlying34 hi0 hz0 hz1 (Fw.J lu) (by omega) (by omega) x.ay (Fw.J x)
@[go_sem]theorem auc:eX #[bP false,aA,aA,aA,aA,aA,aA,aA,aA,aA,aA,aA,aA,aA,aA,aA,aA,bP false,aA,aA,aA,aA,aA,aA,aA,aA,aA,aA,aA,aA,aA,aA,aA,aA,bg,bg,bg] 81=eX afb.ay 81:=rfl
@[go_sem]theorem aud:eX #[bP false,aA,aA,aA,aA,aA,aA,aA,aA,aA,aA,aA,aA,aA,aA,aA,aA,bP false,aA,aA,aA,aA,aA,aA,aA,aA,aA,aA,aA,aA,aA,aA,aA,aA,bg,bg,bg,iK {data:=#[]},bg,bg,bg] 86=eX lu.ay 86:=rfl
@[go_sem]theorem ayk:cO #[bP false,aA,aA,aA,aA,aA,aA,aA,aA,aA,aA,aA,aA,aA,aA,aA,aA,bP false,aA,aA,aA,aA,aA,aA,aA,aA,aA,aA,aA,aA,aA,aA,aA,aA,bg,bg,bg]=cO afb.ay:=rfl
@[go_sem]theorem ayl:cO #[bP false,aA,aA,aA,aA,aA,aA,aA,aA,aA,aA,aA,aA,aA,aA,aA,aA,bP false,aA,aA,aA,aA,aA,aA,aA,aA,aA,aA,aA,aA,aA,aA,aA,aA,bg,bg,bg,iK {data:=#[]},bg,bg,bg]=cO lu.ay:=rfl
theorem qj{W:ak}{b:Nat}{t:Tu}(h:dP W b t.ay):(yh (.c (some ⟨b,0,none⟩))).O ah W=.ok (.d t.ay) W:=by
 obtain⟨_,_,h3,h4⟩:=h.R;rw[TM _ _ _ (by rw[h3 0 37 (by rw[Tu.eU];omega)];trivial),h4 0 37 (by rw[Tu.eU];omega),Tu.kG]
theorem adA(c:Nat)(w:ak):aR ah 262 #[.b .b c] w fun e w'=>e=.a (.e ((c:Int) != 0))/\w=w':=by
 go_enter Tryz.func262,Tryz.ntmps262;go_wp2;go_ret;exact⟨rfl,rfl⟩
theorem Vy(args:Array aB)(w:ak):(callFunc 262 args).O ah w=.ok (.enter 262 args) w:=by kernel_rfl
theorem amE(a:fD)(b o c:Nat)(w:ak)(hc:∀j,j<12->w.b ⟨b,o+j,none⟩=some (.b .b ((a.dW (4+j)).e:Nat))):
 aR ah 260 #[.a (some ⟨b,o,none⟩) 12 c,.func (.func 262) #[] #[]] w fun e w'=>∃r:Int,e=.a (.b .a r)/\(decide (0<=r) = !a.mO)/\w=w':=by
 have hen:=Vy;have HC:=ab hc;clear hc;go_enter Tryz.func260,Tryz.ntmps260;go_wp2;go_loop [8] (fun s8=>∃i:Nat,i<=12/\s8=.b .a i/\∀j,4<=j->j<4+i->a.dW j=0) (fun s8=>12-(intOf s8).e)
 case atStart=>exact⟨0,by omega,rfl,fun j h1 h2=>by omega⟩
 case round=>
  obtain⟨i,hi,rfl,hall⟩:=hrel;have HA:=ab hall;clear hall;by_cases hlt:i<12
  ·have hin:(i:Int)<12:=by omega
   have hcell:=HC.i i hlt;have hz:((a.dW (4+i)).e:Int)=0↔a.dW (4+i)=0:=by
    constructor
    ·intro h;apply mR.1;have:(0:UInt8).e=0:=rfl;omega
    ·intro h;rw[h];rfl
   have HZ:=ab hz;clear hz;obtain⟨n,hn⟩:∃n:Nat,n=(a.dW (4+i)).e:=⟨_,rfl⟩
   rw[<-hn]at hcell HZ;clear hn;by_cases h0:n=0
   ·have h1:((n:Int) != 0)=false:=by rw[h0];rfl
    have hz0:a.dW (4+i)=0:=HZ.i.1 (by omega);have HZ0:=ab hz0;clear hz0 h0;go_wp2_with (go_at_call 262;refine(adA n _).g ?_;rintro e w' ⟨rfl,rfl⟩);go_round
    case rel=>exact⟨i+1,by omega,by go_num,fun j h1 h2=>by
     by_cases hji:j=4+i
     ·rw[hji];exact HZ0.i
     ·exact HA.i j h1 (by omega)⟩
    case measure=>simp[intOf]<;>omega
   ·have h1:((n:Int) != 0)=true:=by rw[bne_iff_ne];omega
    have hno:a.mO=false:=fD.UL (i:=4+i) (by omega) (by omega) (fun h=>h0 (by have:=HZ.i.2 h;omega));have Ez:=ab hno;clear hno h0;go_wp2_with (go_at_call 262;refine(adA n _).g ?_;rintro e w' ⟨rfl,rfl⟩);go_ret;exact⟨_,rfl,by rw[Ez.i];simp,rfl⟩
  ·obtain rfl:i=12:=by omega
   have hs:a.mO=true:=a.Kq.2 HA.i;have HS:=ab hs;clear hs;go_wp2;go_ret;exact⟨_,rfl,by rw[HS.i];simp,rfl⟩
theorem amF(a:fD)(b o c:Nat)(w:ak)(hc:∀j,j<12->w.b ⟨b,o+j,none⟩=some (.b .b ((a.dW (4+j)).e:Nat))):
 aR ah 189 #[.a (some ⟨b,o,none⟩) 12 c,.func (.func 262) #[] #[]] w fun e w'=>e=.a (.e (!a.mO))/\w=w':=by
 have HC:=ab hc;clear hc;go_enter Tryz.func189,Tryz.ntmps189;go_wp2_with (go_at_call 260;refine(amE a b o c _ HC.i).g ?_;rintro e w' ⟨r,rfl,hr,rfl⟩);go_ret;exact⟨by simp,rfl⟩
theorem fD.rz(a:fD):rz a=(a.h||a.mO):=rfl
theorem Jz(a:fD)(w:ak):aR ah 193 #[.d a.ay] w (gY w (.e (rz a))):=by
 have HB:=ab ((aG w.a.j w).alloc (av _) (.D a.ay 27));have HT:=ab (show∀j,j<12->(w.alloc (.D a.ay 27)).b ⟨w.a.j,5+j,none⟩=some (.b .b ((a.dW (4+j)).e:Nat))from fun j hj=>by
  rw[nK,show 5+j=(4+j)+1 by omega];exact fD.Fe a (4+j) (by omega))
 have HK:=ab (fD.rz a);cases h6:a.h
 ·have H6:=ab h6
  obtain⟨K,hK⟩:=uP a.mO;have HKK:=ab hK;clear hK;go_enter Tryz.func193,Tryz.ntmps193;go_wp2_with fail;refine(amF a _ 5 _ _ HT.i).g ?_;rintro e w' ⟨rfl,rfl⟩;rw[HKK.i];cases K
  all_goals
   go_wp2;go_ret;exact⟨by rw[HK.i,HKK.i,H6.i];rfl,HB.i⟩
 ·have H6:=ab h6
  go_enter Tryz.func193,Tryz.ntmps193;go_wp2;go_ret;exact⟨by rw[HK.i,H6.i];rfl,HB.i⟩
@[go_sem]theorem Tu.ajq(t:Tu):t.ay.m 0 17=t.h.ay:=by
 apply dZ;intro j;rcases aZ j 17 with h|h
 ·rw[oL t.ay 0 17 j h (by rw[Tu.J];omega),bC,Tu.NJ t j h]
 ·rw[aW (by rw[jA,Tu.J];omega),aW (by rw[fD.J];exact h)]
@[go_sem]theorem Tu.ajr(t:Tu):t.ay.m 17 34=t.dst.ay:=by
 apply dZ;intro j;rcases aZ j 17 with h|h
 ·rw[show(34:Nat)=17+17 from rfl,oL t.ay 17 17 j h (by rw[Tu.J];omega),vB,Tu.LC t j h]
 ·rw[aW (by rw[jA,Tu.J];omega),aW (by rw[fD.J];exact h)]
@[go_sem]theorem Fw.QX(x:Fw):x.ay.m 0 37=x.key.ay:=by
 apply dZ;intro j;rcases aZ j 37 with h|h
 ·rw[oL x.ay 0 37 j h (by rw[Fw.J];omega),bC,Fw.ayh x j h]
 ·rw[aW (by rw[jA,Fw.J];omega),aW (by rw[Tu.J];exact h)]
theorem TN(t:Tu):Gz t=(decide (t.h.h=t.dst.h)&&rz t.h&&rz t.dst&&(decide (0<=t.aN)&&decide (t.aN<=255))&&(decide (0<=t.kg)&&decide (t.kg<=65535))&&(decide (0<=t.iG)&&decide (t.iG<=65535))):=rfl
theorem Ky(t:Tu)(w:ak):aR ah 115 #[.d t.ay] w (gY w (.e (Gz t))):=by
 have HB0:=ab ((aG w.a.j w).alloc (av _) (.D t.ay 81));have B0:=ab (dP.new w t.ay 81);obtain⟨x1,x2,x3,x4⟩:=B0.i.R;have hl0:=B0.i.lt;obtain⟨K1,h1⟩:∃K,rz t.h=K:=⟨_,rfl⟩
 obtain⟨K2,h2⟩:∃K,rz t.dst=K:=⟨_,rfl⟩
 have SG:=ab h1;have HS2:=ab h2;clear h1 h2;obtain⟨s6,h6⟩:∃s,t.h.h=s:=⟨_,rfl⟩
 obtain⟨d6,g6⟩:∃s,t.dst.h=s:=⟨_,rfl⟩
 by_cases he:s6=d6;rotate_left
 ·have HE:=ab (show¬t.h.h=t.dst.h by rw[h6,g6];exact he)
  have hne:(s6==d6)=false:=by simpa using he
  clear he;go_enter Tryz.func115,Tryz.ntmps115;go_wp2;go_ret;exact⟨by rw[TN];simp[HE.i]<;>omega,HB0.i⟩
 have HE:=ab (show t.h.h=t.dst.h by rw[h6,g6];exact he);have hne:(s6==d6)=true:=by simpa using he
 clear he;cases K1
 ·skip
  go_enter Tryz.func115,Tryz.ntmps115;go_wp2_with fail;refine(Jz t.h _).g ?_;rintro e w1 ⟨rfl,hb1⟩;rw[SG.i];have B1:=ab (B0.i.go hb1);have HB1:=ab (jD HB0.i hb1);obtain⟨y1,y2,y3,y4⟩:=B1.i.R;have hl1:=B1.i.lt;clear hb1;go_wp2;go_ret;exact⟨by rw[TN];simp[HE.i,SG.i]<;>omega,HB1.i⟩
 cases K2
 ·skip
  go_enter Tryz.func115,Tryz.ntmps115;go_wp2_with fail;refine(Jz t.h _).g ?_;rintro e w1 ⟨rfl,hb1⟩;rw[SG.i];have B1:=ab (B0.i.go hb1);have HB1:=ab (jD HB0.i hb1);obtain⟨y1,y2,y3,y4⟩:=B1.i.R;have hl1:=B1.i.lt;clear hb1;go_wp2_with fail;refine(Jz t.dst _).g ?_;rintro e w2 ⟨rfl,hb2⟩;rw[HS2.i];have B2:=ab (B1.i.go hb2);have HB2:=ab (jD HB1.i hb2);obtain⟨z1,z2,z3,z4⟩:=B2.i.R;have hl2:=B2.i.lt;clear hb2 y1 y2 y3 y4 hl1;go_wp2;go_ret;exact⟨by rw[TN];simp_all[HE.i,SG.i,HS2.i]<;>omega,HB2.i⟩
 go_enter Tryz.func115,Tryz.ntmps115;go_wp2_with fail;refine(Jz t.h _).g ?_;rintro e w1 ⟨rfl,hb1⟩;rw[SG.i];have B1:=ab (B0.i.go hb1);have HB1:=ab (jD HB0.i hb1);obtain⟨y1,y2,y3,y4⟩:=B1.i.R;have hl1:=B1.i.lt;clear hb1;go_wp2_with fail;refine(Jz t.dst _).g ?_;rintro e w2 ⟨rfl,hb2⟩;rw[HS2.i];have B2:=ab (B1.i.go hb2);have HB2:=ab (jD HB1.i hb2);obtain⟨z1,z2,z3,z4⟩:=B2.i.R;have hl2:=B2.i.lt;clear hb2 y1 y2 y3 y4 hl1;by_cases p0:0<=t.aN;by_cases p1:t.aN<=255;by_cases p2:0<=t.kg;by_cases p3:t.kg<=65535;by_cases p4:0<=t.iG;by_cases p5:t.iG<=65535
 all_goals
  go_wp2;go_ret;exact⟨by rw[TN];simp_all[HE.i,SG.i,HS2.i]<;>omega,HB2.i⟩
theorem aaS(x:Fw):EA x=(Gz x.key&&xu x.F&&decide (1<=x.yF)&&decide (x.yF<=5)&&(decide (0<=x.seen)&&decide (x.seen<=1099511627776))&&(decide (0<=x.no)&&decide (x.no<=1152921504606846976))):=rfl
theorem LG(x:Fw)(w:ak)(hn:x.F.a<=9223372036854775807):aR ah 48 #[.d x.ay] w (gY w (.e (EA x))):=by
 have HB0:=ab ((aG w.a.j w).alloc (av _) (.D x.ay 86));have B0:=ab (dP.new w x.ay 86);obtain⟨x1,x2,x3,x4⟩:=B0.i.R;have hl0:=B0.i.lt;obtain⟨K1,h1⟩:∃K,Gz x.key=K:=⟨_,rfl⟩
 obtain⟨K2,h2⟩:∃K,xu x.F=K:=⟨_,rfl⟩
 have SG:=ab h1;have HS2:=ab h2;clear h1 h2;cases K1
 ·skip
  go_enter Tryz.func48,Tryz.ntmps48;go_wp2_with fail;refine(Ky x.key _).g ?_;rintro e w1 ⟨rfl,hb1⟩;rw[SG.i];have B1:=ab (B0.i.go hb1);have HB1:=ab (jD HB0.i hb1);obtain⟨y1,y2,y3,y4⟩:=B1.i.R;have hl1:=B1.i.lt;clear hb1;go_wp2;go_ret;exact⟨by rw[aaS];simp[SG.i]<;>omega,HB1.i⟩
 cases K2
 ·skip
  go_enter Tryz.func48,Tryz.ntmps48;go_wp2_with fail;refine(Ky x.key _).g ?_;rintro e w1 ⟨rfl,hb1⟩;rw[SG.i];have B1:=ab (B0.i.go hb1);have HB1:=ab (jD HB0.i hb1);obtain⟨y1,y2,y3,y4⟩:=B1.i.R;have hl1:=B1.i.lt;clear hb1;go_wp2_with fail;refine(Uz x.F _ hn).g ?_;rintro e w2 ⟨rfl,hb2⟩;rw[HS2.i];have B2:=ab (B1.i.go hb2);have HB2:=ab (jD HB1.i hb2);obtain⟨z1,z2,z3,z4⟩:=B2.i.R;have hl2:=B2.i.lt;clear hb2 y1 y2 y3 y4 hl1;go_wp2;go_ret;exact⟨by rw[aaS];simp_all[SG.i,HS2.i]<;>omega,HB2.i⟩
 go_enter Tryz.func48,Tryz.ntmps48;go_wp2_with fail;refine(Ky x.key _).g ?_;rintro e w1 ⟨rfl,hb1⟩;rw[SG.i];have B1:=ab (B0.i.go hb1);have HB1:=ab (jD HB0.i hb1);obtain⟨y1,y2,y3,y4⟩:=B1.i.R;have hl1:=B1.i.lt;clear hb1;go_wp2_with fail;refine(Uz x.F _ hn).g ?_;rintro e w2 ⟨rfl,hb2⟩;rw[HS2.i];have B2:=ab (B1.i.go hb2);have HB2:=ab (jD HB1.i hb2);obtain⟨z1,z2,z3,z4⟩:=B2.i.R;have hl2:=B2.i.lt;clear hb2 y1 y2 y3 y4 hl1;by_cases p0:1<=x.yF;by_cases p1:x.yF<=5;by_cases p2:0<=x.seen;by_cases p3:x.seen<=1099511627776;by_cases p4:0<=x.no;by_cases p5:x.no<=1152921504606846976
 all_goals
  go_wp2;go_ret;exact⟨by rw[aaS];simp_all[SG.i,HS2.i]<;>omega,HB2.i⟩
structure XC where
 A:Option aV
 n:Nat
 c:Nat
deriving DecidableEq
structure Sh where
 nP:Int
 b:XC
 h:XC
 f:XC
 ig:Int
 no:Int
 mV:Vector Int 11
deriving DecidableEq
def shT(x:Sh):Array aB:=#[.b .a x.nP,.a x.b.A x.b.n x.b.c,.a x.h.A x.h.n x.h.c,.a x.f.A x.f.n x.f.c,.b .a x.ig,.b .a x.no]
def zR(v:Vector Int 11):Array aB:=(v.a.map (aI .a)).c
def Sh.ay(x:Sh):Array aB:=shT x++zR x.mV
theorem kD(v:Vector Int 11):(zR v).j=11:=by simp[zR]
theorem Sh.J(x:Sh):x.ay.j=17:=by simp[Sh.ay,shT,kD]
theorem Sh.Vz(x:Sh)(j:Nat)(hj:j<6):x.ay[j]? = (shT x)[j]?:=by unfold Sh.ay;rw[Ce _ _ 6 _ rfl,if_pos hj]
theorem VD(v:Vector Int 11)(j:Nat)(hj:j<11):(zR v)[j]? = some (.b .a (v.a.b j 0)):=by
 simp[zR,eO,hj,au]
theorem Sh.ahN(x:Sh)(j:Nat)(hj:j<11):x.ay[6+j]? = some (.b .a (x.mV.a.b j 0)):=by
 unfold Sh.ay;rw[Ce _ _ 6 _ rfl,if_neg (by omega),cZ,VD _ _ hj]
@[go_sem]theorem Sh.qW(x:Sh):x.ay[0]? = some (.b .a x.nP):=Sh.Vz x 0 (by omega)
@[go_sem]theorem Sh.Ij(x:Sh):x.ay[1]? = some (.a x.b.A x.b.n x.b.c):=Sh.Vz x 1 (by omega)
@[go_sem]theorem Sh.Ya(x:Sh):x.ay[2]? = some (.a x.h.A x.h.n x.h.c):=Sh.Vz x 2 (by omega)
@[go_sem]theorem Sh.ahp(x:Sh):x.ay[3]? = some (.a x.f.A x.f.n x.f.c):=Sh.Vz x 3 (by omega)
@[go_sem]theorem Sh.amG(x:Sh):x.ay[4]? = some (.b .a x.ig):=Sh.Vz x 4 (by omega)
@[go_sem]theorem Sh.amH(x:Sh):x.ay[5]? = some (.b .a x.no):=Sh.Vz x 5 (by omega)
theorem amI(l:List Int):((l.map (aI .a)).c).all (·.h)=true:=by
 rw[Array.all_eq_true_iff_forall_mem];intro v hv;simp at hv;obtain⟨z,_,rfl⟩:=hv;rfl
theorem Sh.dx(x:Sh):x.ay.all (·.h)=true:=iy (by simp[shT,dA]) (amI _)
def Eb:XC:=⟨none,0,0⟩
def JA:Sh:=⟨0,Eb,Eb,Eb,0,0,bG 11 0⟩
@[go_sem]theorem aue:eX #[bg,bB none 0 0,bB none 0 0,bB none 0 0,bg,bg,bg,bg,bg,bg,bg,bg,bg,bg,bg,bg,bg] 37=eX JA.ay 37:=rfl
@[go_sem]theorem aym:cO #[bg,bB none 0 0,bB none 0 0,bB none 0 0,bg,bg,bg,bg,bg,bg,bg,bg,bg,bg,bg,bg,bg]=cO JA.ay:=rfl
@[go_sem]theorem Sh.eU(x:Sh):eU x.ay=17:=Sh.J x
@[go_sem]theorem Sh.kG(x:Sh):x.ay.m 0 17=x.ay:=by
 have:=Sh.J x;rw[<-this];simp
def afS(v:aB):yA aB:=dw 37 v
def aaT(v x:aB):yA Unit:=eY 37 v x
@[go_sem ↓]theorem awQ(v:aB):dw 37 v=afS v:=rfl
@[go_sem ↓]theorem auf(v x:aB):eY 37 v x=aaT v x:=rfl
@[go_sem]theorem aBj(W:ak)(b o:Nat)(h:yE W b o 17):(afS (.c (some ⟨b,o,none⟩))).O ah W=.ok (.d (eH W b o 17)) W:=
 kH W b o 17 _ _ qM rfl (by kernel_rfl) h
@[go_sem]theorem ap6(W:ak)(c:Array aB)(x:Sh)(b:Nat)(hb:b=W.a.j)(hc:eU c=17):
 (aaT (.c (some ⟨b,0,none⟩)) (.d x.ay)).O ah (W.alloc (.D c 37))=.ok () (W.alloc (.D x.ay 37)):=by
 subst hb;exact Ad W _ c x.ay (by rw[Sh.J];kernel_rfl) (by rw[Sh.J];exact hc) (Sh.dx x)
def amJ(W:ak)(b o:Nat)(x:Sh):ak:=W.setCells b o x.ay.a
@[go_sem]theorem ayn(W:ak)(b o:Nat)(x:Sh)(h:W.S b o 17):(aaT (.c (some ⟨b,o,none⟩)) (.d x.ay)).O ah W=.ok () (amJ W b o x):=
 ER W b o _ x.ay (by rw[Sh.J];exact h) (by rw[Sh.J];kernel_rfl) (Sh.dx x)
theorem aug:∃i:oh,ah.l 37=some i/\i.zero=some (.d JA.ay)/\i.j=17/\i.bytes<=400:=by
 cases h:ah.l 37 with
 | none=>exact absurd h (by have:(ah.l 37).isSome=true:=by kernel_rfl
                            intro e;rw[e]at this;cases this)
 | some i=>
   have h1:(ah.l 37).map (·.j)=some 17:=by kernel_rfl
   have h2:(ah.l 37).map (fun i=>decide (i.bytes<=400))=some true:=by kernel_rfl
   have h3:(ah.l 37).map (·.zero)=some (some (.d JA.ay)):=by kernel_rfl
   rw[h]at h1 h2 h3;simp at h1 h2 h3;exact⟨i,rfl,h3,h1,h2⟩
def auh(ps:Array (Nat×aB)):yA aB:=fU 37 ps
@[go_sem ↓]theorem aBk(ps:Array (Nat×aB)):fU 37 ps=auh ps:=rfl
theorem YG(w:ak)(fs:Array oz)(h:ah.k 37=some (.d fs)):(iI (fun f=>Prod.mk f.offset <$> sizeOf f.p) fs:yA (Array (Nat×Nat))).O ah w=.ok #[(0,2),(2,1),(3,1),(4,1),(5,1),(6,11)] w:=by
 have e:=qM;rw[h]at e;cases e;show _=_
 kernel_rfl
@[go_sem]theorem aui(w:ak):(auh #[]).O ah w=.ok (.d JA.ay) w:=by
 obtain⟨i0,hi0,hz0,_,_⟩:=aug;exact Pm w _ _ i0 JA.ay _ _ _ qM hi0 hz0 (YG w _ qM) rfl
@[go_sem]theorem Sh.NK(x:Sh):x.ay.m 0 2 = #[.b .a x.nP,.a x.b.A x.b.n x.b.c]:=by
 apply dZ;intro j;rcases aZ j 2 with h|h
 ·rw[oL x.ay 0 2 j h (by rw[Sh.J];omega),bC,Sh.Vz x j (by omega)]
  rcases(show j=0\/j=1 by omega)with rfl|rfl<;>rfl
 ·rw[aW (by rw[jA,Sh.J];omega),aW (by simp;omega)]
@[go_sem]theorem Sh.asq(x:Sh):x.ay.m 6 17=zR x.mV:=by
 apply dZ;intro j;rcases aZ j 11 with h|h
 ·rw[show(17:Nat)=6+11 from rfl,oL x.ay 6 11 j h (by rw[Sh.J];omega),Sh.ahN x j h,VD _ _ h]
 ·rw[aW (by rw[jA,Sh.J];omega),aW (by rw[kD];exact h)]
structure StR(w:ak)(B:Nat)(x:Sh)(s:qE):Prop where
 nP:x.nP=s.nP
 b:iT Bk.ay 27 w B x.b.A x.b.n s.h
 h:iT Hl.ay 3 w B x.h.A x.h.n s.J
 f:iT Fw.ay 41 w B x.f.A x.f.n s.tQ
 ig:x.ig=s.ig
 no:x.no=s.no
 mV:x.mV=s.mV
 sD:∀y∈s.h,y.sD
 asr:∀y∈s.J,y.F.a<=9223372036854775807
 amK:∀y∈s.tQ,y.F.a<=9223372036854775807
 nb:x.b.n<=4611686018427387903
 nh:x.h.n<=4611686018427387903
 nf:x.f.n<=4611686018427387903
theorem StR.go{w w':ak}{x:Sh}{s:qE}(h:StR w w.a.j x s)(hb:aM w.a.j w w'):StR w' w'.a.j x s:=⟨h.nP,h.b.go hb,h.h.go hb,h.f.go hb,h.ig,h.no,h.mV,h.sD,h.asr,h.amK,h.nb,h.nh,h.nf⟩
def amL(v:aB):yA aB:=dw 35 v
@[go_sem ↓]theorem awR(v:aB):dw 35 v=amL v:=rfl
@[go_sem]theorem aBl(W:ak)(b o:Nat)(h:yE W b o 11):(amL (.c (some ⟨b,o,none⟩))).O ah W=.ok (.d (eH W b o 11)) W:=
 kH W b o 11 _ _ Gi rfl (by kernel_rfl) h
theorem afT(l:List Bk)(hf:∀x∈l,x.sD)(v:Int)(A:Option aV)(n c:Nat)(w:ak)(hR:iT Bk.ay 27 w w.a.j A n l)(hn:n<=4611686018427387903)(K:Bool)(hK:zf v l=K):
 aR ah 45 #[.d #[.b .a v,.a A n c]] w (gY w (.e K)):=by
 subst hK;obtain rfl:=hR.1;exact Xp l hf v A c w hR (by omega)
theorem iT.fw{W:ak}{B n:Nat}{A:Option aV}{l:List Fw}{k:Nat}(h:iT Fw.ay 41 W B A n l)(hk:k<n):∃b o,A=some ⟨b,o,none⟩/\b<B/\yE W b (o+k*41) 41/\eH W b (o+k*41) 41=(l.b k lu).ay:=iT.dW Fw.J lu h hk
section
variable {P:fB}
theorem VE{w:ak}{ops:Array ji}{rest:List ji}{o:ji}{a:rO}{Q:Bn->rO->ak->Prop}(hgd:o.guard=none)(s x:ql)(t tn:bL)
 (ho:o.op=.call {callee:=.builtin .append,args:=#[s,x],argTypes:=#[t,tn]}) (u v r:aB) (hs:a.eval s=u) (hx:a.eval x=v) (w2:ak)
 (hrun:∀ty,(By #[t,tn] ty #[u,v]).O P w=.ok r w2) (h:wpList P ops Q rest (a.put o.dst r) w2):wpList P ops Q (o::rest) a w:=by
 refine uq hgd fun K hK=>?_
 unfold nV;simp[execOp,ho,resolve,invoke,builtin,hs,hx,hrun,iM];exact hK _ _ h
end
theorem amM(k:Nat)(hk:k<=1000000000)(w:ak):
 aR ah 253 #[.a none 0 0,.b .a k] w fun e w'=>∃v,e=.a v/\w'.c w.a.j 5 1 v 0 []/\aM w.a.j w w':=by
 obtain⟨i0,hi0,hz0,hz1,hz2⟩:=DC LZ;rcases Nat.eq_zero_or_pos k with h0|h0
 ·subst h0
  go_enter Tryz.func253,Tryz.ntmps253;go_wp2;go_ret;exact⟨_,rfl,fQ _ _ _ _,aG _ _⟩
 ·have hrun:=fun ty=>Lib.run_append_grow_zeros (P:=ah) w 56 3 ty 5 i0 (.b .b 0) .a .a dD fI hi0 hz0 none 0 0 [] (by simp[uM]) k h0 (by omega) (by omega) (by omega) (by rw[hz2];omega) (growslice_fits (by omega) (by rw[hz2];omega))
  have hge:=grownCap_ge w (0+k) 0 5;have hle:=grownCap_le_maxLen w (0+k) 0 5 (by unfold maxLen;omega);rw[bC]at hrun hge hle;obtain⟨cap,hcap⟩:=uP (grownCap w k 0 5);rw[hcap]at hrun hge hle;obtain⟨cells,hcells⟩:=cB (([]:List aB).c++oI (aI .b 0).D k++oI (aI .b 0).D (cap-k));have hsz:cells.j=cap*1:=by
   rw[hcells];simp only[oJ,dN,gU,size_zeroCells,show(aI .b 0).D.j=1 from rfl];omega
  rw[<-hcells]at hrun;have O1:=ab (World.ownsRow_made w.drew cells cap (base:=w.a.j) (e:=5) (size:=1) (av _) hle hsz);have hc0:(0:Int)<=(cap:Int):=by omega
  have aJd:¬cap=0:=by omega
  have hle2:(cap:Int)<=9223372036854775807:=by unfold maxLen at hle;omega
  have aC':=ab hrun;clear hcells hcap hsz hle hrun;go_enter Tryz.func253,Tryz.ntmps253;go_wp2_with (at_builtin;refine VE rfl (.tmp 20) (.tmp 21) _ _ rfl (.a none 0 0) (.b .a k) _ rfl rfl _ aC'.i ?_);go_ret;exact⟨_,rfl,O1.i,((aG w.a.j w).drew).alloc (av _) _⟩
def amN(x:XC):Array aB:=#[.a x.A x.n x.c]
theorem YH(x:XC):(amN x).j=1:=rfl
abbrev RdS:=iT amN 1
def zw(l:List XC):Nat:=(l.map (·.n)).sum
theorem Qf(l:List XC)(i:Nat)(hi:i<l.a):zw (l.E (i+1))=zw (l.E i)+(l.b i Eb).n:=by
 rw[<-pE Eb l i hi];simp[zw]
theorem aaU(l:List XC)(i:Nat):zw (l.E i)<=zw l:=by
 unfold zw
 conv=>rhs;rw[<-iQ i l,jC,List.sum_append]
 omega
def NM(W:ak)(B:Nat)(l:List XC)(bss:List (List UInt8)):Prop:=l.a=bss.a/\∀i,i<l.a->gG W B (l.b i Eb).A (l.b i Eb).n (bss.b i [])
theorem YI(l:List (List UInt8))(i:Nat)(hi:i<l.a):(l.E (i+1)).flatten=(l.E i).flatten++l.b i []:=by
 rw[<-pE [] l i hi];simp
theorem VF{W:ak}{B:Nat}{l:List XC}{bss:List (List UInt8)}(h:NM W B l bss)(i:Nat)(hi:i<=l.a):(bss.E i).flatten.a=zw (l.E i):=by
 induction i with
 | zero=>simp[zw]
 | succ i ih=>
   have h1:=(h.2 i (by omega)).len;rw[YI bss i (by have:=h.1;omega),aQ,ih (by omega),Qf l i (by omega),h1]
def auj(bss:List (List UInt8))(w:ak)(e:lJ)(w':ak):Prop:=∃v,e=.a v/\w'.c w.a.j 5 1 v bss.flatten.a (bss.flatten.map bv)/\aM w.a.j w w'
theorem ap7{w wr:ak}{A':Option aV}{m c' j:Nat}{bss:List (List UInt8)}(ho:wr.c w.a.j 5 1 (.a A' m c') m ((bss.E j).flatten.map bv))(hf:bss.E j=bss)(hb:aM w.a.j w wr):auj bss w (.a (.a A' m c')) wr:=by
 rw[hf]at ho;have h2:=ho.1;rw[bW,gP]at h2;refine⟨_,rfl,?_,hb⟩;rw[h2];exact ho
theorem Mr(l:List XC)(bss:List (List UInt8))(A:Option aV)(n c:Nat)(w:ak)(hR:RdS w w.a.j A n l)(hH:NM w w.a.j l bss)(hn:n<=1000)(hs:zw l<=1000000000):
 aR ah 181 #[.a A n c] w (auj bss w):=by
 obtain⟨i0,hi0,hz0,hz1,hz2⟩:=DC LZ;have HR:=ab hR;have HH:=ab hH;have HN:=ab hR.1;have HS:=ab hs;clear hR hH;go_enter Tryz.func181,Tryz.ntmps181;go_wp2;go_loop [3,11] (fun s3 s11=>∃i:Nat,i<=n/\s11=.b .a i/\s3=.b .a (zw (l.E i):Nat)) (fun _ s11=>n-(intOf s11).e)
 case atStart=>exact⟨0,by omega,rfl,rfl⟩
 case round=>
  obtain⟨i,hi,rfl,rfl⟩:=hrel;by_cases hlt:i<n
  ·have hlt2:(i:Int)<n:=by omega
   obtain⟨b,o,rfl,hbb,hcell⟩:=iT.cell YH Eb HR.i hlt;have hc0:=hcell 0 (by omega);have hst:=Qf l i (by rw[HN.i];exact hlt);have hsl:=aaU l (i+1);obtain⟨y,hy⟩:=uP (l.b i Eb);rw[hy]at hc0 hst;have hc1:w.b ⟨b,o+i,none⟩=some (.a y.A y.n y.c):=by simpa[amN]using hc0
   obtain⟨z,hz⟩:=uP (zw (l.E i));have hzb:z+y.n<=1000000000:=by have:=HS.i;omega
   rw[hz]at hst ⊢;have HST:=ab hst;clear hcell hc0 hy hz hst hsl;go_wp2;go_round
   case rel=>exact⟨i+1,by omega,by go_num,by rw[HST.i];go_num⟩
   case measure=>simp[intOf]<;>omega
  ·have hge:¬(i:Int)<n:=by omega
   have HT:=ab (show zw (l.E i)=zw l by rw[aK (by rw[HN.i];omega)]);obtain⟨z,hz⟩:=uP (zw (l.E i));rw[hz]at HT ⊢;have hzb:z<=1000000000:=by rw[HT.i];exact HS.i
   clear hz;go_wp2_with fail;refine(amM z hzb w).g ?_;rintro e w1 ⟨v,rfl,ho,hb⟩;obtain⟨A0,c0,rfl,_,_⟩:=j3 ho;have O0:=ab ho;have B0:=ab hb;clear ho hb;go_wp2;go_loopw [6,27] (fun s6 s27 wr=>∃(j m:Nat)(A':Option aV)(c':Nat),j<=n/\s27=.b .a j/\s6=.a A' m c'/\wr.c w.a.j 5 1 (.a A' m c') m ((bss.E j).flatten.map bv)/\aM w.a.j w wr) (fun _ s27 _=>n-(intOf s27).e)
   case atStart=>exact⟨0,0,A0,c0,by omega,rfl,rfl,O0.i,B0.i⟩
   case round=>
    obtain⟨j,m,A',c',hj,rfl,rfl,ho,hb⟩:=hrel;have HO:=ab ho;have HB:=ab hb;have HM:=ab (show m<=1000000000 by
     have h1:=ho.1;rw[bW,VF HH.i j (by rw[HN.i];exact hj)]at h1;have:=aaU l j;have:=HS.i;omega)
    clear ho hb;by_cases hlt:j<n
    ·have hlt2:(j:Int)<n:=by omega
     obtain⟨b,o,rfl,hbb,hcell⟩:=iT.cell YH Eb (HR.i.to HB.i (av _)) hlt;have hc0:=hcell 0 (by omega);have hrd:=(HH.i.2 j (by rw[HN.i];exact hlt)).to HB.i (av _);have hst:=Qf l j (by rw[HN.i];exact hlt);have hsl:=aaU l (j+1);have HFL:=ab (YI bss j (by have:=HH.i.1;have:=HN.i;omega));have HML:=ab (show m=zw (l.E j)by have h1:=HO.i.1;rw[bW,VF HH.i j (by rw[HN.i];exact hj)]at h1;omega);obtain⟨y,hy⟩:=uP (l.b j Eb);rw[hy]at hc0 hst hrd;have hc1:wr.b ⟨b,o+j,none⟩=some (.a y.A y.n y.c):=by simpa[amN]using hc0
     have HRD:=ab hrd;have TD:=ab (show m+y.n<=maxLen by have:=HS.i;have:=HML.i;unfold maxLen;omega);have TJ:=ab (show(m+y.n)*1<=140737488355328 by have:=HS.i;have:=HML.i;omega);have BS:=ab HB.i.j;have ON:=ab (Ki (bss.b j []));have GR:=ab (fun w5 (hg:wr.d w5 (bB A' m c').f)=>show aM w.a.j w w5 from HB.i.grown hg HB.i.j (fun x hx=>(HO.i.lt x hx).1));clear hcell hc0 hy hst hsl hrd;go_wp2_with (at_builtin;refine jQ _ rfl (.tmp 31) (.tmp 32) _ rfl w.a.j 5 i0 (.b .b 0) 1 1 dD hi0 hz0 hz1 hz2 rfl (av 1) (.a A' m c') m ((bss.E j).flatten.map bv) rfl HO.i w.a.j y.A y.n y.c ((bss.b j []).map bv) rfl HRD.i ON.i TD.i TJ.i BS.i ?_;intro v1 w5 hown1 hg1 yN;have O5:=ab hown1;have G5:=ab (GR.i _ hg1);clear hown1 hg1 yN);obtain⟨A5,c5,rfl,_,_⟩:=j3 O5.i;go_roundw
     case rel=>exact⟨j+1,m+y.n,A5,c5,by omega,by go_num,rfl,by rw[HFL.i,jC];exact O5.i,G5.i⟩
     case measure=>simp[intOf]<;>omega
    ·have aJe:¬(j:Int)<n:=by omega
     have HF:=ab (show bss.E j=bss from aK (by have:=HH.i.1;have:=HN.i;omega));go_wp2;go_ret;exact ap7 HO.i HF.i HB.i
structure Ow(B:Nat)(g0:Option Nat)(w0:ak)(v:aB)(bs:List UInt8)(w:ak):Prop where
 vM:w.c B 5 1 v bs.a (bs.map bv)
 gr:w0.d w g0
 xG:v.f=g0\/∃k,v.f=some k/\w0.a.j<=k
 hB:B<=w0.a.j
 gb:∀k,g0=some k->B<=k/\k<w0.a.j
theorem auk{a w:ak}{g:Option Nat}(h:a.d w g){p:aV}(hp:some p.block=g\/a.a.j<=p.block)(u:aB):a.d (w.I p u) g:=
 ⟨h.os,h.tape,h.output,by simpa[World.setCell]using h.j,fun i hi hne=>(Below.heap_setCell w p u i (by
  rintro rfl;rcases hp with hp|hp
  ·exact hne hp
  ·omega)).trans (h.block i hi hne)⟩
section
variable {B:Nat} {g0:Option Nat} {w0 W W':ak} {v v':aB} {bs bs':List UInt8}
theorem Ow.nil(w:ak):Ow w.a.j none w (.a none 0 0) [] w:=⟨fQ _ _ _ _,World.grownBy.refl _ _,.b rfl,av _,fun k h=>by cases h⟩
theorem Ow.jh{w:ak}{n:Nat}(h:w.c B 5 1 v n (bs.map bv))(hB:B<=w.a.j):Ow B v.f w v bs w:=by
 have h1:=h.1;rw[bW,gP]at h1;subst h1;exact⟨h,World.grownBy.refl _ _,.b rfl,hB,fun k hk=>h.lt k hk⟩
theorem Ow.go(h:Ow B g0 w0 v bs W)(hb:aM W.a.j W W'):Ow B g0 w0 v bs W':=
 ⟨jH h.vM hb,⟨hb.os.trans h.gr.os,hb.tape.trans h.gr.tape,hb.output.trans h.gr.output,aP h.gr.j hb.j,fun k hk hn=>(hb.block k (fE hk h.gr.j)).trans (h.gr.block k hk hn)⟩,h.xG,h.hB,h.gb⟩
theorem Ow.drew(h:Ow B g0 w0 v bs W):Ow B g0 w0 v bs W.drew:=⟨h.vM,⟨h.gr.os,h.gr.tape,h.gr.output,h.gr.j,h.gr.block⟩,h.xG,h.hB,h.gb⟩
theorem Ow.step(h:Ow B g0 w0 v bs W)(k:Ow B v.f W v' bs' W'):Ow B g0 w0 v' bs' W':=by
 refine⟨k.vM,⟨k.gr.os.trans h.gr.os,k.gr.tape.trans h.gr.tape,k.gr.output.trans h.gr.output,aP h.gr.j k.gr.j,fun i hi hn=>(k.gr.block i (fE hi h.gr.j) (fun e=>?_)).trans (h.gr.block i hi hn)⟩,?_,h.hB,h.gb⟩
 ·rcases h.xG with h1|⟨j,h1,h2⟩
  ·exact hn (e.trans h1)
  ·rw[h1]at e;injection e with e;omega
 ·rcases k.xG with h1|⟨j,h1,h2⟩
  ·rw[h1];exact h.xG
  ·exact .a ⟨j,h1,aP h.gr.j h2⟩
theorem Ow.box{q:Nat}{c:Array aB}(h:Ow B g0 w0 v bs W)(hb:dP w0 q c)(hq:some q≠g0):dP W q c:=hb.grown h.gr hq
theorem Ow.Y(h:Ow B g0 w0 v bs W):aM B w0 W:=⟨h.gr.os,h.gr.tape,h.gr.output,h.gr.j,fun k hk=>h.gr.block k (fE hk h.hB) (fun e=>by have:=(h.gb k e.symm).1;omega)⟩
theorem Ow.X(h:Ow B none w0 v bs W):aM w0.a.j w0 W:=⟨h.gr.os,h.gr.tape,h.gr.output,h.gr.j,fun k hk=>h.gr.block k hk (fun e=>by cases e)⟩
theorem Ow.DT(h:Ow B g0 w0 v bs W):∃A c,v=.a A bs.a c:=by obtain⟨A,c,e,_⟩:=j3 h.vM;exact⟨A,c,e⟩
theorem Ow.lt(h:Ow B g0 w0 v bs W){k:Nat}(hk:v.f=some k):k<W.a.j:=(h.vM.lt k hk).2
theorem Ow.j(h:Ow B g0 w0 v bs W):B<=W.a.j:=aP h.hB h.gr.j
end
section
variable {P:fB} {w:ak}
theorem Av:∃i:oh,ah.l 5=some i/\i.zero=some (.b .b 0)/\i.j=1/\i.bytes=1:=DC LZ
theorem kJ{ops:Array ji}{rest:List ji}{o:ji}{a:rO}{Q:Bn->rO->ak->Prop}(hgd:o.guard=none)(s x:ql)
 (ho:o.op=.call {callee:=.builtin .append,args:=#[s,x],argTypes:=#[56,56]})
 {B:Nat} {g0:Option Nat} {w0:ak} {v:aB} {bs ys:List UInt8} (hs:a.eval s=v) (H:Ow B g0 w0 v bs w) {C:Nat} {A:Option aV} {m c:Nat} (hx:a.eval x=.a A m c) (hr:gG w C A m ys)
 (hlen:bs.a+m<=1000000000)
 (h:∀A' n' c' w',Ow B g0 w0 (.a A' n' c') (bs++ys) w'->Ow B v.f w (.a A' n' c') (bs++ys) w'->wpList ah ops Q rest (a.put o.dst (.a A' n' c')) w'):wpList ah ops Q (o::rest) a w:=by
 obtain⟨i0,hi0,hz0,hz1,hz2⟩:=Av;have hm:=hr.len;refine jQ w hgd s x _ ho B 5 i0 (.b .b 0) 1 1 dD hi0 hz0 hz1 hz2 rfl (av 1) v bs.a (bs.map bv) hs H.vM C A m c (ys.map bv) hx hr (Ki ys) (by unfold maxLen;omega) (by omega) H.j ?_;intro v1 w1 h1 h2 h3;rw[<-jC,<-hm,<-aQ]at h1;have hk:Ow B v.f w v1 (bs++ys) w1:=⟨h1,h2,by rcases h3 with h|h;exact .b h;exact .a ⟨_,h,av _⟩,H.j,fun k hk=>H.vM.lt k hk⟩
 obtain⟨A',c',rfl⟩:=hk.DT;exact h A' _ c' w1 (H.step hk) hk
theorem ayp{o:ji}{a:rO}{K:rO->ak->Prop}{Q:Bn->rO->ak->Prop}(s x:ql)
 (ho:o.op=.call {callee:=.builtin .append,args:=#[s,x],argTypes:=#[56,56]})
 {B:Nat} {g0:Option Nat} {w0:ak} {v:aB} {bs ys:List UInt8} (hs:a.eval s=v) (H:Ow B g0 w0 v bs w) {C:Nat} {A:Option aV} {m c:Nat} (hx:a.eval x=.a A m c) (hr:gG w C A m ys)
 (hlen:bs.a+m<=1000000000)
 (h:∀A' n' c' w',Ow B g0 w0 (.a A' n' c') (bs++ys) w'->Ow B v.f w (.a A' n' c') (bs++ys) w'->K (a.put o.dst (.a A' n' c')) w'):o.wp ah a w K Q:=by
 obtain⟨i0,hi0,hz0,hz1,hz2⟩:=Av;have hm:=hr.len;refine Kj w s x _ ho B 5 i0 (.b .b 0) 1 1 dD hi0 hz0 hz1 hz2 rfl (av 1) v bs.a (bs.map bv) hs H.vM C A m c (ys.map bv) hx hr (Ki ys) (by unfold maxLen;omega) (by omega) H.j ?_;intro v1 w1 h1 h2 h3;rw[<-jC,<-hm,<-aQ]at h1;have hk:Ow B v.f w v1 (bs++ys) w1:=⟨h1,h2,by rcases h3 with h|h;exact .b h;exact .a ⟨_,h,av _⟩,H.j,fun k hk=>H.vM.lt k hk⟩
 obtain⟨A',c',rfl⟩:=hk.DT;exact h A' _ c' w1 (H.step hk) hk
end
def GU(z:Int):Array aB:=#[.b .a z]
theorem YJ(z:Int):(GU z).j=1:=rfl
abbrev RdI:=iT GU 1
theorem TP:∃i:oh,ah.l 3=some i/\i.zero=some (.b .a 0)/\i.j=1:=by
 cases h:ah.l 3 with
 | none=>exact absurd h (by have:(ah.l 3).isSome=true:=by kernel_rfl
                            intro e;rw[e]at this;cases this)
 | some i=>
   have h1:(ah.l 3).map (·.j)=some 1:=by kernel_rfl
   have h3:(ah.l 3).map (·.zero)=some (some (.b .a 0)):=by kernel_rfl
   rw[h]at h1 h3;simp at h1 h3;exact⟨i,rfl,h3,h1⟩
theorem afU:mK 1 = #[0]:=by apply pU;rw[kF];rfl
theorem afV:mK 2 = #[0,1]:=by apply pU;rw[kF];rfl
theorem aul:mK 3 = #[0,1,2]:=by apply pU;rw[kF];rfl
def Ms(n:Nat)(ps:Array (Nat×aB)):yA aB:=bJ 70 n ps
@[go_sem ↓]theorem awS(n:Nat)(ps:Array (Nat×aB)):bJ 70 n ps=Ms n ps:=rfl
def tZ(l:List Int):Array aB:=(l.map (aI .a)).c
@[go_sem]theorem asu(w:ak)(a:Int):(Ms 1 #[(0,.b .a a)]).O ah w=.ok (.a (some ⟨w.a.j,0,none⟩) 1 1) (w.alloc (.D (tZ [a]) 3)):=by
 obtain⟨i0,hi0,hz0,hz1⟩:=TP;simp[Ms,bJ,dK oP,zeroValue,sizeOf,typeInfo,hi0,hz0,hz1,fJ,newRow,tZ,dz,afU,afV,aul]
theorem RdI.lit(w:ak)(l:List Int)(t:bL):RdI (w.alloc (.D (tZ l) t)) (w.alloc (.D (tZ l) t)).a.j (some ⟨w.a.j,0,none⟩) l.a l:=by
 have hf:(l.d fun x=>(GU x).a)=l.map (aI .a):=by induction l with
  | nil=>rfl
  | cons z l ih=>simp only[iW,ih];rfl
 refine⟨rfl,⟨by rw[hf];simp,fun _=>⟨_,rfl,by simp,?_⟩⟩,fun a h _=>by injection h with h;rw[<-h]⟩;intro j v hv;rw[hf]at hv;rw[iL,bC];have:=nK w (tZ l) t j;rw[this];simpa[tZ]using hv
def GV(n:Nat)(ps:Array (Nat×aB)):yA aB:=bJ 276 n ps
@[go_sem ↓]theorem awT(n:Nat)(ps:Array (Nat×aB)):bJ 276 n ps=GV n ps:=rfl
theorem TQ:∃i:oh,ah.l 56=some i/\i.zero=some (.a none 0 0)/\i.j=1:=by
 cases h:ah.l 56 with
 | none=>exact absurd h (by have:(ah.l 56).isSome=true:=by kernel_rfl
                            intro e;rw[e]at this;cases this)
 | some i=>
   have h1:(ah.l 56).map (·.j)=some 1:=by kernel_rfl
   have h3:(ah.l 56).map (·.zero)=some (some (.a none 0 0)):=by kernel_rfl
   rw[h]at h1 h3;simp at h1 h3;exact⟨i,rfl,h3,h1⟩
def zy(l:List XC):Array aB:=(l.map fun x=>bB x.A x.n x.c).c
theorem aum:mK 5 = #[0,1,2,3,4]:=by apply pU;rw[kF];rfl
@[go_sem]theorem asv(w:ak)(A B:Option aV)(a b c d:Nat):(GV 2 #[(0,.a A a b),(1,.a B c d)]).O ah w=.ok (.a (some ⟨w.a.j,0,none⟩) 2 2) (w.alloc (.D (zy [⟨A,a,b⟩,⟨B,c,d⟩]) 56)):=by
 obtain⟨i0,hi0,hz0,hz1⟩:=TQ;simp[GV,bJ,dK Em,zeroValue,sizeOf,typeInfo,hi0,hz0,hz1,fJ,newRow,zy,dz,afV]
@[go_sem]theorem asw(w:ak)(A0 A1 A2 A3 A4:Option aV)(n0 n1 n2 n3 n4 c0 c1 c2 c3 c4:Nat):(GV 5 #[(0,.a A0 n0 c0),(1,.a A1 n1 c1),(2,.a A2 n2 c2),(3,.a A3 n3 c3),(4,.a A4 n4 c4)]).O ah w=.ok (.a (some ⟨w.a.j,0,none⟩) 5 5) (w.alloc (.D (zy [⟨A0,n0,c0⟩,⟨A1,n1,c1⟩,⟨A2,n2,c2⟩,⟨A3,n3,c3⟩,⟨A4,n4,c4⟩]) 56)):=by
 obtain⟨i0,hi0,hz0,hz1⟩:=TQ;simp[GV,bJ,dK Em,zeroValue,sizeOf,typeInfo,hi0,hz0,hz1,fJ,newRow,zy,dz,aum]
theorem RdS.lit(w:ak)(l:List XC)(t:bL):RdS (w.alloc (.D (zy l) t)) (w.alloc (.D (zy l) t)).a.j (some ⟨w.a.j,0,none⟩) l.a l:=by
 have hf:(l.d fun x=>(amN x).a)=l.map (fun x=>bB x.A x.n x.c):=by induction l with
  | nil=>rfl
  | cons z l ih=>simp only[iW,ih];rfl
 refine⟨rfl,⟨by rw[hf];simp,fun _=>⟨_,rfl,by simp,?_⟩⟩,fun a h _=>by injection h with h;rw[<-h]⟩;intro j v hv;rw[hf]at hv;rw[iL,bC];have:=nK w (zy l) t j;rw[this];simpa[zy]using hv
theorem NM.cons{w:ak}{B:Nat}{x:XC}{l:List XC}{ys:List UInt8}{bss:List (List UInt8)}(h:gG w B x.A x.n ys)(k:NM w B l bss):NM w B (x::l) (ys::bss):=by
 refine⟨by simp[k.1],fun i hi=>?_⟩;cases i with
 | zero=>exact h
 | succ i=>exact k.2 i (by simpa using hi)
theorem NM.nil{w:ak}{B:Nat}:NM w B [] []:=⟨rfl,fun i hi=>by simp at hi⟩
theorem Dj(l:List XC)(bss:List (List UInt8))(t:bL)(n:Nat)(w:ak)(hn:l.a=n)(hH:NM w w.a.j l bss)(h1:n<=1000)(hs:zw l<=1000000000):
 aR ah 181 #[.a (some ⟨w.a.j,0,none⟩) n n] (w.alloc (.D (zy l) t)) fun e w'=>∃A m c,e=.a (.a A m c)/\m=bss.flatten.a/\gG w' w'.a.j A m bss.flatten/\w'.c (w.a.j+1) 5 1 (.a A m c) m (bss.flatten.map bv)/\aM w.a.j w w':=by
 subst hn;refine(Mr l bss _ _ _ _ (RdS.lit w l t) ⟨hH.1,fun i hi=>((hH.2 i hi).alloc (av _) _).lD (by simp)⟩ h1 hs).g ?_;rintro e w' ⟨v,rfl,ho,hb⟩;obtain⟨A,c,rfl,_,_⟩:=j3 ho;exact⟨A,_,c,rfl,rfl,gG.jh ho,by simpa using ho,axM (aG _ _) hb⟩
theorem ap8(w:ak)(s:List UInt8):gG (tL w 5 s) (tL w 5 s).a.j (some ⟨w.a.j,0,none⟩) s.a s/\aM w.a.j w (tL w 5 s):=
 ⟨(Ig w _ s).lD (by unfold tL;rw[Lib.bytesWorld_size];omega),Ie w _ s⟩
theorem vU(n k:Nat)(big:Bool):(jd n k big).a=k:=by cases big<;>simp[jd,xk]
theorem NQ{w:ak}{ops:Array ji}{o:ji}{a:rO}{K:rO->ak->Prop}{Q:Bn->rO->ak->Prop}{E:Prop}(hgd:o.guard=none)(s x:ql)
 (ho:o.op=.call {callee:=.builtin .append,args:=#[s,x],argTypes:=#[56,56]})
 (v:aB) (A:Option aV) (m c:Nat) {B:Nat} {g0:Option Nat} {w0:ak} {bs ys:List UInt8} (hs:a.eval s=v) (H:Ow B g0 w0 v bs w) {C:Nat} (hx:a.eval x=.a A m c) (hr:gG w C A m ys)
 (hlen:bs.a+m<=1000000000)
 (h:∀A' n' c' w',Ow B g0 w0 (.a A' n' c') (bs++ys) w'->Ow B v.f w (.a A' n' c') (bs++ys) w'->K (a.put o.dst (.a A' n' c')) w') :
 if fK o (yielded ops a.tmps)=true then nV ah o a w K Q else E:=by
 have hw:fK o (yielded ops a.tmps)=true:=by simp[fK,hgd]
 rw[if_pos hw];exact ayp s x ho hs H hx hr hlen h
def TwP(w:ak)(bs:List UInt8)(e:lJ)(w':ak):Prop:=∃A,e=.a (.a A 2 2)/\Ow w.a.j none w (.a A 2 2) bs w'/\aM w.a.j w w'
theorem aaV{w:ak}{g k B:Nat}{f:Nat->aB}{l:List UInt8}(h:w.rowIs g 5 k f)(hl:l.a=k)(hk:k<=1000)(hB:B<=g)(hf:∀j,j<k->f j=bv (l.b j 0)):w.c B 5 1 (.a (some ⟨g,0,none⟩) k k) k (l.map bv):=by
 obtain⟨c,hc,hs,hg⟩:=h;refine⟨by simp[hl],.a ⟨g,k,c,rfl,hB,hc,av _,by unfold maxLen;omega,by omega,?_⟩⟩;apply iC;intro j;by_cases hj:j<k
 ·rw[iB (by omega),Array.getElem?_toList,hg j hj,hf j hj]
  simp[au,hl,hj]
 ·rw[aT (by simp;omega),aT (by simp[hl];omega)]
theorem xH(n:Nat)(hn:n<=65535)(w:ak):aR ah 184 #[.b .u64 n,.b .a 2,.e true] w (TwP w (jd n 2 true)):=by
 refine(apg n 2 (by omega) (by omega) true w).g ?_;rintro e w' ⟨rfl,hr,hb⟩;have ho:=aaV (B:=w.a.j) (l:=jd n 2 true) hr (vU _ _ _) (by omega) (av _) (fun j hj=>rfl);refine⟨_,rfl,⟨by rw[vU];exact ho,⟨hb.os,hb.tape,hb.output,hb.j,fun k hk _=>hb.block k hk⟩,.a ⟨_,rfl,av _⟩,av _,fun k hk=>by cases hk⟩,hb⟩
theorem asx{B B':Nat}{w1 w w':ak}{v:aB}{bs:List UInt8}(h:Ow B' none w v bs w')(h1:B<=B')(hb:aM w'.a.j w' w1):Ow B v.f w1 v bs w1:=Ow.jh (iU (jH h.vM hb) h1) (aP (aP h1 h.j) hb.j)
theorem Ec{B n c:Nat}{w1 w w':ak}{A:Option aV}{bs:List UInt8}(h:Ow B none w (.a A n c) bs w')(hb:aM w'.a.j w' w1):gG w1 w1.a.j A n bs:=by
 have h2:=jH h.vM hb;obtain⟨A',c',e⟩:=h.DT;injection e with e1 e2 e3
 subst e2;exact gG.jh h2
theorem NR{W W':ak}(h:aM W.drew.a.j W.drew W'):aM W.a.j W W':=⟨h.os,h.tape,h.output,h.j,h.block⟩
theorem ap9{w w1 w2:ak}{g0:Option Nat}{v':aB}{bs:List UInt8}{c0:Array aB}(h:Ow (w.a.j+1) g0 w1 v' bs w2)(hB:aM w.a.j w w1)(hT:dP w1 w.a.j c0):
 (∃A n c,v'=.a A n c/\w2.c w.a.j 5 1 (.a A n c) n (bs.map bv)/\aM w.a.j w w2)/\dP w2 w.a.j c0:=by
 obtain⟨A,c,rfl⟩:=h.DT;have hb:=h.Y;exact⟨⟨A,_,c,rfl,iU h.vM (MQ _),hB.trans (hb.g (MQ _))⟩,hT.Y hb (nD _)⟩
def Dk(n:Nat)(ps:Array (Nat×aB)):yA aB:=bJ 56 n ps
@[go_sem ↓]theorem ayq(n:Nat)(ps:Array (Nat×aB)):bJ 56 n ps=Dk n ps:=rfl
@[go_sem]theorem aun(w:ak)(a:Int):(Dk 1 #[(0,.b .b a)]).O ah w=.ok (.a (some ⟨w.a.j,0,none⟩) 1 1) (w.alloc (.D #[.b .b a] 5)):=by
 obtain⟨i0,hi0,hz0,hz1,hz2⟩:=Av;simp[Dk,bJ,dK dD,zeroValue,sizeOf,typeInfo,hi0,hz0,hz1,fJ,newRow,dz,afU]
theorem FH(w:ak)(b:UInt8)(a:Int)(ha:a=(b.e:Int)):gG (w.alloc (.D #[.b .b a] 5)) (w.a.j+1) (some ⟨w.a.j,0,none⟩) 1 [b]:=by
 subst ha;refine⟨rfl,fun _=>⟨_,rfl,by simp,fun j u hu=>?_⟩⟩;rw[iL,bC];have:=nK w #[.b .b (b.e:Int)] 5 j;rw[this];simpa[bv]using hu
theorem Tu.rdS{W:ak}{q:Nat}{t:Tu}(h:dP W q t.ay):gG W W.a.j (some ⟨q,1,none⟩) 16 t.h.b.a:=by
 refine⟨by simp,fun _=>⟨_,rfl,h.lt,fun j u hu=>?_⟩⟩;have hj:j<16:=by
  rcases aZ j 16 with hj|hj
  ·exact hj
  ·rw[aT (by simp;omega)]at hu;cases hu
 rw[iL,h.R.1,vB 1 j,Tu.NJ t (j+1) (by omega),fD.Fe _ j hj,<-hu];simp[au,hj]
theorem Tu.rdD{W:ak}{q:Nat}{t:Tu}(h:dP W q t.ay):gG W W.a.j (some ⟨q,18,none⟩) 16 t.dst.b.a:=by
 refine⟨by simp,fun _=>⟨_,rfl,h.lt,fun j u hu=>?_⟩⟩;have hj:j<16:=by
  rcases aZ j 16 with hj|hj
  ·exact hj
  ·rw[aT (by simp;omega)]at hu;cases hu
 rw[iL,h.R.1,show 18+j=(j+1)+17 by omega,Tu.LC t (j+1) (by omega),fD.Fe _ j hj,<-hu];simp[au,hj]
def Le(w:ak)(bs:List UInt8)(e:lJ)(w':ak):Prop:=∃A n c,e=.a (.a A n c)/\n=bs.a/\w'.c w.a.j 5 1 (.a A n c) n (bs.map bv)/\aM w.a.j w w'
def ayr(w:ak)(q:Nat)(c:Array aB)(bs:List UInt8)(e:lJ)(w':ak):Prop:=∃A n c2,e=.a (.a A n c2)/\n=bs.a/\w'.c w.a.j 5 1 (.a A n c2) n (bs.map bv)/\aM w.a.j w w'/\dP w' q c
theorem adB(t:Tu)(f p:UInt8)(hf:f=if t.h.h then 6 else 4)(hp:p=aJ t.aN.e)(l:List UInt8)(hl:l=jd t.kg.e 2 true++jd t.iG.e 2 true):[[f],t.h.b.a,t.dst.b.a,[p],l].flatten=MX t:=by
 subst hf hp hl;simp[MX]
theorem ap'(t:Tu):(MX t).a=38:=by simp[MX,vU]
def yj(t:Tu):Prop:=(0<=t.aN/\t.aN<=255)/\(0<=t.kg/\t.kg<=65535)/\(0<=t.iG/\t.iG<=65535)
theorem aDc(W w0:ak)(q:Nat)(t:Tu)(f p:UInt8)(fi pi:Int)(A:Option aV)(n c:Nat)(l:List UInt8)(hf:f=if t.h.h then 6 else 4)(hp:p=aJ t.aN.e)(hl:l=jd t.kg.e 2 true++jd t.iG.e 2 true)
 (hfi:fi=(f.e:Int)) (hpi:pi=(p.e:Int)) (hB:dP W q t.ay) (hr:gG W W.a.j A n l) (hn:n=4) (h0:aM w0.a.j w0 W) :
 aR ah 181 #[.a (some ⟨W.a.j+1+1,0,none⟩) 5 5] (((W.alloc (.D #[.b .b fi] 5)).alloc (.D #[.b .b pi] 5)).alloc (.D (zy [⟨some ⟨W.a.j,0,none⟩,1,1⟩,⟨some ⟨q,1,none⟩,16,16⟩,⟨some ⟨q,18,none⟩,16,16⟩,⟨some ⟨W.a.j+1,0,none⟩,1,1⟩,⟨A,n,c⟩]) 56)) (ayr w0 q t.ay (MX t)):=by
 have e1:(W.alloc (.D #[.b .b fi] 5)).a.j=W.a.j+1:=by simp
 have e2:((W.alloc (.D #[.b .b fi] 5)).alloc (.D #[.b .b pi] 5)).a.j=W.a.j+1+1:=by simp
 have up:∀{A:Option aV} {n:Nat} {l:List UInt8},gG W W.a.j A n l->gG ((W.alloc (.D #[.b .b fi] 5)).alloc (.D #[.b .b pi] 5)) ((W.alloc (.D #[.b .b fi] 5)).alloc (.D #[.b .b pi] 5)).a.j A n l:=fun h=>
  ((h.alloc (av _) _).alloc (by rw[e1];omega) _).lD (by rw[e2];omega)
 have h1:=((FH W f fi hfi).alloc (by rw[e1];omega) (.D #[.b .b pi] 5)).lD (show W.a.j+1<=((W.alloc (.D #[.b .b fi] 5)).alloc (.D #[.b .b pi] 5)).a.j by rw[e2];omega);have h4:=(FH (W.alloc (.D #[.b .b fi] 5)) p pi hpi).lD (show _<=((W.alloc (.D #[.b .b fi] 5)).alloc (.D #[.b .b pi] 5)).a.j by rw[e2,e1];omega);rw[e1]at h4;have:=Dj [⟨some ⟨W.a.j,0,none⟩,1,1⟩,⟨some ⟨q,1,none⟩,16,16⟩,⟨some ⟨q,18,none⟩,16,16⟩,⟨some ⟨W.a.j+1,0,none⟩,1,1⟩,⟨A,n,c⟩] [[f],t.h.b.a,t.dst.b.a,[p],l] 56 5 _ rfl (.cons h1 (.cons (up (Tu.rdS hB)) (.cons (up (Tu.rdD hB)) (.cons h4 (.cons (up hr) .nil))))) (by omega) (by simp[zw,hn]);rw[e2,adB t f p hf hp l hl]at this;refine this.g ?_;rintro e w' ⟨A',m,c',rfl,hm,_,ho,hb⟩;have hsz:=h0.j;have hWb:=(((aG W.a.j W).alloc (av _) _).alloc (by simp) _).trans (hb.g (by omega));exact⟨A',m,c',rfl,hm,iU ho (by omega),jD h0 hWb,hB.go hWb⟩
theorem aDd(W w0:ak)(q:Nat)(t:Tu)(f p:UInt8)(fi pi:Int)(A:Option aV)(n c:Nat)(l:List UInt8)(hf:f=if t.h.h then 6 else 4)(hp:p=aJ t.aN.e)(hl:l=jd t.kg.e 2 true++jd t.iG.e 2 true)
 (hfi:fi=(f.e:Int)) (hpi:pi=(p.e:Int)) (hB:dP W q t.ay) (hr:gG W W.a.j A n l) (hn:n=4) (h0:aM w0.a.j w0 W) :
 aR ah 181 #[.a (some ⟨W.a.j+1+1,0,none⟩) 5 5] (((W.alloc (.D #[.b .b pi] 5)).alloc (.D #[.b .b fi] 5)).alloc (.D (zy [⟨some ⟨W.a.j+1,0,none⟩,1,1⟩,⟨some ⟨q,1,none⟩,16,16⟩,⟨some ⟨q,18,none⟩,16,16⟩,⟨some ⟨W.a.j,0,none⟩,1,1⟩,⟨A,n,c⟩]) 56)) (ayr w0 q t.ay (MX t)):=by
 have e1:(W.alloc (.D #[.b .b pi] 5)).a.j=W.a.j+1:=by simp
 have e2:((W.alloc (.D #[.b .b pi] 5)).alloc (.D #[.b .b fi] 5)).a.j=W.a.j+1+1:=by simp
 have up:∀{A:Option aV} {n:Nat} {l:List UInt8},gG W W.a.j A n l->gG ((W.alloc (.D #[.b .b pi] 5)).alloc (.D #[.b .b fi] 5)) ((W.alloc (.D #[.b .b pi] 5)).alloc (.D #[.b .b fi] 5)).a.j A n l:=fun h=>
  ((h.alloc (av _) _).alloc (by rw[e1];omega) _).lD (by rw[e2];omega)
 have h4:=((FH W p pi hpi).alloc (by rw[e1];omega) (.D #[.b .b fi] 5)).lD (show W.a.j+1<=((W.alloc (.D #[.b .b pi] 5)).alloc (.D #[.b .b fi] 5)).a.j by rw[e2];omega);have h1:=(FH (W.alloc (.D #[.b .b pi] 5)) f fi hfi).lD (show _<=((W.alloc (.D #[.b .b pi] 5)).alloc (.D #[.b .b fi] 5)).a.j by rw[e2,e1];omega);rw[e1]at h1;have:=Dj [⟨some ⟨W.a.j+1,0,none⟩,1,1⟩,⟨some ⟨q,1,none⟩,16,16⟩,⟨some ⟨q,18,none⟩,16,16⟩,⟨some ⟨W.a.j,0,none⟩,1,1⟩,⟨A,n,c⟩] [[f],t.h.b.a,t.dst.b.a,[p],l] 56 5 _ rfl (.cons h1 (.cons (up (Tu.rdS hB)) (.cons (up (Tu.rdD hB)) (.cons h4 (.cons (up hr) .nil))))) (by omega) (by simp[zw,hn]);rw[e2,adB t f p hf hp l hl]at this;refine this.g ?_;rintro e w' ⟨A',m,c',rfl,hm,_,ho,hb⟩;have hsz:=h0.j;have hWb:=(((aG W.a.j W).alloc (av _) _).alloc (by simp) _).trans (hb.g (by omega));exact⟨A',m,c',rfl,hm,iU ho (by omega),jD h0 hWb,hB.go hWb⟩
theorem aaW(t:Tu)(ht:yj t)(w:ak):aR ah 98 #[.d t.ay] w (Le w (MX t)):=by
 obtain⟨⟨p1,p2⟩,⟨s1,s2⟩,d1,d2⟩:=ht;have T0:=ab (dP.new w t.ay 81);have B0:=ab ((aG w.a.j w).alloc (av _) (.D t.ay 81));obtain⟨w1,hw1⟩:=cB (w.alloc (.D t.ay 81));obtain⟨sn,hsn⟩:∃sn:Nat,t.kg=(sn:Int):=⟨t.kg.e,by omega⟩
 obtain⟨dn,hdn⟩:∃dn:Nat,t.iG=(dn:Int):=⟨t.iG.e,by omega⟩
 have PS:=ab (fun W=>xH sn (by omega) W);have PD:=ab (fun W=>xH dn (by omega) W);have cs:jG.wrap t.kg=(sn:Int):=by rw[jZ];omega
 have cd:jG.wrap t.iG=(dn:Int):=by rw[jZ];omega
 have cp:aX.wrap t.aN=t.aN:=by rw[Iz];omega
 obtain⟨f,hf⟩:∃f:UInt8,f=if t.h.h then 6 else 4:=⟨_,rfl⟩
 have HL:=ab (show jd sn 2 true++jd dn 2 true=jd t.kg.e 2 true++jd t.iG.e 2 true by rw[show sn=t.kg.e by omega,show dn=t.iG.e by omega]);have HPI:=ab (show t.aN=((aJ t.aN.e).e:Int)by rw[dig _ (by omega)];omega);obtain⟨fi,hfi⟩:∃fi:Int,fi=(f.e:Int):=⟨_,rfl⟩
 have KS:=ab (show∀W',dP W' w.a.j t.ay->W'.b ⟨w.a.j,35,none⟩=some (.b .a t.kg)/\W'.b ⟨w.a.j,36,none⟩=some (.b .a t.iG)from fun W' h=>⟨by rw[h.R.1];exact Tu.afN t,by rw[h.R.1];exact Tu.Qd t⟩);have KP:=ab (show∀W',dP W' w.a.j t.ay->W'.b ⟨w.a.j,34,none⟩=some (.b .a t.aN)from fun W' h=>by rw[h.R.1];exact Tu.Qc t);have CA:=ab (fun W A n c (hB:dP W w.a.j t.ay) (hr:gG W W.a.j A n (jd sn 2 true++jd dn 2 true)) (hn:n=4) (h0:aM w.a.j w W)=>aDc W w w.a.j t f _ fi t.aN A n c _ hf rfl HL.i hfi HPI.i hB hr hn h0);have CB:=ab (fun W A n c (hB:dP W w.a.j t.ay) (hr:gG W W.a.j A n (jd sn 2 true++jd dn 2 true)) (hn:n=4) (h0:aM w.a.j w W)=>aDd W w w.a.j t f _ fi t.aN A n c _ hf rfl HL.i hfi HPI.i hB hr hn h0);have HFI:=ab (show fi=if t.h.h then 6 else 4 by rw[hfi,hf];cases t.h.h<;>rfl);rw[<-hw1]at T0 B0;have hb1:w.a.j<w1.a.j:=by rw[hw1];simp
 have LB0:=ab (show w.a.j+1<=w1.drew.a.j from hb1);have LB1:=ab (show∀W,aM w1.drew.a.j w1.drew W->w.a.j+1<=W.a.j from fun W h=>aP hb1 h.j);have H4:=ab (show(jd sn 2 true).a+2<=1000000000 by rw[vU];omega);clear hf hfi hsn hdn p1 p2 s1 s2 d1 d2;obtain⟨jv,aDf⟩:∃b,t.h.h=b:=⟨_,rfl⟩
 rw[aDf]at HFI;subst hw1;cases jv
 all_goals
  have ayt:=HFI.i;simp only[fM,if_false,if_true]at ayt;subst ayt;clear HFI;go_enter Tryz.func98,Tryz.ntmps98;go_wp2_with fail;go_cut [4]from 8 to 16 (fun s4 wx=>∃A n c,s4=.a A n c/\wx.c w.a.j 5 1 (.a A n c) n ((jd sn 2 true++jd dn 2 true).map bv)/\aM w.a.j w wx/\dP wx w.a.j t.ay)
  case first=>
   go_region_held_law (fun W'=>W'.b ⟨w.a.j,35,none⟩=some (.b .a t.kg)/\W'.b ⟨w.a.j,36,none⟩=some (.b .a t.iG))
    (first|exact KS.i _ T0.i.drew|exact KS.i _ Ta.i|exact KS.i _ Tb.i|exact KS.i _ Tc.i|exact KS.i _ Td.i|exact KS.i _ Tz.i|go_keep)
    (first|(go_at_call 184;(with_reducible refine(PS.i _).g ?_);rintro e wa ⟨Awa,rfl,ho,hb⟩;have Oa:=ab ho;have Ta:=ab (T0.i.drew.go hb);have Ba:=ab (jD B0.i (NR hb));clear ho hb)|(go_at_call 184;(with_reducible refine(PD.i _).g ?_);rintro e wb ⟨Awb,rfl,ho,hb⟩;have Ob:=ab ho;have Tb:=ab (T0.i.drew.go hb);have Bb:=ab (jD B0.i (NR hb));have Lb:=ab (LB1.i _ hb);clear ho hb)|(go_at_call 184;(with_reducible refine(PD.i _).g ?_);rintro e wc2 ⟨aDg,rfl,ho,hb⟩;have Tc:=ab (Ta.i.go hb);have Bc:=ab (jD Ba.i hb);have Q1:=ab (asx Oa.i LB0.i hb);have Q2:=ab (Ec ho (aG _ _));clear ho hb)|(go_at_call 184;(with_reducible refine(PS.i _).g ?_);rintro e wd ⟨Awd,rfl,ho,hb⟩;have Td:=ab (Tb.i.go hb);have Bd:=ab (jD Bb.i hb);have Q3:=ab (asx ho Lb.i (aG _ _));have Q4:=ab (Ec Ob.i hb);clear ho hb)|(refine NQ (o:=⟨some 16,_,_,_,_,_⟩) rfl (.tmp 11) (.tmp 15) rfl (.a Awd 2 2) Awb 2 2 rfl Q3.i rfl Q4.i H4.i ?_;intro A3 n3 c3 w3 h2 h3;have Tz:=ab (ap9 h2 Bd.i Td.i).2;have Oz:=ab (ap9 h2 Bd.i Td.i).1;clear h2 h3)|(refine NQ (o:=⟨some 16,_,_,_,_,_⟩) rfl (.tmp 11) (.tmp 15) rfl (.a Awa 2 2) aDg 2 2 rfl Q1.i rfl Q2.i H4.i ?_;intro A3 n3 c3 w3 h2 h3;have Tz:=ab (ap9 h2 Bc.i Tc.i).2;have Oz:=ab (ap9 h2 Bc.i Tc.i).1;clear h2 h3))
   all_goals
    go_wp2_with fail;go_meet
    case rel=>obtain⟨A9,n9,c9,e9,ho9,hb9⟩:=Oz.i;exact⟨A9,n9,c9,e9,ho9,hb9,Tz.i⟩
  case rest=>
   obtain⟨A,n,c,rfl,ho,hb,hT⟩:=hcut;have hn4:n=4:=by have:=ho.1;rw[bW,aQ,vU,vU]at this;omega
   subst hn4;have HT:=ab hT;have HB:=ab hb;have HR:=ab (gG.jh ho);clear ho hb hT;go_wp2_with fail;have CA1:=CA.i wc.drew A 4 c HT.i.drew HR.i rfl HB.i.drew;have CB1:=CB.i wc.drew A 4 c HT.i.drew HR.i rfl HB.i.drew;simp only[show wc.drew.a.j=wc.a.j from rfl,show∀(w:ak) ob,w.drew.alloc ob=(w.alloc ob).drew from fun _ _=>rfl]at CA1 CB1;have CA2:=ab CA1;have CB2:=ab CB1;clear CA1 CB1;go_region_held_law (fun W'=>W'.b ⟨w.a.j,34,none⟩=some (.b .a t.aN))
    (first|exact KP.i _ HT.i.drew|exact KP.i _ (HT.i.drew.alloc _)|exact KP.i _ ((HT.i.drew.alloc _).alloc _)|exact KP.i _ (((HT.i.drew.alloc _).alloc _).alloc _)|exact KP.i _ FX.i|go_keep)
    (first|(go_at_call 181;(with_reducible refine CA2.i.g ?_);rintro e w2 ⟨A2,n2,c2,rfl,hn2,ho2,hb2,hx2⟩;have FX:=ab hx2;have FN:=ab hn2;have FO:=ab ho2;have FB:=ab hb2;clear hn2 ho2 hb2 hx2)|(go_at_call 181;(with_reducible refine CB2.i.g ?_);rintro e w2 ⟨A2,n2,c2,rfl,hn2,ho2,hb2,hx2⟩;have FX:=ab hx2;have FN:=ab hn2;have FO:=ab ho2;have FB:=ab hb2;clear hn2 ho2 hb2 hx2))
   all_goals
    go_wp2_with fail;go_ret;exact⟨_,_,_,rfl,FN.i,FO.i,FB.i⟩
theorem afW(l:List UInt8):jd (o9 l) l.a true=l:=by
 simp[jd,Rw]
theorem VG(l:List UInt8)(k:Nat)(h:l.a=k):jd (o9 l) k true=l:=by rw[<-h];exact afW l
theorem adC{n m k:Nat}(hn:n<2^(8*k))(hm:m<2^(8*k))(h:jd n k true=jd m k true):n=m:=by
 have h1:xk n k=xk m k:=by
  have:=congrArg List.reverse h;simpa[jd]using this
 have h2:∀i,i<k->I9 n i=I9 m i:=fun i hi=>by
  have:=congrArg (fun l:List UInt8=>l[i]?) h1;simpa[xk,hi]using this
 have h3:=acI k h2;rw[gy hn,gy hm]at h3;exact h3
theorem VH(l:List UInt8):o9 l<2^(8*l.a):=by
 have:=Kk l;rw[Nat.pow_mul];exact this
theorem afX{n k:Nat}(hn:n<2^(8*k)):o9 (jd n k true)=n:=by
 have hl:(jd n k true).a=k:=vU _ _ _;have h:=VG (jd n k true) k hl;have h2:=VH (jd n k true);rw[hl]at h2;exact adC h2 hn h
theorem Qg(l t:List UInt8)(k:Nat)(h:l.a=k):Ik k (some (l++t))=(l,some t):=by
 subst h;simp[Ik]
theorem Qh{k:Nat}{s:RS}{l t:List UInt8}(h:Ik k s=(l,some t)):s=some (l++t)/\l.a=k:=by
 cases s with
 | none=>simp[Ik]at h
 | some b=>
   unfold Ik at h;simp only at h;split at h
   ·rename_i hk
    injection h with h1 h2
    injection h2 with h2
    subst h1 h2;exact⟨by rw[iQ],by rw[List.length_take];omega⟩
   ·injection h with h1 h2;cases h2
theorem NT(n k:Nat)(t:List UInt8)(hn:n<2^(8*k)):acN k (some (jd n k true++t))=(n,some t):=by
 unfold acN;rw[Qg (jd n k true) t k (vU _ _ _)];simp only[afX hn]
theorem NU{k n:Nat}{s:RS}{t:List UInt8}(h:acN k s=(n,some t)):s=some (jd n k true++t)/\n<2^(8*k):=by
 unfold acN at h;injection h with h1 h2
 have h3:Ik k s=((Ik k s).1,some t):=by rw[<-h2]
 obtain⟨h4,h5⟩:=Qh h3;refine⟨?_,?_⟩
 ·rw[<-h1,VG _ k h5];exact h4
 ·have:=VH (Ik k s).1
  rw[h5]at this;rw[<-h1];exact this
theorem ahP(n:Nat)(hn:n<256):jd n 1 true=[aJ n]:=by
 simp[jd,xk,I9]
theorem amO{n:Nat}(v:Vector UInt8 n):lZ n v.a=v:=by
 apply AB;intro i hi;simp[lZ,hi]
theorem adD{n:Nat}(l:List UInt8)(h:l.a=n):(lZ n l).a=l:=by
 apply List.ext_getElem
 ·simp[h]
 ·intro i h1 h2
  simp[lZ,h2]
structure Cdc{α:Type}(one:RS->(α×Bool)×RS)(lay:α->List UInt8)(ok:α->Prop):Prop where
 fwd:∀x t,ok x->one (some (lay x++t))=((x,true),some t)
 inv:∀s x t,one s=((x,true),some t)->ok x->s=some (lay x++t)
theorem Cr{α:Type}{p:α×RS}{t:List UInt8}(h:p.2=some t):p=(p.1,some t):=Prod.ext rfl h
def YK(t:Tu):Prop:=t.h.h=t.dst.h/\(0<=t.aN/\t.aN<=255)/\(0<=t.kg/\t.kg<=65535)/\0<=t.iG/\t.iG<=65535
theorem amP:Cdc tuO MX YK where
 fwd:=by
  intro x t ⟨h0,⟨h1,h2⟩,⟨h3,h4⟩,h5,h6⟩;have hf:∀b:Bool,(if b then 6 else 4:Nat)<2^(8*1):=by intro b;cases b<;>decide
  have e0:MX x++t=jd (if x.h.h then 6 else 4) 1 true++(x.h.b.a++(x.dst.b.a++(jd x.aN.e 1 true++(jd x.kg.e 2 true++(jd x.iG.e 2 true++t))))):=by
   have:∀b:Bool,jd (if b then 6 else 4) 1 true=[if b then 6 else 4]:=by intro b;cases b<;>decide
   rw[ahP x.aN.e (by omega),this];simp[MX,bM]
  rw[e0];unfold tuO;simp only[NT _ 1 _ (hf _),Qg x.h.b.a _ 16 (by simp),Qg x.dst.b.a _ 16 (by simp),NT x.aN.e 1 _ (by omega),NT x.kg.e 2 _ (by omega),NT x.iG.e 2 _ (by omega),amO];have g:∀b:Bool,(((if b then 6 else 4:Nat)==6)=b)/\(b||((if b then 6 else 4:Nat)==4))=true:=by intro b;cases b<;>decide
  simp only[(g _).1,(g _).2];congr 2;obtain⟨⟨a,b⟩,⟨c,d⟩,p,q,r⟩:=x;simp only at h0 h1 h2 h3 h4 h5 h6 ⊢;subst h0;congr<;>omega
 inv:=by
  intro s x t h _;unfold tuO at h;simp only[Prod.mk.injEq]at h;obtain⟨⟨h1,c⟩,h2⟩:=h;obtain⟨i6,_⟩:=NU (Cr h2);obtain⟨i5,_⟩:=NU (Cr i6);obtain⟨i4,l4⟩:=NU (Cr i5);obtain⟨i3,l3⟩:=Qh (Cr i4);obtain⟨i2,l2⟩:=Qh (Cr i3);obtain⟨i1,_⟩:=NU (Cr i2);rw[i1,<-h1];congr 1;unfold MX;have:∀n:Nat,((n==6)||(n==4))=true->jd n 1 true=[if(n==6)=true then 6 else 4]:=by
   intro n hn;simp at hn;rcases hn with rfl|rfl<;>decide
  rw[this _ c];have e4:∀n:Nat,n<2^(8*1)->[aJ n]=jd n 1 true:=fun n hn=>(ahP n (by omega)).symm
  simp only[bM,adD _ l2,adD _ l3,Int.toNat_natCast,e4 _ l4]
theorem aqa(n m:Int):Yf n m=true↔0<=n/\n<=m:=by simp[Yf]
theorem NV{x:Tu}(h:Gz x=true):YK x:=by
 unfold Gz at h;simp only[bf,decide_eq_true_eq,aqa]at h;exact⟨h.1.1.1.1.1,h.1.1.2,h.1.2,h.2⟩
structure Ly(B:Nat)(L:List (Nat×Array aB))(w0 W:ak)(v:aB)(bs:List UInt8):Prop where
 o:Ow B none w0 v bs W
 J:∀p∈L,dP W p.1 p.2/\v.f≠some p.1
section
variable {B:Nat} {L:List (Nat×Array aB)} {w0 W W':ak} {v v':aB} {bs bs':List UInt8}
theorem Ly.go(h:Ly B L w0 W v bs)(hb:aM W.a.j W W'):Ly B L w0 W' v bs:=⟨h.o.go hb,fun p hp=>⟨(h.J p hp).1.go hb,(h.J p hp).2⟩⟩
theorem Ly.alloc(h:Ly B L w0 W v bs)(ob:Obj):Ly B L w0 (W.alloc ob) v bs:=h.go ((aG _ _).alloc (av _) ob)
theorem Ly.drew(h:Ly B L w0 W v bs):Ly B L w0 W.drew v bs:=⟨h.o.drew,fun p hp=>⟨(h.J p hp).1.drew,(h.J p hp).2⟩⟩
theorem Ly.new(h:Ly B L w0 W v bs)(c:Array aB)(t:bL):Ly B ((W.a.j,c)::L) w0 (W.alloc (.D c t)) v bs:=
 ⟨(h.alloc _).o,fun p hp=>by
   rcases bD.1 hp with rfl|hp
   ·exact⟨dP.new W c t,fun e=>absurd (h.o.lt e) (Nat.lt_irrefl _)⟩
   ·exact(h.alloc _).J p hp⟩
theorem Ly.add(h:Ly B L w0 W v bs){q:Nat}{c:Array aB}(hb:dP W q c)(hq:v.f≠some q):Ly B ((q,c)::L) w0 W v bs:=
 ⟨h.o,fun p hp=>by
  rcases bD.1 hp with rfl|hp
  ·exact⟨hb,hq⟩
  ·exact h.J p hp⟩
theorem Ly.step(h:Ly B L w0 W v bs)(k:Ow B v.f W v' bs' W'):Ly B L w0 W' v' bs':=
 ⟨h.o.step k,fun p hp=>⟨k.box (h.J p hp).1 (fun e=>(h.J p hp).2 e.symm),by
  rcases k.xG with e|⟨j,e,e2⟩
  ·rw[e];exact(h.J p hp).2
  ·rw[e];intro e3;injection e3 with e3;have:=(h.J p hp).1.lt;omega⟩⟩
theorem Ly.TS{p:Nat×Array aB}(h:Ly B (p::L) w0 W v bs):Ly B L w0 W v bs:=⟨h.o,fun q hq=>h.J q (kr _ hq)⟩
theorem Ly.Z{q:Nat}{c:Array aB}(h:Ly B ((q,c)::L) w0 W v bs):dP W q c:=(h.J (q,c) (by simp)).1
theorem Ly.b1{p:Nat×Array aB}{q:Nat}{c:Array aB}(h:Ly B (p::(q,c)::L) w0 W v bs):dP W q c:=h.TS.Z
theorem Ly.b2{p p2:Nat×Array aB}{q:Nat}{c:Array aB}(h:Ly B (p::p2::(q,c)::L) w0 W v bs):dP W q c:=h.TS.TS.Z
end
theorem RdI.box{W:ak}{q o:Nat}{l:List Int}{c:Array aB}(h:dP W q c)(hc:∀j,j<l.a->c[o+j]? = some (.b .a (l.b j 0))):RdI W W.a.j (some ⟨q,o,none⟩) l.a l:=by
 have hf:(l.d fun x=>(GU x).a)=l.map (aI .a):=by
  clear hc
  induction l with
  | nil=>rfl
  | cons z l ih=>simp only[iW,ih];rfl
 refine⟨rfl,⟨by rw[hf];simp,fun _=>⟨_,rfl,h.lt,?_⟩⟩,fun a h _=>by injection h with h;rw[<-h]⟩;intro j v hv;rw[hf]at hv;have hj:j<l.a:=by
  rcases aZ j l.a with hj|hj
  ·exact hj
  ·rw[aT (by simpa using hj)]at hv;cases hv
 rw[iL,h.R.1,hc j hj,<-hv];simp[au,hj]
theorem YM(l:List Int)(j:Nat)(hj:j<l.a):(tZ l)[0+j]? = some (.b .a (l.b j 0)):=by
 simp[tZ,au,hj]
theorem Ly.nil{w:ak}:Ly w.a.j [] w w (.a none 0 0) []:=⟨Ow.nil w,fun p hp=>by cases hp⟩
def aaX{α:Type}(t e:bL)(f:α->Array aB)(sz:Nat):Prop:=∃(i:oh)(z:aB),ah.k t=some (.a e)/\ah.l e=some i/\i.zero=some z/\i.j=sz/\z.D.j=sz/\0<sz/\i.bytes<=1000/\(∀x,(f x).j=sz)/\∀x,(f x).all (·.h)=true
structure Rz{α:Type}(f:α->Array aB)(sz:Nat)(e:bL)(L:List (Nat×Array aB))(w0 W:ak)(v:aB)(l:List α):Prop where
 vM:W.c w0.a.j e sz v l.a (l.d fun x=>(f x).a)
 X:aM w0.a.j w0 W
 J:∀p∈L,dP W p.1 p.2/\v.f≠some p.1
section
variable {α:Type} {f:α->Array aB} {sz:Nat} {e t:bL} {L:List (Nat×Array aB)} {w0 W W':ak} {v v':aB} {l ys:List α}
theorem Rz.nil(w:ak):Rz f sz e [] w w (.a none 0 0) []:=⟨fQ _ _ _ _,aG _ _,fun p hp=>by cases hp⟩
theorem Rz.go(h:Rz f sz e L w0 W v l)(hb:aM W.a.j W W'):Rz f sz e L w0 W' v l:=⟨jH h.vM hb,jD h.X hb,fun p hp=>⟨(h.J p hp).1.go hb,(h.J p hp).2⟩⟩
theorem Rz.alloc(h:Rz f sz e L w0 W v l)(ob:Obj):Rz f sz e L w0 (W.alloc ob) v l:=h.go ((aG _ _).alloc (av _) ob)
theorem Rz.drew(h:Rz f sz e L w0 W v l):Rz f sz e L w0 W.drew v l:=⟨h.vM,h.X.drew,fun p hp=>⟨(h.J p hp).1.drew,(h.J p hp).2⟩⟩
theorem Rz.lt(h:Rz f sz e L w0 W v l){k:Nat}(hk:v.f=some k):w0.a.j<=k/\k<W.a.j:=h.vM.lt k hk
theorem Rz.new(h:Rz f sz e L w0 W v l)(c:Array aB)(t:bL):Rz f sz e ((W.a.j,c)::L) w0 (W.alloc (.D c t)) v l:=
 ⟨(h.alloc _).vM,(h.alloc _).X,fun p hp=>by
   rcases bD.1 hp with rfl|hp
   ·exact⟨dP.new W c t,fun e=>absurd (h.lt e).2 (Nat.lt_irrefl _)⟩
   ·exact(h.alloc _).J p hp⟩
theorem Rz.TS{p:Nat×Array aB}(h:Rz f sz e (p::L) w0 W v l):Rz f sz e L w0 W v l:=⟨h.vM,h.X,fun q hq=>h.J q (kr _ hq)⟩
theorem Rz.Z{q:Nat}{c:Array aB}(h:Rz f sz e ((q,c)::L) w0 W v l):dP W q c:=(h.J (q,c) (by simp)).1
theorem Rz.b1{p:Nat×Array aB}{q:Nat}{c:Array aB}(h:Rz f sz e (p::(q,c)::L) w0 W v l):dP W q c:=h.TS.Z
theorem Rz.DT(h:Rz f sz e L w0 W v l):∃A c,v=.a A l.a c:=by obtain⟨A,c,e,_⟩:=j3 h.vM;exact⟨A,c,e⟩
theorem Rz.rd{A:Option aV}{n c:Nat}(h:Rz f sz e L w0 W (.a A n c) l):iT f sz W W.a.j A n l:=by
 obtain⟨A2,c2,e2⟩:=h.DT;injection e2 with e3 e4 e5
 subst e3 e4 e5;exact iT.jh rfl h.vM
theorem Rz.len{A:Option aV}{n c:Nat}(h:Rz f sz e L w0 W (.a A n c) l):n=l.a:=h.rd.1.symm
theorem Rz.grown(h:Rz f sz e L w0 W v l)(hg:W.d W' v.f)(h1:W'.c w0.a.j e sz v' ys.a (ys.d fun x=>(f x).a))(h2:v'.f=v.f\/v'.f=some W.a.j):Rz f sz e L w0 W' v' ys:=by
 refine⟨h1,⟨hg.os.trans h.X.os,hg.tape.trans h.X.tape,hg.output.trans h.X.output,aP h.X.j hg.j,fun k hk=>(hg.block k (fE hk h.X.j) (fun e=>by have:=(h.lt e.symm).1;omega)).trans (h.X.block k hk)⟩,fun p hp=>⟨(h.J p hp).1.grown hg (fun e=>(h.J p hp).2 e.symm),?_⟩⟩;rcases h2 with e|e
 ·rw[e];exact(h.J p hp).2
 ·rw[e];intro e3;injection e3 with e3;have:=(h.J p hp).1.lt;omega
theorem asz(T:aaX t e f sz){o:ji}{a:rO}{K:rO->ak->Prop}{Q:Bn->rO->ak->Prop}(s x:ql)
 (ho:o.op=.call {callee:=.builtin .append,args:=#[s,x],argTypes:=#[t,t]}) (hs:a.eval s=v) (H:Rz f sz e L w0 W v l) {C:Nat} {A:Option aV} {m c:Nat} (hx:a.eval x=.a A m c) (hr:iT f sz W C A m ys)
 (hlen:l.a+m<=1000000)
 (h:∀A' n' c' w',Rz f sz e L w0 w' (.a A' n' c') (l++ys)->W.d w' v.f->K (a.put o.dst (.a A' n' c')) w'):o.wp ah a W K Q:=by
 obtain⟨i,z,ht,hi,hz,h1,h2,h3,h4,h5,h6⟩:=T;have hm:=hr.1;refine Kj W s x t ho w0.a.j e i z sz i.bytes ht hi hz h1 rfl h2 h3 v l.a _ hs H.vM C A m c _ hx hr.2.1 (Fa f h6 ys) (by unfold maxLen;omega) (aP (Nat.mul_le_mul hlen h4) (by omega)) H.X.j ?_;intro v1 w1 k1 k2 k3;rw[acr,<-hm,<-aQ]at k1;have hk:=H.grown k2 k1 k3;obtain⟨A',c',rfl⟩:=hk.DT;exact h A' _ c' w1 hk k2
theorem Qi(T:aaX t e f sz){ops:Array ji}{rest:List ji}{o:ji}{a:rO}{Q:Bn->rO->ak->Prop}(hgd:o.guard=none)(s x:ql)
 (ho:o.op=.call {callee:=.builtin .append,args:=#[s,x],argTypes:=#[t,t]}) (hs:a.eval s=v) (H:Rz f sz e L w0 W v l) {C:Nat} {A:Option aV} {m c:Nat} (hx:a.eval x=.a A m c) (hr:iT f sz W C A m ys)
 (hlen:l.a+m<=1000000)
 (h:∀A' n' c' w',Rz f sz e L w0 w' (.a A' n' c') (l++ys)->W.d w' v.f->wpList ah ops Q rest (a.put o.dst (.a A' n' c')) w'):wpList ah ops Q (o::rest) a W:=
 uq hgd fun _ hK=>asz T s x ho hs H hx hr hlen fun A' n' c' w' h2 h3=>hK _ _ (h A' n' c' w' h2 h3)
theorem aqb(T:aaX t e f sz){ops:Array ji}{o:ji}{a:rO}{K:rO->ak->Prop}{Q:Bn->rO->ak->Prop}{E:Prop}(hgd:o.guard=none)(s x:ql)
 (ho:o.op=.call {callee:=.builtin .append,args:=#[s,x],argTypes:=#[t,t]}) (hs:a.eval s=v) (H:Rz f sz e L w0 W v l) {C:Nat} {A:Option aV} {m c:Nat} (hx:a.eval x=.a A m c) (hr:iT f sz W C A m ys)
 (hlen:l.a+m<=1000000)
 (h:∀A' n' c' w',Rz f sz e L w0 w' (.a A' n' c') (l++ys)->W.d w' v.f->K (a.put o.dst (.a A' n' c')) w'):if fK o (yielded ops a.tmps)=true then nV ah o a W K Q else E:=by
 have hw:fK o (yielded ops a.tmps)=true:=by simp[fK,hgd]
 rw[if_pos hw];exact asz T s x ho hs H hx hr hlen h
end
theorem ajs(l:List Bk)(hs:Fj l)(s:List UInt8)(v:Int)(A:Option aV)(n c:Nat)(w:ak)(hR:iT Bk.ay 27 w w.a.j A n l)(hn:n<=100000)(K:Bool)(g:Bk)(h1:rX l s=K)(h2:qg l s=g):
 aR ah 33 #[.d #[.b .a v,.a A n c],.string (bK s)] w (gY w (.K #[.d g.ay,.e K])):=by
 obtain rfl:=hR.1;subst h1 h2;exact AJ l hs s v A c w hR (by omega)
theorem Ly.rd{B:Nat}{L:List (Nat×Array aB)}{w0 W:ak}{A:Option aV}{n c:Nat}{bs:List UInt8}(h:Ly B L w0 W (.a A n c) bs):gG W W.a.j A n bs:=by
 obtain⟨A2,c2,e2⟩:=h.o.DT;injection e2 with e3 e4 e5
 subst e3 e4 e5;exact gG.jh h.o.vM
theorem NW(d:Nat)(l m:List Int)(W:ak):∀is:List Nat,(∀i∈is,i<l.a/\i<m.a)->(KZ (d+1) 3 1 (tZ l) (tZ m) is).O ah W=.ok (is.all fun i=>l.b i 0==m.b i 0) W
 | [],_=>by simp[KZ]
 | i::is,h=>by
   have hi:=h i (by simp);have ih:=NW d l m W is (fun j hj=>h j (by simp[hj]));have p1:∀l:List Int,i<l.a->(part 3 (tZ l) (i*1)).O ah W=.ok (.b .a (l.b i 0)) W:=fun l hl=>
    ng (by simp only[fI]) (by rw[gP];have:=YM l i hl;rwa [bC]at this) W
   simp only[KZ,Sem.run_bind,p1 l hi.1,p1 m hi.2,gW,yY,List.all_cons];cases hb:(l.b i 0==m.b i 0)
   ·simp
   ·simpa using ih
theorem YN(v:Vector Int 11):zR v=tZ v.a:=rfl
theorem aqc(a b:Vector Int 11):((eu 11).all fun i=>a.a.b i 0==b.a.b i 0)=decide (a=b):=by
 rw[dG];simp only[gq,fq,beq_iff_eq,decide_eq_true_eq];constructor
 ·intro h
  apply AB;intro i hi;have:=h i hi;simpa[au,hi]using this
 ·rintro rfl i _
  rfl
theorem afY(a b:Vector Int 11)(d:Nat)(W:ak):(je (d+2) 35 (.d (zR a)) (.d (zR b))).O ah W=.ok (decide (a=b)) W:=by
 obtain⟨i0,hi0,_,_⟩:=TP;rw[run_equalIn_array W (d+1) _ _ Gi hi0,show ah.cellsOf 3=1 by kernel_rfl,YN,YN,NW d _ _ W _ (fun i hi=>by simp at hi⊢;exact hi),aqc]
@[go_sem ↓]theorem aDk(a b:Vector Int 11)(W:ak):(je 10000 35 (.d (zR a)) (.d (zR b))).O ah W=.ok (decide (a=b)) W:=afY a b 9998 W
theorem ajt:ah.k 81=some (.d (ah.fieldsOf 81)):=by
 simp only[jr,jN]
theorem aqd:∃f1 f2 f3 f4 f5:oz,(ah.fieldsOf 81).a=[f1,f2,f3,f4,f5]/\(f1.F ≠ "_" /\ f2.F ≠ "_" /\ f3.F ≠ "_" /\ f4.F ≠ "_" /\ f5.F ≠ "_")/\(f1.p=27/\f1.offset=0)/\(f2.p=27/\f2.offset=17)/\(f3.p=3/\f3.offset=34)/\(f4.p=3/\f4.offset=35)/\(f5.p=3/\f5.offset=36):=by
 refine⟨_,_,_,_,_,by simp only[jr,jN];rfl,⟨?_,?_,?_,?_,?_⟩,⟨rfl,rfl⟩,⟨rfl,rfl⟩,⟨rfl,rfl⟩,⟨rfl,rfl⟩,⟨rfl,rfl⟩⟩<;>decide
theorem Qj(x y:Tu)(d:Nat)(W:ak):(je (d+4) 81 (.d x.ay) (.d y.ay)).O ah W=.ok (decide (x=y)) W:=by
 rw[wF W (d+3) _ _ _ ajt Tryz.stoodInHeld81];obtain⟨f1,f2,f3,f4,f5,hl,⟨n1,n2,n3,n4,n5⟩,⟨t1,o1⟩,⟨t2,o2⟩,⟨t3,o3⟩,⟨t4,o4⟩,⟨t5,o5⟩⟩:=aqd;rw[hl];have p1:∀z:Tu,(part f1.p z.ay f1.offset).O ah W=.ok (.d z.h.ay) W:=fun z=>by
  rw[t1,o1,Cy (n:=17) (by simp only[fG]) (by kernel_rfl) z.ay 0 W,Tu.ajq]
 have p2:∀z:Tu,(part f2.p z.ay f2.offset).O ah W=.ok (.d z.dst.ay) W:=fun z=>by
  rw[t2,o2,Cy (n:=17) (by simp only[fG]) (by kernel_rfl) z.ay 17 W,show 17+17=34 from rfl,Tu.ajr]
 have p3:∀z:Tu,(part f3.p z.ay f3.offset).O ah W=.ok (.b .a z.aN) W:=fun z=>by
  rw[t3,o3];exact ng (by simp only[fI]) (Tu.Qc z) W
 have p4:∀z:Tu,(part f4.p z.ay f4.offset).O ah W=.ok (.b .a z.kg) W:=fun z=>by
  rw[t4,o4];exact ng (by simp only[fI]) (Tu.afN z) W
 have p5:∀z:Tu,(part f5.p z.ay f5.offset).O ah W=.ok (.b .a z.iG) W:=fun z=>by
  rw[t5,o5];exact ng (by simp only[fI]) (Tu.Qd z) W
 rw[show decide (x=y)=(decide (x.h=y.h)&&(decide (x.dst=y.dst)&&((x.aN==y.aN)&&((x.kg==y.kg)&&((x.iG==y.iG)&&true)))))by
  rw[dG];cases x;cases y;simp]
 exact gB _ _ _ _ _ n1 W _ _ _ _ (p1 x) (p1 y) (by rw[t1];exact GD _ _ d W)
  (gB _ _ _ _ _ n2 W _ _ _ _ (p2 x) (p2 y) (by rw[t2];exact GD _ _ d W)
  (gB _ _ _ _ _ n3 W _ _ _ _ (p3 x) (p3 y) (by rw[t3];exact yY _ _ _ W)
  (gB _ _ _ _ _ n4 W _ _ _ _ (p4 x) (p4 y) (by rw[t4];exact yY _ _ _ W)
  (gB _ _ _ _ _ n5 W _ _ _ _ (p5 x) (p5 y) (by rw[t5];exact yY _ _ _ W) (by simp[vw])))))
@[go_sem ↓]theorem aGN(x y:Tu)(W:ak):(je 10000 81 (.d x.ay) (.d y.ay)).O ah W=.ok (decide (x=y)) W:=Qj x y 9996 W
theorem aju:ah.k 86=some (.d (ah.fieldsOf 86)):=by
 simp only[jr,nM]
theorem aqe:∃f1 f2 f3 f4 f5:oz,(ah.fieldsOf 86).a=[f1,f2,f3,f4,f5]/\(f1.F ≠ "_" /\ f2.F ≠ "_" /\ f3.F ≠ "_" /\ f4.F ≠ "_" /\ f5.F ≠ "_")/\(f1.p=81/\f1.offset=0)/\(f2.p=9/\f2.offset=37)/\(f3.p=3/\f3.offset=38)/\(f4.p=3/\f4.offset=39)/\(f5.p=3/\f5.offset=40):=by
 refine⟨_,_,_,_,_,by simp only[jr,nM];rfl,⟨?_,?_,?_,?_,?_⟩,⟨rfl,rfl⟩,⟨rfl,rfl⟩,⟨rfl,rfl⟩,⟨rfl,rfl⟩,⟨rfl,rfl⟩⟩<;>decide
theorem ajv(x y:Fw)(d:Nat)(W:ak):(je (d+5) 86 (.d x.ay) (.d y.ay)).O ah W=.ok (decide (x=y)) W:=by
 rw[wF W (d+4) _ _ _ aju Tryz.stoodInHeld86];obtain⟨f1,f2,f3,f4,f5,hl,⟨n1,n2,n3,n4,n5⟩,⟨t1,o1⟩,⟨t2,o2⟩,⟨t3,o3⟩,⟨t4,o4⟩,⟨t5,o5⟩⟩:=aqe;rw[hl];have p1:∀z:Fw,(part f1.p z.ay f1.offset).O ah W=.ok (.d z.key.ay) W:=fun z=>by
  rw[t1,o1,Cy (n:=37) (by simp only[jN]) (by kernel_rfl) z.ay 0 W,bC,Fw.QX]
 have p2:∀z:Fw,(part f2.p z.ay f2.offset).O ah W=.ok (.string (bK z.F)) W:=fun z=>by
  rw[t2,o2];exact ng (by simp only[Tryz.underlying9]) (Fw.afO z) W
 have p3:∀z:Fw,(part f3.p z.ay f3.offset).O ah W=.ok (.b .a z.yF) W:=fun z=>by
  rw[t3,o3];exact ng (by simp only[fI]) (Fw.afP z) W
 have p4:∀z:Fw,(part f4.p z.ay f4.offset).O ah W=.ok (.b .a z.seen) W:=fun z=>by
  rw[t4,o4];exact ng (by simp only[fI]) (Fw.afQ z) W
 have p5:∀z:Fw,(part f5.p z.ay f5.offset).O ah W=.ok (.b .a z.no) W:=fun z=>by
  rw[t5,o5];exact ng (by simp only[fI]) (Fw.aaQ z) W
 rw[show decide (x=y)=(decide (x.key=y.key)&&((x.F==y.F)&&((x.yF==y.yF)&&((x.seen==y.seen)&&((x.no==y.no)&&true)))))by
  rw[dG];cases x;cases y;simp]
 exact gB _ _ _ _ _ n1 W _ _ _ _ (p1 x) (p1 y) (by rw[t1];exact Qj _ _ d W)
  (gB _ _ _ _ _ n2 W _ _ _ _ (p2 x) (p2 y) (by rw[t2];exact Pp _ _ _ W)
  (gB _ _ _ _ _ n3 W _ _ _ _ (p3 x) (p3 y) (by rw[t3];exact yY _ _ _ W)
  (gB _ _ _ _ _ n4 W _ _ _ _ (p4 x) (p4 y) (by rw[t4];exact yY _ _ _ W)
  (gB _ _ _ _ _ n5 W _ _ _ _ (p5 x) (p5 y) (by rw[t5];exact yY _ _ _ W) (by simp[vw])))))
@[go_sem ↓]theorem aGO(x y:Fw)(W:ak):(je 10000 86 (.d x.ay) (.d y.ay)).O ah W=.ok (decide (x=y)) W:=ajv x y 9995 W
def afZ(s t:qE):Bool:=UN s.nP s.h t.nP t.h&&decide (s.J=t.J)&&decide (s.tQ=t.tQ)&&(s.ig==t.ig)&&(s.no==t.no)&&decide (s.mV=t.mV)
theorem aqf(l m:List Hl)(A B:Option aV)(n k c d:Nat)(w:ak)(hR:RdH w w.a.j A n l)(hT:RdH w w.a.j B k m)(hn:n<=4611686018427387904)(hk:k<=4611686018427387904):
 aR ah 54 #[.a A n c,.a B k d] w (gY w (.e (decide (l=m)))):=by
 have HR:=ab hR;have HT:=ab hT;have HN:=ab hR.1;have HK:=ab hT.1;clear hR hT;by_cases hlm:n=k;rotate_left
 ·have hne:((n:Int) != (k:Int))=true:=by rw[bne_iff_ne];omega
  have HF:=ab (show decide (l=m)=false from decide_eq_false (fun e=>hlm (by rw[<-HN.i,<-HK.i,e])));clear hlm;go_enter Tryz.func54,Tryz.ntmps54;go_wp2;go_ret;exact⟨by rw[HF.i];rfl,aG _ _⟩
 subst hlm;have hbn:((n:Int) != (n:Int))=false:=by simp
 go_enter Tryz.func54,Tryz.ntmps54;go_wp2;go_loopw [13] (fun s5 wr=>∃i:Nat,i<=n/\s5=.b .a i/\l.E i=m.E i/\aM w.a.j w wr) (fun s5 _=>n-(intOf s5).e)
 case atStart=>exact⟨0,by omega,rfl,rfl,aG _ _⟩
 case round=>
  obtain⟨i,hin,rfl,hall,hb⟩:=hrel;have HA:=ab hall;have HB:=ab hb;clear hall hb;by_cases hlt:i<n
  ·have hi:(i:Int)<n:=by omega
   obtain⟨b,o,rfl,hbb,hh,hc,_,_⟩:=(HR.i.Y HB.i).hl hlt;obtain⟨b2,o2,rfl,acQ,hh2,hc2,_,_⟩:=(HT.i.Y HB.i).hl hlt;obtain⟨x,hx⟩:=cB (l.b i lY);obtain⟨y,hy⟩:=cB (m.b i lY);rw[<-hx]at hc;rw[<-hy]at hc2;have HX:=ab hx;have HY:=ab hy;clear hx hy hbb acQ;by_cases hq:x=y
   ·have he:aiF x y=true:=by rw[ahf];simpa using hq
    have HS:=ab (show l.E (i+1)=m.E (i+1)by
     rw[<-pE lY l i (by rw[HN.i];exact hlt),<-pE lY m i (by rw[HK.i];exact hlt),HA.i,<-HX.i,<-HY.i,hq])
    clear hq;go_wp2;go_quiet (fail);go_wp2;go_roundw
    case rel=>exact⟨i+1,by omega,by go_num,HS.i,eD HB.i _⟩
    case measure=>simp[intOf]<;>omega
   ·have he:aiF x y=false:=by rw[ahf];simpa using hq
    have HF:=ab (show decide (l=m)=false from decide_eq_false (fun e=>hq (by rw[HX.i,HY.i,e])));clear hq;go_wp2;go_quiet (fail);go_wp2;go_ret;exact⟨by rw[HF.i];rfl,eD HB.i _⟩
  ·obtain rfl:i=n:=by omega
   have hd:decide ((i:Int)<i)=false:=by simp
   have HT2:=ab (show decide (l=m)=true from decide_eq_true (by
    have:=HA.i
    rwa [aK (by rw[HN.i];omega),aK (by rw[HK.i];omega)]at this))
   go_wp2;go_ret;exact⟨by rw[HT2.i];rfl,HB.i⟩
theorem aqg(l m:List Fw)(A B:Option aV)(n k c d:Nat)(w:ak)(hR:iT Fw.ay 41 w w.a.j A n l)(hT:iT Fw.ay 41 w w.a.j B k m)(hn:n<=4611686018427387904)(hk:k<=4611686018427387904):
 aR ah 55 #[.a A n c,.a B k d] w (gY w (.e (decide (l=m)))):=by
 have HR:=ab hR;have HT:=ab hT;have HN:=ab hR.1;have HK:=ab hT.1;clear hR hT;by_cases hlm:n=k;rotate_left
 ·have hne:((n:Int) != (k:Int))=true:=by rw[bne_iff_ne];omega
  have HF:=ab (show decide (l=m)=false from decide_eq_false (fun e=>hlm (by rw[<-HN.i,<-HK.i,e])));clear hlm;go_enter Tryz.func55,Tryz.ntmps55;go_wp2;go_ret;exact⟨by rw[HF.i];rfl,aG _ _⟩
 subst hlm;have hbn:((n:Int) != (n:Int))=false:=by simp
 go_enter Tryz.func55,Tryz.ntmps55;go_wp2;go_loopw [13] (fun s5 wr=>∃i:Nat,i<=n/\s5=.b .a i/\l.E i=m.E i/\aM w.a.j w wr) (fun s5 _=>n-(intOf s5).e)
 case atStart=>exact⟨0,by omega,rfl,rfl,aG _ _⟩
 case round=>
  obtain⟨i,hin,rfl,hall,hb⟩:=hrel;have HA:=ab hall;have HB:=ab hb;clear hall hb;by_cases hlt:i<n
  ·have hi:(i:Int)<n:=by omega
   obtain⟨b,o,rfl,hbb,hh,hc⟩:=iT.fw (HR.i.Y HB.i) hlt;obtain⟨b2,o2,rfl,acQ,hh2,hc2⟩:=iT.fw (HT.i.Y HB.i) hlt;obtain⟨x,hx⟩:=cB (l.b i lu);obtain⟨y,hy⟩:=cB (m.b i lu);rw[<-hx]at hc;rw[<-hy]at hc2;have HX:=ab hx;have HY:=ab hy;clear hx hy hbb acQ;by_cases hq:x=y
   ·have he:decide (x=y)=true:=by simpa using hq
    have HS:=ab (show l.E (i+1)=m.E (i+1)by
     rw[<-pE lu l i (by rw[HN.i];exact hlt),<-pE lu m i (by rw[HK.i];exact hlt),HA.i,<-HX.i,<-HY.i,hq])
    clear hq;go_wp2;go_quiet (fail);go_wp2;go_roundw
    case rel=>exact⟨i+1,by omega,by go_num,HS.i,eD HB.i _⟩
    case measure=>simp[intOf]<;>omega
   ·have he:decide (x=y)=false:=by simpa using hq
    have HF:=ab (show decide (l=m)=false from decide_eq_false (fun e=>hq (by rw[HX.i,HY.i,e])));clear hq;go_wp2;go_quiet (fail);go_wp2;go_ret;exact⟨by rw[HF.i];rfl,eD HB.i _⟩
  ·obtain rfl:i=n:=by omega
   have hd:decide ((i:Int)<i)=false:=by simp
   have HT2:=ab (show decide (l=m)=true from decide_eq_true (by
    have:=HA.i
    rwa [aK (by rw[HN.i];omega),aK (by rw[HK.i];omega)]at this))
   go_wp2;go_ret;exact⟨by rw[HT2.i];rfl,HB.i⟩
theorem ajw(l m:List Bk)(hf:∀x∈l,x.sD)(hg:∀x∈m,x.sD)(v v':Int)(A B:Option aV)(n n' c d:Nat)(w:ak)(hR:iT Bk.ay 27 w w.a.j A n l)(hT:iT Bk.ay 27 w w.a.j B n' m)(hn:n<=4611686018427387903)(hm:n'<=4611686018427387903)(K:Bool)(hK:UN v l v' m=K):
 aR ah 53 #[.d #[.b .a v,.a A n c],.d #[.b .a v',.a B n' d]] w (gY w (.e K)):=by
 rw[<-ai4 v v' hf hg]at hK;subst hK;obtain rfl:=hR.1;obtain rfl:=hT.1;exact aal l m v v' A B c d w hR hT (by omega) (by omega)
theorem adE(s:qE):afZ s s=true:=by unfold afZ;simp[afg]
theorem af0(x y:Sh)(s t:qE)(w:ak)(h:StR w w.a.j x s)(k:StR w w.a.j y t)(J:Bool)(hJ:afZ s t=J):
 aR ah 17 #[.d x.ay,.d y.ay] w (gY w (.e J)):=by
 obtain⟨v1,⟨bA,bn,bc⟩,⟨gA,gn,gc⟩,⟨fA,fn,fc⟩,tk,nn,ct⟩:=x;obtain⟨v2,⟨bA2,bn2,bc2⟩,⟨gA2,gn2,gc2⟩,⟨fA2,fn2,fc2⟩,tk2,nn2,ct2⟩:=y;obtain rfl:v1=s.nP:=h.nP;obtain rfl:tk=s.ig:=h.ig;obtain rfl:nn=s.no:=h.no;obtain rfl:ct=s.mV:=h.mV;obtain rfl:v2=t.nP:=k.nP;obtain rfl:tk2=t.ig:=k.ig;obtain rfl:nn2=t.no:=k.no;obtain rfl:ct2=t.mV:=k.mV;obtain⟨W1,hW1⟩:=cB ((w.alloc (.D (Sh.mk s.nP ⟨bA,bn,bc⟩ ⟨gA,gn,gc⟩ ⟨fA,fn,fc⟩ s.ig s.no s.mV).ay 37)).alloc (.D (Sh.mk t.nP ⟨bA2,bn2,bc2⟩ ⟨gA2,gn2,gc2⟩ ⟨fA2,fn2,fc2⟩ t.ig t.no t.mV).ay 37));have HB0:=ab (show aM w.a.j w W1 by rw[hW1];exact((aG w.a.j w).alloc (av _) _).alloc (by simp) _);have B0:=ab (show dP W1 w.a.j (Sh.mk s.nP ⟨bA,bn,bc⟩ ⟨gA,gn,gc⟩ ⟨fA,fn,fc⟩ s.ig s.no s.mV).ay by rw[hW1];exact(dP.new w _ _).alloc _);have C0:=ab (show dP W1 (w.a.j+1) (Sh.mk t.nP ⟨bA2,bn2,bc2⟩ ⟨gA2,gn2,gc2⟩ ⟨fA2,fn2,fc2⟩ t.ig t.no t.mV).ay by rw[hW1];exact dP.Us w _ _ _);have HS:=ab h;have HT:=ab k;obtain⟨x1,x2,x3,x4⟩:=B0.i.R;have hl0:=B0.i.lt;obtain⟨y1,y2,y3,y4⟩:=C0.i.R;have hl1:=C0.i.lt;obtain⟨K1,hK1⟩:∃K,UN s.nP s.h t.nP t.h=K:=⟨_,rfl⟩
 obtain⟨K2,hK2⟩:∃K,decide (s.J=t.J)=K:=⟨_,rfl⟩
 obtain⟨K3,hK3⟩:∃K,decide (s.tQ=t.tQ)=K:=⟨_,rfl⟩
 have HJ:=ab (show J=(K1&&K2&&K3&&(s.ig==t.ig)&&(s.no==t.no)&&decide (s.mV=t.mV))by rw[<-hJ,<-hK1,<-hK2,<-hK3];rfl);have P1:=ab (ajw s.h t.h h.sD k.sD s.nP t.nP bA bA2 bn bn2 bc bc2 W1 ((h.go HB0.i).b) ((k.go HB0.i).b) h.nb k.nb K1 hK1);have P2:=ab (fun W (hb:aM w.a.j w W)=>aqf s.J t.J gA gA2 gn gn2 gc gc2 W (HS.i.h.go hb) (HT.i.h.go hb) (qR HS.i.nh) (qR HT.i.nh));have P3:=ab (fun W (hb:aM w.a.j w W)=>aqg s.tQ t.tQ fA fA2 fn fn2 fc fc2 W (HS.i.f.go hb) (HT.i.f.go hb) (qR HS.i.nf) (qR HT.i.nf));rw[hK2]at P2;rw[hK3]at P3;clear h k hK1 hK2 hK3 hJ;subst hW1;go_enter Tryz.func17,Tryz.ntmps17;go_wp2_with fail
 (with_reducible refine P1.i.g ?_)
 rintro e w1 ⟨rfl,hb1⟩;have HB1:=ab (jD HB0.i hb1);have B1:=ab (B0.i.go hb1);have C1:=ab (C0.i.go hb1);clear hb1 x1 x2 x3 x4 hl0 y1 y2 y3 y4 hl1;obtain⟨x1,x2,x3,x4⟩:=B1.i.R;have hl0:=B1.i.lt;obtain⟨y1,y2,y3,y4⟩:=C1.i.R;have hl1:=C1.i.lt;cases K1
 ·go_wp2
  go_ret;exact⟨by rw[HJ.i];rfl,HB1.i⟩
 go_wp2_with fail
 (with_reducible refine(P2.i _ HB1.i).g ?_)
 rintro e w2 ⟨rfl,hb2⟩;have HB2:=ab (jD HB1.i hb2);have B2:=ab (B1.i.go hb2);have C2:=ab (C1.i.go hb2);clear hb2 x1 x2 x3 x4 hl0 y1 y2 y3 y4 hl1;obtain⟨x1,x2,x3,x4⟩:=B2.i.R;have hl0:=B2.i.lt;obtain⟨y1,y2,y3,y4⟩:=C2.i.R;have hl1:=C2.i.lt;cases K2
 ·go_wp2
  go_ret;exact⟨by rw[HJ.i];rfl,HB2.i⟩
 go_wp2_with fail
 (with_reducible refine(P3.i _ HB2.i).g ?_)
 rintro e w3 ⟨rfl,hb3⟩;have HB3:=ab (jD HB2.i hb3);have B3:=ab (B2.i.go hb3);have C3:=ab (C2.i.go hb3);clear hb3 x1 x2 x3 x4 hl0 y1 y2 y3 y4 hl1;obtain⟨x1,x2,x3,x4⟩:=B3.i.R;have hl0:=B3.i.lt;obtain⟨y1,y2,y3,y4⟩:=C3.i.R;have hl1:=C3.i.lt;cases K3
 ·go_wp2
  go_ret;exact⟨by rw[HJ.i];rfl,HB3.i⟩
 obtain⟨K4,hK4⟩:∃K,(s.ig==t.ig)=K:=⟨_,rfl⟩
 have HK4:=ab hK4;cases K4
 ·go_wp2
  go_ret;exact⟨by rw[HJ.i,HK4.i];rfl,HB3.i⟩
 obtain⟨K5,hK5⟩:∃K,(s.no==t.no)=K:=⟨_,rfl⟩
 have HK5:=ab hK5;cases K5
 ·go_wp2
  go_ret;exact⟨by rw[HJ.i,HK4.i,HK5.i];rfl,HB3.i⟩
 go_wp2;go_ret;exact⟨by rw[HJ.i,HK4.i,HK5.i];rfl,HB3.i⟩
section
theorem aqh{a b:Tu}(ha:YK a)(hb:YK b)(h:MX a=MX b):a=b:=by
 have h1:=amP.fwd a [] ha;have h2:=amP.fwd b [] hb;rw[h,h2]at h1;injection h1 with h3 h4
 injection h3 with h5 h6
 exact h5.symm
theorem xV{f:Fw}(h:EA f=true):Gz f.key=true:=by
 unfold EA at h;simp only[bf]at h;exact h.1.1.1.1.1
def mo(a b:Fw):Bool:=if a.no=b.no then bU (MX a.key) (MX b.key)else decide (a.no<b.no)
theorem uK:Jp mo:=by
 refine⟨fun x=>by simp[mo,tY],fun x y z h1 h2=>?_⟩;unfold mo at *;by_cases e1:x.no=y.no
 ·rw[if_pos e1]at h1
  by_cases e2:y.no=z.no
  ·rw[if_pos e2]at h2
   rw[if_pos (e1.trans e2)];exact zu _ _ _ h1 h2
  ·rw[if_neg e2]at h2
   rw[if_neg (by omega)];simp only[decide_eq_true_eq]at h2 ⊢;omega
 ·rw[if_neg e1]at h1
  simp only[decide_eq_true_eq]at h1;by_cases e2:y.no=z.no
  ·rw[if_neg (by omega)]
   simp only[decide_eq_true_eq];omega
  ·rw[if_neg e2]at h2
   simp only[decide_eq_true_eq]at h2;rw[if_neg (by omega)];simp only[decide_eq_true_eq];omega
theorem QY{a b:Fw}(ha:YK a.key)(hb:YK b.key)(hne:a.key≠b.key):mo a b=true\/mo b a=true:=by
 unfold mo;by_cases e:a.no=b.no
 ·rw[if_pos e,if_pos e.symm]
  cases h1:bU (MX a.key) (MX b.key)
  ·cases h2:bU (MX b.key) (MX a.key)
   ·exact absurd (aqh ha hb (AZ _ _ h1 h2)) hne
   ·exact .a rfl
  ·exact .b rfl
 ·rw[if_neg e,if_neg (jE e)]
  simp only[decide_eq_true_eq];omega
def uQ(k:Tu)(x:Fw):Bool:=decide (x.key=k)
def qp(l:List Fw)(k:Tu):Option Fw:=l.find? (uQ k)
def yt(l:List Fw)(k:Tu):List Fw:=l.filter fun x=>!uQ k x
def ED(dV:Int)(l:List Fw)(f:Fw):List Fw:=
 if EA f then(if(qp l f.key).isSome then ins mo f (yt l f.key)else if dV<=l.a then ins mo f l.tail else ins mo f l)else l
def Mt(now:Int)(kK:Vector Int 6)(l:List Fw):List Fw:=l.filter fun x=>!EC x.yF x.seen now kK
structure xI(dV:Int)(l:List Fw):Prop where
 asc:Asc mo l
 one:l.Pairwise fun x y=>x.key≠y.key
 ok:∀x∈l,EA x=true
 len:(l.a:Int)<=dV
theorem xI.sub{dV:Int}{l m:List Fw}(h:xI dV l)(hs:m.Sublist l):xI dV m:=
 ⟨h.asc.sub hs,h.one.sublist hs,fun x hx=>h.ok x (hs.subset hx),by have:=hs.length_le;have:=h.len;omega⟩
theorem xI.nil{dV:Int}(h:0<=dV):xI dV []:=⟨List.Pairwise.nil,.nil,(fun x hx=>by cases hx),by simpa using h⟩
theorem yI{l:List Fw}{k:Tu}{x:Fw}(h:qp l k=some x):x∈l/\x.key=k:=by
 unfold qp at h;exact⟨List.mem_of_find?_eq_some h,by simpa[uQ]using List.find?_some h⟩
theorem Ct{l:List Fw}{k:Tu}(h:qp l k=none):∀x∈l,x.key≠k:=by
 unfold qp at h;rw[List.find?_eq_none]at h;intro x hx e;exact h x hx (by simp[uQ,e])
theorem xI.VI{dV:Int}{l:List Fw}(h:xI dV l){x:Fw}(hx:x∈l):qp l x.key=some x:=by
 cases hf:qp l x.key with
 | none=>exact absurd rfl (Ct hf x hx)
 | some y=>
   obtain⟨h1,h2⟩:=yI hf;obtain⟨i,hi,e1⟩:=lC.1 h1;obtain⟨j,hj,e2⟩:=lC.1 hx;have:=List.pairwise_iff_getElem.1 h.one;rcases Nat.lt_trichotomy i j with hij|hij|hij
   ·exact absurd (by rw[e1,e2,h2]) (this i j hi hj hij)
   ·subst hij;rw[<-e1,<-e2]
   ·exact absurd (by rw[e1,e2,h2]) (this j i hj hi hij)
theorem xI.ins{dV:Int}{l:List Fw}(h:xI dV l){f:Fw}(hf:EA f=true)(hn:∀x∈l,x.key≠f.key)(hl:(l.a:Int)+1<=dV):xI dV (ins mo f l):=by
 have p:=Db (lt:=mo) f l;refine⟨aho uK h.asc (fun x hx=>QY (NV (xV hf)) (NV (xV (h.ok x hx))) (jE (hn x hx))),?_,?_,?_⟩
 ·refine(p.pairwise_iff (fun{a b} (hab:a.key≠b.key)=>jE hab)).2 (gX.2 ⟨fun x hx=>jE (hn x hx),h.one⟩)
 ·intro x hx
  rcases bD.1 (p.subset hx)with rfl|hx
  ·exact hf
  ·exact h.ok x hx
 ·rw[p.t,bl]
  simpa using hl
theorem aaY(l:List Fw)(k:Tu):(yt l k).Sublist l:=List.filter_sublist
theorem aup{l:List Fw}{k:Tu}:∀x∈yt l k,x.key≠k:=by
 intro x hx;have:=(mY.1 hx).2;simpa[uQ]using this
theorem aqi{l:List Fw}{k:Tu}(h:(qp l k).isSome=true):(yt l k).a+1<=l.a:=by
 obtain⟨x,hx⟩:=Option.isSome_iff_exists.1 h;obtain⟨h1,h2⟩:=yI hx;have:=List.length_filter_lt_length_iff_exists (l:=l) (p:=fun x=>!uQ k x);exact this.2 ⟨x,h1,by simp[uQ,h2]⟩
theorem xI.put{dV:Int}{l:List Fw}(h:xI dV l)(h0:1<=dV)(f:Fw):xI dV (ED dV l f):=by
 unfold ED;split
 ·rename_i hf
  split
  ·rename_i hs
   have:=aqi hs;have:=h.len;exact(h.sub (aaY l f.key)).ins hf aup (by omega)
  ·rename_i hs
   have hno:∀x∈l,x.key≠f.key:=Ct (by simpa using hs);split
   ·refine(h.sub (List.tail_sublist l)).ins hf (fun x hx=>hno x (List.mem_of_mem_tail hx)) ?_
    have:=h.len;rw[List.length_tail];omega
   ·exact h.ins hf hno (by omega)
 ·exact h
theorem xI.ayu{dV:Int}{l:List Fw}(h:xI dV l)(now:Int)(kK:Vector Int 6):xI dV (Mt now kK l):=h.sub List.filter_sublist
structure TbR(hm:Tu->Nat)(s:List (Option Fw))(l:List Fw):Prop where
 tab:Tab Fw.key hm s
 PW:(iD s).Perm l
variable {hm:Tu->Nat} {s:List (Option Fw)} {l:List Fw}
theorem TbR.mem(h:TbR hm s l){x:Fw}:x∈l↔∃i,i<s.a/\dW s i=some x:=(h.PW.mem_iff.symm).trans PN
theorem TbR.stop{dV:Int}(h:TbR hm s l)(ho:xI dV l){k:Tu}{d:Nat}(hd:Found hm Fw.key s k d):dW s ((hm k+d)%s.a)=qp l k:=by
 have hN:0<s.a:=by have:=hd.1;omega
 cases hf:qp l k with
 | none=>
   have hno:=Ct hf;obtain⟨e,he,h1⟩:=h.tab.ahn (k:=k) (fun j x hj hx=>hno x (h.mem.2 ⟨j,hj,hx⟩));rw[hd.IE he];exact h1
 | some x=>
   obtain⟨h1,h2⟩:=yI hf;obtain⟨j,hj,hx⟩:=h.mem.1 h1;obtain⟨e,he,h3⟩:=h.tab.aau hj hx h2;rw[hd.IE he,h3];exact hx
theorem TbR.new{N:Nat}(hN:0<N)(h:∀k,hm k<N):TbR hm (dY N none) []:=⟨Tab.new hN h,by rw[UY]⟩
theorem VJ{dV:Int}(ho:xI dV l){x:Fw}(hx:x∈l){m:List Fw}(hm':l.Perm (x::m)):m.Perm (yt l x.key):=by
 have h1:(l.filter fun y=>!uQ x.key y).Perm ((x::m).filter fun y=>!uQ x.key y):=hm'.filter _;have e:(x::m).filter (fun y=>!uQ x.key y)=m:=by
  rw[List.filter_cons_of_neg (by simp[uQ])];refine xY.2 (fun y hy=>?_);have:=(hm'.pairwise_iff (fun{a b:Fw} (hab:a.key≠b.key)=>jE hab)).1 ho.one;have:=(gX.1 this).1 y hy;simp[uQ,jE this]
 rw[e]at h1;exact h1.symm
theorem TbR.put{dV:Int}(h:TbR hm s l)(ho:xI dV l){f:Fw}{d:Nat}(hd:Found hm Fw.key s f.key d)(hl:l.a+1<s.a)(m:List Fw)(hm':m.Perm (f::yt l f.key)):TbR hm (s.set ((hm f.key+d)%s.a) (some f)) m:=by
 have hN:0<s.a:=by omega
 have hj:(hm f.key+d)%s.a<s.a:=Nat.mod_lt _ hN;have hst:=h.stop ho hd;have hfull:=fun hlt=>(Mf s).1 hlt
 have hel:=h.PW.t;cases hf:qp l f.key with
 | none=>
   rw[hf]at hst;have hc:yt l f.key=l:=xY.2 (fun x hx=>by have:=Ct hf x hx;simp[uQ,this]);have he:=Me s _ f hj hst;obtain⟨z,hz1,hz2⟩:=(Mf (s.set ((hm f.key+d)%s.a) (some f))).1 (by rw[he.t];simp;omega);rw[GH _ _ _ _ hj]at hz2;split at hz2
   ·cases hz2
   rename_i hne;refine⟨h.tab.put hd (by simpa using hz1) hz2 (jE hne),he.trans (((h.PW.cons f)).trans ?_)⟩;rw[hc]at hm';exact hm'.symm
 | some x=>
   rw[hf]at hst;obtain⟨h1,h2⟩:=yI hf;obtain⟨z,hz1,hz2⟩:=hfull (by omega);refine⟨h.tab.put hd hz1 hz2 (fun e=>by rw[e,hst]at hz2;cases hz2),?_⟩;have e1:=Ah s _ f hj;have e2:=PL s _ x hj hst;have e3:=VJ ho h1 (h.PW.symm.trans e2);rw[h2]at e3;exact e1.trans ((e3.cons f).trans hm'.symm)
theorem ajx{dV:Int}(h:TbR hm s l)(ho:xI dV l):(iD s).foldl (least mo) none=l.head?:=by
 cases l with
 | nil=>
   have:=h.PW.t;rw[gU]at this;rw[List.eq_nil_of_length_eq_zero this];rfl
 | cons m t=>
   rw[List.head?_cons];refine ac3 uK (iD s) none (.b (h.PW.symm.subset (by simp))) (fun x hx=>?_) (fun y hy=>by cases hy);rcases bD.1 (h.PW.subset hx)with rfl|hx
   ·exact .b rfl
   ·exact .a (ho.asc.apy hx)
theorem amQ{dV:Int}{x:Fw}{t:List Fw}(ho:xI dV (x::t)):yt (x::t) x.key=t:=by
 unfold yt;rw[List.filter_cons_of_neg (by simp[uQ])];refine xY.2 (fun y hy=>?_);have:=(gX.1 ho.one).1 y hy;simp[uQ,jE this]
end
structure pQ(T:bL)(n:Nat)(z:Array aB):Prop where
 row:∃d,ah.k T=some d/\d.isRow=true
 j:(ah.l T).map (·.j)=some n
 zero:(ah.l T).map (·.zero)=some (some (.d z))
 zs:z.j=n
def yU(T:bL)(v:aB):yA aB:=dw T v
def zX(T:bL)(v x:aB):yA Unit:=eY T v x
def vK(T:bL)(ps:Array (Nat×aB)):yA aB:=fU T ps
def gV(W:ak)(b o:Nat)(c:Array aB):ak:=W.setCells b o c.a
section
variable {T:bL} {n:Nat} {z:Array aB}
theorem pQ.af3(K:pQ T n z):∃i,ah.l T=some i/\i.j=n/\i.zero=some (.d z):=by
 have h1:=K.j;have h2:=K.zero;cases h:ah.l T with
 | none=>rw[h]at h1;cases h1
 | some i=>rw[h]at h1 h2;simp at h1 h2;exact⟨i,rfl,h1,h2⟩
theorem pQ.ld(K:pQ T n z)(W:ak)(b o:Nat)(h:yE W b o n):(yU T (.c (some ⟨b,o,none⟩))).O ah W=.ok (.d (eH W b o n)) W:=by
 obtain⟨d,h1,h2⟩:=K.row;exact kH W b o n T d h1 h2 K.j h
theorem pQ.stN(K:pQ T n z)(W:ak)(c x:Array aB)(b:Nat)(hb:b=W.a.j)(hc:eU c=n)(hx:x.j=n)(h1:x.all (·.h)=true):(zX T (.c (some ⟨b,0,none⟩)) (.d x)).O ah (W.alloc (.D c T))=.ok () (W.alloc (.D x T)):=by
 subst hb;exact Ad W _ c x (by rw[hx];exact K.j) (by rw[hx];exact hc) h1
theorem pQ.st(K:pQ T n z)(W:ak)(b o:Nat)(x:Array aB)(h:W.S b o n)(hx:x.j=n)(h1:x.all (·.h)=true):(zX T (.c (some ⟨b,o,none⟩)) (.d x)).O ah W=.ok () (gV W b o x):=
 ER W b o _ x (by rw[hx];exact h) (by rw[hx];exact K.j) h1
theorem pQ.bd(K:pQ T n z)(W:ak)(ps:Array (Nat×aB))(cells:Array aB)(fs:Array oz)(places:Array (Nat×Nat))(hu:ah.k T=some (.d fs))
 (hp:(iI (fun f=>Prod.mk f.offset <$> sizeOf f.p) fs:yA (Array (Nat×Nat))).O ah W=.ok places W) (hf:fJ (places[·]?) z ps.a=some cells):(vK T ps).O ah W=.ok (.d cells) W:=by
 obtain⟨i,h1,h2,h3⟩:=K.af3;exact Pm W T fs i z ps cells places hu h1 h3 hp hf
end
theorem lQ{w W:ak}{B:Nat}(h:aM B w W)(b o:Nat)(x:Array aB)(hb:B<=b):aM B w (gV W b o x):=yZ hb _ o W h
theorem mG{w W:ak}{g:Nat}(h:w.d W (some g))(o:Nat)(x:Array aB):w.d (gV W g o x) (some g):=Uw _ o W h
theorem dP.put{W:ak}{b:Nat}{c:Array aB}(h:dP W b c)(x:Array aB)(hx:x.j=c.j):dP (gV W b 0 x) b x:=h.alm x hx
theorem dP.gN{W:ak}{b b2 o:Nat}{c x:Array aB}(h:dP W b c)(hne:b≠b2):dP (gV W b2 o x) b c:=by
 have:∀(vs:List aB)(o:Nat)(W:ak),dP W b c->dP (W.setCells b2 o vs) b c:=by
  intro vs
  induction vs with
  | nil=>exact fun _ _ h=>h
  | cons v vs ih=>intro o W h;exact ih (o+1) _ (h.dQ _ v (fun e=>hne e.symm))
 exact this _ _ _ h
def sF(place:Nat->Option (Nat×Nat)):Nat->List (Nat×aB)->Nat->Prop
 | off,[],n=>off=n
 | off,(i,v)::ps,n=>place i=some (off,v.D.j)/\sF place (off+v.D.j) ps n
def rM:List (Nat×aB)->Array aB
 | []=>#[]
 | (_,v)::ps=>v.D++rM ps
theorem VK(p r v:Array aB)(h:v.j<=r.j):tC (p++r) p.j v=(p++v)++r.m v.j r.j:=by
 apply dZ;intro j;rw[EX];simp only[oJ,aD,Array.getElem?_extract];split
 ·rename_i h1
  rw[if_pos (by omega),if_neg (by omega)]
 ·rename_i h1
  split
  ·rename_i h2
   rw[if_pos (by omega)]
  ·rename_i h2
   by_cases h3:j<p.j+v.j
   ·omega
   ·rw[if_neg h3]
    by_cases h4:j-p.j<r.j
    ·rw[if_pos (by omega)];congr 1;omega
    ·rw[if_neg (by omega),aW (by omega)]
theorem TU(place:Nat->Option (Nat×Nat)):∀(ps:List (Nat×aB))(p r:Array aB),sF place p.j ps (p.j+r.j)->fJ place (p++r) ps=some (p++rM ps)
 | [],p,r,h=>by
   have:r = #[]:=Array.eq_empty_of_size_eq_zero (by have h':p.j=p.j+r.j:=h;omega);subst this;simp[fJ,rM]
 | (i,v)::ps,p,r,h=>by
   obtain⟨h1,h2⟩:=h;have hle:∀(ps:List (Nat×aB))(a b:Nat),sF place a ps b->a<=b:=by
    intro ps
    induction ps with
    | nil=>intro a b h;exact aU h
    | cons q ps ih=>intro a b h;have:=ih _ _ h.2;omega
   have hl:=hle _ _ _ h2;rw[EZ place _ i p.j v.D.j v ps h1 rfl (by rw[oJ];omega),VK p r v.D (by omega)];have:=TU place ps (p++v.D) (r.m v.D.j r.j) (by
    rw[oJ,jA]
    rwa [show p.j+v.D.j+(min r.j r.j-v.D.j)=p.j+r.j by omega])
   rw[this,rM,gD]
theorem vV{place:Nat->Option (Nat×Nat)}{ps:List (Nat×aB)}{z c:Array aB}{n:Nat}(hz:z.j=n)(h:sF place 0 ps n)(hc:rM ps=c):fJ place z ps=some c:=by
 have:=TU place ps #[] z (by simpa[hz]using h);simpa[hc]using this
theorem pQ.bd0{T:bL}{n:Nat}{z:Array aB}(K:pQ T n z)(W:ak)(fs:Array oz)(hu:ah.k T=some (.d fs))(hp:∃places,(iI (fun f=>Prod.mk f.offset <$> sizeOf f.p) fs:yA (Array (Nat×Nat))).O ah W=.ok places W):(vK T #[]).O ah W=.ok (.d z) W:=by
 obtain⟨places,hp⟩:=hp;exact K.bd W _ _ fs places hu hp (by simp[fJ])
theorem qA{c:Array aB}{n:Nat}(h:c.j=n):c.m 0 n=c:=by rw[<-h];simp
theorem uR{c:Array aB}{k m:Nat}(h:c.j<=k):c.m k m = #[]:=by apply Array.eq_empty_of_size_eq_zero;simp;omega
def Bp(v:Vector UInt8 6):Array aB:=(v.a.map bv).c
def jl(v:Vector UInt8 16):Array aB:=(v.a.map bv).c
theorem gH(v:Vector UInt8 6):(Bp v).j=6:=by simp[Bp]
theorem dO(v:Vector UInt8 16):(jl v).j=16:=by simp[jl]
theorem jR(v:Vector Int 6):(K9 v).j=6:=by simp[K9]
theorem aaZ(v:Vector UInt8 6):(Bp v).all (·.h)=true:=by simp[Bp];intro x _;rfl
theorem aqj(v:Vector Int 6):(K9 v).all (·.h)=true:=by simp[K9];intro x _;rfl
@[go_sem]theorem asA:eX #[bP false,aA,aA,aA,aA,aA,aA,aA,aA,aA,aA,aA,aA,aA,aA,aA,aA] 27=eX nQ.ay 27:=rfl
@[go_sem]theorem awY:cO #[bP false,aA,aA,aA,aA,aA,aA,aA,aA,aA,aA,aA,aA,aA,aA,aA,aA]=cO nQ.ay:=rfl
theorem aa0:pQ 27 17 nQ.ay:=⟨⟨_,fG,rfl⟩,by kernel_rfl,by kernel_rfl,fD.J _⟩
theorem kTu:pQ 81 37 afb.ay:=⟨⟨_,jN,rfl⟩,by kernel_rfl,by kernel_rfl,Tu.J _⟩
@[go_sem ↓]theorem aGQ(v x:aB):eY 27 v x=zX 27 v x:=rfl
@[go_sem]theorem aBm(W:ak)(c:Array aB)(x:fD)(b:Nat)(hb:b=W.a.j)(hc:eU c=17):(zX 27 (.c (some ⟨b,0,none⟩)) (.d x.ay)).O ah (W.alloc (.D c 27))=.ok () (W.alloc (.D x.ay 27)):=aa0.stN W c x.ay b hb hc (fD.J x) (fD.dx x)
@[go_sem]theorem aDu(W:ak)(b o:Nat)(x:fD)(h:W.S b o 17):(zX 27 (.c (some ⟨b,o,none⟩)) (.d x.ay)).O ah W=.ok () (gV W b o x.ay):=aa0.st W b o x.ay h (fD.J x) (fD.dx x)
@[go_sem]theorem fD.all(x:fD):x.ay.m 0 17=x.ay:=qA (fD.J x)
theorem asB(x:aB)(b:Array aB)(j:Nat):(#[x]++b)[j+1]? = b[j]?:=by simp[aD]
section
variable {T:bL} {n:Nat} {z:Array aB} {fn:Func} {p u:Tmp} {W:ak} {b:Nat} {c:Array aB}
theorem pQ.Aj(K:pQ T n z)(h:fn.results = #[.cell p T])(tmps:Array aB)(hp:tmps.b p undef=.c (some ⟨b,0,none⟩))(hb:dP W b c)(hc:c.j=n):(results fn tmps).O ah W=.ok (.d c) W:=by
 obtain⟨t,hb⟩:=hb;obtain⟨d,h1,h2⟩:=K.row;exact results_cell_row h tmps W b t c (0,0) d hp hb h1 (by cases d<;>simp_all[TypeDesc.isRow]) (by rw[hc];exact K.j)
theorem pQ.rb(K:pQ T n z)(h:fn.results = #[.cell p T,.tmp u])(tmps:Array aB)(hp:tmps.b p undef=.c (some ⟨b,0,none⟩))(hb:dP W b c)(hc:c.j=n):(results fn tmps).O ah W=.ok (.K #[.d c,tmps.b u undef]) W:=by
 obtain⟨_,_,h3,h4⟩:=hb.R;have hl:=K.ld W b 0 (by rw[h3 0 n (by unfold eU;omega)];trivial);rw[h4 0 n (by unfold eU;omega),bC,<-hc,Array.extract_size]at hl;unfold yU at hl;simp only[dw,Instr.sureAddr,Sem.run_bind,Sem.run_pure,gW]at hl;rw[results_cell_tmp h,hp];simp[asAddr,iM,hl]
end
structure Vp where
 h:fD
 aN:Int
 ni:Int
 Ak:Bool
deriving DecidableEq
def Vp.ay(x:Vp):Array aB:=x.h.ay ++ #[.b .a x.aN,.b .a x.ni,.e x.Ak]
theorem Vp.J(x:Vp):x.ay.j=20:=by simp[Vp.ay,fD.J]
theorem Vp.dx(x:Vp):x.ay.all (·.h)=true:=iy (fD.dx _) ((by simp[dA]))
@[go_sem]theorem Vp.eU(x:Vp):eU x.ay=20:=Vp.J x
@[go_sem]theorem Vp.all(x:Vp):x.ay.m 0 20=x.ay:=by have:=Vp.J x;rw[<-this];simp
@[go_sem]theorem Vp.Cg(x:Vp):x.ay.m 0 17=x.h.ay:=by simp[Vp.ay,bZ,fD.J,qA,uR]
@[go_sem]theorem Vp.xJ(x:Vp):x.ay[17]? = some (.b .a x.aN):=by simp[Vp.ay,aD,fD.J]
@[go_sem]theorem Vp.GX(x:Vp):x.ay[18]? = some (.b .a x.ni):=by simp[Vp.ay,aD,fD.J]
@[go_sem]theorem Vp.YO(x:Vp):x.ay[19]? = some (.e x.Ak):=by simp[Vp.ay,aD,fD.J]
def mJ:Vp:=⟨nQ,0,0,false⟩
@[go_sem]theorem ayv:cO #[bP false,aA,aA,aA,aA,aA,aA,aA,aA,aA,aA,aA,aA,aA,aA,aA,aA,bg,bg,bP false]=cO mJ.ay:=rfl
@[go_sem]theorem aur:eX #[bP false,aA,aA,aA,aA,aA,aA,aA,aA,aA,aA,aA,aA,aA,aA,aA,aA,bg,bg,bP false] 98=eX mJ.ay 98:=rfl
theorem kVp:pQ 98 20 mJ.ay:=⟨⟨_,tu,rfl⟩,by kernel_rfl,by kernel_rfl,Vp.J _⟩
@[go_sem ↓]theorem aJs(v:aB):dw 98 v=yU 98 v:=rfl
@[go_sem ↓]theorem aJt(v x:aB):eY 98 v x=zX 98 v x:=rfl
@[go_sem]theorem aGR(W:ak)(b o:Nat)(h:yE W b o 20):(yU 98 (.c (some ⟨b,o,none⟩))).O ah W=.ok (.d (eH W b o 20)) W:=kVp.ld W b o h
@[go_sem]theorem aDv(W:ak)(c:Array aB)(x:Vp)(b:Nat)(hb:b=W.a.j)(hc:eU c=20):(zX 98 (.c (some ⟨b,0,none⟩)) (.d x.ay)).O ah (W.alloc (.D c 98))=.ok () (W.alloc (.D x.ay 98)):=kVp.stN W c x.ay b hb hc (Vp.J x) (Vp.dx x)
@[go_sem]theorem aGS(W:ak)(b o:Nat)(x:Vp)(h:W.S b o 20):(zX 98 (.c (some ⟨b,o,none⟩)) (.d x.ay)).O ah W=.ok () (gV W b o x.ay):=kVp.st W b o x.ay h (Vp.J x) (Vp.dx x)
@[go_sem ↓]theorem aJu(ps:Array (Nat×aB)):fU 98 ps=vK 98 ps:=rfl
theorem ayw(w:ak)(fs:Array oz)(h:ah.k 98=some (.d fs)):(iI (fun f=>Prod.mk f.offset <$> sizeOf f.p) fs:yA (Array (Nat×Nat))).O ah w=.ok #[(0,17),(17,1),(18,1),(19,1)] w:=by
 have e:=tu;rw[h]at e;cases e;show _=_
 kernel_rfl
@[go_sem]theorem aDw(W:ak):(vK 98 #[]).O ah W=.ok (.d mJ.ay) W:=kVp.bd0 W _ tu ⟨_,ayw W _ tu⟩
structure Cn where
 qF:Option aV
 gT:Nat
 qX:Nat
 j:Int
 dV:Int
 kK:Vector Int 6
 kI:Int
 fall:Int
 xQ:Vector UInt8 6
 Dl:fD
 h:fD
 aa1:Int
 keep:Int
 VL:Int
def Cn.ay(x:Cn):Array aB:=#[.a x.qF x.gT x.qX,.b .a x.j,.b .a x.dV]++(K9 x.kK++(#[.b .a x.kI,.b .a x.fall]++(Bp x.xQ++(x.Dl.ay++(x.h.ay ++ #[.b .a x.aa1,.b .a x.keep,.b .a x.VL])))))
theorem Cn.J(x:Cn):x.ay.j=54:=by simp[Cn.ay,fD.J,gH,jR]
theorem Cn.dx(x:Cn):x.ay.all (·.h)=true:=iy ((by simp[dA])) (iy (aqj _) (iy ((by simp[dA])) (iy (aaZ _) (iy (fD.dx _) (iy (fD.dx _) ((by simp[dA])))))))
@[go_sem]theorem Cn.eU(x:Cn):eU x.ay=54:=Cn.J x
@[go_sem]theorem Cn.all(x:Cn):x.ay.m 0 54=x.ay:=by have:=Cn.J x;rw[<-this];simp
@[go_sem]theorem Cn.Ed(x:Cn):x.ay[0]? = some (.a x.qF x.gT x.qX):=by simp[Cn.ay,aD,fD.J,gH,jR]
@[go_sem]theorem Cn.GY(x:Cn):x.ay[1]? = some (.b .a x.j):=by simp[Cn.ay,aD,fD.J,gH,jR]
@[go_sem]theorem Cn.TV(x:Cn):x.ay[2]? = some (.b .a x.dV):=by simp[Cn.ay,aD,fD.J,gH,jR]
@[go_sem]theorem Cn.TY(x:Cn):x.ay.m 3 9=K9 x.kK:=by simp[Cn.ay,bZ,fD.J,gH,jR,qA,uR]
@[go_sem]theorem Cn.Ua(x:Cn):x.ay[9]? = some (.b .a x.kI):=by simp[Cn.ay,aD,fD.J,gH,jR]
@[go_sem]theorem Cn.Ub(x:Cn):x.ay[10]? = some (.b .a x.fall):=by simp[Cn.ay,aD,fD.J,gH,jR]
@[go_sem]theorem Cn.aa2(x:Cn):x.ay.m 11 17=Bp x.xQ:=by simp[Cn.ay,bZ,fD.J,gH,jR,qA,uR]
@[go_sem]theorem Cn.aa3(x:Cn):x.ay.m 17 34=x.Dl.ay:=by simp[Cn.ay,bZ,fD.J,gH,jR,qA,uR]
@[go_sem]theorem Cn.af4(x:Cn):x.ay.m 34 51=x.h.ay:=by simp[Cn.ay,bZ,fD.J,gH,jR,qA,uR]
@[go_sem]theorem Cn.aBn(x:Cn):x.ay[51]? = some (.b .a x.aa1):=by simp[Cn.ay,aD,fD.J,gH,jR]
@[go_sem]theorem Cn.aa4(x:Cn):x.ay[52]? = some (.b .a x.keep):=by simp[Cn.ay,aD,fD.J,gH,jR]
@[go_sem]theorem Cn.ayx(x:Cn):x.ay[53]? = some (.b .a x.VL):=by simp[Cn.ay,aD,fD.J,gH,jR]
theorem Cn.NY(x:Cn)(A:Option aV)(n c:Nat):x.ay.c 0 (.a A n c)=({x with qF:=A,gT:=n,qX:=c}:Cn).ay:=by simp[Cn.ay,aL,fD.J,gH,jR]
def Qk:Cn:=⟨none,0,0,0,0,(bG 6 0),0,0,(bG 6 0),nQ,nQ,0,0,0⟩
@[go_sem]theorem ayy:cO #[bB none 0 0,bg,bg,bg,bg,bg,bg,bg,bg,bg,bg,aA,aA,aA,aA,aA,aA,bP false,aA,aA,aA,aA,aA,aA,aA,aA,aA,aA,aA,aA,aA,aA,aA,aA,bP false,aA,aA,aA,aA,aA,aA,aA,aA,aA,aA,aA,aA,aA,aA,aA,aA,bg,bg,bg]=cO Qk.ay:=rfl
@[go_sem]theorem aus:eX #[bB none 0 0,bg,bg,bg,bg,bg,bg,bg,bg,bg,bg,aA,aA,aA,aA,aA,aA,bP false,aA,aA,aA,aA,aA,aA,aA,aA,aA,aA,aA,aA,aA,aA,aA,aA,bP false,aA,aA,aA,aA,aA,aA,aA,aA,aA,aA,aA,aA,aA,aA,aA,aA,bg,bg,bg] 29=eX Qk.ay 29:=rfl
theorem VO:pQ 29 54 Qk.ay:=⟨⟨_,nO,rfl⟩,by kernel_rfl,by kernel_rfl,Cn.J _⟩
@[go_sem ↓]theorem aJv(v:aB):dw 29 v=yU 29 v:=rfl
@[go_sem ↓]theorem aJw(v x:aB):eY 29 v x=zX 29 v x:=rfl
@[go_sem]theorem aGT(W:ak)(b o:Nat)(h:yE W b o 54):(yU 29 (.c (some ⟨b,o,none⟩))).O ah W=.ok (.d (eH W b o 54)) W:=VO.ld W b o h
@[go_sem]theorem aDx(W:ak)(c:Array aB)(x:Cn)(b:Nat)(hb:b=W.a.j)(hc:eU c=54):(zX 29 (.c (some ⟨b,0,none⟩)) (.d x.ay)).O ah (W.alloc (.D c 29))=.ok () (W.alloc (.D x.ay 29)):=VO.stN W c x.ay b hb hc (Cn.J x) (Cn.dx x)
@[go_sem]theorem aGU(W:ak)(b o:Nat)(x:Cn)(h:W.S b o 54):(zX 29 (.c (some ⟨b,o,none⟩)) (.d x.ay)).O ah W=.ok () (gV W b o x.ay):=VO.st W b o x.ay h (Cn.J x) (Cn.dx x)
@[go_sem ↓]theorem aJx(ps:Array (Nat×aB)):fU 29 ps=vK 29 ps:=rfl
theorem aut(w:ak)(fs:Array oz)(h:ah.k 29=some (.d fs)):(iI (fun f=>Prod.mk f.offset <$> sizeOf f.p) fs:yA (Array (Nat×Nat))).O ah w=.ok #[(0,1),(1,1),(2,1),(3,6),(9,1),(10,1),(11,6),(17,17),(34,17),(51,1),(52,1),(53,1)] w:=by
 have e:=nO;rw[h]at e;cases e;show _=_
 kernel_rfl
@[go_sem]theorem aDy(W:ak):(vK 29 #[]).O ah W=.ok (.d Qk.ay) W:=VO.bd0 W _ nO ⟨_,aut W _ nO⟩
def adG(v:Vp):Bool:=rz v.h&&(v.aN==6||v.aN==17)&&(decide (1<=v.ni)&&decide (v.ni<=65535))
def vW(a:fD)(p q:Int)(v:Vp):Bool:=decide (v.h=a)&&v.aN==p&&v.ni==q
def sQ(l:List Vp)(a:fD)(p q:Int):Option Nat:=l.findIdx? (vW a p q)
def EF(l:List Vp)(i:Nat):Bool:=adG (l.b i mJ) && !(l.E i).any (vW (l.b i mJ).h (l.b i mJ).aN (l.b i mJ).ni)
def zY(l:List Vp):Bool:=decide (l.a<=64)&&(eu l.a).all (EF l)
def Dm(v:Vector Int 6):Bool:=v.a.b 0 0==0&&(eu 6).all fun i=>decide (0<=v.a.b i 0)&&decide (v.a.b i 0<=1000000)
def zA(x:Cn)(l:List Vp):Bool:=Dm x.kK&&zY l&&(decide (2<=x.j)&&decide (x.j<=65537)&&mh x.j.e)&&(decide (1<=x.dV)&&decide (x.dV<=4096))&&(decide (1<=x.kI)&&decide (x.kI<=100))&&(decide (1<=x.fall)&&decide (x.fall<=100))
 && (!x.Dl.h&&rz x.Dl)&&x.h.h&&(decide (1000<=x.aa1)&&decide (x.aa1<=1048576))&&(decide (1<=x.keep)&&decide (x.keep<=100))&&(decide (1<=x.VL)&&decide (x.VL<=1000))
abbrev RdV:=iT Vp.ay 20
structure Fo where
 head:Int
 bR:Int
 Pb:Int
 id:Int
 mW:Bool
 keep:Bool
 Mv:Int
 aN:Int
 h:fD
 dst:fD
def Fo.ay(x:Fo):Array aB:=#[.b .a x.head,.b .a x.bR,.b .a x.Pb,.b .a x.id,.e x.mW,.e x.keep,.b .a x.Mv,.b .a x.aN]++(x.h.ay++x.dst.ay)
theorem Fo.J(x:Fo):x.ay.j=42:=by simp[Fo.ay,fD.J]
theorem Fo.dx(x:Fo):x.ay.all (·.h)=true:=iy ((by simp[dA])) (iy (fD.dx _) (fD.dx _))
@[go_sem]theorem Fo.eU(x:Fo):eU x.ay=42:=Fo.J x
@[go_sem]theorem Fo.Ee(x:Fo):x.ay[0]? = some (.b .a x.head):=by simp[Fo.ay,aD,fD.J]
@[go_sem]theorem Fo.vX(x:Fo):x.ay[1]? = some (.b .a x.bR):=by simp[Fo.ay,aD,fD.J]
@[go_sem]theorem Fo.auu(x:Fo):x.ay[2]? = some (.b .a x.Pb):=by simp[Fo.ay,aD,fD.J]
@[go_sem]theorem Fo.ayz(x:Fo):x.ay[3]? = some (.b .a x.id):=by simp[Fo.ay,aD,fD.J]
@[go_sem]theorem Fo.Kz(x:Fo):x.ay[4]? = some (.e x.mW):=by simp[Fo.ay,aD,fD.J]
@[go_sem]theorem Fo.aa4(x:Fo):x.ay[5]? = some (.e x.keep):=by simp[Fo.ay,aD,fD.J]
@[go_sem]theorem Fo.auv(x:Fo):x.ay[6]? = some (.b .a x.Mv):=by simp[Fo.ay,aD,fD.J]
@[go_sem]theorem Fo.xJ(x:Fo):x.ay[7]? = some (.b .a x.aN):=by simp[Fo.ay,aD,fD.J]
@[go_sem]theorem Fo.JB(x:Fo):x.ay.m 8 25=x.h.ay:=by simp[Fo.ay,bZ,fD.J,qA,uR]
@[go_sem]theorem Fo.JC(x:Fo):x.ay.m 25 42=x.dst.ay:=by simp[Fo.ay,bZ,fD.J,qA,uR]
def yu:Fo:=⟨0,0,0,0,false,false,0,0,nQ,nQ⟩
@[go_sem]theorem ayA:cO #[bg,bg,bg,bg,bP false,bP false,bg,bg,bP false,aA,aA,aA,aA,aA,aA,aA,aA,aA,aA,aA,aA,aA,aA,aA,aA,bP false,aA,aA,aA,aA,aA,aA,aA,aA,aA,aA,aA,aA,aA,aA,aA,aA]=cO yu.ay:=rfl
@[go_sem]theorem auw:eX #[bg,bg,bg,bg,bP false,bP false,bg,bg,bP false,aA,aA,aA,aA,aA,aA,aA,aA,aA,aA,aA,aA,aA,aA,aA,aA,bP false,aA,aA,aA,aA,aA,aA,aA,aA,aA,aA,aA,aA,aA,aA,aA,aA] 192=eX yu.ay 192:=rfl
theorem kFo:pQ 192 42 yu.ay:=⟨⟨_,pX,rfl⟩,by kernel_rfl,by kernel_rfl,Fo.J _⟩
@[go_sem ↓]theorem aJy(v:aB):dw 192 v=yU 192 v:=rfl
@[go_sem ↓]theorem aJz(v x:aB):eY 192 v x=zX 192 v x:=rfl
@[go_sem]theorem aDz(W:ak)(c:Array aB)(x:Fo)(b:Nat)(hb:b=W.a.j)(hc:eU c=42):(zX 192 (.c (some ⟨b,0,none⟩)) (.d x.ay)).O ah (W.alloc (.D c 192))=.ok () (W.alloc (.D x.ay 192)):=kFo.stN W c x.ay b hb hc (Fo.J x) (Fo.dx x)
@[go_sem]theorem aGV(W:ak)(b o:Nat)(x:Fo)(h:W.S b o 42):(zX 192 (.c (some ⟨b,o,none⟩)) (.d x.ay)).O ah W=.ok () (gV W b o x.ay):=kFo.st W b o x.ay h (Fo.J x) (Fo.dx x)
@[go_sem ↓]theorem aJA(ps:Array (Nat×aB)):fU 192 ps=vK 192 ps:=rfl
theorem auy(w:ak)(fs:Array oz)(h:ah.k 192=some (.d fs)):(iI (fun f=>Prod.mk f.offset <$> sizeOf f.p) fs:yA (Array (Nat×Nat))).O ah w=.ok #[(0,1),(1,1),(2,1),(3,1),(4,1),(5,1),(6,1),(7,1),(8,17),(25,17)] w:=by
 have e:=pX;rw[h]at e;cases e;show _=_
 kernel_rfl
@[go_sem]theorem aDA(W:ak):(vK 192 #[]).O ah W=.ok (.d yu.ay) W:=kFo.bd0 W _ pX ⟨_,auy W _ pX⟩
@[go_sem]theorem ayB(W:ak)(head:Int)(bR:Int)(Pb:Int)(id:Int)(mW:Bool)(keep:Bool)(Mv:Int)(aN:Int)(src:fD)(dst:fD):(vK 192 #[(0,.b .a head),(1,.b .a bR),(2,.b .a Pb),(3,.b .a id),(4,.e mW),(5,.e keep),(6,.b .a Mv),(7,.b .a aN),(8,.d (src.ay)),(9,.d (dst.ay))]).O ah W=.ok (.d (Fo.mk head bR Pb id mW keep Mv aN src dst).ay) W:=kFo.bd W _ _ _ _ pX (auy W _ pX) (by
 refine vV (Fo.J _) ?_ ?_
 ·simp[sF,dz,fD.J]
 ·simp[rM,dz,Fo.ay]<;>(simp only[<-gD];rfl))
structure Sx where
 head:Int
 bR:Int
 II:Int
 mW:Bool
 IJ:Int
 aN:Int
 h:fD
 dst:fD
def Sx.ay(x:Sx):Array aB:=#[.b .a x.head,.b .a x.bR,.b .a x.II,.e x.mW,.b .a x.IJ,.b .a x.aN]++(x.h.ay++x.dst.ay)
theorem Sx.J(x:Sx):x.ay.j=40:=by simp[Sx.ay,fD.J]
theorem Sx.dx(x:Sx):x.ay.all (·.h)=true:=iy ((by simp[dA])) (iy (fD.dx _) (fD.dx _))
@[go_sem]theorem Sx.eU(x:Sx):eU x.ay=40:=Sx.J x
@[go_sem]theorem Sx.all(x:Sx):x.ay.m 0 40=x.ay:=by have:=Sx.J x;rw[<-this];simp
@[go_sem]theorem Sx.Ee(x:Sx):x.ay[0]? = some (.b .a x.head):=by simp[Sx.ay,aD,fD.J]
@[go_sem]theorem Sx.vX(x:Sx):x.ay[1]? = some (.b .a x.bR):=by simp[Sx.ay,aD,fD.J]
@[go_sem]theorem Sx.auz(x:Sx):x.ay[2]? = some (.b .a x.II):=by simp[Sx.ay,aD,fD.J]
@[go_sem]theorem Sx.Kz(x:Sx):x.ay[3]? = some (.e x.mW):=by simp[Sx.ay,aD,fD.J]
@[go_sem]theorem Sx.aql(x:Sx):x.ay[4]? = some (.b .a x.IJ):=by simp[Sx.ay,aD,fD.J]
@[go_sem]theorem Sx.xJ(x:Sx):x.ay[5]? = some (.b .a x.aN):=by simp[Sx.ay,aD,fD.J]
@[go_sem]theorem Sx.JB(x:Sx):x.ay.m 6 23=x.h.ay:=by simp[Sx.ay,bZ,fD.J,qA,uR]
@[go_sem]theorem Sx.JC(x:Sx):x.ay.m 23 40=x.dst.ay:=by simp[Sx.ay,bZ,fD.J,qA,uR]
theorem Sx.NZ(x:Sx)(v:Int):x.ay.c 0 (.b .a v)=({x with head:=v}:Sx).ay:=by simp[Sx.ay,aL,fD.J]
theorem Sx.amR(x:Sx)(v:Bool):x.ay.c 3 (.e v)=({x with mW:=v}:Sx).ay:=by simp[Sx.ay,aL,fD.J]
theorem Sx.amS(x:Sx)(v:Int):x.ay.c 4 (.b .a v)=({x with IJ:=v}:Sx).ay:=by simp[Sx.ay,aL,fD.J]
theorem Sx.YP(x:Sx)(v:Int):x.ay.c 5 (.b .a v)=({x with aN:=v}:Sx).ay:=by simp[Sx.ay,aL,fD.J]
def re:Sx:=⟨0,0,0,false,0,0,nQ,nQ⟩
@[go_sem]theorem ayC:cO #[bg,bg,bg,bP false,bg,bg,bP false,aA,aA,aA,aA,aA,aA,aA,aA,aA,aA,aA,aA,aA,aA,aA,aA,bP false,aA,aA,aA,aA,aA,aA,aA,aA,aA,aA,aA,aA,aA,aA,aA,aA]=cO re.ay:=rfl
@[go_sem]theorem auA:eX #[bg,bg,bg,bP false,bg,bg,bP false,aA,aA,aA,aA,aA,aA,aA,aA,aA,aA,aA,aA,aA,aA,aA,aA,bP false,aA,aA,aA,aA,aA,aA,aA,aA,aA,aA,aA,aA,aA,aA,aA,aA] 189=eX re.ay 189:=rfl
theorem kSx:pQ 189 40 re.ay:=⟨⟨_,pY,rfl⟩,by kernel_rfl,by kernel_rfl,Sx.J _⟩
@[go_sem ↓]theorem aJB(v:aB):dw 189 v=yU 189 v:=rfl
@[go_sem ↓]theorem aJC(v x:aB):eY 189 v x=zX 189 v x:=rfl
@[go_sem]theorem aGW(W:ak)(b o:Nat)(h:yE W b o 40):(yU 189 (.c (some ⟨b,o,none⟩))).O ah W=.ok (.d (eH W b o 40)) W:=kSx.ld W b o h
@[go_sem]theorem aDB(W:ak)(c:Array aB)(x:Sx)(b:Nat)(hb:b=W.a.j)(hc:eU c=40):(zX 189 (.c (some ⟨b,0,none⟩)) (.d x.ay)).O ah (W.alloc (.D c 189))=.ok () (W.alloc (.D x.ay 189)):=kSx.stN W c x.ay b hb hc (Sx.J x) (Sx.dx x)
@[go_sem]theorem aGX(W:ak)(b o:Nat)(x:Sx)(h:W.S b o 40):(zX 189 (.c (some ⟨b,o,none⟩)) (.d x.ay)).O ah W=.ok () (gV W b o x.ay):=kSx.st W b o x.ay h (Sx.J x) (Sx.dx x)
@[go_sem ↓]theorem aJD(ps:Array (Nat×aB)):fU 189 ps=vK 189 ps:=rfl
theorem auB(w:ak)(fs:Array oz)(h:ah.k 189=some (.d fs)):(iI (fun f=>Prod.mk f.offset <$> sizeOf f.p) fs:yA (Array (Nat×Nat))).O ah w=.ok #[(0,1),(1,1),(2,1),(3,1),(4,1),(5,1),(6,17),(23,17)] w:=by
 have e:=pY;rw[h]at e;cases e;show _=_
 kernel_rfl
@[go_sem]theorem aDC(W:ak):(vK 189 #[]).O ah W=.ok (.d re.ay) W:=kSx.bd0 W _ pY ⟨_,auB W _ pY⟩
structure Pt where
 kg:Int
 iG:Int
 sW:Int
 head:Int
 bR:Int
def Pt.ay(x:Pt):Array aB:=#[.b .a x.kg,.b .a x.iG,.b .a x.sW,.b .a x.head,.b .a x.bR]
theorem Pt.J(x:Pt):x.ay.j=5:=by simp[Pt.ay]
theorem Pt.dx(x:Pt):x.ay.all (·.h)=true:=by simp[Pt.ay,dA]
@[go_sem]theorem Pt.eU(x:Pt):eU x.ay=5:=Pt.J x
@[go_sem]theorem Pt.all(x:Pt):x.ay.m 0 5=x.ay:=by have:=Pt.J x;rw[<-this];simp
@[go_sem]theorem Pt.ayD(x:Pt):x.ay[0]? = some (.b .a x.kg):=by simp[Pt.ay,aD]
@[go_sem]theorem Pt.ayE(x:Pt):x.ay[1]? = some (.b .a x.iG):=by simp[Pt.ay,aD]
@[go_sem]theorem Pt.JD(x:Pt):x.ay[2]? = some (.b .a x.sW):=by simp[Pt.ay,aD]
@[go_sem]theorem Pt.Ee(x:Pt):x.ay[3]? = some (.b .a x.head):=by simp[Pt.ay,aD]
@[go_sem]theorem Pt.vX(x:Pt):x.ay[4]? = some (.b .a x.bR):=by simp[Pt.ay,aD]
theorem Pt.Ql(x:Pt)(v:Int):x.ay.c 2 (.b .a v)=({x with sW:=v}:Pt).ay:=by simp[Pt.ay,aL]
theorem Pt.NZ(x:Pt)(v:Int):x.ay.c 3 (.b .a v)=({x with head:=v}:Pt).ay:=by simp[Pt.ay,aL]
theorem Pt.Qm(x:Pt)(v:Int):x.ay.c 4 (.b .a v)=({x with bR:=v}:Pt).ay:=by simp[Pt.ay,aL]
def rD:Pt:=⟨0,0,0,0,0⟩
@[go_sem]theorem ayF:cO #[bg,bg,bg,bg,bg]=cO rD.ay:=rfl
@[go_sem]theorem auC:eX #[bg,bg,bg,bg,bg] 172=eX rD.ay 172:=rfl
theorem Uc:pQ 172 5 rD.ay:=⟨⟨_,qc,rfl⟩,by kernel_rfl,by kernel_rfl,Pt.J _⟩
@[go_sem ↓]theorem aJE(v:aB):dw 172 v=yU 172 v:=rfl
@[go_sem ↓]theorem aJF(v x:aB):eY 172 v x=zX 172 v x:=rfl
@[go_sem]theorem aGY(W:ak)(b o:Nat)(h:yE W b o 5):(yU 172 (.c (some ⟨b,o,none⟩))).O ah W=.ok (.d (eH W b o 5)) W:=Uc.ld W b o h
@[go_sem]theorem aDD(W:ak)(c:Array aB)(x:Pt)(b:Nat)(hb:b=W.a.j)(hc:eU c=5):(zX 172 (.c (some ⟨b,0,none⟩)) (.d x.ay)).O ah (W.alloc (.D c 172))=.ok () (W.alloc (.D x.ay 172)):=Uc.stN W c x.ay b hb hc (Pt.J x) (Pt.dx x)
@[go_sem]theorem aGZ(W:ak)(b o:Nat)(x:Pt)(h:W.S b o 5):(zX 172 (.c (some ⟨b,o,none⟩)) (.d x.ay)).O ah W=.ok () (gV W b o x.ay):=Uc.st W b o x.ay h (Pt.J x) (Pt.dx x)
@[go_sem ↓]theorem aJG(ps:Array (Nat×aB)):fU 172 ps=vK 172 ps:=rfl
theorem auD(w:ak)(fs:Array oz)(h:ah.k 172=some (.d fs)):(iI (fun f=>Prod.mk f.offset <$> sizeOf f.p) fs:yA (Array (Nat×Nat))).O ah w=.ok #[(0,1),(1,1),(2,1),(3,1),(4,1)] w:=by
 have e:=qc;rw[h]at e;cases e;show _=_
 kernel_rfl
@[go_sem]theorem aDE(W:ak):(vK 172 #[]).O ah W=.ok (.d rD.ay) W:=Uc.bd0 W _ qc ⟨_,auD W _ qc⟩
@[go_sem]theorem ayG(W:ak)(kg:Int)(iG:Int)(sW:Int)(head:Int)(bR:Int):(vK 172 #[(0,.b .a kg),(1,.b .a iG),(2,.b .a sW),(3,.b .a head),(4,.b .a bR)]).O ah W=.ok (.d (Pt.mk kg iG sW head bR).ay) W:=Uc.bd W _ _ _ _ qc (auD W _ qc) (by
 refine vV (Pt.J _) ?_ ?_
 ·simp[sF,dz]
 ·simp[rM,dz,Pt.ay]<;>(simp only[<-gD];rfl))
structure Nt where
 head:Int
 bR:Int
 aN:Int
 mW:Bool
 h:fD
 dst:fD
def Nt.ay(x:Nt):Array aB:=#[.b .a x.head,.b .a x.bR,.b .a x.aN,.e x.mW]++(x.h.ay++x.dst.ay)
theorem Nt.J(x:Nt):x.ay.j=38:=by simp[Nt.ay,fD.J]
theorem Nt.dx(x:Nt):x.ay.all (·.h)=true:=iy ((by simp[dA])) (iy (fD.dx _) (fD.dx _))
@[go_sem]theorem Nt.eU(x:Nt):eU x.ay=38:=Nt.J x
@[go_sem]theorem Nt.Ee(x:Nt):x.ay[0]? = some (.b .a x.head):=by simp[Nt.ay,aD,fD.J]
@[go_sem]theorem Nt.vX(x:Nt):x.ay[1]? = some (.b .a x.bR):=by simp[Nt.ay,aD,fD.J]
@[go_sem]theorem Nt.xJ(x:Nt):x.ay[2]? = some (.b .a x.aN):=by simp[Nt.ay,aD,fD.J]
@[go_sem]theorem Nt.Kz(x:Nt):x.ay[3]? = some (.e x.mW):=by simp[Nt.ay,aD,fD.J]
@[go_sem]theorem Nt.JB(x:Nt):x.ay.m 4 21=x.h.ay:=by simp[Nt.ay,bZ,fD.J,qA,uR]
@[go_sem]theorem Nt.JC(x:Nt):x.ay.m 21 38=x.dst.ay:=by simp[Nt.ay,bZ,fD.J,qA,uR]
def aa5:Nt:=⟨0,0,0,false,nQ,nQ⟩
@[go_sem]theorem ayH:cO #[bg,bg,bg,bP false,bP false,aA,aA,aA,aA,aA,aA,aA,aA,aA,aA,aA,aA,aA,aA,aA,aA,bP false,aA,aA,aA,aA,aA,aA,aA,aA,aA,aA,aA,aA,aA,aA,aA,aA]=cO aa5.ay:=rfl
@[go_sem]theorem auE:eX #[bg,bg,bg,bP false,bP false,aA,aA,aA,aA,aA,aA,aA,aA,aA,aA,aA,aA,aA,aA,aA,aA,bP false,aA,aA,aA,aA,aA,aA,aA,aA,aA,aA,aA,aA,aA,aA,aA,aA] 168=eX aa5.ay 168:=rfl
theorem kNt:pQ 168 38 aa5.ay:=⟨⟨_,Eo,rfl⟩,by kernel_rfl,by kernel_rfl,Nt.J _⟩
@[go_sem ↓]theorem aJH(v:aB):dw 168 v=yU 168 v:=rfl
@[go_sem ↓]theorem aJI(v x:aB):eY 168 v x=zX 168 v x:=rfl
@[go_sem]theorem aG0(W:ak)(b o:Nat)(x:Nt)(h:W.S b o 38):(zX 168 (.c (some ⟨b,o,none⟩)) (.d x.ay)).O ah W=.ok () (gV W b o x.ay):=kNt.st W b o x.ay h (Nt.J x) (Nt.dx x)
@[go_sem ↓]theorem aJJ(ps:Array (Nat×aB)):fU 168 ps=vK 168 ps:=rfl
theorem aDF(w:ak)(fs:Array oz)(h:ah.k 168=some (.d fs)):(iI (fun f=>Prod.mk f.offset <$> sizeOf f.p) fs:yA (Array (Nat×Nat))).O ah w=.ok #[(0,1),(1,1),(2,1),(3,1),(4,17),(21,17)] w:=by
 have e:=Eo;rw[h]at e;cases e;show _=_
 kernel_rfl
@[go_sem]theorem ayI(W:ak)(head:Int)(bR:Int)(aN:Int)(mW:Bool)(src:fD)(dst:fD):(vK 168 #[(0,.b .a head),(1,.b .a bR),(2,.b .a aN),(3,.e mW),(4,.d (src.ay)),(5,.d (dst.ay))]).O ah W=.ok (.d (Nt.mk head bR aN mW src dst).ay) W:=kNt.bd W _ _ _ _ Eo (aDF W _ Eo) (by
 refine vV (Nt.J _) ?_ ?_
 ·simp[sF,dz,fD.J]
 ·simp[rM,dz,Nt.ay]<;>(simp only[<-gD];rfl))
structure Pk where
 kind:Int
 K:Tu
 sW:Int
 h:Int
 ru:Int
 rE:Int
def Pk.ay(x:Pk):Array aB:=#[.b .a x.kind]++(x.K.ay ++ #[.b .a x.sW,.b .a x.h,.b .a x.ru,.b .a x.rE])
theorem Pk.J(x:Pk):x.ay.j=42:=by simp[Pk.ay,Tu.J]
theorem Pk.dx(x:Pk):x.ay.all (·.h)=true:=iy ((by simp[dA])) (iy (Tu.dx _) ((by simp[dA])))
@[go_sem]theorem Pk.eU(x:Pk):eU x.ay=42:=Pk.J x
@[go_sem]theorem Pk.zB(x:Pk):x.ay[0]? = some (.b .a x.kind):=by simp[Pk.ay,aD,Tu.J]
@[go_sem]theorem Pk.JE(x:Pk):x.ay.m 1 38=x.K.ay:=by simp[Pk.ay,bZ,Tu.J,qA,uR]
@[go_sem]theorem Pk.JD(x:Pk):x.ay[38]? = some (.b .a x.sW):=by simp[Pk.ay,aD,Tu.J]
@[go_sem]theorem Pk.af5(x:Pk):x.ay[39]? = some (.b .a x.h):=by simp[Pk.ay,aD,Tu.J]
@[go_sem]theorem Pk.af6(x:Pk):x.ay[40]? = some (.b .a x.ru):=by simp[Pk.ay,aD,Tu.J]
@[go_sem]theorem Pk.Ud(x:Pk):x.ay[41]? = some (.b .a x.rE):=by simp[Pk.ay,aD,Tu.J]
def N7:Pk:=⟨0,afb,0,0,0,0⟩
@[go_sem]theorem ayJ:cO #[bg,bP false,aA,aA,aA,aA,aA,aA,aA,aA,aA,aA,aA,aA,aA,aA,aA,aA,bP false,aA,aA,aA,aA,aA,aA,aA,aA,aA,aA,aA,aA,aA,aA,aA,aA,bg,bg,bg,bg,bg,bg,bg]=cO N7.ay:=rfl
@[go_sem]theorem auF:eX #[bg,bP false,aA,aA,aA,aA,aA,aA,aA,aA,aA,aA,aA,aA,aA,aA,aA,aA,bP false,aA,aA,aA,aA,aA,aA,aA,aA,aA,aA,aA,aA,aA,aA,aA,aA,bg,bg,bg,bg,bg,bg,bg] 83=eX N7.ay 83:=rfl
theorem kPk:pQ 83 42 N7.ay:=⟨⟨_,qN,rfl⟩,by kernel_rfl,by kernel_rfl,Pk.J _⟩
@[go_sem ↓]theorem aJK(v:aB):dw 83 v=yU 83 v:=rfl
@[go_sem ↓]theorem aJL(v x:aB):eY 83 v x=zX 83 v x:=rfl
@[go_sem]theorem aDG(W:ak)(c:Array aB)(x:Pk)(b:Nat)(hb:b=W.a.j)(hc:eU c=42):(zX 83 (.c (some ⟨b,0,none⟩)) (.d x.ay)).O ah (W.alloc (.D c 83))=.ok () (W.alloc (.D x.ay 83)):=kPk.stN W c x.ay b hb hc (Pk.J x) (Pk.dx x)
@[go_sem]theorem aG1(W:ak)(b o:Nat)(x:Pk)(h:W.S b o 42):(zX 83 (.c (some ⟨b,o,none⟩)) (.d x.ay)).O ah W=.ok () (gV W b o x.ay):=kPk.st W b o x.ay h (Pk.J x) (Pk.dx x)
@[go_sem ↓]theorem aJM(ps:Array (Nat×aB)):fU 83 ps=vK 83 ps:=rfl
theorem ayK(w:ak)(fs:Array oz)(h:ah.k 83=some (.d fs)):(iI (fun f=>Prod.mk f.offset <$> sizeOf f.p) fs:yA (Array (Nat×Nat))).O ah w=.ok #[(0,1),(1,37),(38,1),(39,1),(40,1),(41,1)] w:=by
 have e:=qN;rw[h]at e;cases e;show _=_
 kernel_rfl
structure Tn where
 head:Int
 bR:Int
 aN:Int
 mW:Bool
 ok:Bool
def Tn.ay(x:Tn):Array aB:=#[.b .a x.head,.b .a x.bR,.b .a x.aN,.e x.mW,.e x.ok]
theorem Tn.J(x:Tn):x.ay.j=5:=by simp[Tn.ay]
theorem Tn.dx(x:Tn):x.ay.all (·.h)=true:=by simp[Tn.ay,dA]
@[go_sem]theorem Tn.eU(x:Tn):eU x.ay=5:=Tn.J x
@[go_sem]theorem Tn.Ee(x:Tn):x.ay[0]? = some (.b .a x.head):=by simp[Tn.ay,aD]
@[go_sem]theorem Tn.vX(x:Tn):x.ay[1]? = some (.b .a x.bR):=by simp[Tn.ay,aD]
@[go_sem]theorem Tn.xJ(x:Tn):x.ay[2]? = some (.b .a x.aN):=by simp[Tn.ay,aD]
@[go_sem]theorem Tn.Kz(x:Tn):x.ay[3]? = some (.e x.mW):=by simp[Tn.ay,aD]
@[go_sem]theorem Tn.amT(x:Tn):x.ay[4]? = some (.e x.ok):=by simp[Tn.ay,aD]
def sS:Tn:=⟨0,0,0,false,false⟩
@[go_sem]theorem ayL:cO #[aI bT 0,aI bT 0,aI bT 0,bP false,bP false]=cO sS.ay:=rfl
@[go_sem]theorem auG:eX #[aI bT 0,aI bT 0,aI bT 0,bP false,bP false] 179=eX sS.ay 179:=rfl
theorem kTn:pQ 179 5 sS.ay:=⟨⟨_,uU,rfl⟩,by kernel_rfl,by kernel_rfl,Tn.J _⟩
@[go_sem ↓]theorem aJN(v:aB):dw 179 v=yU 179 v:=rfl
@[go_sem ↓]theorem aJO(v x:aB):eY 179 v x=zX 179 v x:=rfl
@[go_sem]theorem aDH(W:ak)(c:Array aB)(x:Tn)(b:Nat)(hb:b=W.a.j)(hc:eU c=5):(zX 179 (.c (some ⟨b,0,none⟩)) (.d x.ay)).O ah (W.alloc (.D c 179))=.ok () (W.alloc (.D x.ay 179)):=kTn.stN W c x.ay b hb hc (Tn.J x) (Tn.dx x)
@[go_sem]theorem aG2(W:ak)(b o:Nat)(x:Tn)(h:W.S b o 5):(zX 179 (.c (some ⟨b,o,none⟩)) (.d x.ay)).O ah W=.ok () (gV W b o x.ay):=kTn.st W b o x.ay h (Tn.J x) (Tn.dx x)
@[go_sem ↓]theorem aJP(ps:Array (Nat×aB)):fU 179 ps=vK 179 ps:=rfl
theorem ayM(w:ak)(fs:Array oz)(h:ah.k 179=some (.d fs)):(iI (fun f=>Prod.mk f.offset <$> sizeOf f.p) fs:yA (Array (Nat×Nat))).O ah w=.ok #[(0,1),(1,1),(2,1),(3,1),(4,1)] w:=by
 have e:=uU;rw[h]at e;cases e;show _=_
 kernel_rfl
@[go_sem]theorem aDI(W:ak):(vK 179 #[]).O ah W=.ok (.d sS.ay) W:=kTn.bd0 W _ uU ⟨_,ayM W _ uU⟩
@[go_sem]theorem ayN(W:ak)(head:Int)(bR:Int)(aN:Int)(mW:Bool)(ok:Bool):(vK 179 #[(0,.b .a head),(1,.b .a bR),(2,.b .a aN),(3,.e mW),(4,.e ok)]).O ah W=.ok (.d (Tn.mk head bR aN mW ok).ay) W:=kTn.bd W _ _ _ _ uU (ayM W _ uU) (by
 refine vV (Tn.J _) ?_ ?_
 ·simp[sF,dz]
 ·simp[rM,dz,Tn.ay]<;>(simp only[<-gD];rfl))
structure Lc where
 dst:Vector UInt8 6
 h:Vector UInt8 6
 VQ:Option aV
 FJ:Nat
 ahR:Nat
 mP:Int
 dW:Int
def Lc.ay(x:Lc):Array aB:=Bp x.dst++(Bp x.h ++ #[.a x.VQ x.FJ x.ahR,.b .a x.mP,.b .a x.dW])
theorem Lc.J(x:Lc):x.ay.j=15:=by simp[Lc.ay,gH]
theorem Lc.dx(x:Lc):x.ay.all (·.h)=true:=iy (aaZ _) (iy (aaZ _) ((by simp[dA])))
@[go_sem]theorem Lc.eU(x:Lc):eU x.ay=15:=Lc.J x
@[go_sem]theorem Lc.all(x:Lc):x.ay.m 0 15=x.ay:=by have:=Lc.J x;rw[<-this];simp
@[go_sem]theorem Lc.JC(x:Lc):x.ay.m 0 6=Bp x.dst:=by simp[Lc.ay,bZ,gH,qA,uR]
@[go_sem]theorem Lc.JB(x:Lc):x.ay.m 6 12=Bp x.h:=by simp[Lc.ay,bZ,gH,qA,uR]
@[go_sem]theorem Lc.aa6(x:Lc):x.ay[12]? = some (.a x.VQ x.FJ x.ahR):=by simp[Lc.ay,aD,gH]
@[go_sem]theorem Lc.EH(x:Lc):x.ay[13]? = some (.b .a x.mP):=by simp[Lc.ay,aD,gH]
@[go_sem]theorem Lc.Mw(x:Lc):x.ay[14]? = some (.b .a x.dW):=by simp[Lc.ay,aD,gH]
theorem Lc.amU(x:Lc)(A:Option aV)(n c:Nat):x.ay.c 12 (.a A n c)=({x with VQ:=A,FJ:=n,ahR:=c}:Lc).ay:=by simp[Lc.ay,aL,gH]
theorem Lc.Ue(x:Lc)(v:Int):x.ay.c 13 (.b .a v)=({x with mP:=v}:Lc).ay:=by simp[Lc.ay,aL,gH]
theorem Lc.aqn(x:Lc)(v:Int):x.ay.c 14 (.b .a v)=({x with dW:=v}:Lc).ay:=by simp[Lc.ay,aL,gH]
def qG:Lc:=⟨(bG 6 0),(bG 6 0),none,0,0,0,0⟩
@[go_sem]theorem ayO:cO #[aA,aA,aA,aA,aA,aA,aA,aA,aA,aA,aA,aA,bB none 0 0,bg,bg]=cO qG.ay:=rfl
@[go_sem]theorem auH:eX #[aA,aA,aA,aA,aA,aA,aA,aA,aA,aA,aA,aA,bB none 0 0,bg,bg] 108=eX qG.ay 108:=rfl
theorem kLc:pQ 108 15 qG.ay:=⟨⟨_,uV,rfl⟩,by kernel_rfl,by kernel_rfl,Lc.J _⟩
@[go_sem ↓]theorem aJQ(v:aB):dw 108 v=yU 108 v:=rfl
@[go_sem ↓]theorem aJR(v x:aB):eY 108 v x=zX 108 v x:=rfl
@[go_sem]theorem aG3(W:ak)(b o:Nat)(h:yE W b o 15):(yU 108 (.c (some ⟨b,o,none⟩))).O ah W=.ok (.d (eH W b o 15)) W:=kLc.ld W b o h
@[go_sem]theorem aDJ(W:ak)(c:Array aB)(x:Lc)(b:Nat)(hb:b=W.a.j)(hc:eU c=15):(zX 108 (.c (some ⟨b,0,none⟩)) (.d x.ay)).O ah (W.alloc (.D c 108))=.ok () (W.alloc (.D x.ay 108)):=kLc.stN W c x.ay b hb hc (Lc.J x) (Lc.dx x)
@[go_sem]theorem aG4(W:ak)(b o:Nat)(x:Lc)(h:W.S b o 15):(zX 108 (.c (some ⟨b,o,none⟩)) (.d x.ay)).O ah W=.ok () (gV W b o x.ay):=kLc.st W b o x.ay h (Lc.J x) (Lc.dx x)
@[go_sem ↓]theorem aJS(ps:Array (Nat×aB)):fU 108 ps=vK 108 ps:=rfl
theorem ayP(w:ak)(fs:Array oz)(h:ah.k 108=some (.d fs)):(iI (fun f=>Prod.mk f.offset <$> sizeOf f.p) fs:yA (Array (Nat×Nat))).O ah w=.ok #[(0,6),(6,6),(12,1),(13,1),(14,1)] w:=by
 have e:=uV;rw[h]at e;cases e;show _=_
 kernel_rfl
@[go_sem]theorem aDK(W:ak):(vK 108 #[]).O ah W=.ok (.d qG.ay) W:=kLc.bd0 W _ uV ⟨_,ayP W _ uV⟩
structure Tg where
 mP:Int
 tci:Int
def Tg.ay(x:Tg):Array aB:=#[.b .a x.mP,.b .a x.tci]
theorem Tg.J(x:Tg):x.ay.j=2:=by simp[Tg.ay]
theorem Tg.dx(x:Tg):x.ay.all (·.h)=true:=by simp[Tg.ay,dA]
@[go_sem]theorem Tg.EH(x:Tg):x.ay[0]? = some (.b .a x.mP):=by simp[Tg.ay,aD]
@[go_sem]theorem Tg.amV(x:Tg):x.ay[1]? = some (.b .a x.tci):=by simp[Tg.ay,aD]
def SH:Tg:=⟨0,0⟩
@[go_sem]theorem ayQ:cO #[aI bT 0,aI bT 0]=cO SH.ay:=rfl
@[go_sem]theorem auI:eX #[aI bT 0,aI bT 0] 268=eX SH.ay 268:=rfl
theorem kTg:pQ 268 2 SH.ay:=⟨⟨_,Ep,rfl⟩,by kernel_rfl,by kernel_rfl,Tg.J _⟩
@[go_sem ↓]theorem aJT(v:aB):dw 268 v=yU 268 v:=rfl
@[go_sem ↓]theorem aJU(v x:aB):eY 268 v x=zX 268 v x:=rfl
@[go_sem]theorem aG5(W:ak)(b o:Nat)(h:yE W b o 2):(yU 268 (.c (some ⟨b,o,none⟩))).O ah W=.ok (.d (eH W b o 2)) W:=kTg.ld W b o h
@[go_sem]theorem aDL(W:ak)(c:Array aB)(x:Tg)(b:Nat)(hb:b=W.a.j)(hc:eU c=2):(zX 268 (.c (some ⟨b,0,none⟩)) (.d x.ay)).O ah (W.alloc (.D c 268))=.ok () (W.alloc (.D x.ay 268)):=kTg.stN W c x.ay b hb hc (Tg.J x) (Tg.dx x)
@[go_sem ↓]theorem aJV(ps:Array (Nat×aB)):fU 268 ps=vK 268 ps:=rfl
theorem aDM(w:ak)(fs:Array oz)(h:ah.k 268=some (.d fs)):(iI (fun f=>Prod.mk f.offset <$> sizeOf f.p) fs:yA (Array (Nat×Nat))).O ah w=.ok #[(0,1),(1,1)] w:=by
 have e:=Ep;rw[h]at e;cases e;show _=_
 kernel_rfl
@[go_sem]theorem ayS(W:ak)(mP:Int)(tci:Int):(vK 268 #[(0,.b .a mP),(1,.b .a tci)]).O ah W=.ok (.d (Tg.mk mP tci).ay) W:=kTg.bd W _ _ _ _ Ep (aDM W _ Ep) (by
 refine vV (Tg.J _) ?_ ?_
 ·simp[sF,dz]
 ·simp[rM,dz,Tg.ay]<;>(simp only[<-gD];rfl))
def dF(l:List UInt8)(k:Nat):Nat:=256*(l.b k 0).e+(l.b (k+1) 0).e
theorem wK(l:List UInt8)(k:Nat):dF l k<=65535:=by
 have h1:=(l.b k 0).a;have h2:=(l.b (k+1) 0).a;unfold dF;omega
theorem JF(l:List UInt8)(k:Nat)(h:k+1<l.a):o9 (((l.G k).E 2).E 8)=dF l k:=by
 rw[U0 l k h];simp[o9,dF];omega
theorem jY(n:Int)(h : -9223372036854775808<=n/\n<=9223372036854775807):bT.wrap n=n:=by simp[wP,oH,mH];omega
section
variable (W:ak) (A:Option aV) (n c B:Nat) (l:List UInt8) (k:Nat)
theorem ajz(hk:k+1<n)(hnc:n<=c)(hc:c<=9223372036854775807)(hr:gG W W.a.j A n l):aR ah 246 #[.a A n c,.b .a k] W (gY W (.b .a (dF l k:Nat))):=by
 have hl:=hr.len;have h0:=ab (wK l k);have h1:(k:Int)+2<=c:=by omega
 have h2:(k:Int)<=(k:Int)+2:=by omega
 have P:=hr.QW (z:=k) (b:=k+2) (c:=c) (by omega) (by omega) (by omega);rw[cZ,if_neg (by omega)]at P;have C:=ab (Na _ 2 (c-k) _ W (by omega) (by omega) P);rw[JF l k (by omega)]at C;have h3:wrap64 (dF l k:Nat)=(dF l k:Nat):=by have:=h0.i;unfold wrap64;omega
 generalize dF l k=x at *;clear P hr;go_enter Tryz.func246,Tryz.ntmps246;go_wp2_with (go_at_call 180;with_reducible refine C.i.g ?_;rintro e w' ⟨rfl,hb⟩);go_ret;exact⟨congrArg (fun z=>uT (.b .a z)) h3,hb⟩
theorem aa8(i:Int)(hi:i=k)(hk:k+1<n)(hnc:n<=c)(hc:c<=9223372036854775807)(hr:gG W W.a.j A n l):aR ah 246 #[.a A n c,.b .a i] W (gY W (.b .a (dF l k:Nat))):=by subst hi;exact ajz W A n c l k hk hnc hc hr
theorem amW(hk:k+1<n)(hnc:n<=c)(hc:c<=9223372036854775807)(hr:gG W W.a.j A n l):aR ah 249 #[.a A n c,.b .a k] W (gY W (.b .a (dF l k:Nat))):=by
 have hl:=hr.len;have h0:=ab (wK l k);have h1:(k:Int)+2<=c:=by omega
 have h2:(k:Int)<=(k:Int)+2:=by omega
 have P:=hr.QW (z:=k) (b:=k+2) (c:=c) (by omega) (by omega) (by omega);rw[cZ,if_neg (by omega)]at P;have C:=ab (Na _ 2 (c-k) _ W (by omega) (by omega) P);rw[JF l k (by omega)]at C;have h3:wrap64 (dF l k:Nat)=(dF l k:Nat):=by have:=h0.i;unfold wrap64;omega
 generalize dF l k=x at *;clear P hr;go_enter Tryz.func249,Tryz.ntmps249;go_wp2_with (go_at_call 180;with_reducible refine C.i.g ?_;rintro e w' ⟨rfl,hb⟩);go_ret;exact⟨congrArg (fun z=>uT (.b .a z)) h3,hb⟩
theorem amX(i:Int)(hi:i=k)(hk:k+1<n)(hnc:n<=c)(hc:c<=9223372036854775807)(hr:gG W W.a.j A n l):aR ah 249 #[.a A n c,.b .a i] W (gY W (.b .a (dF l k:Nat))):=by subst hi;exact amW W A n c l k hk hnc hc hr
theorem ajA(hk:k+1<n)(hnc:n<=c)(hc:c<=9223372036854775807)(hr:gG W W.a.j A n l):aR ah 177 #[.a A n c,.b .a k] W (gY W (.b .a (dF l k:Nat))):=by
 have hl:=hr.len;have h0:=ab (wK l k);have h1:(k:Int)+2<=c:=by omega
 have h2:(k:Int)<=(k:Int)+2:=by omega
 have P:=hr.QW (z:=k) (b:=k+2) (c:=c) (by omega) (by omega) (by omega);rw[cZ,if_neg (by omega)]at P;have C:=ab (Na _ 2 (c-k) _ W (by omega) (by omega) P);rw[JF l k (by omega)]at C;have h3:wrap64 (dF l k:Nat)=(dF l k:Nat):=by have:=h0.i;unfold wrap64;omega
 generalize dF l k=x at *;clear P hr;go_enter Tryz.func177,Tryz.ntmps177;go_wp2_with (go_at_call 180;with_reducible refine C.i.g ?_;rintro e w' ⟨rfl,hb⟩);go_ret;exact⟨congrArg (fun z=>uT (.b .a z)) h3,hb⟩
theorem Od(i:Int)(hi:i=k)(hk:k+1<n)(hnc:n<=c)(hc:c<=9223372036854775807)(hr:gG W W.a.j A n l):aR ah 177 #[.a A n c,.b .a i] W (gY W (.b .a (dF l k:Nat))):=by subst hi;exact ajA W A n c l k hk hnc hc hr
theorem af7(hk:k+1<n)(hnn:n<=1000000000)(hr:gG W B A n l):aR ah 299 #[.a A n c,.b .a k] W fun e W'=>e=.a (.b .a (dF l k:Nat))/\∃q,W'=W.drewN q:=by
 obtain⟨a,rfl,_,h1⟩:=hr.dW (show k<n by omega);obtain⟨a',e,_,h2⟩:=hr.dW hk;injection e with e
 subst e;have h3:=h2;unfold rU at h3;rw[if_neg (by omega)]at h3;have H:=ab (show dF l k=256*(l.b k 0).e+(l.b (k+1) 0).e from rfl);have b1:=(l.b k 0).a;have b2:=(l.b (k+1) 0).a;unfold bv at h1 h2 h3;generalize(l.b k 0).e=x at *;generalize(l.b (k+1) 0).e=y at *;have hk1:(k:Int)<n:=by omega
 have hk2:(k:Int)+1<n:=by omega
 have hk3:(0:Int)<=(k:Int)+1:=by omega
 have w1:=jY ((k:Int)+1) (by omega);have w2:=jY (x:Int) (by omega);have w3:=jY (y:Int) (by omega);have w4:=jY (256*(x:Int)) (by omega);have w5:=jY (256*(x:Int)+y) (by omega);clear hr;go_enter Tryz.func299,Tryz.ntmps299;go_wp2_with fail;go_quiet (fail);go_wp2;go_ret;exact⟨by rw[H.i];rfl,_,rfl⟩
theorem JG(hk:2<=n)(hnc:n<=c)(hc:c<=9223372036854775807)(hr:gG W W.a.j A n l):aR ah 173 #[.a A n c] W (gY W (.b .a (dF l 0:Nat))):=by
 have hl:=hr.len;have h0:=ab (wK l 0);have h1:(2:Int)<=c:=by omega
 have P:gG W W.a.j A 2 (l.E 2):=by
  have:=Rd.upto hr (k:=2) (by omega);rw[gP,<-BI]at this;exact this
 have C:=ab (Na _ 2 c _ W (by omega) (by omega) P);rw[show o9 ((l.E 2).E 8)=dF l 0 from JF l 0 (by omega)]at C;have h3:wrap64 (dF l 0:Nat)=(dF l 0:Nat):=by have:=h0.i;unfold wrap64;omega
 generalize dF l 0=x at *;clear P hr;go_enter Tryz.func173,Tryz.ntmps173;go_wp2_with (go_at_call 180;with_reducible refine C.i.g ?_;rintro e w' ⟨rfl,hb⟩);go_ret;exact⟨congrArg (fun z=>uT (.b .a z)) h3,hb⟩
def oC(n:Int):Bool:=decide (n=33024\/n=34984)
theorem aa9(n:Int):aR ah 174 #[.b .a n] W fun e W'=>e=.a (.e (oC n))/\W=W':=by
 go_enter Tryz.func174,Tryz.ntmps174;go_wp2
 all_goals(go_ret;refine⟨?_,rfl⟩;(by_cases h1:n=33024<;>by_cases h2:n=34984<;>simp_all[oC]))
end
structure Lk where
 dst:Vector UInt8 6
 h:Vector UInt8 6
 dM:List Tg
 mP:Int
 dW:Nat
def FK:Lk:=⟨bG 6 0,bG 6 0,[],0,0⟩
def rF(l:List UInt8):Nat->Nat->List Tg->Lk×Int
 | m,k,dM=>if oC (dF l (k-2))then(match m with
  | 0=>(FK,4)
  | m+1=>if l.a<k+4 then(FK,2)else rF l m (k+4) (dM++[⟨dF l (k-2),dF l k⟩]))
   else(⟨lZ 6 l,lZ 6 (l.G 6),dM,dF l (k-2),k⟩,0)
theorem ny{l:List UInt8}{m k:Nat}{dM:List Tg}(h:oC (dF l (k-2):Nat)=false):rF l m k dM=(⟨lZ 6 l,lZ 6 (l.G 6),dM,dF l (k-2),k⟩,0):=by cases m<;>simp[rF,h]
theorem wL{l:List UInt8}{k:Nat}{dM:List Tg}(h:oC (dF l (k-2):Nat)=true):rF l 0 k dM=(FK,4):=by simp[rF,h]
theorem sU{l:List UInt8}{m k:Nat}{dM:List Tg}(h:oC (dF l (k-2):Nat)=true)(h2:l.a<k+4):rF l (m+1) k dM=(FK,2):=by simp[rF,h,h2]
theorem sj{l:List UInt8}{m k:Nat}{dM:List Tg}(h:oC (dF l (k-2):Nat)=true)(h2:¬l.a<k+4):rF l (m+1) k dM=rF l m (k+4) (dM++[⟨(dF l (k-2):Nat),(dF l k:Nat)⟩]):=by simp[rF,h,h2]
def iV(l:List UInt8):Lk×Int:=if l.a<14 then(FK,2)else rF l 2 14 []
def Lk.cell(x:Lk)(A:Option aV)(c:Nat):Lc:=⟨x.dst,x.h,A,x.dM.a,c,x.mP,x.dW⟩
def LkP(W:ak)(r:Lk×Int)(e:lJ)(W':ak):Prop:=∃A c,e=.a (.K #[.d (r.1.cell A c).ay,.b .a r.2])/\iT Tg.ay 2 W' W'.a.j A r.1.dM.a r.1.dM/\aM W.a.j W W'
theorem GZ{q r v:Array aB}(h:v.j=q.j):tC (q++r) 0 v=v++r:=by
 have:=VK #[] (q++r) v (by simp;omega);simp only[Array.empty_append,Array.size_empty]at this;rw[this,h];simp[bZ,uR]
theorem qH{p q r v:Array aB}(h:v.j=q.j)(k:Nat)(hk:p.j=k):tC (p++(q++r)) k v=p++(v++r):=by
 subst hk;rw[VK p (q++r) v (by simp;omega),h,gD];simp[bZ,uR]
theorem dP.setCells{W:ak}{b:Nat}{c:Array aB}(h:dP W b c)(o:Nat)(vs:List aB):dP (W.setCells b o vs) b (tC c o vs.c):=by
 obtain⟨t,h⟩:=h;exact⟨t,Ux b t vs o c W h⟩
theorem Lc.aa'(x:Lc)(v:Vector UInt8 6):tC x.ay 0 (Bp v)=({x with dst:=v}:Lc).ay:=by
 unfold Lc.ay;exact GZ (by rw[gH,gH])
theorem Lc.abb(x:Lc)(v:Vector UInt8 6):tC x.ay 6 (Bp v)=({x with h:=v}:Lc).ay:=by
 unfold Lc.ay;exact qH (by rw[gH,gH]) 6 (gH _)
theorem FL{P:fB}(W:ak){B y o m n c d:Nat}{A:Option aV}{l:List UInt8}(hR:gG W B A n l)(hm:m<=n)(hm0:0<m)(hth:W.S y o m)(T ty e:bL)(hu:P.k T=some (.a e))(hs:(P.l e).map (·.j)=some 1):
 (qZ #[T,T] ty #[.a (some ⟨y,o,none⟩) m d,.a A n c]).O P W=.ok (goInt m) (W.setCells y o ((l.E m).map bv)):=by
 have hn:=hR.len;obtain⟨a,rfl,_,hc⟩:=hR.2 (by omega);have hl:((l.E m).map bv).a=m:=by simp;omega
 have:=run_copy_cells (P:=P) W T T ty e y o m d a n c ((l.E m).map bv) hu hs (by rw[hl];exact(Nat.min_eq_right hm).symm) (fun j v hj=>hc j v (by
  have hj2:j<m:=by
   rcases aZ j m with h|h
   ·exact h
   ·rw[aT (by rw[hl];exact h)]at hj;cases hj
  rw[jM,iB hj2,<-jM]at hj;exact hj)) (fun j hj=>(hth j (by rw[hl]at hj;exact hj)).1) (fun j hj=>(hth j (by rw[hl]at hj;exact hj)).2) (Ki _)
 rw[hl]at this;exact this
theorem Oe(k:Nat)(l:List UInt8)(h:k<=l.a):(l.E k).map bv=(lZ k l).a.map bv:=by
 congr 1;apply iC;intro j;rcases aZ j k with hj|hj
 ·rw[iB hj]
  simp[lZ,hj,au,aC (show j<l.a by omega)]
 ·rw[aT (by simp;omega),aT (by simpa using hj)]
theorem aqo:aaX 106 268 Tg.ay 2:=by
 obtain⟨i,h1,h2,h3⟩:=kTg.af3;have h4:(ah.l 268).map (fun i=>decide (i.bytes<=1000))=some true:=by kernel_rfl
 rw[h1]at h4;simp at h4;exact⟨i,_,Tryz.underlying106,h1,h3,h2,Tg.J _,by omega,h4,Tg.J,Tg.dx⟩
def asC(n:Nat)(ps:Array (Nat×aB)):yA aB:=bJ 106 n ps
@[go_sem ↓]theorem ayT(n:Nat)(ps:Array (Nat×aB)):bJ 106 n ps=asC n ps:=rfl
@[go_sem]theorem aw9(w:ak)(x:Tg):(asC 1 #[(0,.d x.ay)]).O ah w=.ok (.a (some ⟨w.a.j,0,none⟩) 1 1) (w.alloc (.D x.ay 268)):=by
 obtain⟨i,h1,h2,h3⟩:=kTg.af3;exact sM w _ _ i (.d SH.ay) 2 Tryz.underlying106 h1 h3 h2 (Tg.J _) (by omega) (by omega) x.ay (Tg.J x)
section
variable {α:Type} {f:α->Array aB} {sz:Nat} {e:bL} {L:List (Nat×Array aB)} {w0 W:ak} {v:aB} {l:List α} {q:Nat} {c:Array aB}
theorem Rz.amY(h:Rz f sz e ((q,c)::L) w0 W v l)(hq:w0.a.j<=q)(hL:∀p∈L,p.1≠q)(j:Nat)(u:aB):Rz f sz e ((q,c.c j u)::L) w0 (W.I ⟨q,j,none⟩ u) v l:=
 ⟨Uv h.vM (h.J (q,c) (by simp)).2 u,h.X.I hq u,fun p hp=>by
  rcases bD.1 hp with rfl|hp
  ·exact⟨h.Z.fC j u,(h.J (q,c) (by simp)).2⟩
  ·obtain⟨h1,h2⟩:=h.J p (by simp[hp]);exact⟨h1.dQ _ u (fun e=>hL p hp e.symm),h2⟩⟩
theorem abd{base size n:Nat}{xs:List aB}(vs:List aB):∀(o:Nat)(W:ak),W.c base e size v n xs->v.f≠some q->(W.setCells q o vs).c base e size v n xs:=by
 induction vs with
 | nil=>exact fun _ _ h _=>h
 | cons u vs ih=>intro o W h hq;exact ih (o+1) _ (Uv h hq u) hq
theorem Rz.auJ(h:Rz f sz e ((q,c)::L) w0 W v l)(hq:w0.a.j<=q)(hL:∀p∈L,p.1≠q)(o:Nat)(x:Array aB):Rz f sz e ((q,tC c o x)::L) w0 (gV W q o x) v l:=
 ⟨abd _ _ _ h.vM (h.J (q,c) (by simp)).2,lQ h.X q o x hq,fun p hp=>by
  rcases bD.1 hp with rfl|hp
  ·exact⟨by have:=h.Z.setCells o x.a;simpa[gV]using this,(h.J (q,c) (by simp)).2⟩
  ·obtain⟨h1,h2⟩:=h.J p (by simp[hp]);exact⟨h1.gN (hL p hp),h2⟩⟩
theorem Rz.swap{p1 p2:Nat×Array aB}(h:Rz f sz e (p1::p2::L) w0 W v l):Rz f sz e (p2::p1::L) w0 W v l:=
 ⟨h.vM,h.X,fun p hp=>h.J p (by simp at hp⊢;rcases hp with h|h|h<;>simp[h])⟩
end
theorem Rz.ans{α:Type}{f:α->Array aB}{sz:Nat}{e:bL}{w0 W:ak}{v:aB}{l:List α}{q r:Nat}{c d x:Array aB}(h:Rz f sz e [(q,c),(r,d)] w0 W v l)(hr:w0.a.j<=r)(hne:r≠q)(hx:x.j=d.j):Rz f sz e [(r,x),(q,c)] w0 (gV W r 0 x) v l:=by
 have h1:=h.swap.auJ hr (fun p hp=>by rw[fO.1 hp];exact fun e=>hne e.symm) 0 x;refine⟨h1.vM,h1.X,fun p hp=>?_⟩;rcases bD.1 hp with rfl|hp
 ·exact⟨h.b1.put x hx,(h.J (r,d) (by simp)).2⟩
 ·exact h1.J p (by simp[hp])
theorem auK{ops:Array ji}{o:ji}{a:rO}{W:ak}{K:rO->ak->Prop}{Q:Bn->rO->ak->Prop}{E:Prop}(hgd:o.guard=none)(h:nV ah o a W K Q):if fK o (yielded ops a.tmps)=true then nV ah o a W K Q else E:=by
 have hw:fK o (yielded ops a.tmps)=true:=by simp[fK,hgd]
 rw[if_pos hw];exact h
theorem auL{α:Type}{f:α->Array aB}{sz:Nat}{e t:bL}{L:List (Nat×Array aB)}{w0 W:ak}{l ys:List α}(T:aaX t e f sz){ops:Array ji}{o:ji}{a:rO}{K:rO->ak->Prop}{Q:Bn->rO->ak->Prop}{E:Prop}(hgd:o.guard=none)(s x:ql)
 (ho:o.op=.call {callee:=.builtin .append,args:=#[s,x],argTypes:=#[t,t]}) (v:aB) (A:Option aV) (m c:Nat) (hs:a.eval s=v) (H:Rz f sz e L w0 W v l) {C:Nat} (hx:a.eval x=.a A m c) (hr:iT f sz W C A m ys)
 (hlen:l.a+m<=1000000)
 (h:∀A' n' c' w',Rz f sz e L w0 w' (.a A' n' c') (l++ys)->W.d w' v.f->K (a.put o.dst (.a A' n' c')) w'):if fK o (yielded ops a.tmps)=true then nV ah o a W K Q else E:=
 aqb T hgd s x ho hs H hx hr hlen h
@[go_sem]theorem ayU(W:ak)(t k:Int):(vK 108 #[(3,.b .a t),(4,.b .a k)]).O ah W=.ok (.d (Lc.mk (bG 6 0) (bG 6 0) none 0 0 t k).ay) W:=
 kLc.bd W _ _ _ _ uV (ayP W _ uV) rfl
def lK(l:List UInt8)(k:Nat):Nat:=(l.b k 0).e
theorem vY(l:List UInt8)(k:Nat):lK l k<256:=(l.b k 0).a
def xK(l:List UInt8):fD:=⟨false,lZ 16 (l.E 4)⟩
def qV(l:List UInt8):Nat:=lK l 0%16*4
def vZ(l:List UInt8):Fo:=⟨qV l,dF l 2,lK l 1,dF l 4,decide (dF l 6%16384≠0),decide (dF l 6/16384%2=1),lK l 8,lK l 9,xK (l.G 12),xK (l.G 16)⟩
def wU(l:List UInt8):Int:=
 if l.a<20 then 2 else if lK l 0/16≠4\/qV l<20 then 3 else if l.a<qV l then 2 else if dF l 2<qV l then 3
 else if l.a<dF l 2 then 2 else if uo (l.E (qV l))≠0 then 8 else 0
def wV(l:List UInt8):Fo×Int:=if wU l=0 then(vZ l,0)else(yu,wU l)
theorem fD.JH(a:fD):a.ay = #[.e a.h]++jl a.b:=by simp[fD.ay,jl]
section
variable (W:ak) (A:Option aV) (n c B:Nat) (l:List UInt8)
theorem aDO(l:List UInt8)(h:4<=l.a):tC nQ.ay 1 ((l.E 4).map bv).c=(xK l).ay:=by
 apply dZ;intro j;rw[EX,fD.JH,fD.JH];rcases j with _|j
 ·simp[nQ,xK,aD]
 ·rw[asB,asB]
  have hs:((l.E 4).map bv).c.j=4:=by simp;omega
  rw[hs,oJ,dO];have hb:∀v:Vector UInt8 16,∀k,k<16->(jl v)[k]? = some (bv (v.a.b k 0)):=by
   intro v k hk;simp[jl,au,hk]
  rcases(show j<4\/(4<=j/\j<16)\/16<=j by omega)with h|⟨h,h'⟩|h
  ·rw[if_pos ⟨by omega,by omega,by simp;omega⟩,hb _ _ (by omega)]
   simp[xK,lZ,show j<16 by omega,h,au,iB h,aC (show j<l.a by omega)]
  ·rw[if_neg (by omega),hb _ _ h',hb _ _ h']
   have:(l.E 4).a<=j:=by simp;omega
   congr 2;rw[show nQ.b.a=dY 16 0 from Vector.toList_replicate,au,List.getElem?_replicate,if_pos h'];simp[xK,lZ,h',au,aT this]
  ·rw[if_neg (by omega),aW (by rw[dO];exact h),aW (by rw[dO];exact h)]
theorem YQ(hn:4<=n)(hr:gG W W.a.j A n l):aR ah 248 #[.a A n c] W (gY W (.d (xK l).ay)):=by
 have hl:=hr.len;have B1:=ab (((aG W.a.j W).alloc (av _) (.D nQ.ay 27)).alloc (by simp) (.D nQ.ay 27));have x1:=ab (dP.Us W (.D nQ.ay 27) nQ.ay 27);have x0:=ab ((dP.new W nQ.ay 27).alloc (.D nQ.ay 27));have R1:=ab ((hr.Y B1.i).lD B1.i.j:gG ((W.alloc (.D nQ.ay 27)).alloc (.D nQ.ay 27)) ((W.alloc (.D nQ.ay 27)).alloc (.D nQ.ay 27)).a.j A n l);go_enter Tryz.func248,Tryz.ntmps248;generalize hw1:(W.alloc (.D nQ.ay 27)).alloc (.D nQ.ay 27)=w1 at B1 x1 x0 R1;have cp:∀ty,(qZ #[56,56] ty #[.a (some ⟨W.a.j+1,1,none⟩) 4 16,.a A n c]).O ah w1=.ok (goInt 4) (gV w1 (W.a.j+1) 1 ((l.E 4).map bv).c):=fun ty=>by
  have h1:=x1.i.S 1 4 (by rw[fD.J];omega);have:=FL (c:=c) (d:=16) w1 R1.i (m:=4) hn (by omega) h1 56 ty 5 dD amD;rw[this];simp only[gV,List.toList_toArray];rfl
 have x2:=ab (x1.i.setCells 1 ((l.E 4).map bv));rw[aDO l (by omega)]at x2;have x3:=ab (show dP (gV w1 (W.a.j+1) 1 ((l.E 4).map bv).c) (W.a.j+1) (xK l).ay by have:=x2.i;simp only[gV,List.toList_toArray];exact this);have x4:=ab (show dP (gV w1 (W.a.j+1) 1 ((l.E 4).map bv).c) W.a.j nQ.ay from x0.i.gN (by omega));have B2:=ab (lQ B1.i (W.a.j+1) 1 ((l.E 4).map bv).c (by omega));obtain⟨a,ha⟩:=cB (xK l);rw[<-ha]at x3 ⊢;clear ha;obtain⟨v,hv⟩:=cB (((l.E 4).map bv).c);rw[<-hv]at cp x3 x4 B2;clear hv x2;obtain⟨y1,y2,y3,y4⟩:=x3.i.R;have th:=x4.i.S 0 17 (by rw[fD.J];omega);go_upto_region 2 with fail
 clear hw1;go_wp2;have x5:=ab (x4.i.put a.ay (by rw[fD.J,fD.J]));refine aO (aa0.Aj rfl _ rfl x5.i (fD.J _)) rfl ?_;exact⟨rfl,lQ B2.i _ _ _ (av _)⟩
end
theorem ayV(b:Nat)(h:b<256):bits .and .b (b:Int) 15=((b%16:Nat):Int):=(by decide +kernel:∀b:Fin 256,bits .and .b ((b.val:Nat):Int) 15=((b.val%16:Nat):Int)) ⟨b,h⟩
theorem ayW(x:Nat)(hx:x<=65535):(bits .and .a (x:Int) 16383 != 0)=decide (x%16384≠0):=by
 have h1:(gI 64 (x:Int)).e=x:=by rw[mI,nW];exact gy (by omega)
 have:bits .and .a (x:Int) 16383=((x%16384:Nat):Int):=by
  show bT.wrap ((gI 64 (x:Int) &&& gI 64 16383).e:Int)=_;rw[Gs,h1,show(gI 64 16383).e=2^14-1 by decide,Nat.and_two_pow_sub_one_eq_mod,jY _ (by omega)]
 rw[this,dG];simp;omega
theorem aqp(x k:Nat):(x &&& 2^k=0)↔x.testBit k=false:=by
 constructor
 ·intro h
  have:=congrArg (fun z=>Nat.testBit z k) h;simpa[Nat.testBit_and,Nat.testBit_two_pow]using this
 ·intro h
  apply Nat.eq_of_testBit_eq;intro i;rw[Nat.testBit_and,Nat.testBit_two_pow,Nat.zero_testBit];by_cases hi:k=i
  ·subst hi;simp[h]
  ·simp[hi]
theorem ajB(x:Nat)(hx:x<=65535):(bits .and .a (x:Int) 16384 != 0)=decide (x/16384%2=1):=by
 have h1:(gI 64 (x:Int)).e=x:=by rw[mI,nW];exact gy (by omega)
 have h2:x &&& 2^14<=x:=Nat.and_le_left;have:bits .and .a (x:Int) 16384=((x &&& 2^14:Nat):Int):=by
  show bT.wrap ((gI 64 (x:Int) &&& gI 64 16384).e:Int)=_;rw[Gs,h1,show(gI 64 16384).e=2^14 by decide,jY _ (by omega)]
 have h3:=aqp x 14;rw[Nat.testBit_eq_decide_div_mod_eq]at h3;have h4:((x &&& 2^14:Nat):Int)=0↔x &&& 2^14=0:=by omega
 rw[this,dG,bne_iff_ne,decide_eq_true_eq,Ne,h4,h3,decide_eq_false_iff_not,Classical.not_not]
theorem He{l:List UInt8}{k:Int}(h:wU l=k)(hk:k≠0):wV l=(yu,k):=by unfold wV;rw[h,if_neg hk]
theorem auM{l:List UInt8}(h:wU l=0):wV l=(vZ l,0):=by unfold wV;rw[if_pos h]
def FoP(W:ak)(r:Fo×Int)(e:lJ)(W':ak):Prop:=e=.a (.K #[.d r.1.ay,.b .a r.2])/\aM W.a.j W W'
theorem aqr:mK 1 = #[0]:=by apply pU;rw[kF];rfl
@[go_sem]theorem asD(w:ak)(A:Option aV)(a b:Nat):(GV 1 #[(0,.a A a b)]).O ah w=.ok (.a (some ⟨w.a.j,0,none⟩) 1 1) (w.alloc (.D #[.a A a b] 56)):=by
 obtain⟨i0,hi0,hz0,hz1⟩:=TQ;simp[GV,bJ,dK Em,zeroValue,sizeOf,typeInfo,hi0,hz0,hz1,fJ,newRow,dz,aqr]
theorem gG.XD{w:ak}{B n:Nat}{A:Option aV}{l:List UInt8}(h:gG w B A n l)(k:Nat)(hk:k+1<n):∃a,A=some a/\w.b ⟨a.block,a.off+(k+1),none⟩=some (.b .b (lK l (k+1))):=by
 obtain⟨a,e,_,h1⟩:=h.dW hk;unfold rU at h1;rw[if_neg (by omega)]at h1;exact⟨a,e,h1⟩
theorem Og(W:ak)(A:Option aV)(n c:Nat)(l:List UInt8)(hnc:n<=c)(hc:c<=9223372036854775807/\n<=1000000000)(hr:gG W W.a.j A n l):aR ah 175 #[.a A n c] W (FoP W (wV l)):=by
 have HR:=ab hr;have hl:=ab hr.len;have b0:=ab (dP.new W yu.ay 192);have B0:=ab ((aG W.a.j W).alloc (av _) (.D yu.ay 192));clear hr;go_enter Tryz.func175,Tryz.ntmps175;by_cases h20:n<20
 ·have aqs:(n:Int)<20:=by omega
  have H:=ab (show wV l=(yu,2)from He (by unfold wU;rw[if_pos (by rw[hl.i];exact h20)]) (by decide));go_wp2;refine aO (kFo.rb rfl _ rfl b0.i (Fo.J _)) rfl ?_;rw[H.i];exact⟨rfl,B0.i⟩
 have aqs:¬(n:Int)<20:=by omega
 have i0:(0:Int)<n:=by omega
 have i0':0<n:=by omega
 generalize hw1:W.alloc (.D yu.ay 192)=w1 at b0 B0;obtain⟨T,f,n0,E0,es,ew⟩:=Jh (fun W'=>aM W.a.j W W'/\dP W' W.a.j yu.ay) w1 ⟨B0.i.drew,b0.i.drew⟩;have hT:Nonempty T:=⟨n0⟩
 have ES:=ab es;have EW:=ab ew;clear es ew;have RF:=ab (fun m=>(HR.i.Y (ES.i m).1).lD (ES.i m).1.j:∀m,gG (f m) (f m).a.j A n l);have C2:=ab (fun m=>aa8 (f m) A n c l 2 2 rfl (by omega) hnc (by omega) (RF.i m));have C6:=ab (fun m=>aa8 (f m) A n c l 6 6 rfl (by omega) hnc (by omega) (RF.i m));obtain⟨a,rfl,hab,hc0⟩:=HR.i.dW (show 0<n by omega);rw[Ph]at hc0;have hf0:∀m,(f m).b a=some (.b .b (lK l 0)):=fun m=>((ES.i m).1.cell hab).trans hc0
 have hb:=vY l 0;have hA:=ayV _ hb;have hw16:=jY ((lK l 0%16:Nat):Int) (by omega);have hw64:=jY (((lK l 0%16:Nat):Int)*4) (by omega);clear hc0;go_upto_region 3 with fail
 clear hw1;refine qh f (by kernel_rfl) (by kernel_rfl) n0 E0 ?_
 repeat(go_big_quiet_step ((first
  | (go_at_call 246;with_reducible refine(C2.i _).g ?_;rintro e w2 ⟨rfl,hb⟩;exact⟨rfl,EW.i _ ⟨(ES.i _).1.trans (hb.g (ES.i _).1.j),(ES.i _).2.go hb⟩⟩)
  | (go_at_call 246;with_reducible refine(C6.i _).g ?_;rintro e w2 ⟨rfl,hb⟩;exact⟨rfl,EW.i _ ⟨(ES.i _).1.trans (hb.g (ES.i _).1.j),(ES.i _).2.go hb⟩⟩))))
 refine iw ?_;rintro _ ⟨m,rfl⟩;obtain⟨hS1,hS2⟩:=ES.i m;have S1:=ab hS1;have S2:=ab hS2;have R2:=ab (RF.i m);have cb:=hf0 m;clear hS1 hS2 ES EW RF C2 C6 hf0 E0 hT n0 hA hw16 hw64;generalize f m=w2 at *;have HE:=ab (fun(x:Fo)=>show dP (gV w2 W.a.j 0 x.ay) W.a.j x.ay/\aM W.a.j W (gV w2 W.a.j 0 x.ay)from⟨S2.i.put x.ay (by rw[Fo.J,Fo.J]),lQ S1.i _ _ _ (av _)⟩);have zS:=S2.i.S 0 42 (by rw[Fo.J];omega);obtain⟨hd,hhd⟩:=cB (qV l);have HD:=ab hhd.symm;have ehd:(lK l 0:Int)%16*4=(hd:Int):=by rw[hhd];unfold qV;omega
 obtain⟨t,ht⟩:=cB (dF l 2);have HT:=ab ht.symm;have htl:t<=65535:=by rw[ht];exact wK l 2
 rw[<-ht];clear hhd ht;have N20:=ab (show¬l.a<20 by rw[hl.i];exact h20);by_cases e1:¬lK l 0/16=4
 ·have q:((lK l 0:Int)/16 != 4)=true:=by rw[bne_iff_ne];omega
  have H:=ab (show wV l=(yu,3)from He (by unfold wU;rw[if_neg N20.i,if_pos (.b e1)]) (by decide));go_wp2;refine aO (kFo.rb rfl _ rfl (HE.i yu).1 (Fo.J _)) rfl ?_;rw[H.i];exact⟨rfl,(HE.i yu).2⟩
 have qe1:((lK l 0:Int)/16 != 4)=false:=by simp;omega
 by_cases e2:hd<20
 ·have q:(hd:Int)<20:=by omega
  have H:=ab (show wV l=(yu,3)from He (by unfold wU;rw[if_neg N20.i,if_pos (.a (by rw[HD.i];exact e2))]) (by decide));go_wp2;refine aO (kFo.rb rfl _ rfl (HE.i yu).1 (Fo.J _)) rfl ?_;rw[H.i];exact⟨rfl,(HE.i yu).2⟩
 have qe2:¬(hd:Int)<20:=by omega
 by_cases e3:n<hd
 ·have q:(n:Int)<hd:=by omega
  have H:=ab (show wV l=(yu,2)from He (by unfold wU;rw[if_neg N20.i,if_neg (fun h=>h.elim e1 (by rw[HD.i];exact e2)),if_pos (by rw[hl.i,HD.i];exact e3)]) (by decide));go_wp2;refine aO (kFo.rb rfl _ rfl (HE.i yu).1 (Fo.J _)) rfl ?_;rw[H.i];exact⟨rfl,(HE.i yu).2⟩
 have qe3:¬(n:Int)<hd:=by omega
 by_cases e4:t<hd
 ·have q:(t:Int)<hd:=by omega
  have H:=ab (show wV l=(yu,3)from He (by unfold wU;rw[if_neg N20.i,if_neg (fun h=>h.elim e1 (by rw[HD.i];exact e2)),if_neg (by rw[hl.i,HD.i];exact e3),if_pos (by rw[HT.i,HD.i];exact e4)]) (by decide));go_wp2;refine aO (kFo.rb rfl _ rfl (HE.i yu).1 (Fo.J _)) rfl ?_;rw[H.i];exact⟨rfl,(HE.i yu).2⟩
 have qe4:¬(t:Int)<hd:=by omega
 by_cases e5:n<t
 ·have q:(n:Int)<t:=by omega
  have H:=ab (show wV l=(yu,2)from He (by unfold wU;rw[if_neg N20.i,if_neg (fun h=>h.elim e1 (by rw[HD.i];exact e2)),if_neg (by rw[hl.i,HD.i];exact e3),if_neg (by rw[HT.i,HD.i];exact e4),if_pos (by rw[hl.i,HT.i];exact e5)]) (by decide));go_wp2;refine aO (kFo.rb rfl _ rfl (HE.i yu).1 (Fo.J _)) rfl ?_;rw[H.i];exact⟨rfl,(HE.i yu).2⟩
 have qe5:¬(n:Int)<t:=by omega
 have FE:=ab (show wU l=if uo (l.E hd)≠0 then 8 else 0 by
  unfold wU;rw[if_neg N20.i,if_neg (fun h=>h.elim e1 (by rw[HD.i];exact e2)),if_neg (by rw[hl.i,HD.i];exact e3),if_neg (by rw[HT.i,HD.i];exact e4),if_neg (by rw[hl.i,HT.i];exact e5),HD.i])
 have PH:gG w2 w2.a.j (some a) hd (l.E hd):=by
  have:=Rd.upto R2.i (k:=hd) (by omega);rw[gP,<-BI]at this;exact this
 have S3:=ab (S1.i.alloc S1.i.j (.D #[.a (some a) hd c] 56));have C13:=ab (ac8 (w2.alloc (.D #[.a (some a) hd c] 56)) w2.a.j (some a) hd c w2.a.j (l.E hd) (by omega) (nK _ _ _ _) (PH.alloc (av _) _));have S4:=ab (S2.i.alloc (.D #[.a (some a) hd c] 56));have R4:=ab ((R2.i.alloc (av _) (.D #[.a (some a) hd c] 56)).lD (by simp):gG (w2.alloc (.D #[.a (some a) hd c] 56)) (w2.alloc (.D #[.a (some a) hd c] 56)).a.j (some a) n l);have i4:(hd:Int)<=c:=by omega
 have hn4:=ac7;clear PH HE zS S1 S2 R2;obtain⟨d,hd⟩:=cB (decide (uo (l.E hd)=0));have DD:=ab hd;rw[<-hd]at C13;clear hd;cases d with
 | false=>
   go_upto_region 14 with(go_at_call 247;with_reducible refine C13.i.g ?_;rintro e w3 ⟨rfl,rfl⟩)
   obtain⟨w3,hw3⟩:=cB (w2.alloc (.D #[.a (some a) hd c] 56));rw[<-hw3]at S3 S4 R4 ⊢;clear hw3 C13;have HE:=ab (fun(x:Fo)=>show dP (gV w3 W.a.j 0 x.ay) W.a.j x.ay/\aM W.a.j W (gV w3 W.a.j 0 x.ay)from⟨S4.i.put x.ay (by rw[Fo.J,Fo.J]),lQ S3.i _ _ _ (av _)⟩);have zS:=S4.i.S 0 42 (by rw[Fo.J];omega);have e6:¬uo (l.E hd)=0:=of_decide_eq_false DD.i.symm;have H:=ab (show wV l=(yu,8)from He (by rw[FE.i,if_pos e6]) (by decide));go_wp2;refine aO (kFo.rb rfl _ rfl (HE.i yu).1 (Fo.J _)) rfl ?_;rw[H.i];exact⟨rfl,(HE.i yu).2⟩
 | true=>
   go_upto_region 15 with(go_at_call 247;with_reducible refine C13.i.g ?_;rintro e w3 ⟨rfl,rfl⟩)
   obtain⟨w3,hw3⟩:=cB (w2.alloc (.D #[.a (some a) hd c] 56));rw[<-hw3]at S3 S4 R4 ⊢;clear hw3 C13;have e6:uo (l.E hd)=0:=of_decide_eq_true DD.i.symm;have H0:=ab (show wV l=(vZ l,0)from auM (by rw[FE.i,if_neg (by simp[e6])]));obtain⟨f1,f2,f3⟩:8<n/\9<n/\12+4<=n:=by omega
   obtain⟨u,hu⟩:=cB (dF l 6);have hu0:u<=65535:=by rw[hu];exact wK l 6
   have HU:=ab hu;clear hu;have H:=ab (show wV l=((⟨(hd:Int),(t:Int),(lK l 1:Nat),(dF l 4:Nat),decide (u%16384≠0),decide (u/16384%2=1),(lK l 8:Nat),(lK l 9:Nat),xK (l.G 12),xK (l.G 16)⟩:Fo),0)by rw[H0.i];unfold vZ;rw[HD.i,HT.i,<-HU.i]);have HU:=ab HU.i.symm;clear H0;rw[HU.i];have G14:=ayW u hu0;have G15:=ajB u hu0;obtain⟨T,f,n0,E0,es,ew⟩:=Jh (fun W'=>aM W.a.j W W'/\dP W' W.a.j yu.ay) w3 ⟨S3.i.drew,S4.i.drew⟩;have hT:Nonempty T:=⟨n0⟩
   have ES:=ab es;have EW:=ab ew;clear es ew;have RF:=ab (fun m=>(HR.i.Y (ES.i m).1).lD (ES.i m).1.j:∀m,gG (f m) (f m).a.j (some a) n l);have C4:=ab (fun m=>aa8 (f m) (some a) n c l 4 4 rfl (by omega) hnc (by omega) (RF.i m));have R12:=ab (fun m=>(RF.i m).from (z:=12) (c:=c) (by omega) hnc);have R16:=ab (fun m=>(RF.i m).from (z:=16) (c:=c) (by omega) hnc);have cne:¬c=12/\¬c=16:=by omega
   simp only[if_neg cne.1,if_neg cne.2,Option.map_some,show a.add 12=⟨a.block,a.off+12,none⟩by simp[rU],show a.add 16=⟨a.block,a.off+16,none⟩by simp[rU]]at R12 R16;have C12:=ab (fun m=>YQ (f m) _ (n-12) (c-12) _ (by omega) (R12.i m));have C16:=ab (fun m=>YQ (f m) _ (n-16) (c-16) _ (by omega) (R16.i m));obtain⟨_,he1,hc1⟩:=R4.i.XD 0 (by omega);obtain⟨_,he8,hc8⟩:=R4.i.XD 7 (by omega);obtain⟨_,he9,hc9⟩:=R4.i.XD 8 (by omega);cases he1;cases he8;cases he9;have hf1:∀m,(f m).b ⟨a.block,a.off+1,none⟩=some (.b .b (lK l 1)):=fun m=>by
    obtain⟨_,he,hc⟩:=(RF.i m).XD 0 (by omega);cases he;exact hc
   have hf8:∀m,(f m).b ⟨a.block,a.off+8,none⟩=some (.b .b (lK l 8)):=fun m=>by
    obtain⟨_,he,hc⟩:=(RF.i m).XD 7 (by omega);cases he;exact hc
   have hf9:∀m,(f m).b ⟨a.block,a.off+9,none⟩=some (.b .b (lK l 9)):=fun m=>by
    obtain⟨_,he,hc⟩:=(RF.i m).XD 8 (by omega);cases he;exact hc
   have hx1:=jY (lK l 1) (by have:=vY l 1;omega);have hx8:=jY (lK l 8) (by have:=vY l 8;omega);have hx9:=jY (lK l 9) (by have:=vY l 9;omega);clear hc1 hc8 hc9;clear R12 R16 S3 S4 R4 RF FE N20 DD HR B0 b0;refine U1 f 29 (by kernel_rfl) (by kernel_rfl) n0 E0 ?_;simp only[jV,kC,jW,lN]
   repeat(go_big_quiet_step ((first
    | (go_at_call 246;with_reducible refine(C4.i _).g ?_;rintro e w2 ⟨rfl,hb⟩;exact⟨rfl,EW.i _ ⟨(ES.i _).1.trans (hb.g (ES.i _).1.j),(ES.i _).2.go hb⟩⟩)
    | (go_at_call 248;with_reducible refine(C12.i _).g ?_;rintro e w2 ⟨rfl,hb⟩;exact⟨rfl,EW.i _ ⟨(ES.i _).1.trans (hb.g (ES.i _).1.j),(ES.i _).2.go hb⟩⟩)
    | (go_at_call 248;with_reducible refine(C16.i _).g ?_;rintro e w2 ⟨rfl,hb⟩;exact⟨rfl,EW.i _ ⟨(ES.i _).1.trans (hb.g (ES.i _).1.j),(ES.i _).2.go hb⟩⟩))))
   refine iw ?_;rintro _ ⟨m',rfl⟩;obtain⟨hS1,hS2⟩:=ES.i m';clear ES EW C12 C16 C4 hf1 hf8 hf9 E0;generalize f m'=w5 at *;clear hT n0;have HE:=ab (fun(x:Fo)=>show dP (gV w5 W.a.j 0 x.ay) W.a.j x.ay/\aM W.a.j W (gV w5 W.a.j 0 x.ay)from⟨hS2.put x.ay (by rw[Fo.J,Fo.J]),lQ hS1 _ _ _ (av _)⟩);have zS:=hS2.S 0 42 (by rw[Fo.J];omega);clear hS1 hS2;obtain⟨X,hX⟩:=cB ((⟨(hd:Int),(t:Int),(lK l 1:Nat),(dF l 4:Nat),!decide (u%16384=0),decide (u/16384%2=1),(lK l 8:Nat),(lK l 9:Nat),xK (l.G 12),xK (l.G 16)⟩:Fo));have H:=ab (show wV l=(X,0)by rw[H.i,hX];simp only[ne_eq,decide_not]);rw[<-hX];clear hX;have hE:=HE.i X;clear HE G14 G15 hx1 hx8 hx9 cne;go_step;go_simp;go_step;go_step;go_simp;go_step;go_step;go_wp2;refine aO (kFo.rb rfl _ rfl hE.1 (Fo.J _)) rfl ?_;rw[H.i];exact⟨rfl,hE.2⟩
structure ajC(g:FuncId):Prop where
 O:∀(c:Nat)(w:ak),aR ah g #[.b .b c] w fun e w'=>e=.a (.e ((c:Int) != 0))/\w=w'
 enter:∀(args:Array aB)(w:ak),(callFunc g args).O ah w=.ok (.enter g args) w
def nzB(l:List UInt8):Bool:=l.any fun b=>b != 0
theorem amZ{l:List UInt8}(h:∀j,j<l.a->l.b j 0=0):nzB l=false:=by
 unfold nzB;rw[List.any_eq_false];intro b hb;obtain⟨j,hj,rfl⟩:=List.getElem_of_mem hb;have:=h j hj;simp[au,hj]at this;simp[this]
theorem auO{l:List UInt8}{j:Nat}(hj:j<l.a)(h:l.b j 0≠0):nzB l=true:=by
 unfold nzB;rw[List.any_eq_true];refine⟨l[j],eZ _,?_⟩;simp[au,hj]at h;simp[h]
theorem ayY(g:FuncId)(G:ajC g)(A:Option aV)(n c B:Nat)(w:ak)(l:List UInt8)(hc:n<=1000000000)(hr:gG w B A n l):
 aR ah 260 #[.a A n c,.func (.func g) #[] #[]] w fun e w'=>∃r:Int,e=.a (.b .a r)/\(decide (0<=r)=nzB l)/\w=w':=by
 have hen:=G.enter;have GG:=ab G.O;have HR:=ab hr;have hl:=ab hr.len;clear hr;go_enter Tryz.func260,Tryz.ntmps260;go_wp2;go_loop [8] (fun s8=>∃i:Nat,i<=n/\s8=.b .a i/\∀j,j<i->l.b j 0=0) (fun s8=>n-(intOf s8).e)
 case atStart=>exact⟨0,by omega,rfl,fun j h1=>by omega⟩
 case round=>
  obtain⟨i,hi,rfl,hall⟩:=hrel;have HA:=ab hall;clear hall;by_cases hlt:i<n
  ·have hin:(i:Int)<n:=by omega
   obtain⟨a,rfl,hab,hcell⟩:=HR.i.dW hlt;unfold bv at hcell;have hz:((l.b i 0).e:Int)=0↔l.b i 0=0:=by
    constructor
    ·intro h;apply mR.1;have:(0:UInt8).e=0:=rfl;omega
    ·intro h;rw[h];rfl
   have HZ:=ab hz;clear hz hab;obtain⟨m,hm⟩:∃m:Nat,m=(l.b i 0).e:=⟨_,rfl⟩
   rw[<-hm]at hcell HZ;clear hm;by_cases h0:m=0
   ·have h1:((m:Int) != 0)=false:=by rw[h0];rfl
    have hz0:l.b i 0=0:=HZ.i.1 (by omega);have HZ0:=ab hz0;clear hz0 h0;go_wp2_with (refine(GG.i m _).g ?_;rintro e w' ⟨rfl,rfl⟩);go_round
    case rel=>exact⟨i+1,by omega,by go_num,fun j h1=>by
     by_cases hji:j=i
     ·rw[hji];exact HZ0.i
     ·exact HA.i j (by omega)⟩
    case measure=>simp[intOf]<;>omega
   ·have h1:((m:Int) != 0)=true:=by rw[bne_iff_ne];omega
    have Ez:=ab (auO (l:=l) (j:=i) (by rw[hl.i];exact hlt) (fun h=>h0 (by have:=HZ.i.2 h;omega)));clear h0;go_wp2_with (refine(GG.i m _).g ?_;rintro e w' ⟨rfl,rfl⟩);go_ret;exact⟨_,rfl,by rw[Ez.i];simp,rfl⟩
  ·obtain rfl:i=n:=by omega
   have HS:=ab (amZ (l:=l) (fun j hj=>HA.i j (by rw[hl.i]at hj;exact hj)));go_wp2;go_ret;exact⟨_,rfl,by rw[HS.i];simp,rfl⟩
theorem ahS(g:FuncId)(G:ajC g)(A:Option aV)(n c B:Nat)(w:ak)(l:List UInt8)(hc:n<=1000000000)(hr:gG w B A n l):
 aR ah 189 #[.a A n c,.func (.func g) #[] #[]] w fun e w'=>e=.a (.e (nzB l))/\w=w':=by
 have I:=ab (ayY g G A n c B w l hc hr);clear hr;go_enter Tryz.func189,Tryz.ntmps189;go_wp2_with (go_at_call 260;refine I.i.g ?_;rintro e w' ⟨r,rfl,hr,rfl⟩);go_ret;exact⟨by simp,rfl⟩
theorem am0:ajC 354:=⟨fun c w=>by
 go_enter Tryz.func354,Tryz.ntmps354;go_wp2;go_ret;exact⟨rfl,rfl⟩,fun args w=>by kernel_rfl⟩
theorem gG.KD{w:ak}{B b o:Nat}{l:List UInt8}(hb:b<B)(h:∀j,j<l.a->w.b ⟨b,o+j,none⟩=some (bv (l.b j 0))):gG w B (some ⟨b,o,none⟩) l.a l:=by
 refine⟨by simp,fun h0=>⟨⟨b,o,none⟩,rfl,hb,fun j u hu=>?_⟩⟩;have hj:j<l.a:=by
  rcases aZ j l.a with h1|h1
  ·exact h1
  ·rw[aT (by simpa using h1)]at hu;cases hu
 rw[show(⟨b,o,none⟩:aV).add j=⟨b,o+j,none⟩by unfold rU;split<;>simp_all,h j hj];rw[jM,aC hj]at hu;simp only[Option.map_some,Option.some.injEq]at hu;rw[<-hu,au,aC hj];rfl
theorem KE(a:fD):nzB (a.b.a.G 4) = !a.mO:=by
 unfold nzB fD.mO;rw[List.any_eq_not_all_not];congr 2;funext c;show(!(c != 0))=(c==0);unfold bne;rw[Bool.not_not]
theorem gG.tail{w:ak}{B h:Nat}{a:fD}(hb:h<B)(x:dP w h a.ay):gG w B (some ⟨h,5,none⟩) 12 (a.b.a.G 4):=by
 have hl:(a.b.a.G 4).a=12:=by rw[fZ,fD.axW]
 have:=gG.KD (w:=w) (o:=5) (l:=a.b.a.G 4) hb (fun j hj=>by
  rw[hl]at hj;rw[x.R.1 (5+j),show 5+j=(4+j)+1 by omega,fD.Fe a (4+j) (by omega)];simp[au])
 rwa [hl]at this
theorem af9(k m:Int)(w:ak):aR ah 316 #[.b .a k,.b .a m] w (gY w (.e (decide (0<=k)&&decide (k<=m)))):=by
 go_enter Tryz.func316,Tryz.ntmps316;by_cases h1:0<=k<;>by_cases h2:k<=m
 all_goals
  go_wp2;go_ret;exact⟨by simp[h1,h2],aG _ _⟩
theorem VR(a:fD)(w:ak):aR ah 317 #[.d a.ay] w (gY w (.e (!a.h&&a.mO))):=by
 have HB:=ab ((aG w.a.j w).alloc (av _) (.D a.ay 27));have x0:=dP.new w a.ay 27;have C:=ab (ahS _ am0 _ 12 12 _ _ _ (by omega) (gG.tail (B:=w.a.j+1) (nD _) x0));have HS:=ab (KE a);obtain⟨z,hz⟩:=cB (nzB (a.b.a.G 4));rw[<-hz]at C HS;clear hz;cases h6:a.h
 ·have H6:=ab h6
  go_enter Tryz.func317,Tryz.ntmps317;go_wp2_with fail;refine C.i.g ?_;rintro e w' ⟨rfl,rfl⟩;cases z
  all_goals
   go_wp2;go_ret;exact⟨by have:=HS.i;simp at this;simp[<-this],HB.i⟩
 ·go_enter Tryz.func317,Tryz.ntmps317
  go_wp2;go_ret;exact⟨rfl,HB.i⟩
theorem ajE(k:Int)(w:ak):aR ah 313 #[.b .a k] w (gY w (.b .a (if k=6 then 16 else if k=17 then 6 else 0))):=by
 go_enter Tryz.func313,Tryz.ntmps313;by_cases h1:k=6
 ·subst h1
  go_wp2;go_ret;exact⟨rfl,aG _ _⟩
 by_cases h2:k=17
 ·subst h2
  go_wp2;go_ret;exact⟨rfl,aG _ _⟩
 have q1:(k==6)=false:=by simp[h1]
 have q2:(k==17)=false:=by simp[h2]
 go_wp2;go_ret;exact⟨rfl,aG _ _⟩
@[go_sem]theorem aDT(W:ak)(a b c d:Int):(vK 172 #[(0,.b .a a),(1,.b .a b),(3,.b .a c),(4,.b .a d)]).O ah W=.ok (.d (Pt.mk a b 0 c d).ay) W:=Uc.bd W _ _ _ _ qc (auD W _ qc) rfl
def pG(aN:Int)(l:List UInt8):Pt:=if aN=6 then⟨dF l 0,dF l 2,(lK l 13%64:Nat),(lK l 12/16*4:Nat),l.a⟩else⟨dF l 0,dF l 2,0,8,dF l 4⟩
def uF(aN:Int)(l:List UInt8):Int:=
 if aN≠6/\aN≠17 then 5 else if l.a<(if aN=6 then 20 else 8)then 2
 else if(aN=6/\(pG aN l).head<20)\/(pG aN l).bR<8 then 3 else if(l.a:Int)<max (pG aN l).head (pG aN l).bR then 2 else 0
def FM(aN:Int)(l:List UInt8):Pt×Int:=if uF aN l=0 then(pG aN l,0)else(rD,uF aN l)
theorem vF{p:Int}{l:List UInt8}{k:Int}(h:uF p l=k)(hk:k≠0):FM p l=(rD,k):=by unfold FM;rw[h,if_neg hk]
theorem Mx{p:Int}{l:List UInt8}(h:uF p l=0):FM p l=(pG p l,0):=by unfold FM;rw[if_pos h]
def PtP(W:ak)(r:Pt×Int)(e:lJ)(W':ak):Prop:=e=.a (.K #[.d r.1.ay,.b .a r.2])/\aM W.a.j W W'
theorem gG.upon{W w1:ak}{n:Nat}{A:Option aV}{l:List UInt8}(h:gG W W.a.j A n l)(hb:aM W.a.j W w1):gG w1 w1.a.j A n l:=(h.Y hb).lD hb.j
theorem ayZ(b:Nat)(h:b<256):bits .and .b (b:Int) 63=((b%64:Nat):Int):=(by decide +kernel:∀b:Fin 256,bits .and .b ((b.val:Nat):Int) 63=((b.val%64:Nat):Int)) ⟨b,h⟩
theorem abe(W:ak)(p:Int)(A:Option aV)(n c:Nat)(l:List UInt8)(hnc:n<=c)(hc:c<=9223372036854775807/\n<=1000000000)(hr:gG W W.a.j A n l):aR ah 95 #[.b .a p,.a A n c] W (PtP W (FM p l)):=by
 have HR:=ab hr;have hl:=ab hr.len;have b0:=ab (dP.new W rD.ay 172);have B0:=ab ((aG W.a.j W).alloc (av _) (.D rD.ay 172));clear hr;go_enter Tryz.func95,Tryz.ntmps95;by_cases hp:p≠6/\p≠17
 ·have q1:(p==6)=false:=by simp[hp.1]
  have q2:(p != 17)=true:=by simp[hp.2]
  have H:=ab (show FM p l=(rD,5)from vF (by unfold uF;rw[if_pos hp]) (by decide));go_wp2;refine aO (Uc.rb rfl _ rfl b0.i (Pt.J _)) rfl ?_;rw[H.i];exact⟨rfl,B0.i⟩
 have HP:=ab hp;by_cases p6:p=6
 ·subst p6
  by_cases h20:n<20
  ·have aqs:(n:Int)<20:=by omega
   have H:=ab (show FM 6 l=(rD,2)from vF (by unfold uF;rw[if_neg HP.i,if_pos rfl,if_pos (by rw[hl.i];exact h20)]) (by decide));go_wp2;refine aO (Uc.rb rfl _ rfl b0.i (Pt.J _)) rfl ?_;rw[H.i];exact⟨rfl,B0.i⟩
  have aqs:¬(n:Int)<20:=by omega
  have h8':¬(n:Int)<8:=by omega
  have R1:=HR.i.upon B0.i;have C0:=ab (Od _ A n c l 0 0 rfl (by omega) hnc (by omega) R1);go_upto_region 9 with(go_at_call 177;first|(refine C0.i.g ?_;rintro e w1 ⟨rfl,hb1⟩;have C2:=ab (Od w1 A n c l 2 2 rfl (by omega) hnc (by omega) ((HR.i.upon B0.i).upon hb1));clear C0)|(refine C2.i.g ?_;rintro e w2 ⟨rfl,hb2⟩))
  have B2:=ab (B0.i.trans (hb1.g B0.i.j));have B3:=ab (B2.i.trans (hb2.g B2.i.j));have R2:=ab (HR.i.upon B3.i);have b2:=ab ((b0.i.go hb1).go hb2);clear hb1 hb2 C2;obtain⟨k,hk⟩:=cB w2.a.j;obtain⟨w3,hw3⟩:=cB (w2.alloc (.D (Pt.mk (dF l 0) (dF l 2) 0 8 n).ay 172));have x3:=ab (show dP w3 k (Pt.mk (dF l 0) (dF l 2) 0 8 n).ay by rw[hw3,hk];exact dP.new _ _ _);have b3:=ab (show dP w3 W.a.j rD.ay by rw[hw3];exact b2.i.alloc _);have R3:=ab (show gG w3 k A n l by rw[hw3,hk];exact R2.i.alloc (av _) _);have hlt:=b2.i.lt;have hs3:W.a.j<k:=by rw[hk];exact hlt
  rw[<-hw3,<-hk];have B4:=ab (show aM W.a.j W w3 by rw[hw3];exact B3.i.alloc B3.i.j _);clear hk hw3 hlt R2 b2 B2 B3 B0 b0;obtain⟨a,ea,hab,_⟩:=R3.i.dW (show 0<n by omega);subst ea;obtain⟨_,e12,h12⟩:=R3.i.XD 11 (by omega);cases e12;obtain⟨_,e13,h13⟩:=R3.i.XD 12 (by omega);cases e13;have hne:a.block≠k:=by omega
  have hne':k≠a.block:=by omega
  obtain⟨x1,x2,x4,x5⟩:=x3.i.R;obtain⟨i12,i13⟩:12<n/\13<n:=by omega
  have aDU:=vY l 12;have hA:=ab (ayZ _ (vY l 13));have hw1:bT.wrap ((lK l 12:Int)/16)=(lK l 12:Int)/16:=jY _ (by omega);have hw2:bT.wrap ((lK l 12:Int)/16*4)=(lK l 12:Int)/16*4:=jY _ (by omega);have hw3:wrap64 ((lK l 13%64:Nat):Int)=((lK l 13%64:Nat):Int):=by unfold wrap64;omega
  have hw1:=ab hw1;have hw2:=ab hw2;have hw3:=ab hw3;have hw4:bT.wrap ((lK l 13%64:Nat):Int)=((lK l 13%64:Nat):Int):=jY _ (by omega);have hw4:=ab hw4;clear aDU;go_region_held_law (fun W'=>W'.b ⟨a.block,a.off+12,none⟩=some (.b .b (lK l 12))/\W'.b ⟨a.block,a.off+13,none⟩=some (.b .b (lK l 13)))
   (first|exact⟨h12,h13⟩|go_keep) (fail)
  all_goals
   go_upto_region 11 with fail
  all_goals
   have eh:(lK l 12:Int)/16*4=((lK l 12/16*4:Nat):Int):=by omega
   simp only[hA.i,hw1.i,hw2.i,hw3.i,hw4.i,eh];obtain⟨g,hg⟩:=cB (lK l 13%64);obtain⟨h,hh⟩:=cB (lK l 12/16*4);have G0:=ab (show pG 6 l=⟨dF l 0,dF l 2,(g:Nat),(h:Nat),n⟩by unfold pG;rw[if_pos rfl,<-hg,<-hh,hl.i]);rw[<-hg,<-hh];clear hg hh eh hA hw1 hw2 hw3 hw4 h12 h13 x1 x2 x4 x5;have X1:=x3.i.fC 3 (.b .a (h:Int));rw[Pt.NZ]at X1;have X2:=X1.fC 2 (.b .a (g:Int));rw[Pt.Ql]at X2;have b5:=(b3.i.dQ ⟨k,3,none⟩ (.b .a (h:Int)) (by show k≠_;omega)).dQ ⟨k,2,none⟩ (.b .a (g:Int)) (by show k≠_;omega);have B5:=((B4.i.I (p:=⟨k,3,none⟩) (nE hs3) (.b .a (h:Int))).I (p:=⟨k,2,none⟩) (nE hs3) (.b .a (g:Int))).drew;have X2:=X2.drew;have b5:=b5.drew;clear x3 b3 B4 R3 X1;generalize((w3.I ⟨k,3,none⟩ (.b .a (h:Int))).I ⟨k,2,none⟩ (.b .a (g:Int))).drew=w5 at *;have N20:=ab (show¬l.a<(if(6:Int)=6 then 20 else 8)by rw[if_pos rfl,hl.i];exact h20);have HE:=ab (fun(x:Pt)=>show dP (gV w5 W.a.j 0 x.ay) W.a.j x.ay/\aM W.a.j W (gV w5 W.a.j 0 x.ay)from⟨b5.put x.ay (by rw[Pt.J,Pt.J]),lQ B5 _ _ _ (av _)⟩);have zS:=b5.S 0 5 (by rw[Pt.J];omega);obtain⟨y1,y2,y3,y4⟩:=X2.R;clear b5 B5 X2;have n8:¬(n:Int)<8:=by omega
   by_cases e1:h<20
   ·have q:(h:Int)<20:=by omega
    have H:=ab (show FM 6 l=(rD,3)from vF (by unfold uF;rw[if_neg HP.i,if_neg N20.i,if_pos (.b ⟨rfl,by rw[G0.i];exact q⟩)]) (by decide));go_wp2;refine aO (Uc.rb rfl _ rfl (HE.i rD).1 (Pt.J _)) rfl ?_;rw[H.i];exact⟨rfl,(HE.i rD).2⟩
   have q:¬(h:Int)<20:=by omega
   by_cases e2:n<h
   ·have q2:max (h:Int) n>n:=by omega
    have H:=ab (show FM 6 l=(rD,2)from vF (by unfold uF;rw[if_neg HP.i,if_neg N20.i,if_neg (by rw[G0.i];rintro(h|h);exact q h.2;exact n8 h),if_pos (by rw[G0.i,hl.i];exact q2)]) (by decide));go_wp2;refine aO (Uc.rb rfl _ rfl (HE.i rD).1 (Pt.J _)) rfl ?_;rw[H.i];exact⟨rfl,(HE.i rD).2⟩
   have q2:¬max (h:Int) n>n:=by omega
   have H:=ab (show FM 6 l=(pG 6 l,0)from Mx (by unfold uF;rw[if_neg HP.i,if_neg N20.i,if_neg (by rw[G0.i];rintro(h|h);exact q h.2;exact n8 h),if_neg (by rw[G0.i,hl.i];exact q2)]));rw[G0.i]at H;go_wp2;refine aO (Uc.rb rfl _ rfl (HE.i ⟨dF l 0,dF l 2,(g:Nat),(h:Nat),n⟩).1 (Pt.J _)) rfl ?_;rw[H.i];exact⟨rfl,(HE.i _).2⟩
 ·obtain rfl:p=17:=by omega
  by_cases h20:n<8
  ·have aqs:(n:Int)<8:=by omega
   have H:=ab (show FM 17 l=(rD,2)from vF (by unfold uF;rw[if_neg HP.i,if_neg p6,if_pos (by rw[hl.i];exact h20)]) (by decide));go_wp2;refine aO (Uc.rb rfl _ rfl b0.i (Pt.J _)) rfl ?_;rw[H.i];exact⟨rfl,B0.i⟩
  have h8':¬(n:Int)<8:=by omega
  have R1:=HR.i.upon B0.i;have C0:=ab (Od _ A n c l 0 0 rfl (by omega) hnc (by omega) R1);have q6:((17:Int)==6)=false:=rfl;go_upto_region 10 with(go_at_call 177;first|(refine C0.i.g ?_;rintro e w1 ⟨rfl,hb1⟩;have C2:=ab (Od w1 A n c l 2 2 rfl (by omega) hnc (by omega) ((HR.i.upon B0.i).upon hb1));clear C0)|(refine C2.i.g ?_;rintro e w2 ⟨rfl,hb2⟩))
  have B2:=ab (B0.i.trans (hb1.g B0.i.j));have B3:=ab (B2.i.trans (hb2.g B2.i.j));have R2:=ab (HR.i.upon B3.i);have b2:=ab ((b0.i.go hb1).go hb2);clear hb1 hb2 C2;obtain⟨k,hk⟩:=cB w2.a.j;obtain⟨w3,hw3⟩:=cB (w2.alloc (.D (Pt.mk (dF l 0) (dF l 2) 0 8 n).ay 172));have x3:=ab (show dP w3 k (Pt.mk (dF l 0) (dF l 2) 0 8 n).ay by rw[hw3,hk];exact dP.new _ _ _);have b3:=ab (show dP w3 W.a.j rD.ay by rw[hw3];exact b2.i.alloc _);have R3:=ab (show gG w3 w3.a.j A n l by rw[hw3];exact(R2.i.alloc (av _) _).lD (by simp));have hlt:=b2.i.lt;have hs3:W.a.j<k:=by rw[hk];exact hlt
  rw[<-hw3,<-hk];have B4:=ab (show aM W.a.j W w3 by rw[hw3];exact B3.i.alloc B3.i.j _);clear hk hw3 hlt R2 b2 B2 B3 B0 b0;have C4:=ab (Od w3 A n c l 4 4 rfl (by omega) hnc (by omega) R3.i);have hk3:=x3.i.lt;go_upto_region 11 with(go_at_call 177;refine C4.i.g ?_;rintro e w4 ⟨rfl,hb4⟩;have b4:=ab (b3.i.go hb4);have x4:=ab (x3.i.go hb4);have B5:=ab (B4.i.trans (hb4.g B4.i.j));obtain⟨x5,x6,x7,x8⟩:=x4.i.R;clear hb4)
  obtain⟨t,ht⟩:=cB (dF l 4);have G0:=ab (show pG 17 l=⟨dF l 0,dF l 2,0,8,(t:Nat)⟩by unfold pG;rw[if_neg (by decide),<-ht]);rw[<-ht];clear ht;have X2:=x4.i.fC 4 (.b .a (t:Int));rw[Pt.Qm]at X2;have b5:=b4.i.dQ ⟨k,4,none⟩ (.b .a (t:Int)) (by show k≠_;omega);have B6:=B5.i.I (p:=⟨k,4,none⟩) (nE hs3) (.b .a (t:Int));clear x3 b3 B4 R3 x4 b4 B5 x5 x6 x7 x8 C4;generalize w4.I ⟨k,4,none⟩ (.b .a (t:Int))=w5 at *;have N20:=ab (show¬l.a<(if(17:Int)=6 then 20 else 8)by rw[if_neg (by decide),hl.i];exact h20);have HE:=ab (fun(x:Pt)=>show dP (gV w5 W.a.j 0 x.ay) W.a.j x.ay/\aM W.a.j W (gV w5 W.a.j 0 x.ay)from⟨b5.put x.ay (by rw[Pt.J,Pt.J]),lQ B6 _ _ _ (av _)⟩);have zS:=b5.S 0 5 (by rw[Pt.J];omega);obtain⟨y1,y2,y3,y4⟩:=X2.R;clear b5 B6 X2;by_cases e1:t<8
  ·have q:(t:Int)<8:=by omega
   have H:=ab (show FM 17 l=(rD,3)from vF (by unfold uF;rw[if_neg HP.i,if_neg N20.i,if_pos (.a (by rw[G0.i];exact q))]) (by decide));go_wp2;refine aO (Uc.rb rfl _ rfl (HE.i rD).1 (Pt.J _)) rfl ?_;rw[H.i];exact⟨rfl,(HE.i rD).2⟩
  have q:¬(t:Int)<8:=by omega
  by_cases e2:n<t
  ·have q2:max (8:Int) t>n:=by omega
   have H:=ab (show FM 17 l=(rD,2)from vF (by unfold uF;rw[if_neg HP.i,if_neg N20.i,if_neg (by rw[G0.i];rintro(h|h);exact p6 h.1;exact q h),if_pos (by rw[G0.i,hl.i];exact q2)]) (by decide));go_wp2;refine aO (Uc.rb rfl _ rfl (HE.i rD).1 (Pt.J _)) rfl ?_;rw[H.i];exact⟨rfl,(HE.i rD).2⟩
  have q2:¬max (8:Int) t>n:=by omega
  have H:=ab (show FM 17 l=(pG 17 l,0)from Mx (by unfold uF;rw[if_neg HP.i,if_neg N20.i,if_neg (by rw[G0.i];rintro(h|h);exact p6 h.1;exact q h),if_neg (by rw[G0.i,hl.i];exact q2)]));rw[G0.i]at H;go_wp2;refine aO (Uc.rb rfl _ rfl (HE.i ⟨dF l 0,dF l 2,0,8,(t:Nat)⟩).1 (Pt.J _)) rfl ?_;rw[H.i];exact⟨rfl,(HE.i _).2⟩
def JI(n:Nat):Array aB:=((dY n (0:UInt8)).map bv).c
theorem adH(n:Nat):(JI n).j=n:=by simp[JI]
theorem af'(n:Nat):madeCells (aI .b 0).D n=JI n:=by
 apply dZ;intro j;rcases aZ j n with h|h
 ·simp[madeCells,JI,dz,bv,h,Nat.mod_one]
 ·rw[aW (by simp[madeCells];omega),aW (by rw[adH];omega)]
theorem ajF(n:Nat)(hn:n<=16777216)(w:ak):(yM 56 (.b .a (n:Int)) (.b .a (n:Int))).O ah w=.ok (.a (some ⟨w.a.j,0,none⟩) n n) (w.alloc (.D (JI n) 5)):=by
 obtain⟨i0,hi0,hz0,hz1,hz2⟩:=Av;have:=run_makeSlice w 56 5 i0 _ dD hi0 hz0 .a .a (n:Int) (n:Int) (by omega) (Int.le_refl _) (by rw[hz1];simp;omega) (by rw[hz2];omega) (by omega);rw[this,hz1,Int.toNat_natCast,gP,af']
def mX(p:Int)(l:List UInt8):Nat:=if p=0\/p=43\/p=60 then lK l 1*4+lK l 1*4+8 else if p=51 then lK l 1*4+8 else if p=44 then 8 else 0
def sG(p:Int):Bool:=decide (p=0\/p=43\/p=60\/p=51\/p=44)
theorem QZ(p:Int)(l:List UInt8):(0<mX p l)↔sG p=true:=by
 unfold mX sG;rw[decide_eq_true_eq];split
 ·rename_i h;constructor
  ·intro _;rcases h with h|h|h<;>simp[h]
  ·intro _;omega
 ·split
  ·rename_i h;simp[h]
  ·split
   ·rename_i h;simp[h]
   ·simp;omega
theorem aga(p:Int)(l:List UInt8):mX p l<=2048:=by
 have:=vY l 1;unfold mX
 repeat(first|split|omega)
theorem Q7(p:Int)(A:Option aV)(n c B:Nat)(l:List UInt8)(W:ak)(h2:2<=n)(hr:gG W B A n l):aR ah 251 #[.b .a p,.a A n c] W fun e W'=>e=.a (.b .a (mX p l))/\W=W':=by
 obtain⟨a,rfl,hc⟩:=hr.XD 0 (by omega);have i1:1<n:=by omega
 have E:=ab (show∀b,b=lK l 1->mX p l=if p=0\/p=43\/p=60 then b*4+b*4+8 else if p=51 then b*4+8 else if p=44 then 8 else 0 from fun b h=>by rw[h];rfl);obtain⟨b,hb⟩:=cB (lK l 1);have Tm:b<256:=by rw[hb];exact vY l 1
 have E:=ab (E.i b hb);rw[<-hb]at hc;clear hb hr;have w1:=jY (b:Int) (by omega);have w2:=jY ((b:Int)*4) (by omega);have w3:=jY ((b:Int)*4+b*4) (by omega);have w4:=jY ((b:Int)*4+b*4+8) (by omega);have w5:=jY ((b:Int)*4+8) (by omega);by_cases p0:p=0
 ·subst p0
  go_enter DR,BJ;go_wp2;go_ret;exact⟨by rw[E.i];simp,rfl⟩
 by_cases p43:p=43
 ·subst p43
  go_enter DR,BJ;go_wp2;go_ret;exact⟨by rw[E.i];simp,rfl⟩
 by_cases p60:p=60
 ·subst p60
  go_enter DR,BJ;go_wp2;go_ret;exact⟨by rw[E.i];simp,rfl⟩
 by_cases p51:p=51
 ·subst p51
  go_enter DR,BJ;go_wp2;go_ret;exact⟨by rw[E.i];simp,rfl⟩
 by_cases p44:p=44
 ·subst p44
  go_enter DR,BJ;go_wp2;go_ret;exact⟨by rw[E.i];simp,rfl⟩
 have q0:(p==0)=false:=by simp[p0]
 have q43:(p==43)=false:=by simp[p43]
 have q60:(p==60)=false:=by simp[p60]
 have q51:(p==51)=false:=by simp[p51]
 have q44:(p==44)=false:=by simp[p44]
 go_enter DR,BJ;go_wp2;go_ret;exact⟨by rw[E.i];simp[p0,p43,p60,p51,p44],rfl⟩
@[go_sem]theorem auP(w:ak):(yM 56 (.b .a 8) (.b .a 8)).O ah w=.ok (.a (some ⟨w.a.j,0,none⟩) 8 8) (w.alloc (.D (JI 8) 5)):=ajF 8 (by decide) w
theorem gG.auQ(W:ak):gG (W.alloc (.D (JI 8) 5)) (W.a.j+1) (some ⟨W.a.j,0,none⟩) 8 (dY 8 0):=by
 refine gG.KD (l:=dY 8 0) (nD _) (fun j hj=>?_);rw[nK,bC];rcases j with _|_|_|_|_|_|_|_|j
 all_goals first|rfl|(simp at hj;omega)
theorem VT(p:Int)(W:ak):aR ah 250 #[.b .a p] W (gY W (.e (sG p))):=by
 have C:=ab (Q7 p _ 8 8 _ _ _ (by decide) (gG.auQ W));have B:=ab ((aG W.a.j W).alloc (av _) (.D (JI 8) 5));have E:=ab (QZ p (dY 8 0));generalize mX p (dY 8 0)=x at *;go_enter Tryz.func250,Tryz.ntmps250;go_wp2_with (go_at_call 251;refine C.i.g ?_;rintro e w ⟨rfl,rfl⟩);go_ret;have e:decide (0<x)=sG p:=by rw[dG,<-E.i,decide_eq_true_eq]
 exact⟨congrArg (fun z=>uT (.e z)) e,B.i⟩
def EI(r:List UInt8):Bool:=decide (lK r 2≠0\/lK r 3/8≠0\/lK r 3%2=1)
theorem ajG:∀a:Fin 256,∀b:Fin 256,((256*a.val+b.val) &&& 65529==0) = !(decide (a.val≠0\/b.val/8≠0\/b.val%2=1)):=by decide +kernel
theorem aqt(l:List UInt8)(k:Nat):dF l k=256*lK l k+lK l (k+1):=rfl
theorem am1(r:List UInt8):(bits .and .a (dF r 2:Nat) 65529 != 0)=EI r:=by
 have h1:(gI 64 (dF r 2:Nat)).e=dF r 2:=by rw[mI,nW];exact gy (by have:=wK r 2;omega)
 have h2:dF r 2 &&& 65529<=dF r 2:=Nat.and_le_left;have h3:=wK r 2;have:bits .and .a (dF r 2:Nat) 65529=((dF r 2 &&& 65529:Nat):Int):=by
  show bT.wrap ((gI 64 (dF r 2:Nat) &&& gI 64 65529).e:Int)=_;rw[Gs,h1,show(gI 64 65529).e=65529 by decide,jY _ (by omega)]
 rw[this];have h4:=ajG ⟨lK r 2,vY r 2⟩ ⟨lK r 3,vY r 3⟩;simp only at h4;rw[<-aqt]at h4;unfold EI;rw[dG,bne_iff_ne];have h5:=congrArg (fun z=>!z) h4;simp only[Bool.not_not]at h5;rw[<-h5];simp
def wm:Nat->Sx->List UInt8->Sx×Int
 | 0,x,_=>if x.mW=true\/sG x.aN=false then(x,0)else(re,4)
 | f+1,x,r=>
   if x.mW=true\/sG x.aN=false then(x,0)
   else if r.a<8\/r.a<mX x.aN r then(re,2)
   else wm f ⟨x.head+mX x.aN r,x.bR,x.II,decide (x.aN=44)&&EI r,x.IJ+1,(lK r 0:Nat),x.h,x.dst⟩ (r.G (mX x.aN r))
def Dn(l:List UInt8):fD:=⟨true,lZ 16 l⟩
def Q8(l:List UInt8):Sx:=⟨40,40+dF l 4,(lK l 7:Nat),false,0,(lK l 6:Nat),Dn (l.G 8),Dn (l.G 24)⟩
def yO(l:List UInt8):Sx×Int:=
 if l.a<40 then(re,2)else if lK l 0/16≠6 then(re,3)else if l.a<40+dF l 4 then(re,2)
 else wm 8 (Q8 l) ((l.E (40+dF l 4)).G 40)
theorem wo{f:Nat}{x:Sx}{r:List UInt8}(h:x.mW=true\/sG x.aN=false):wm f x r=(x,0):=by cases f<;>simp[wm,h]
theorem KI{x:Sx}{r:List UInt8}(h:x.mW=false)(h':sG x.aN=true):wm 0 x r=(re,4):=by simp[wm,h,h']
theorem Dp{f:Nat}{x:Sx}{r:List UInt8}(h:x.mW=false)(h':sG x.aN=true)(hs:r.a<8\/r.a<mX x.aN r):wm (f+1) x r=(re,2):=by simp[wm,h,h',hs]
theorem FP{f:Nat}{x:Sx}{r:List UInt8}(h:x.mW=false)(h':sG x.aN=true)(hs:¬(r.a<8\/r.a<mX x.aN r)):
 wm (f+1) x r=wm f ⟨x.head+mX x.aN r,x.bR,x.II,decide (x.aN=44)&&EI r,x.IJ+1,(lK r 0:Nat),x.h,x.dst⟩ (r.G (mX x.aN r)):=by simp[wm,h,h',hs]
theorem iE{place:Nat->Option (Nat×Nat)}{cells c':Array aB}{i off:Nat}{v:aB}{rest:List (Nat×aB)}(hp:place i=some (off,1))(hv:v.D = #[v])(hf:off+1<=cells.j)(h:cells.c off v=c'):fJ place cells ((i,v)::rest)=fJ place c' rest:=by
 rw[EZ place cells i off 1 v rest hp (by rw[hv];rfl) hf,hv,alj,h]
theorem uf{place:Nat->Option (Nat×Nat)}{cells c' x:Array aB}{i off n:Nat}{rest:List (Nat×aB)}(hp:place i=some (off,n))(hx:x.j=n)(hf:off+n<=cells.j)(h:tC cells off x=c'):fJ place cells ((i,.d x)::rest)=fJ place c' rest:=by
 rw[EZ place cells i off n (.d x) rest hp (by rw[Pj];exact hx) hf,Pj,h]
theorem Sx.Qm(x:Sx)(v:Int):x.ay.c 1 (.b .a v)=({x with bR:=v}:Sx).ay:=by simp[Sx.ay,aL,fD.J]
theorem Sx.aqu(x:Sx)(v:Int):x.ay.c 2 (.b .a v)=({x with II:=v}:Sx).ay:=by simp[Sx.ay,aL,fD.J]
theorem Sx.abf(x:Sx)(t:fD):tC x.ay 6 t.ay=({x with h:=t}:Sx).ay:=by
 unfold Sx.ay;exact qH (by rw[fD.J,fD.J]) 6 rfl
theorem Sx.KJ(x:Sx)(t:fD):tC x.ay 23 t.ay=({x with dst:=t}:Sx).ay:=by
 unfold Sx.ay;have:=qH (p:=#[.b .a x.head,.b .a x.bR,.b .a x.II,.e x.mW,.b .a x.IJ,.b .a x.aN]++x.h.ay) (q:=x.dst.ay) (r:=#[]) (v:=t.ay) (by rw[fD.J,fD.J]) 23 (by simp[fD.J]);simpa[gD]using this
theorem Sx.abb(x:Sx)(v:Vector UInt8 16):tC x.ay 7 (jl v)=({x with h:=⟨x.h.h,v⟩}:Sx).ay:=by
 unfold Sx.ay;rw[fD.JH x.h,fD.JH ⟨x.h.h,v⟩];have:=qH (p:=#[.b .a x.head,.b .a x.bR,.b .a x.II,.e x.mW,.b .a x.IJ,.b .a x.aN] ++ #[.e x.h.h]) (q:=jl x.h.b) (r:=x.dst.ay) (v:=jl v) (by rw[dO,dO]) 7 rfl;simpa[gD]using this
theorem Sx.aa'(x:Sx)(v:Vector UInt8 16):tC x.ay 24 (jl v)=({x with dst:=⟨x.dst.h,v⟩}:Sx).ay:=by
 unfold Sx.ay;rw[fD.JH x.dst,fD.JH ⟨x.dst.h,v⟩];have:=qH (p:=#[.b .a x.head,.b .a x.bR,.b .a x.II,.e x.mW,.b .a x.IJ,.b .a x.aN]++x.h.ay ++ #[.e x.dst.h]) (q:=jl x.dst.b) (r:=#[]) (v:=jl v) (by rw[dO,dO]) 24 (by simp[fD.J]);simpa[gD]using this
@[go_sem]theorem aDV(W:ak)(a b c d:Int)(s t:fD):(vK 189 #[(0,.b .a a),(1,.b .a b),(5,.b .a c),(2,.b .a d),(6,.d s.ay),(7,.d t.ay)]).O ah W=.ok (.d (Sx.mk a b d false 0 c s t).ay) W:=kSx.bd W _ _ _ _ pY (auB W _ pY) (by
 refine(iE rfl rfl (by rw[Sx.J];omega) (Sx.NZ _ _)).trans ?_;refine(iE rfl rfl (by rw[Sx.J];omega) (Sx.Qm _ _)).trans ?_;refine(iE rfl rfl (by rw[Sx.J];omega) (Sx.YP _ _)).trans ?_;refine(iE rfl rfl (by rw[Sx.J];omega) (Sx.aqu _ _)).trans ?_;refine(uf rfl (fD.J _) (by rw[Sx.J];omega) (Sx.abf _ _)).trans ?_;refine(uf rfl (fD.J _) (by rw[Sx.J];omega) (Sx.KJ _ _)).trans ?_;rfl)
@[go_sem ↓]theorem aG'(ps:Array (Nat×aB)):fU 27 ps=vK 27 ps:=rfl
theorem ay0(w:ak)(fs:Array oz)(h:ah.k 27=some (.d fs)):(iI (fun f=>Prod.mk f.offset <$> sizeOf f.p) fs:yA (Array (Nat×Nat))).O ah w=.ok #[(0,1),(1,16)] w:=by
 have e:=fG;rw[h]at e;cases e;show _=_
 kernel_rfl
theorem fD.aqv(x:fD)(v:Bool):x.ay.c 0 (.e v)=({x with h:=v}:fD).ay:=by rw[fD.JH,fD.JH];simp[aL]
@[go_sem]theorem aw'(W:ak)(v:Bool):(vK 27 #[(0,.e v)]).O ah W=.ok (.d (fD.mk v nQ.b).ay) W:=aa0.bd W _ _ _ _ fG (ay0 W _ fG) (by
 refine(iE rfl rfl (by rw[fD.J];omega) (fD.aqv _ _)).trans ?_;rfl)
def Bx(L:List (Nat×Array aB))(W0 W:ak):Prop:=aM W0.a.j W0 W/\∀p∈L,W0.a.j<=p.1/\dP W p.1 p.2
section
variable {L:List (Nat×Array aB)} {W0 W W':ak} {q:Nat} {c:Array aB}
theorem Bx.start(W0:ak):Bx [] W0 W0:=⟨aG _ _,fun p hp=>by cases hp⟩
theorem Bx.X(h:Bx L W0 W):aM W0.a.j W0 W:=h.1
theorem Bx.go(h:Bx L W0 W)(hb:aM W.a.j W W'):Bx L W0 W':=⟨h.1.trans (hb.g h.1.j),fun p hp=>⟨(h.2 p hp).1,(h.2 p hp).2.go hb⟩⟩
theorem Bx.drew(h:Bx L W0 W):Bx L W0 W.drew:=⟨h.1.drew,fun p hp=>⟨(h.2 p hp).1,(h.2 p hp).2.drew⟩⟩
theorem Bx.drewN(h:Bx L W0 W)(k:Nat):Bx L W0 (W.drewN k):=⟨eD h.1 k,fun p hp=>⟨(h.2 p hp).1,(h.2 p hp).2.drewN k⟩⟩
theorem Bx.alloc(h:Bx L W0 W)(ob:Obj):Bx L W0 (W.alloc ob):=h.go ((aG _ _).alloc (av _) ob)
theorem Bx.new(h:Bx L W0 W)(c:Array aB)(t:bL):Bx ((W.a.j,c)::L) W0 (W.alloc (.D c t)):=
 ⟨h.1.alloc h.1.j _,fun p hp=>by
  rcases bD.1 hp with rfl|hp
  ·exact⟨h.1.j,dP.new W c t⟩
  ·exact⟨(h.2 p hp).1,(h.2 p hp).2.alloc _⟩⟩
theorem Bx.Z(h:Bx ((q,c)::L) W0 W):dP W q c:=(h.2 (q,c) (by simp)).2
theorem Bx.g0(h:Bx ((q,c)::L) W0 W):W0.a.j<=q:=(h.2 (q,c) (by simp)).1
theorem Bx.TS{p:Nat×Array aB}(h:Bx (p::L) W0 W):Bx L W0 W:=⟨h.1,fun r hr=>h.2 r (kr _ hr)⟩
theorem Bx.b1{p:Nat×Array aB}(h:Bx (p::(q,c)::L) W0 W):dP W q c:=h.TS.Z
theorem Bx.b2{p p2:Nat×Array aB}(h:Bx (p::p2::(q,c)::L) W0 W):dP W q c:=h.TS.TS.Z
theorem Bx.b3{p p2 p3:Nat×Array aB}(h:Bx (p::p2::p3::(q,c)::L) W0 W):dP W q c:=h.TS.TS.TS.Z
theorem Bx.swap{p p2:Nat×Array aB}(h:Bx (p::p2::L) W0 W):Bx (p2::p::L) W0 W:=⟨h.1,fun r hr=>h.2 r (by simp at hr⊢;rcases hr with h|h|h<;>simp[h])⟩
theorem Bx.sub{L':List (Nat×Array aB)}(h:Bx L W0 W)(hs:∀p∈L',p∈L):Bx L' W0 W:=⟨h.1,fun p hp=>h.2 p (hs p hp)⟩
theorem Bx.set(h:Bx ((q,c)::L) W0 W)(hL:∀p∈L,p.1≠q)(j:Nat)(u:aB):Bx ((q,c.c j u)::L) W0 (W.I ⟨q,j,none⟩ u):=
 ⟨h.1.I h.g0 u,fun p hp=>by
  rcases bD.1 hp with rfl|hp
  ·exact⟨h.g0,h.Z.fC j u⟩
  ·have:=h.2 p (by simp[hp]);exact⟨this.1,this.2.dQ _ u (fun e=>hL p hp e.symm)⟩⟩
theorem Bx.lay(h:Bx ((q,c)::L) W0 W)(hL:∀p∈L,p.1≠q)(o:Nat)(x:Array aB):Bx ((q,tC c o x)::L) W0 (gV W q o x):=
 ⟨lQ h.1 q o x h.g0,fun p hp=>by
  rcases bD.1 hp with rfl|hp
  ·exact⟨h.g0,by have:=h.Z.setCells o x.a;simpa[gV]using this⟩
  ·have:=h.2 p (by simp[hp]);exact⟨this.1,this.2.gN (hL p hp)⟩⟩
theorem Bx.put(h:Bx ((q,c)::L) W0 W)(hL:∀p∈L,p.1≠q)(x:Array aB)(hx:x.j=c.j):Bx ((q,x)::L) W0 (gV W q 0 x):=
 ⟨lQ h.1 q 0 x h.g0,fun p hp=>by
  rcases bD.1 hp with rfl|hp
  ·exact⟨h.g0,h.Z.put x hx⟩
  ·have:=h.2 p (by simp[hp]);exact⟨this.1,this.2.gN (hL p hp)⟩⟩
theorem Bx.Oh{A:Option aV}{n:Nat}{l:List UInt8}(h:Bx L W0 W)(hr:gG W0 W0.a.j A n l):gG W W.a.j A n l:=(hr.Y h.1).lD h.1.j
theorem Bx.rdR{α:Type}{f:α->Array aB}{s:Nat}{A:Option aV}{n:Nat}{l:List α}(h:Bx L W0 W)(hr:iT f s W0 W0.a.j A n l):iT f s W W.a.j A n l:=(hr.Y h.1).lD h.1.j
end
theorem gG.VU{w:ak}{B n:Nat}{a:aV}{l:List UInt8}(h:gG w B (some a) n l)(k:Nat)(hk:k+1<n):w.b ⟨a.block,a.off+(k+1),none⟩=some (.b .b (lK l (k+1))):=by
 obtain⟨_,he,hc⟩:=h.XD k hk;cases he;exact hc
theorem gG.asE{w:ak}{B n:Nat}{a:aV}{l:List UInt8}(h:gG w B (some a) n l)(hk:0<n):w.b a=some (.b .b (lK l 0)):=by
 obtain⟨_,he,_,hc⟩:=h.dW hk;cases he;rw[Ph]at hc;exact hc
theorem gG.ahT{w:ak}{B n:Nat}{A:Option aV}{l:List UInt8}(h:gG w B A n l)(hk:0<n):∃a,A=some a/\a.block<B:=by
 obtain⟨a,he,hb,_⟩:=h.dW hk;exact⟨a,he,hb⟩
def sH(A:Option aV)(z c s:Nat):Option aV:=if c=z then A else A.map (·.add (z*s))
theorem gG.XE{w:ak}{B n:Nat}{A:Option aV}{l:List UInt8}(h:gG w B A n l){z b c:Nat}(hz:z<=b)(hb:b<=n)(hc:n<=c):gG w B (sH A z c 1) (b-z) ((l.E b).G z):=by
 have:=h.QW hz hb hc;rw[<-List.drop_take]at this;unfold sH;rw[gP];exact this
theorem gG.yt{w:ak}{B n:Nat}{A:Option aV}{l:List UInt8}(h:gG w B A n l){z c:Nat}(hz:z<=n)(hc:n<=c):gG w B (sH A z c 1) (n-z) (l.G z):=by
 have:=h.from hz hc
 unfold sH;rw[gP];exact this
section
variable {P:fB} (w:ak) (t:bL) (a:Option aV) (len cap:Nat) (ht:P.k t=some (.a (P.elem t)))
include ht
theorem iR(kl kh:IntKind)(l h:Int)(h0:0<=l)(h1:l<=h)(h2:h<=cap):
 (Instr.slice t (.a a len cap) (some (.b kl l)) (some (.b kh h)) none).O P w =
  ((sizeOf (P.elem t)).O P w).andThen fun s w=>.ok (.a (sH a l.e cap s) (h.e-l.e) (cap-l.e)) w:=by
 rw[run_slice_lh w t a len cap ht kl kh l h h0 h1 h2];rfl
theorem jI(kl:IntKind)(l:Int)(h0:0<=l)(h1:l<=len):
 (Instr.slice t (.a a len cap) (some (.b kl l)) none none).O P w =
  ((sizeOf (P.elem t)).O P w).andThen fun s w=>.ok (.a (sH a l.e cap s) (len-l.e) (cap-l.e)) w:=by
 rw[run_slice_l w t a len cap ht kl l h0 h1];rfl
end
section
variable {P:fB} {md:Region.Mode}
def lI(o:ji):ji:={o with op:=.move (.const undef)}
def Hf(ops:Array ji)(k n d:Nat):Bool:=(eu n).all fun j=>j==k||(match ops[j]? with|some o=>!(o.looksAt ops).contains d&&o.dst != some d|none=>true)
def Q9:List ji->Bool
 | []=>true
 | o::l=>(match o.dst with|some d=>l.all fun p=>p.dst != some d|none=>true)&&Q9 l
theorem Hg:∀{l:List ji},Q9 l=true->∀{i j:Nat} {oi oj:ji} {d:Nat},l[i]? = some oi->l[j]? = some oj->oi.dst=some d->oj.dst=some d->i=j
 | [],_,i,j,oi,oj,d,hi,_,_,_=>by simp at hi
 | o::l,h,i,j,oi,oj,d,hi,hj,di,dj=>by
   simp only[Q9,bf]at h;obtain⟨h1,h2⟩:=h;rcases i with _|i<;>rcases j with _|j
   ·rfl
   ·simp at hi hj
    subst hi;rw[di]at h1;have:=gq.1 h1 oj (List.mem_of_getElem? hj);simp[dj]at this
   ·simp at hi hj
    subst hj;rw[dj]at h1;have:=gq.1 h1 oi (List.mem_of_getElem? hi);simp[di]at this
   ·simp at hi hj
    rw[Hg h2 hi hj di dj]
def XG(P:fB)(md:Region.Mode)(ops:Array ji)(C:ak->Prop)(n g:Nat)(aF:rO):Nat->Array Bool->rO->Prop:=
 wqL P md ops C n (fun listed a=>lV md ops g n listed=true/\a=aF)
theorem Oi{listed:Array Bool}{j:Nat}(h:listed.b j true=false){i:Nat}(hij:j≠i):(listed.c i true).b j true=false:=by rw[yB true (jE hij)];exact h
theorem EJ{listed:Array Bool}{i j:Nat}(h:(listed.c i true).b j true=false):listed.b j true=false:=by
 by_cases hij:i=j
 ·subst hij
  rcases aZ i listed.j with h1|h1
  ·simp[h1]at h
  ·simp[aW h1]at h
 ·rwa [yB true hij]at h
theorem Bf{listed:Array Bool}{i j:Nat}(h:(listed.c i true).b j true=false):j≠i:=by
 rintro rfl;rcases aZ j listed.j with h1|h1
 ·simp[h1]at h
 ·simp[aW h1]at h
theorem Dq{ops:Array ji}{C:ak->Prop}{n g:Nat}{aF:rO}:∀(f:Nat)(listed:Array Bool)(a:rO),XG P md ops C n g aF f listed a ->
 aF.defers=a.defers/\aF.tmps.j=a.tmps.j/\∀d,(∀j oj,ops[j]? = some oj->listed.b j true=false->oj.dst≠some d)->aF.tmps[d]? = a.tmps[d]?
 | 0,listed,a,h=>by obtain⟨_,rfl⟩:=h;exact⟨rfl,rfl,fun _ _=>rfl⟩
 | f+1,listed,a,h=>by
   obtain⟨h0,h1⟩:=h;obtain⟨i,hi⟩:=List.exists_mem_of_ne_nil _ h0;obtain⟨hun,oi,hoi,_⟩:=kN.1 hi;obtain⟨v,_,hK⟩:=rH hoi (h1 i hi).2;obtain⟨e1,e2,e3⟩:=Dq f _ _ hK;have ed:(a.put oi.dst v).defers=a.defers:=by cases oi.dst<;>rfl
   have es:(a.put oi.dst v).tmps.j=a.tmps.j:=by cases oi.dst<;>simp[mE]
   refine⟨e1.trans ed,e2.trans es,fun d hd=>?_⟩;rw[e3 d fun j oj hj hl=>hd j oj hj (EJ hl)];have:=hd i oi hoi hun;cases h2:oi.dst with
   | none=>rfl
   | some e=>
     have:e≠d:=fun e'=>this (by rw[h2,e'])
     simp[mE,dS,this]
theorem adI{l:List ji}(hD:Q9 l=true){C C':ak->Prop}{n g f:Nat}{aF:rO}{listed:Array Bool}{a:rO}{i:Nat}{oi:ji}(hi:i∈gJ md l.c listed)(hoi:l.c[i]? = some oi)
 (h:XG P md l.c C n g aF (f+1) listed a) (h':XG P md l.c C' n g aF (f+1) listed a) :
 ∃v v',YieldsIn P l.c C oi v a/\XG P md l.c C n g aF f (listed.c i true) (a.put oi.dst v)/\YieldsIn P l.c C' oi v' a/\XG P md l.c C' n g aF f (listed.c i true) (a.put oi.dst v')/\a.put oi.dst v=a.put oi.dst v':=by
 obtain⟨v,hy,hK⟩:=rH hoi (h.2 i hi).2;obtain⟨v',hy',hK'⟩:=rH hoi (h'.2 i hi).2;refine⟨v,v',hy,hK,hy',hK',?_⟩;cases hd:oi.dst with
 | none=>rfl
 | some d=>
   have hno:∀j oj,l.c[j]? = some oj->(listed.c i true).b j true=false->oj.dst≠some d:=fun j oj hj hl hdj=>by
    have:=Hg hD (by simpa using hoi) (by simpa using hj) hd hdj;exact Bf hl this.symm
   have e1:=(Dq f _ _ hK).2.2 d hno;have e2:=(Dq f _ _ hK').2.2 d hno;rw[hd]at e1 e2;have e:=e1.symm.trans e2;simp only[mE,dS,if_pos]at e ⊢;by_cases hs:d<a.tmps.j
   ·simp[hs]at e;rw[e]
   ·have hs':=Nat.le_of_not_lt hs
    rw[jX hs',jX hs']
theorem Oj(a:rO)(d:Nat)(u v:aB):(a.put (some d) u).put (some d) v=a.put (some d) v:=by simp[mE]
theorem Io{ops:Array ji}{C:ak->Prop}{o:ji}{a:rO}{K:rO->Prop}{K':rO->ak->Prop}{Q':Bn->rO->ak->Prop}{w:ak}{d:Nat}{u:aB}(hs:∀cs b,o.op≠.select cs b)(hl:d∉o.looksAt ops)(hd:o.dst≠some d)
 (hw:C w) (h:∀a w',C w'->K a->K' (a.put (some d) u) w') (hh:o.quiet P a C K):o.wp P (a.put (some d) u) w K' Q':=by
 obtain⟨v,h1,h2⟩:=hh;have h3:=h1 w hw;have e:execOp (a.put (some d) u).eval o=execOp a.eval o:=execOp_put o hs a (some d) u (fun e he=>by cases he;exact hl);have c:∀x,(a.put (some d) u).put o.dst x=(a.put o.dst x).put (some d) u:=fun x=>Act.put_comm a u x (fun e he=>by cases he;exact hd)
 unfold Oper.quietAt at h3;unfold nV;rw[e];generalize(execOp a.eval o).O P w=r at *;cases r with
 | ok n w'=>
   cases n<;>simp only[Oper.quietUpon]at h3<;>simp only[MV]
   case value x=>
    obtain⟨e1,e2⟩:=h3;rw[e1,e2,c];exact h _ _ hw h2
   case skip=>
    obtain⟨e1,e2⟩:=h3;rw[e1,c,<-e2];exact h _ _ hw h2
   case enter f args=>
    obtain⟨e1,hc⟩:=h3;rw[e1];exact hc.g fun e w'' ⟨he,hw''⟩=>by subst he;dsimp only;rw[c];exact h _ _ hw'' h2
 | halt x w'=>simp only[Oper.quietUpon]at h3
def Shut(S:ak->Prop):Prop:=∀w w',S w->aM w.a.j w w'->S w'
theorem adJ{l:List ji}{k:Nat}{o:ji}(hk:l[k]? = some o)(tmps:Array aB):yielded (l.set k (lI o)).c tmps=yielded l.c tmps:=by
 funext j;unfold yielded;have:((l.set k (lI o)).c[j]?).bind (·.dst)=(l.c[j]?).bind (·.dst):=by
  simp only[eO,fu];split
  ·rename_i h
   subst h;have:=(iN.1 hk).1;rw[hk];simp[this,lI]
  ·rfl
 rw[this]
theorem adK{l:List ji}{k:Nat}{o:ji}(hk:l[k]? = some o)(listed:Array Bool):gJ md (l.set k (lI o)).c listed=gJ md l.c listed:=by
 unfold gJ;have hsz:(l.set k (lI o)).c.j=l.c.j:=by simp
 rw[hsz];refine Gj fun i _=>?_
 by_cases hik:i=k
 ·subst hik
  obtain⟨hl,hlo⟩:=iN.1 hk;simp[fu,hl,hlo,lI]
 ·simp[fu,jE hik]
theorem KO{l:List ji}{k:Nat}{o:ji}(hk:l[k]? = some o)(listed:Array Bool)(i:Nat):i∈gJ md (l.set k (lI o)).c listed↔i∈gJ md l.c listed:=by rw[adK hk]
section
variable {l:List ji} {k n g d:Nat} {o:ji} {T:bL} {z:Array aB} {aF:rO} {Q:Bn->rO->ak->Prop}
theorem YR(hk:l[k]? = some o){i:Nat}(hik:i≠k):(l.set k (lI o)).c[i]? = l.c[i]?:=by
 simp[fu,jE hik]
theorem VW(hA:Hf l.c k n d=true){i:Nat}{oi:ji}(hin:i<n)(hik:i≠k)(hoi:l.c[i]? = some oi):d∉oi.looksAt l.c/\oi.dst≠some d:=by
 have:=gq.1 hA i (fq.2 hin);simp only[hoi,kR,beq_iff_eq,bf]at this;rcases this with h|h
 ·exact absurd h hik
 ·exact⟨by simpa using h.1,by simpa using h.2⟩
theorem VX(hk:l[k]? = some o)(oi:ji)(tmps:Array aB):fK oi (yielded (l.set k (lI o)).c tmps)=fK oi (yielded l.c tmps):=by rw[adJ hk]
theorem MB(hk:l[k]? = some o)(hA:Hf l.c k n d=true)(hsel:∀(j:Nat)(o:ji) cs b,l.c[j]? = some o->o.op≠.select cs b){C:ak->Prop}{u:aB}
 (hend:∀listed w',C w'->lV md (l.set k (lI o)).c g n listed=true->wpAny P md l.c Q g listed (aF.put (some d) u) w') :
 ∀(f:Nat)(listed:Array Bool)(a:rO)(w:ak),listed.b k true=true->C w->XG P md (l.set k (lI o)).c C n g aF f listed a->wpAny P md l.c Q (f+g) listed (a.put (some d) u) w
 | 0,listed,a,w,hun,hw,h=>by
   obtain⟨h1,rfl⟩:=h;rw[bC];exact hend _ _ hw h1
 | f+1,listed,a,w,hun,hw,h=>by
   rw[show f+1+g=(f+g)+1 by omega];refine⟨fun h0=>absurd ?_ h.1,fun i hi=>?_⟩
   ·rw[uJ]
    intro i hi;rw[KO hk]at hi;rw[h0]at hi;cases hi
   ·have hi':=(KO hk listed i).2 hi
    have hik:i≠k:=fun e=>by
     subst e;have:=(kN.1 hi).1;rw[hun]at this;cases this
    obtain⟨_,oi,hoi,_⟩:=kN.1 hi;obtain⟨hin,hq⟩:=h.2 i hi';obtain⟨hl,hd⟩:=VW hA hin hik hoi;have hun':∀i,(listed.c i true).b k true=true:=fun i=>by
     by_cases e:i=k
     ·subst e
      rcases aZ i listed.j with h1|h1
      ·simp[h1]
      ·simp[aW h1]
     ·rw[yB true e];exact hun
    unfold qOp at hq;rw[YR hk hik,hoi]at hq;unfold wpOp;simp only[hoi];simp only[VX hk]at hq;rw[wanted_put oi a (some d) u (fun e he=>by cases he;exact hl)];split
    ·rename_i hw2
     simp only[hw2,if_true]at hq;exact .b (Io (fun cs b=>hsel i oi cs b hoi) hl hd hw (fun a' w' hw' h'=>MB hk hA hsel hend f _ a' w' (hun' i) hw' h') hq)
    ·rename_i hw2
     simp only[hw2]at hq;rw[Act.put_comm a u undef (fun e he=>by cases he;exact hd)];exact MB hk hA hsel hend f _ _ w (hun' i) hw hq
theorem VY{S:ak->Prop}(hS:Shut S)(w0:ak):Shut fun w=>S w/\aM w0.a.j w0 w:=fun w w' h hb=>⟨hS w w' h.1 hb,h.2.trans (hb.g h.2.j)⟩
theorem YS(hk:l[k]? = some o)(hkn:k<n)(hA:Hf l.c k n d=true)(hD:Q9 (l.set k (lI o))=true)(hsel:∀(j:Nat)(o:ji) cs b,l.c[j]? = some o->o.op≠.select cs b)
 (hod:o.dst=some d) (hog:o.guard=none) (hoa:o.after = #[]) (hrun:∀(a:rO) w,(execOp a.eval o).O P w=.ok (.value (.c (some ⟨w.a.j,0,none⟩))) (w.alloc (.D z T))) {S:ak->Prop} (hS:Shut S)
 (hend:∀listed w1 w',S w1->S w'->aM (w1.alloc (.D z T)).a.j (w1.alloc (.D z T)) w'->lV md (l.set k (lI o)).c g n listed=true->wpAny P md l.c Q g listed (aF.put (some d) (.c (some ⟨w1.a.j,0,none⟩))) w') :
 ∀(f:Nat)(listed:Array Bool)(a:rO)(w:ak),listed.j=l.a->listed.b k true=false->S w->(∀C:ak->Prop,(∀w,C w->S w)->Shut C->(∃w,C w)->XG P md (l.set k (lI o)).c C n g aF f listed a)->wpAny P md l.c Q (f+g) listed a w
 | 0,listed,a,w,hsz,hun,hw,H=>by
   obtain⟨h1,_⟩:=H S (fun _ h=>h) hS ⟨w,hw⟩;have hkl:k<l.a:=(iN.1 hk).1;have:k∈gJ md (l.set k (lI o)).c listed:=kN.2 ⟨hun,lI o,by simp[fu,hkl],fun e he=>by simp[lI,hoa]at he⟩;have:=seqB_ready h1 k this;omega
 | f+1,listed,a,w,hsz,hun,hw,H=>by
   rw[show f+1+g=(f+g)+1 by omega];have H0:=H S (fun _ h=>h) hS ⟨w,hw⟩;have hkl:k<l.a:=(iN.1 hk).1;refine⟨fun h0=>absurd ?_ H0.1,fun i hi=>?_⟩
   ·rw[uJ]
    intro i hi;rw[KO hk]at hi;rw[h0]at hi;cases hi
   ·have hi':=(KO hk listed i).2 hi
    by_cases hik:i=k
    ·subst hik
     unfold wpOp;simp only[eO,hk];rw[if_pos (by simp[fK,hog])];refine .b ?_;unfold nV;rw[hrun];simp only[MV,hod];have hC:=H (fun w'=>S w'/\aM (w.alloc (.D z T)).a.j (w.alloc (.D z T)) w') (fun _ h=>h.1) (VY hS _) ⟨_,hS _ _ hw ((aG _ _).alloc (av _) _),aG _ _⟩;obtain⟨v,_,hK⟩:=rH (o:=lI o) (by simp[fu,hkl]) (hC.2 i hi').2;have:=MB (C:=fun w'=>S w'/\aM (w.alloc (.D z T)).a.j (w.alloc (.D z T)) w') (u:=.c (some ⟨w.a.j,0,none⟩)) hk hA hsel (fun listed' w' hw' hB=>hend listed' w w' hw hw'.1 hw'.2 hB) f _ _ (w.alloc (.D z T)) (by
      have:i<listed.j:=by rw[hsz];exact hkl
      simp[this]) ⟨hS _ _ hw ((aG _ _).alloc (av _) _),aG _ _⟩ hK
     have e:(lI o).dst=some d:=hod;rw[e,Oj]at this;exact this
    ·obtain⟨_,oi,hoi,_⟩:=kN.1 hi
     have agb:(l.set k (lI o)).c[i]? = some oi:=by rw[YR hk hik];exact hoi
     obtain⟨v,hy,hK⟩:=rH agb (H0.2 i hi').2;have hq:qOp P l.c S i (fun a'=>a'=a.put oi.dst v) a:=by
      unfold qOp;simp only[hoi];unfold YieldsIn at hy;simp only[VX hk]at hy;rcases hy with⟨h1,h2⟩|⟨h1,rfl⟩
      ·simp only[h1,if_true];exact⟨v,h2,rfl⟩
      ·simp only[h1,fM,if_false]
     refine wpOp_of_qOp hw (fun a' w' hw' e=>?_) hq;subst e;refine YS hk hkn hA hD hsel hod hog hoa hrun hS hend f _ _ w' (by simp[hsz]) (Oi hun (jE hik)) hw' (fun C hC1 hC2 hC3=>?_);obtain⟨_,v2,_,_,_,hK2,_⟩:=adI hD hi' agb H0 (H C hC1 hC2 hC3);have e1:a.put oi.dst v=a.put oi.dst v2:=by
      cases hd:oi.dst with
      | none=>rfl
      | some dd=>
        have hno:∀j oj,(l.set k (lI o)).c[j]? = some oj->(listed.c i true).b j true=false->oj.dst≠some dd:=fun j oj hj hl hdj=>by
         have:=Hg hD (by simpa using agb) (by simpa using hj) hd hdj;exact Bf hl this.symm
        have q1:=(Dq f _ _ hK).2.2 dd hno;have q2:=(Dq f _ _ hK2).2.2 dd hno;rw[hd]at q1 q2;have q:=q1.symm.trans q2;simp only[mE,dS,if_pos]at q ⊢;by_cases hs:dd<a.tmps.j
        ·simp[hs]at q;rw[q]
        ·have hs':=Nat.le_of_not_lt hs
         rw[jX hs',jX hs']
     rw[e1];exact hK2
end
theorem Bx.abg(L:List (Nat×Array aB))(W0:ak):Shut (Bx L W0):=fun _ _ h hb=>h.go hb
theorem Qn{S:ak->Prop}(hS:Shut S)(k n d:Nat){id:Nat}{Q:Bn->rO->ak->Prop}{a:rO}{w:ak}{l:List ji}{o:ji}(T:bL)(z:Array aB)(hm:P.follows .mixedOrders=true)
 (hk:l[k]? = some o) (hB:yC .any (l.set k (lI o)).c n=true) (hkn:k<n) (hn':n<l.a) (hA:Hf l.c k n d=true) (hD:Q9 (l.set k (lI o))=true) (hsel:Region.noSelect l.c=true)
 (hod:o.dst=some d) (hog:o.guard=none) (hoa:o.after = #[]) (hrun:∀(a:rO) w,(execOp a.eval o).O P w=.ok (.value (.c (some ⟨w.a.j,0,none⟩))) (w.alloc (.D z T))) (h0:S w.drew)
 (hh:∃aF:rO,(∀(T:Type)(f:T->ak),Nonempty T->(∀m,S (f m))->(∀m w',aM (f m).a.j (f m) w'->∃m',w'=f m')->wpQuiet P (l.set k (lI o)).c (fun w'=>∃m,w'=f m) (fun a'=>a'=aF) ((l.set k (lI o)).E n) a)
 /\ (∀w1 w',S w1->S w'->aM (w1.alloc (.D z T)).a.j (w1.alloc (.D z T)) w'->wpList P l.c Q (l.G n) (aF.put (some d) (.c (some ⟨w1.a.j,0,none⟩))) w')):(Code.region id l.c true).wp P Q a w:=by
 obtain⟨aF,h,h2⟩:=hh;simp only[yC,bf,decide_eq_true_eq]at hB;obtain⟨⟨⟨⟨am2,hn⟩,hs⟩,hc⟩,hlex⟩:=hB;have hlen:(l.set k (lI o)).a=l.a:=by simp
 have hsz:(l.set k (lI o)).c.j=l.c.j:=by simp
 have htl:((l.set k (lI o)).E n).a=n:=by simp;omega
 have hdl:(l.G n).a=l.c.j-n:=by simp
 have inv0:HeadInv .any (l.set k (lI o)).c n (nU l.c.j false):=
  ⟨by simp,fun j oj _ hl=>(by rw[nH]at hl;cases hl),fun t _ ht=>getD_in (by simpa using ht) (nH _ _)⟩
 refine wp_region_any hm ?_;rw[hsz]at hlex;have hseq:∀listed,lV .any (l.set k (lI o)).c (l.c.j-n) n listed=true->lV .any l.c (l.c.j-n) n listed=true:=by
  have:∀(g:Nat)(j:Nat) listed,lV .any (l.set k (lI o)).c g j listed=true->lV .any l.c g j listed=true:=by
   have he:∀listed,gJ .any (l.set k (lI o)).c listed=gJ .any l.c listed:=adK hk;intro g
   induction g with
   | zero=>intro j listed h;simp only[lV]at h⊢;rwa [he]at h
   | succ g ih=>intro j listed h;simp only[lV,bf]at h⊢;rw[he]at h;exact⟨h.1,ih _ _ h.2⟩
  exact fun listed=>this _ _ listed
 have:=YS (P:=P) (md:=.any) (g:=l.c.j-n) (aF:=aF) (Q:=Q) hk hkn hA hD (Region.noSelect_spec hsel) hod hog hoa hrun hS (fun listed w1 w' hw1 hw' hb hq=>by
  have:=wpAny_of_seq (P:=P) (md:=.any) (Q':=Q) (ops:=l.c) (l.G n) n listed (aF.put (some d) (.c (some ⟨w1.a.j,0,none⟩))) w' (fun j=>by simp[iY]) (by rw[hdl];exact hseq _ hq) (h2 w1 w' hw1 hw' hb)
  rwa [hdl]at this) n (nU l.c.j false) a {w with drawn:=w.drawn+1} (by simp) (getD_in (by simp;omega) (nH _ _)) h0 (fun C hC1 hC2 hC3=>by
  have hq:=h {w // C w} Subtype.val (let⟨w,hw⟩:=hC3;⟨⟨w,hw⟩⟩) (fun m=>hC1 _ m.2) (fun m w' hb=>⟨⟨w',hC2 _ _ m.2 hb⟩,rfl⟩);have e:(fun w':ak=>∃m:{w // C w},w'=m.val)=C:=by
   funext w';rw[eq_iff_iff];exact⟨fun⟨m,hm⟩=>by rw[hm];exact m.2,fun h=>⟨⟨w',h⟩,rfl⟩⟩
  rw[e]at hq;have:=aaA (md:=.any) (C:=C) (g:=l.c.j-n) am2 hs hc hn ((l.set k (lI o)).E n) 0 (nU l.c.j false) a (fun j hj=>by
   have hj':j<n:=by rw[htl]at hj;exact hj
   rw[iB hj',bC];simp) (by simpa using htl) inv0 (by rw[htl];exact hlex) hq
  rw[htl]at this;exact this)
 rw[show n+(l.c.j-n)=l.c.j by simp;omega]at this;exact this
end
section
attribute [local go_sem high] iR jI
def slN:aB->Nat
 | .a _ n _=>n
 | _=>0
def SxP(W:ak)(r:Sx×Int)(e:lJ)(W':ak):Prop:=e=.a (.K #[.d r.1.ay,.b .a r.2])/\aM W.a.j W W'
theorem Ra(W:ak)(A:Option aV)(n c:Nat)(l:List UInt8)(hnc:n<=c)(hc:c<=9223372036854775807/\n<=1000000000)(hr:gG W W.a.j A n l):aR ah 176 #[.a A n c] W (SxP W (yO l)):=by
 have HR:=ab hr;have hl:=ab hr.len;have b0:=ab ((Bx.start W).new re.ay 189);clear hr;go_enter Tryz.func176,Tryz.ntmps176;by_cases h40:n<40
 ·have aDY:(n:Int)<40:=by omega
  have H:=ab (show yO l=(re,2)by unfold yO;rw[if_pos (by rw[hl.i];exact h40)]);go_wp2;refine aO (kSx.rb rfl _ rfl b0.i.Z (Sx.J _)) rfl ?_;rw[H.i];exact⟨rfl,b0.i.X⟩
 have aDY:¬(n:Int)<40:=by omega
 have N40:=ab (show¬l.a<40 by rw[hl.i];exact h40);go_upto_region 3 with fail
 generalize hw1:W.alloc (.D re.ay 189)=w1 at b0 ⊢;obtain⟨a,rfl,hab⟩:=HR.i.ahT (show 0<n by omega);have KS:=ab (show∀W',Bx [(W.a.j,re.ay)] W W'->W'.b ⟨a.block,a.off+6,none⟩=some (.b .b (lK l 6))/\W'.b ⟨a.block,a.off+7,none⟩=some (.b .b (lK l 7))from fun W' h=>⟨(h.Oh HR.i).VU 5 (by omega),(h.Oh HR.i).VU 6 (by omega)⟩);obtain⟨i6,i7⟩:6<n/\7<n:=by omega
 have hx6:=jY (lK l 6) (by have:=vY l 6;omega);have hx7:=jY (lK l 7) (by have:=vY l 7;omega);obtain⟨t,ht⟩:=cB (dF l 4);have HT:=ab ht.symm;have htl:t<=65535:=by rw[ht];exact wK l 4
 have hx4:=jY (40+(t:Int)) (by omega);have C4:=ab (fun(W':ak) (h:Bx [(W.a.j,re.ay)] W W')=>amX W' (some a) n c l 4 4 rfl (by omega) hnc (by omega) (h.Oh HR.i));rw[<-ht]at C4;clear ht;have HX0:∃X:Sx,X=Sx.mk 40 (40+(t:Int)) (lK l 7) false 0 (lK l 6) ⟨true,nQ.b⟩ ⟨true,nQ.b⟩:=⟨_,rfl⟩
 clear hw1;have hWy:=ab b0.i.Z.lt;refine Qn (Bx.abg [(W.a.j,re.ay)] W) 14 15 4 189 re.ay (by kernel_rfl) rfl (by kernel_rfl) (by decide) (by decide) (by kernel_rfl) (by kernel_rfl) (by kernel_rfl) rfl rfl rfl (fun a w=>by simp[go_sem]) b0.i.drew ?_;apply Exists.intro;refine⟨fun T f hT es ew=>?_,?_⟩
 ·have KF:=fun m=>KS.i _ (es m)
  have CF:=ab (fun m=>C4.i _ (es m));have EW:=ab ew;obtain⟨k1,k2⟩:(∀m,(f m).b ⟨a.block,a.off+6,none⟩=some (.b .b (lK l 6)))/\(∀m,(f m).b ⟨a.block,a.off+7,none⟩=some (.b .b (lK l 7))):=⟨fun m=>(KF m).1,fun m=>(KF m).2⟩
  clear KF;simp only[lI,bH,bQ,jV,kC]
  repeat(go_big_quiet_step ((first
   | (go_at_call 249;with_reducible refine(CF.i _).g ?_;rintro e w2 ⟨rfl,hb⟩;exact⟨rfl,EW.i _ _ hb⟩))))
  exact iw rfl
 ·intro w2 w3 hw2 _ hb
  have Z2:=ab ((hw2.new re.ay 189).go hb);have hy:=hw2.Z.lt;generalize w2.a.j=y at *;clear hw2 hb;simp only[mE,bI,bH,bQ,jW,lN];obtain⟨X0,hX0⟩:∃X:Sx,X=Sx.mk 40 (40+(t:Int)) (lK l 7) false 0 (lK l 6) ⟨true,nQ.b⟩ ⟨true,nQ.b⟩:=⟨_,rfl⟩
  have HX0:=ab hX0;rw[<-hX0];clear hX0 hx4 hx6 hx7;have hne:∀p∈[(W.a.j,re.ay)],p.1≠y:=fun p hp=>by rw[fO.1 hp];exact iO hy
  have hne:=ab hne;have zS:=Z2.i.Z.S 0 40 (by rw[Sx.J];omega);have Z3:=ab (Z2.i.put hne.i X0.ay (by rw[Sx.J,Sx.J]));clear C4 KS;go_step;go_simp;go_step;go_step;clear zS Z2;generalize gV w3 y 0 X0.ay=w4 at Z3 ⊢;obtain⟨m,hm⟩:=cB (40+t);have hm':40+(t:Int)=m:=by omega
  rw[hm']at HX0;have HM:=ab (show m=40+dF l 4 by rw[HT.i];exact hm);have hm1:40<=m/\m<=65575:=by omega
  clear hm hm' htl;have i8:(8:Int)<=n:=by omega
  have i24:(24:Int)<=n:=by omega
  have R8:=(Z3.i.drew.Oh HR.i).yt (z:=8) (c:=c) (by omega) hnc;have cp1:∀ty,(qZ #[56,56] ty #[.a (some ⟨y,7,none⟩) 16 16,.a (sH (some a) 8 c 1) (n-8) (c-8)]).O ah w4.drew=.ok (goInt 16) (gV w4.drew y 7 (jl (lZ 16 (l.G 8)))):=fun ty=>by
   have:=FL (c:=c-8) (d:=16) _ R8 (m:=16) (by omega) (by omega) (Z3.i.drew.Z.S 7 16 (by rw[Sx.J];omega)) 56 ty 5 dD amD;rw[Oe 16 _ (by rw[fZ,hl.i];omega)]at this;exact this
  have Z4:=ab (Z3.i.drew.lay hne.i 7 (jl (lZ 16 (l.G 8))));rw[Sx.abb]at Z4;go_upto_region 4 with fail
  go_region;clear cp1 R8 Z3;generalize gV w4.drew y 7 (jl (lZ 16 (l.G 8)))=w5 at Z4 ⊢;have R24:=(Z4.i.drew.Oh HR.i).yt (z:=24) (c:=c) (by omega) hnc;have cp2:∀ty,(qZ #[56,56] ty #[.a (some ⟨y,24,none⟩) 16 16,.a (sH (some a) 24 c 1) (n-24) (c-24)]).O ah w5.drew=.ok (goInt 16) (gV w5.drew y 24 (jl (lZ 16 (l.G 24)))):=fun ty=>by
   have:=FL (c:=c-24) (d:=16) _ R24 (m:=16) (by omega) (by omega) (Z4.i.drew.Z.S 24 16 (by rw[Sx.J];omega)) 56 ty 5 dD amD;rw[Oe 16 _ (by rw[fZ,hl.i];omega)]at this;exact this
  have Z5:=ab (Z4.i.drew.lay hne.i 24 (jl (lZ 16 (l.G 24))));rw[Sx.aa',HX0.i]at Z5;go_upto_region 5 with fail
  go_region;clear cp2 R24 Z4 i8 i24;generalize gV w5.drew y 24 (jl (lZ 16 (l.G 24)))=w6 at Z5 ⊢;simp only at Z5;have S0:=ab (show Q8 l=Sx.mk 40 m (lK l 7) false 0 (lK l 6) ⟨true,lZ 16 (l.G 8)⟩ ⟨true,lZ 16 (l.G 24)⟩by unfold Q8 Dn;rw[HM.i];simp);obtain⟨X1,hX1⟩:∃X,X=Q8 l:=⟨_,rfl⟩
  rw[<-S0.i,<-hX1]at Z5;have HX1:=ab hX1;have ht1:X1.bR=m:=by rw[hX1,S0.i]
  have HT1:=ab ht1;clear hX1 HX0 ht1;have HE:=ab (fun(w':ak) (x z:Sx) (h:Bx [(y,x.ay),(W.a.j,re.ay)] W w')=>show dP (gV w' W.a.j 0 z.ay) W.a.j z.ay/\aM W.a.j W (gV w' W.a.j 0 z.ay)from
   have k:=h.swap.put (fun p hp=>by rw[fO.1 hp];exact tH hy) z.ay (by rw[Sx.J,Sx.J])
   ⟨k.Z,k.X⟩)
  have TH:=ab (fun(w':ak) (x:Sx) (h:Bx [(y,x.ay),(W.a.j,re.ay)] W w')=>show w'.S W.a.j 0 40 from h.b1.S 0 40 (by rw[Sx.J];omega));have zS:=TH.i _ _ Z5.i;have cb:=(Z5.i.Oh HR.i).asE (by omega);obtain⟨x1,x2,x3,x4⟩:=Z5.i.Z.R;have ht1:=HT1.i;have i0:(0:Int)<n:=by omega
  have i0':0<n:=by omega
  by_cases e1:¬lK l 0/16=6
  ·have q:((lK l 0:Int)/16 != 6)=true:=by rw[bne_iff_ne];omega
   have H:=ab (show yO l=(re,3)by unfold yO;rw[if_neg N40.i,if_pos e1]);go_wp2;refine aO (kSx.rb rfl _ rfl (HE.i _ _ re Z5.i).1 (Sx.J _)) rfl ?_;rw[H.i];exact⟨rfl,(HE.i _ _ re Z5.i).2⟩
  have q:((lK l 0:Int)/16 != 6)=false:=by simp;omega
  by_cases e2:n<m
  ·have q2:(n:Int)<m:=by omega
   have H:=ab (show yO l=(re,2)by unfold yO;rw[if_neg N40.i,if_neg e1,if_pos (by rw[hl.i,<-HM.i];exact e2)]);go_wp2;refine aO (kSx.rb rfl _ rfl (HE.i _ _ re Z5.i).1 (Sx.J _)) rfl ?_;rw[H.i];exact⟨rfl,(HE.i _ _ re Z5.i).2⟩
  have q2:¬(n:Int)<m:=by omega
  have H1:=ab (show yO l=wm 8 (Q8 l) ((l.E m).G 40)by unfold yO;rw[if_neg N40.i,if_neg e1,if_neg (by rw[hl.i,<-HM.i];exact e2),<-HM.i]);have RP:=ab (HR.i.XE (z:=40) (b:=m) (c:=c) (by omega) (by omega) hnc);have j1:(40:Int)<=m:=by omega
  have j2:(m:Int)<=c:=by omega
  have hy':=ab hy;clear hy;go_wp2_with fail;clear j1 j2 q q2 i0 i0' zS cb x1 x2 x3 x4 ht1;obtain⟨A0,hA0⟩:=cB (sH (some a) 40 c 1);rw[<-hA0]at RP ⊢;clear hA0;go_loopw [5] (fun s5 wr=>∃(x:Sx)(A':Option aV)(n' c':Nat)(r:List UInt8) (f:Nat),s5=.a A' n' c'/\n'<=c'/\c'<=c/\Bx [(y,x.ay),(W.a.j,re.ay)] W wr/\gG W W.a.j A' n' r/\yO l=wm f x r/\x.IJ+f=8/\0<=x.head/\x.head+2048*f<=20000)
   (fun s5 wr=>slN s5)
  case atStart=>exact⟨X1,A0,m-40,c-40,_,8,rfl,by omega,by omega,Z5.i,RP.i,by rw[HX1.i];exact H1.i,by rw[HX1.i];rfl,by rw[HX1.i];simp[Q8],by rw[HX1.i];simp[Q8]⟩
  case round=>
   obtain⟨x,A',n',c',r,f,rfl,hn',hc',hz,hr,hsx,hf,hh0,hh1⟩:=hrel;have HZ:=ab hz;have HRr:=ab hr;have HSX:=ab hsx;have hrl:=ab hr.len;obtain⟨x1,x2,x3,x4⟩:=hz.Z.R;have CE:=ab (VT x.aN wr);have GO:=ab (fun(w1:ak) (hb:aM wr.a.j wr w1)=>HZ.i.go hb);have zS:=TH.i _ _ hz;have HFn:=ab hf;have HH0:=ab hh0;have HH1:=ab hh1;clear hz hr hsx Z5 RP HX1 H1 HT1 HX0 S0 HM HT;by_cases hfr:x.mW=true
   ·have H:=ab (show yO l=(x,0)by rw[HSX.i,wo (.b hfr)])
    go_wp2;refine aO (kSx.rb rfl _ rfl (HE.i _ _ x HZ.i).1 (Sx.J _)) rfl ?_;rw[H.i];exact⟨rfl,(HE.i _ _ x HZ.i).2⟩
   have hfr:x.mW=false:=by simpa using hfr
   by_cases hex:sG x.aN=false
   ·have H:=ab (show yO l=(x,0)by rw[HSX.i,wo (.a hex)])
    go_wp2_with (go_at_call 250;with_reducible refine CE.i.g ?_;rintro e w1 ⟨rfl,hb1⟩;have Z1:=ab (GO.i w1 hb1);have t1:=TH.i _ _ Z1.i;obtain⟨y1,y2,y3,y4⟩:=Z1.i.Z.R;clear hb1);refine aO (kSx.rb rfl _ rfl (HE.i _ _ x Z1.i).1 (Sx.J _)) rfl ?_;rw[H.i];exact⟨rfl,(HE.i _ _ x Z1.i).2⟩
   have hex:sG x.aN=true:=by simpa using hex
   clear zS x1 x2 x3 x4;obtain⟨x1,x2,x3,x4⟩:=HZ.i.Z.R;rcases f with _|f
   ·have hx8:x.IJ=8:=by have:=HFn.i;simpa using this
    have H:=ab (show yO l=(re,4)by rw[HSX.i,KI hfr hex]);go_wp2_with (go_at_call 250;with_reducible refine CE.i.g ?_;rintro e w1 ⟨rfl,hb1⟩;have Z1:=ab (GO.i w1 hb1);have t1:=TH.i _ _ Z1.i;obtain⟨y1,y2,y3,y4⟩:=Z1.i.Z.R;clear hb1);refine aO (kSx.rb rfl _ rfl (HE.i _ _ re Z1.i).1 (Sx.J _)) rfl ?_;rw[H.i];exact⟨rfl,(HE.i _ _ re Z1.i).2⟩
   have hx8:(x.IJ==8)=false:=by rw[beq_eq_false_iff_ne];omega
   by_cases hs8:n'<8
   ·have q8:(n':Int)<8:=by omega
    have H:=ab (show yO l=(re,2)by rw[HSX.i,Dp hfr hex (.b (by rw[hrl.i];exact hs8))]);go_wp2_with (go_at_call 250;with_reducible refine CE.i.g ?_;rintro e w1 ⟨rfl,hb1⟩;have Z1:=ab (GO.i w1 hb1);have t1:=TH.i _ _ Z1.i;obtain⟨y1,y2,y3,y4⟩:=Z1.i.Z.R;clear hb1);refine aO (kSx.rb rfl _ rfl (HE.i _ _ re Z1.i).1 (Sx.J _)) rfl ?_;rw[H.i];exact⟨rfl,(HE.i _ _ re Z1.i).2⟩
   have q8:¬(n':Int)<8:=by omega
   have CS:=ab (fun(w1:ak) (h:Bx [(y,x.ay),(W.a.j,re.ay)] W w1)=>Q7 x.aN A' n' c' _ r w1 (by omega) (h.Oh HRr.i));obtain⟨sz,hsz⟩:=cB (mX x.aN r);have HSZ:=ab hsz;have SZ1:=ab (show 0<sz by rw[hsz];exact(QZ _ _).2 hex);have SZ2:=ab (show sz<=2048 by rw[hsz];exact aga _ _);rw[<-hsz]at CS;clear hsz;by_cases hss:n'<sz
   ·have q9:(n':Int)<sz:=by omega
    have H:=ab (show yO l=(re,2)by rw[HSX.i,Dp hfr hex (.a (by rw[hrl.i,<-HSZ.i];exact hss))]);go_wp2_with (first|(go_at_call 250;with_reducible refine CE.i.g ?_;rintro e w1 ⟨rfl,hb1⟩;have Z1:=ab (GO.i w1 hb1);have t1:=TH.i _ _ Z1.i;obtain⟨y1,y2,y3,y4⟩:=Z1.i.Z.R;clear hb1)|(go_at_call 251;with_reducible refine(CS.i _ Z1.i).g ?_;rintro e w2 ⟨rfl,rfl⟩));refine aO (kSx.rb rfl _ rfl (HE.i _ _ re Z1.i).1 (Sx.J _)) rfl ?_;rw[H.i];exact⟨rfl,(HE.i _ _ re Z1.i).2⟩
   have q9:¬(n':Int)<sz:=by omega
   have H:=ab (show yO l=wm f ⟨x.head+sz,x.bR,x.II,decide (x.aN=44)&&EI r,x.IJ+1,(lK r 0:Nat),x.h,x.dst⟩ (r.G sz)by
    rw[HSX.i,FP hfr hex (by rw[hrl.i,<-HSZ.i];rintro(h|h);exact hs8 h;exact hss h),<-HSZ.i])
   have wh:bT.wrap (x.head+sz)=x.head+sz:=jY _ (by have:=SZ2.i;omega);have we:bT.wrap (x.IJ+1)=x.IJ+1:=jY _ (by omega);have wb:bT.wrap ((lK r 0:Nat):Int)=((lK r 0:Nat):Int):=jY _ (by have:=vY r 0;omega);obtain⟨a',rfl,hab'⟩:=HRr.i.ahT (show 0<n' by omega);have hne1:a'.block≠y:=by have:=hy'.i;omega
   have hne2:∀o,¬(⟨y,o,none⟩:aV)=a':=fun o e=>hne1 (by rw[<-e])
   have aJ2:∀o,¬a'=(⟨y,o,none⟩:aV):=fun o e=>hne1 (by rw[e])
   have ip:(0:Int)<n':=by omega
   have ip':0<n':=by omega
   have is2:(sz:Int)<=n':=by omega
   have BY:=ab (fun(w1:ak) (h:Bx [(y,x.ay),(W.a.j,re.ay)] W w1)=>(h.Oh HRr.i).asE ip');have ZE:=ab (fun(w':ak) (fr:Bool) (p h e:Int) (hz:Bx [(y,x.ay),(W.a.j,re.ay)] W w')=>show Bx [(y,(Sx.mk h x.bR x.II fr e p x.h x.dst).ay),(W.a.j,re.ay)] W ((((w'.I ⟨y,3,none⟩ (.e fr)).I ⟨y,5,none⟩ (.b .a p)).I ⟨y,0,none⟩ (.b .a h)).I ⟨y,4,none⟩ (.b .a e))by
    have:=(((hz.set hne.i 3 (.e fr)).set hne.i 5 (.b .a p)).set hne.i 0 (.b .a h)).set hne.i 4 (.b .a e);rw[Sx.amR,Sx.YP,Sx.NZ,Sx.amS]at this;exact this)
   by_cases p44:x.aN=44
   ·have C2:=ab (fun(w1:ak) (h:Bx [(y,x.ay),(W.a.j,re.ay)] W w1)=>amX w1 _ n' c' r 2 2 rfl (by omega) hn' (by omega) (h.Oh HRr.i))
    have hpt:=am1 r;have aD2:(x.aN==44)=true:=by simp[p44]
    have aD3:=ab p44;clear p44;obtain⟨fr,hfr2⟩:=cB (EI r);rw[<-hfr2]at hpt;have HF2:=ab hfr2;clear hfr2;go_wp2_with (first|(go_at_call 250;with_reducible refine CE.i.g ?_;rintro e w1 ⟨rfl,hb1⟩;have Z1:=ab (GO.i w1 hb1);have t1:=TH.i _ _ Z1.i;obtain⟨y1,y2,y3,y4⟩:=Z1.i.Z.R;clear hb1)|(go_at_call 251;with_reducible refine(CS.i _ Z1.i).g ?_;rintro e w2 ⟨rfl,rfl⟩)|(go_at_call 249;with_reducible refine(C2.i _ Z1.i).g ?_;rintro e w3 ⟨rfl,hb3⟩;have Z3:=ab (Z1.i.go hb3);obtain⟨z1,z2,z3,z4⟩:=Z3.i.Z.R;have bz:=BY.i _ Z3.i;clear hb3));refine⟨⟨⟨x.head+sz,x.bR,x.II,fr,x.IJ+1,(lK r 0:Nat),x.h,x.dst⟩,sH (some a') sz c' 1,n'-sz,c'-sz,r.G sz,f,rfl,by omega,by omega,ZE.i _ _ _ _ _ Z3.i,HRr.i.yt (by omega) hn',?_,?_,?_,?_⟩,?_⟩
    ·rw[H.i,HF2.i];simp[aD3.i]
    ·have:=HFn.i;simp only;omega
    ·have:=HH0.i;simp only;omega
    ·have:=HH1.i;have:=SZ2.i;simp only;omega
    ·have:=SZ1.i;simp only[slN];omega
   ·have aD2:(x.aN==44)=false:=by simp[p44]
    go_wp2_with (first|(go_at_call 250;with_reducible refine CE.i.g ?_;rintro e w1 ⟨rfl,hb1⟩;have Z1:=ab (GO.i w1 hb1);have t1:=TH.i _ _ Z1.i;obtain⟨y1,y2,y3,y4⟩:=Z1.i.Z.R;have bz:=BY.i _ Z1.i;clear hb1)|(go_at_call 251;with_reducible refine(CS.i _ Z1.i).g ?_;rintro e w2 ⟨rfl,rfl⟩));refine⟨⟨⟨x.head+sz,x.bR,x.II,false,x.IJ+1,(lK r 0:Nat),x.h,x.dst⟩,sH (some a') sz c' 1,n'-sz,c'-sz,r.G sz,f,rfl,by omega,by omega,ZE.i _ _ _ _ _ Z1.i,HRr.i.yt (by omega) hn',?_,?_,?_,?_⟩,?_⟩
    ·rw[H.i];simp[p44]
    ·have:=HFn.i;simp only;omega
    ·have:=HH0.i;simp only;omega
    ·have:=HH1.i;have:=SZ2.i;simp only;omega
    ·have:=SZ1.i;simp only[slN];omega
end
theorem Ol(W:ak)(A:Option aV)(n c:Nat)(l:List UInt8)(hnc:n<=c)(hc:c<=9223372036854775807/\n<=1000000000)(hr:gG W W.a.j A n l):aR ah 91 #[.a A n c] W (LkP W (iV l)):=by
 have HR:=ab hr;have hl:=ab hr.len;have b0:=ab (dP.new W qG.ay 108);have B0:=ab ((aG W.a.j W).alloc (av _) (.D qG.ay 108));have HR0:=ab ((hr.Y B0.i).lD B0.i.j:gG (W.alloc (.D qG.ay 108)) (W.alloc (.D qG.ay 108)).a.j A n l);clear hr;go_enter Tryz.func91,Tryz.ntmps91;by_cases h14:n<14
 ·have aD4:(n:Int)<14:=by omega
  have H:=ab (show iV l=(FK,2)by unfold iV;rw[if_pos (by rw[hl.i];exact h14)]);go_wp2;refine aO (kLc.rb rfl _ rfl b0.i (Lc.J _)) rfl ?_;rw[H.i];exact⟨none,0,rfl,iT.nil _ _,B0.i⟩
 have aD4:¬(n:Int)<14:=by omega
 have i1:(12:Int)<=c:=by omega
 obtain⟨w1,hw1⟩:=cB (W.alloc (.D qG.ay 108));have PC:=HR0.i.QW (z:=12) (b:=n) (c:=c) (by omega) (by omega) (by omega);rw[if_neg (by omega),show(fun x:aV=>x.add 12)=fun x=>⟨x.block,x.off+12,none⟩from funext fun x=>by simp[rU]]at PC;have C1:=ab (JG _ _ (n-12) (c-12) _ (by omega) (by omega) (by omega) PC);rw[show dF ((l.G 12).E (n-12)) 0=dF l 12 by rw[<-hl.i,<-fZ,List.take_length];simp[dF,au]]at C1;clear PC;go_upto_region 4 with(go_at_call 173;with_reducible refine C1.i.g ?_;rintro e w2 ⟨rfl,hb2⟩)
 have d0:=ab (b0.i.Y hb2 b0.i.lt);have B2:=ab (show aM W.a.j W w2 from B0.i.trans (hb2.g B0.i.j));have hs2:W.a.j<w2.a.j:=by have:=hb2.j;simp at this;omega
 clear hb2 C1 HR0 B0 b0 hw1;obtain⟨X0,hX0⟩:∃X:Lc,X=Lc.mk (bG 6 0) (bG 6 0) none 0 0 (dF l 12:Nat) 14:=⟨_,rfl⟩
 have Z3:=ab (show Rz Tg.ay 2 268 [(w2.a.j,X0.ay),(W.a.j,qG.ay)] W (w2.alloc (.D X0.ay 108)) (.a none 0 0) []from
  Rz.new ⟨fQ _ _ _ _,B2.i,fun p hp=>by rw[fO.1 hp];exact⟨d0.i,by simp[Value.ownBlock]⟩⟩ X0.ay _)
 rw[<-hX0];generalize hw3:w2.alloc (.D X0.ay 108)=w3 at Z3 ⊢;generalize w2.a.j=y at *;clear hw3 d0 B2;have R3:=ab ((HR.i.Y Z3.i.X).lD Z3.i.X.j:gG w3 w3.a.j A n l);have cp1:∀ty,(qZ #[56,56] ty #[.a (some ⟨y,0,none⟩) 6 6,.a A n c]).O ah w3=.ok (goInt 6) (gV w3 y 0 (Bp (lZ 6 l))):=fun ty=>by
  have:=FL (c:=c) (d:=6) w3 R3.i (m:=6) (by omega) (by omega) (Z3.i.Z.S 0 6 (by rw[Lc.J];omega)) 56 ty 5 dD amD;rw[Oe 6 l (by rw[hl.i];omega)]at this;exact this
 have hne:∀p∈[(W.a.j,qG.ay)],p.1≠y:=fun p hp=>by rw[fO.1 hp];exact iO hs2
 have Z4:=ab ((Z3.i.auJ (nE hs2) hne 0 (Bp (lZ 6 l))).drew);rw[Lc.aa']at Z4;go_upto_region 5 with fail
 have R4:=ab ((HR.i.Y Z4.i.X).lD Z4.i.X.j:gG (gV w3 y 0 (Bp (lZ 6 l))).drew (gV w3 y 0 (Bp (lZ 6 l))).drew.a.j A n l);have cp2:∀ty,(qZ #[56,56] ty #[.a (some ⟨y,6,none⟩) 6 6,.a (Option.map (fun x=>⟨x.block,x.off+6,none⟩) A) (n-6) (c-6)]).O ah (gV w3 y 0 (Bp (lZ 6 l))).drew=.ok (goInt 6) (gV (gV w3 y 0 (Bp (lZ 6 l))).drew y 6 (Bp (lZ 6 (l.G 6)))):=fun ty=>by
  have P:=R4.i.QW (z:=6) (b:=n) (c:=c) (by omega) (by omega) (by omega);rw[if_neg (by omega),show(fun x:aV=>x.add 6)=fun x=>⟨x.block,x.off+6,none⟩from funext fun x=>by simp[rU]]at P;rw[aK (by simp;have:=hl.i;omega)]at P;have:=FL (c:=c-6) (d:=6) _ P (m:=6) (by omega) (by omega) (Z4.i.Z.S 6 6 (by rw[Lc.J];omega)) 56 ty 5 dD amD;rw[Oe 6 _ (by simp;have:=hl.i;omega)]at this;exact this
 have i6:(6:Int)<=c:=by omega
 go_region;have Z5:=ab (Z4.i.auJ (nE hs2) hne 6 (Bp (lZ 6 (l.G 6))));rw[Lc.abb,hX0]at Z5;simp only at Z5;clear Z3 Z4 R3 R4 cp1 cp2 i6 hX0;generalize gV (gV w3 y 0 (Bp (lZ 6 l))).drew y 6 (Bp (lZ 6 (l.G 6)))=w5 at Z5 ⊢;go_wp2_with fail;go_loopw [] (fun wr=>∃(dM:List Tg)(A':Option aV)(c' k:Nat),dM.a<=2/\14<=k/\k<=n/\Rz Tg.ay 2 268 [(y,(Lc.mk (lZ 6 l) (lZ 6 (l.G 6)) A' dM.a c' (dF l (k-2):Nat) k).ay),(W.a.j,qG.ay)] W wr (.a A' dM.a c') dM/\iV l=rF l (2-dM.a) k dM)
  (fun wr=>n-(intOf ((wr.b ⟨y,14,none⟩).b undef)).e)
 case atStart=>exact⟨[],none,0,14,by simp,by omega,by omega,Z5.i,by unfold iV;rw[if_neg (by rw[hl.i];exact h14)];rfl⟩
 case round=>
  obtain⟨dM,A',c',k,ht2,aJ5,hkn,hz,hlk⟩:=hrel;have HZ:=ab hz;have HK:=ab hlk;have HT:=ab (fun W=>aa9 W (dF l (k-2):Nat));have T0:=HZ.i.Z;obtain⟨x1,x2,x3,x4⟩:=T0.R;have hWy:W.a.j≠y:=iO hs2;have hA:=ab (fun(x:Lc)=>HZ.i.ans (x:=x.ay) (av _) hWy (by rw[Lc.J,Lc.J]));have zS:=HZ.i.b1.S 0 15 (by rw[Lc.J];omega);clear hz hlk T0 Z5;cases htag:oC (dF l (k-2):Nat)
  ·rw[htag]at HT
   have H:=ab (show iV l=(⟨lZ 6 l,lZ 6 (l.G 6),dM,(dF l (k-2):Nat),k⟩,0)by rw[HK.i,ny htag]);go_wp2_with (go_at_call 174;with_reducible refine(HT.i _).g ?_;rintro e w' ⟨rfl,rfl⟩);have hz2:=hA.i (Lc.mk (lZ 6 l) (lZ 6 (l.G 6)) A' dM.a c' (dF l (k-2):Nat) k);refine aO (kLc.rb rfl _ rfl hz2.Z (Lc.J _)) rfl ?_;rw[H.i];exact⟨A',c',rfl,hz2.rd,hz2.X⟩
  rw[htag]at HT;by_cases h2:dM.a=2
  ·have h2':((dM.a:Int)==2)=true:=by rw[h2];rfl
   have H:=ab (show iV l=(FK,4)by rw[HK.i,h2];exact wL htag);go_wp2_with (go_at_call 174;with_reducible refine(HT.i _).g ?_;rintro e w' ⟨rfl,rfl⟩);have hz2:=hA.i qG;refine aO (kLc.rb rfl _ rfl hz2.Z (Lc.J _)) rfl ?_;rw[H.i];exact⟨none,0,rfl,iT.nil _ _,hz2.X⟩
  have h2':((dM.a:Int)==2)=false:=by rw[beq_eq_false_iff_ne];omega
  by_cases h4:n<k+4
  ·have h4':(n:Int)<(k:Int)+4:=by omega
   have H:=ab (show iV l=(FK,2)by rw[HK.i,show 2-dM.a=(1-dM.a)+1 by omega];exact sU htag (by rw[hl.i];exact h4));go_wp2_with (go_at_call 174;with_reducible refine(HT.i _).g ?_;rintro e w' ⟨rfl,rfl⟩);have hz2:=hA.i qG;refine aO (kLc.rb rfl _ rfl hz2.Z (Lc.J _)) rfl ?_;rw[H.i];exact⟨none,0,rfl,iT.nil _ _,hz2.X⟩
  have h4':¬(n:Int)<(k:Int)+4:=by omega
  have H:=ab (show iV l=rF l (2-(dM.a+1)) (k+4) (dM++[⟨(dF l (k-2):Nat),(dF l k:Nat)⟩])by rw[HK.i,show 2-dM.a=(2-(dM.a+1))+1 by omega];exact sj htag (by rw[hl.i];exact h4));go_upto_region 11 with(go_at_call 174;with_reducible refine(HT.i _).g ?_;rintro e w' ⟨rfl,rfl⟩)
  obtain⟨vr,hvr⟩:∃v,v=wr:=⟨_,rfl⟩
  rw[<-hvr]at HZ x1 x2 x3 x4 ⊢;have HV:=ab hvr;clear hA zS HT h2' h4' HK hvr;obtain⟨X,hX⟩:∃X:Lc,X=Lc.mk (lZ 6 l) (lZ 6 (l.G 6)) A' dM.a c' (dF l (k-2):Nat) k:=⟨_,rfl⟩
  have hi4:(k:Int)<=c:=by omega
  have hck:¬c=k:=by omega
  have PC:=(((HR.i.Y HZ.i.X).lD HZ.i.X.j:gG vr vr.a.j A n l)).QW (z:=k) (b:=n) (c:=c) (by omega) (by omega) (by omega);rw[if_neg (by omega),aK (by simp;have:=hl.i;omega)]at PC;have PD:=ab PC;have C2:=ab (JG vr.drew _ (n-k) (c-k) _ (by omega) (by omega) (by omega) PC);rw[show dF (l.G k) 0=dF l k by simp[dF,au]]at C2;have KG:=ab (fun(W':ak) (h:dP W' y X.ay)=>show W'.b ⟨y,12,none⟩=some (.a A' dM.a c')/\W'.b ⟨y,13,none⟩=some (.b .a (dF l (k-2):Nat))/\W'.b ⟨y,14,none⟩=some (.b .a k)by
   rw[hX]at h;exact⟨(h.R.1 12).trans (Lc.aa6 _),(h.R.1 13).trans (Lc.EH _),(h.R.1 14).trans (Lc.Mw _)⟩)
  rw[<-hX]at HZ;have ZG:=ab (fun(wa:ak) (h:aM vr.drew.a.j vr.drew wa)=>HZ.i.drew.go h);have HGL:=ab (show dM.a+1<=1000000 by omega);obtain⟨k1,k2,k3⟩:=KG.i vr.drew HZ.i.drew.Z;clear PC;go_cut []from 37 to 49 (fun wx=>∃A5 c5,Rz Tg.ay 2 268 [(y,(Lc.mk (lZ 6 l) (lZ 6 (l.G 6)) A5 (dM.a+1) c5 (dF l (k-2):Nat) k).ay),(W.a.j,qG.ay)] W wx (.a A5 (dM.a+1) c5) (dM++[⟨(dF l (k-2):Nat),(dF l k:Nat)⟩]))
  case first=>
   go_region_law (first|(refine auK (o:=⟨some 45,_,_,_,_,_⟩) rfl ?_;go_simp;go_at_call 173;(with_reducible refine C2.i.g ?_);rintro e wa ⟨rfl,hba⟩;have Za:=ab (ZG.i wa hba);have ka:=KG.i wa Za.i.Z;have Zb:=ab (Za.i.alloc (.D (Tg.mk (dF l (k-2):Nat) (dF l k:Nat)).ay 268));have kb:=KG.i _ Zb.i.Z;have RO:=ab (iT.one (f:=Tg.ay) (Tg.mk (dF l (k-2):Nat) (dF l k:Nat)) Tg.J wa 268);clear hba)|(refine auL (o:=⟨some 48,_,_,_,_,_⟩) aqo rfl (.tmp 38) (.tmp 47) rfl (.a A' dM.a c') (some ⟨wa.a.j,0,none⟩) 1 1 (by kernel_rfl) Zb.i (by kernel_rfl) RO.i HGL.i ?_;intro A5 n5 c5 w5 h5 h6;have Z5:=ab h5;have k5:=(h5.Z.R.1 12).trans (Lc.aa6 _);have f5:=h5.Z.R.2.1 12;clear h5 h6))
   all_goals
    have Z6:=ab (Z5.i.amY (nE hs2) hne 12 (.a A5 n5 c5));rw[Lc.amU]at Z6;obtain rfl:n5=dM.a+1:=by have:=Z5.i.len;simpa using this
    rw[hX]at Z6;clear Z5 k5 f5 k1 k2 k3 ka kb;go_wp2_with fail;go_meet
    case rel=>exact⟨A5,c5,Z6.i⟩
  obtain⟨A5,c5,Z6⟩:=hcut;have Z6:=ab Z6;generalize wc=w6 at Z6 ⊢;obtain⟨x1,x2,x3,x4⟩:=Z6.i.Z.R;obtain⟨m,hm⟩:=cB (k+2);have PC:=(((HR.i.Y Z6.i.X).lD Z6.i.X.j:gG w6 w6.a.j A n l)).QW (z:=m) (b:=n) (c:=c) (by omega) (by omega) (by omega);rw[if_neg (by omega),aK (by simp;have:=hl.i;omega)]at PC;have C3:=ab (JG w6 _ (n-m) (c-m) _ (by omega) (by omega) (by omega) PC);rw[show dF (l.G m) 0=dF l m by simp[dF,au,Nat.add_assoc]]at C3;have hi2:(m:Int)<=c:=by omega
  have aJ6:¬c=m:=by omega
  have hm2:(k:Int)+2=m:=by omega
  have HM:=ab hm;have HX:=ab hX;clear PC C2 PD KG ZG hX k1 k2 k3 hm;go_wp2_with (go_at_call 173;with_reducible refine C3.i.g ?_;rintro e w7 ⟨rfl,hb7⟩;have Z7:=ab (Z6.i.go hb7);have k7:=(Z7.i.Z.R.1 13).trans (Lc.EH _);have f7:=Z7.i.Z.R.2.1;have k8:=(Z7.i.Z.R.1 14).trans (Lc.Mw _);clear hb7);have Z8:=ab ((Z7.i.amY (nE hs2) hne 13 (.b .a (dF l m:Nat))));rw[Lc.Ue]at Z8;have Z9:=ab (Z8.i.amY (nE hs2) hne 14 (.b .a ((k:Int)+4)));rw[Lc.aqn]at Z9;have q1:=(Z9.i.Z.R.1 14).trans (Lc.Mw _);have q2:=(HZ.i.Z.R.1 14)
  rw[HX.i,HV.i]at q2;have q2:=q2.trans (Lc.Mw _);simp only at q1 q2;refine⟨?_,?_⟩
  ·refine⟨dM++[⟨(dF l (k-2):Nat),(dF l k:Nat)⟩],A5,c5,k+4,by simp;omega,by omega,by omega,?_,by rw[H.i];simp⟩
   obtain rfl:=HM.i;simpa using Z9.i
  ·rw[q1,q2]
   simp[intOf]<;>omega
section
attribute [local go_sem high] iR jI
def Pf(k:Int)(l:List UInt8):Nt×Int:=if k=2048 then(⟨(wV l).1.head,(wV l).1.bR,(wV l).1.aN,(wV l).1.mW,(wV l).1.h,(wV l).1.dst⟩,(wV l).2)
 else(⟨(yO l).1.head,(yO l).1.bR,(yO l).1.aN,(yO l).1.mW,(yO l).1.h,(yO l).1.dst⟩,(yO l).2)
def yJ(k:Int):Pk:=⟨k,afb,0,0,0,0⟩
def jO(l:List UInt8):Nt×Int:=Pf (iV l).1.mP (l.G (iV l).1.dW)
def Bu(l:List UInt8):Pt×Int:=FM (jO l).1.aN ((l.E ((iV l).1.dW+(jO l).1.bR.e)).G ((iV l).1.dW+(jO l).1.head.e))
def lW(l:List UInt8):Pk:=
 if(iV l).2≠0 then yJ 1 else if(iV l).1.mP≠2048/\(iV l).1.mP≠34525 then yJ 2 else if(jO l).2≠0 then yJ 3 else if(jO l).1.mW=true then yJ 4
 else if(jO l).1.aN≠6/\(jO l).1.aN≠17 then yJ 5 else if(Bu l).2≠0 then yJ 6
 else⟨0,⟨(jO l).1.h,(jO l).1.dst,(jO l).1.aN,(Bu l).1.kg,(Bu l).1.iG⟩,(Bu l).1.sW,(iV l).1.dW,(iV l).1.dW+(jO l).1.head,(iV l).1.dW+(jO l).1.bR⟩
theorem ahU{l:List UInt8}:∀(m k:Nat)(dM:List Tg),14<=k->k<=l.a->(rF l m k dM).2=0->14<=(rF l m k dM).1.dW/\(rF l m k dM).1.dW<=l.a
 | 0,k,dM,h1,h2,h=>by
   cases ht:oC (dF l (k-2):Nat)with
   | false=>rw[ny ht]at h⊢;exact⟨h1,h2⟩
   | true=>rw[wL ht]at h;cases h
 | m+1,k,dM,h1,h2,h=>by
   cases ht:oC (dF l (k-2):Nat)with
   | false=>rw[ny ht]at h⊢;exact⟨h1,h2⟩
   | true=>
     by_cases h4:l.a<k+4
     ·rw[sU ht h4]at h;cases h
     ·rw[sj ht h4]at h⊢;exact ahU m (k+4) _ (by omega) (by omega) h
theorem JJ{l:List UInt8}(h:(iV l).2=0):14<=(iV l).1.dW/\(iV l).1.dW<=l.a:=by
 unfold iV at h ⊢;split at h
 ·cases h
 ·rename_i hl;rw[if_neg hl];exact ahU 2 14 [] (by omega) (by omega) h
theorem agc{l:List UInt8}(h:(wV l).2=0):20<=(wV l).1.head/\(wV l).1.head<=(wV l).1.bR/\(wV l).1.bR<=l.a:=by
 unfold wV at h ⊢;split at h
 ·rename_i he
  rw[if_pos he];unfold wU at he;simp only[vZ]
  repeat(first|(split at he;(first|(cases he;done)|skip))|(exact absurd he (by decide)))
  all_goals(first|omega|(simp at he;done))
 ·exact absurd h ‹_›
theorem abh(f:Nat):∀(x:Sx)(r:List UInt8),40<=x.head->x.head+r.a=x.bR->(wm f x r).2=0->40<=(wm f x r).1.head/\(wm f x r).1.head<=(wm f x r).1.bR/\(wm f x r).1.bR=x.bR:=by
 induction f with
 | zero=>
   intro x r h1 h2 h;by_cases hx:x.mW=true\/sG x.aN=false
   ·rw[wo hx]at h⊢;exact⟨h1,by simp only;omega,rfl⟩
   ·have hf:x.mW=false:=by simpa using fun e=>hx (.b e)
    have he:sG x.aN=true:=by simpa using fun e=>hx (.a e)
    rw[KI hf he]at h;cases h
 | succ f ih=>
   intro x r h1 h2 h;by_cases hx:x.mW=true\/sG x.aN=false
   ·rw[wo hx]at h⊢;exact⟨h1,by simp only;omega,rfl⟩
   ·have hf:x.mW=false:=by simpa using fun e=>hx (.b e)
    have he:sG x.aN=true:=by simpa using fun e=>hx (.a e)
    by_cases hs:r.a<8\/r.a<mX x.aN r
    ·rw[Dp hf he hs]at h;cases h
    ·rw[FP hf he hs]at h ⊢
     exact ih ⟨x.head+mX x.aN r,x.bR,x.II,decide (x.aN=44)&&EI r,x.IJ+1,(lK r 0:Nat),x.h,x.dst⟩ (r.G (mX x.aN r)) (by simp only;omega) (by simp only[fZ];omega) h
theorem abj{l:List UInt8}(h:(yO l).2=0):40<=(yO l).1.head/\(yO l).1.head<=(yO l).1.bR/\(yO l).1.bR<=l.a:=by
 unfold yO at h ⊢;split at h
 ·cases h
 ·rename_i h1
  rw[if_neg h1];split at h
  ·cases h
  ·rename_i h2
   rw[if_neg h2];split at h
   ·cases h
   ·rename_i h3
    rw[if_neg h3];obtain⟨e1,e2,e3⟩:=abh 8 (Q8 l) _ (by simp[Q8]) (by simp[Q8];omega) h;refine⟨e1,e2,?_⟩;rw[e3];simp only[Q8];omega
theorem abk{k:Int}{l:List UInt8}(h:(Pf k l).2=0):20<=(Pf k l).1.head/\(Pf k l).1.head<=(Pf k l).1.bR/\(Pf k l).1.bR<=l.a:=by
 unfold Pf at h ⊢;split at h
 ·rename_i hk;rw[if_pos hk];exact agc h
 ·rename_i hk;rw[if_neg hk];have:=abj h;simp only;omega
@[go_sem ↓]theorem aJ7(ps:Array (Nat×aB)):fU 81 ps=vK 81 ps:=rfl
theorem aD7(w:ak)(fs:Array oz)(h:ah.k 81=some (.d fs)):(iI (fun f=>Prod.mk f.offset <$> sizeOf f.p) fs:yA (Array (Nat×Nat))).O ah w=.ok #[(0,17),(17,17),(34,1),(35,1),(36,1)] w:=by
 have e:=jN;rw[h]at e;cases e;show _=_
 kernel_rfl
theorem Tu.abf(x:Tu)(t:fD):tC x.ay 0 t.ay=({x with h:=t}:Tu).ay:=by unfold Tu.ay;exact GZ (by rw[fD.J,fD.J])
theorem Tu.KJ(x:Tu)(t:fD):tC x.ay 17 t.ay=({x with dst:=t}:Tu).ay:=by unfold Tu.ay;exact qH (by rw[fD.J,fD.J]) 17 (fD.J _)
@[go_sem]theorem aD8(W:ak)(s t:fD)(p a b:Int):(vK 81 #[(0,.d s.ay),(1,.d t.ay),(2,.b .a p),(3,.b .a a),(4,.b .a b)]).O ah W=.ok (.d (Tu.mk s t p a b).ay) W:=kTu.bd W _ _ _ _ jN (aD7 W _ jN) (by
 refine(uf rfl (fD.J _) (by rw[Tu.J];omega) (Tu.abf _ _)).trans ?_;refine(uf rfl (fD.J _) (by rw[Tu.J];omega) (Tu.KJ _ _)).trans ?_;refine(iE rfl rfl (by rw[Tu.J];omega) (Tu.aye _ _)).trans ?_;refine(iE rfl rfl (by rw[Tu.J];omega) (Tu.ayf _ _)).trans ?_;refine(iE rfl rfl (by rw[Tu.J];omega) (Tu.asn _ _)).trans ?_;rfl)
theorem Pk.FQ(x:Pk)(v:Int):x.ay.c 0 (.b .a v)=({x with kind:=v}:Pk).ay:=by simp[Pk.ay,aL,Tu.J]
theorem Pk.Ql(x:Pk)(v:Int):x.ay.c 38 (.b .a v)=({x with sW:=v}:Pk).ay:=by simp[Pk.ay,aL,Tu.J]
theorem Pk.aqx(x:Pk)(v:Int):x.ay.c 39 (.b .a v)=({x with h:=v}:Pk).ay:=by simp[Pk.ay,aL,Tu.J]
theorem Pk.aqy(x:Pk)(v:Int):x.ay.c 40 (.b .a v)=({x with ru:=v}:Pk).ay:=by simp[Pk.ay,aL,Tu.J]
theorem Pk.am3(x:Pk)(v:Int):x.ay.c 41 (.b .a v)=({x with rE:=v}:Pk).ay:=by simp[Pk.ay,aL,Tu.J]
theorem Pk.ajI(x:Pk)(t:Tu):tC x.ay 1 t.ay=({x with K:=t}:Pk).ay:=by unfold Pk.ay;exact qH (by rw[Tu.J,Tu.J]) 1 rfl
@[go_sem]theorem aD9(W:ak)(k:Int):(vK 83 #[(0,.b .a k)]).O ah W=.ok (.d (yJ k).ay) W:=kPk.bd W _ _ _ _ qN (ayK W _ qN) (by
 refine(iE rfl rfl (by rw[Pk.J];omega) (Pk.FQ _ _)).trans ?_;rfl)
@[go_sem]theorem aD'(W:ak)(t:Tu)(a b c d:Int):(vK 83 #[(1,.d t.ay),(2,.b .a a),(3,.b .a b),(4,.b .a c),(5,.b .a d)]).O ah W=.ok (.d (Pk.mk 0 t a b c d).ay) W:=kPk.bd W _ _ _ _ qN (ayK W _ qN) (by
 refine(uf rfl (Tu.J _) (by rw[Pk.J];omega) (Pk.ajI _ _)).trans ?_;refine(iE rfl rfl (by rw[Pk.J];omega) (Pk.Ql _ _)).trans ?_;refine(iE rfl rfl (by rw[Pk.J];omega) (Pk.aqx _ _)).trans ?_;refine(iE rfl rfl (by rw[Pk.J];omega) (Pk.aqy _ _)).trans ?_;refine(iE rfl rfl (by rw[Pk.J];omega) (Pk.am3 _ _)).trans ?_;rfl)
theorem adL(p:Int)(W:ak):aR ah 94 #[.b .a p] W fun e W'=>e=.a (.e (decide (p=6)||decide (p=17)))/\W=W':=by
 go_enter Tryz.func94,Tryz.ntmps94;by_cases h:p=6
 ·have q:(p==6)=true:=by simp[h]
  go_wp2;go_ret;exact⟨by simp[h],rfl⟩
 ·have q:(p==6)=false:=by simp[h]
  go_wp2;go_ret;exact⟨by simp[h];rw[dG];simp,rfl⟩
def adM(k:Int):aB:=.iface 162 (.b .a k)
theorem aqz(k:Int)(W:ak):aR ah 92 #[.e true,.b .a k] W fun e W'=>e=.a (.K #[])/\W=W':=by
 go_enter Tryz.func92,Tryz.ntmps92;go_wp2;go_end0;exact⟨rfl,rfl⟩
theorem aqA(k:Int)(W:ak):aR ah 92 #[.e false,.b .a k] W fun e W'=>e=.panicked [{v:=adM k,recovered:=false}]/\W=W':=by
 go_enter Tryz.func92,Tryz.ntmps92;go_wp2;exact⟨rfl,rfl,rfl⟩
theorem agd(W:ak)(k:Int)(A:Option aV)(n c:Nat)(l:List UInt8)(hnc:n<=c)(hc:c<=9223372036854775807/\n<=1000000000)(hr:gG W W.a.j A n l):aR ah 93 #[.b .a k,.a A n c] W (gY W (.K #[.d (Pf k l).1.ay,.b .a (Pf k l).2])):=by
 have b0:=ab ((Bx.start W).new aa5.ay 168);have R0:=b0.i.Oh hr;have C4:=ab (Og _ A n c l hnc hc R0);have C6:=ab (Ra _ A n c l hnc hc R0);clear R0 hr;have hne:∀(w:ak),W.a.j<w.a.j->∀p∈[(w.a.j,(#[]:Array aB))],True:=fun _ _ _ _=>trivial
 go_enter Tryz.func93,Tryz.ntmps93;by_cases hk:k=2048
 ·have q:(k==2048)=true:=by simp[hk]
  have H:=ab (show Pf k l=(⟨(wV l).1.head,(wV l).1.bR,(wV l).1.aN,(wV l).1.mW,(wV l).1.h,(wV l).1.dst⟩,(wV l).2)by unfold Pf;rw[if_pos hk]);obtain⟨x,hx⟩:=cB ((wV l));obtain⟨x,er⟩:=x;rw[<-hx]at H;unfold FoP at C4;rw[<-hx]at C4;clear hx hk;go_wp2_with (go_at_call 175;with_reducible refine C4.i.g ?_;rintro e w1 ⟨rfl,hb1⟩;have Z1:=ab (b0.i.go hb1);have Z2:=ab (Z1.i.new x.ay 192);obtain⟨y1,y2,y3,y4⟩:=Z2.i.Z.R;have zS:=Z2.i.b1.S 0 38 (aU (Nt.J aa5).symm);clear hb1);have Z3:=ab (Z2.i.swap.put (fun p hp=>by rw[fO.1 hp];exact tH Z1.i.Z.lt) (Nt.mk x.head x.bR x.aN x.mW x.h x.dst).ay (by rw[Nt.J,Nt.J]));refine aO (kNt.rb rfl _ rfl Z3.i.Z (Nt.J _)) rfl ?_;rw[H.i];exact⟨rfl,Z3.i.X⟩
 ·have q:(k==2048)=false:=by simp[hk]
  have H:=ab (show Pf k l=(⟨(yO l).1.head,(yO l).1.bR,(yO l).1.aN,(yO l).1.mW,(yO l).1.h,(yO l).1.dst⟩,(yO l).2)by unfold Pf;rw[if_neg hk]);obtain⟨x,hx⟩:=cB ((yO l));obtain⟨x,er⟩:=x;rw[<-hx]at H;unfold SxP at C6;rw[<-hx]at C6;clear hx hk;go_wp2_with (go_at_call 176;with_reducible refine C6.i.g ?_;rintro e w1 ⟨rfl,hb1⟩;have Z1:=ab (b0.i.go hb1);have Z2:=ab (Z1.i.new x.ay 189);obtain⟨y1,y2,y3,y4⟩:=Z2.i.Z.R;have zS:=Z2.i.b1.S 0 38 (aU (Nt.J aa5).symm);clear hb1);have Z3:=ab (Z2.i.swap.put (fun p hp=>by rw[fO.1 hp];exact tH Z1.i.Z.lt) (Nt.mk x.head x.bR x.aN x.mW x.h x.dst).ay (by rw[Nt.J,Nt.J]));refine aO (kNt.rb rfl _ rfl Z3.i.Z (Nt.J _)) rfl ?_;rw[H.i];exact⟨rfl,Z3.i.X⟩
theorem VZ{P:fB}{t:bL}{ik:IntKind}(hu:P.k t=some (.b ik))(v:aB)(xT:bL)(w:ak):(Ib (.iface t v) xT t true).O P w=.ok (.K #[v,.e true]) w:=by
 simp[Ib,dK hu]
theorem SI(q:Nat)(k:Int)(mo:List PanicEntry)(w:ak)(hth:w.S q 0 42):
 CallsD ah 90 #[.c (some ⟨q,0,none⟩)] (.panicking ({v:=adM k,recovered:=false}::mo)) w fun e u' w'=>
  e=.a (.K #[])/\u'=.panicking ({v:=adM k,recovered:=true}::mo)/\w'=gV w q 0 (yJ k).ay:=by
 refine callsD_of_wpS Tryz.func90 rfl fun c₀ cs hu=>?_
 simp only[I5,dN,bl,gU,Nat.reduceAdd,Nat.reduceSub,Array.replicate_succ,Array.replicate_zero,List.push_toArray,List.append_toArray,List.nil_append,List.cons_append];apply I6;apply DF;simp[wpOpsS,go_sem,recoverD,hu,I5,Exit.thenS];apply I6;apply DF;simp[wpOpsS,go_sem,recoverD,hu,I5,Exit.thenS,adM];refine wpS_cond (t:=true) (by simp[Act.eval,nU]) ?_;simp only[if_true];refine wpS_of_wp ?_;have hty:=fun v xT w=>VZ (P:=ah) Tryz.underlying162 v xT w
 have aJ8:=hth;go_wp2;exact⟨rfl,_,rfl,_,results_none rfl _ _ _,rfl,rfl,rfl⟩
theorem agf(q:Nat)(w:ak):
 CallsD ah 90 #[.c (some ⟨q,0,none⟩)] .returning w fun e u' w'=>e=.a (.K #[])/\u'=.returning/\w'=w:=by
 refine callsD_of_wpS Tryz.func90 rfl fun c₀ cs hu=>?_
 apply I6;apply DF;simp[wpOpsS,go_sem,recoverD,hu,I5,Exit.thenS];apply I6;apply DF;simp[wpOpsS,go_sem,recoverD,hu,I5,Exit.thenS];refine wpS_cond (t:=false) (by simp[Act.eval,nU]) ?_;simp only[fM,if_false];refine wpS_of_wp (wp_skip ?_);cases c₀;simp_all[bodyPostS,results,Tryz.results90]
end
def zC(o:ji)(e:Nat):ji:={o with after:=o.after.push {on:=e,ground:=.data}}
theorem LH{listed:Array Bool}{k i:Nat}{b:Bool}(h:listed.b k b=true):(listed.c i true).b k b=true:=by
 by_cases e:i=k
 ·subst e
  rcases aZ i listed.j with h1|h1
  ·simp[h1]
  ·rw[jX h1];exact h
 ·rw[yB b e];exact h
def am4(ops:Array ji)(k s e d:Nat):Bool:=match ops[s]?,ops[e]?,ops[s+1]? with
 | some os,some oe,some ot=>((eu s).all fun i=>i==e||os.after.any fun x=>ra .any x&&x.on==i)&&(oe.after.all fun x=>!ra .any x||os.after.any fun y=>ra .any y&&y.on==x.on)
  && (ot.after.any fun x=>ra .any x&&x.on==e)&&os.dst==none&&os.guard==none&&oe.guard==none&&decide (e<s)&&decide (k<s)&&e != k&&(match oe.dst with|some x=>!(os.looksAt ops).contains x&&x != d|none=>false) && !(oe.looksAt ops).contains d
  && ((eu ops.j).all fun t=>decide (t<=s+1)||Region.waitsFor .any ops t (t-1))
 | _,_,_=>false
section
variable {P:fB}
section
variable {l:List ji} {k s e g d:Nat} {o os oe:ji} {T:bL} {z:Array aB} {aF:rO} {Q:Bn->rO->ak->Prop}
def nI(l:List ji)(k s e:Nat)(o os:ji):List ji:=(l.set k (lI o)).set s (zC os e)
theorem Al(i:Nat)(hk:i≠k)(hs:i≠s):(nI l k s e o os).c[i]? = l.c[i]?:=by
 simp[nI,fu,jE hk,jE hs]
theorem abl(hs:l[s]? = some os):(nI l k s e o os).c[s]? = some (zC os e):=by
 have:=(iN.1 hs).1;simp[nI,fu,this]
theorem V5(hk:l[k]? = some o)(hks:k≠s):(nI l k s e o os).c[k]? = some (lI o):=by
 have:=(iN.1 hk).1;simp[nI,fu,this,jE hks]
theorem V6(hk:l[k]? = some o)(hs:l[s]? = some os)(hks:k≠s)(tmps:Array aB):yielded (nI l k s e o os).c tmps=yielded l.c tmps:=by
 funext j;unfold yielded;have:((nI l k s e o os).c[j]?).bind (·.dst)=(l.c[j]?).bind (·.dst):=by
  by_cases h1:j=s
  ·subst h1;rw[abl hs];simp[hs,zC]
  ·by_cases h2:j=k
   ·subst h2;rw[V5 hk hks];simp[hk,lI]
   ·rw[Al j h2 h1]
 rw[this]
theorem MC(hk:l[k]? = some o)(hs:l[s]? = some os)(hks:k≠s){listed:Array Bool}{i:Nat}(h:i∈gJ .any (nI l k s e o os).c listed):i∈gJ .any l.c listed:=by
 obtain⟨h1,p,hp,h2⟩:=kN.1 h;by_cases e1:i=s
 ·subst e1
  rw[abl hs]at hp;cases hp;exact kN.2 ⟨h1,os,by simpa using hs,fun x hx hb=>h2 x (by simp[zC,hx]) hb⟩
 ·by_cases e2:i=k
  ·subst e2
   rw[V5 hk hks]at hp;cases hp;exact kN.2 ⟨h1,o,by simpa using hk,h2⟩
  ·rw[Al i e2 e1]at hp
   exact kN.2 ⟨h1,p,hp,h2⟩
theorem ME(hk:l[k]? = some o)(hs:l[s]? = some os)(hks:k≠s){listed:Array Bool}{i:Nat}(h:i∈gJ .any l.c listed):i∈gJ .any (nI l k s e o os).c listed\/(i=s/\listed.b e false=false):=by
 obtain⟨h1,p,hp,h2⟩:=kN.1 h;by_cases e1:i=s
 ·subst e1
  cases he:listed.b e false with
  | false=>exact .a ⟨rfl,rfl⟩
  | true=>
    have:p=os:=by simp[hs]at hp;exact hp.symm
    subst this;refine .b (kN.2 ⟨h1,zC p e,abl hs,fun x hx hb=>?_⟩);simp only[zC,Array.mem_push]at hx;rcases hx with hx|rfl
    ·exact h2 x hx hb
    ·exact he
 ·left
  by_cases e2:i=k
  ·subst e2
   have:p=o:=by simp[hk]at hp;exact hp.symm
   subst this;exact kN.2 ⟨h1,lI p,V5 hk hks,h2⟩
  ·exact kN.2 ⟨h1,p,by rw[Al i e2 e1];exact hp,h2⟩
theorem YT(hk:l[k]? = some o)(hs:l[s]? = some os)(hks:k≠s){listed:Array Bool}(he:listed.b e false=true):gJ .any (nI l k s e o os).c listed=gJ .any l.c listed:=by
 have hiff:∀i,i∈gJ .any (nI l k s e o os).c listed↔i∈gJ .any l.c listed:=fun i=>
  ⟨MC hk hs hks,fun h=>(ME hk hs hks h).resolve_right fun h2=>by rw[he]at h2;cases h2.2⟩
 have hsz:(nI l k s e o os).c.j=l.c.j:=by simp[nI]
 unfold gJ at hiff ⊢;rw[hsz]at hiff ⊢;refine Gj fun i hi=>?_
 have:=hiff i;rw[mY,mY]at this;rw[dG];exact⟨fun h=>(this.1 ⟨hi,h⟩).2,fun h=>(this.2 ⟨hi,h⟩).2⟩
theorem abm(hk:l[k]? = some o)(hs:l[s]? = some os)(hks:k≠s):∀(g j:Nat)(listed:Array Bool),listed.b e false=true->listed.j=l.a->lV .any (nI l k s e o os).c g j listed=true->lV .any l.c g j listed=true
 | 0,j,listed,he,hz,h=>by simp only[lV]at h⊢;rwa [YT hk hs hks he]at h
 | g+1,j,listed,he,hz,h=>by
   simp only[lV,bf]at h ⊢;rw[YT hk hs hks he]at h;exact⟨h.1,abm hk hs hks g (j+1) _ (getD_set_true he) (by simp[hz]) h.2⟩
def Pure(P:fB)(oe:ji):Prop:=∀(a:rO)(w w':ak)(n:Next)(w1:ak),(execOp a.eval oe).O P w=.ok n w1->∃v,n=.value v/\w1=w/\(execOp a.eval oe).O P w'=.ok (.value v) w'
structure Qo(l:List ji)(k s e d x:Nat)(o os oe ot:ji):Prop where
 hk:l[k]? = some o
 hs:l[s]? = some os
 he:l[e]? = some oe
 ht:l[s+1]? = some ot
 all:∀i,i<s->i≠e->∃y∈os.after,ra .any y=true/\y.on=i
 sub:∀y∈oe.after,ra .any y=true->∃z∈os.after,ra .any z=true/\z.on=y.on
 wt:∃y∈ot.after,ra .any y=true/\y.on=e
 sd:os.dst=none
 sg:os.guard=none
 eg:oe.guard=none
 es:e<s
 ks:k<s
 ek:e≠k
 ed:oe.dst=some x
 sx:x∉os.looksAt l.c
 xd:x≠d
 edl:d∉oe.looksAt l.c
 chain:∀t,t<l.a->s+1<t->Region.waitsFor .any l.c t (t-1)=true
theorem Qo.of{x:Nat}{ot:ji}(hk:l[k]? = some o)(hs:l[s]? = some os)(he:l[e]? = some oe)(ht:l[s+1]? = some ot)(hx:oe.dst=some x)(h:am4 l.c k s e d=true):Qo l k s e d x o os oe ot:=by
 unfold am4 at h;simp only[eO,hs,he,ht,bf,decide_eq_true_eq,hx,beq_iff_eq,bne_iff_ne]at h;obtain⟨⟨⟨⟨⟨⟨⟨⟨⟨⟨⟨h1,h2⟩,h3⟩,h4⟩,h5⟩,h6⟩,h7⟩,h8⟩,h9⟩,h10,h11⟩,h12⟩,h13⟩:=h;refine⟨hk,hs,he,ht,fun i hi hie=>?_,fun y hy hb=>?_,?_,h4,h5,h6,h7,h8,h9,hx,by simpa using h10,h11,by simpa using h12,fun t ht1 ht2=>?_⟩
 ·have:=gq.1 h1 i (fq.2 hi)
  simp only[kR,beq_iff_eq]at this;obtain⟨y,hy,hy2⟩:=Array.any_eq_true'.1 (this.resolve_left hie);simp only[bf,beq_iff_eq]at hy2;exact⟨y,hy,hy2⟩
 ·have:=Array.all_eq_true'.1 h2 y hy
  simp only[kR,Bool.not_eq_true',hb]at this;obtain⟨z,hz,hz2⟩:=Array.any_eq_true'.1 (this.resolve_left (by simp));simp only[bf,beq_iff_eq]at hz2;exact⟨z,hz,hz2⟩
 ·obtain⟨y,hy,hy2⟩:=Array.any_eq_true'.1 h3
  simp only[bf,beq_iff_eq]at hy2;exact⟨y,hy,hy2⟩
 ·have:=gq.1 h13 t (fq.2 (by simpa using ht1))
  simp only[kR,decide_eq_true_eq]at this;exact this.resolve_left (by omega)
theorem ajJ{x:Nat}{ot:ji}(H:Qo l k s e d x o os oe ot)(hsel:∀(j:Nat)(o:ji) cs b,l.c[j]? = some o->o.op≠.select cs b)(hp:Pure P oe){C:ak->Prop}{u:aB}{f:Nat}{listed:Array Bool}{a:rO}{w:ak}
 (hsz:listed.j=l.a) (htail:∀t,s<=t->t<l.a->listed.b t true=false) (hq:XG P .any (nI l k s e o os).c C s (l.a-s) aF (f+1) listed a) (hw:C w) (hsr:s∈gJ .any l.c listed) (hel:listed.b e false=false)
 (hst:∀w',C w'->∃w2,(execOp (aF.put (some d) u).eval os).O P w'=.ok .skip w2/\wpList P l.c Q (l.G (s+1)) (aF.put (some d) u) w2) :
 wpOp P l.c Q s (wpAny P .any l.c Q (f+(l.a-s)) (listed.c s true)) (a.put (some d) u) w:=by
 have hks:=iO H.ks;have hes:=iO H.es;obtain⟨_,p,hpo,hall⟩:=kN.1 hsr;have:p=os:=by have:=H.hs;simp[this]at hpo;exact hpo.symm
 subst this;have hlt:s+1<l.a:=(iN.1 H.ht).1;have auU:e<listed.j:=by rw[hsz];have:=H.es;omega
 have he':e∈gJ .any (nI l k s e o p).c listed:=kN.2 ⟨getD_in auU hel,oe,by rw[Al e H.ek hes];simpa using H.he,fun y hy hb=>by
  obtain⟨z,hz,hzb,hzo⟩:=H.sub y hy hb;rw[<-hzo];exact hall z hz hzb⟩
 obtain⟨v,hy,hK⟩:=rH (by rw[Al e H.ek hes];simpa using H.he) (hq.2 e he').2;have ahV:∀i,i<s->i≠e->listed.b i false=true:=fun i hi hie=>by
  obtain⟨y,hy,hb,ho⟩:=H.all i hi hie;rw[<-ho];exact hall y hy hb
 obtain rfl:f=0:=by
  rcases f with _|f
  ·rfl
  ·exfalso
   obtain⟨i,hi⟩:=List.exists_mem_of_ne_nil _ hK.1;have hin:=(hK.2 i hi).1;have hun:=(kN.1 hi).1;have h1:=Bf hun;have h2:=EJ hun;have h3:=ahV i hin h1;rw[getD_both h2]at h3;cases h3
 obtain⟨hseq,hact⟩:=hK;rw[H.ed]at hact;have hA:aF.put (some d) u=(a.put (some d) u).put (some x) v:=by rw[<-hact];exact Act.put_comm a v u (fun e he=>by cases he;simpa using jE H.xd)
 unfold wpOp;rw[hpo];simp only;rw[if_pos (by simp[fK,H.sg])];refine .b ?_;obtain⟨w2,hrun,hrest⟩:=hst w hw;rw[hA,execOp_put p (fun cs b=>hsel s p cs b hpo) (a.put (some d) u) (some x) v (fun e he=>by cases he;exact H.sx)]at hrun;unfold nV;rw[hrun];simp only[MV,H.sd,mE];rw[bC];obtain⟨g,hg⟩:∃g,l.a-s=g+1:=⟨l.a-s-1,by omega⟩
 rw[hg]at hseq ⊢;simp only[lV,bf,decide_eq_true_eq]at hseq;have ay3:(listed.c s true).b e false=false:=by rw[yB false (jE hes)];exact hel
 have her:e∈gJ .any l.c (listed.c s true):=kN.2 ⟨getD_in (by simpa using auU) ay3,oe,by simpa using H.he,fun y hy hb=>by
  obtain⟨z,hz,hzb,hzo⟩:=H.sub y hy hb;rw[<-hzo];exact getD_set_true (hall z hz hzb)⟩
 refine⟨fun h0=>(by rw[h0]at her;cases her),fun i hi=>?_⟩;obtain rfl:i=e:=by
  obtain⟨hun,q,hqo,hqa⟩:=kN.1 hi;have h1:=Bf hun;have h2:=EJ hun;by_cases hie:i=e
  ·exact hie
  ·exfalso
   rcases aZ i s with h3|h3
   ·have h4:=ahV i h3 hie
    rw[getD_both h2]at h4;cases h4
   ·have hil:i<l.a:=by have:=(Array.getElem?_eq_some_iff.1 hqo).1;simpa using this
    rcases aZ (s+1) i with h4|h4
    ·obtain⟨q',hq',y,hy,hb,ho⟩:=Region.waitsFor_spec (H.chain i hil h4)
     have:q'=q:=Option.some.inj (hq'.symm.trans hqo);subst this;have h5:=hqa y hy hb;rw[ho,yB false (by omega),getD_both (htail (i-1) (by omega) (by omega))]at h5;cases h5
    ·obtain rfl:i=s+1:=by omega
     have:q=ot:=by have:=H.ht;simp[this]at hqo;exact hqo.symm
     subst this;obtain⟨y,hy,hb,ho⟩:=H.wt;have h5:=hqa y hy hb;rw[ho,ay3]at h5;cases h5
 have heo:l.c[i]? = some oe:=by simpa using H.he
 unfold wpOp;simp only[heo];rw[if_pos (by simp[fK,H.eg])];refine .b ?_;have hyv:(execOp a.eval oe).O P w2=.ok (.value v) w2:=by
  rcases hy with⟨_,h2⟩|⟨h1,_⟩
  ·have h3:=h2 w hw
   unfold Oper.quietAt at h3;generalize hr:(execOp a.eval oe).O P w=r at h3;cases r with
   | halt y w'=>cases h3
   | ok n w'=>
     obtain⟨v',rfl,rfl,h4⟩:=hp a w w2 n w' hr;simp only[Oper.quietUpon]at h3;rw[<-h3.2];exact h4
  ·simp[fK,H.eg]at h1
 unfold nV;have hex:execOp (a.put (some d) u).eval oe=execOp a.eval oe:=execOp_put oe (fun cs b=>hsel i oe cs b heo) a (some d) u (fun e he=>by cases he;exact H.edl);have ha2:({tmps:=a.tmps.c d u,defers:=a.defers}:rO)=a.put (some d) u:=rfl;rw[ha2,hex,hyv];simp only[MV,H.ed];rw[<-hA];have hdl:(l.G (s+1)).a=g:=by simp;omega
 have:=wpAny_of_seq (P:=P) (md:=.any) (Q':=Q) (ops:=l.c) (l.G (s+1)) (s+1) ((listed.c s true).c i true) (aF.put (some d) u) w2 (fun j=>by simp[iY]) (by
  rw[hdl,Array.setIfInBounds_comm _ _ (jE hes)];refine abm H.hk H.hs hks g (s+1) _ ?_ (by simp[hsz]) hseq.2;rw[yB false (jE hes)];simp[auU]) hrest
 rw[hdl]at this;exact this
theorem Om{listed:Array Bool}{i:Nat}(h:∀t,s<=t->t<l.a->listed.b t true=false)(hi:i<s):∀t,s<=t->t<l.a->(listed.c i true).b t true=false:=fun t h1 h2=>by rw[yB true (by omega)];exact h t h1 h2
theorem JK{x:Nat}{ot:ji}(H:Qo l k s e d x o os oe ot)(hA:Hf l.c k s d=true)(hsel:∀(j:Nat)(o:ji) cs b,l.c[j]? = some o->o.op≠.select cs b)(hp:Pure P oe){C:ak->Prop}{u:aB}
 (hst:∀w',C w'->∃w2,(execOp (aF.put (some d) u).eval os).O P w'=.ok .skip w2/\wpList P l.c Q (l.G (s+1)) (aF.put (some d) u) w2)
 (hend:∀listed w',listed.j=l.a->C w'->lV .any (nI l k s e o os).c (l.a-s) s listed=true->wpAny P .any l.c Q (l.a-s) listed (aF.put (some d) u) w') :
 ∀(f:Nat)(listed:Array Bool)(a:rO)(w:ak),listed.j=l.a->(∀t,s<=t->t<l.a->listed.b t true=false)->listed.b k true=true->C w->XG P .any (nI l k s e o os).c C s (l.a-s) aF f listed a->wpAny P .any l.c Q (f+(l.a-s)) listed (a.put (some d) u) w
 | 0,listed,a,w,hsz,_,_,hw,h=>by
   obtain⟨h1,rfl⟩:=h;rw[bC];exact hend _ _ hsz hw h1
 | f+1,listed,a,w,hsz,htl,hkt,hw,h=>by
   rw[show f+1+(l.a-s)=(f+(l.a-s))+1 by omega];have hks:=iO H.ks;refine⟨fun h0=>absurd ?_ h.1,fun i hi=>?_⟩
   ·rw[uJ]
    intro i hi;have:=MC H.hk H.hs hks hi;rw[h0]at this;cases this
   ·rcases ME (e:=e) H.hk H.hs hks hi with hi'|⟨rfl,hel⟩
    ·obtain⟨hin,hq⟩:=h.2 i hi'
     obtain⟨hun,oi,hoi,_⟩:=kN.1 hi;have hik:i≠k:=fun e=>by rw[e,hkt]at hun;cases hun
     have his:i≠s:=iO hin;obtain⟨hl,hd⟩:=VW hA hin hik hoi;unfold qOp at hq;rw[Al i hik his,hoi]at hq;unfold wpOp;simp only[hoi];simp only[V6 H.hk H.hs hks]at hq;rw[wanted_put oi a (some d) u (fun e he=>by cases he;exact hl)];split
     ·rename_i hw2
      simp only[hw2,if_true]at hq;exact .b (Io (fun cs b=>hsel i oi cs b hoi) hl hd hw (fun a' w' hw' h'=>JK H hA hsel hp hst hend f _ a' w' (by simp[hsz]) (Om htl hin) (LH hkt) hw' h') hq)
     ·rename_i hw2
      simp only[hw2]at hq;rw[Act.put_comm a u undef (fun e he=>by cases he;exact hd)];exact JK H hA hsel hp hst hend f _ _ w (by simp[hsz]) (Om htl hin) (LH hkt) hw hq
    ·exact ajJ H hsel hp hsz htl h hw hi hel hst
theorem V7{x:Nat}{ot:ji}(H:Qo l k s e d x o os oe ot)(hA:Hf l.c k s d=true)(hD:Q9 (nI l k s e o os)=true)(hsel:∀(j:Nat)(o:ji) cs b,l.c[j]? = some o->o.op≠.select cs b)(hp:Pure P oe)
 (hod:o.dst=some d) (hog:o.guard=none) (hoa:o.after = #[]) (hrun:∀(a:rO) w,(execOp a.eval o).O P w=.ok (.value (.c (some ⟨w.a.j,0,none⟩))) (w.alloc (.D z T))) {S:ak->Prop} (hS:Shut S)
 (hst:∀w1 w',S w1->S w'->aM (w1.alloc (.D z T)).a.j (w1.alloc (.D z T)) w'->∃w2,(execOp (aF.put (some d) (.c (some ⟨w1.a.j,0,none⟩))).eval os).O P w'=.ok .skip w2/\wpList P l.c Q (l.G (s+1)) (aF.put (some d) (.c (some ⟨w1.a.j,0,none⟩))) w2)
 (hend:∀listed w1 w',listed.j=l.a->S w1->S w'->aM (w1.alloc (.D z T)).a.j (w1.alloc (.D z T)) w'->lV .any (nI l k s e o os).c (l.a-s) s listed=true->wpAny P .any l.c Q (l.a-s) listed (aF.put (some d) (.c (some ⟨w1.a.j,0,none⟩))) w') :
 ∀(f:Nat)(listed:Array Bool)(a:rO)(w:ak),listed.j=l.a->(∀t,s<=t->t<l.a->listed.b t true=false)->listed.b k true=false->S w->(∀C:ak->Prop,(∀w,C w->S w)->Shut C->(∃w,C w)->XG P .any (nI l k s e o os).c C s (l.a-s) aF f listed a)->wpAny P .any l.c Q (f+(l.a-s)) listed a w
 | 0,listed,a,w,hsz,_,hun,hw,HH=>by
   obtain⟨h1,_⟩:=HH S (fun _ h=>h) hS ⟨w,hw⟩;have:k∈gJ .any (nI l k s e o os).c listed:=kN.2 ⟨hun,lI o,V5 H.hk (iO H.ks),fun e he=>by simp[lI,hoa]at he⟩;have:=seqB_ready h1 k this;have:=H.ks;omega
 | f+1,listed,a,w,hsz,htl,hun,hw,HH=>by
   rw[show f+1+(l.a-s)=(f+(l.a-s))+1 by omega];have hks:=iO H.ks;have H0:=HH S (fun _ h=>h) hS ⟨w,hw⟩;have hkl:k<l.a:=(iN.1 H.hk).1;refine⟨fun h0=>absurd ?_ H0.1,fun i hi=>?_⟩
   ·rw[uJ]
    intro i hi;have:=MC H.hk H.hs hks hi;rw[h0]at this;cases this
   ·rcases ME (e:=e) H.hk H.hs hks hi with hi'|⟨rfl,hel⟩
    ·have hin:=(H0.2 i hi').1
     by_cases hik:i=k
     ·subst hik
      unfold wpOp;simp only[eO,H.hk];rw[if_pos (by simp[fK,hog])];refine .b ?_;unfold nV;rw[hrun];simp only[MV,hod];have hC:=HH (fun w'=>S w'/\aM (w.alloc (.D z T)).a.j (w.alloc (.D z T)) w') (fun _ h=>h.1) (VY hS _) ⟨_,hS _ _ hw ((aG _ _).alloc (av _) _),aG _ _⟩;obtain⟨v,_,hK⟩:=rH (o:=lI o) (V5 H.hk hks) (hC.2 i hi').2;have:=JK (C:=fun w'=>S w'/\aM (w.alloc (.D z T)).a.j (w.alloc (.D z T)) w') (u:=.c (some ⟨w.a.j,0,none⟩)) H hA hsel hp (fun w' hw'=>hst w w' hw hw'.1 hw'.2) (fun listed' w' hz hw' hB=>hend listed' w w' hz hw hw'.1 hw'.2 hB) f _ _ (w.alloc (.D z T)) (by simp[hsz]) (Om htl hin) (by
       have:i<listed.j:=by rw[hsz];exact hkl
       simp[this]) ⟨hS _ _ hw ((aG _ _).alloc (av _) _),aG _ _⟩ hK
      have e1:(lI o).dst=some d:=hod;rw[e1,Oj]at this;exact this
     ·obtain⟨_,oi,hoi,_⟩:=kN.1 hi
      have his:i≠s:=iO hin;have agb:(nI l k s e o os).c[i]? = some oi:=by rw[Al i hik his];exact hoi
      obtain⟨v,hy,hK⟩:=rH agb (H0.2 i hi').2;have hq:qOp P l.c S i (fun a'=>a'=a.put oi.dst v) a:=by
       unfold qOp;simp only[hoi];unfold YieldsIn at hy;simp only[V6 H.hk H.hs hks]at hy;rcases hy with⟨h1,h2⟩|⟨h1,rfl⟩
       ·simp only[h1,if_true];exact⟨v,h2,rfl⟩
       ·simp only[h1,fM,if_false]
      refine wpOp_of_qOp hw (fun a' w' hw' e1=>?_) hq;subst e1;refine V7 H hA hD hsel hp hod hog hoa hrun hS hst hend f _ _ w' (by simp[hsz]) (Om htl hin) (Oi hun (jE hik)) hw' (fun C hC1 hC2 hC3=>?_);obtain⟨_,v2,_,_,_,hK2,_⟩:=adI hD hi' agb H0 (HH C hC1 hC2 hC3);have e1:a.put oi.dst v=a.put oi.dst v2:=by
       cases hd:oi.dst with
       | none=>rfl
       | some dd=>
         have hno:∀j oj,(nI l k s e o os).c[j]? = some oj->(listed.c i true).b j true=false->oj.dst≠some dd:=fun j oj hj hl hdj=>by
          have:=Hg hD (by simpa using agb) (by simpa using hj) hd hdj;exact Bf hl this.symm
         have q1:=(Dq f _ _ hK).2.2 dd hno;have q2:=(Dq f _ _ hK2).2.2 dd hno;rw[hd]at q1 q2;have q:=q1.symm.trans q2;simp only[mE,dS,if_pos]at q ⊢;by_cases hs:dd<a.tmps.j
         ·simp[hs]at q;rw[q]
         ·have hs':=Nat.le_of_not_lt hs
          rw[jX hs',jX hs']
      rw[e1];exact hK2
    ·exfalso
     obtain⟨_,p,hpo,hall⟩:=kN.1 hi;have:p=os:=by have:=H.hs;simp[this]at hpo;exact hpo.symm
     subst this;obtain⟨y,hy,hb,ho⟩:=H.all k H.ks (jE H.ek);have:=hall y hy hb;rw[ho,getD_both hun]at this;cases this
theorem yw{S:ak->Prop}(hS:Shut S)(k s e d x:Nat){id:Nat}{Q:Bn->rO->ak->Prop}{a:rO}{w:ak}{l:List ji}{o os oe ot:ji}(T:bL)(z:Array aB)(hm:P.follows .mixedOrders=true)
 (hk:l[k]? = some o) (hs:l[s]? = some os) (he:l[e]? = some oe) (ht:l[s+1]? = some ot) (hx:oe.dst=some x) (hL:am4 l.c k s e d=true) (hB:yC .any (nI l k s e o os).c s=true) (hA:Hf l.c k s d=true) (hD:Q9 (nI l k s e o os)=true) (hsel:Region.noSelect l.c=true)
 (hod:o.dst=some d) (hog:o.guard=none) (hoa:o.after = #[]) (hrun:∀(a:rO) w,(execOp a.eval o).O P w=.ok (.value (.c (some ⟨w.a.j,0,none⟩))) (w.alloc (.D z T))) (hp:Pure P oe) (h0:S w.drew)
 (hh:∃aF:rO,(∀(T:Type)(f:T->ak),Nonempty T->(∀m,S (f m))->(∀m w',aM (f m).a.j (f m) w'->∃m',w'=f m')->wpQuiet P (nI l k s e o os).c (fun w'=>∃m,w'=f m) (fun a'=>a'=aF) ((nI l k s e o os).E s) a)
 /\ (∀w1 w',S w1->S w'->aM (w1.alloc (.D z T)).a.j (w1.alloc (.D z T)) w'->∃w2,(execOp (aF.put (some d) (.c (some ⟨w1.a.j,0,none⟩))).eval os).O P w'=.ok .skip w2/\wpList P l.c Q (l.G (s+1)) (aF.put (some d) (.c (some ⟨w1.a.j,0,none⟩))) w2)):(Code.region id l.c true).wp P Q a w:=by
 obtain⟨aF,h,h2⟩:=hh;have H:=Qo.of hk hs he ht hx hL;have hks:=iO H.ks;have hsl:s<l.a:=(iN.1 hs).1;simp only[yC,bf,decide_eq_true_eq]at hB;obtain⟨⟨⟨⟨am2,hn⟩,hs'⟩,hc⟩,hlex⟩:=hB;have hsz:(nI l k s e o os).c.j=l.a:=by simp[nI]
 have htl:((nI l k s e o os).E s).a=s:=by simp[nI];omega
 have inv0:HeadInv .any (nI l k s e o os).c s (nU l.c.j false):=
  ⟨by simp[nI],fun j oj _ hl=>(by rw[nH]at hl;cases hl),fun t _ ht=>getD_in (by rw[hsz]at ht;simpa using ht) (nH _ _)⟩
 refine wp_region_any hm ?_;rw[hsz]at hlex;have hdl:(l.G s).a=l.a-s:=by simp
 have:=V7 (P:=P) (aF:=aF) (Q:=Q) H hA hD (Region.noSelect_spec hsel) hp hod hog hoa hrun hS h2 (fun listed w1 w' hz hw1 hw' hb hq=>by
  obtain⟨w2,hr,hrest⟩:=h2 w1 w' hw1 hw' hb;have hel:listed.b e false=true:=by
   obtain⟨g,hg⟩:∃g,l.a-s=g+1:=⟨l.a-s-1,by omega⟩
   rw[hg]at hq;simp only[lV,bf,decide_eq_true_eq]at hq;have:s∈gJ .any (nI l k s e o os).c listed:=by rw[hq.1];simp
   obtain⟨_,p,hpo,hall⟩:=kN.1 this;rw[abl hs]at hpo;cases hpo;exact hall {on:=e,ground:=.data} (by simp[zC]) rfl
  have:=wpAny_of_seq (P:=P) (md:=.any) (Q':=Q) (ops:=l.c) (l.G s) s listed (aF.put (some d) (.c (some ⟨w1.a.j,0,none⟩))) w' (fun j=>by simp[iY]) (by rw[hdl];exact abm H.hk H.hs hks _ _ _ hel hz hq) (by
   have hd:l.G s=os::l.G (s+1):=by
    have:=List.drop_eq_getElem_cons hsl;have h3:=(iN.1 hs).2;rw[this,h3]
   rw[hd];unfold wpList;rw[if_pos (by simp[fK,H.sg])];refine .b ?_;unfold nV;rw[hr];simp only[MV,H.sd];exact hrest)
  rwa [hdl]at this) s (nU l.c.j false) a {w with drawn:=w.drawn+1} (by simp) (fun t _ ht=>getD_in (by simpa using ht) (nH _ _)) (getD_in (by simp;have:=H.ks;omega) (nH _ _)) h0 (fun C hC1 hC2 hC3=>by
  have hq:=h {w // C w} Subtype.val (let⟨w,hw⟩:=hC3;⟨⟨w,hw⟩⟩) (fun m=>hC1 _ m.2) (fun m w' hb=>⟨⟨w',hC2 _ _ m.2 hb⟩,rfl⟩);have e:(fun w':ak=>∃m:{w // C w},w'=m.val)=C:=by
   funext w';rw[eq_iff_iff];exact⟨fun⟨m,hm⟩=>by rw[hm];exact m.2,fun h=>⟨⟨w',h⟩,rfl⟩⟩
  rw[e]at hq;have:=aaA (md:=.any) (C:=C) (g:=l.a-s) am2 hs' hc hn ((nI l k s _ o os).E s) 0 (nU l.c.j false) a (fun j hj=>by
   have hj':j<s:=by rw[htl]at hj;exact hj
   rw[iB hj',bC];simp) (by simpa using htl) inv0 (by rw[htl];simpa using hlex) hq
  rw[htl]at this;exact this)
 rw[show s+(l.a-s)=l.c.j by simp;omega]at this;exact this
theorem uL{oe:ji}{t:ql}{i:Nat}(h:oe.op=.m t i):Pure P oe:=by
 intro a w w' n w1 hr;simp only[execOp,h]at hr ⊢;generalize a.eval t=v at hr ⊢;unfold Instr.extract at hr ⊢;split at hr
 ·rename_i vs
  split at hr
  ·rename_i u hu
   simp at hr;exact⟨u,hr.1.symm,hr.2.symm,by simp⟩
  ·simp at hr
 ·simp at hr
end
end
section
attribute [local go_sem high] iR jI
theorem V8:∀(l:List UInt8)(i:Nat),i%2=0->i<l.a->words (l.E (i+2))=words (l.E i)++[256*lK l i+lK l (i+1)]
 | [],i,_,h=>by simp at h
 | [a],0,_,_=>by simp[words,lK]
 | [a],i+1,h1,h=>by simp at h
 | a::b::l,0,_,_=>by simp[words,lK]
 | a::b::l,1,h1,_=>by omega
 | a::b::l,i+2,h1,h=>by
   have:=V8 l i (by omega) (by simp at h;omega);show(256*a.e+b.e)::words (l.E (i+2))=((256*a.e+b.e)::words (l.E i))++[256*lK l i+lK l (i+1)];rw[this];rfl
theorem Qp:∀l:List UInt8,(words l).a=(l.a+1)/2
 | []=>rfl
 | [a]=>by simp[words]
 | a::b::l=>by have:=Qp l;simp[words,this];omega
theorem adN:aaX 70 3 GU 1:=by
 obtain⟨i,hi,hz,hs⟩:=TP;have h4:(ah.l 3).map (fun i=>decide (i.bytes<=1000))=some true:=by kernel_rfl
 rw[hi]at h4;simp at h4;exact⟨i,_,oP,hi,hz,hs,rfl,by omega,h4,YJ,fun s=>by simp[GU,dA]⟩
def Am(l:List UInt8):List Int:=(words l).map fun n:Nat=>(n:Int)
theorem adO:∀(l:List UInt8)(x:Nat),x∈words l->x<=65535
 | [],x,h=>by simp[words]at h
 | [a],x,h=>by have:=a.a;simp[words]at h;omega
 | a::b::l,x,h=>by
   have:=a.a;have:=b.a;simp only[words,bD]at h;rcases h with rfl|h
   ·omega
   ·exact adO l x h
def WdP(W:ak)(l:List UInt8)(e:lJ)(W':ak):Prop:=∃A' m c',e=.a (.a A' m c')/\RdI W' W'.a.j A' m (Am l)/\aM W.a.j W W'
theorem abn(W:ak)(A:Option aV)(n c:Nat)(l:List UInt8)(hn:n<=1000000)(hr:gG W W.a.j A n l):aR ah 257 #[.a A n c] W (WdP W l):=by
 have HR:=ab hr;have hl:=ab hr.len;clear hr;go_enter Tryz.func257,Tryz.ntmps257;go_wp2;go_loopw [3,4] (fun s3 s4 wr=>∃(i:Nat)(A':Option aV)(m c':Nat),i%2=0/\i<=n+1/\s4=.b .a i/\s3=.a A' m c'/\Rz GU 1 3 [] W wr (.a A' m c') (Am (l.E i)))
  (fun s3 s4 wr=>n+2-(intOf s4).e)
 case atStart=>exact⟨0,none,0,0,rfl,by omega,rfl,rfl,by simpa[Am,words]using Rz.nil (f:=GU) (sz:=1) (e:=3) W⟩
 case round=>
  obtain⟨i,A',m,c',hi2,hin,rfl,rfl,hz⟩:=hrel;have HZ:=ab hz;have hm:=hz.len;clear hz;by_cases hlt:i<n
  ·have q:(i:Int)<n:=by omega
   obtain⟨a,rfl,hab⟩:=HR.i.ahT (show 0<n by omega);have RW:=ab ((HR.i.Y HZ.i.X).lD HZ.i.X.j:gG wr wr.a.j (some a) n l);obtain⟨_,e1,_,hc1⟩:=RW.i.dW hlt;cases e1;unfold bv at hc1;have hb0:((l.b i 0).e:Int)=(lK l i:Nat):=rfl;rw[hb0]at hc1;have auV:=vY l i;have hlt1:=vY l (i+1);have HML:=ab (show(Am (l.E i)).a+1<=1000000 by simp[Am,Qp];omega);have w1:=jY (lK l i:Nat) (by omega);have w2:=jY (256*(lK l i:Int)) (by omega);have w3:=jY ((i:Int)+1) (by omega);have HS:=ab (V8 l i hi2 (by rw[hl.i];exact hlt));have FIN:=ab (fun(v:Int) (A5:Option aV) (n5 c5:Nat) (w5:ak) (hv:v=((256*lK l i+lK l (i+1):Nat):Int)) (h:Rz GU 1 3 [] W w5 (.a A5 n5 c5) (Am (l.E i)++[v]))=>show Rz GU 1 3 [] W w5 (.a A5 n5 c5) (Am (l.E (i+2)))by
    unfold Am at h ⊢;rw[HS.i,jC];rw[hv]at h;exact h)
   by_cases h1:i+1<n
   ·have q1:(i:Int)+1<n:=by omega
    have hc2:=RW.i.VU i h1;have w4:=jY (lK l (i+1):Nat) (by omega);have w5:=jY (256*(lK l i:Int)+(lK l (i+1):Nat)) (by omega);have Za:=ab (HZ.i.alloc (.D (tZ [256*(lK l i:Int)+(lK l (i+1):Nat)]) 3));have RO:=ab (RdI.lit wr [256*(lK l i:Int)+(lK l (i+1):Nat)] 3);go_wp2_with (at_builtin;refine Qi adN rfl (.tmp 31) (.tmp 33) rfl rfl Za.i rfl RO.i HML.i ?_;intro A5 n5 c5 w5 h5 h6;have Z5:=ab h5;clear h5 h6);exact⟨⟨i+2,A5,n5,c5,by omega,by omega,by rw[show((i+2:Nat):Int)=(i:Int)+2 by omega],rfl,FIN.i _ _ _ _ _ (by omega) Z5.i⟩,by simp only[intOf];omega⟩
   ·have q1:¬(i:Int)+1<n:=by omega
    have HB0:=ab (show lK l (i+1)=0 by unfold lK;rw[au,aT (by rw[hl.i];omega)];rfl);have Za:=ab (HZ.i.alloc (.D (tZ [256*(lK l i:Int)]) 3));have RO:=ab (RdI.lit wr [256*(lK l i:Int)] 3);go_wp2_with (at_builtin;refine Qi adN rfl (.tmp 31) (.tmp 33) rfl rfl Za.i rfl RO.i HML.i ?_;intro A5 n5 c5 w5 h5 h6;have Z5:=ab h5;clear h5 h6);exact⟨⟨i+2,A5,n5,c5,by omega,by omega,by rw[show((i+2:Nat):Int)=(i:Int)+2 by omega],rfl,FIN.i _ _ _ _ _ (by rw[HB0.i];omega) Z5.i⟩,by simp only[intOf];omega⟩
  ·have q:¬(i:Int)<n:=by omega
   have H:=ab (show Am (l.E i)=Am l by rw[aK (by rw[hl.i];omega)]);clear hm;go_wp2;go_ret;rw[H.i]at HZ;exact⟨A',m,c',rfl,HZ.i.rd,HZ.i.X⟩
theorem ajK(l:List Nat)(i:Nat)(h:i<l.a):(l.E (i+1)).foldl sO 0=sO ((l.E i).foldl sO 0) (l.b i 0):=by
 rw[List.take_succ_eq_append_getElem h,List.foldl_append];simp[au,h]
theorem Oo:∀(l:List Nat)(a:Nat),a<=65535->(∀x∈l,x<=65535)->l.foldl sO a<=65535
 | [],a,h,_=>h
 | x::l,a,h,hl=>Oo l _ (GJ h (hl x (by simp))) (fun y hy=>hl y (by simp[hy]))
theorem V9(W:ak)(A:Option aV)(n c:Nat)(l:List UInt8)(hn:n<=1000000)(hr:gG W W.a.j A n l):aR ah 186 #[.a A n c] W (gY W (.b .a (uo l:Nat))):=by
 have hl:=hr.len;have hwl:=Qp l;have CW:=ab (abn W A n c l hn hr);unfold WdP at CW;clear hr;have HW:=ab (adO l);go_enter Tryz.func186,Tryz.ntmps186;go_wp2_with (go_at_call 257;(with_reducible refine CW.i.g ?_);rintro e w1 ⟨A',m,c',rfl,h1,h2⟩;have R1:=ab h1;have B1:=ab h2;clear h1 h2);have hm:=R1.i.len;unfold Am at hm;rw[bW]at hm;have hmb:m<=1000000:=by omega
 clear hl hwl;go_loopw [4,5] (fun s4 s5 wr=>∃i:Nat,i<=m/\s5=.b .a i/\s4=.b .a (((words l).E i).foldl sO 0:Nat)/\wr=w1)
  (fun s4 s5 wr=>m-(intOf s5).e)
 case atStart=>exact⟨0,by omega,rfl,rfl,rfl⟩
 case round=>
  obtain⟨i,him,rfl,rfl,hwr⟩:=hrel;rw[hwr];clear hwr;by_cases hlt:i<m
  ·have q:(i:Int)<m:=by omega
   obtain⟨b,o,rfl,_,hcell⟩:=R1.i.cell YJ 0 hlt;have hc:=hcell 0 (by omega);have hv:(GU ((Am l).b i 0))[0]? = some (.b .a ((words l).b i 0:Nat)):=by
    unfold Am GU;rw[au,jM,aC (by omega)];simp[au,aC (show i<(words l).a by omega)]
   rw[hv]at hc;simp only[gP,Nat.add_zero]at hc;clear hcell hv;have HS:=ab (ajK (words l) i (by omega));have hx:(words l).b i 0<=65535:=HW.i _ (by rw[au,aC (show i<(words l).a by omega)];exact eZ _);obtain⟨x,hx1⟩:=cB ((words l).b i 0);obtain⟨y,hy1⟩:=cB (((words l).E i).foldl sO 0);have hy:y<=65535:=by rw[hy1];exact Oo _ _ (by omega) (fun z hz=>HW.i z (List.mem_of_mem_take hz))
   rw[<-hx1]at hc hx HS;rw[<-hy1]at HS ⊢;have CR:=ab (ac5 y x w1 hy hx);clear hx1 hy1;go_wp2_with (go_at_call 258;(with_reducible refine CR.i.g ?_);rintro e w2 ⟨rfl,rfl⟩);exact⟨⟨i+1,by omega,by rw[show((i+1:Nat):Int)=(i:Int)+1 by omega],by rw[HS.i],trivial⟩,by simp only[intOf];omega⟩
  ·have q:¬(i:Int)<m:=by omega
   have H:=ab (show((words l).E i).foldl sO 0=AQ 0 l by rw[aK (by omega)];rfl);have hle:=Nq l 0 (by omega);rw[H.i];have HB:=ab (show(65535:Int)-(AQ 0 l:Nat)=(uo l:Nat)by unfold uo;omega);generalize AQ 0 l=z at *;go_wp2;go_ret;exact⟨by rw[<-HB.i];rfl,B1.i⟩
end
section
attribute [local go_sem high] iR jI
end
section
attribute [local go_sem high] iR jI
theorem aqB{p:Int}{l:List UInt8}(h6:p≠6)(h17:p≠17):FM p l=(rD,5):=vF (by unfold uF;rw[if_pos ⟨h6,h17⟩]) (by decide)
theorem asG(l:List UInt8):FM 6 l=if l.a<20 then(rD,2)else if lK l 12/16*4<20 then(rD,3)else if l.a<lK l 12/16*4 then(rD,2)else(⟨dF l 0,dF l 2,(lK l 13%64:Nat),(lK l 12/16*4:Nat),l.a⟩,0):=by
 split
 ·rename_i h;exact vF (by unfold uF;rw[if_neg (by simp),if_pos (by rw[if_pos rfl];exact h)]) (by decide)
 ·rename_i h
  have hg:pG 6 l=⟨dF l 0,dF l 2,(lK l 13%64:Nat),(lK l 12/16*4:Nat),l.a⟩:=by unfold pG;rw[if_pos rfl]
  have e1:¬l.a<(if(6:Int)=6 then 20 else 8):=by rw[if_pos rfl];exact h
  split
  ·rename_i h2;exact vF (by unfold uF;rw[if_neg (by simp),if_neg e1,if_pos (.b ⟨rfl,by rw[hg];simp only;omega⟩)]) (by decide)
  ·rename_i h2
   have e2:¬(((6:Int)=6/\(pG 6 l).head<20)\/(pG 6 l).bR<8):=by rw[hg];simp only;omega
   split
   ·rename_i h3;exact vF (by unfold uF;rw[if_neg (by simp),if_neg e1,if_neg e2,if_pos (by rw[hg];simp only;omega)]) (by decide)
   ·rename_i h3
    have:=Mx (p:=6) (l:=l) (by unfold uF;rw[if_neg (by simp),if_neg e1,if_neg e2,if_neg (by rw[hg];simp only;omega)]);rw[this,hg]
theorem am5(l:List UInt8):FM 17 l=if l.a<8 then(rD,2)else if dF l 4<8 then(rD,3)else if l.a<dF l 4 then(rD,2)else(⟨dF l 0,dF l 2,0,8,dF l 4⟩,0):=by
 split
 ·rename_i h;exact vF (by unfold uF;rw[if_neg (by simp),if_pos (by rw[if_neg (by decide)];exact h)]) (by decide)
 ·rename_i h
  have hg:pG 17 l=⟨dF l 0,dF l 2,0,8,dF l 4⟩:=by unfold pG;rw[if_neg (by decide)]
  have e1:¬l.a<(if(17:Int)=6 then 20 else 8):=by rw[if_neg (by decide)];exact h
  split
  ·rename_i h2;exact vF (by unfold uF;rw[if_neg (by simp),if_neg e1,if_pos (.a (by rw[hg];simp only;omega))]) (by decide)
  ·rename_i h2
   have e2:¬(((17:Int)=6/\(pG 17 l).head<20)\/(pG 17 l).bR<8):=by rw[hg];simp only;omega
   split
   ·rename_i h3;exact vF (by unfold uF;rw[if_neg (by simp),if_neg e1,if_neg e2,if_pos (by rw[hg];simp only;omega)]) (by decide)
   ·rename_i h3
    have:=Mx (p:=17) (l:=l) (by unfold uF;rw[if_neg (by simp),if_neg e1,if_neg e2,if_neg (by rw[hg];simp only;omega)]);rw[this,hg]
theorem Wd(W:ak)(A:Option aV)(n c B:Nat)(l:List UInt8)(k:Nat)(i:Int)(hi:i=k)(hk:k+1<n)(hnn:n<=1000000000)(hr:gG W B A n l):aR ah 299 #[.a A n c,.b .a i] W fun e W'=>e=.a (.b .a (dF l k:Nat))/\∃q,W'=W.drewN q:=by subst hi;exact af7 W A n c B l k hk hnn hr
theorem adP(W:ak)(p:Int)(A:Option aV)(n c:Nat)(l:List UInt8)(hc:n<=1000000000)(hr:gG W W.a.j A n l):aR ah 227 #[.b .a p,.a A n c] W (PtP W (FM p l)):=by
 have HR:=ab hr;have hl:=ab hr.len;have b0:=ab ((Bx.start W).new rD.ay 172);clear hr;go_enter Tryz.func227,Tryz.ntmps227;by_cases p6:p=6
 ·subst p6
  have HP:=ab (asG l);rw[hl.i]at HP;by_cases h20:n<20
  ·have q:(n:Int)<20:=by omega
   go_wp2;refine aO (Uc.rb rfl _ rfl b0.i.Z (Pt.J _)) rfl ?_;rw[HP.i,if_pos h20];exact⟨rfl,b0.i.X⟩
  have q:¬(n:Int)<20:=by omega
  obtain⟨a,rfl,hab⟩:=HR.i.ahT (show 0<n by omega);have c12:=(b0.i.Oh HR.i).VU 11 (by omega);have i12:12<n:=by omega
  obtain⟨k,hk⟩:∃k:Nat,k=lK l 12/16*4:=⟨_,rfl⟩
  have hkk:4*((lK l 12:Int)/16)=(k:Int):=by omega
  have hkl:k<100:=by have:=vY l 12;omega
  have w13:4*((lK l 12:Int)/16%256)=(k:Int):=by have:=vY l 12;omega
  rw[<-hk]at HP;clear hk hkk;by_cases h2:k<20
  ·have q2:(k:Int)<20:=by omega
   go_wp2;refine aO (Uc.rb rfl _ rfl b0.i.Z (Pt.J _)) rfl ?_;rw[HP.i,if_neg h20,if_pos h2];exact⟨rfl,b0.i.X⟩
  have q2:¬(k:Int)<20:=by omega
  by_cases h3:n<k
  ·have q3:(n:Int)<k:=by omega
   go_wp2;refine aO (Uc.rb rfl _ rfl b0.i.Z (Pt.J _)) rfl ?_;rw[HP.i,if_neg h20,if_neg h2,if_pos h3];exact⟨rfl,b0.i.X⟩
  have q3:¬(n:Int)<k:=by omega
  have i13:13<n:=by omega
  obtain⟨g,hg⟩:∃g:Nat,g=lK l 13%64:=⟨_,rfl⟩
  have hgg:(lK l 13:Int)%64=(g:Int):=by omega
  have w14:(lK l 13:Int)%64%256=(g:Int):=by omega
  have w15:(lK l 13:Int)%64=(g:Int):=by omega
  rw[<-hg]at HP;clear hg hgg;go_upto_region 9 with fail
  generalize W.alloc (.D rD.ay 172)=w1 at b0 ⊢;obtain⟨T,f,n0,E0,es,ew⟩:=Jh (Bx ([(W.a.j,rD.ay)]) W) (w1) (b0.i.drew);have hT:Nonempty T:=⟨n0⟩
  have ES:=ab es;have EW:=ab ew;clear es ew;have RF:=ab (fun m=>(ES.i m).Oh HR.i);have k13:∀m,(f m).b ⟨a.block,a.off+13,none⟩=some (.b .b (lK l 13)):=fun m=>(RF.i m).VU 12 (by omega)
  have C0:=ab (fun m=>Wd (f m) (some a) n c _ l 0 0 rfl (by omega) hc (RF.i m));have C2:=ab (fun m=>Wd (f m) (some a) n c _ l 2 2 rfl (by omega) hc (RF.i m));refine U1 f 13 (by kernel_rfl) (by kernel_rfl) n0 E0 ?_;simp only[jV,kC,jW,lN]
  repeat(go_big_quiet_step ((first|(go_at_call 299;(with_reducible refine(C0.i _).g ?_);rintro e w2 ⟨rfl,q,rfl⟩;exact⟨rfl,EW.i _ ((ES.i _).drewN q)⟩)|(go_at_call 299;(with_reducible refine(C2.i _).g ?_);rintro e w2 ⟨rfl,q,rfl⟩;exact⟨rfl,EW.i _ ((ES.i _).drewN q)⟩))))
  refine iw ?_;rintro _ ⟨m',rfl⟩;have ZT:=ab (ES.i m');clear ES EW C0 C2 E0 RF k13;generalize f m'=w8 at *;clear hT n0;have zS:=ZT.i.Z.S 0 5 (aU (Pt.J rD).symm);have Z2:=ab (ZT.i.put (fun p hp=>by cases hp) (Pt.mk (dF l 0) (dF l 2) g k n).ay (by rw[Pt.J,Pt.J]));go_step;go_simp;go_step;go_step;go_wp2;refine aO (Uc.rb rfl _ rfl Z2.i.Z (Pt.J _)) rfl ?_;rw[HP.i,if_neg h20,if_neg h2,if_neg h3];exact⟨rfl,Z2.i.X⟩
 have q6:(p==6)=false:=by simp[p6]
 by_cases p17:¬p=17
 ·have q17:(p != 17)=true:=by simp[p17]
  go_wp2;refine aO (Uc.rb rfl _ rfl b0.i.Z (Pt.J _)) rfl ?_;rw[aqB p6 p17];exact⟨rfl,b0.i.X⟩
 obtain rfl:p=17:=by simpa using p17
 have HP:=ab (am5 l);rw[hl.i]at HP;by_cases h20:n<8
 ·have q:(n:Int)<8:=by omega
  go_wp2;refine aO (Uc.rb rfl _ rfl b0.i.Z (Pt.J _)) rfl ?_;rw[HP.i,if_pos h20];exact⟨rfl,b0.i.X⟩
 have q:¬(n:Int)<8:=by omega
 have CT:=ab (fun(w:ak) (h:Bx [(W.a.j,rD.ay)] W w) (k:Nat) (i:Int) (hi:i=k) (hk:k<6)=>Wd w A n c _ l k i hi (by omega) hc (h.Oh HR.i));have C4:=ab (fun w h=>CT.i w h 4 4 rfl (by omega));have C0:=ab (fun w h=>CT.i w h 0 0 rfl (by omega));have C2:=ab (fun w h=>CT.i w h 2 2 rfl (by omega));obtain⟨t,ht⟩:=cB (dF l 4);rw[<-ht]at C4 HP;clear ht;generalize hw1:W.alloc (.D rD.ay 172)=w1 at b0 ⊢;have b1:=ab (fun q=>b0.i.drewN q);by_cases h2:t<8
 ·have q2:(t:Int)<8:=by omega
  go_wp2_with (go_at_call 299;(with_reducible refine(C4.i _ b0.i).g ?_);rintro e w2 ⟨rfl,q,rfl⟩;have zS:=(b1.i q).Z.S 0 5 (aU (Pt.J rD).symm);have Z2:=ab ((b1.i q).put (fun p hp=>by cases hp) rD.ay rfl));refine aO (Uc.rb rfl _ rfl Z2.i.Z (Pt.J _)) rfl ?_;rw[HP.i,if_neg h20,if_pos h2];exact⟨rfl,Z2.i.X⟩
 have q2:¬(t:Int)<8:=by omega
 have TH:=ab (fun q=>((b1.i q).Z.S 0 5 (aU (Pt.J rD).symm):(w1.drewN q).S W.a.j 0 5));have PU:=ab (fun q (x:Pt)=>(b1.i q).put (fun p hp=>by cases hp) x.ay (by rw[Pt.J,Pt.J]));by_cases h3:n<t
 ·have q3:(n:Int)<t:=by omega
  go_upto_region 17 with(first|(go_at_call 299;(with_reducible refine(C4.i _ b0.i).g ?_);rintro e w2 ⟨rfl,qq,rfl⟩)|(go_at_call 299;(with_reducible refine(C4.i _ (b1.i _)).g ?_);rintro e w2 ⟨rfl,qq,rfl⟩)|(go_at_call 299;(with_reducible refine(C0.i _ b0.i).g ?_);rintro e w2 ⟨rfl,qq,rfl⟩)|(go_at_call 299;(with_reducible refine(C0.i _ (b1.i _)).g ?_);rintro e w2 ⟨rfl,qq,rfl⟩)|(go_at_call 299;(with_reducible refine(C2.i _ b0.i).g ?_);rintro e w2 ⟨rfl,qq,rfl⟩)|(go_at_call 299;(with_reducible refine(C2.i _ (b1.i _)).g ?_);rintro e w2 ⟨rfl,qq,rfl⟩))
  have th2:=TH.i;go_wp2;refine aO (Uc.rb rfl _ rfl (PU.i _ rD).Z (Pt.J _)) rfl ?_;rw[HP.i,if_neg h20,if_neg h2,if_pos h3];exact⟨rfl,(PU.i _ rD).X⟩
 have q3:¬(n:Int)<t:=by omega
 have th2:=TH.i;go_wp2_with (first|(go_at_call 299;(with_reducible refine(C4.i _ b0.i).g ?_);rintro e w2 ⟨rfl,qq,rfl⟩)|(go_at_call 299;(with_reducible refine(C4.i _ (b1.i _)).g ?_);rintro e w2 ⟨rfl,qq,rfl⟩)|(go_at_call 299;(with_reducible refine(C0.i _ b0.i).g ?_);rintro e w2 ⟨rfl,qq,rfl⟩)|(go_at_call 299;(with_reducible refine(C0.i _ (b1.i _)).g ?_);rintro e w2 ⟨rfl,qq,rfl⟩)|(go_at_call 299;(with_reducible refine(C2.i _ b0.i).g ?_);rintro e w2 ⟨rfl,qq,rfl⟩)|(go_at_call 299;(with_reducible refine(C2.i _ (b1.i _)).g ?_);rintro e w2 ⟨rfl,qq,rfl⟩));refine aO (Uc.rb rfl _ rfl (PU.i _ (Pt.mk (dF l 0) (dF l 2) 0 8 t)).Z (Pt.J _)) rfl ?_;rw[HP.i,if_neg h20,if_neg h2,if_neg h3];exact⟨rfl,(PU.i _ _).X⟩
end
section
attribute [local go_sem high] iR jI
end
section
attribute [local go_sem high] iR jI
end
section
attribute [local go_sem high] iR jI
end
section
attribute [local go_sem high] iR jI
def PkP(W:ak)(x:Pk)(e:lJ)(W':ak):Prop:=e=.a (.d x.ay)/\aM W.a.j W W'
theorem Qq{W w:ak}{c:Array aB}(tmps:Array aB)(k:Int)(ht:tmps.b 2 undef=.c (some ⟨W.a.j,0,none⟩))(hb:dP w W.a.j c)(hc:c.j=42)(hl:aM W.a.j W w):
 bodyPostD ah Tryz.f32 (PkP W (yJ k)) (Exit.panic [{v:=adM k,recovered:=false}]) {tmps:=tmps,defers:=[{target:=Target.fn (Fn.func 90) #[tJ (some ⟨W.a.j,0,none⟩)],args:=#[]}]} w:=by
 refine leaves_cons (f:=90) (args:=#[.c (some ⟨W.a.j,0,none⟩)]) (by simp) (by simp[go_sem]) ?_;have hr:=kPk.Aj (fn:=Tryz.f32) (p:=2) (by kernel_rfl) tmps ht (hb.put (yJ k).ay (by rw[Pk.J,hc])) (Pk.J _);have hb2:=lQ hl W.a.j 0 (yJ k).ay (av _);have hq:=SI W.a.j k [] w (hb.S 0 42 (by omega));generalize gV w W.a.j 0 (yJ k).ay=w2 at *;refine hq.g ?_;rintro e u' w'' ⟨he,hu,hw⟩;rw[he,hu,hw];exact⟨_,hr,rfl,hb2⟩
theorem auX{W w:ak}(tmps:Array aB)(x:Pk)(ht:tmps.b 2 undef=.c (some ⟨W.a.j,0,none⟩))(hb:dP w W.a.j x.ay)(hl:aM W.a.j W w):
 bodyPostD ah Tryz.f32 (PkP W x) Exit.ret {tmps:=tmps,defers:=[{target:=Target.fn (Fn.func 90) #[tJ (some ⟨W.a.j,0,none⟩)],args:=#[]}]} w:=by
 have hr:=kPk.Aj (fn:=Tryz.f32) (p:=2) (by kernel_rfl) tmps ht hb (Pk.J _);refine leaves_cons (f:=90) (args:=#[.c (some ⟨W.a.j,0,none⟩)]) (by simp) (by simp[go_sem]) ?_;refine(agf W.a.j w).g ?_;rintro e u' w'' ⟨rfl,rfl,rfl⟩;exact⟨_,hr,rfl,hl⟩
theorem zD(W:ak)(A:Option aV)(n c:Nat)(l:List UInt8)(hnc:n<=c)(hc:c<=9223372036854775807/\n<=1000000000)(hr:gG W W.a.j A n l):aR ah 32 #[.a A n c] W (PkP W (lW l)):=by
 have HR:=ab hr;have hl:=ab hr.len;have b0:=ab ((Bx.start W).new N7.ay 83);have CL:=ab (Ol _ A n c l hnc hc (b0.i.Oh hr));clear hr;have hmf:∀(fn:Fn)(first cap:Array aB)(w:ak),(Instr.makeFunc fn first cap).O ah w=.ok (.func fn first cap) w:=fun _ _ _ _=>rfl
 have NO:=ab aqA;have OK:=ab aqz;go_enter_defers Tryz.func32,Tryz.ntmps32;obtain⟨r,hrr⟩:=cB (iV l);have HRR:=ab hrr;obtain⟨k,er⟩:=r;unfold LkP at CL;rw[<-hrr]at CL;clear hrr;by_cases h1:er≠0
 ·have q:(er==0)=false:=by simp[h1]
  have H:=ab (show lW l=yJ 1 by unfold lW;rw[<-HRR.i,if_pos h1]);go_wp2_with (first|(go_at_call 91;with_reducible refine CL.i.g ?_;rintro e w1 ⟨TA,tc,rfl,_,hb1⟩;have Z1:=ab ((b0.i.go hb1).new (k.cell TA tc).ay 108);clear hb1)|(go_at_call 92;with_reducible refine(NO.i 1 _).g ?_;rintro e w2 ⟨rfl,rfl⟩));rw[H.i];exact Qq _ 1 rfl Z1.i.b1 (Pk.J _) Z1.i.X
 obtain rfl:er=0:=by simpa using h1
 obtain⟨yN,adQ⟩:=JJ (l:=l) (by rw[<-HRR.i]);rw[<-HRR.i]at yN adQ;rw[hl.i]at adQ;simp only at yN adQ;go_upto_region 4 with(first|(go_at_call 91;with_reducible refine CL.i.g ?_;rintro e w1 ⟨TA,tc,rfl,_,hb1⟩;have Z1:=ab ((b0.i.go hb1).new (k.cell TA tc).ay 108);have hy3:=(b0.i.go hb1).Z.lt;clear hb1)|(go_at_call 92;with_reducible refine(OK.i 1 _).g ?_;rintro e w2 ⟨rfl,rfl⟩))
 generalize w1.alloc (.D (k.cell TA tc).ay 108)=w2 at Z1 ⊢;generalize w1.a.j=y3 at *;have F3:=ab (fun(L:List (Nat×Array aB)) (w:ak) (h:Bx ((y3,(k.cell TA tc).ay)::L) W w)=>show w.b ⟨y3,13,none⟩=some (.b .a k.mP)/\w.b ⟨y3,14,none⟩=some (.b .a (k.dW:Nat))from⟨(h.Z.R.1 13).trans (Lc.EH _),(h.Z.R.1 14).trans (Lc.Mw _)⟩);obtain⟨f1,f2⟩:=F3.i _ _ Z1.i;by_cases hty:k.mP≠2048/\k.mP≠34525
 ·have q1:(k.mP==2048)=false:=by simp[hty.1]
  have q2:(k.mP==34525)=false:=by simp[hty.2]
  have H:=ab (show lW l=yJ 2 by unfold lW;rw[<-HRR.i];rw[if_neg (by simp),if_pos hty]);go_wp2_with (go_at_call 92;with_reducible refine(NO.i 2 _).g ?_;rintro e w3 ⟨rfl,rfl⟩);rw[H.i];exact Qq _ 2 rfl Z1.i.b1 (Pk.J _) Z1.i.X
 have HTY:=ab hty;go_cut []from 17 to 25 (fun wx=>wx=w2)
 case first=>
  by_cases q0:k.mP=2048
  ·have q1:(k.mP==2048)=true:=by simp[q0]
   go_wp2_with (go_at_call 92;with_reducible refine(OK.i 2 _).g ?_;rintro e w3 ⟨rfl,rfl⟩);go_meet
   case rel=>rfl
  ·have q1:(k.mP==2048)=false:=by simp[q0]
   have q2:(k.mP==34525)=true:=by simp;omega
   go_wp2_with (go_at_call 92;with_reducible refine(OK.i 2 _).g ?_;rintro e w3 ⟨rfl,rfl⟩);go_meet
   case rel=>rfl
 have hcut:=hcut;rw[hcut];clear hcut f1 f2;have yN:=yN;obtain⟨g,hg⟩:=cB (jO l);have HG:=ab hg;have HG2:=ab (show g=Pf k.mP (l.G k.dW)by rw[hg];unfold jO;rw[<-HRR.i]);clear hg;obtain⟨g,e2⟩:=g;have i1:(k.dW:Int)<=n:=by omega
 have CI:=ab (fun(w:ak) (h:Bx [(y3,(k.cell TA tc).ay),(W.a.j,N7.ay)] W w)=>agd w k.mP (sH A k.dW c 1) (n-k.dW) (c-k.dW) (l.G k.dW) (by omega) (by omega) ((h.Oh HR.i).yt (by omega) hnc));rw[<-HG2.i]at CI;go_upto_region 5 with fail
 refine yw (Bx.abg ([(y3,(k.cell TA tc).ay),(W.a.j,N7.ay)]) W) 10 11 9 5 35 168 aa5.ay (by kernel_rfl) rfl rfl rfl rfl rfl (by kernel_rfl) (by kernel_rfl) (by kernel_rfl) (by kernel_rfl) (by kernel_rfl) rfl rfl rfl (fun a w=>by simp[go_sem]) (uL rfl) Z1.i.drew ?_;apply Exists.intro;refine⟨fun T f hT es ew=>?_,?_⟩
 ·have EW:=ab ew
  have ES:=ab es;have k1:=fun m=>(F3.i _ _ (ES.i m)).1
  have k2:=fun m=>(F3.i _ _ (ES.i m)).2
  have CF:=ab (fun m=>CI.i _ (ES.i m));clear es ew;simp only[nI,zC,lI,bH,bQ,jV,kC]
  repeat(go_big_quiet_step ((first|(go_at_call 93;(with_reducible refine(CF.i _).g ?_);rintro e w2 ⟨rfl,hb⟩;exact⟨rfl,EW.i _ _ hb⟩))))
  exact iw rfl
 ·intro w9 w8 Bg _ hb
  have ZN:=ab ((Bg.new aa5.ay 168).go hb);have hyy:=ab Bg;have hy:=Bg.X.j;have hyv:=ab (fun p (hp:p∈[(y3,(k.cell TA tc).ay),(W.a.j,N7.ay)])=>((Bg.2 p hp).2.lt:p.1<w9.a.j));generalize w9.a.j=y at *;clear hb Bg;have zS:=ZN.i.Z.S 0 38 (aU (Nt.J aa5).symm);refine⟨gV w8 y 0 g.ay,?_,?_⟩
  ·simp[go_sem,zS]
  simp only[mE,bI,bH,bQ,jW,lN];have Z2:=ab (ZN.i.put (fun p hp=>iO (hyv.i p hp)) g.ay (by rw[Nt.J,Nt.J]));clear zS ZN hyy hyv;generalize gV w8 y 0 g.ay=w3 at Z2 ⊢;go_step;go_step;go_step;obtain⟨y1,y2,y3',y4⟩:=Z2.i.Z.R;have HP:=ab (show lW l=(if e2≠0 then yJ 3 else if g.mW=true then yJ 4 else if g.aN≠6/\g.aN≠17 then yJ 5 else if(FM g.aN ((l.E (k.dW+g.bR.e)).G (k.dW+g.head.e))).2≠0 then yJ 6
   else⟨0,⟨g.h,g.dst,g.aN,(FM g.aN ((l.E (k.dW+g.bR.e)).G (k.dW+g.head.e))).1.kg,(FM g.aN ((l.E (k.dW+g.bR.e)).G (k.dW+g.head.e))).1.iG⟩,(FM g.aN ((l.E (k.dW+g.bR.e)).G (k.dW+g.head.e))).1.sW,k.dW,k.dW+g.head,k.dW+g.bR⟩)by
   unfold lW Bu;rw[<-HRR.i,<-HG.i,if_neg (by simp),if_neg HTY.i])
  by_cases h2:e2≠0
  ·have q:(e2==0)=false:=by simp[h2]
   go_wp2_with (go_at_call 92;(with_reducible refine(NO.i 3 _).g ?_);rintro e w4 ⟨rfl,rfl⟩);rw[HP.i,if_pos h2];exact Qq _ 3 rfl Z2.i.b2 (Pk.J _) Z2.i.X
  obtain rfl:e2=0:=by simpa using h2
  cases hf:g.mW
  case true=>
   go_wp2_with (first|(go_at_call 92;(with_reducible refine(OK.i 3 _).g ?_);rintro e w4 ⟨rfl,rfl⟩)|(go_at_call 92;(with_reducible refine(NO.i 4 _).g ?_);rintro e w4 ⟨rfl,rfl⟩));rw[HP.i,if_neg h2,if_pos hf];exact Qq _ 4 rfl Z2.i.b2 (Pk.J _) Z2.i.X
  case false=>
   have CC:=ab (adL g.aN w3);by_cases hp:g.aN≠6/\g.aN≠17
   ·rw[show(decide (g.aN=6)||decide (g.aN=17))=false by simp[hp.1,hp.2]]at CC
    go_wp2_with (first|(go_at_call 92;(with_reducible refine(OK.i 3 _).g ?_);rintro e w4 ⟨rfl,rfl⟩)|(go_at_call 92;(with_reducible refine(OK.i 4 _).g ?_);rintro e w4 ⟨rfl,rfl⟩)|(go_at_call 94;(with_reducible refine CC.i.g ?_);rintro e w4 ⟨rfl,rfl⟩)|(go_at_call 92;(with_reducible refine(NO.i 5 _).g ?_);rintro e w4 ⟨rfl,rfl⟩));rw[HP.i,if_neg h2,if_neg (by rw[hf];simp),if_pos hp];exact Qq _ 5 rfl Z2.i.b2 (Pk.J _) Z2.i.X
   rw[show(decide (g.aN=6)||decide (g.aN=17))=true by simp;omega]at CC;obtain⟨g1,g2,g3⟩:=abk (k:=k.mP) (l:=l.G k.dW) (by rw[<-HG2.i]);rw[<-HG2.i,fZ,hl.i]at g3;rw[<-HG2.i]at g1 g2;simp only at g1 g2 g3;obtain⟨a1,ha1⟩:∃a1:Nat,(k.dW:Int)+g.head=a1:=⟨k.dW+g.head.e,by omega⟩
   obtain⟨b1,hb1⟩:∃b1:Nat,(k.dW:Int)+g.bR=b1:=⟨k.dW+g.bR.e,by omega⟩
   have e1:k.dW+g.head.e=a1:=by omega
   have e1':k.dW+g.bR.e=b1:=by omega
   have hab:a1<=b1/\b1<=n:=by omega
   rw[e1,e1',ha1,hb1]at HP;have hw1:bT.wrap ((k.dW:Int)+g.head)=(a1:Int):=by rw[ha1];exact jY _ (by omega)
   have hw2:bT.wrap ((k.dW:Int)+g.bR)=(b1:Int):=by rw[hb1];exact jY _ (by omega)
   obtain⟨j1,j2⟩:(a1:Int)<=b1/\(b1:Int)<=c:=by omega
   have j0:(0:Int)<=a1:=by omega
   have CP:=ab (fun(w:ak) (h:Bx [(y,g.ay),(y3,(k.cell TA tc).ay),(W.a.j,N7.ay)] W w)=>abe w g.aN (sH A a1 c 1) (b1-a1) (c-a1) ((l.E b1).G a1) (by omega) (by omega) ((h.Oh HR.i).XE hab.1 hab.2 hnc));unfold PtP at CP;obtain⟨pr,hpr⟩:=cB (FM g.aN ((l.E b1).G a1));obtain⟨pt,e3⟩:=pr;rw[<-hpr]at CP HP;clear hpr ha1 hb1 e1 e1' g1 g2 g3 hab;have F5:=ab (fun(w:ak) (h:Bx [(y,g.ay),(y3,(k.cell TA tc).ay),(W.a.j,N7.ay)] W w)=>show w.b ⟨y,0,none⟩=some (.b .a g.head)/\w.b ⟨y,1,none⟩=some (.b .a g.bR)/\w.b ⟨y,2,none⟩=some (.b .a g.aN)from⟨(h.Z.R.1 0).trans (Nt.Ee _),(h.Z.R.1 1).trans (Nt.vX _),(h.Z.R.1 2).trans (Nt.xJ _)⟩);go_upto_region 9 with(first|(go_at_call 92;(with_reducible refine(OK.i 3 _).g ?_);rintro e w4 ⟨rfl,rfl⟩)|(go_at_call 92;(with_reducible refine(OK.i 4 _).g ?_);rintro e w4 ⟨rfl,rfl⟩)|(go_at_call 94;(with_reducible refine CC.i.g ?_);rintro e w4 ⟨rfl,rfl⟩)|(go_at_call 92;(with_reducible refine(OK.i 5 _).g ?_);rintro e w4 ⟨rfl,rfl⟩))
   clear y1 y2 y3' y4;refine yw (Bx.abg ([(y,g.ay),(y3,(k.cell TA tc).ay),(W.a.j,N7.ay)]) W) 18 19 17 6 64 172 rD.ay (by kernel_rfl) rfl rfl rfl rfl rfl (by kernel_rfl) (by kernel_rfl) (by kernel_rfl) (by kernel_rfl) (by kernel_rfl) rfl rfl rfl (fun a w=>by simp[go_sem]) (uL rfl) Z2.i.drew ?_;apply Exists.intro;refine⟨fun T f hT es ew=>?_,?_⟩
   ·have EW:=ab ew
    have ES:=ab es;have k1:=fun m=>(F5.i _ (ES.i m)).1
    have k2:=fun m=>(F5.i _ (ES.i m)).2.1
    have k3:=fun m=>(F5.i _ (ES.i m)).2.2
    have k4:=fun m=>(F3.i _ _ (ES.i m).swap).2
    have CF:=ab (fun m=>CP.i _ (ES.i m));clear es ew;simp only[nI,zC,lI,bH,bQ,jV,kC]
    repeat(go_big_quiet_step ((first|(go_at_call 95;(with_reducible refine(CF.i _).g ?_);rintro e w2 ⟨rfl,hb⟩;exact⟨rfl,EW.i _ _ hb⟩))))
    exact iw rfl
   ·intro w9 w8 Bg _ hb
    have ZN:=ab ((Bg.new rD.ay 172).go hb);have hyy:=ab Bg;have hy:=Bg.X.j;have hyv:=ab (fun p (hp:p∈[(y,g.ay),(y3,(k.cell TA tc).ay),(W.a.j,N7.ay)])=>((Bg.2 p hp).2.lt:p.1<w9.a.j));generalize w9.a.j=z at *;clear hb Bg;have zS:=ZN.i.Z.S 0 5 (aU (Pt.J rD).symm);refine⟨gV w8 z 0 pt.ay,?_,?_⟩
    ·simp[go_sem,zS]
    simp only[mE,bI,bH,bQ,jW,lN];have Z4:=ab (ZN.i.put (fun p hp=>iO (hyv.i p hp)) pt.ay (by rw[Pt.J,Pt.J]));clear zS ZN hyy hyv;generalize gV w8 z 0 pt.ay=w4 at Z4 ⊢;go_step;go_step;go_step;obtain⟨u1,u2,u3,u4⟩:=Z4.i.Z.R;by_cases h4:e3≠0
    ·have q:(e3==0)=false:=by simp[h4]
     go_wp2_with (go_at_call 92;(with_reducible refine(NO.i 6 _).g ?_);rintro e w4 ⟨rfl,rfl⟩);rw[HP.i,if_neg h2,if_neg (by rw[hf];simp),if_neg hp,if_pos h4];exact Qq _ 6 rfl Z4.i.b3 (Pk.J _) Z4.i.X
    obtain rfl:e3=0:=by simpa using h4
    obtain⟨v1,v2,v3,v4⟩:=Z4.i.b1.R;have Z5:=ab (Z4.i.new (Tu.mk g.h g.dst g.aN pt.kg pt.iG).ay 81);go_upto_region 12 with(go_at_call 92;(with_reducible refine(OK.i 6 _).g ?_);rintro e w4 ⟨rfl,rfl⟩)
    clear u1 u2 u3 u4 v1 v2 v3 v4;generalize w4.alloc (.D (Tu.mk g.h g.dst g.aN pt.kg pt.iG).ay 81)=w5 at Z5 ⊢;generalize w4.a.j=x5 at *;have Zw:=ab (Z5.i.sub (L':=[(W.a.j,N7.ay)]) (by simp));obtain⟨c1,c2⟩:=F3.i _ _ (Z5.i.sub (L':=[(y3,(k.cell TA tc).ay)]) (by simp));obtain⟨d1,d2,d3⟩:=F5.i _ (Z5.i.sub (by simp));obtain⟨m1,m2,m3,m4⟩:=Z5.i.Z.R;have pz:=(Z5.i.b1.R.1 2).trans (Pt.JD _);have thw:=Zw.i.Z.S 0 42 (aU (Pk.J N7).symm);have Z6:=ab (Zw.i.put (fun p hp=>by cases hp) (Pk.mk 0 (Tu.mk g.h g.dst g.aN pt.kg pt.iG) pt.sW k.dW a1 b1).ay (by rw[Pk.J,Pk.J]));go_wp2;rw[HP.i,if_neg h2,if_neg (by rw[hf];simp),if_neg hp,if_neg h4];exact auX _ _ rfl Z6.i.Z Z6.i.X
end
section
attribute [local go_sem high] iR jI
end
section
open Go.ChangeShapes Go.WideShapes Go.ChangeAt Go.RowKit Go.Deep
section
variable {H:Type} {enc:bL×aB->H} {w:ak} {base:Nat} {spare:Nat->Bool} {held:Bool} {fuel:Nat} {cs:List aB} {x:DataW H×List MemPlace}
theorem ajL{P:fB}{k:Nat}{t e:bL}(ht:P.k t=some (.array k e))(he:P.k e=some (.b .a))(hc:P.cellsOf e=1)(hk:P.cellsOf t=k)(h:DataW.trod enc P w base spare held fuel t cs=some x):∃v:Vector Int k,cs=v.a.map (aI .a):=by
 obtain⟨xs,m,_,_,hl,hxl,hf⟩:=DataW.trod_array ht h;rw[hk]at hl;have hg:∀i,i<k->∃b:Int,cs[i]? = some (.b .a b):=fun i hi=>by
  have h1:=hf i hi;rw[hc,gP,aC (by omega)]at h1;obtain⟨b,hb,_,_⟩:=tN he h1;refine⟨b,?_⟩;rw[take1_drop cs i undef (by omega)]at hb;simp only[List.cons.injEq,and_true]at hb;rw[aC (by omega),<-hb,au,aC (by omega)];rfl
 obtain⟨f,hf⟩:∃f:Nat->Int,∀i,i<k->cs[i]? = some (.b .a (f i)):=by
  refine⟨fun i=>if hi:i<k then(hg i hi).choose else 0,fun i hi=>?_⟩;simp only[hi,dif_pos];exact(hg i hi).choose_spec
 refine⟨Vector.ofFn fun i:Fin k=>f i,?_⟩;apply iC;intro i;rcases aZ i k with hi|hi
 ·rw[hf i hi]
  simp[hi]
 ·rw[aT (by omega),aT (by simpa using hi)]
end
@[go_sem]theorem auY(w:ak):(Dk 0 #[]).O ah w=.ok (.a (some ⟨w.a.j,0,none⟩) 0 0) (w.alloc (.D #[] 5)):=by
 obtain⟨i0,hi0,hz0,hz1,hz2⟩:=Av;simp[Dk,bJ,dK dD,zeroValue,sizeOf,typeInfo,hi0,hz0,hz1,fJ,newRow,dz,show mK 0 = #[]by apply pU;rw[kF];rfl]
theorem gG.go{W w1:ak}{n:Nat}{A:Option aV}{l:List UInt8}(h:gG W W.a.j A n l)(hb:aM W.a.j W w1):gG w1 w1.a.j A n l:=(h.to hb (av _)).lD hb.j
end
@[go_sem]theorem auZ(w:ak)(a b:Int):(Dk 2 #[(0,.b .b a),(1,.b .b b)]).O ah w=.ok (.a (some ⟨w.a.j,0,none⟩) 2 2) (w.alloc (.D #[.b .b a,.b .b b] 5)):=by
 obtain⟨i0,hi0,hz0,hz1,hz2⟩:=Av;simp[Dk,bJ,dK dD,zeroValue,sizeOf,typeInfo,hi0,hz0,hz1,fJ,newRow,dz,afV]
theorem Wh(w:ak)(c:Array aB)(l:List UInt8)(h:c.a=l.map bv):gG (w.alloc (.D c 5)) (w.a.j+1) (some ⟨w.a.j,0,none⟩) l.a l:=by
 refine⟨by simp,fun _=>⟨_,rfl,by simp,fun j u hu=>?_⟩⟩;rw[iL,bC];have:=nK w c 5 j;rw[this,<-hu,<-h];simp
theorem yK(l:List UInt8)(i:Nat)(h:i<l.a):l.E (i+1)=l.E i++[l.b i 0]:=by
 rw[List.take_add_one,aC h,au,aC h];rfl
end Go.Proofs.YtkjojjopamaoiaaGreat
