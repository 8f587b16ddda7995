/- Parts. -/
import Derived.Test.YtkjojjopamaoiaaGreatSb5
import Derived.Test.YtkjojjopamaoiaaGreatSb2
import Derived.Shelf.SlSortCmp.NoneTotal
import Derived.Lib.BytesEntry
import Derived.Shelf.Bits.Mul64
set_option linter.unusedSimpArgs false
set_option linter.unusedVariables false
set_option linter.unusedSectionVars false
set_option maxRecDepth 100000
set_option maxHeartbeats 8000000
open Array renaming range->lW,ext'->oQ,toList_range->kg,length_toList->aZ,getElem?_append->aD,getElem?_toList->dD,getElem?_extract->dx,size_append->nV,ext_getElem?->dZ,getElem?_setIfInBounds->dQ,extract_append->dA,mapM->iy,setIfInBounds_append->aM,getElem?_eq_none->aU,replicate_succ->gy,replicate_zero->gB,all_eq_true'->xG,getElem?_eq_getElem->fD,getElem?_eq_some_iff->bW,getElem?_modify->zy,size->Array.j,toList->Array.a,getD->Array.c,setIfInBounds->Array.b,extract->Array.m
open BitVec renaming ofInt->fZ,ofNat->GK,ofInt_natCast->lU,toNat_ofNat->ny,toNat->BitVec.e
open Bool renaming and_eq_true->bl,false_eq_true->jI,not_eq_true'->nZ,or_eq_true->nu
open ByteArray renaming size->ByteArray.j,toList->ByteArray.a,extract->ByteArray.m
open Exists renaming intro->rJ
open Go renaming World->ak,Ending->lq,Value->aB,Addr->aT,Calls->aP,wpQuiet_nil->gK,TypeId->bF,Program->eG,run_underlying->dJ,bodyPost_ret->aN,info_parts->zi,setRow_other->oL,Oper->iZ,Act->qR,Exit->zO,Operand->pG,wpList_plain->sO,Field->nS,Fence->Kl,SeqStopsK->vN,CallsIn->LQ,callsIn_of_wp_marks->qX,wpIn_rangeFunc_ownH->yw,belowK_b->vJ,ownFrom_below->yJ,wpListIn_append_own->DW,run_takeDeferred->uw,results_tmp->Hu,callsIn_wide->mU,results_none->vk,underlying->Go.k
open Go.Addr renaming add_mid->iC,add->qy
open Go.BoundsCode renaming toNat->Go.BoundsCode.e
open Go.Calls renaming mono->Go.Calls.g
open Go.CallsD renaming mono->Go.CallsD.g
open Go.DataW renaming agg->Go.DataW.d
open Go.Ending renaming returned->Go.Ending.a
open Go.Extern.Bytes renaming bytesOf->ug
open Go.Fence renaming wide->nG
open Go.Field renaming offset->Go.Field.Y
open Go.FrameMode renaming run->Go.FrameMode.I
open Go.Func renaming name->Go.Func.E
open Go.Instr renaming buildSlice->bJ,fill->fE,loadAt->bZ,storeAt->eD,build->fM,makeSlice->xD,slice->Go.Instr.a,extract->Go.Instr.m
open Go.IntKind renaming i64->bR,u64->jy,wrap_u64->jU,u8->aW,wrap_u8->GN,wrap->vI,bits->nP,signed->lT,i64->Go.IntKind.a,u8->Go.IntKind.b,u64->Go.IntKind.c
open Go.Lib renaming hid->ab
open Go.Obj renaming cells->eB,cells->Go.Obj.D
open Go.Op renaming bytesLess->bQ,slice->Go.Op.a,extract->Go.Op.m
open Go.Oper renaming wp->ni,semAt_some->qo,dst->Go.Oper.X
open Go.Operand renaming tmp->Go.Operand.a
open Go.Program renaming underlying->Go.Program.k
open Go.Proofs.Mul64 renaming wrapN->vK
open Go.Proofs.Tryz renaming prog->ah,underlying56->cu,underlying189->oW,underlying192->oV,underlying70->og,underlying213->uf,underlying207->Dr,underlying280->Dt,underlying34->EK,underlying75->vg,underlying22->qh,underlying0->GL,zeroValue0->Jt,underlying3->gQ,zeroValue3->Ju,underlying4->nJ,zeroValue4->Jv,underlying5->lC,underlying9->iO,isAgg9->KV,sizeOf9->Ht,zeroValue9->AV,underlying155->Du,underlying86->mV
open Go.Region renaming wanted->fF
open Go.Result renaming andThen->iD,ok->Go.Result.Z
open Go.ResultVar renaming tmp->Go.ResultVar.a
open Go.RoundIn renaming mono->Go.RoundIn.g
open Go.RowKit renaming Below->aL
open Go.RowKit.Below renaming refl->aG,size->Go.RowKit.Below.j,mono->Go.RowKit.Below.g,setCell->Go.RowKit.Below.F
open Go.RowKit.Hid renaming out->Go.RowKit.Hid.i
open Go.Sem renaming run_bind->jK,run_pure->oh,run->Jr,run->Go.Sem.I
open Go.Shut renaming out->Go.Shut.i
open Go.Sort renaming size_flatK->xH
open Go.TypeDesc renaming slice->Go.TypeDesc.a,int->Go.TypeDesc.b,bool->Go.TypeDesc.e
open Go.TypeInfo renaming size->Go.TypeInfo.j
open Go.Value renaming pointer->rZ,int->aI,cells->cK,ownBlock->jY,slice->bD,oneCell'->cZ,agg->bY,bool->bM,string->iB,cells->Go.Value.D,slice->Go.Value.a,int->Go.Value.b,pointer->Go.Value.c,agg->Go.Value.d,bool->Go.Value.e,tuple->Go.Value.J,ownBlock->Go.Value.f,oneCell'->Go.Value.h,string->Go.Value.g
open Go.World renaming frozen?->rY,setRow->rT,size_alloc->sU,ownsRow_nil->fu,heap->Go.World.a,cell?->Go.World.b,setCell->Go.World.F,ownsRow->Go.World.c,there->Go.World.M,grownBy->Go.World.d
open Go.World.grownBy renaming size->Go.World.grownBy.j
open Int renaming toNat_of_nonneg->lG,toNat_natCast->dS,tmod->LV,tmod_eq_emod_of_nonneg->mo,toNat->Int.e
open List renaming set_cons_succ->bH,set_cons_zero->bP,take_succ_cons->jP,take_zero->j4,setIfInBounds_toArray->bI,drop_succ_cons->jQ,drop_zero->kY,length_drop->jD,getElem?_eq_getElem->aC,getD_eq_getElem?_getD->au,ext_getElem?->iL,getElem?_eq_none->aS,getElem?_take_of_lt->gY,map_cons->kL,map_nil->pI,length_append->aR,length_take->bK,append_assoc->dB,take_of_length_le->aK,nil_append->dF,getElem?_append_left->mM,getElem?_take->jq,getElem?_append_right->qY,getElem?_drop->jo,drop_of_length_le->iW,length_map->bU,flatMap_cons->iM,cons_append->gZ,getElem_mem->eU,take_succ_eq_append_getElem->dR,flatMap_append->wJ,length_set->aV,mem_append->qm,mem_singleton->fG,mem_map->iV,getElem?_map->jk,map_take->Ad,getElem?_append->kR,range->dP,append_nil->uF,drop_drop->KR,mem_cons->bg,map_map->Hq,map_congr_left->BR,findIdx?_eq_some_iff_getElem->gV,getElem?_set->fJ,mem_filter->mh,not_mem_nil->fO,eq_nil_of_length_eq_zero->bE,length_cons->bC,length_nil->gL,all_eq_true->gJ,mem_iff_getElem->lZ,pairwise_iff_getElem->fT,any_eq_false->qj,mem_take_iff_getElem->rM,mem_range->eO,take_take->vL,foldl_cons->jW,size_toArray->dI,push_toArray->iN,append_toArray->gP,replicate->dX,getElem?_replicate->sZ,length_replicate->oN,length->List.a,toArray->List.b,getD->List.c,take->List.d,drop->List.f,flatMap->List.h,below->List.O,extract->List.m
open Nat renaming le_refl->av,le_of_eq->aX,ne_of_lt->jL,mul_one->gH,lt_or_ge->aY,zero_add->bB,mod_eq_of_lt->fP,ne_of_gt->uq,lt_succ_self->mF,min->ql,le_trans->aO,le_succ_of_le->kQ,le_of_lt->mG,shiftLeft_eq->mE,add_assoc->mZ,add_zero->nD,eq_zero_or_pos->eu,mod_lt->fH,mul_comm->Cw,mul_le_mul_right->dw,reduceAdd->kN,reduceSub->kP,mul_le_mul->gU,zero_le->je,lt_of_lt_of_le->eY,below->Nat.O
open Option renaming map_some->lV,getD_some->jB,toList->Option.a,getD->Option.c
open Or renaming inl->Or.a,inr->Or.b
open UInt8 renaming ofNat->aJ,toNat->UInt8.e
open Vector renaming ofFn->DT,getElem_ofFn->AA,length_toList->nH,replicate->bG,toList->Vector.a
namespace Go.Proofs.YtkjojjopamaoiaaGreat
open Go.RowKit
section
attribute [local go_sem high] iY jH
def PkP(W:ak)(x:Pk)(e:lq)(W':ak):Prop:=e=.a (.d x.ay)/\aL W.a.j W W'
theorem Qs{W w:ak}{c:Array aB}(tmps:Array aB)(k:Int)(ht:tmps.c 2 undef=.c (some ⟨W.a.j,0,none⟩))(hb:dK w W.a.j c)(hc:c.j=42)(hl:aL W.a.j W w):
 bodyPostD ah Tryz.f32 (PkP W (xA k)) (Exit.panic [{v:=ado k,recovered:=false}]) {tmps:=tmps,defers:=[{target:=Target.fn (Fn.func 90) #[rZ (some ⟨W.a.j,0,none⟩)],args:=#[]}]} w:=by
 refine leaves_cons (f:=90) (args:=#[.c (some ⟨W.a.j,0,none⟩)]) (by simp) (by simp[go_sem]) ?_;have hr:=kPk.yV (fn:=Tryz.f32) (p:=2) (by kernel_rfl) tmps ht (hb.put (xA k).ay (by rw[Pk.G,hc])) (Pk.G _);have hb2:=kZ hl W.a.j 0 (xA k).ay (av _);have hq:=Sm W.a.j k [] w (hb.M 0 42 (by omega));generalize gT w W.a.j 0 (xA k).ay=w2 at *;refine hq.g ?_;rintro e u' w'' ⟨he,hu,hw⟩;rw[he,hu,hw];exact⟨_,hr,rfl,hb2⟩
theorem auk{W w:ak}(tmps:Array aB)(x:Pk)(ht:tmps.c 2 undef=.c (some ⟨W.a.j,0,none⟩))(hb:dK w W.a.j x.ay)(hl:aL W.a.j W w):
 bodyPostD ah Tryz.f32 (PkP W x) Exit.ret {tmps:=tmps,defers:=[{target:=Target.fn (Fn.func 90) #[rZ (some ⟨W.a.j,0,none⟩)],args:=#[]}]} w:=by
 have hr:=kPk.yV (fn:=Tryz.f32) (p:=2) (by kernel_rfl) tmps ht hb (Pk.G _);refine leaves_cons (f:=90) (args:=#[.c (some ⟨W.a.j,0,none⟩)]) (by simp) (by simp[go_sem]) ?_;refine(afN W.a.j w).g ?_;rintro e u' w'' ⟨rfl,rfl,rfl⟩;exact⟨_,hr,rfl,hl⟩
theorem I8(W:ak)(A:Option aT)(n c:Nat)(l:List UInt8)(hnc:n<=c)(hc:c<=9223372036854775807/\n<=1000000000)(hr:fU W W.a.j A n l):aP ah 32 #[.a A n c] W (PkP W (vT l)):=by
 have HR:=ab hr;have hl:=ab hr.len;have b0:=ab ((Bx.start W).new Nk.ay 83);have CL:=ab (Nv _ A n c l hnc hc (b0.i.Lv hr));clear hr;have hmf:∀(fn:Fn)(first cap:Array aB)(w:ak),(Instr.makeFunc fn first cap).I ah w = .Z (.func fn first cap) w:=fun _ _ _ _=>rfl
 have NO:=ab apU;have OK:=ab apT;go_enter_defers Tryz.func32,Tryz.ntmps32;obtain⟨r,hrr⟩:=cB (mq l);have HRR:=ab hrr;obtain⟨k,er⟩:=r;unfold LkP at CL;rw[<-hrr]at CL;clear hrr;by_cases h1:er≠0
 ·have q:(er==0)=false:=by simp[h1]
  have H:=ab (show vT l=xA 1 by unfold vT;rw[<-HRR.i,if_pos h1]);go_wp2_with (first|(go_at_call 91;with_reducible refine CL.i.g ?_;rintro e w1 ⟨TA,tc,rfl,_,hb1⟩;have Z1:=ab ((b0.i.go hb1).new (k.cell TA tc).ay 108);clear hb1)|(go_at_call 92;with_reducible refine(NO.i 1 _).g ?_;rintro e w2 ⟨rfl,rfl⟩));rw[H.i];exact Qs _ 1 rfl Z1.i.b1 (Pk.G _) Z1.i.R
 obtain rfl:er=0:=by simpa using h1
 obtain⟨wM,ads⟩:=afL (l:=l) (by rw[<-HRR.i]);rw[<-HRR.i]at wM ads;rw[hl.i]at ads;simp only at wM ads;go_upto_region 4 with(first|(go_at_call 91;with_reducible refine CL.i.g ?_;rintro e w1 ⟨TA,tc,rfl,_,hb1⟩;have Z1:=ab ((b0.i.go hb1).new (k.cell TA tc).ay 108);have hy3:=(b0.i.go hb1).S.lt;clear hb1)|(go_at_call 92;with_reducible refine(OK.i 1 _).g ?_;rintro e w2 ⟨rfl,rfl⟩))
 generalize w1.alloc (.D (k.cell TA tc).ay 108)=w2 at Z1 ⊢;generalize w1.a.j=y3 at *;have F3:=ab (fun(L:List (Nat×Array aB)) (w:ak) (h:Bx ((y3,(k.cell TA tc).ay)::L) W w)=>show w.b ⟨y3,13,none⟩=some (.b .a k.ou)/\w.b ⟨y3,14,none⟩=some (.b .a (k.fI:Nat))from⟨(h.S.K.1 13).trans (Lc.DJ _),(h.S.K.1 14).trans (Lc.Lp _)⟩);obtain⟨f1,f2⟩:=F3.i _ _ Z1.i;by_cases hty:k.ou≠2048/\k.ou≠34525
 ·have q1:(k.ou==2048)=false:=by simp[hty.1]
  have q2:(k.ou==34525)=false:=by simp[hty.2]
  have H:=ab (show vT l=xA 2 by unfold vT;rw[<-HRR.i];rw[if_neg (by simp),if_pos hty]);go_wp2_with (go_at_call 92;with_reducible refine(NO.i 2 _).g ?_;rintro e w3 ⟨rfl,rfl⟩);rw[H.i];exact Qs _ 2 rfl Z1.i.b1 (Pk.G _) Z1.i.R
 have HTY:=ab hty;go_cut []from 17 to 25 (fun wx=>wx=w2)
 case first=>
  by_cases q0:k.ou=2048
  ·have q1:(k.ou==2048)=true:=by simp[q0]
   go_wp2_with (go_at_call 92;with_reducible refine(OK.i 2 _).g ?_;rintro e w3 ⟨rfl,rfl⟩);go_meet
   case rel=>rfl
  ·have q1:(k.ou==2048)=false:=by simp[q0]
   have q2:(k.ou==34525)=true:=by simp;omega
   go_wp2_with (go_at_call 92;with_reducible refine(OK.i 2 _).g ?_;rintro e w3 ⟨rfl,rfl⟩);go_meet
   case rel=>rfl
 have hcut:=hcut;rw[hcut];clear hcut f1 f2;have wM:=wM;obtain⟨g,hg⟩:=cB (mO l);have HG:=ab hg;have HG2:=ab (show g=YJ k.ou (l.f k.fI)by rw[hg];unfold mO;rw[<-HRR.i]);clear hg;obtain⟨g,e2⟩:=g;have i1:(k.fI:Int)<=n:=by omega
 have CI:=ab (fun(w:ak) (h:Bx [(y3,(k.cell TA tc).ay),(W.a.j,Nk.ay)] W w)=>afM w k.ou (vF A k.fI c 1) (n-k.fI) (c-k.fI) (l.f k.fI) (by omega) (by omega) ((h.Lv HR.i).yD (by omega) hnc));rw[<-HG2.i]at CI;go_upto_region 5 with fail
 refine wV (Bx.aa3 ([(y3,(k.cell TA tc).ay),(W.a.j,Nk.ay)]) W) 10 11 9 5 35 168 aaT.ay (by kernel_rfl) rfl rfl rfl rfl rfl (by kernel_rfl) (by kernel_rfl) (by kernel_rfl) (by kernel_rfl) (by kernel_rfl) rfl rfl rfl (fun a w=>by simp[go_sem]) (tJ rfl) Z1.i.drew ?_;apply rJ;refine⟨fun T f hT es ew=>?_,?_⟩
 ·have EW:=ab ew
  have ES:=ab es;have k1:=fun m=>(F3.i _ _ (ES.i m)).1
  have k2:=fun m=>(F3.i _ _ (ES.i m)).2
  have CF:=ab (fun m=>CI.i _ (ES.i m));clear es ew;simp only[mK,xZ,kX,bH,bP,jP,j4]
  repeat(go_big_quiet_step ((first|(go_at_call 93;(with_reducible refine(CF.i _).g ?_);rintro e w2 ⟨rfl,hb⟩;exact⟨rfl,EW.i _ _ hb⟩))))
  exact gK rfl
 ·intro w9 w8 zK _ hb
  have ZN:=ab ((zK.new aaT.ay 168).go hb);have hyy:=ab zK;have hy:=zK.R.j;have hyv:=ab (fun p (hp:p∈[(y3,(k.cell TA tc).ay),(W.a.j,Nk.ay)])=>((zK.2 p hp).2.lt:p.1<w9.a.j));generalize w9.a.j=y at *;clear hb zK;have yE:=ZN.i.S.M 0 38 (aX (Nt.G aaT).symm);refine⟨gT w8 y 0 g.ay,?_,?_⟩
  ·simp[go_sem,yE]
  simp only[Act.put,bI,bH,bP,jQ,kY];have Z2:=ab (ZN.i.put (fun p hp=>jL (hyv.i p hp)) g.ay (by rw[Nt.G,Nt.G]));clear yE ZN hyy hyv;generalize gT w8 y 0 g.ay=w3 at Z2 ⊢;go_step;go_step;go_step;obtain⟨y1,y2,y3',y4⟩:=Z2.i.S.K;have HP:=ab (show vT l=(if e2≠0 then xA 3 else if g.oI=true then xA 4 else if g.aQ≠6/\g.aQ≠17 then xA 5 else if(I5 g.aQ ((l.d (k.fI+g.dz.e)).f (k.fI+g.head.e))).2≠0 then xA 6
   else⟨0,⟨g.h,g.X,g.aQ,(I5 g.aQ ((l.d (k.fI+g.dz.e)).f (k.fI+g.head.e))).1.kV,(I5 g.aQ ((l.d (k.fI+g.dz.e)).f (k.fI+g.head.e))).1.j6⟩,(I5 g.aQ ((l.d (k.fI+g.dz.e)).f (k.fI+g.head.e))).1.uR,k.fI,k.fI+g.head,k.fI+g.dz⟩)by
   unfold vT LA;rw[<-HRR.i,<-HG.i,if_neg (by simp),if_neg HTY.i])
  by_cases h2:e2≠0
  ·have q:(e2==0)=false:=by simp[h2]
   go_wp2_with (go_at_call 92;(with_reducible refine(NO.i 3 _).g ?_);rintro e w4 ⟨rfl,rfl⟩);rw[HP.i,if_pos h2];exact Qs _ 3 rfl Z2.i.b2 (Pk.G _) Z2.i.R
  obtain rfl:e2=0:=by simpa using h2
  cases hf:g.oI
  case true=>
   go_wp2_with (first|(go_at_call 92;(with_reducible refine(OK.i 3 _).g ?_);rintro e w4 ⟨rfl,rfl⟩)|(go_at_call 92;(with_reducible refine(NO.i 4 _).g ?_);rintro e w4 ⟨rfl,rfl⟩));rw[HP.i,if_neg h2,if_pos hf];exact Qs _ 4 rfl Z2.i.b2 (Pk.G _) Z2.i.R
  case false=>
   have CC:=ab (adn g.aQ w3);by_cases hp:g.aQ≠6/\g.aQ≠17
   ·rw[show(decide (g.aQ=6)||decide (g.aQ=17))=false by simp[hp.1,hp.2]]at CC
    go_wp2_with (first|(go_at_call 92;(with_reducible refine(OK.i 3 _).g ?_);rintro e w4 ⟨rfl,rfl⟩)|(go_at_call 92;(with_reducible refine(OK.i 4 _).g ?_);rintro e w4 ⟨rfl,rfl⟩)|(go_at_call 94;(with_reducible refine CC.i.g ?_);rintro e w4 ⟨rfl,rfl⟩)|(go_at_call 92;(with_reducible refine(NO.i 5 _).g ?_);rintro e w4 ⟨rfl,rfl⟩));rw[HP.i,if_neg h2,if_neg (by rw[hf];simp),if_pos hp];exact Qs _ 5 rfl Z2.i.b2 (Pk.G _) Z2.i.R
   rw[show(decide (g.aQ=6)||decide (g.aQ=17))=true by simp;omega]at CC;obtain⟨g1,g2,g3⟩:=amr (k:=k.ou) (l:=l.f k.fI) (by rw[<-HG2.i]);rw[<-HG2.i,jD,hl.i]at g3;rw[<-HG2.i]at g1 g2;simp only at g1 g2 g3;obtain⟨a1,ha1⟩:∃a1:Nat,(k.fI:Int)+g.head=a1:=⟨k.fI+g.head.e,by omega⟩
   obtain⟨b1,hb1⟩:∃b1:Nat,(k.fI:Int)+g.dz=b1:=⟨k.fI+g.dz.e,by omega⟩
   have e1:k.fI+g.head.e=a1:=by omega
   have e1':k.fI+g.dz.e=b1:=by omega
   have hab:a1<=b1/\b1<=n:=by omega
   rw[e1,e1',ha1,hb1]at HP;have hw1:bR.wrap ((k.fI:Int)+g.head)=(a1:Int):=by rw[ha1];exact jS _ (by omega)
   have hw2:bR.wrap ((k.fI:Int)+g.dz)=(b1:Int):=by rw[hb1];exact jS _ (by omega)
   obtain⟨j1,j2⟩:(a1:Int)<=b1/\(b1:Int)<=c:=by omega
   have j0:(0:Int)<=a1:=by omega
   have CP:=ab (fun(w:ak) (h:Bx [(y,g.ay),(y3,(k.cell TA tc).ay),(W.a.j,Nk.ay)] W w)=>aa1 w g.aQ (vF A a1 c 1) (b1-a1) (c-a1) ((l.d b1).f a1) (by omega) (by omega) ((h.Lv HR.i).adi hab.1 hab.2 hnc));unfold PtP at CP;obtain⟨pr,hpr⟩:=cB (I5 g.aQ ((l.d b1).f a1));obtain⟨pt,e3⟩:=pr;rw[<-hpr]at CP HP;clear hpr ha1 hb1 e1 e1' g1 g2 g3 hab;have F5:=ab (fun(w:ak) (h:Bx [(y,g.ay),(y3,(k.cell TA tc).ay),(W.a.j,Nk.ay)] W w)=>show w.b ⟨y,0,none⟩=some (.b .a g.head)/\w.b ⟨y,1,none⟩=some (.b .a g.dz)/\w.b ⟨y,2,none⟩=some (.b .a g.aQ)from⟨(h.S.K.1 0).trans (Nt.JO _),(h.S.K.1 1).trans (Nt.xY _),(h.S.K.1 2).trans (Nt.Bv _)⟩);go_upto_region 9 with(first|(go_at_call 92;(with_reducible refine(OK.i 3 _).g ?_);rintro e w4 ⟨rfl,rfl⟩)|(go_at_call 92;(with_reducible refine(OK.i 4 _).g ?_);rintro e w4 ⟨rfl,rfl⟩)|(go_at_call 94;(with_reducible refine CC.i.g ?_);rintro e w4 ⟨rfl,rfl⟩)|(go_at_call 92;(with_reducible refine(OK.i 5 _).g ?_);rintro e w4 ⟨rfl,rfl⟩))
   clear y1 y2 y3' y4;refine wV (Bx.aa3 ([(y,g.ay),(y3,(k.cell TA tc).ay),(W.a.j,Nk.ay)]) W) 18 19 17 6 64 172 qJ.ay (by kernel_rfl) rfl rfl rfl rfl rfl (by kernel_rfl) (by kernel_rfl) (by kernel_rfl) (by kernel_rfl) (by kernel_rfl) rfl rfl rfl (fun a w=>by simp[go_sem]) (tJ rfl) Z2.i.drew ?_;apply rJ;refine⟨fun T f hT es ew=>?_,?_⟩
   ·have EW:=ab ew
    have ES:=ab es;have k1:=fun m=>(F5.i _ (ES.i m)).1
    have k2:=fun m=>(F5.i _ (ES.i m)).2.1
    have k3:=fun m=>(F5.i _ (ES.i m)).2.2
    have k4:=fun m=>(F3.i _ _ (ES.i m).swap).2
    have CF:=ab (fun m=>CP.i _ (ES.i m));clear es ew;simp only[mK,xZ,kX,bH,bP,jP,j4]
    repeat(go_big_quiet_step ((first|(go_at_call 95;(with_reducible refine(CF.i _).g ?_);rintro e w2 ⟨rfl,hb⟩;exact⟨rfl,EW.i _ _ hb⟩))))
    exact gK rfl
   ·intro w9 w8 zK _ hb
    have ZN:=ab ((zK.new qJ.ay 172).go hb);have hyy:=ab zK;have hy:=zK.R.j;have hyv:=ab (fun p (hp:p∈[(y,g.ay),(y3,(k.cell TA tc).ay),(W.a.j,Nk.ay)])=>((zK.2 p hp).2.lt:p.1<w9.a.j));generalize w9.a.j=z at *;clear hb zK;have yE:=ZN.i.S.M 0 5 (aX (Pt.G qJ).symm);refine⟨gT w8 z 0 pt.ay,?_,?_⟩
    ·simp[go_sem,yE]
    simp only[Act.put,bI,bH,bP,jQ,kY];have Z4:=ab (ZN.i.put (fun p hp=>jL (hyv.i p hp)) pt.ay (by rw[Pt.G,Pt.G]));clear yE ZN hyy hyv;generalize gT w8 z 0 pt.ay=w4 at Z4 ⊢;go_step;go_step;go_step;obtain⟨u1,u2,u3,u4⟩:=Z4.i.S.K;by_cases h4:e3≠0
    ·have q:(e3==0)=false:=by simp[h4]
     go_wp2_with (go_at_call 92;(with_reducible refine(NO.i 6 _).g ?_);rintro e w4 ⟨rfl,rfl⟩);rw[HP.i,if_neg h2,if_neg (by rw[hf];simp),if_neg hp,if_pos h4];exact Qs _ 6 rfl Z4.i.b3 (Pk.G _) Z4.i.R
    obtain rfl:e3=0:=by simpa using h4
    obtain⟨v1,v2,v3,v4⟩:=Z4.i.b1.K;have Z5:=ab (Z4.i.new (Tu.mk g.h g.X g.aQ pt.kV pt.j6).ay 81);go_upto_region 12 with(go_at_call 92;(with_reducible refine(OK.i 6 _).g ?_);rintro e w4 ⟨rfl,rfl⟩)
    clear u1 u2 u3 u4 v1 v2 v3 v4;generalize w4.alloc (.D (Tu.mk g.h g.X g.aQ pt.kV pt.j6).ay 81)=w5 at Z5 ⊢;generalize w4.a.j=x5 at *;have Zw:=ab (Z5.i.sub (L':=[(W.a.j,Nk.ay)]) (by simp));obtain⟨c1,c2⟩:=F3.i _ _ (Z5.i.sub (L':=[(y3,(k.cell TA tc).ay)]) (by simp));obtain⟨d1,d2,d3⟩:=F5.i _ (Z5.i.sub (by simp));obtain⟨m1,m2,m3,m4⟩:=Z5.i.S.K;have pz:=(Z5.i.b1.K.1 2).trans (Pt.Nj _);have thw:=Zw.i.S.M 0 42 (aX (Pk.G Nk).symm);have Z6:=ab (Zw.i.put (fun p hp=>by cases hp) (Pk.mk 0 (Tu.mk g.h g.X g.aQ pt.kV pt.j6) pt.uR k.fI a1 b1).ay (by rw[Pk.G,Pk.G]));go_wp2;rw[HP.i,if_neg h2,if_neg (by rw[hf];simp),if_neg hp,if_neg h4];exact auk _ _ rfl Z6.i.S Z6.i.R
end
section
attribute [local go_sem high] iY jH
end
section
open Go.ChangeShapes Go.WideShapes Go.ChangeAt Go.RowKit Go.Deep
section
variable {H:Type} {enc:bF×aB->H} {w:ak} {base:Nat} {spare:Nat->Bool} {held:Bool} {fuel:Nat} {cs:List aB} {x:DataW H×List MemPlace}
theorem aji{P:eG}{k:Nat}{t e:bF}(ht:P.k t=some (.array k e))(he:P.k e=some (.b .a))(hc:P.cellsOf e=1)(hk:P.cellsOf t=k)(h:DataW.trod enc P w base spare held fuel t cs=some x):∃v:Vector Int k,cs=v.a.map (aI .a):=by
 obtain⟨xs,m,_,_,hl,hxl,hf⟩:=DataW.trod_array ht h;rw[hk]at hl;have hg:∀i,i<k->∃b:Int,cs[i]? = some (.b .a b):=fun i hi=>by
  have h1:=hf i hi;rw[hc,gH,aC (by omega)]at h1;obtain⟨b,hb,_,_⟩:=sD he h1;refine⟨b,?_⟩;rw[take1_drop cs i undef (by omega)]at hb;simp only[List.cons.injEq,and_true]at hb;rw[aC (by omega),<-hb,au,aC (by omega)];rfl
 obtain⟨f,hf⟩:∃f:Nat->Int,∀i,i<k->cs[i]? = some (.b .a (f i)):=by
  refine⟨fun i=>if hi:i<k then(hg i hi).choose else 0,fun i hi=>?_⟩;simp only[hi,dif_pos];exact(hg i hi).choose_spec
 refine⟨DT fun i:Fin k=>f i,?_⟩;apply iL;intro i;rcases aY i k with hi|hi
 ·rw[hf i hi]
  simp[hi]
 ·rw[aS (by omega),aS (by simpa using hi)]
end
@[go_sem]theorem aul(w:ak):(Bu 0 #[]).I ah w = .Z (.a (some ⟨w.a.j,0,none⟩) 0 0) (w.alloc (.D #[] 5)):=by
 obtain⟨i0,hi0,hz0,hz1,hz2⟩:=zo;simp[Bu,bJ,dJ cu,zeroValue,sizeOf,typeInfo,hi0,hz0,hz1,fE,newRow,cK,show lW 0 = #[]by apply oQ;rw[kg];rfl]
theorem fU.go{W w1:ak}{n:Nat}{A:Option aT}{l:List UInt8}(h:fU W W.a.j A n l)(hb:aL W.a.j W w1):fU w1 w1.a.j A n l:=(h.to hb (av _)).lF hb.j
end
@[go_sem]theorem aum(w:ak)(a b:Int):(Bu 2 #[(0,.b .b a),(1,.b .b b)]).I ah w = .Z (.a (some ⟨w.a.j,0,none⟩) 2 2) (w.alloc (.D #[.b .b a,.b .b b] 5)):=by
 obtain⟨i0,hi0,hz0,hz1,hz2⟩:=zo;simp[Bu,bJ,dJ cu,zeroValue,sizeOf,typeInfo,hi0,hz0,hz1,fE,newRow,cK,afv]
theorem VT(w:ak)(c:Array aB)(l:List UInt8)(h:c.a=l.map bv):fU (w.alloc (.D c 5)) (w.a.j+1) (some ⟨w.a.j,0,none⟩) l.a l:=by
 refine⟨by simp,fun _=>⟨_,rfl,by simp,fun j u hu=>?_⟩⟩;rw[iC,bB];have:=mQ w c 5 j;rw[this,<-hu,<-h];simp
theorem xB(l:List UInt8)(i:Nat)(h:i<l.a):l.d (i+1)=l.d i++[l.c i 0]:=by
 rw[List.take_add_one,aC h,au,aC h];rfl
def psB(s d:fC)(p n:Nat):List UInt8:=
 if s.h=true then s.b.a.d 16++d.b.a.d 16++[0,0,aJ (n/256),aJ (n%256),0,0,0,aJ p]
 else s.b.a.d 4++d.b.a.d 4++[0,aJ p,aJ (n/256),aJ (n%256)]
theorem apW(s d:fC)(p n:Nat):(psB s d p n).a<=40:=by unfold psB;split<;>simp
theorem zL(a:fC)(k:Nat)(hk:k<=16):(a.b.a.d k).a=k/\∀i,i<k->a.ay[1+i]? = some (bv ((a.b.a.d k).c i 0)):=by
 refine⟨by simp;omega,fun i hi=>?_⟩;rw[Nat.add_comm 1 i,fC.D7 _ i (by omega)];simp[au,gY hi]
theorem yM(n:Nat)(h:n<=255):((aJ n).e:Int)=(n:Int):=by rw[UInt8.toNat_ofNat',fP (by omega)]
@[go_sem]theorem aun(w:ak)(a0 a1 a2 a3:Int):(Bu 4 #[(0,.b .b a0),(1,.b .b a1),(2,.b .b a2),(3,.b .b a3)]).I ah w = .Z (.a (some ⟨w.a.j,0,none⟩) 4 4) (w.alloc (.D #[.b .b a0,.b .b a1,.b .b a2,.b .b a3] 5)):=by
 obtain⟨i0,hi0,hz0,hz1,hz2⟩:=zo;have hr:lW 4 = #[0,1,2,3]:=by apply oQ;rw[kg];rfl
 simp[Bu,bJ,dJ cu,zeroValue,sizeOf,typeInfo,hi0,hz0,hz1,fE,newRow,cK,hr]
@[go_sem]theorem auo(w:ak)(a0 a1 a2 a3 a4 a5 a6 a7:Int):(Bu 8 #[(0,.b .b a0),(1,.b .b a1),(2,.b .b a2),(3,.b .b a3),(4,.b .b a4),(5,.b .b a5),(6,.b .b a6),(7,.b .b a7)]).I ah w = .Z (.a (some ⟨w.a.j,0,none⟩) 8 8) (w.alloc (.D #[.b .b a0,.b .b a1,.b .b a2,.b .b a3,.b .b a4,.b .b a5,.b .b a6,.b .b a7] 5)):=by
 obtain⟨i0,hi0,hz0,hz1,hz2⟩:=zo;have hr:lW 8 = #[0,1,2,3,4,5,6,7]:=by apply oQ;rw[kg];rfl
 simp[Bu,bJ,dJ cu,zeroValue,sizeOf,typeInfo,hi0,hz0,hz1,fE,newRow,cK,hr]
theorem apX(p n:Nat)(hp:p<=255)(hn:n<=65535)(wr:ak):fU (wr.alloc (.D #[.b .b 0,.b .b 0,.b .b ((n:Int)/256),.b .b ((n:Int)%256),.b .b 0,.b .b 0,.b .b 0,.b .b p] 5)) (wr.a.j+1) (some ⟨wr.a.j,0,none⟩) 8 [0,0,aJ (n/256),aJ (n%256),0,0,0,aJ p]:=
 VT wr #[.b .b 0,.b .b 0,.b .b ((n:Int)/256),.b .b ((n:Int)%256),.b .b 0,.b .b 0,.b .b 0,.b .b p] [0,0,aJ (n/256),aJ (n%256),0,0,0,aJ p] (by
  simp only[kL,pI,bv];rw[yM _ hp,yM (n/256) (by omega),yM (n%256) (by omega)];rfl)
theorem aup(p n:Nat)(hp:p<=255)(hn:n<=65535)(wr:ak):fU (wr.alloc (.D #[.b .b 0,.b .b p,.b .b ((n:Int)/256),.b .b ((n:Int)%256)] 5)) (wr.a.j+1) (some ⟨wr.a.j,0,none⟩) 4 [0,aJ p,aJ (n/256),aJ (n%256)]:=
 VT wr #[.b .b 0,.b .b p,.b .b ((n:Int)/256),.b .b ((n:Int)%256)] [0,aJ p,aJ (n/256),aJ (n%256)] (by
  simp only[kL,pI,bv];rw[yM _ hp,yM (n/256) (by omega),yM (n%256) (by omega)];rfl)
theorem Xv(s d:fC)(p n:Nat)(hp:p<=255)(hn:n<=65535)(w:ak):aP ah 259 #[.d s.ay,.d d.ay,.b .a p,.b .a n] w (Kc w (psB s d p n)):=by
 have aDl:=ab (apX p n hp hn);have PR4:=ab (aup p n hp hn);have h0:=((Ly.nil (w:=w)).new s.ay 27).new d.ay 27;rw[show(w.alloc (.D s.ay 27)).a.j=w.a.j+1 by simp]at h0;have S0:=ab h0;clear h0;obtain⟨q1,q2,q3,q4⟩:=S0.i.b1.K;obtain⟨p1,p2,p3,p4⟩:=S0.i.S.K;have x0:=fC.qw s;obtain⟨b6,hb6⟩:∃b,s.h=b:=⟨_,rfl⟩
 have H6:=ab hb6;rw[hb6]at x0;clear hb6;have n0:(0:Int)<=n:=by omega
 have n1:(n:Int)<=65535:=by omega
 have n2:(0:Int)<=p:=by omega
 have n3:(p:Int)<=255:=by omega
 cases b6
 ·have Gb:=ab (show([]:List UInt8).a=0 from rfl)
  obtain⟨ls,mY⟩:∃l,l=s.b.a.d 4:=⟨_,rfl⟩
  obtain⟨ld,hld⟩:∃l,l=d.b.a.d 4:=⟨_,rfl⟩
  have LS:=ab (show ls.a=4 by rw[mY];exact(zL s 4 (by omega)).1);have LD:=ab (show ld.a=4 by rw[hld];exact(zL d 4 (by omega)).1);have CS:=ab (show∀i,i<4->s.ay[1+i]? = some (bv (ls.c i 0))by rw[mY];exact(zL s 4 (by omega)).2);have CD:=ab (show∀i,i<4->d.ay[1+i]? = some (bv (ld.c i 0))by rw[hld];exact(zL d 4 (by omega)).2);have HT:=ab (show psB s d p n=ls++ld++[0,aJ p,aJ (n/256),aJ (n%256)]by rw[mY,hld];unfold psB;rw[H6.i];rfl);clear mY hld;go_enter Tryz.func259,Tryz.ntmps259;go_wp2;clear q1 q2 q3 q4 p1 p2 p3 p4;go_loopw [9,11] (fun sr si wr=>∃(i:Nat)(A':Option aT)(m' c':Nat),i<=4/\si=.b .a i/\sr=.a A' m' c'/\Ly w.a.j [(w.a.j+1,d.ay),(w.a.j,s.ay)] w wr (.a A' m' c') ([]++ls.d i)) (fun _ si _=>4-(intOf si).e)
  case atStart=>exact⟨0,_,_,_,by omega,rfl,rfl,by simpa using S0.i⟩
  case round=>
   obtain⟨i,A',m',c',hi,rfl,rfl,h⟩:=hrel;have HO:=ab h;clear h;by_cases hlt:i<4
   ·have hlt2:(i:Int)<4:=by omega
    obtain⟨q1,q2,q3,q4⟩:=HO.i.b1.K;have hlq:=HO.i.b1.lt;have hc:=CS.i i hlt;obtain⟨u,hu⟩:=tN (ls.c i 0);rw[hu]at hc;unfold bv at hc;have HS:=ab (xB ls i (by rw[LS.i];exact hlt));rw[hu]at HS;have L1:=ab (HO.i.alloc (.D #[.b .b (u.e:Int)] 5));have R1:=ab (Eo wr u _ rfl);have LX:=ab (show([]++ls.d i).a+1<=1000000000 by rw[aR,bK,Gb.i,LS.i];omega);go_wp2_with (at_builtin;refine kE rfl (.a 20) (.a 25) rfl rfl L1.i.o rfl R1.i LX.i ?_;intro A5 n5 c5 w5 h2 h3;have L2:=ab (L1.i.step h3);clear h2 h3);go_roundw
    case rel=>exact⟨i+1,A5,n5,c5,by omega,by go_num,rfl,by rw[HS.i,<-dB];exact L2.i⟩
    case measure=>simp[intOf]<;>omega
   ·have hge:¬(i:Int)<4:=by omega
    have HF:=ab (show ls.d i=ls from aK (by rw[LS.i];omega));rw[HF.i]at HO;clear HF;rw[dF]at HO;clear Gb S0;obtain⟨bs2,Fv⟩:∃b,b=ls:=⟨_,rfl⟩
    have Gb:=ab (show bs2.a=4 by rw[Fv,LS.i]);rw[<-Fv]at HO HT;clear Fv;go_wp2;clear hge hi hlt;go_loopw [9,12] (fun sr si wr=>∃(i:Nat)(A':Option aT)(m' c':Nat),i<=4/\si=.b .a i/\sr=.a A' m' c'/\Ly w.a.j [(w.a.j+1,d.ay),(w.a.j,s.ay)] w wr (.a A' m' c') (bs2++ld.d i)) (fun _ si _=>4-(intOf si).e)
    case atStart=>exact⟨0,_,_,_,by omega,rfl,rfl,by simpa using HO.i⟩
    case round=>
     obtain⟨i,A',m',c',hi,rfl,rfl,h⟩:=hrel;have HO:=ab h;clear h;by_cases hlt:i<4
     ·have hlt2:(i:Int)<4:=by omega
      obtain⟨q1,q2,q3,q4⟩:=HO.i.S.K;have hlq:=HO.i.S.lt;have hc:=CD.i i hlt;obtain⟨u,hu⟩:=tN (ld.c i 0);rw[hu]at hc;unfold bv at hc;have HS:=ab (xB ld i (by rw[LD.i];exact hlt));rw[hu]at HS;have L1:=ab (HO.i.alloc (.D #[.b .b (u.e:Int)] 5));have R1:=ab (Eo wr u _ rfl);have LX:=ab (show(bs2++ld.d i).a+1<=1000000000 by rw[aR,bK,Gb.i,LD.i];omega);go_wp2_with (at_builtin;refine kE rfl (.a 32) (.a 37) rfl rfl L1.i.o rfl R1.i LX.i ?_;intro A5 n5 c5 w5 h2 h3;have L2:=ab (L1.i.step h3);clear h2 h3);go_roundw
      case rel=>exact⟨i+1,A5,n5,c5,by omega,by go_num,rfl,by rw[HS.i,<-dB];exact L2.i⟩
      case measure=>simp[intOf]<;>omega
     ·have hge:¬(i:Int)<4:=by omega
      have HF:=ab (show ld.d i=ld from aK (by rw[LD.i];omega));rw[HF.i]at HO;clear HF;obtain⟨bs3,LH⟩:∃b,b=bs2++ld:=⟨_,rfl⟩
      have Nz:=ab (show bs3.a=8 by rw[LH,aR,Gb.i,LD.i]);rw[<-LH]at HO HT;clear LH;obtain⟨q1,q2,q3,q4⟩:=HO.i.b1.K;have L4:=ab (HO.i.alloc (.D #[.b .b 0,.b .b p,.b .b ((n:Int)/256),.b .b ((n:Int)%256)] 5));have R4:=ab (PR4.i wr);have HL4:=ab (show bs3.a+4<=1000000000 by rw[Nz.i];omega);go_wp2_with (at_builtin;refine kE rfl (.a 52) (.a 61) rfl rfl L4.i.o rfl R4.i HL4.i ?_;intro A5 n5 c5 w5 h2 h3;have L5:=ab (L4.i.step h3);clear h2 h3);go_ret;rw[<-HT.i]at L5;have ho:=L5.i.o;obtain⟨A9,c9,e9⟩:=ho.Cj;injection e9 with e9 e10 e11
      subst e10;exact⟨A5,_,c5,rfl,rfl,ho.vB,ho.R⟩
 ·have Gb:=ab (show([]:List UInt8).a=0 from rfl)
  obtain⟨ls,mY⟩:∃l,l=s.b.a.d 16:=⟨_,rfl⟩
  obtain⟨ld,hld⟩:∃l,l=d.b.a.d 16:=⟨_,rfl⟩
  have LS:=ab (show ls.a=16 by rw[mY];exact(zL s 16 (by omega)).1);have LD:=ab (show ld.a=16 by rw[hld];exact(zL d 16 (by omega)).1);have CS:=ab (show∀i,i<16->s.ay[1+i]? = some (bv (ls.c i 0))by rw[mY];exact(zL s 16 (by omega)).2);have CD:=ab (show∀i,i<16->d.ay[1+i]? = some (bv (ld.c i 0))by rw[hld];exact(zL d 16 (by omega)).2);have HT:=ab (show psB s d p n=ls++ld++[0,0,aJ (n/256),aJ (n%256),0,0,0,aJ p]by rw[mY,hld];unfold psB;rw[H6.i];rfl);clear mY hld;go_enter Tryz.func259,Tryz.ntmps259;go_wp2;clear q1 q2 q3 q4 p1 p2 p3 p4;go_loopw [9,11] (fun sr si wr=>∃(i:Nat)(A':Option aT)(m' c':Nat),i<=16/\si=.b .a i/\sr=.a A' m' c'/\Ly w.a.j [(w.a.j+1,d.ay),(w.a.j,s.ay)] w wr (.a A' m' c') ([]++ls.d i)) (fun _ si _=>16-(intOf si).e)
  case atStart=>exact⟨0,_,_,_,by omega,rfl,rfl,by simpa using S0.i⟩
  case round=>
   obtain⟨i,A',m',c',hi,rfl,rfl,h⟩:=hrel;have HO:=ab h;clear h;by_cases hlt:i<16
   ·have hlt2:(i:Int)<16:=by omega
    obtain⟨q1,q2,q3,q4⟩:=HO.i.b1.K;have hlq:=HO.i.b1.lt;have hc:=CS.i i hlt;obtain⟨u,hu⟩:=tN (ls.c i 0);rw[hu]at hc;unfold bv at hc;have HS:=ab (xB ls i (by rw[LS.i];exact hlt));rw[hu]at HS;have L1:=ab (HO.i.alloc (.D #[.b .b (u.e:Int)] 5));have R1:=ab (Eo wr u _ rfl);have LX:=ab (show([]++ls.d i).a+1<=1000000000 by rw[aR,bK,Gb.i,LS.i];omega);go_wp2_with (at_builtin;refine kE rfl (.a 20) (.a 25) rfl rfl L1.i.o rfl R1.i LX.i ?_;intro A5 n5 c5 w5 h2 h3;have L2:=ab (L1.i.step h3);clear h2 h3);go_roundw
    case rel=>exact⟨i+1,A5,n5,c5,by omega,by go_num,rfl,by rw[HS.i,<-dB];exact L2.i⟩
    case measure=>simp[intOf]<;>omega
   ·have hge:¬(i:Int)<16:=by omega
    have HF:=ab (show ls.d i=ls from aK (by rw[LS.i];omega));rw[HF.i]at HO;clear HF;rw[dF]at HO;clear Gb S0;obtain⟨bs2,Fv⟩:∃b,b=ls:=⟨_,rfl⟩
    have Gb:=ab (show bs2.a=16 by rw[Fv,LS.i]);rw[<-Fv]at HO HT;clear Fv;go_wp2;clear hge hi hlt;go_loopw [9,12] (fun sr si wr=>∃(i:Nat)(A':Option aT)(m' c':Nat),i<=16/\si=.b .a i/\sr=.a A' m' c'/\Ly w.a.j [(w.a.j+1,d.ay),(w.a.j,s.ay)] w wr (.a A' m' c') (bs2++ld.d i)) (fun _ si _=>16-(intOf si).e)
    case atStart=>exact⟨0,_,_,_,by omega,rfl,rfl,by simpa using HO.i⟩
    case round=>
     obtain⟨i,A',m',c',hi,rfl,rfl,h⟩:=hrel;have HO:=ab h;clear h;by_cases hlt:i<16
     ·have hlt2:(i:Int)<16:=by omega
      obtain⟨q1,q2,q3,q4⟩:=HO.i.S.K;have hlq:=HO.i.S.lt;have hc:=CD.i i hlt;obtain⟨u,hu⟩:=tN (ld.c i 0);rw[hu]at hc;unfold bv at hc;have HS:=ab (xB ld i (by rw[LD.i];exact hlt));rw[hu]at HS;have L1:=ab (HO.i.alloc (.D #[.b .b (u.e:Int)] 5));have R1:=ab (Eo wr u _ rfl);have LX:=ab (show(bs2++ld.d i).a+1<=1000000000 by rw[aR,bK,Gb.i,LD.i];omega);go_wp2_with (at_builtin;refine kE rfl (.a 32) (.a 37) rfl rfl L1.i.o rfl R1.i LX.i ?_;intro A5 n5 c5 w5 h2 h3;have L2:=ab (L1.i.step h3);clear h2 h3);go_roundw
      case rel=>exact⟨i+1,A5,n5,c5,by omega,by go_num,rfl,by rw[HS.i,<-dB];exact L2.i⟩
      case measure=>simp[intOf]<;>omega
     ·have hge:¬(i:Int)<16:=by omega
      have HF:=ab (show ld.d i=ld from aK (by rw[LD.i];omega));rw[HF.i]at HO;clear HF;obtain⟨bs3,LH⟩:∃b,b=bs2++ld:=⟨_,rfl⟩
      have Nz:=ab (show bs3.a=32 by rw[LH,aR,Gb.i,LD.i]);rw[<-LH]at HO HT;clear LH;obtain⟨q1,q2,q3,q4⟩:=HO.i.b1.K;have L4:=ab (HO.i.alloc (.D #[.b .b 0,.b .b 0,.b .b ((n:Int)/256),.b .b ((n:Int)%256),.b .b 0,.b .b 0,.b .b 0,.b .b p] 5));have R4:=ab (aDl.i wr);have HL4:=ab (show bs3.a+8<=1000000000 by rw[Nz.i];omega);go_wp2_with (at_builtin;refine kE rfl (.a 41) (.a 50) rfl rfl L4.i.o rfl R4.i HL4.i ?_;intro A5 n5 c5 w5 h2 h3;have L5:=ab (L4.i.step h3);clear h2 h3);go_ret;rw[<-HT.i]at L5;have ho:=L5.i.o;obtain⟨A9,c9,e9⟩:=ho.Cj;injection e9 with e9 e10 e11
      subst e10;exact⟨A5,_,c5,rfl,rfl,ho.vB,ho.R⟩
def rX(l:List UInt8)(k:Nat)(b:List UInt8):List UInt8:=l.d k++b++l.f (k+b.a)
def NA(n:Nat):List UInt8:=[aJ (n/256),aJ (n%256)]
theorem VU(n:Nat):(NA n).a=2:=rfl
theorem Ev{l:List UInt8}{k:Nat}{b:List UInt8}(h:k+b.a<=l.a):(rX l k b).a=l.a:=by
 unfold rX;simp;omega
theorem amw{l:List UInt8}{k:Nat}{b:List UInt8}(h:k+b.a<=l.a)(j:Nat):(rX l k b).c j 0=if k<=j/\j<k+b.a then b.c (j-k) 0 else l.c j 0:=by
 unfold rX;rw[au,au,au,dB];by_cases h1:j<k
 ·rw[mM (by simp;omega),jq,if_pos h1,if_neg (by omega)]
 ·rw[qY (by simp;omega)]
  have e:(l.d k).a=k:=by simp;omega
  rw[e];by_cases h2:j<k+b.a
  ·rw[mM (by omega),if_pos (by omega)]
  ·rw[qY (by omega),if_neg (by omega),jo]
   congr 2;omega
theorem amx{l:List UInt8}{k:Nat}{b:List UInt8}(h:k+b.a<=l.a){z n:Nat}(hj:z+n<=k\/k+b.a<=z):((rX l k b).f z).d n=(l.f z).d n:=by
 apply iL;intro i;rw[jq,jq];by_cases hi:i<n
 ·rw[if_pos hi,if_pos hi,jo,jo]
  have hg:=amw h (z+i);rw[if_neg (by omega),au,au]at hg;have hl:=Ev h;by_cases hlt:z+i<l.a
  ·rw[aC hlt,aC (by omega)]at hg ⊢
   simpa using hg
  ·rw[aS (by omega),aS (by omega)]
 ·rw[if_neg hi,if_neg hi]
theorem ajk{l:List UInt8}{k:Nat}{b:List UInt8}(h:k+b.a<=l.a):((rX l k b).f k).d b.a=b:=by
 unfold rX;rw[dB,List.drop_append_of_le_length (by simp;omega),iW (by simp;omega)];simp
def Dg(p:Int):Nat:=if p=6 then 16 else if p=17 then 6 else 0
def Rf(l:List UInt8)(a:fC)(n:Int):Bool:=(vT l).kind==0&&(a.h==(vT l).J.h.h&&((vT l).J.h.h||a.mJ))&&(decide (0<=n)&&decide (n<=65535))
def adt(p:Pk)(dst:Bool):Nat:=p.Cm.e+(if p.J.h.h then 8 else 12)+(if dst then(if p.J.h.h then 16 else 4)else 0)
def vU(p:Pk):Nat:=if p.J.h.h then 16 else 4
def Gc(p:Pk)(dst:Bool):Nat:=p.sV.e+(if dst then 2 else 0)
def rw1(l:List UInt8)(p:Pk)(a:fC)(n:Nat)(dst:Bool):List UInt8:=rX (rX (l.d p.FU.e) (adt p dst) (a.b.a.d (vU p))) (Gc p dst) (NA n)
def YM(l:List UInt8)(p:Pk)(dst:Bool):List UInt8:=(l.f (adt p dst)).d (vU p)
def rw2(l:List UInt8)(p:Pk)(a:fC)(n:Nat)(dst:Bool):List UInt8:=
 if p.J.h.h then rw1 l p a n dst else rX (rw1 l p a n dst) (p.Cm.e+10) (NA (om (eZ l (p.Cm.e+10)) (YM l p dst) (a.b.a.d (vU p))))
def ahp(l:List UInt8)(p:Pk)(a:fC)(n:Nat)(dst:Bool):Nat:=
 om (om (eZ l (p.sV.e+Dg p.J.aQ)) (YM l p dst) (a.b.a.d (vU p))) ((l.f (Gc p dst)).d 2) (NA n)
def rw3(l:List UInt8)(p:Pk)(a:fC)(n:Nat)(dst:Bool):List UInt8:=
 if p.J.aQ=17/\eZ l (p.sV.e+Dg p.J.aQ)=0 then rw2 l p a n dst
 else rX (rw2 l p a n dst) (p.sV.e+Dg p.J.aQ) (NA (if p.J.aQ=17/\ahp l p a n dst=0 then 65535 else ahp l p a n dst))
def aa9(l:List UInt8)(a:fC)(n:Int)(dst:Bool):List UInt8:=if Rf l a n then rw3 l (vT l) a n.e dst else []
structure amy(l:List UInt8)(p:Pk):Prop where
 fam:p.J.h.h=p.J.X.h
 Cm:14<=p.Cm
 sV:p.Cm+(if p.J.h.h then 40 else 20)<=p.sV
 pro:p.J.aQ=6\/p.J.aQ=17
 FU:p.sV+(if p.J.aQ=6 then 20 else 8)<=p.FU
 len:p.FU<=l.a
theorem VW(f:Nat):∀(x:Sx)(r:List UInt8),(yF f x r).2=0->(yF f x r).1.h=x.h/\(yF f x r).1.X=x.X:=by
 induction f with
 | zero=>
   intro x r h;unfold yF at h ⊢;split
   ·exact⟨rfl,rfl⟩
   ·rename_i h1;rw[if_neg h1]at h;cases h
 | succ f ih=>
   intro x r h;unfold yF at h ⊢;split
   ·exact⟨rfl,rfl⟩
   ·rename_i h1
    rw[if_neg h1]at h;split
    ·rename_i h2;rw[if_pos h2]at h;cases h
    ·rename_i h2;rw[if_neg h2]at h;exact ih _ _ h
theorem ahq{l:List UInt8}(h:(Aq l).2=0):(Aq l).1.h.h=true/\(Aq l).1.X.h=true:=by
 unfold Aq at h ⊢;split
 ·rename_i h1;rw[if_pos h1]at h;cases h
 ·rename_i h1
  rw[if_neg h1]at h;split
  ·rename_i h2;rw[if_pos h2]at h;cases h
  ·rename_i h2
   rw[if_neg h2]at h;split
   ·rename_i h3;rw[if_pos h3]at h;cases h
   ·rename_i h3
    rw[if_neg h3]at h;obtain⟨a,b⟩:=VW _ _ _ h;rw[a,b];exact⟨rfl,rfl⟩
theorem ahr{l:List UInt8}(h:(zR l).2=0):(zR l).1.h.h=false/\(zR l).1.X.h=false:=by
 unfold zR at h ⊢;split
 ·exact⟨rfl,rfl⟩
 ·rename_i h1;rw[if_neg h1]at h;exact absurd h h1
theorem apY{p:Int}{l:List UInt8}(hp:p=6\/p=17)(h:(I5 p l).2=0):(if p=6 then 20 else 8)<=l.a:=by
 rcases hp with rfl|rfl
 ·rw[arU]at h
  rw[if_pos rfl];by_cases h1:l.a<20
  ·rw[if_pos h1]at h;cases h
  ·omega
 ·rw[amu]at h
  rw[if_neg (by decide)];by_cases h1:l.a<8
  ·rw[if_pos h1]at h;cases h
  ·omega
theorem NC{l:List UInt8}(h:(vT l).kind=0):amy l (vT l):=by
 unfold vT at h ⊢;by_cases h1:(mq l).2≠0
 ·rw[if_pos h1]at h;cases h
 rw[if_neg h1]at h ⊢;by_cases h2:(mq l).1.ou≠2048/\(mq l).1.ou≠34525
 ·rw[if_pos h2]at h;cases h
 rw[if_neg h2]at h ⊢;by_cases h3:(mO l).2≠0
 ·rw[if_pos h3]at h;cases h
 rw[if_neg h3]at h ⊢;by_cases h4:(mO l).1.oI=true
 ·rw[if_pos h4]at h;cases h
 rw[if_neg h4]at h ⊢;by_cases h5:(mO l).1.aQ≠6/\(mO l).1.aQ≠17
 ·rw[if_pos h5]at h;cases h
 rw[if_neg h5]at h ⊢;by_cases h6:(LA l).2≠0
 ·rw[if_pos h6]at h;cases h
 rw[if_neg h6];have hat:=afL (l:=l) (by omega);have h3':(YJ (mq l).1.ou (l.f (mq l).1.fI)).2=0:=by simpa[mO]using h3
 have hip:=amr h3';rw[jD]at hip;have hp:(mO l).1.aQ=6\/(mO l).1.aQ=17:=by omega
 have hpt:=apY hp (l:=(l.d ((mq l).1.fI+(mO l).1.dz.e)).f ((mq l).1.fI+(mO l).1.head.e)) (by simpa[LA]using h6);rw[jD,bK]at hpt;have hh:(mO l).1.head=(YJ (mq l).1.ou (l.f (mq l).1.fI)).1.head:=rfl;have ht:(mO l).1.dz=(YJ (mq l).1.ou (l.f (mq l).1.fI)).1.dz:=rfl;have ayp:(mO l).1.h.h=(mO l).1.X.h/\((mO l).1.h.h=true->40<=(mO l).1.head):=by
  unfold mO YJ;unfold YJ at h3';by_cases h7:(mq l).1.ou=2048
  ·rw[if_pos h7]at h3' ⊢
   have:=ahr h3';exact⟨by simp only[this.1,this.2],fun e=>by simp only[this.1]at e;cases e⟩
  ·rw[if_neg h7]at h3' ⊢
   have:=ahq h3';exact⟨by simp only[this.1,this.2],fun _=>(amq h3').1⟩
 refine⟨ayp.1,?_,?_,hp,?_,?_⟩
 ·show(14:Int)<=((mq l).1.fI:Nat)
  omega
 ·show((mq l).1.fI:Int)+(if(mO l).1.h.h then 40 else 20)<=((mq l).1.fI:Int)+(mO l).1.head
  split
  ·have:=ayp.2 ‹_›;omega
  ·omega
 ·show((mq l).1.fI:Int)+(mO l).1.head+(if(mO l).1.aQ=6 then 20 else 8)<=((mq l).1.fI:Int)+(mO l).1.dz
  rcases hp with e|e
  ·rw[if_pos e]at hpt⊢;omega
  ·rw[if_neg (by rw[e];decide)]at hpt⊢;omega
 ·show((mq l).1.fI:Int)+(mO l).1.dz<=l.a
  omega
theorem Ly.amA(w w1:ak)(hb:aL w.a.j w w1)(c:Array aB)(l:List UInt8)(k:Nat)(hk:l.a=k)(hk2:k<=1000000)(h:c.a=l.map bv):Ly w.a.j [] w (w1.alloc (.D c 5)) (.a (some ⟨w1.a.j,0,none⟩) k k) l:=by
 have hc:c.j=k:=by rw[<-aZ,h,bU,hk]
 have h1:(w1.alloc (.D c 5)).c w1.a.j 5 1 (.a (some ⟨w1.a.j,0,none⟩) k k) k c.a:=World.ownsRow_lit w1 c k (av _) (by unfold maxLen;omega) (by omega);rw[h]at h1;have h2:=hb.alloc hb.j (.D c 5);subst hk;exact⟨⟨iI h1 hb.j,⟨h2.os,h2.tape,h2.output,h2.j,fun i hi _=>h2.block i hi⟩,.b ⟨_,rfl,hb.j⟩,av _,fun k h=>by cases h⟩,fun p hp=>by cases hp⟩
def wG(x:Sx):List UInt8:=[96,0,0,0,aJ ((x.dz-40).e/256),aJ ((x.dz-40).e%256),aJ x.aQ.e,aJ x.GY.e]++x.h.b.a++x.X.b.a
def qg(n:Int):List UInt8:=[aJ (n.e/256),aJ (n.e%256)]
def zS(t:Tg):List UInt8:=qg t.ou++qg t.tci
def qv(d s:Vector UInt8 6)(fK:List Tg)(ty:Int):List UInt8:=d.a++s.a++fK.h zS++qg ty
def aa'(t:Tg):Prop:=(0<=t.ou/\t.ou<=65535)/\0<=t.tci/\t.tci<=65535
theorem Ew(l:List Tg):(l.h zS).a=4*l.a:=by
 induction l with
 | nil=>rfl
 | cons a l ih=>rw[iM,aR,ih];simp[zS,qg];omega
theorem arW(d:Vector UInt8 6)(i:Nat)(hi:i<6):(Ap d)[i]? = some (bv (d.a.c i 0)):=by
 simp[Ap,au,hi]
theorem Lc.auq(x:Lc)(i:Nat)(hi:i<6):x.ay[i]? = some (bv (x.X.a.c i 0)):=by
 rw[<-arW _ i hi];simp[Lc.ay,aD,gI,hi]
theorem Lc.aur(x:Lc)(i:Nat)(hi:i<6):x.ay[6+i]? = some (bv (x.h.a.c i 0)):=by
 rw[<-arW _ i hi];simp[Lc.ay,aD,gI,hi,show¬6+i<6 by omega]
theorem VX(n:Int)(h0:0<=n)(h1:n<=65535):((aJ (n.e/256)).e:Int)=n/256/\((aJ (n.e%256)).e:Int)=n%256:=by
 rw[yM _ (by omega),yM _ (by omega)];omega
theorem aus(n:Int)(h0:0<=n)(h1:n<=65535)(wr:ak):fU (wr.alloc (.D #[.b .b (n/256),.b .b (n%256)] 5)) (wr.a.j+1) (some ⟨wr.a.j,0,none⟩) 2 (qg n):=
 VT wr #[.b .b (n/256),.b .b (n%256)] (qg n) (by
  obtain⟨e1,e2⟩:=VX n h0 h1;simp only[qg,kL,pI,bv];rw[e1,e2])
theorem aut(t:Tg)(h:aa' t)(wr:ak):fU (wr.alloc (.D #[.b .b (t.ou/256),.b .b (t.ou%256),.b .b (t.tci/256),.b .b (t.tci%256)] 5)) (wr.a.j+1) (some ⟨wr.a.j,0,none⟩) 4 (zS t):=
 VT wr #[.b .b (t.ou/256),.b .b (t.ou%256),.b .b (t.tci/256),.b .b (t.tci%256)] (zS t) (by
  obtain⟨e1,e2⟩:=VX t.ou h.1.1 h.1.2;obtain⟨e3,e4⟩:=VX t.tci h.2.1 h.2.2;simp only[zS,qg,kL,pI,bv,gZ,dF];rw[e1,e2,e3,e4])
theorem VY(x:Lc)(fK:List Tg)(hf:∀t∈fK,aa' t)(hn:fK.a<=1000)(t0:0<=x.ou)(t1:x.ou<=65535)(w:ak)(hT:iJ Tg.ay 2 w w.a.j x.Vx x.Ep fK):aP ah 103 #[.d x.ay] w (Kc w (qv x.X x.h fK x.ou)):=by
 have HT:=ab (show qv x.X x.h fK x.ou=x.X.a++x.h.a++fK.h zS++qg x.ou from rfl);have l0:=((Ly.nil (w:=w)).new x.ay 108)
 have S0:=ab l0;clear l0;have hl:=ab hT.len;have hnt:x.Ep<=1000:=by rw[<-hl.i];exact hn
 have HR:=ab hT;have HF:=ab hf;clear hT hf;have Gb:=ab (show([]:List UInt8).a=0 from rfl);have CS:=ab (x.aur);have CD:=ab (x.auq);obtain⟨ls,mY⟩:∃l,l=x.h.a:=⟨_,rfl⟩
 obtain⟨ld,hld⟩:∃l,l=x.X.a:=⟨_,rfl⟩
 have LS:=ab (show ls.a=6 by rw[mY];simp);have LD:=ab (show ld.a=6 by rw[hld];simp);rw[<-mY]at HT CS;rw[<-hld]at HT CD;clear mY hld;go_enter Tryz.func103,Tryz.ntmps103;go_wp2;go_loopw [3,4] (fun sr si wr=>∃(i:Nat)(A':Option aT)(m' c':Nat),i<=6/\si=.b .a i/\sr=.a A' m' c'/\Ly w.a.j [(w.a.j,x.ay)] w wr (.a A' m' c') ([]++ld.d i)) (fun _ si _=>6-(intOf si).e)
 case atStart=>exact⟨0,_,_,_,by omega,rfl,rfl,by simpa using S0.i⟩
 case round=>
  obtain⟨i,A',m',c',hi,rfl,rfl,h⟩:=hrel;have HO:=ab h;clear h;by_cases hlt:i<6
  ·have hlt2:(i:Int)<6:=by omega
   obtain⟨q1,q2,q3,q4⟩:=HO.i.S.K;have hlq:=HO.i.S.lt;have hc:=CD.i i hlt;obtain⟨u,hu⟩:=tN (ld.c i 0);rw[hu]at hc;unfold bv at hc;have HS:=ab (xB ld i (by rw[LD.i];exact hlt));rw[hu]at HS;have L1:=ab (HO.i.alloc (.D #[.b .b (u.e:Int)] 5));have R1:=ab (Eo wr u _ rfl);have LX:=ab (show([]++ld.d i).a+1<=1000000000 by rw[aR,bK,Gb.i,LD.i];omega);go_wp2_with (at_builtin;refine kE rfl (.a 12) (.a 17) rfl rfl L1.i.o rfl R1.i LX.i ?_;intro A5 n5 c5 w5 h2 h3;have L2:=ab (L1.i.step h3);clear h2 h3);go_roundw
   case rel=>exact⟨i+1,A5,n5,c5,by omega,by go_num,rfl,by rw[HS.i,<-dB];exact L2.i⟩
   case measure=>simp[intOf]<;>omega
  ·have hge:¬(i:Int)<6:=by omega
   have HF:=ab (show ld.d i=ld from aK (by rw[LD.i];omega));rw[HF.i]at HO;clear HF;rw[dF]at HO;clear Gb S0;obtain⟨bs2,Fv⟩:∃b,b=ld:=⟨_,rfl⟩
   have Gb:=ab (show bs2.a=6 by rw[Fv,LD.i]);rw[<-Fv]at HO HT;clear Fv;go_wp2;clear hge hi hlt;go_loopw [3,5] (fun sr si wr=>∃(i:Nat)(A':Option aT)(m' c':Nat),i<=6/\si=.b .a i/\sr=.a A' m' c'/\Ly w.a.j [(w.a.j,x.ay)] w wr (.a A' m' c') (bs2++ls.d i)) (fun _ si _=>6-(intOf si).e)
   case atStart=>exact⟨0,_,_,_,by omega,rfl,rfl,by simpa using HO.i⟩
   case round=>
    obtain⟨i,A',m',c',hi,rfl,rfl,h⟩:=hrel;have HO:=ab h;clear h;by_cases hlt:i<6
    ·have hlt2:(i:Int)<6:=by omega
     obtain⟨q1,q2,q3,q4⟩:=HO.i.S.K;have hlq:=HO.i.S.lt;have hc:=CS.i i hlt;obtain⟨u,hu⟩:=tN (ls.c i 0);rw[hu]at hc;unfold bv at hc;have HS:=ab (xB ls i (by rw[LS.i];exact hlt));rw[hu]at HS;have L1:=ab (HO.i.alloc (.D #[.b .b (u.e:Int)] 5));have R1:=ab (Eo wr u _ rfl);have LX:=ab (show(bs2++ls.d i).a+1<=1000000000 by rw[aR,bK,Gb.i,LS.i];omega);go_wp2_with (at_builtin;refine kE rfl (.a 23) (.a 28) rfl rfl L1.i.o rfl R1.i LX.i ?_;intro A5 n5 c5 w5 h2 h3;have L2:=ab (L1.i.step h3);clear h2 h3);go_roundw
     case rel=>exact⟨i+1,A5,n5,c5,by omega,by go_num,rfl,by rw[HS.i,<-dB];exact L2.i⟩
     case measure=>simp[intOf]<;>omega
    ·have hge:¬(i:Int)<6:=by omega
     have HF:=ab (show ls.d i=ls from aK (by rw[LS.i];omega));rw[HF.i]at HO;clear HF;obtain⟨bs3,LH⟩:∃b,b=bs2++ls:=⟨_,rfl⟩
     have Nz:=ab (show bs3.a=12 by rw[LH,aR,Gb.i,LS.i]);rw[<-LH]at HO HT;clear LH Gb;have S3:=HO;clear HO;go_wp2;clear hge hi hlt;go_loopw [3,6] (fun sr si wr=>∃(i:Nat)(A':Option aT)(m' c':Nat),i<=x.Ep/\si=.b .a i/\sr=.a A' m' c'/\Ly w.a.j [(w.a.j,x.ay)] w wr (.a A' m' c') (bs3++(fK.d i).h zS)) (fun _ si _=>x.Ep-(intOf si).e)
     case atStart=>exact⟨0,_,_,_,by omega,rfl,rfl,by simpa using S3.i⟩
     case round=>
      obtain⟨i,A',m',c',hi,rfl,rfl,h⟩:=hrel;have HO:=ab h;clear h S3;obtain⟨q1,q2,q3,q4⟩:=HO.i.S.K;by_cases hlt:i<x.Ep
      ·have hlt2:(i:Int)<x.Ep:=by omega
       obtain⟨ba,oa,ea,_,t3,t4⟩:=(HR.i.go HO.i.o.R).fI Tg.G Sk hlt;obtain⟨t,ht⟩:=cB (fK.c i Sk);rw[<-ht]at t4;have HK:=ab (show aa' t by rw[ht,au,aC (by rw[hl.i];exact hlt)];exact HF.i _ (eU _));have HS:=ab (show(fK.d (i+1)).h zS=(fK.d i).h zS++zS t by rw[ht,dR (by rw[hl.i];exact hlt),wJ,au,aC (by rw[hl.i];exact hlt)];simp);obtain⟨⟨k1,k2⟩,k3,k4⟩:=HK.i;have LX:=ab (show(bs3++(fK.d i).h zS).a+4<=1000000000 by rw[aR,Ew,bK,Nz.i];omega);clear ht;have L1:=ab ((HO.i.alloc (.D t.ay 268)).alloc (.D #[.b .b (t.ou/256),.b .b (t.ou%256),.b .b (t.tci/256),.b .b (t.tci%256)] 5));have R1:=ab (aut t HK.i (wr.alloc (.D t.ay 268)));have TB:=ab (dK.new wr t.ay 268);go_upto_region 14 with fail
       obtain⟨y1,y2,y3,y4⟩:=TB.i.K;generalize wr.alloc (.D t.ay 268)=wt at *;go_wp2_with (at_builtin;refine kE rfl (.a 42) (.a 59) rfl rfl L1.i.o rfl R1.i LX.i ?_;intro A5 n5 c5 w5 h2 h3;have L2:=ab (L1.i.step h3);clear h2 h3);go_roundw
       case rel=>exact⟨i+1,A5,n5,c5,by omega,by go_num,rfl,by rw[HS.i,<-dB];exact L2.i⟩
       case measure=>simp[intOf]<;>omega
      ·have hge:¬(i:Int)<x.Ep:=by omega
       have HE:=ab (show fK.d i=fK from aK (by rw[hl.i];omega));rw[HE.i]at HO;have L4:=ab (HO.i.alloc (.D #[.b .b (x.ou/256),.b .b (x.ou%256)] 5));have R4:=ab (aus x.ou t0 t1 wr);have HL4:=ab (show(bs3++fK.h zS).a+2<=1000000000 by rw[aR,Ew,Nz.i];omega);clear HE;go_wp2_with (at_builtin;refine kE rfl (.a 61) (.a 70) rfl rfl L4.i.o rfl R4.i HL4.i ?_;intro A5 n5 c5 w5 h2 h3;have L5:=ab (L4.i.step h3);clear h2 h3);go_ret;rw[<-HT.i]at L5;have ho:=L5.i.o;obtain⟨A9,c9,e9⟩:=ho.Cj;injection e9 with e9 e10 e11
       subst e10;exact⟨A5,_,c5,rfl,rfl,ho.vB,ho.R⟩
theorem Ly.at0{B:Nat}{L:List (Nat×Array aB)}{w0 W:ak}{A:Option aT}{n c:Nat}{bs:List UInt8}(h:Ly B L w0 W (.a A n c) bs)(hn:0<bs.a):
 n=bs.a/\n<=c/\∃g,A=some ⟨g,0,none⟩/\(∀j,j<bs.a->W.b ⟨g,j,none⟩=some (bv (bs.c j 0)))/\(∀j,W.frozen? ⟨g,j,none⟩=false):=by
 obtain⟨h1,h2⟩:=h.o.vB;rcases h2 with⟨e,e2⟩|⟨g,cap,cur,e,hg,hh,hle,hm,hs,ht⟩
 ·omega
 ·injection e with e1 e2 e3
  subst e1 e2 e3;refine⟨rfl,hle,g,rfl,fun j hj=>?_,fun j=>by simp[rY,hh]⟩;rw[cell_of_row W g j cur _ (0,0) hh];have:(bs.map bv)[j]? = some (bv (bs.c j 0)):=by simp[au,hj]
  rw[<-this,<-ht,gY (by omega),dD]
theorem Ly.afP{B:Nat}{L:List (Nat×Array aB)}{w0 W:ak}{g n c:Nat}{bs:List UInt8}(h:Ly B L w0 W (.a (some ⟨g,0,none⟩) n c) bs)(j:Nat)(b:UInt8):Ly B L w0 (W.F ⟨g,j,none⟩ (bv b)) (.a (some ⟨g,0,none⟩) n c) (bs.set j b):=by
 obtain⟨A9,c9,e9⟩:=h.o.Cj;injection e9 with e9 e10 e11
 subst e10;obtain⟨g1,g2⟩:=h.o.vB.stored j (bv b);refine⟨⟨by rw[aV,List.map_set];exact g1,att h.o.gr (.b ?_) _,h.o.tF,h.o.hB,h.o.gb⟩,fun p hp=>⟨(h.G p hp).1.dN _ _ (fun e=>(h.G p hp).2 (by rw[<-e];rfl)),(h.G p hp).2⟩⟩;rcases h.o.tF with e|⟨k,e,e2⟩
 ·cases e
 ·injection e with e
  subst e;exact e2
def Dh(x:Fo):List UInt8:=[69,aJ x.Oo.e,aJ (x.dz.e/256),aJ (x.dz.e%256),aJ (x.id.e/256),aJ (x.id.e%256),(if x.keep then 64 else 0),0,aJ x.Lm.e,aJ x.aQ.e,0,0]++x.h.b.a.d 4++x.X.b.a.d 4
def adu(l:List UInt8):List UInt8:=(l.set 10 (aJ (wP l/256))).set 11 (aJ (wP l%256))
def tK(x:Fo):List UInt8:=adu (Dh x)
theorem Fo.MW(x:Fo)(i:Nat)(hi:i<16):x.ay[9+i]? = some (bv (x.h.b.a.c i 0)):=by
 rw[<-fC.D7 _ i hi];have:i+1<17:=by omega
 simp[Fo.ay,aD,fC.G,show 9+i-8=i+1 by omega,show¬9+i<8 by omega,this]
theorem Fo.KD(x:Fo)(i:Nat)(hi:i<16):x.ay[26+i]? = some (bv (x.X.b.a.c i 0)):=by
 rw[<-fC.D7 _ i hi];simp[Fo.ay,aD,fC.G,show¬26+i<8 by omega,show¬26+i-8<17 by omega,show 26+i-8-17=i+1 by omega]
theorem arY(l:List UInt8)(i:Nat)(hi:i<4):(l.d 4).c i 0=l.c i 0:=by
 simp[au,gY hi]
@[go_sem]theorem arZ(w:ak)(a0 a1 a2 a3 a4 a5 a6 a7 a8 a9 a10 a11:Int):(Bu 12 #[(0,.b .b a0),(1,.b .b a1),(2,.b .b a2),(3,.b .b a3),(4,.b .b a4),(5,.b .b a5),(6,.b .b a6),(7,.b .b a7),(8,.b .b a8),(9,.b .b a9),(10,.b .b a10),(11,.b .b a11)]).I ah w = .Z (.a (some ⟨w.a.j,0,none⟩) 12 12) (w.alloc (.D #[.b .b a0,.b .b a1,.b .b a2,.b .b a3,.b .b a4,.b .b a5,.b .b a6,.b .b a7,.b .b a8,.b .b a9,.b .b a10,.b .b a11] 5)):=by
 obtain⟨i0,hi0,hz0,hz1,hz2⟩:=zo;have hr:lW 12 = #[0,1,2,3,4,5,6,7,8,9,10,11]:=by apply oQ;rw[kg];rfl
 simp[Bu,bJ,dJ cu,zeroValue,sizeOf,typeInfo,hi0,hz0,hz1,fE,newRow,cK,hr]
theorem VZ(x:Fo)(s0:0<=x.Oo)(s1:x.Oo<=255)(t0:0<=x.dz)(t1:x.dz<=65535)(i0:0<=x.id)(i1:x.id<=65535)(l0:0<=x.Lm)(l1:x.Lm<=255)(p0:0<=x.aQ)(p1:x.aQ<=255)(w:ak):aP ah 106 #[.d x.ay] w (Kc w (tK x)):=by
 have T:=ab (dK.new w x.ay 192);have HB:=ab ((aG w.a.j w).alloc (av _) (.D x.ay 192));have r0:=(Ly.amA w _ HB.i #[.b .b 69,.b .b x.Oo,.b .b (x.dz/256),.b .b (x.dz%256),.b .b (x.id/256),.b .b (x.id%256),.b .b 0,.b .b 0,.b .b x.Lm,.b .b x.aQ,.b .b 0,.b .b 0] [69,aJ x.Oo.e,aJ (x.dz.e/256),aJ (x.dz.e%256),aJ (x.id.e/256),aJ (x.id.e%256),0,0,aJ x.Lm.e,aJ x.aQ.e,0,0] 12 rfl (by omega) (by
  obtain⟨e1,e2⟩:=VX x.dz t0 t1;obtain⟨e3,e4⟩:=VX x.id i0 i1;simp only[kL,pI,bv];rw[e1,e2,e3,e4,yM x.Oo.e (by omega),yM x.Lm.e (by omega),yM x.aQ.e (by omega),lG s0,lG l0,lG p0];rfl)).add (q:=w.a.j) (c:=x.ay) (T.i.alloc _) (by rw[show(w.alloc (.D x.ay 192)).a.j=w.a.j+1 by simp];simp[jY])
 rw[show(w.alloc (.D x.ay 192)).a.j=w.a.j+1 by simp]at r0;have S:=ab r0;have HP:=ab (show tK x=adu (Dh x)from rfl);have CS:=ab (show∀i,i<4->x.ay[9+i]? = some (bv ((x.h.b.a.d 4).c i 0))from fun i hi=>by rw[arY _ i hi];exact x.MW i (by omega));have CD:=ab (show∀i,i<4->x.ay[26+i]? = some (bv ((x.X.b.a.d 4).c i 0))from fun i hi=>by rw[arY _ i hi];exact x.KD i (by omega));have HT:=ab (show Dh x=[69,aJ x.Oo.e,aJ (x.dz.e/256),aJ (x.dz.e%256),aJ (x.id.e/256),aJ (x.id.e%256),(if x.keep then 64 else 0),0,aJ x.Lm.e,aJ x.aQ.e,0,0]++x.h.b.a.d 4++x.X.b.a.d 4 from rfl);obtain⟨ls,mY⟩:∃l,l=x.h.b.a.d 4:=⟨_,rfl⟩
 obtain⟨ld,hld⟩:∃l,l=x.X.b.a.d 4:=⟨_,rfl⟩
 have LS:=ab (show ls.a=4 by rw[mY];simp);have LD:=ab (show ld.a=4 by rw[hld];simp);rw[<-mY]at HT CS;rw[<-hld]at HT CD;clear mY hld r0;obtain⟨q1,q2,q3,q4⟩:=T.i.K;have x5:=x.aaS;obtain⟨kp,hkp⟩:∃k,x.keep=k:=⟨_,rfl⟩
 rw[hkp]at x5 HT;clear hkp;go_enter Tryz.func106,Tryz.ntmps106;go_upto_region 2 with fail
 obtain⟨y1,y2,y3,y4⟩:=S.i.S.K;obtain⟨_,_,g,eg,c1,c2⟩:=S.i.at0 (by simp);injection eg with eg
 injection eg with eg
 subst eg;clear q1 q2 q3 q4;have c6:=c1 6 (by simp);clear c1;generalize(w.alloc (.D x.ay 192)).alloc (.D #[.b .b 69,.b .b x.Oo,.b .b (x.dz/256),.b .b (x.dz%256),.b .b (x.id/256),.b .b (x.id%256),.b .b 0,.b .b 0,.b .b x.Lm,.b .b x.aQ,.b .b 0,.b .b 0] 5)=w2 at *;cases kp
 case' false=>
  go_wp2;have S0:=S;obtain⟨bs,hbs⟩:∃bs:List UInt8,bs=[69,aJ x.Oo.e,aJ (x.dz.e/256),aJ (x.dz.e%256),aJ (x.id.e/256),aJ (x.id.e%256),0,0,aJ x.Lm.e,aJ x.aQ.e,0,0]:=⟨_,rfl⟩
  have Gb:=ab (show bs.a=12 by rw[hbs];rfl);have HQ:=ab (show Dh x=bs++ls++ld by rw[HT.i,hbs];rfl);rw[<-hbs]at S0
 case' true=>
  go_wp2;have S0:=ab (S.i.afP 6 64);rw[show bv 64=.b .b 64 from rfl]at S0;obtain⟨bs,hbs⟩:∃bs:List UInt8,bs=[69,aJ x.Oo.e,aJ (x.dz.e/256),aJ (x.dz.e%256),aJ (x.id.e/256),aJ (x.id.e%256),64,0,aJ x.Lm.e,aJ x.aQ.e,0,0]:=⟨_,rfl⟩
  have Gb:=ab (show bs.a=12 by rw[hbs];rfl);have HQ:=ab (show Dh x=bs++ls++ld by rw[HT.i,hbs];rfl);rw[show([69,aJ x.Oo.e,aJ (x.dz.e/256),aJ (x.dz.e%256),aJ (x.id.e/256),aJ (x.id.e%256),0,0,aJ x.Lm.e,aJ x.aQ.e,0,0]:List UInt8).set 6 64=bs by rw[hbs];rfl]at S0
 all_goals
  clear HT hbs y1 y2 y3 y4 c2 c6 S;go_loopw [3,4] (fun sr si wr=>∃(i:Nat)(A':Option aT)(m' c':Nat),i<=4/\si=.b .a i/\sr=.a A' m' c'/\Ly w.a.j [(w.a.j,x.ay)] w wr (.a A' m' c') (bs++ls.d i)) (fun _ si _=>4-(intOf si).e)
  case atStart=>exact⟨0,_,_,_,by omega,rfl,rfl,by simpa using S0.i⟩
  case round=>
   obtain⟨i,A',m',c',hi,rfl,rfl,h⟩:=hrel;have HO:=ab h;clear h;by_cases hlt:i<4
   ·have hlt2:(i:Int)<4:=by omega
    obtain⟨q1,q2,q3,q4⟩:=HO.i.S.K;have hlq:=HO.i.S.lt;have hc:=CS.i i hlt;obtain⟨u,hu⟩:=tN (ls.c i 0);rw[hu]at hc;unfold bv at hc;have HS:=ab (xB ls i (by rw[LS.i];exact hlt));rw[hu]at HS;have L1:=ab (HO.i.alloc (.D #[.b .b (u.e:Int)] 5));have R1:=ab (Eo wr u _ rfl);have LX:=ab (show(bs++ls.d i).a+1<=1000000000 by rw[aR,bK,Gb.i,LS.i];omega);go_wp2_with (at_builtin;refine kE rfl (.a 41) (.a 47) rfl rfl L1.i.o rfl R1.i LX.i ?_;intro A5 n5 c5 w5 h2 h3;have L2:=ab (L1.i.step h3);clear h2 h3);go_roundw
    case rel=>exact⟨i+1,A5,n5,c5,by omega,by go_num,rfl,by rw[HS.i,<-dB];exact L2.i⟩
    case measure=>simp[intOf]<;>omega
   ·have hge:¬(i:Int)<4:=by omega
    have HF:=ab (show ls.d i=ls from aK (by rw[LS.i];omega));rw[HF.i]at HO;clear HF;obtain⟨bs2,Fv⟩:∃b,b=bs++ls:=⟨_,rfl⟩
    have ayr:=ab (show bs2.a=16 by rw[Fv,aR,Gb.i,LS.i]);rw[<-Fv]at HO HQ;clear Fv S0 Gb;have Gb:=ayr;clear ayr;go_wp2;clear hge hi hlt;go_loopw [3,5] (fun sr si wr=>∃(i:Nat)(A':Option aT)(m' c':Nat),i<=4/\si=.b .a i/\sr=.a A' m' c'/\Ly w.a.j [(w.a.j,x.ay)] w wr (.a A' m' c') (bs2++ld.d i)) (fun _ si _=>4-(intOf si).e)
    case atStart=>exact⟨0,_,_,_,by omega,rfl,rfl,by simpa using HO.i⟩
    case round=>
     obtain⟨i,A',m',c',hi,rfl,rfl,h⟩:=hrel;have HO:=ab h;clear h;by_cases hlt:i<4
     ·have hlt2:(i:Int)<4:=by omega
      obtain⟨q1,q2,q3,q4⟩:=HO.i.S.K;have hlq:=HO.i.S.lt;have hc:=CD.i i hlt;obtain⟨u,hu⟩:=tN (ld.c i 0);rw[hu]at hc;unfold bv at hc;have HS:=ab (xB ld i (by rw[LD.i];exact hlt));rw[hu]at HS;have L1:=ab (HO.i.alloc (.D #[.b .b (u.e:Int)] 5));have R1:=ab (Eo wr u _ rfl);have LX:=ab (show(bs2++ld.d i).a+1<=1000000000 by rw[aR,bK,Gb.i,LD.i];omega);go_wp2_with (at_builtin;refine kE rfl (.a 53) (.a 59) rfl rfl L1.i.o rfl R1.i LX.i ?_;intro A5 n5 c5 w5 h2 h3;have L2:=ab (L1.i.step h3);clear h2 h3);go_roundw
      case rel=>exact⟨i+1,A5,n5,c5,by omega,by go_num,rfl,by rw[HS.i,<-dB];exact L2.i⟩
      case measure=>simp[intOf]<;>omega
     ·have hge:¬(i:Int)<4:=by omega
      have HF:=ab (show ld.d i=ld from aK (by rw[LD.i];omega));rw[HF.i]at HO;clear HF;obtain⟨bs3,LH⟩:∃b,b=bs2++ld:=⟨_,rfl⟩
      have Nz:=ab (show bs3.a=20 by rw[LH,aR,Gb.i,LD.i]);rw[<-LH]at HO HQ;clear LH Gb;have CQ:=ab (VQ wr A' m' c' bs3 (by have:=HO.i.o.Cj;obtain⟨A9,c9,e9⟩:=this;injection e9 with e9 e10 e11;rw[e10,Nz.i];omega) (Db HO.i.o (aG _ _)));have HSL:=ab (show wP bs3<=65535 by unfold wP;omega);have HP2:=ab (show tK x=(bs3.set 10 (aJ (wP bs3/256))).set 11 (aJ (wP bs3%256))by rw[HP.i,HQ.i];rfl);clear HP HQ;generalize wP bs3=z at *;have z0:(0:Int)<=z:=by omega
      have z1:(z:Int)<=65535:=by have:=HSL.i;omega
      go_upto_region 13 with(go_at_call 186;(with_reducible refine CQ.i.g ?_);rintro e w6 ⟨rfl,hb⟩;have M1:=ab (HO.i.go hb);clear hb)
      clear hlt hge hi;obtain⟨hm1,hm2,g,rfl,k1,k2⟩:=M1.i.at0 (by rw[Nz.i];omega);have m1:(10:Int)<m':=by rw[Nz.i]at hm1;omega
      have m2:(11:Int)<m':=by rw[Nz.i]at hm1;omega
      have k10:=k1 10 (by rw[Nz.i];omega);have M2:=ab (M1.i.afP 10 (aJ (z/256)));have e1:((aJ (z/256)).e:Int)=(z:Int)/256:=by rw[yM _ (by have:=HSL.i;omega)];omega
      unfold bv at M2;rw[e1]at M2;clear k1 e1;go_upto_region 14 with fail
      generalize w6.F ⟨g,10,none⟩ (.b .b ((z:Int)/256))=w7 at *;obtain⟨_,_,g',eg,k3,k4⟩:=M2.i.at0 (by rw[aV,Nz.i];omega);injection eg with eg
      injection eg with eg
      subst eg;have k11:=k3 11 (by rw[aV,Nz.i];omega);have M3:=ab (M2.i.afP 11 (aJ (z%256)));have e2:((aJ (z%256)).e:Int)=(z:Int)%256:=by rw[yM _ (by omega)];omega
      unfold bv at M3;rw[e2]at M3;clear k3 e2 k2 k10;go_wp2;go_ret;rw[<-HP2.i]at M3;have ho:=M3.i.o;obtain⟨A9,c9,e9⟩:=ho.Cj;injection e9 with e9 e10 e11
      subst e10;have HLE:bs3.a=(tK x).a:=by rw[HP2.i,aV,aV]
      rw[HLE];exact⟨_,_,_,rfl,rfl,ho.vB,ho.R⟩
def amC(a b:fC):Bool:=a.h==b.h&&(a.h||a.mJ&&b.mJ)
def zT(k:Int)(l:List UInt8):Tn:=
 if k=2048 then⟨(zR l).1.head,(zR l).1.dz,(zR l).1.aQ,(zR l).1.oI,(zR l).2==0⟩
 else if k=34525 then⟨(Aq l).1.head,(Aq l).1.dz,(Aq l).1.aQ,(Aq l).1.oI,(Aq l).2==0⟩
 else sN
def afQ(x:Lc)(t:Tu):Lc:={x with ou:=if t.h.h then 34525 else 2048}
theorem abb(x:Lc)(t:Tu)(w:ak):aP ah 104 #[.d x.ay,.d t.ay] w (gD w (.d (afQ x t).ay)):=by
 have h0:=(((Bx.start w).new x.ay 108).new t.ay 81).new qK.ay 108;rw[show((w.alloc (.D x.ay 108)).alloc (.D t.ay 81)).a.j=w.a.j+2 by simp,show(w.alloc (.D x.ay 108)).a.j=w.a.j+1 by simp]at h0;have Z:=ab (h0.sub (L':=[(w.a.j,x.ay),(w.a.j+1,t.ay),(w.a.j+2,qK.ay)]) (by simp));clear h0;have hne:=ab (fun p (hp:p∈[(w.a.j+1,t.ay),(w.a.j+2,qK.ay)])=>show p.1≠w.a.j by
  simp at hp;rcases hp with rfl|rfl<;>simp)
 go_enter Tryz.func104,Tryz.ntmps104;go_upto_region 1 with fail
 generalize((w.alloc (.D x.ay 108)).alloc (.D t.ay 81)).alloc (.D qK.ay 108)=w2 at Z ⊢;obtain⟨y1,y2,y3,y4⟩:=Z.i.S.K;have Z1:=ab (Z.i.set hne.i 13 (.b .a 2048));rw[Lc.TL]at Z1;go_upto_region 2 with fail
 clear y1 y2 y3 y4;generalize w2.F ⟨w.a.j,13,none⟩ (.b .a 2048)=w3 at Z1 ⊢;obtain⟨x1,x2,x3,x4⟩:=Z1.i.b1.K;have x0:=Tu.qw t;cases h6:t.h.h
 ·have H6:=ab h6
  rw[h6]at x0;clear h6;obtain⟨u1,u2,u3,u4⟩:=Z1.i.S.K;have th:=Z1.i.b2.M 0 15 (aX (Lc.G qK).symm);have ZP:=ab ((Z1.i.sub (L':=[(w.a.j+2,qK.ay)]) (by simp)).put (fun p hp=>by cases hp) ({x with ou:=2048}:Lc).ay (by rw[Lc.G,Lc.G]));go_wp2;refine aN (kLc.yV rfl _ rfl ZP.i.S (Lc.G _)) rfl ?_;rw[show afQ x t={x with ou:=2048}by unfold afQ;rw[H6.i];rfl];exact⟨rfl,ZP.i.R⟩
 ·have H6:=ab h6
  rw[h6]at x0;clear h6;obtain⟨y1,y2,y3,y4⟩:=Z1.i.S.K;have Z2:=ab (Z1.i.set hne.i 13 (.b .a 34525));rw[Lc.TL]at Z2;go_upto_region 4 with fail
  clear y1 y2 y3 y4 x1 x2 x3 x4;generalize w3.F ⟨w.a.j,13,none⟩ (.b .a 34525)=w4 at Z2 ⊢;obtain⟨u1,u2,u3,u4⟩:=Z2.i.S.K;have th:=Z2.i.b2.M 0 15 (aX (Lc.G qK).symm);have ZP:=ab ((Z2.i.sub (L':=[(w.a.j+2,qK.ay)]) (by simp)).put (fun p hp=>by cases hp) ({x with ou:=34525}:Lc).ay (by rw[Lc.G,Lc.G]));go_wp2;refine aN (kLc.yV rfl _ rfl ZP.i.S (Lc.G _)) rfl ?_;rw[show afQ x t={x with ou:=34525}by unfold afQ;rw[H6.i];rfl];exact⟨rfl,ZP.i.R⟩
section
attribute [local go_sem high] iY jH
def GD(l:List UInt8)(s d:fC):List UInt8×Int:=
 if(mq l).2≠0 then([],3)
 else if(zT (mq l).1.ou (l.f (mq l).1.fI)).Z=false then([],3)
 else if amC s d=false then([],1)
 else if s.h=true then
  if(zT (mq l).1.ou (l.f (mq l).1.fI)).dz>65535 then([],4)
  else(qv (mq l).1.X (mq l).1.h (mq l).1.fK 34525++wG ⟨40,40+(zT (mq l).1.ou (l.f (mq l).1.fI)).dz,64,false,0,if(mq l).1.ou=34525 then 41 else 4,s,d⟩++(l.f (mq l).1.fI).d (zT (mq l).1.ou (l.f (mq l).1.fI)).dz.e,0)
 else if 20+(zT (mq l).1.ou (l.f (mq l).1.fI)).dz>65535 then([],4)
  else(qv (mq l).1.X (mq l).1.h (mq l).1.fK 2048++tK ⟨20,20+(zT (mq l).1.ou (l.f (mq l).1.fI)).dz,0,0,false,true,64,if(mq l).1.ou=34525 then 41 else 4,s,d⟩++(l.f (mq l).1.fI).d (zT (mq l).1.ou (l.f (mq l).1.fI)).dz.e,0)
def ajl(W:ak)(r:List UInt8×Int)(e:lq)(W':ak):Prop:=∃A n c,e=.a (.J #[.a A n c,.b .a r.2])/\fU W' W'.a.j A n r.1/\aL W.a.j W W'
theorem ND(l:List UInt8)(k:Nat):eZ l k<=65535:=by
 have h1:=(l.c k 0).toNat_lt;have h2:=(l.c (k+1) 0).toNat_lt;unfold eZ;omega
theorem YN{l:List UInt8}:∀(m k:Nat)(fK:List Tg),(∀t∈fK,aa' t)->fK.a+m<=2->(∀t∈(Co l m k fK).1.fK,aa' t)/\(Co l m k fK).1.fK.a<=2
 | 0,k,fK,h,hl=>by
   cases ht:tT (eZ l (k-2):Nat)with
   | false=>rw[zH ht];exact⟨h,hl⟩
   | true=>rw[JQ ht];exact⟨fun t ht=>by simp[Er]at ht,by simp[Er]⟩
 | m+1,k,fK,h,hl=>by
   cases ht:tT (eZ l (k-2):Nat)with
   | false=>rw[zH ht];exact⟨h,by simp only;omega⟩
   | true=>
     by_cases h4:l.a<k+4
     ·rw[By ht h4];exact⟨fun t ht=>by simp[Er]at ht,by simp[Er]⟩
     ·rw[Es ht h4]
      refine YN m (k+4) _ (fun t ht=>?_) (by simp;omega);rcases qm.1 ht with ht|ht
      ·exact h t ht
      ·rw[fG.1 ht]
       have h1:=ND l (k-2);have h2:=ND l k;exact⟨⟨by simp only;omega,by simp only;omega⟩,by simp only;omega,by simp only;omega⟩
theorem V5(l:List UInt8):(∀t∈(mq l).1.fK,aa' t)/\(mq l).1.fK.a<=2:=by
 unfold mq;split
 ·exact⟨fun t ht=>by simp[Er]at ht,by simp[Er]⟩
 ·exact YN 2 14 [] (fun t ht=>by cases ht) (by simp)
end
section
attribute [local go_sem high] iY jH
theorem afR(W:ak)(k:Int)(A:Option aT)(n c:Nat)(l:List UInt8)(hnc:n<=c)(hc:c<=9223372036854775807/\n<=1000000)(hr:fU W W.a.j A n l):aP ah 101 #[.b .a k,.a A n c] W (gD W (.d (zT k l).ay)):=by
 have b0:=ab ((Bx.start W).new sN.ay 179);have R0:=b0.i.Lv hr;have C4:=ab (Np _ A n c l hnc (by omega) R0);have C6:=ab (Rb _ A n c l hnc (by omega) R0);clear R0 hr;go_enter Tryz.func101,Tryz.ntmps101;by_cases hk:k=2048
 ·have q:(k==2048)=true:=by simp[hk]
  obtain⟨x,hx⟩:=cB ((zR l));obtain⟨x,er⟩:=x;have H:=ab (show zT k l=⟨x.head,x.dz,x.aQ,x.oI,er==0⟩by unfold zT;rw[if_pos hk,<-hx]);unfold FoP at C4;rw[<-hx]at C4;clear hx hk;go_wp2_with (go_at_call 175;with_reducible refine C4.i.g ?_;rintro e w1 ⟨rfl,hb1⟩;have Z1:=ab (b0.i.go hb1);have Z2:=ab (Z1.i.new x.ay 192);obtain⟨y1,y2,y3,y4⟩:=Z2.i.S.K;have yE:=Z2.i.b1.M 0 5 (aX (Tn.G sN).symm);clear hb1);have Z3:=ab (Z2.i.swap.put (fun p hp=>by rw[fG.1 hp];exact uq Z1.i.S.lt) (Tn.mk x.head x.dz x.aQ x.oI (er==0)).ay (by rw[Tn.G,Tn.G]));refine aN (kTn.yV rfl _ rfl Z3.i.S (Tn.G _)) rfl ?_;rw[H.i];exact⟨rfl,Z3.i.R⟩
 by_cases hk6:k=34525
 ·have q:(k==2048)=false:=by simp[hk]
  have q2:(k==34525)=true:=by simp[hk6]
  obtain⟨x,hx⟩:=cB ((Aq l));obtain⟨x,er⟩:=x;have H:=ab (show zT k l=⟨x.head,x.dz,x.aQ,x.oI,er==0⟩by unfold zT;rw[if_neg hk,if_pos hk6,<-hx]);unfold SxP at C6;rw[<-hx]at C6;clear hx hk hk6;go_wp2_with (go_at_call 176;with_reducible refine C6.i.g ?_;rintro e w1 ⟨rfl,hb1⟩;have Z1:=ab (b0.i.go hb1);have Z2:=ab (Z1.i.new x.ay 189);obtain⟨y1,y2,y3,y4⟩:=Z2.i.S.K;have yE:=Z2.i.b1.M 0 5 (aX (Tn.G sN).symm);clear hb1);have Z3:=ab (Z2.i.swap.put (fun p hp=>by rw[fG.1 hp];exact uq Z1.i.S.lt) (Tn.mk x.head x.dz x.aQ x.oI (er==0)).ay (by rw[Tn.G,Tn.G]));refine aN (kTn.yV rfl _ rfl Z3.i.S (Tn.G _)) rfl ?_;rw[H.i];exact⟨rfl,Z3.i.R⟩
 ·have q:(k==2048)=false:=by simp[hk]
  have q2:(k==34525)=false:=by simp[hk6]
  have H:=ab (show zT k l=sN by unfold zT;rw[if_neg hk,if_neg hk6]);have yE:=b0.i.S.M 0 5 (aX (Tn.G sN).symm);clear hk hk6;go_wp2;have Z3:=ab (b0.i.put (fun p hp=>by cases hp) sN.ay rfl);refine aN (kTn.yV rfl _ rfl (b:=W.a.j) (c:=sN.ay) (by first|exact Z3.i.S|exact b0.i.S) (Tn.G _)) rfl ?_;rw[H.i];exact⟨rfl,by first|exact Z3.i.R|exact b0.i.R⟩
theorem aDn:ai8 314:=⟨fun c w=>by
 go_enter Tryz.func314,Tryz.ntmps314;go_wp2;go_ret;exact⟨rfl,rfl⟩,fun args w=>by kernel_rfl⟩
theorem adv(a:fC)(w:ak):aP ah 269 #[.d a.ay] w (gD w (.e a.mJ)):=by
 have HB:=ab ((aG w.a.j w).alloc (av _) (.D a.ay 27));have x0:=dK.new w a.ay 27;have C:=ab (ahl _ aDn _ 12 12 _ _ _ (by omega) (fU.tail (B:=w.a.j+1) (mF _) x0));have HS:=ab (JR a);obtain⟨z,hz⟩:=cB (nzB (a.b.a.f 4));rw[<-hz]at C HS;clear hz;go_enter Tryz.func269,Tryz.ntmps269;go_wp2_with fail;refine C.i.g ?_;rintro e w' ⟨rfl,rfl⟩;cases z
 all_goals
  go_wp2;go_ret;exact⟨by have:=HS.i;simp at this;simp[<-this],HB.i⟩
theorem afS(k:Int)(w:ak):aP ah 256 #[.b .a k] w fun e w'=>e=.a (.e (decide (0<=k)&&decide (k<=65535)))/\w=w':=by
 go_enter Tryz.func256,Tryz.ntmps256;by_cases h1:0<=k<;>by_cases h2:k<=65535
 all_goals
  go_wp2;go_ret;exact⟨by simp[h1,h2],rfl⟩
theorem ajm(k:Int)(w:ak):aP ah 315 #[.b .a k] w fun e w'=>e=.a (.e (decide (0<=k)&&decide (k<=255)))/\w=w':=by
 go_enter Tryz.func315,Tryz.ntmps315;by_cases h1:0<=k<;>by_cases h2:k<=255
 all_goals
  go_wp2;go_ret;exact⟨by simp[h1,h2],rfl⟩
end
theorem afT(l:List UInt8):∀v∈l.map bv,v.h=true:=by
 intro v hv;obtain⟨b,_,rfl⟩:=iV.1 hv;rfl
theorem amD(l:List UInt8)(k:Nat):rX l k []=l:=by unfold rX;simp
theorem Qt{g z n c:Nat}(h:z<c):vF (some ⟨g,0,none⟩) z c 1=some ⟨g,z,none⟩:=by
 unfold vF;rw[if_neg (by omega)];simp only[lV,gH];rw[iC,bB]
theorem Ly.copy{B:Nat}{L:List (Nat×Array aB)}{w0 W:ak}{A:Option aT}{n c:Nat}{bs:List UInt8}(h:Ly B L w0 W (.a A n c) bs)(z:Nat){C:Nat}{sp:Option aT}{sLen:Nat}{ys:List UInt8}(hr:fU W C sp sLen ys)(m:Nat)(dp:Option aT)(dLen dCap sCap:Nat)
 (hm:m=ql sLen dLen) (hd:0<m->∃g,A=some ⟨g,0,none⟩/\dp=some ⟨g,z,none⟩) (hz:z+m<=bs.a) (ty:bF) (dT sT:bF) (hu:ah.k dT=some (.a 5)) :
 ∃W',(Builtin.copy_ #[dT,sT] ty #[.a dp dLen dCap,.a sp sLen sCap]).I ah W = .Z (goInt m) W'/\Ly B L w0 W' (.a A n c) (rX bs z (ys.d m))/\W.d W' (jY (.a A n c)):=by
 have hsz:(ah.info? 5).map (·.j)=some 1:=by
  obtain⟨i0,hi0,hz0,hz1,_⟩:=zi Ia;rw[hi0];simp[hz1]
 by_cases h0:m=0
 ·subst h0
  exact⟨W,run_copy_none (P:=ah) W dT sT ty 5 dp sp dLen dCap sLen sCap hu hsz hm.symm,by rw[j4,amD];exact h,World.grownBy.refl _ _⟩
 ·obtain⟨g,rfl,rfl⟩:=hd (by omega)
  have hln:=hr.len;have hms:m<=sLen:=by rw[hm];exact Nat.min_le_left _ _
  obtain⟨a,rfl,_,hsrc⟩:=hr.2 (by omega);have hl1:((ys.d m).map bv).a=m:=by simp;omega
  rcases h.o.vB.2 with⟨e,_⟩|⟨g',cap,cur,e,hB,hh,hn,hcap,hcs,htk⟩
  ·cases e
  ·injection e with e1 e2 e3
   injection e1 with e1
   injection e1 with e1
   subst e1 e3;have hnb:n=bs.a:=e2;have hg2:w0.a.j<=g:=by
    rcases h.o.tF with e|⟨k',e,e2⟩
    ·cases e
    ·injection e with e;subst e;exact e2
   have hrun:=run_copy_row (P:=ah) W dT sT ty 5 g z dLen dCap a sLen sCap cur 5 ((ys.d m).map bv) hu hsz hh (by rw[hl1,hm]) (fun j v hv=>hsrc j v (by
    simp only[jk,jq]at hv ⊢;split at hv
    ·exact hv
    ·cases hv)) (by rw[hl1,hcs];omega) (afT _)
   rw[hl1]at hrun;refine⟨_,hrun,?_,?_⟩
   ·have UU:(rX bs z (ys.d m)).a=bs.a:=Ev (by simp;omega)
    have aDo:(cur.a.d bs.a)=bs.map bv:=by rw[<-htk,gH]
    refine⟨⟨⟨by simp[UU],.b ⟨g,c,_,by rw[UU,hnb],hB,setRow_heap W g cur _ _ _ hh,by rw[UU];omega,hcap,by simp;simp at hcs;omega,?_⟩⟩,?_,h.o.tF,h.o.hB,h.o.gb⟩,fun p hp=>⟨?_,(h.G p hp).2⟩⟩
    ·rw[UU,gH]
     unfold rX;simp only[List.toList_toArray,List.map_append,Ad,List.map_drop,<-aDo];simp only[Array.toList_ofFn,bK];apply iL;intro i;have hcz:cur.a.a=c:=by rw[aZ,hcs,gH]
     rw[jq];by_cases hi:i<bs.a
     ·rw[if_pos hi]
      simp only[dB,kR,bK,bU,jq,jo,hcz]
      repeat' split
      all_goals first|omega|rfl|(simp at *;omega)|(congr 1;omega)|(simp;omega)|skip
     ·rw[if_neg hi]
      symm;apply aS;simp[hcz];omega
    ·exact⟨h.o.gr.os,h.o.gr.tape,h.o.gr.output,by simpa[rT]using h.o.gr.j,fun k hk hne=>(oL W g k _ (by omega)).trans (h.o.gr.block k hk hne)⟩
    ·obtain⟨t,ht⟩:=(h.G p hp).1
     exact⟨t,(oL W g p.1 _ (fun e=>(h.G p hp).2 (by rw[e];rfl))).trans ht⟩
   ·exact⟨rfl,rfl,rfl,by simp[rT],fun k hk hne=>oL W g k _ (fun e=>hne (by rw[e];rfl))⟩
section
attribute [local go_sem high] iY jH
theorem apZ:lW 3 = #[0,1,2]:=by apply oQ;rw[kg];rfl
@[go_sem]theorem ar1(w:ak)(A0 A1 A2:Option aT)(n0 n1 n2 c0 c1 c2:Nat):(FQ 3 #[(0,.a A0 n0 c0),(1,.a A1 n1 c1),(2,.a A2 n2 c2)]).I ah w = .Z (.a (some ⟨w.a.j,0,none⟩) 3 3) (w.alloc (.D (yK [⟨A0,n0,c0⟩,⟨A1,n1,c1⟩,⟨A2,n2,c2⟩]) 56)):=by
 obtain⟨i0,hi0,hz0,hz1⟩:=Tp;simp[FQ,bJ,dJ Tryz.underlying276,zeroValue,sizeOf,typeInfo,hi0,hz0,hz1,fE,newRow,yK,cK,apZ]
def adw(w:ak)(bs:List UInt8)(e:lq)(w':ak):Prop:=∃A n c,e=.a (.J #[.a A n c,.b .a 0])/\n=bs.a/\w'.c w.a.j 5 1 (.a A n c) n (bs.map bv)/\aL w.a.j w w'
theorem Ly.amE{B:Nat}{L:List (Nat×Array aB)}{w0 W:ak}{A:Option aT}{n c:Nat}{bs:List UInt8}(ho:W.c B 5 1 (.a A n c) n (bs.map bv))(hB0:w0.a.j<=B)(hb:aL w0.a.j w0 W)(hx:∀p∈L,dK W p.1 p.2/\p.1<B):Ly w0.a.j L w0 W (.a A n c) bs:=by
 have hn:n=bs.a:=by have:=ho.1;rw[bU]at this;omega
 subst hn;have hk:∀k,(bD A bs.a c).f=some k->B<=k:=fun k hk=>(ho.lt k hk).1
 refine⟨⟨iI ho hB0,⟨hb.os,hb.tape,hb.output,hb.j,fun i hi _=>hb.block i hi⟩,?_,av _,fun k h=>by cases h⟩,fun p hp=>⟨(hx p hp).1,fun e=>by have:=hk _ e;have:=(hx p hp).2;omega⟩⟩;cases A with
 | none=>exact .a rfl
 | some a=>exact .b ⟨_,rfl,aO hB0 (hk _ rfl)⟩
theorem Ly.toE{L:List (Nat×Array aB)}{w0 W:ak}{A:Option aT}{n c:Nat}{bs:List UInt8}(h:Ly w0.a.j L w0 W (.a A n c) bs):adw w0 bs (.a (.J #[.a A n c,.b .a 0])) W:=by
 obtain⟨A9,c9,e9⟩:=h.o.Cj;injection e9 with e1 e2 e3
 subst e2;exact⟨A,_,c,rfl,rfl,h.o.vB,h.o.R⟩
theorem uU(n:Nat)(h:n<=65535):iG n 2 true=qg n:=by
 simp only[iG,rO,qg,if_true,dS];rw[show dP 2=[0,1]from rfl];simp[Fa];apply UInt8.toNat_inj.1;simp
theorem adx{α β:Type}(f:α->List β)(d:α)(l:List α)(i:Nat)(hi:i<l.a):(l.d (i+1)).h f=(l.d i).h f++f (l.c i d):=by
 rw[<-lN d l i hi];simp
theorem ahs{W:ak}{q o:Nat}{c:Array aB}(h:dK W q c)(v:Vector UInt8 6)(hc:c.m o (o+6)=Ap v):fU W W.a.j (some ⟨q,o,none⟩) 6 v.a:=by
 have:=fU.Nq (w:=W) (B:=W.a.j) (b:=q) (o:=o) (l:=v.a) h.lt (fun j hj=>by
  rw[h.K.1];have h2:(c.m o (o+6))[j]? = (Ap v)[j]?:=by rw[hc]
  have hj6:j<6:=by simpa using hj
  have hs:(Ap v)[j]? = some (bv (v.a.c j 0)):=by simp[Ap,au,hj6]
  rw[hs,dx]at h2;split at h2
  ·exact h2
  ·cases h2)
 simpa using this
theorem ady(xd xr:Vector UInt8 6)(TA:Option aT)(tn adz:Nat)(xty xat:Int)(fK:List Tg)(hf:∀t∈fK,aa' t)(hi:∀t∈fK,tT t.ou=true)(hn:fK.a<=2)(t0:0<=xty)(t1:xty<=65535)(ht:tT xty=false)(w:ak)(hT:iJ Tg.ay 2 w w.a.j TA tn fK):aP ah 185 #[.d (Lc.mk xd xr TA tn adz xty xat).ay] w (adw w (qv xd xr fK xty)):=by
 have Z:=ab ((Bx.start w).new (Lc.mk xd xr TA tn adz xty xat).ay 108);have HT:=ab hT;have HN:=ab hT.1;have hn2:tn<=2:=by have:=hT.1;omega
 have q2:decide ((2:Int)<tn)=false:=by simp;omega
 have CI:=ab (fun k W (h:0<=k/\k<=65535)=>show aP ah 256 #[.b .a k] W (fun e W'=>e=.a (.e true)/\W=W')by
  have:=afS k W;rwa [decide_eq_true h.1,decide_eq_true h.2]at this)
 have CX:=ab (fun W=>CI.i xty W ⟨t0,t1⟩);have CT:=ab (fun W=>by have:=aaX (W:=W) xty;rwa [ht]at this:∀W,aP ah 174 #[.b .a xty] W fun e W'=>e=.a (.e false)/\W=W');have HF:=ab hf;have HI:=ab hi;have HTY:=ab ht;clear hT hf hi ht;go_enter Tryz.func185,Tryz.ntmps185;go_upto_region 1 with fail
 generalize w.alloc (.D (Lc.mk xd xr TA tn adz xty xat).ay 108)=w1 at *;obtain⟨y1,y2,y3,y4⟩:=Z.i.S.K;go_upto_region 3 with(first|(go_at_call 256;(with_reducible refine(CX.i _).g ?_);rintro e w4 ⟨rfl,rfl⟩)|(go_at_call 174;(with_reducible refine(CT.i _).g ?_);rintro e w4 ⟨rfl,rfl⟩))
 have CC:=ab (Bt [⟨some ⟨w.a.j,0,none⟩,6,6⟩,⟨some ⟨w.a.j,6,none⟩,6,6⟩] [xd.a,xr.a] 56 2 w1.drew rfl (.cons (ahs Z.i.drew.S xd (Lc.IV _)) (.cons (ahs Z.i.drew.S xr (Lc.IU _)) .nil)) (by omega) (by simp[yC]));simp only[show w1.drew.a.j=w1.a.j from rfl,show∀(w:ak) ob,w.drew.alloc ob=(w.alloc ob).drew from fun _ _=>rfl]at CC;obtain⟨bs,hbs⟩:=cB (xd.a++xr.a);have HBS:=ab (show qv xd xr fK xty=bs++fK.h zS++qg xty by rw[hbs];rfl);have Gb:=ab (show bs.a=12 by rw[hbs];simp);rw[show [xd.a,xr.a].flatten=bs by rw[hbs];simp]at CC;clear hbs y1 y2 y3 y4 q2;go_region_held_law (fun _=>True) (trivial) (first|(go_at_call 181;(with_reducible refine CC.i.g ?_);rintro e w2 ⟨A2,m2,c2,rfl,hm2,_,ho2,hb2⟩;have O2:=ab ho2;have B2:=ab (M8 hb2);clear hm2 ho2 hb2));have S0:=ab (Ly.amE (L:=[(w.a.j,(Lc.mk xd xr TA tn adz xty xat).ay)]) (w0:=w) O2.i (kQ Z.i.R.j) (Z.i.R.trans (B2.i.g Z.i.R.j)) (fun p hp=>by rw[fG.1 hp];exact⟨Z.i.S.go B2.i,Nat.lt_succ_of_lt Z.i.S.lt⟩));have fg:=fun(w':ak) (h:dK w' w.a.j (Lc.mk xd xr TA tn adz xty xat).ay)=>show w'.b ⟨w.a.j,12,none⟩=some (.a TA tn adz)from(h.K.1 12).trans (Lc.aaU _)
 have FG:=ab fg;have fy:=fun(w':ak) (h:dK w' w.a.j (Lc.mk xd xr TA tn adz xty xat).ay)=>show w'.b ⟨w.a.j,13,none⟩=some (.b .a xty)from(h.K.1 13).trans (Lc.DJ _)
 have FY:=ab fy;clear fg fy;have f12:=FG.i _ S0.i.S;have HTL:=ab (Ew fK);go_wp2;clear f12;go_loopw [4,31] (fun s4 s31 wr=>∃(i:Nat)(A:Option aT)(m c:Nat),i<=tn/\s31=.b .a i/\s4=.a A m c/\Ly w.a.j [(w.a.j,(Lc.mk xd xr TA tn adz xty xat).ay)] w wr (.a A m c) (bs++(fK.d i).h zS)) (fun _ s31 _=>tn-(intOf s31).e)
 case atStart=>exact⟨0,_,_,_,by omega,rfl,rfl,by simpa using S0.i⟩
 case round=>
  obtain⟨i,A,m,c,hin,rfl,rfl,h⟩:=hrel;have HO:=ab h;clear h;have HL1:=ab (show((fK.d i).h zS).a<=8 by rw[Ew,bK];have:=HN.i;omega);by_cases hlt:i<tn
  ·have hi:(i:Int)<tn:=by omega
   obtain⟨b,o,hA,hbb,hh,hcl⟩:=iJ.fI Tg.G Sk ((HT.i.O HO.i.o.R).lF HO.i.o.R.j) hlt;have hm:=AY Sk fK i (by rw[HN.i];exact hlt);have Dx:=ab (adx zS Sk fK i (by rw[HN.i];exact hlt));have ok1:=HF.i _ hm;have ok2:=HI.i _ hm;obtain⟨t,htt⟩:=cB (fK.c i Sk);rw[<-htt]at hcl ok1 ok2 Dx;clear htt hm;obtain⟨⟨k0,k1⟩,k2,k3⟩:=ok1;obtain⟨ty,hty⟩:∃n:Nat,t.ou=(n:Int):=⟨t.ou.e,by omega⟩
   obtain⟨tc,htc⟩:∃n:Nat,t.tci=(n:Int):=⟨t.tci.e,by omega⟩
   have CTT:=ab (show∀W,aP ah 174 #[.b .a t.ou] W fun e W'=>e=.a (.e true)/\W=W' from fun W=>by have:=aaX (W:=W) t.ou;rwa [ok2]at this);have CII:=ab (fun W=>CI.i t.tci W ⟨k2,k3⟩);have HTB:=ab (show zS t=qg ty++qg tc by unfold zS;rw[hty,htc]);have cs:jy.wrap t.ou=(ty:Int):=by rw[jU];omega
   have cd:jy.wrap t.tci=(tc:Int):=by rw[jU];omega
   have PS:=ab (fun W=>wm ty (by omega) W);have PD:=ab (fun W=>wm tc (by omega) W);rw[uU ty (by omega)]at PS;rw[uU tc (by omega)]at PD;have HZ:=ab hty;have HZ2:=ab htc;subst hA;clear hty htc ok2 k0 k1 k2 k3;have L1:=ab (HO.i.new t.ay 268);go_upto_region 7 with fail
   clear hh hcl;generalize wr.alloc (.D t.ay 268)=w5 at L1 ⊢;generalize wr.a.j=y6 at L1 ⊢;have e1:=(L1.i.S.K.1 0).trans (Tg.DJ t);have e2:=(L1.i.S.K.1 1).trans (Tg.amg t);go_upto_region 9 with(first|(go_at_call 174;(with_reducible refine(CTT.i _).g ?_);rintro e w6 ⟨rfl,rfl⟩)|(go_at_call 256;(with_reducible refine(CII.i _).g ?_);rintro e w6 ⟨rfl,rfl⟩))
   go_upto_region 10 with(first|(go_at_call 184;(with_reducible refine(PS.i _).g ?_);rintro e w6 ⟨A6,rfl,ho,hb⟩;have R6:=ab (Db ho (aG _ _));have L2:=ab (L1.i.go hb);have HLN:=ab (show(bs++(fK.d i).h zS).a+2<=1000000000 by rw[aR];have:=HL1.i;have:=Gb.i;omega);clear ho hb)|(at_builtin;refine kE rfl (.a 45) (.a 49) rfl rfl L2.i.o rfl R6.i HLN.i ?_;intro A7 n7 c7 w7 h2 h3;have L3:=ab (L2.i.step h3);clear h2 h3))
   have e3:=(L3.i.S.K.1 1).trans (Tg.amg t);have auw:=ab (show(bs++(fK.d i).h zS++qg ty).a+2<=1000000000 by rw[aR,aR];have:=HL1.i;have:=Gb.i;have:(qg ty).a=2:=rfl;omega);go_wp2_with (first|(go_at_call 184;(with_reducible refine(PD.i _).g ?_);rintro e w8 ⟨A8,rfl,ho,hb⟩;have R8:=ab (Db ho (aG _ _));have L4:=ab (L3.i.go hb);clear ho hb)|(at_builtin;refine kE rfl (.a 51) (.a 55) rfl rfl L4.i.o rfl R8.i auw.i ?_;intro A9 n9 c9 w9 h2 h3;have L5:=ab (L4.i.step h3);clear h2 h3));go_roundw
   case rel=>exact⟨i+1,A9,n9,c9,by omega,by go_num,rfl,by have:=L5.i.Tq;rw[Dx.i,HTB.i,<-dB,<-dB];exact this⟩
   case measure=>simp[intOf]<;>omega
  ·have hge:¬(i:Int)<tn:=by omega
   have HFU:=ab (show(fK.d i).h zS=fK.h zS by rw[aK (by rw[HN.i];omega)]);obtain⟨ty,hty⟩:∃n:Nat,xty=(n:Int):=⟨xty.e,by omega⟩
   subst hty;have cs:jy.wrap (ty:Int)=(ty:Int):=by rw[jU];omega
   have PS:=ab (fun W=>wm ty (by omega) W);rw[uU ty (by omega)]at PS;have e3:=FY.i _ HO.i.S;have auw:=ab (show(bs++(fK.d i).h zS).a+2<=1000000000 by rw[aR];have:=HL1.i;have:=Gb.i;omega);go_wp2_with (first|(go_at_call 184;(with_reducible refine(PS.i _).g ?_);rintro e w8 ⟨A8,rfl,ho,hb⟩;have R8:=ab (Db ho (aG _ _));have L4:=ab (HO.i.go hb);clear ho hb)|(at_builtin;refine kE rfl (.a 58) (.a 62) rfl rfl L4.i.o rfl R8.i auw.i ?_;intro A9 n9 c9 w9 h2 h3;have L5:=ab (L4.i.step h3);clear h2 h3));go_ret2;rw[HBS.i,<-HFU.i];exact L5.i.toE
theorem adB(x:Lc)(fK:List Tg)(hf:∀t∈fK,aa' t)(hi:∀t∈fK,tT t.ou=true)(hn:fK.a<=2)(t0:0<=x.ou)(t1:x.ou<=65535)(ht:tT x.ou=false)(w:ak)(hT:iJ Tg.ay 2 w w.a.j x.Vx x.Ep fK):aP ah 185 #[.d x.ay] w (adw w (qv x.X x.h fK x.ou)):=
 ady x.X x.h x.Vx x.Ep x.ahk x.ou x.fI fK hf hi hn t0 t1 ht w hT
end
section
attribute [local go_sem high] iY jH
theorem ayu(w:ak)(c:Array aB)(t:bF)(l:List UInt8)(h:c.a=l.map bv):fU (w.alloc (.D c t)) (w.a.j+1) (some ⟨w.a.j,0,none⟩) l.a l:=by
 have:=fU.Nq (w:=w.alloc (.D c t)) (B:=w.a.j+1) (b:=w.a.j) (o:=0) (l:=l) (mF _) (fun j hj=>by
  rw[bB,mQ w c t j,<-dD,h];simp[au,hj])
 exact this
theorem LJ{W:ak}{q o:Nat}{c:Array aB}(h:dK W q c)(a:fC)(hc:c.m o (o+17)=a.ay):fU W W.a.j (some ⟨q,o+1,none⟩) 16 a.b.a:=by
 have:=fU.Nq (w:=W) (B:=W.a.j) (b:=q) (o:=o+1) (l:=a.b.a) h.lt (fun j hj=>by
  have hj6:j<16:=by simpa using hj
  rw[h.K.1,show o+1+j=o+(j+1)by omega];have h2:(c.m o (o+17))[j+1]? = a.ay[j+1]?:=by rw[hc]
  rw[fC.D7 a j hj6,dx]at h2;split at h2
  ·exact h2
  ·cases h2)
 simpa using this
theorem adw.of{w W:ak}{A:Option aT}{n c:Nat}{bs:List UInt8}{B:Nat}(hn:n=bs.a)(ho:W.c B 5 1 (.a A n c) n (bs.map bv))(hB:w.a.j<=B)(hb:aL w.a.j w W):adw w bs (.a (.J #[.a A n c,.b .a 0])) W:=⟨A,n,c,rfl,hn,iI ho hB,hb⟩
theorem V6(x:Sx)(n:Nat)(hn:n<=65535)(hh:x.head=40)(ht:x.dz=40+n)(p0:0<=x.aQ)(p1:x.aQ<=255)(pe:zI x.aQ=false)(h0:0<=x.GY)(h1:x.GY<=255)(hf:x.oI=false)(he:x.GZ=0)(hs:x.h.h=true)(hd:x.X.h=true)(w:ak):aP ah 270 #[.d x.ay] w (adw w (wG x)):=by
 have Z:=ab ((Bx.start w).new x.ay 189);have FA:=ab (fun(w':ak) (h:dK w' w.a.j x.ay)=>show w'.b ⟨w.a.j,0,none⟩=some (.b .a 40)/\w'.b ⟨w.a.j,1,none⟩=some (.b .a (40+n))/\w'.b ⟨w.a.j,2,none⟩=some (.b .a x.GY)/\w'.b ⟨w.a.j,3,none⟩=some (.e false)/\w'.b ⟨w.a.j,4,none⟩=some (.b .a 0)/\w'.b ⟨w.a.j,5,none⟩=some (.b .a x.aQ)/\w'.b ⟨w.a.j,6,none⟩=some (.e true)/\w'.b ⟨w.a.j,23,none⟩=some (.e true)by
  have f:=h.K.1;refine⟨(f 0).trans ((Sx.JO x).trans (by rw[hh])),(f 1).trans ((Sx.xY x).trans (by rw[ht])),(f 2).trans (Sx.atQ x),(f 3).trans ((Sx.TD x).trans (by rw[hf])),(f 4).trans ((Sx.apE x).trans (by rw[he])),(f 5).trans (Sx.Bv x),(f 6).trans ?_,(f 23).trans ?_⟩
  ·have:=Sx.IU x
   have h2:(x.ay.m 6 23)[0]? = x.h.ay[0]?:=by rw[this]
   rw[fC.qw,hs,dx,if_pos (by rw[Sx.G];omega)]at h2;exact h2
  ·have:=Sx.IV x
   have h2:(x.ay.m 23 40)[0]? = x.X.ay[0]?:=by rw[this]
   rw[fC.qw,hd,dx,if_pos (by rw[Sx.G];omega)]at h2;exact h2)
 have HT:=ab (show wG x=[96,0,0,0]++qg n++[aJ x.aQ.e,aJ x.GY.e]++x.h.b.a++x.X.b.a by
  unfold wG qg;rw[ht,show((40:Int)+n-40).e=n by omega];rfl)
 have CI:=ab (fun k W (h:0<=k/\k<=255)=>show aP ah 315 #[.b .a k] W (fun e W'=>e=.a (.e true)/\W=W')by
  have:=ajm k W;rwa [decide_eq_true h.1,decide_eq_true h.2]at this)
 have C1:=ab (fun W=>CI.i x.GY W ⟨h0,h1⟩);have C2:=ab (fun W=>CI.i x.aQ W ⟨p0,p1⟩);have CE:=ab (fun W=>by have:=VD x.aQ W;rwa [pe]at this:∀W,aP ah 250 #[.b .a x.aQ] W fun e W'=>e=.a (.e false)/\aL W.a.j W W');have q1:decide ((40:Int)+n<40)=false:=by simp;omega
 have q2:decide ((65575:Int)<40+(n:Int))=false:=by simp;omega
 have q3:=jS (40+(n:Int)-40) (by omega);have q4:(40:Int)+n-40=n:=by omega
 rw[q4]at q3;have q5:jy.wrap (n:Int)=n:=by rw[jU];omega
 have q6:aW.wrap x.aQ=x.aQ:=by rw[GN];omega
 have q7:aW.wrap x.GY=x.GY:=by rw[GN];omega
 have PS:=ab (fun W=>wm n hn W);rw[uU n hn]at PS;have HP:=ab (show #[aI .b x.aQ,.b .b x.GY].a=[aJ x.aQ.e,aJ x.GY.e].map bv by
  simp only[kL,pI,bv];rw[yM x.aQ.e (by omega),yM x.GY.e (by omega),lG p0,lG h0])
 have E1:=ab (Sx.IU x);have E2:=ab (Sx.IV x);clear hh ht pe hf he hs hd p0 p1 h0 h1;go_enter Tryz.func270,Tryz.ntmps270;go_upto_region 1 with fail
 generalize w.alloc (.D x.ay 189)=w1 at *;obtain⟨f0,f1,f2,f3,f4,f5,f6,f7⟩:=FA.i _ Z.i.S;go_upto_region 3 with(first|(go_at_call 315;(with_reducible refine(C1.i _).g ?_);rintro e w4 ⟨rfl,rfl⟩)|(go_at_call 315;(with_reducible refine(C2.i _).g ?_);rintro e w4 ⟨rfl,rfl⟩)|(go_at_call 250;(with_reducible refine(CE.i _).g ?_);rintro e w5 ⟨rfl,hb⟩;have Z5:=ab (Z.i.go hb);clear f0 f1 f2 f3 f4 f5 f6 f7;obtain⟨f0,f1,f2,f3,f4,f5,f6,f7⟩:=FA.i _ Z5.i.S;clear hb))
 clear f0 f3 f4 f6 f7 f1 f2 f5 q1 q2;have L0:=ab ((Ly.amA w w5 Z5.i.R #[.b .b 96,.b .b 0,.b .b 0,.b .b 0] [96,0,0,0] 4 rfl (by omega) rfl).add (q:=w.a.j) (c:=x.ay) (Z5.i.S.alloc _) (by simp[jY];exact uq Z5.i.S.lt));go_upto_region 4 with fail
 generalize w5.alloc (.D #[.b .b 96,.b .b 0,.b .b 0,.b .b 0] 5)=w6 at L0 ⊢;generalize bD (some ⟨w5.a.j,0,none⟩) 4 4=v6 at L0 ⊢;have f1:=(FA.i _ L0.i.S).2.1;go_upto_region 5 with(first|(go_at_call 184;(with_reducible refine(PS.i _).g ?_);rintro e w7 ⟨A7,rfl,ho,hb⟩;have R7:=ab (Db ho (aG _ _));have L1:=ab (L0.i.go hb);clear ho hb)|(at_builtin;refine kE rfl (.a 57) (.a 62) rfl rfl L1.i.o rfl R7.i (show 4+2<=1000000000 by decide) ?_;intro A8 n8 c8 w8 h2 h3;have L2:=ab (L1.i.step h3);clear h2 h3))
 clear f1 q3 q5 q4;obtain⟨_,_,f2,_,_,f5,_,_⟩:=FA.i _ L2.i.S;have L3:=ab (L2.i.alloc (.D #[.b .b x.aQ,.b .b x.GY] 5));have R8:=ab (ayu w8 #[.b .b x.aQ,.b .b x.GY] 5 _ HP.i);go_upto_region 6 with(first|(at_builtin;refine kE rfl (.a 64) (.a 71) rfl rfl L3.i.o rfl R8.i (show 4+2+2<=1000000000 by decide) ?_;intro A9 n9 c9 w9 h2 h3;have L4:=ab (L3.i.step h3);clear h2 h3))
 clear f2 f5 q6 q7;obtain⟨bs,hbs⟩:=cB ([96,0,0,0]++qg n++[aJ x.aQ.e,aJ x.GY.e]);have Gb:=ab (show bs.a=8 by rw[hbs];rfl);rw[<-hbs]at L4 HT;clear hbs;obtain⟨A10,c10,e10⟩:=L4.i.o.Cj;injection e10 with e11 e12 e13
 subst e11 e12 e13;have BX:=ab L4.i.S.drew;have RB:=ab (fU.iQ L4.i.o.vB);have CC:=ab (Bt [⟨A9,bs.a,c9⟩,⟨some ⟨w.a.j,7,none⟩,16,16⟩,⟨some ⟨w.a.j,24,none⟩,16,16⟩] [bs,x.h.b.a,x.X.b.a] 56 3 w9.drew rfl (.cons RB.i (.cons (LJ (o:=6) BX.i x.h E1.i) (.cons (LJ (o:=23) BX.i x.X E2.i) .nil))) (by omega) (by simp[yC,Gb.i]));simp only[show w9.drew.a.j=w9.a.j from rfl,show∀(w:ak) ob,w.drew.alloc ob=(w.alloc ob).drew from fun _ _=>rfl]at CC;rw[show [bs,x.h.b.a,x.X.b.a].flatten=wG x by rw[HT.i];simp]at CC;go_region_held_law (fun _=>True) (trivial) (first|(go_at_call 181;(with_reducible refine CC.i.g ?_);rintro e w2 ⟨A2,m2,c2,rfl,hm2,_,ho2,hb2⟩;have O2:=ab ho2;have N2:=ab hm2;have B2:=ab (M8 hb2);clear hm2 ho2 hb2));go_wp2;go_ret2;exact adw.of N2.i O2.i (kQ L4.i.o.R.j) (L4.i.o.R.trans (B2.i.g L4.i.o.R.j))
end
theorem LK{w:ak}{ops:Array iZ}{rest:List iZ}{o:iZ}{a:qR}{Q:zO->qR->ak->Prop}(hgd:o.guard=none)(d s:pG)
 (ho:o.op=.call {callee:=.builtin .copy,args:=#[d,s],argTypes:=#[56,56]}) {B:Nat} {L:List (Nat×Array aB)} {w0:ak} {A:Option aT} {n c:Nat} {bs:List UInt8} (H:Ly B L w0 w (.a A n c) bs) (z m:Nat)
 {dp:Option aT} {dLen dCap:Nat} (hd:a.eval d=.a dp dLen dCap) {sp:Option aT} {sLen sCap:Nat} (hs:a.eval s=.a sp sLen sCap) {C:Nat} {ys:List UInt8} (hr:fU w C sp sLen ys) (hm:m=ql sLen dLen)
 (hp:0<m->∃g,A=some ⟨g,0,none⟩/\dp=some ⟨g,z,none⟩) (hz:z+m<=bs.a)
 (h:∀w',Ly B L w0 w' (.a A n c) (rX bs z (ys.d m))->w.d w' (jY (.a A n c))->wpList ah ops Q rest (a.put o.X (goInt m)) w'):wpList ah ops Q (o::rest) a w:=by
 obtain⟨W',hrun,hL,hG⟩:=H.copy z hr m dp dLen dCap sCap hm hp hz o.type 56 56 cu;refine sO hgd fun K hK=>?_
 unfold ni;simp[execOp,ho,resolve,invoke,builtin,hd,hs,hrun,iD];exact hK _ _ (h W' hL hG)
theorem NG{w:ak}{ops:Array iZ}{o:iZ}{a:qR}{K:qR->ak->Prop}{Q:zO->qR->ak->Prop}{E:Prop}(hgd:o.guard=none)(d s:pG)
 (ho:o.op=.call {callee:=.builtin .copy,args:=#[d,s],argTypes:=#[56,56]}) {B:Nat} {L:List (Nat×Array aB)} {w0:ak} (A:Option aT) (n c:Nat) {bs:List UInt8} (H:Ly B L w0 w (.a A n c) bs) (z m:Nat)
 (dp:Option aT) (dLen dCap:Nat) (hd:a.eval d=.a dp dLen dCap) (sp:Option aT) (sLen sCap:Nat) (hs:a.eval s=.a sp sLen sCap) {C:Nat} {ys:List UInt8} (hr:fU w C sp sLen ys) (hm:m=ql sLen dLen)
 (hp:0<m->∃g,A=some ⟨g,0,none⟩/\dp=some ⟨g,z,none⟩) (hz:z+m<=bs.a)
 (h:∀w',Ly B L w0 w' (.a A n c) (rX bs z (ys.d m))->w.d w' (jY (.a A n c))->K (a.put o.X (goInt m)) w'):if fF o (yielded ops a.tmps)=true then ni ah o a w K Q else E:=by
 have hw:fF o (yielded ops a.tmps)=true:=by simp[fF,hgd]
 rw[if_pos hw];obtain⟨W',hrun,hL,hG⟩:=H.copy z hr m dp dLen dCap sCap hm hp hz o.type 56 56 cu;unfold ni;simp[execOp,ho,resolve,invoke,builtin,hd,hs,hrun,iD];exact h W' hL hG
theorem Ly.h{B:Nat}{L:List (Nat×Array aB)}{w0 w:ak}{A:Option aT}{n c:Nat}{bs:List UInt8}(H:Ly B L w0 w (.a A n c) bs)(h:0<bs.a):∃g,A=some ⟨g,0,none⟩/\n=bs.a/\n<=c/\w0.a.j<=g/\∀p∈L,p.1≠g:=by
 rcases H.o.vB.2 with⟨e,h0⟩|⟨g,cap,cur,e,hB,_,hn,_⟩
 ·omega
 ·injection e with e1 e2 e3
  subst e1 e2 e3;refine⟨g,rfl,rfl,hn,?_,fun p hp e=>(H.G p hp).2 (by rw[e];rfl)⟩;rcases H.o.tF with e|⟨k',e,e2⟩
  ·cases e
  ·injection e with e;subst e;exact e2
section
attribute [local go_sem high] iY jH
def Ey(l:List UInt8)(d s:Vector UInt8 6):List UInt8:=(d.a++s.a++l.f 12).d l.a
theorem ayv(l:List UInt8)(d s:Vector UInt8 6)(h:l.a<=6):rX l 0 (d.a.d l.a)=Ey l d s:=by
 have e:(d.a.d l.a).a=l.a:=by simp;omega
 unfold rX Ey;rw[j4,dF,bB,e,List.drop_length,uF,dB,List.take_append_of_le_length (by simp;omega)]
theorem ayw(l:List UInt8)(d s:Vector UInt8 6)(h:6<l.a):rX (rX l 0 (d.a.d 6)) 6 (s.a.d (min 6 (l.a-6)))=Ey l d s:=by
 have hd:d.a.d 6=d.a:=aK (by simp);have hdl:d.a.a=6:=by simp
 have hsl:s.a.a=6:=by simp
 rw[hd];unfold rX Ey;simp only[j4,dF,bB,hdl];rw[List.take_left' hdl,<-KR];have e2:(d.a++l.f 6).f 6=l.f 6:=List.drop_left' hdl;have e3:(s.a.d (min 6 (l.a-6))).a=min 6 (l.a-6):=by simp
 rw[e2,e3,KR,dB d.a s.a,List.take_append,hdl];rw[aK (by omega:d.a.a<=l.a),dB];congr 1;rw[List.take_append,hsl];by_cases h2:l.a<=12
 ·rw[show min 6 (l.a-6)=l.a-6 by omega,iW (by omega),iW (by omega:l.a<=12)]
  simp
 ·rw[show min 6 (l.a-6)=6 by omega,aK (by omega:s.a.a<=6),aK (by omega:s.a.a<=l.a-6)]
  congr 1;rw[aK (by simp;omega)]
theorem Ly.toN{L:List (Nat×Array aB)}{w0 W:ak}{A:Option aT}{n c:Nat}{bs:List UInt8}(h:Ly w0.a.j L w0 W (.a A n c) bs):Kc w0 bs (.a (.a A n c)) W:=by
 obtain⟨A9,c9,e9⟩:=h.o.Cj;injection e9 with e1 e2 e3
 subst e2;exact⟨A,_,c,rfl,rfl,h.o.vB,h.o.R⟩
theorem abd(w:ak)(A:Option aT)(n c:Nat)(l:List UInt8)(d s:Vector UInt8 6)(hn:n<=1000000)(hr:fU w w.a.j A n l):aP ah 206 #[.a A n c,.d (Ap d),.d (Ap s)] w (Kc w (Ey l d s)):=by
 have h0:=((Bx.start w).new (Ap d) 25).new (Ap s) 25;simp only[sU]at h0;have Z:=ab h0;have CC:=ab (aiL l A n c _ (h0.Lv hr) (by omega));have hl:=ab hr.len;clear h0 hr;go_enter Tryz.func206,Tryz.ntmps206;go_upto_region 1 with fail
 generalize(w.alloc (.D (Ap d) 25)).alloc (.D (Ap s) 25)=w1 at Z CC ⊢;go_upto_region 2 with(go_at_call 268;(with_reducible refine CC.i.g ?_);rintro e w2 ⟨A2,c2,rfl,ho,hb⟩;have L1:=ab (Ly.amE (w0:=w) (L:=[(w.a.j+1,Ap s),(w.a.j,Ap d)]) ho Z.i.R.j (Z.i.R.trans (hb.g Z.i.R.j)) (fun p hp=>⟨((Z.i.go hb).2 p hp).2,(Z.i.2 p hp).2.lt⟩));clear ho hb)
 have RD:=ab (ahs (o:=0) L1.i.b1 d (by rw[<-gI d];simp));by_cases h6:n<=6
 ·have hm:n=ql 6 n:=by show n=min 6 n;omega
  have HM:=ab hm;have q:decide ((6:Int)<n)=false:=by simp;omega
  have HP:=ab (show 0<n->∃g,A2=some ⟨g,0,none⟩/\A2=some ⟨g,0,none⟩from fun h=>by
   obtain⟨g,hg,_⟩:=L1.i.h (by rw[hl.i];exact h);exact⟨g,hg,hg⟩)
  have HZ:=ab (show 0+n<=l.a by rw[hl.i];omega);clear hm;go_wp2_with (first|(at_builtin;fail)|(refine LK rfl (.a 10) (.a 11) rfl L1.i 0 n rfl rfl RD.i HM.i HP.i HZ.i ?_;intro w3 h3 h4;have L2:=ab h3;clear h3 h4));go_ret;have:=L2.i.toN;have e:rX l 0 (d.a.d n)=Ey l d s:=by rw[<-ayv l d s (by rw[hl.i];exact h6),hl.i]
  rw[e]at this;exact this
 ·have q:decide ((6:Int)<n)=true:=by simp;omega
  obtain⟨g,hg1,hg2,hg3,hg4,hg5⟩:=L1.i.h (by rw[hl.i];omega);subst hg1;clear hg2;have HP:=ab (show 0<6->∃g',(some ⟨g,0,none⟩:Option aT)=some ⟨g',0,none⟩/\(some ⟨g,0,none⟩:Option aT)=some ⟨g',0,none⟩from fun h=>⟨g,rfl,rfl⟩);have HM:=ab (show 6=ql 6 n by show 6=min 6 n;omega);have HZ:=ab (show 0+6<=l.a by rw[hl.i];omega);have hn6:(6:Int)<=n:=by omega
  go_upto_region 4 with(first|(refine LK rfl (.a 10) (.a 11) rfl L1.i 0 6 rfl rfl RD.i HM.i HP.i HZ.i ?_;intro w3 h3 h4;have L2:=ab h3;clear h3 h4))
  have aJo:(6:Int)<=c2:=by omega
  have L3:=ab L2.i.drew;have RS:=ab (ahs (o:=0) L3.i.S s (by rw[<-gI s];simp));have HPL:=ab (show(rX l 0 (d.a.d 6)).a=n by rw[Ev (by simp;rw[hl.i];omega),hl.i]);obtain⟨m2,hm2⟩:∃m,m=ql 6 (n-6):=⟨_,rfl⟩
  have HM2:=ab hm2;have hm3:m2=min 6 (n-6):=hm2;have HP2:=ab (show 0<m2->∃g',(some ⟨g,0,none⟩:Option aT)=some ⟨g',0,none⟩/\vF (some ⟨g,0,none⟩) 6 c2 1=some ⟨g',6,none⟩from fun h=>⟨g,rfl,Qt (n:=0) (by omega)⟩);have HZ2:=ab (show 6+m2<=(rX l 0 (d.a.d 6)).a by rw[HPL.i];omega);have HT:=ab (show rX (rX l 0 (d.a.d 6)) 6 (s.a.d m2)=Ey l d s by rw[hm3,<-hl.i];exact ayw l d s (by rw[hl.i];omega));clear hm2 hm3 h6;go_region_held_law (fun _=>True) (trivial)
   (first|(refine NG (o:=⟨some 19,_,_,_,_,_⟩) rfl (.a 17) (.a 18) rfl (some ⟨g,0,none⟩) n c2 L3.i 6 m2 (vF (some ⟨g,0,none⟩) 6 c2 1) (n-6) (c2-6) rfl (some ⟨w.a.j+1,0,none⟩) 6 6 rfl RS.i HM2.i HP2.i HZ2.i ?_;intro w4 h3 h4;have L4:=ab h3;clear h3 h4))
  go_wp2;go_ret;have:=L4.i.toN;rw[HT.i]at this;exact this
end
structure Ac where
 kind:Int
 frame:List UInt8
 op:qO
 E:List UInt8
 h:Bool
structure Ou where
 err:Int
 h:Int
 xE:Bool
 kT:Int
 E:List UInt8
 i:List UInt8
deriving DecidableEq
def uV:Ou:=⟨0,0,false,0,[],[]⟩
structure En where
 key:Vector UInt8 16
 c:Cn
 vs:List Vp
def zM(e:En)(s:pY):Tl:=uj e.key e.c.j.e (kW (nX s.h) s.X)
def aht(e:En)(t:Tu):Nat:=xQ e.key (LW t)
def NH(s:pY)(t:Tu):Option (List UInt8):=match pO s.G t with
 | some f=>if sM s.X f.E && !xq (nX s.h) f.E then some f.E else none
 | none=>none
def I9(e:En)(s:pY)(t:Tu):Option (Bk×Bool):=match NH s t with
 | some n=>some (qc s.X n,true)
 | none=>(Gw (zM e s) (aht e t)).map fun n=>(qc s.X n,false)
def NI(e:En)(v:Vp)(b:Bk)(t:Tu)(l:List UInt8):Int×List UInt8:=
 if v.Vu then
  if(GD l (if b.h.h then e.c.h else e.c.Ck) b.h).2=0 then(0,Ey (GD l (if b.h.h then e.c.h else e.c.Ck) b.h).1 b.AJ e.c.AJ)else(10,[])
 else if b.h.h=t.X.h then(0,Ey (aa9 l b.h b.mR true) b.AJ e.c.AJ)else(9,[])
structure Wy where
 h:Int
 i:List UInt8
 X:Bk
 xE:Bool
def Cq(e:En)(s:pY)(l:List UInt8):Wy:=
 if(vT l).kind=0 then
  match yX e.vs (vT l).J.X (vT l).J.aQ (vT l).J.j6 with
  | some i=>match I9 e s (vT l).J with
    | some (b,xE)=>
      if(NI e (e.vs.c i oq) b (vT l).J l).1=0 then⟨0,(NI e (e.vs.c i oq) b (vT l).J l).2,b,xE⟩
      else⟨(NI e (e.vs.c i oq) b (vT l).J l).1,[],jg,false⟩
    | none=>⟨8,[],jg,false⟩
  | none=>⟨7,[],jg,false⟩
 else⟨(vT l).kind,[],jg,false⟩
def Oq(v:Vector Int 11)(r:Int):Vector Int 11:=DT fun i=>if(i:Int)=r then v[i]+1 else v[i]
def ahu(s:pY)(p:Pk):Int:=match pO s.G p.J with
 | some f=>agR f.xk p.uR.e
 | none=>aac p.J.aQ p.uR.e
def amF(s:pY)(p:Pk)(n:List UInt8):Fw:=⟨p.J,n,ahu s p,s.fQ,s.no+1⟩
def BD(e:En)(s:pY)(l:List UInt8):pY×Ou:=
 if(Cq e s l).h=0 then
  ({s with ji:=Oq s.ji 0,no:=s.no+1,G:=DF e.c.dU s.G (amF s (vT l) (Cq e s l).X.E)},⟨0,0,(Cq e s l).xE,s.kT,(Cq e s l).X.E,(Cq e s l).i⟩)
 else({s with ji:=Oq s.ji (Cq e s l).h},{uV with h:=(Cq e s l).h})
def opE(s:pY)(o:qO):pY×Ou:=
 if pU s.kT s.X o=0 then({s with kT:=doV s.kT s.X o,X:=doL s.kT s.X o,h:=El s.h ((doL s.kT s.X o).map (·.E))},{uV with kT:=doV s.kT s.X o})
 else(s,{uV with err:=pU s.kT s.X o})
def NJ(e:En)(s:pY)(n:List UInt8)(well:Bool):pY×Ou:=
 if(Iy s.h n well e.c.kC e.c.X).2.2=0 then({s with h:=(Iy s.h n well e.c.kC e.c.X).1},uV)
 else(s,{uV with err:=(Iy s.h n well e.c.kC e.c.X).2.2})
def NK(e:En)(s:pY):pY×Ou:=
 if 1099511627776<=s.fQ then(s,{uV with err:=7})else({s with fQ:=s.fQ+1,G:=Ll (s.fQ+1) e.c.kF s.G},uV)
def nO(e:En)(s:pY)(a:Ac):pY×Ou:=
 if a.kind=1 then BD e s a.frame else if a.kind=2 then opE s a.op else if a.kind=3 then NJ e s a.E a.h else if a.kind=4 then NK e s else(s,{uV with err:=1})
structure nR(M:Int)(e:En)(s:pY):Prop where
 cn:xX e.c e.vs=true
 pl:xO s.kT s.X=true
 fi:∀x∈s.X,x.pJ
 nm:s.h.map (·.E)=s.X.map (·.E)
 hl:∀x∈s.h,0<=x.I/\x.I<(if x.down then e.c.kC else e.c.X)
 fl:wo e.c.dU s.G
 fw:∀f∈s.G,f.seen<=s.fQ/\1<=f.no/\f.no<=s.no
 ti:0<=s.fQ/\s.fQ<=1099511627776
 no:0<=s.no/\s.no<=M
 ct:∀n∈s.ji.a,0<=n/\n<=M
theorem nR.le{M K:Int}{e:En}{s:pY}(h:nR M e s)(hk:M<=K):nR K e s:=
 ⟨h.cn,h.pl,h.fi,h.nm,h.hl,h.fl,h.fw,h.ti,by have:=h.no;omega,fun n hn=>by have:=h.ct n hn;omega⟩
theorem rz{x:Cn}{l:List Vp}(h:xX x l=true):(2<=x.j/\x.j<=65537/\lH x.j.e=true)/\(1<=x.dU/\x.dU<=4096)/\(1<=x.kC/\x.kC<=100)/\(1<=x.X/\x.X<=100):=by
 unfold xX at h;simp only[bl,decide_eq_true_eq]at h;obtain⟨⟨⟨⟨⟨⟨⟨⟨⟨⟨_,_⟩,⟨⟨h1,h2⟩,h3⟩⟩,h4⟩,h5⟩,h6⟩,_⟩,_⟩,_⟩,_⟩,_⟩:=h;exact⟨⟨h1,h2,h3⟩,h4,h5,h6⟩
theorem ahv{v:Vector Int 11}{r:Int}{M:Int}(h:∀n∈v.a,0<=n/\n<=M):∀n∈(Oq v r).a,0<=n/\n<=M+1:=by
 intro n hn;have hv:∀(i:Nat)(hi:i<11),0<=v[i]/\v[i]<=M:=fun i hi=>h _ (by rw[Vector.mem_toList_iff];exact Vector.getElem_mem hi)
 rw[Vector.mem_toList_iff,Vector.mem_iff_getElem]at hn;obtain⟨i,hi,rfl⟩:=hn;unfold Oq;rw[AA];have:=hv i hi;simp only[Fin.getElem_fin];split<;>omega
theorem abe{f x:Fw}{l:List Fw}:x∈ins lI f l↔x=f\/x∈l:=by
 rw[(Bl (lt:=lI) f l).mem_iff,bg]
theorem ap1{dU:Int}{l:List Fw}{f x:Fw}(h:x∈DF dU l f):x=f\/x∈l:=by
 unfold DF at h;split at h
 ·split at h
  ·rcases abe.1 h with h|h
   ·exact .a h
   ·exact .b ((aaO l f.key).subset h)
  ·split at h
   ·rcases abe.1 h with h|h
    ·exact .a h
    ·exact .b (List.mem_of_mem_tail h)
   ·exact abe.1 h
 ·exact .b h
theorem ajn{M:Int}{e:En}{s:pY}(h:nR M e s)(l:List UInt8):nR (M+1) e (BD e s l).1:=by
 obtain⟨_,⟨r1,_⟩,_⟩:=rz h.cn;have hno:=h.no;unfold BD;split
 ·refine⟨h.cn,h.pl,h.fi,h.nm,h.hl,h.fl.put r1 _,?_,h.ti,?_,ahv h.ct⟩
  ·intro f hf
   simp only at hf ⊢;rcases ap1 hf with rfl|hf
   ·simp only[amF];omega
   ·have:=h.fw f hf;omega
  ·simp only;omega
 ·exact⟨h.cn,h.pl,h.fi,h.nm,h.hl,h.fl,h.fw,h.ti,by simp only;omega,ahv h.ct⟩
theorem Ja:∀{l:List (List UInt8)},l.Pairwise (fun x y=>bQ x y=true)->GV l=l
 | [],_=>rfl
 | x::l,h=>by
   obtain⟨h1,h2⟩:=List.pairwise_cons.1 h;have ih:=Ja h2;unfold GV at ih ⊢;rw[List.foldr_cons,ih];cases l with
   | nil=>rfl
   | cons y l=>
     have:=h1 y (by simp);simp[Va,this]
theorem YO{a b:List UInt8}(h:mD a b<0):bQ a b=true:=by
 rw[xM];simpa using h
theorem ajo{l:List Bk}(h:Fp l):(l.map (·.E)).Pairwise (fun x y=>bQ x y=true):=by
 unfold Fp at h;rw[List.pairwise_map];exact h.imp (fun hab=>YO hab)
theorem afU{l:List Hl}{names:List (List UInt8)}(h:names.Pairwise (fun x y=>bQ x y=true)):(El l names).map (·.E)=names:=by
 unfold El;rw[Ja h,Hq]
 conv=>rhs;rw[<-List.map_id names]
 apply BR;intro s _;exact afg l s
theorem ajp(l:List Hl)(s:List UInt8):Bo l s∈l\/Bo l s=⟨s,false,0⟩:=by
 unfold Bo;split
 ·exact .b rfl
 ·rename_i h
  left;unfold zB at h ⊢;cases hf:l.findIdx? (fun x=>x.E==s)with
  | none=>rw[hf]at h;simp at h
  | some i=>
    obtain⟨hi,_,_⟩:=gV.1 hf;simp only[dS];rw[au,aC hi];exact eU hi
theorem amG{M:Int}{e:En}{s:pY}(h:nR M e s)(o:qO)(hof:o.X.pJ)(how:o.w<18446744073709551616):nR M e (opE s o).1:=by
 obtain⟨_,_,⟨r1,_⟩,f1,_⟩:=rz h.cn;unfold opE;split
 ·rename_i hw
  have hd:=afc h.pl h.fi hof how hw;have hs:=(uO.1 hd.1).2.2.2.2;refine⟨h.cn,?_,hd.2,?_,?_,h.fl,h.fw,h.ti,h.no,h.ct⟩
  ·simp only[doV,hw,if_true];exact hd.1
  ·simp only
   exact afU (ajo hs)
  ·intro x hx
   simp only at hx;unfold El at hx;obtain⟨n,_,rfl⟩:=iV.1 hx;rcases ajp s.h n with hm|hm
   ·exact h.hl _ hm
   ·rw[hm]
    simp only[jI,if_false];omega
 ·exact h
theorem amH{x:Hl}{well:Bool}{kC fall:Int}(hr:1<=kC/\kC<=100)(hf:1<=fall/\fall<=100)(h:0<=x.I/\x.I<(if x.down then kC else fall)):0<=(uN x well kC fall).1.I/\(uN x well kC fall).1.I<(if(uN x well kC fall).1.down then kC else fall):=by
 have hb:∀n:Int,1<=n/\n<=100->uM n=n:=fun n hn=>by unfold uM;rw[if_neg (by omega),if_neg (by omega)]
 unfold uN;cases hd:x.down
 ·rw[hd]at h
  simp only[jI,if_false]at h ⊢;rw[hb _ hf];split
  ·simp only[hd,jI,if_false];omega
  ·split
   ·simp only[Bool.not_false,if_true];omega
   ·simp only[jI,if_false];omega
 ·rw[hd]at h
  simp only[if_true]at h ⊢;rw[hb _ hr];split
  ·simp only[hd,if_true];omega
  ·split
   ·simp only[Bool.not_true,jI,if_false];omega
   ·simp only[if_true];omega
theorem ajq(x:Hl)(well:Bool)(kC fall:Int):(uN x well kC fall).1.E=x.E:=by
 unfold uN
 repeat' split
 all_goals rfl
theorem adC{M:Int}{e:En}{s:pY}(h:nR M e s)(n:List UInt8)(well:Bool):nR M e (NJ e s n well).1:=by
 obtain⟨_,_,hr,hf⟩:=rz h.cn;unfold NJ;split
 ·rename_i h0
  unfold Iy at h0 ⊢;split
  ·rename_i h1;rw[if_pos h1]at h0;cases h0
  ·rename_i h1
   have hin:(zB s.h n).e<s.h.a:=by
    unfold zB at h1 ⊢;cases hf:s.h.findIdx? (fun x=>x.E==n)with
    | none=>rw[hf]at h1;simp at h1
    | some i=>
      obtain⟨hi,_,_⟩:=gV.1 hf;simpa using hi
   have hm:s.h.c (zB s.h n).e kS∈s.h:=by
    rw[au,aC hin];exact eU hin
   refine⟨h.cn,h.pl,h.fi,?_,?_,h.fl,h.fw,h.ti,h.no,h.ct⟩
   ·simp only
    rw[<-h.nm,List.map_set];apply iL;intro i;rw[fJ];split
    ·rename_i hi
     subst hi;rw[bU,if_pos hin,ajq,jk,aC hin,au,aC hin];rfl
    ·rfl
   ·intro x hx
    simp only at hx;rcases List.mem_or_eq_of_mem_set hx with hx|rfl
    ·exact h.hl x hx
    ·exact amH hr hf (h.hl _ hm)
 ·exact h
theorem amI{M:Int}{e:En}{s:pY}(h:nR M e s):nR M e (NK e s).1:=by
 unfold NK;split
 ·exact h
 ·have ht:=h.ti
  refine⟨h.cn,h.pl,h.fi,h.nm,h.hl,h.fl.axL _ _,?_,by simp only;omega,h.no,h.ct⟩;intro f hf;have:=h.fw f (mh.1 hf).1;simp only;omega
theorem uW{M:Int}{e:En}{s:pY}(h:nR M e s)(a:Ac)(hof:a.op.X.pJ)(how:a.op.w<18446744073709551616):nR (M+1) e (nO e s a).1:=by
 unfold nO;split
 ·exact ajn h _
 ·split
  ·exact(amG h a.op hof how).le (by omega)
  ·split
   ·exact(adC h _ _).le (by omega)
   ·split
    ·exact(amI h).le (by omega)
    ·exact h.le (by omega)
theorem oJ{place:Nat->Option (Nat×Nat)}(i off:Nat)(v:aB)(ps:List (Nat×aB))(p r:Array aB)(h:place i=some (off,1))(hv:v.D = #[v])(ho:off<p.j):fE place (p++r) ((i,v)::ps)=fE place (p.b off v++r) ps:=by
 rw[DY place _ i off 1 v ps h (by rw[hv];rfl) (by rw[nV];omega),hv];congr 1;apply dZ;intro j;rw[DX];simp only[nV,aD,Array.size_setIfInBounds,dQ];by_cases hj:j=off
 ·subst hj
  simp[ho];omega
 ·by_cases h1:off<=j/\j<off+1
  ·omega
  ·have:¬off=j:=fun e=>hj e.symm
   simp[this];intro a b;omega
@[go_sem]theorem ayx(W:ak)(head dz GY aQ:Int)(src dst:fC):(uH 189 #[(0,.b .a head),(1,.b .a dz),(2,.b .a GY),(5,.b .a aQ),(6,.d src.ay),(7,.d dst.ay)]).I ah W = .Z (.d (Sx.mk head dz GY false 0 aQ src dst).ay) W:=
 kSx.bd W _ _ _ _ oW (atT W _ oW) (by
  show fE _ (#[aI .a 0,.b .a 0,.b .a 0,.e false,.b .a 0,.b .a 0]++(mX.ay++mX.ay)) [(0,.b .a head),(1,.b .a dz),(2,.b .a GY),(5,.b .a aQ),(6,.d src.ay),(7,.d dst.ay)]=_;rw[oJ 0 0 _ _ _ _ rfl rfl (by simp),oJ 1 1 _ _ _ _ rfl rfl (by simp),oJ 2 2 _ _ _ _ rfl rfl (by simp),oJ 5 5 _ _ _ _ rfl rfl (by simp)];rw[Tt]
  ·simp[qP,cK,Sx.ay]
  ·simp[rF,cK,fC.G])
@[go_sem]theorem ayy(W:ak)(head dz Lm aQ:Int)(keep:Bool)(src dst:fC):(uH 192 #[(0,.b .a head),(1,.b .a dz),(5,.e keep),(6,.b .a Lm),(7,.b .a aQ),(8,.d src.ay),(9,.d dst.ay)]).I ah W = .Z (.d (Fo.mk head dz 0 0 false keep Lm aQ src dst).ay) W:=
 kFo.bd W _ _ _ _ oV (atP W _ oV) (by
  show fE _ (#[aI .a 0,.b .a 0,.b .a 0,.b .a 0,.e false,.e false,.b .a 0,.b .a 0]++(mX.ay++mX.ay)) [(0,.b .a head),(1,.b .a dz),(5,.e keep),(6,.b .a Lm),(7,.b .a aQ),(8,.d src.ay),(9,.d dst.ay)]=_;rw[oJ 0 0 _ _ _ _ rfl rfl (by simp),oJ 1 1 _ _ _ _ rfl rfl (by simp),oJ 5 5 _ _ _ _ rfl rfl (by simp),oJ 6 6 _ _ _ _ rfl rfl (by simp),oJ 7 7 _ _ _ _ rfl rfl (by simp)];rw[Tt]
  ·simp[qP,cK,Fo.ay]
  ·simp[rF,cK,fC.G])
section
attribute [local go_sem high] iY jH
theorem oO.nC{T:bF}{n:Nat}{z:Array aB}(K:oO T n z){W:ak}{b:Nat}{c:Array aB}(h:dK W b c)(hc:c.j=n):(xI T (.c (some ⟨b,0,none⟩))).I ah W = .Z (.d c) W:=by
 have hs:dY c=n:=hc;rw[K.ld W b 0 (of_eq_true (h.K.2.2.1 0 n (by omega))),h.K.2.2.2 0 n (by omega)];simp[<-hc]
theorem dK.ahw{W:ak}{b:Nat}{a:fC}(h:dK W b a.ay):(rE (.c (some ⟨b,0,none⟩))).I ah W = .Z (.d a.ay) W:=by
 have hs:dY a.ay=17:=fC.G a;rw[Mh W b 0 (of_eq_true (h.K.2.2.1 0 17 (by omega))),h.K.2.2.2 0 17 (by omega)];simp[<-fC.G a]
theorem ajr{d s:Vector UInt8 6}{fK:List Tg}{ty:Int}(h:fK.a<=2):(qv d s fK ty).a<=1000:=by
 have h2:=Ew fK;unfold qv;simp only[aR,h2,nH];simp[qg];omega
theorem adD(x:Sx):(wG x).a=40:=by simp[wG]
theorem Bx.ow{L:List (Nat×Array aB)}{w W W':ak}{B:Nat}{g:Option Nat}{v:aB}{bs:List UInt8}(h:Bx L w W)(k:Ow B g W v bs W')(hB:∀p∈L,p.1<B)(hw:w.a.j<=B):Bx L w W':=
 ⟨h.1.trans (k.O.g hw),fun p hp=>⟨(h.2 p hp).1,by obtain⟨t,ht⟩:=(h.2 p hp).2;exact⟨t,(k.O.block p.1 (hB p hp)).trans ht⟩⟩⟩
theorem V7(x:Fo):(tK x).a=20:=by simp[tK,adu,Dh]
theorem Jb(W:ak):fU W W.a.j none 0 []:=Db (Ly.nil (w:=W)).o (aG _ _)
end
section
attribute [local go_sem high] iY jH
theorem amJ(f:Nat):∀(x:Sx)(r:List UInt8),(yF f x r).1.dz=x.dz\/(yF f x r).1=qD:=by
 induction f with
 | zero=>intro x r;unfold yF;split;exact .a rfl;exact .b rfl
 | succ f ih=>
   intro x r;unfold yF;split
   ·exact .a rfl
   ·split
    ·exact .b rfl
    ·exact ih _ _
theorem adE(k:Int)(l:List UInt8):0<=(zT k l).dz/\(zT k l).dz<=l.a:=by
 unfold zT;split
 ·unfold zR
  split
  ·rename_i h1 h2
   have:=amo (l:=l) (by unfold zR;rw[if_pos h2]);unfold zR at this;rw[if_pos h2]at this;simp only at this ⊢;omega
  ·simp[wU]
 ·split
  ·unfold Aq
   split
   ·simp[qD]
   ·split
    ·simp[qD]
    ·split
     ·simp[qD]
     ·rcases amJ 8 (sx0 l) ((l.d (40+eZ l 4)).f 40)with h|h
      ·rw[h];show 0<=(40:Int)+eZ l 4/\(40:Int)+eZ l 4<=l.a;omega
      ·simp[h,qD]
  ·simp[sN]
def Sn(l:List UInt8):Tn:=if(mq l).2≠0 then sN else zT (mq l).1.ou (l.f (mq l).1.fI)
def Jc(l:List UInt8):List UInt8:=if(mq l).2≠0 then []else(l.f (mq l).1.fI).d (Sn l).dz.e
def ayz(W:ak)(l:List UInt8)(e:lq)(W':ak):Prop:=∃A c PA pn pc,e=.a (.J #[.d ((mq l).1.cell A c).ay,.d (Sn l).ay,.a PA pn pc])/\iJ Tg.ay 2 W' W'.a.j A (mq l).1.fK.a (mq l).1.fK/\fU W' W'.a.j PA pn (Jc l)/\pn<=pc/\(pc<=9223372036854775807/\pn<=1000000)/\aL W.a.j W W'
theorem auz{l:List UInt8}(h:(mq l).2≠0):(mq l).1=Er:=by
 have go:∀(m k:Nat)(fK:List Tg),(Co l m k fK).2≠0->(Co l m k fK).1=Er:=by
  intro m
  induction m with
  | zero=>intro k fK h;unfold Co at h⊢;split at h<;>first|(exact absurd rfl h)|(rename_i h1;simp_all)|rfl
  | succ m ih=>
    intro k fK;cases ht:tT (eZ l (k-2):Nat)with
    | false=>rw[zH ht];intro h;exact absurd rfl h
    | true=>
      by_cases h4:l.a<k+4
      ·rw[By ht h4];intro _;rfl
      ·rw[Es ht h4];exact ih _ _
 unfold mq at h ⊢;split
 ·rfl
 ·rename_i h1;rw[if_neg h1]at h;exact go _ _ _ h
section
variable {fn:Func} {p q u:Tmp} {T U:bF} {b1 b2 n m:Nat} {z y c d:Array aB} {W:ak}
theorem ahx(K:oO T n z)(K2:oO U m y)(h:fn.results = #[.cell p T,.cell q U,.a u])(tmps:Array aB)(hp:tmps.c p undef=.c (some ⟨b1,0,none⟩))(hq:tmps.c q undef=.c (some ⟨b2,0,none⟩))(hb:dK W b1 c)(hc:c.j=n)(hd:dK W b2 d)(hdc:d.j=m):(results fn tmps).I ah W = .Z (.J #[.d c,.d d,tmps.c u undef]) W:=by
 have l1:=K.nC hb hc;have l2:=K2.nC hd hdc;unfold xI at l1 l2;simp only[bZ,Instr.sureAddr,jK,oh,Result.andThen_ok]at l1 l2;rw[Array.getD_eq_getD_getElem?]at hp hq;simp[results,h,hp,hq,asAddr,iD,l1,l2]
end
theorem iJ.ayA{α:Type}{f:α->Array aB}{s:Nat}{w w':ak}{B B':Nat}{A:Option aT}(h:iJ f s w B A 0 []):iJ f s w' B' A 0 []:=
 ⟨rfl,⟨by simp,fun h=>absurd h (by omega)⟩,fun a _ h=>absurd h (by omega)⟩
theorem V8{l:List UInt8}:∀(m k:Nat)(fK:List Tg),(∀t∈fK,tT t.ou=true)->(∀t∈(Co l m k fK).1.fK,tT t.ou=true)
 | 0,k,fK,h=>by
   cases ht:tT (eZ l (k-2):Nat)with
   | false=>rw[zH ht];exact h
   | true=>rw[JQ ht];exact fun t ht=>by simp[Er]at ht
 | m+1,k,fK,h=>by
   cases ht:tT (eZ l (k-2):Nat)with
   | false=>rw[zH ht];exact h
   | true=>
     by_cases h4:l.a<k+4
     ·rw[By ht h4];exact fun t ht=>by simp[Er]at ht
     ·rw[Es ht h4]
      refine V8 m (k+4) _ (fun t h2=>?_);rcases qm.1 h2 with h2|h2
      ·exact h t h2
      ·rw[fG.1 h2];exact ht
theorem Qu(l:List UInt8):∀t∈(mq l).1.fK,tT t.ou=true:=by
 unfold mq;split
 ·exact fun t ht=>by simp[Er]at ht
 ·exact V8 2 14 [] (fun t ht=>by cases ht)
def amK(c:Array aB):Bool:=c.all fun v=>match v with | .b .a z=>decide (z=0)|_=>true
theorem ajs{c:Array aB}(h:amK c=true){j:Nat}{t:Int}(ht:t≠0):c[j]?≠some (.b .a t):=fun e=>by
 have:=Array.all_eq_true_iff_forall_mem.1 h _ (Array.mem_of_getElem? e);simp at this;exact ht this
theorem iJ.apart{w:ak}{B b n:Nat}{A:Option aT}{l:List Tg}{c:Array aB}(h:iJ Tg.ay 2 w B A n l)(hi:∀t∈l,tT t.ou=true)(hb:dK w b c)(hc:amK c=true)(hn:0<n):∀a,A=some a->b≠a.block:=by
 intro a ha e;obtain⟨b',o,hA,_,hcell⟩:=h.cell Tg.G Sk hn;rw[hA]at ha;injection ha with ha
 subst ha;simp only at e;subst e;have h1:=hcell 0 (by omega);rw[hb.K.1,Tg.DJ]at h1;have ht:=hi _ (AY Sk l 0 (by rw[h.1];exact hn));refine ajs hc ?_ h1;intro e0;rw[e0]at ht;cases ht
theorem iJ.ar2{α:Type}{f:α->Array aB}{s:Nat}{B b n:Nat}{A:Option aT}{l:List α}(hp:∀a,A=some a->b≠a.block)(x:Array aB):∀(o:Nat) {w:ak},iJ f s w B A n l->iJ f s (gT w b o x) B A n l:=by
 have:∀(vs:List aB)(o:Nat)(w:ak),iJ f s w B A n l->iJ f s (w.setCells b o vs) B A n l:=by
  intro vs
  induction vs with
  | nil=>exact fun _ _ h=>h
  | cons v vs ih=>intro o w h;exact ih (o+1) _ (h.aBS v (fun a ha=>hp a ha))
 exact fun o w h=>this _ _ _ h
theorem ajt(w:ak)(A:Option aT)(n c:Nat)(l:List UInt8)(hnc:n<=c)(hc:c<=9223372036854775807/\n<=1000000)(hr:fU w w.a.j A n l):aP ah 99 #[.a A n c] w (ayz w l):=by
 have HR:=ab hr;have hl:=ab hr.len;have h0:=((Bx.start w).new qK.ay 108).new sN.ay 179;simp only[sU]at h0;have Z0:=ab h0;have CL:=ab (Nv _ A n c l hnc (by omega) (h0.Lv hr));clear h0 hr;go_enter Tryz.func99,Tryz.ntmps99;obtain⟨r,hrr⟩:=cB (mq l);have HRR:=ab hrr;obtain⟨k,er⟩:=r;unfold LkP at CL;rw[<-hrr]at CL;clear hrr;go_upto_region 1 with fail
 generalize(w.alloc (.D qK.ay 108)).alloc (.D sN.ay 179)=w0 at Z0 CL ⊢;go_upto_region 2 with(go_at_call 91;(with_reducible refine CL.i.g ?_);rintro e w1 ⟨TA,tc,rfl,hT,hb1⟩;have Z1:=ab ((Z0.i.go hb1).new (k.cell TA tc).ay 108);have HW:=ab (Z0.i.go hb1).S.lt;have RT:=ab (hT.alloc (av _) (.D (k.cell TA tc).ay 108));clear hb1 hT)
 have HW2:=ab (show w1.a.j<=(w1.alloc (.D (k.cell TA tc).ay 108)).a.j by simp);generalize w1.alloc (.D (k.cell TA tc).ay 108)=w2 at Z1 RT HW2 ⊢;generalize w1.a.j=y5 at Z1 RT HW HW2 ⊢;have YL:=HW2;have LX:=ab (show∀r∈[(w.a.j+1,sN.ay),(w.a.j,qK.ay)],r.1≠y5 from fun r hr=>by
  have:=HW.i;simp only[bg,fO,or_false]at hr;rcases hr with rfl|rfl<;>simp only[]<;>omega)
 by_cases h1:er≠0
 ·have q:(er != 0)=true:=by simp[h1]
  have HTN:=ab (show Sn l=sN by unfold Sn;rw[<-HRR.i,if_pos h1]);have HPK:=ab (show Jc l=[]by unfold Jc;rw[<-HRR.i,if_pos h1]);have l5:=kLc.nC Z1.i.S (Lc.G _);have Z2:=ab (Z1.i.sub (L':=[(w.a.j,qK.ay),(y5,(k.cell TA tc).ay),(w.a.j+1,sN.ay)]) (by simp));have Z3:=ab (Z2.i.put (fun r hr=>by
   have:=HW.i;simp only[bg,fO,or_false]at hr;rcases hr with rfl|rfl<;>simp only[]<;>omega) (k.cell TA tc).ay (by rw[Lc.G,Lc.G]))
  have auA:=Z2.i.S.M 0 15 (aX (Lc.G qK).symm);have auB:=Z3.i.b2.M 0 5 (aX (Tn.G sN).symm);have Z4:=ab ((Z3.i.sub (L':=[(w.a.j+1,sN.ay),(w.a.j,(k.cell TA tc).ay)]) (by simp)).put (fun r hr=>by
   simp only[bg,fO,or_false]at hr;rcases hr with rfl<;>simp only[]<;>omega) sN.ay rfl)
  go_wp2;refine aN (ahx kLc kTn rfl _ rfl rfl Z4.i.b1 (Lc.G _) Z4.i.S (Tn.G _)) rfl ?_;have RT2:=RT.i;refine⟨TA,tc,none,0,0,by rw[HTN.i,<-HRR.i];rfl,?_,by rw[HPK.i];exact Jb _,av _,by omega,Z4.i.R⟩;have hk0:k=Er:=by have:=auz (l:=l) (by rw[<-HRR.i];exact h1);rw[<-HRR.i]at this;exact this
  rw[<-HRR.i];subst hk0;exact iJ.ayA RT2
 obtain rfl:er=0:=by simpa using h1
 have q00:((0:Int) != 0)=false:=rfl;obtain⟨wM,ads⟩:=afL (l:=l) (by rw[<-HRR.i]);rw[<-HRR.i]at wM ads;rw[hl.i]at ads;simp only at wM ads;have i1:(k.fI:Int)<=n:=by omega
 have F8:=ab (fun(w':ak) (h:Bx [(y5,(k.cell TA tc).ay),(w.a.j+1,sN.ay),(w.a.j,qK.ay)] w w')=>show w'.b ⟨y5,13,none⟩=some (.b .a k.ou)/\w'.b ⟨y5,14,none⟩=some (.b .a (k.fI:Nat))from⟨(h.S.K.1 13).trans (Lc.DJ _),(h.S.K.1 14).trans (Lc.Lp _)⟩);have CN:=ab (fun(w':ak) (h:Bx [(y5,(k.cell TA tc).ay),(w.a.j+1,sN.ay),(w.a.j,qK.ay)] w w')=>afR w' k.ou (vF A k.fI c 1) (n-k.fI) (c-k.fI) (l.f k.fI) (by omega) (by omega) ((h.Lv HR.i).yD (by omega) hnc));have HTN:=ab (show Sn l=zT k.ou (l.f k.fI)by unfold Sn;rw[<-HRR.i,if_neg (by simp)]);have HPK:=ab (show Jc l=(l.f k.fI).d (Sn l).dz.e by unfold Jc;rw[<-HRR.i,if_neg (by simp)]);have HTO:=ab (adE k.ou (l.f k.fI));obtain⟨g,hg⟩:=cB (zT k.ou (l.f k.fI));have HG:=ab hg;rw[<-hg]at CN HTN HTO;clear hg;rw[HTN.i]at HPK;go_upto_region 4 with fail
 refine Qp (VH (Bx.aa3 ([(y5,(k.cell TA tc).ay),(w.a.j+1,sN.ay),(w.a.j,qK.ay)]) w) w2) 7 8 7 179 sN.ay (by kernel_rfl) rfl (by kernel_rfl) (by decide) (by decide) (by kernel_rfl) (by kernel_rfl) (by kernel_rfl) rfl rfl rfl (fun a w=>by simp[go_sem]) ⟨Z1.i.drew,(aG w2.a.j w2).drew⟩ ?_;apply rJ;refine⟨fun T f hT es ew=>?_,?_⟩
 ·have EW:=ab ew
  have ES:=ab es;have k1:=fun m=>(F8.i _ (ES.i m).1).1
  have k2:=fun m=>(F8.i _ (ES.i m).1).2
  have CF:=ab (fun m=>CN.i _ (ES.i m).1);clear es ew;simp only[kX,bH,bP,jP,j4]
  repeat(go_big_quiet_step ((first|(go_at_call 101;(with_reducible refine(CF.i _).g ?_);rintro e w2 ⟨rfl,hb⟩;exact⟨rfl,EW.i _ _ hb⟩))))
  exact gK rfl
 ·intro w9 w8 zK _ hb
  have BN:=(zK.2.alloc zK.2.j (.D sN.ay 179)).trans (hb.g (by simp;exact kQ zK.2.j));have aDs:=zK.2.j
  replace zK:=zK.1
  have ZN:=(zK.new sN.ay 179).go hb;have hy:=zK.R.j;have HYW:=BN.j;have BN:=ab BN;have ZN:=ab ZN;have yE:=ZN.i.S.M 0 5 (aX (Tn.G sN).symm);have hyy:y5<w9.a.j:=zK.S.lt;generalize w9.a.j=y7 at *;have Z8:=ab (ZN.i.put (fun r hr=>by
   have:=HW.i;simp only[bg,fO,or_false]at hr;rcases hr with rfl|rfl|rfl<;>simp only[]<;>omega) g.ay (by rw[Tn.G,Tn.G]))
  have B8:=ab (kZ BN.i y7 0 g.ay aDs);go_upto_region 5 with fail
  clear yE ZN;generalize gT w8 y7 0 g.ay=w10 at Z8 B8 ⊢;obtain⟨T0,hT0⟩:∃T:Nat,g.dz=T:=⟨g.dz.e,by have:=HTO.i;omega⟩
  have hT1:T0+k.fI<=n:=by have:=HTO.i.2;rw[jD,hl.i]at this;omega
  have HTT:=ab hT0;obtain⟨m0,hm0⟩:∃m:Nat,m=k.fI+T0:=⟨_,rfl⟩
  have q1:=jS ((k.fI:Int)+T0) (by omega);have q2:(k.fI:Int)+T0=m0:=by omega
  rw[q2]at q1;have q3:(k.fI:Int)<=m0:=by omega
  have q4:(m0:Int)<=c:=by omega
  have HM:=ab hm0;have HMN:=ab (show m0<=n by omega);have F9:=ab (fun(w':ak) (h:Bx [(y7,g.ay),(y5,(k.cell TA tc).ay)] w w')=>show(xI 108 (.c (some ⟨y5,0,none⟩))).I ah w' = .Z (.d (k.cell TA tc).ay) w'/\(xI 179 (.c (some ⟨y7,0,none⟩))).I ah w' = .Z (.d g.ay) w'/\w'.b ⟨y5,14,none⟩=some (.b .a (k.fI:Nat))/\w'.b ⟨y7,1,none⟩=some (.b .a (T0:Nat))from⟨kLc.nC h.b1 (Lc.G _),kTn.nC h.S (Tn.G _),(h.b1.K.1 14).trans (Lc.Lp _),(h.S.K.1 1).trans ((Tn.xY g).trans (by rw[HTT.i]))⟩);clear hT0 hm0 hT1;have ZA:=ab Z8.i.drew;have WB:=ab B8.i.drew;have Z2:=ab (ZA.i.sub (L':=[(w.a.j,qK.ay),(w.a.j+1,sN.ay),(y7,g.ay),(y5,(k.cell TA tc).ay)]) (by simp));have aJr:w.a.j+1<y5:=HW.i;have Z3:=ab (Z2.i.put (fun r hr=>by
   simp only[bg,fO,or_false]at hr;rcases hr with rfl|rfl|rfl<;>simp only[]<;>omega) (k.cell TA tc).ay (by rw[Lc.G,Lc.G]))
  have auA:=Z2.i.S.M 0 15 (aX (Lc.G qK).symm);have auB:=Z3.i.b1.M 0 5 (aX (Tn.G sN).symm);have Z4:=ab ((Z3.i.sub (L':=[(w.a.j+1,sN.ay),(w.a.j,(k.cell TA tc).ay),(y7,g.ay),(y5,(k.cell TA tc).ay)]) (by simp)).put (fun r hr=>by
   simp only[bg,fO,or_false]at hr;rcases hr with rfl|rfl|rfl<;>simp only[]<;>omega) g.ay (by rw[Tn.G,Tn.G]))
  obtain⟨k1,k2,k3,k4⟩:=F9.i _ (ZA.i.sub (by simp));obtain⟨k5,k6,k7,k8⟩:=F9.i _ (Z3.i.sub (by simp));obtain⟨k9,k10,k11,k12⟩:=F9.i _ (Z4.i.sub (by simp));go_region;go_wp2;refine aN (ahx kLc kTn rfl _ rfl rfl Z4.i.b1 (Lc.G _) Z4.i.S (Tn.G _)) rfl ?_;have hHN:=HMN.i;have RF:=ab (show fU (gT (gT w10.drew w.a.j 0 (k.cell TA tc).ay) (w.a.j+1) 0 g.ay) (gT (gT w10.drew w.a.j 0 (k.cell TA tc).ay) (w.a.j+1) 0 g.ay).a.j (vF A k.fI c 1) (m0-k.fI) (Jc l)by
   have:=(Z4.i.Lv HR.i).adi (z:=k.fI) (b:=m0) (c:=c) (by omega) hHN hnc;have e2:(l.d m0).f k.fI=Jc l:=by rw[HPK.i,HTT.i,dS,List.drop_take,HM.i,Nat.add_sub_cancel_left]
   rwa [e2]at this)
  have TF:=ab (show iJ Tg.ay 2 (gT (gT w10.drew w.a.j 0 (k.cell TA tc).ay) (w.a.j+1) 0 g.ay) (gT (gT w10.drew w.a.j 0 (k.cell TA tc).ay) (w.a.j+1) 0 g.ay).a.j TA k.fK.a k.fK by
   have h1:iJ Tg.ay 2 w10.drew y5 TA k.fK.a k.fK:=RT.i.O (WB.i.g YL.i);have hI:=Qu l;rw[<-HRR.i]at hI;by_cases h0:k.fK.a=0
   ·have e0:k.fK=[]:=bE h0
    rw[e0]at h1 ⊢;exact iJ.ayA h1
   ·have p1:=h1.apart hI ZA.i.b3 (by kernel_rfl) (by omega)
    have p2:=h1.apart hI ZA.i.b2 (by kernel_rfl) (by omega);exact(iJ.ar2 p2 _ 0 (iJ.ar2 p1 _ 0 h1)).lF (aO (mG hyy) (mG (Z4.i.b2).lt)))
  refine⟨TA,tc,vF A k.fI c 1,m0-k.fI,c-k.fI,by rw[HTN.i,<-HRR.i];rfl,?_,RF.i,by omega,by omega,Z4.i.R⟩;rw[<-HRR.i];exact TF.i
end
section
attribute [local go_sem high] iY jH
theorem ayC(a c:Nat)(ha:a<256)(hc:c<256):bits .or .a ((a:Int)*256) (c:Int)=((a*256+c:Nat):Int):=by
 have h1:fZ 64 ((a:Int)*256)=GK 64 (a*256):=by rw[show((a:Int)*256)=((a*256:Nat):Int)by omega];exact lU _ _
 have h2:fZ 64 (c:Int)=GK 64 c:=lU _ _;show bR.wrap ((fZ 64 ((a:Int)*256) ||| fZ 64 (c:Int)).e:Int)=_;rw[h1,h2,BitVec.toNat_or,ny,ny,fP (by omega),fP (by omega),show a*256=a <<< 8 by rw[mE],<-Nat.shiftLeft_add_eq_or_of_lt (by omega)];rw[mE];simp[vI,nP,lT];omega
theorem ap3:lW 5 = #[0,1,2,3,4]:=by apply oQ;rw[kg];rfl
@[go_sem]theorem ar3(w:ak)(a b c d e:Int):(Lj 5 #[(0,.b .a a),(1,.b .a b),(2,.b .a c),(3,.b .a d),(4,.b .a e)]).I ah w = .Z (.a (some ⟨w.a.j,0,none⟩) 5 5) (w.alloc (.D (sH [a,b,c,d,e]) 3)):=by
 obtain⟨i0,hi0,hz0,hz1⟩:=Tm;simp[Lj,bJ,dJ og,zeroValue,sizeOf,typeInfo,hi0,hz0,hz1,fE,newRow,sH,cK,ap3]
def ahy(x:Fo):List Nat:=[x.dz.e,x.id.e,if x.keep then 16384 else 0,x.Lm.e*256+x.aQ.e,0]
def GH(l:List Nat):List Int:=l.map (fun n:Nat=>(n:Int))
theorem ajv(l:List Nat)(j:Nat)(hj:j<l.a):(sH (GH l))[j]? = some (.b .a ((l.c j 0:Nat):Int)):=by
 have:=YA (GH l) j (by simpa[GH]using hj);rw[bB]at this;rw[this];simp[GH,au,hj]
theorem fU.upN{w:ak}{B n k:Nat}{A:Option aT}{l:List UInt8}(h:fU w B A n l)(hk:k<=n):fU w B A k (l.d k):=by
 have:=Rd.upto h hk
 rwa [gH,<-Ad]at this
theorem abf{l:List UInt8}{k:Nat}{a b:UInt8}(h:k+2<=l.a):rX l k [a,b]=(l.set k a).set (k+1) b:=by
 apply iL;intro i;unfold rX;simp only[dB,kR,bK,jq,jo,fJ,aV,bC,gL];by_cases h1:i<k
 ·simp[h1,show¬k+1=i by omega,show¬k=i by omega,show i<min k l.a by omega]
 ·by_cases h2:i=k
  ·subst h2
   simp[show i<l.a by omega,show min i l.a=i by omega]
  ·by_cases h3:i=k+1
   ·subst h3
    simp[show k+1<l.a by omega,show min k l.a=k by omega,show¬k+1<k by omega]
   ·have e1:min k l.a=k:=by omega
    have e2:k+2+(i-k-2)=i:=by omega
    simp[show¬k+1=i by omega,show¬k=i by omega,e1,h1,show¬i-k<2 by omega,e2]
theorem amL(x:Fo)(h1:x.Lm.e<256)(h2:x.aQ.e<256):Dh x=[69,aJ x.Oo.e]++(ahy x).h (fun n:Nat=>qg (n:Int))++x.h.b.a.d 4++x.X.b.a.d 4:=by
 unfold Dh ahy;have e1:(x.Lm.e*256+x.aQ.e)/256=x.Lm.e:=by omega
 have e2:(x.Lm.e*256+x.aQ.e)%256=x.aQ.e:=by omega
 cases x.keep<;>simp[qg,e1,e2]
theorem Rh(x:Fo)(hh:x.head=20)(s0:0<=x.Oo)(s1:x.Oo<=255)(t0:20<=x.dz)(t1:x.dz<=65535)(i0:0<=x.id)(i1:x.id<=65535)(l0:0<=x.Lm)(l1:x.Lm<=255)(p0:0<=x.aQ)(p1:x.aQ<=255)(hf:x.oI=false)(hs:(!x.h.h&&x.h.mJ)=true)(hd:(!x.X.h&&x.X.mJ)=true)(w:ak):aP ah 271 #[.d x.ay] w (adw w (tK x)):=by
 have Z:=ab ((Bx.start w).new x.ay 192);have FA:=ab (fun(w':ak) (h:dK w' w.a.j x.ay)=>show w'.b ⟨w.a.j,0,none⟩=some (.b .a 20)/\w'.b ⟨w.a.j,1,none⟩=some (.b .a x.dz)/\w'.b ⟨w.a.j,2,none⟩=some (.b .a x.Oo)/\w'.b ⟨w.a.j,3,none⟩=some (.b .a x.id)/\w'.b ⟨w.a.j,4,none⟩=some (.e false)/\w'.b ⟨w.a.j,5,none⟩=some (.e x.keep)/\w'.b ⟨w.a.j,6,none⟩=some (.b .a x.Lm)/\w'.b ⟨w.a.j,7,none⟩=some (.b .a x.aQ)/\(rE (.c (some ⟨w.a.j,8,none⟩))).I ah w' = .Z (.d x.h.ay) w'/\(rE (.c (some ⟨w.a.j,25,none⟩))).I ah w' = .Z (.d x.X.ay) w' by
  have f:=h.K.1;have hz:x.ay.j=42:=Fo.G x;refine⟨(f 0).trans ((Fo.JO x).trans (by rw[hh])),(f 1).trans (Fo.xY x),(f 2).trans (Fo.atM x),(f 3).trans (Fo.axR x),(f 4).trans ((Fo.TD x).trans (by rw[hf])),(f 5).trans (Fo.aaS x),(f 6).trans (Fo.atN x),(f 7).trans (Fo.Bv x),?_,?_⟩
  ·rw[Mh w' w.a.j 8 (of_eq_true (h.K.2.2.1 8 17 (by unfold dY;omega))),h.K.2.2.2 8 17 (by unfold dY;omega),Fo.IU]
  ·rw[Mh w' w.a.j 25 (of_eq_true (h.K.2.2.1 25 17 (by unfold dY;omega))),h.K.2.2.2 25 17 (by unfold dY;omega),Fo.IV])
 have CI:=ab (fun k m W (h:0<=k/\k<=m)=>show aP ah 316 #[.b .a k,.b .a m] W (fun e W'=>e=.a (.e true)/\aL W.a.j W W')by
  have:=afH k m W;rwa [decide_eq_true h.1,decide_eq_true h.2]at this)
 have C1:=ab (fun W=>CI.i x.dz 65535 W ⟨by omega,t1⟩);have C2:=ab (fun W=>CI.i x.Oo 255 W ⟨s0,s1⟩);have C3:=ab (fun W=>CI.i x.Lm 255 W ⟨l0,l1⟩);have C4:=ab (fun W=>CI.i x.aQ 255 W ⟨p0,p1⟩);have C5:=ab (fun W=>CI.i x.id 65535 W ⟨i0,i1⟩);have C6:=ab (fun W=>by have:=Vy x.h W;rwa [hs]at this:∀W,aP ah 317 #[.d x.h.ay] W fun e W'=>e=.a (.e true)/\aL W.a.j W W');have C7:=ab (fun W=>by have:=Vy x.X W;rwa [hd]at this:∀W,aP ah 317 #[.d x.X.ay] W fun e W'=>e=.a (.e true)/\aL W.a.j W W');have q1:decide (x.dz<20)=false:=by simp;omega
 have HF:=ab (amL x (by omega) (by omega));clear hh hf hs hd;go_enter Tryz.func271,Tryz.ntmps271;go_upto_region 1 with fail
 generalize w.alloc (.D x.ay 192)=w1 at *;obtain⟨f0,f1,f2,f3,f4,f5,f6,f7,f8,f9⟩:=FA.i _ Z.i.S;go_upto_region 3 with(first|(go_at_call 316;(first|(with_reducible refine(C1.i _).g ?_)|(with_reducible refine(C2.i _).g ?_)|(with_reducible refine(C3.i _).g ?_)|(with_reducible refine(C4.i _).g ?_)|(with_reducible refine(C5.i _).g ?_));rintro e w5 ⟨rfl,hb⟩;have ZN:=ab (Z.i.go hb);clear f0 f1 f2 f3 f4 f5 f6 f7 f8 f9;obtain⟨f0,f1,f2,f3,f4,f5,f6,f7,f8,f9⟩:=FA.i _ ZN.i.S;clear hb Z;have Z:=ZN;clear ZN)|(go_at_call 317;(first|(with_reducible refine(C6.i _).g ?_)|(with_reducible refine(C7.i _).g ?_));rintro e w5 ⟨rfl,hb⟩;have ZN:=ab (Z.i.go hb);clear f0 f1 f2 f3 f4 f5 f6 f7 f8 f9;obtain⟨f0,f1,f2,f3,f4,f5,f6,f7,f8,f9⟩:=FA.i _ ZN.i.S;clear hb Z;have Z:=ZN;clear ZN))
 clear f0 f1 f2 f3 f4 f5 f6 f7 f8 f9 C1 C2 C3 C4 C5 C6 C7 CI q1;obtain⟨tt,htt⟩:∃n:Nat,x.dz=(n:Int):=⟨x.dz.e,by omega⟩
 obtain⟨ti,hti⟩:∃n:Nat,x.id=(n:Int):=⟨x.id.e,by omega⟩
 obtain⟨tl,htl⟩:∃n:Nat,x.Lm=(n:Int):=⟨x.Lm.e,by omega⟩
 obtain⟨tp,htp⟩:∃n:Nat,x.aQ=(n:Int):=⟨x.aQ.e,by omega⟩
 obtain⟨kb,hkb⟩:∃n:Nat,n=if x.keep then 16384 else 0:=⟨_,rfl⟩
 have hkb2:kb<=16384:=by rw[hkb];split<;>omega
 have HNS:=ab (show ahy x=[tt,ti,kb,tl*256+tp,0]by unfold ahy;rw[htt,hti,htl,htp,<-hkb];rfl);rw[HNS.i]at HF;have f:=FA.i _ Z.i.S;rw[htt,hti,htl,htp]at f;obtain⟨f0,f1,f2,f3,f4,f5,f6,f7,f8,f9⟩:=f;have q2:=ayC tl tp (by omega) (by omega);have q3:aW.wrap x.Oo=x.Oo:=by rw[GN];omega
 have HX1:=ab htt;have HX2:=ab hti;have HX3:=ab htl;have HX4:=ab htp;have B1:tt<=65535:=by omega
 have B2:ti<=65535:=by omega
 have B3:tl*256+tp<=65535:=by omega
 have B4:tl<=255:=by omega
 have B5:tp<=255:=by omega
 have HFA:=FA;have HKB:=ab hkb;clear htt hti htl htp i0 i1 l0 l1 p0 p1 t0 t1 HNS FA;cases hk:x.keep
 all_goals
  rw[hk]at f5;have HK:=ab hk;go_upto_region 6 with fail
  clear hk hkb;have L0:=ab ((Ly.amA w w5 Z.i.R #[.b .b 69,.b .b x.Oo] [69,aJ x.Oo.e] 2 rfl (by omega) (by
   simp only[kL,pI,bv];rw[yM x.Oo.e (by omega),lG s0];rfl)).add (q:=w.a.j) (c:=x.ay) (Z.i.S.alloc _) (by simp[jY];exact uq Z.i.S.lt))
  go_upto_region 7 with fail
  clear f0 f1 f2 f3 f4 f5 f6 f7 f8 f9;generalize w5.alloc (.D #[.b .b 69,.b .b x.Oo] 5)=w6 at L0 ⊢;generalize bD (some ⟨w5.a.j,0,none⟩) 2 2=v6 at L0 ⊢;have f:=HFA.i _ L0.i.S;obtain⟨kv,hkv⟩:∃kv:Nat,kb=kv:=⟨_,rfl⟩
  have hkk:kb=(if x.keep then 16384 else 0):=HKB.i;rw[HK.i]at hkk;simp only[if_true,if_false,jI]at hkk;subst hkk;obtain⟨_,f1,_,f3,_,_,f6,f7,_,_⟩:=f;rw[HX1.i]at f1;rw[HX2.i]at f3;rw[HX3.i]at f6;rw[HX4.i]at f7;clear hkv kv;go_upto_region 8 with fail
  clear f1 f3 f6 f7 q2
  first
  | (have L1:=ab (L0.i.new (sH (GH [tt,ti,16384,tl*256+tp,0])) 3)
     have HIN:=ab (show GH [tt,ti,16384,tl*256+tp,0]=[(tt:Int),ti,16384,(tl:Int)*256+tp,0]by simp[GH]);rw[<-HIN.i];clear HIN;generalize hns:([tt,ti,16384,tl*256+tp,0]:List Nat)=ns at L1 HF⊢)
  | (have L1:=ab (L0.i.new (sH (GH [tt,ti,0,tl*256+tp,0])) 3)
     have HIN:=ab (show GH [tt,ti,0,tl*256+tp,0]=[(tt:Int),ti,0,(tl:Int)*256+tp,0]by simp[GH]);rw[<-HIN.i];clear HIN;generalize hns:([tt,ti,0,tl*256+tp,0]:List Nat)=ns at L1 HF⊢)
  have HNL:=ab (show ns.a=5 by rw[<-hns];rfl);have HNB:=ab (show∀z∈ns,z<=65535 by
   rw[<-hns];intro z hz;simp only[bg,fO,or_false]at hz;omega)
  clear hns hkb2 B1 B2 B3 B4 B5;obtain⟨A0,c0,hv⟩:=L1.i.o.Cj;have hv2:v6=.a A0 2 c0:=hv;clear hv;subst hv2;have hy7:=L0.i.S.lt;generalize w6.alloc (.D (sH (GH ns)) 3)=w7 at L1 ⊢;generalize w6.a.j=y7 at L1 hy7 ⊢;have auj:∀i:Nat,((ns.d i).h (fun n:Nat=>qg (n:Int))).a<=10:=by
   have h1:∀l:List Nat,(l.h (fun n:Nat=>qg (n:Int))).a=2*l.a:=by
    intro l
    induction l with
    | nil=>rfl
    | cons a l ih=>rw[iM,aR,ih];simp[qg];omega
   intro i;rw[h1,bK];have:=HNL.i;omega
  have HLT:=ab auj;clear auj;obtain⟨b0,hb0⟩:∃l:List UInt8,l=[69,aJ x.Oo.e]:=⟨_,rfl⟩
  have HB0:=ab (show b0.a=2 by rw[hb0];rfl);rw[<-hb0]at L1 HF;clear hb0;go_loopw [5,81] (fun s5 s81 wr=>∃(i:Nat)(A:Option aT)(m c:Nat),i<=5/\s81=.b .a i/\s5=.a A m c/\Ly w.a.j [(y7,sH (GH ns)),(w.a.j,x.ay)] w wr (.a A m c) (b0++(ns.d i).h (fun n:Nat=>qg (n:Int)))) (fun _ s81 _=>5-(intOf s81).e)
  case atStart=>exact⟨0,_,_,_,by omega,rfl,rfl,by rw[j4,List.flatMap_nil,uF];exact L1.i⟩
  case round=>
   obtain⟨i,A,m,c,hin,rfl,rfl,h⟩:=hrel;have HO:=ab h;clear h;have HL1:=ab (show(b0++(ns.d i).h (fun n:Nat=>qg (n:Int))).a<=12 by rw[aR];have:=HLT.i i;have:=HB0.i;omega);by_cases hlt:i<5
   ·have hi:(i:Int)<5:=by omega
    have hi0:(0:Int)<=i:=by omega
    have e1:=(HO.i.S.K.1 i).trans (ajv ns i (by rw[HNL.i];exact hlt));have Dx:=ab (adx (fun n:Nat=>qg (n:Int)) 0 ns i (by rw[HNL.i];exact hlt));have hz:=HNB.i _ (AY 0 ns i (by rw[HNL.i];exact hlt));obtain⟨z,hzz⟩:=cB (ns.c i 0);rw[<-hzz]at e1 Dx hz;clear hzz;have cs:jy.wrap (z:Int)=(z:Int):=by rw[jU];omega
    have PS:=ab (fun W=>wm z hz W);rw[uU z hz]at PS;have HLN:=ab (show(b0++(ns.d i).h (fun n:Nat=>qg (n:Int))).a+2<=1000000000 by have:=HL1.i;omega);go_wp2_with (first|(go_at_call 184;(with_reducible refine(PS.i _).g ?_);rintro e w8 ⟨A8,rfl,ho,hb⟩;have R8:=ab (Db ho (aG _ _));have L4:=ab (HO.i.go hb);clear ho hb)|(at_builtin;refine kE rfl (.a 85) (.a 88) rfl rfl L4.i.o rfl R8.i HLN.i ?_;intro A9 n9 c9 w9 h2 h3;have L5:=ab (L4.i.step h3);clear h2 h3));go_roundw
    case rel=>exact⟨i+1,A9,n9,c9,by omega,by go_num,rfl,by rw[Dx.i,<-dB];exact L5.i⟩
    case measure=>simp[intOf]<;>omega
   ·obtain rfl:i=5:=by omega
    have HFU:=ab (show ns.d 5=ns from aK (by rw[HNL.i];omega));rw[HFU.i]at HO HL1;obtain⟨b1,hb1⟩:∃l:List UInt8,l=b0++ns.h (fun n:Nat=>qg (n:Int)):=⟨_,rfl⟩
    have HB1:=ab (show b1.a=12 by
     rw[hb1,aR,HB0.i];have h1:∀l:List Nat,(l.h (fun n:Nat=>qg (n:Int))).a=2*l.a:=by
      intro l
      induction l with
      | nil=>rfl
      | cons a l ih=>rw[iM,aR,ih];simp[qg];omega
     rw[h1,HNL.i])
    rw[<-hb1]at HO HF;clear hb1 HFU HL1 hin hlt;have LY:=ab (show Ly w.a.j [(w.a.j,x.ay)] w wr (.a A m c) b1 from HO.i.Tq);have RS:=ab (fun(w':ak) (h:dK w' w.a.j x.ay)=>show fU w' w'.a.j (some ⟨w.a.j,9,none⟩) 4 (x.h.b.a.d 4)from(LJ (o:=8) h x.h (Fo.IU x)).upN (by omega));have RD:=ab (fun(w':ak) (h:dK w' w.a.j x.ay)=>show fU w' w'.a.j (some ⟨w.a.j,26,none⟩) 4 (x.X.b.a.d 4)from(LJ (o:=25) h x.X (Fo.IV x)).upN (by omega));have LD:=ab LY.i.drew;have RSd:=ab (RS.i _ LD.i.S);obtain⟨A',c',hv⟩:=LD.i.o.Cj;have hm:m=b1.a:=by injection hv
    rw[HB1.i]at hm;subst hm;clear hv A' c';have LN1:=ab (show b1.a+4<=1000000000 by rw[HB1.i];decide);have LN2:=ab (show(b1++x.h.b.a.d 4).a+4<=1000000000 by rw[aR,bK,HB1.i];omega);go_wp2_with fail;go_region_held_law (fun _=>True) (trivial)
     (first
     | (refine M7 (o:=⟨some 95,_,_,_,_,_⟩) rfl (.a 91) (.a 94) rfl (.a A 12 c) (some ⟨w.a.j,9,none⟩) 4 16 rfl LD.i.o rfl RSd.i LN1.i ?_;intro A6 n6 c6 w6 h8 h9;have L6:=ab (LD.i.step h9);have RDd:=ab (RD.i _ L6.i.S);clear h8 h9)
     | (refine M7 (o:=⟨some 99,_,_,_,_,_⟩) rfl (.a 95) (.a 98) rfl (.a A6 n6 c6) (some ⟨w.a.j,26,none⟩) 4 16 rfl L6.i.o rfl RDd.i LN2.i ?_;intro A7 n7 c7 w7 h8 h9;have L7:=ab (L6.i.step h9);clear h8 h9))
    go_wp2_with fail;rw[<-HF.i]at L7;have HFL:=ab (show(Dh x).a=20 by simp[Dh]);have HPF:=ab (show tK x=rX (Dh x) 10 (qg (wP (Dh x):Nat))by
     unfold tK adu qg;rw[dS,abf (by rw[HFL.i];omega)])
    obtain⟨fh,hfh⟩:∃l,l=Dh x:=⟨_,rfl⟩
    rw[<-hfh]at L7 HFL HPF;clear hfh HF;obtain⟨g,hg1,hg2,hg3,hg4,hg5⟩:=L7.i.h (by rw[HFL.i];decide);rw[HFL.i]at hg2;subst hg1 hg2;have h10:(10:Int)<=c7:=by omega
    have L8:=L7.i.drew.new (#[bD (some ⟨g,0,none⟩) 20 c7]) 56;simp only[show w7.drew.a.j=w7.a.j from rfl,show∀(w:ak) ob,w.drew.alloc ob=(w.alloc ob).drew from fun _ _=>rfl]at L8;have L8:=ab L8;have hfr:fU w7 w7.a.j (some ⟨g,0,none⟩) 20 fh:=by have ho:=L7.i.o.vB;rw[HFL.i]at ho;exact fU.iQ ho
    have CS:=ab (ag3 ((w7.alloc (.D (#[bD (some ⟨g,0,none⟩) 20 c7]) 56)).drew) w7.a.j (some ⟨g,0,none⟩) 20 c7 w7.a.j fh (by decide) ((L8.i.S.K.1 0).trans rfl) (hfr.alloc (av _) _));have hsz:wP fh<=65535:=by unfold wP;omega
    obtain⟨z,hz⟩:=cB (wP fh);rw[<-hz]at CS HPF hsz;clear hz hfr;have q7:jy.wrap (z:Int)=(z:Int):=by rw[jU];omega
    have PZ:=ab (fun W=>wm z hsz W);rw[uU z hsz]at PZ;have HP:=ab (show 0<2->∃g',(some ⟨g,0,none⟩:Option aT)=some ⟨g',0,none⟩/\vF (some ⟨g,0,none⟩) 10 c7 1=some ⟨g',10,none⟩from fun _=>⟨g,rfl,Qt (n:=0) (by omega)⟩);have HZ:=ab (show 10+2<=fh.a by rw[HFL.i];decide);go_region_held_law (fun _=>True) (trivial)
     (first
     | (go_at_call 305;(with_reducible refine CS.i.g ?_);rintro e w8 ⟨rfl,rfl⟩)
     | (go_at_call 184;(with_reducible refine(PZ.i _).g ?_);rintro e w9 ⟨A9,rfl,ho,hb⟩;have R9:=ab (Db ho (aG _ _));have L9:=ab (L8.i.go hb);clear ho hb)
     | (refine NG (o:=⟨some 107,_,_,_,_,_⟩) rfl (.a 101) (.a 106) rfl (some ⟨g,0,none⟩) 20 c7 L9.i 10 2 (vF (some ⟨g,0,none⟩) 10 c7 1) 10 (c7-10) rfl A9 2 2 rfl R9.i rfl HP.i HZ.i ?_;intro w10 h10 h11;have L10:=ab h10;clear h10 h11))
    go_wp2;go_ret2;rw[HPF.i];exact L10.i.toE
end
section
attribute [local go_sem high] iY jH
theorem V9(x:Lc)(kind:Int)(fK:List Tg)(hf:∀t∈fK,aa' t)(hi:∀t∈fK,tT t.ou=true)(hn:fK.a<=2)(t0:0<=kind)(t1:kind<=65535)(ht:tT kind=false)(w:ak)(hT:iJ Tg.ay 2 w w.a.j x.Vx x.Ep fK)
 (P:Option aT) (m mc:Nat) (sl:List Xr) (bss:List (List UInt8)) (hS:RdS w w.a.j P m sl) (hH:MZ w w.a.j sl bss) (hm:m<=1000) (hs:yC sl<=900000000) :
 aP ah 102 #[.d x.ay,.b .a kind,.a P m mc] w (Kc w (qv x.X x.h fK kind++bss.flatten)):=by
 have Z1:=ab ((Bx.start w).new x.ay 108);have fz:=Z1.i.S.K.2.1 13;have HT:=ab hT;have HS:=ab hS;have HH:=ab hH;have Z2:=ab (Z1.i.set (fun p hp=>by cases hp) 13 (.b .a kind));rw[Lc.TL]at Z2;clear hT hS hH;go_enter Tryz.func102,Tryz.ntmps102;go_upto_region 1 with fail
 have c13:(w.alloc (.D x.ay 108)).b ⟨w.a.j,13,none⟩=some (.b .a x.ou):=(Z1.i.S.K.1 13).trans (Lc.DJ x);generalize w.alloc (.D x.ay 108)=w1 at *;go_upto_region 2 with fail
 generalize w1.F ⟨w.a.j,13,none⟩ (.b .a kind)=w2 at *;clear c13 fz;have l3:=kLc.nC Z2.i.S (Lc.G _);have CL:=ab (adB ({x with ou:=kind}:Lc) fK hf hi hn t0 t1 ht w2 ((HT.i.O Z2.i.R).lF Z2.i.R.j));have HLB:=ab (show(qv x.X x.h fK kind).a<=1000 from ajr hn);go_upto_region 3 with(go_at_call 185;(with_reducible refine CL.i.g ?_);rintro e w3 ⟨A3,n3,c3,rfl,hn3,ho3,hb3⟩;have N3:=ab hn3;have O3:=ab ho3;have B3:=ab (Z2.i.R.trans (hb3.g Z2.i.R.j));clear hn3 ho3 hb3)
 have C1:=ab (Li sl bss P m mc w3 ((HS.i.O B3.i).lF B3.i.j) ⟨HH.i.1,fun i hi=>((HH.i.2 i hi).O B3.i).lF B3.i.j⟩ hm (by omega));obtain⟨hb0,hhb⟩:∃l,l=qv x.X x.h fK kind:=⟨_,rfl⟩
 rw[<-hhb]at N3 O3 HLB;have HHB:=ab hhb;clear hhb l3;have HFL:=ab (show bss.flatten.a<=900000000 by
  have:=Vn HH.i sl.a (av _);rw[aK (av _),HH.i.1,aK (av _)]at this;omega)
 obtain⟨fl,hfl⟩:∃l,l=bss.flatten:=⟨_,rfl⟩
 unfold atr at C1;rw[<-hfl]at HFL C1;have HFB:=ab hfl;clear hfl;go_wp2_with (first
 | (go_at_call 181;(with_reducible refine C1.i.g ?_);rintro e w4 ⟨v4,rfl,ho4,hb4⟩;obtain⟨A4,c4,hv4,_,_⟩:=jE ho4;subst hv4;have O4:=ab ho4;have B4:=ab (B3.i.trans (hb4.g B3.i.j));have R3:=ab (fU.iQ (jA O3.i hb4));have R4:=ab (fU.iQ ho4);have C2:=ab (Bt [⟨A3,n3,c3⟩,⟨A4,fl.a,c4⟩] [hb0,fl] 56 2 w4 rfl (.cons R3.i (.cons R4.i .nil)) (by omega) (by have:=N3.i;have:=HLB.i;have:=HFL.i;simp[yC];omega));clear ho4 hb4)
 | (go_at_call 181;(with_reducible refine C2.i.g ?_);rintro e w5 ⟨A5,m5,c5,rfl,hm5,_,TN,hb5⟩;have O5:=ab TN;have N5:=ab hm5;have B5:=ab hb5;clear hm5 TN hb5))
 go_ret;have e2:[hb0,fl].flatten=hb0++fl:=by simp
 have ho:=O5.i;have hnn:=N5.i;rw[e2,HHB.i,HFB.i]at ho hnn;exact⟨A5,m5,c5,rfl,hnn,iI ho (kQ B4.i.j),B4.i.trans (B5.i.g B4.i.j)⟩
end
section
attribute [local go_sem high] iY jH
theorem ap4{w:ak}{y:Nat}{a b c:Array aB}(h:w.a.j+1<y):∀p∈[(y+1,a),(w.a.j+1,b),(w.a.j,c)],p.1≠y:=fun r hr=>by
 simp only[bg,fO,or_false]at hr;rcases hr with rfl|rfl|rfl<;>simp only[]<;>omega
theorem amN{w:ak}{y:Nat}{a b c:Array aB}(h:w.a.j+1<y):∀p∈[(y,a),(w.a.j+1,b),(w.a.j,c)],p.1≠y+1:=fun r hr=>by
 simp only[bg,fO,or_false]at hr;rcases hr with rfl|rfl|rfl<;>simp only[]<;>omega
theorem amO(l:List UInt8):((Jc l).a:Int)=(Sn l).dz:=by
 unfold Jc Sn;split
 ·simp[sN]
 ·have:=adE (mq l).1.ou (l.f (mq l).1.fI)
  rw[bK];omega
theorem amP(l:List UInt8)(s d:fC):GD l s d =
 (if(Sn l).Z=false then([],3)else if amC s d=false then([],1)else if s.h=true then if((Jc l).a:Int)>65535 then([],4)
 else(qv (mq l).1.X (mq l).1.h (mq l).1.fK 34525++wG ⟨40,40+((Jc l).a:Int),64,false,0,if(mq l).1.ou=34525 then 41 else 4,s,d⟩++Jc l,0)
 else if 20+((Jc l).a:Int)>65535 then([],4)
  else(qv (mq l).1.X (mq l).1.h (mq l).1.fK 2048++tK ⟨20,20+((Jc l).a:Int),0,0,false,true,64,if(mq l).1.ou=34525 then 41 else 4,s,d⟩++Jc l,0)):=by
 rw[amO];unfold GD Jc Sn;by_cases h:(mq l).2≠0
 ·rw[if_pos h,if_pos h,if_pos (by rfl)]
 ·rw[if_neg h,if_neg h,if_neg h]
theorem afW(w:ak)(A:Option aT)(n c:Nat)(l:List UInt8)(s d:fC)(hnc:n<=c)(hc:c<=9223372036854775807/\n<=1000000)(hr:fU w w.a.j A n l):aP ah 207 #[.a A n c,.d s.ay,.d d.ay] w (ajl w (GD l s d)):=by
 have h0:=((Bx.start w).new s.ay 27).new d.ay 27;rw[show(w.alloc (.D s.ay 27)).a.j=w.a.j+1 by simp]at h0;have Z0:=ab h0;have CC:=ab (ajt _ A n c l hnc hc (h0.Lv hr));have HW:=ab (amP l s d);clear h0 hr;go_enter Tryz.func207,Tryz.ntmps207;go_upto_region 1 with fail
 generalize(w.alloc (.D s.ay 27)).alloc (.D d.ay 27)=w0 at Z0 CC ⊢;obtain⟨k,hk⟩:=cB ((mq l).1);obtain⟨g,hg⟩:=cB (Sn l);obtain⟨pk,hpk⟩:∃q,q=Jc l:=⟨_,rfl⟩
 have HK:=ab hk;unfold ayz at CC;rw[<-hk,<-hg,<-hpk]at CC HW;clear hk hg hpk;go_upto_region 2 with(go_at_call 99;(with_reducible refine CC.i.g ?_);rintro e w1 ⟨TA,tc,PA,pn,pc,rfl,hT,hP,hpc,ayE,hb1⟩;have zn:=((Z0.i.go hb1).new qK.ay 108).new sN.ay 179;rw[sU]at zn;have hsz:=(Z0.i.go hb1).S.lt;have ZN:=ab zn;have auA:=ZN.i.b1.M 0 15 (aX (Lc.G qK).symm);have Z2:=ab ((ZN.i.sub (L':=[(w1.a.j,qK.ay),(w1.a.j+1,sN.ay),(w.a.j+1,d.ay),(w.a.j,s.ay)]) (by simp)).put (ap4 hsz) (k.cell TA tc).ay (by rw[Lc.G,Lc.G]));have auB:=Z2.i.b1.M 0 5 (aX (Tn.G sN).symm);have Z1:=ab ((Z2.i.sub (L':=[(w1.a.j+1,sN.ay),(w1.a.j,(k.cell TA tc).ay),(w.a.j+1,d.ay),(w.a.j,s.ay)]) (by simp)).put (amN hsz) g.ay (by rw[Tn.G,Tn.G]));have QN:=ab (kZ (kZ ((((aG w1.a.j w1).alloc (av _) (.D qK.ay 108)).alloc (by simp) (.D sN.ay 179))) w1.a.j 0 (k.cell TA tc).ay (av _)) (w1.a.j+1) 0 g.ay (Nat.le_succ _));have RT:=ab (hT.O QN.i);have RP:=ab (hP.O QN.i);have HPC:=ab (And.intro hpc ayE);clear zn hpc ayE;clear hb1 hT hP)
 have YL:=ab (show w1.a.j<=(gT (gT ((w1.alloc (.D qK.ay 108)).alloc (.D sN.ay 179)) w1.a.j 0 (k.cell TA tc).ay) (w1.a.j+1) 0 g.ay).a.j from QN.i.j);have HY:=ab hsz;clear auA auB ZN Z2 QN hsz;generalize gT (gT ((w1.alloc (.D qK.ay 108)).alloc (.D sN.ay 179)) w1.a.j 0 (k.cell TA tc).ay) (w1.a.j+1) 0 g.ay=w2 at Z1 RT RP YL ⊢;generalize w1.a.j=y8 at *;have hpn:=ab RP.i.len;have KS:=ab (fun(w':ak) (h:Bx [(y8+1,g.ay),(y8,(k.cell TA tc).ay),(w.a.j+1,d.ay),(w.a.j,s.ay)] w w')=>show w'.b ⟨y8+1,4,none⟩=some (.e g.Z)/\w'.b ⟨w.a.j,0,none⟩=some (.e s.h)/\w'.b ⟨w.a.j+1,0,none⟩=some (.e d.h)/\(rE (.c (some ⟨w.a.j,0,none⟩))).I ah w' = .Z (.d s.ay) w'/\(rE (.c (some ⟨w.a.j+1,0,none⟩))).I ah w' = .Z (.d d.ay) w'/\w'.b ⟨y8,13,none⟩=some (.b .a k.ou)/\(xI 108 (.c (some ⟨y8,0,none⟩))).I ah w' = .Z (.d (k.cell TA tc).ay) w' from⟨(h.S.K.1 4).trans (Tn.ax3 g),(h.b3.K.1 0).trans (fC.qw s),(h.b2.K.1 0).trans (fC.qw d),h.b3.ahw,h.b2.ahw,(h.b1.K.1 13).trans (Lc.DJ _),kLc.nC h.b1 (Lc.G _)⟩);obtain⟨f1,f2,f3,f4,f5,f6,f7⟩:=KS.i _ Z1.i;have CP:=ab adv;cases hok:g.Z
 ·rw[hok]at f1
  go_wp2;go_ret2;rw[HW.i,if_pos hok];exact⟨none,0,0,rfl,Jb _,Z1.i.R⟩
 rw[hok]at f1;have HWO:=ab (HW.i.trans (if_neg (by rw[hok];simp)));clear HW;have HFM:=ab (show amC s d=(s.h==d.h&&(s.h||s.mJ&&d.mJ))from rfl);have NOF:=ab (show amC s d=false->GD l s d=([],1)from fun h=>HWO.i.trans (if_pos h));cases h6:s.h<;>cases g6:d.h
 case false.true=>
  rw[h6]at f2 HFM;rw[g6]at f3 HFM;go_wp2;go_ret2;rw[NOF.i HFM.i];exact⟨none,0,0,rfl,Jb _,Z1.i.R⟩
 case true.false=>
  rw[h6]at f2 HFM;rw[g6]at f3 HFM;go_wp2;go_ret2;rw[NOF.i HFM.i];exact⟨none,0,0,rfl,Jb _,Z1.i.R⟩
 case true.true=>
  have HH6:=ab h6;have HG6:=ab g6;rw[h6]at f2 HFM;rw[g6]at f3 HFM;clear g6;have HWX:=ab (HWO.i.trans ((if_neg (by rw[HFM.i];simp)).trans (if_pos h6)));clear h6;have hty:(k.ou==34525)=true/\(if k.ou=34525 then(41:Int)else 4)=41\/(k.ou==34525)=false/\(if k.ou=34525 then(41:Int)else 4)=4:=by
   by_cases h:k.ou=34525
   ·exact .a ⟨by simpa using h,if_pos h⟩
   ·exact .b ⟨by simpa using h,if_neg h⟩
  by_cases hT:65535<pn
  ·have qt:decide ((65535:Int)<pn)=true:=by simp;omega
   go_wp2
   all_goals
    go_ret2;rw[HWX.i,if_pos (by have:=hpn.i;omega)];exact⟨none,0,0,rfl,Jb _,Z1.i.R⟩
  have qt:decide ((65535:Int)<pn)=false:=by simp;omega
  have MO:=ab (HWX.i.trans (if_neg (by have:=hpn.i;omega)));have q5:=jS (40+(pn:Int)) (by omega);rcases hty with⟨qty,hpp⟩|⟨qty,hpp⟩
  case' inl=>
   rw[hpp,hpn.i]at MO;clear hpp;have CS:=ab (fun W'=>V6 (Sx.mk 40 (40+pn) 64 false 0 41 s d) pn (by omega) rfl rfl (show(0:Int)<=41 by decide) (show(41:Int)<=255 by decide) (by rfl) (show(0:Int)<=64 by decide) (show(64:Int)<=255 by decide) rfl rfl HH6.i HG6.i W');go_upto_region 14 with(go_at_call 270;(with_reducible refine(CS.i _).g ?_);rintro e w5 ⟨A5,n5,c5,rfl,hn5,TN,hb5⟩;have Z5:=ab (Z1.i.go hb5);have N5:=ab hn5;have R5:=ab (fU.iQ TN);have B5:=ab hb5;clear hn5 TN hb5)
   clear f1 f2 f3 f4 f5 f6 f7 q5 qt qty;obtain⟨_,_,_,_,_,_,f7⟩:=KS.i _ Z5.i;obtain⟨sb,hsb⟩:∃l,l=wG (Sx.mk 40 (40+pn) 64 false 0 41 s d):=⟨_,rfl⟩
  case' inr=>
   rw[hpp,hpn.i]at MO;clear hpp;have CS:=ab (fun W'=>V6 (Sx.mk 40 (40+pn) 64 false 0 4 s d) pn (by omega) rfl rfl (show(0:Int)<=4 by decide) (show(4:Int)<=255 by decide) (by rfl) (show(0:Int)<=64 by decide) (show(64:Int)<=255 by decide) rfl rfl HH6.i HG6.i W');go_upto_region 14 with(go_at_call 270;(with_reducible refine(CS.i _).g ?_);rintro e w5 ⟨A5,n5,c5,rfl,hn5,TN,hb5⟩;have Z5:=ab (Z1.i.go hb5);have N5:=ab hn5;have R5:=ab (fU.iQ TN);have B5:=ab hb5;clear hn5 TN hb5)
   clear f1 f2 f3 f4 f5 f6 f7 q5 qt qty;obtain⟨_,_,_,_,_,_,f7⟩:=KS.i _ Z5.i;obtain⟨sb,hsb⟩:∃l,l=wG (Sx.mk 40 (40+pn) 64 false 0 4 s d):=⟨_,rfl⟩
  all_goals
   have HSL:=ab (show sb.a=40 by rw[hsb,adD]);rw[<-hsb]at MO N5 R5;clear hsb;have BA:=ab (Below.alloc (aG w5.a.j w5) (av _) (.D (yK [⟨A5,n5,c5⟩,⟨PA,pn,pc⟩]) 56));have TG:=V5 l;have TI:=Qu l;rw[<-HK.i]at TG TI;have RT5:=((RT.i.O (B5.i.g YL.i)).O (BA.i.g (aO YL.i B5.i.j))).lF (aO YL.i (aO B5.i.j BA.i.j));have RP5:=((RP.i.O (B5.i.g YL.i)).O (BA.i.g (aO YL.i B5.i.j))).lF (aO YL.i (aO B5.i.j BA.i.j));have CJ:=ab (V9 (k.cell TA tc) 34525 k.fK TG.1 TI TG.2 (by decide) (by decide) (by decide) _ RT5 (some ⟨w5.a.j,0,none⟩) 2 2 [⟨A5,n5,c5⟩,⟨PA,pn,pc⟩] [sb,pk] (RdS.lit w5 [⟨A5,n5,c5⟩,⟨PA,pn,pc⟩] 56) (.cons ((R5.i.O BA.i).lF BA.i.j) (.cons RP5 .nil)) (by omega) (by have:=N5.i;have:=HSL.i;have:=HPC.i;simp[yC];omega));clear TG TI RT5 RP5;go_wp2_with (go_at_call 102;(with_reducible refine CJ.i.g ?_);rintro e w8 ⟨A8,n8,c8,rfl,hn8,ho8,XJ⟩;have N8:=ab hn8;have R8:=ab (fU.iQ ho8);have B8:=ab XJ;clear hn8 ho8 XJ);go_ret2;have e2:qv k.X k.h k.fK 34525++[sb,pk].flatten=qv k.X k.h k.fK 34525++sb++pk:=by simp
   rw[MO.i];refine⟨A8,n8,c8,rfl,?_,Z5.i.R.trans ((BA.i.trans (B8.i.g BA.i.j)).g Z5.i.R.j)⟩;have:=R8.i
   rwa [show(k.cell TA tc).X=k.X from rfl,show(k.cell TA tc).h=k.h from rfl,e2]at this
 case false.false=>
  have HH6:=ab h6;have HG6:=ab g6;rw[h6]at f2 HFM;rw[g6]at f3 HFM;simp only[h6,g6]at KS;clear g6;have CP1:=ab (fun W=>CP.i s W);have CP2:=ab (fun W=>CP.i d W);cases hs:s.mJ
  ·rw[hs]at CP1 HFM
   clear hs;go_wp2_with (go_at_call 269;(with_reducible refine(CP1.i _).g ?_);rintro e w4 ⟨rfl,hb⟩;have Z4:=ab (Z1.i.go hb);clear f1 f2 f3 f4 f5 f6 f7;obtain⟨f1,f2,f3,f4,f5,f6,f7⟩:=KS.i _ Z4.i;clear hb);go_ret2;rw[NOF.i HFM.i];exact⟨none,0,0,rfl,Jb _,Z4.i.R⟩
  cases hd:d.mJ
  ·rw[hs]at CP1 HFM
   rw[hd]at CP2 HFM;clear hs hd;go_wp2_with (go_at_call 269;(first|((with_reducible refine(CP1.i _).g ?_);rintro e w4 ⟨rfl,hb⟩;have Z4:=ab (Z1.i.go hb);clear f1 f2 f3 f4 f5 f6 f7;obtain⟨f1,f2,f3,f4,f5,f6,f7⟩:=KS.i _ Z4.i;clear hb)|((with_reducible refine(CP2.i _).g ?_);rintro e w5 ⟨rfl,hb⟩;have Z5:=ab (Z4.i.go hb);clear f1 f2 f3 f4 f5 f6 f7;obtain⟨f1,f2,f3,f4,f5,f6,f7⟩:=KS.i _ Z5.i;clear hb)));go_ret2;rw[NOF.i HFM.i];exact⟨none,0,0,rfl,Jb _,Z5.i.R⟩
  have HS4:=ab (show(!s.h&&s.mJ)=true by rw[HH6.i,hs];rfl);have HD4:=ab (show(!d.h&&d.mJ)=true by rw[HG6.i,hd];rfl);rw[hs]at CP1 HFM;rw[hd]at CP2 HFM;clear hs hd;have HWX:=ab (HWO.i.trans ((if_neg (by rw[HFM.i];simp)).trans (if_neg (by rw[h6];simp))));clear h6;have hty:(k.ou==34525)=true/\(if k.ou=34525 then(41:Int)else 4)=41\/(k.ou==34525)=false/\(if k.ou=34525 then(41:Int)else 4)=4:=by
   by_cases h:k.ou=34525
   ·exact .a ⟨by simpa using h,if_pos h⟩
   ·exact .b ⟨by simpa using h,if_neg h⟩
  have q5:=jS (20+(pn:Int)) (by have:=HPC.i;omega);go_upto_region 7 with(go_at_call 269;(first|((with_reducible refine(CP1.i _).g ?_);rintro e w4 ⟨rfl,hb⟩;have Z4:=ab (Z1.i.go hb);have B4:=ab hb;clear f1 f2 f3 f4 f5 f6 f7;obtain⟨f1,f2,f3,f4,f5,f6,f7⟩:=KS.i _ Z4.i;clear hb)|((with_reducible refine(CP2.i _).g ?_);rintro e w5 ⟨rfl,hb⟩;have Z5:=ab (Z4.i.go hb);have B5:=ab (B4.i.trans (hb.g B4.i.j));clear f1 f2 f3 f4 f5 f6 f7;obtain⟨f1,f2,f3,f4,f5,f6,f7⟩:=KS.i _ Z5.i;clear hb)))
  by_cases hT:65535<20+pn
  ·have qt:decide ((65535:Int)<20+(pn:Int))=true:=by simp;omega
   go_wp2
   all_goals
    go_ret2;rw[HWX.i,if_pos (by have:=hpn.i;omega)];exact⟨none,0,0,rfl,Jb _,Z5.i.R⟩
  have qt:decide ((65535:Int)<20+(pn:Int))=false:=by simp;omega
  have MO:=ab (HWX.i.trans (if_neg (by have:=hpn.i;omega)));rcases hty with⟨qty,hpp⟩|⟨qty,hpp⟩
  case' inl=>
   rw[hpp,hpn.i]at MO;clear hpp;have CS:=ab (fun W'=>Rh (Fo.mk 20 (20+pn) 0 0 false true 64 41 s d) rfl (show(0:Int)<=0 by decide) (show(0:Int)<=255 by decide) (show 20<=20+(pn:Int)by omega) (show 20+(pn:Int)<=65535 by omega) (show(0:Int)<=0 by decide) (show(0:Int)<=65535 by decide) (show(0:Int)<=64 by decide) (show(64:Int)<=255 by decide) (show(0:Int)<=41 by decide) (show(41:Int)<=255 by decide) rfl HS4.i HD4.i W');go_upto_region 18 with(go_at_call 271;(with_reducible refine(CS.i _).g ?_);rintro e w7 ⟨A5,n5,c5,rfl,hn5,TN,hb5⟩;have Z7:=ab (Z5.i.go hb5);have N5:=ab hn5;have R5:=ab (fU.iQ TN);have B7:=ab (B5.i.trans (hb5.g B5.i.j));clear hn5 TN hb5)
   clear f1 f2 f3 f4 f5 f6 f7 q5 qt qty;obtain⟨_,_,_,_,_,_,f7⟩:=KS.i _ Z7.i;obtain⟨sb,hsb⟩:∃l,l=tK (Fo.mk 20 (20+pn) 0 0 false true 64 41 s d):=⟨_,rfl⟩
  case' inr=>
   rw[hpp,hpn.i]at MO;clear hpp;have CS:=ab (fun W'=>Rh (Fo.mk 20 (20+pn) 0 0 false true 64 4 s d) rfl (show(0:Int)<=0 by decide) (show(0:Int)<=255 by decide) (show 20<=20+(pn:Int)by omega) (show 20+(pn:Int)<=65535 by omega) (show(0:Int)<=0 by decide) (show(0:Int)<=65535 by decide) (show(0:Int)<=64 by decide) (show(64:Int)<=255 by decide) (show(0:Int)<=4 by decide) (show(4:Int)<=255 by decide) rfl HS4.i HD4.i W');go_upto_region 18 with(go_at_call 271;(with_reducible refine(CS.i _).g ?_);rintro e w7 ⟨A5,n5,c5,rfl,hn5,TN,hb5⟩;have Z7:=ab (Z5.i.go hb5);have N5:=ab hn5;have R5:=ab (fU.iQ TN);have B7:=ab (B5.i.trans (hb5.g B5.i.j));clear hn5 TN hb5)
   clear f1 f2 f3 f4 f5 f6 f7 q5 qt qty;obtain⟨_,_,_,_,_,_,f7⟩:=KS.i _ Z7.i;obtain⟨sb,hsb⟩:∃l,l=tK (Fo.mk 20 (20+pn) 0 0 false true 64 4 s d):=⟨_,rfl⟩
  all_goals
   have HSL:=ab (show sb.a=20 by rw[hsb,V7]);rw[<-hsb]at MO N5 R5;clear hsb;have BA:=ab (Below.alloc (aG w7.a.j w7) (av _) (.D (yK [⟨A5,n5,c5⟩,⟨PA,pn,pc⟩]) 56));have TG:=V5 l;have TI:=Qu l;rw[<-HK.i]at TG TI;have RT5:=((RT.i.O (B7.i.g YL.i)).O (BA.i.g (aO YL.i B7.i.j))).lF (aO YL.i (aO B7.i.j BA.i.j));have RP5:=((RP.i.O (B7.i.g YL.i)).O (BA.i.g (aO YL.i B7.i.j))).lF (aO YL.i (aO B7.i.j BA.i.j));have CJ:=ab (V9 (k.cell TA tc) 2048 k.fK TG.1 TI TG.2 (by decide) (by decide) (by decide) _ RT5 (some ⟨w7.a.j,0,none⟩) 2 2 [⟨A5,n5,c5⟩,⟨PA,pn,pc⟩] [sb,pk] (RdS.lit w7 [⟨A5,n5,c5⟩,⟨PA,pn,pc⟩] 56) (.cons ((R5.i.O BA.i).lF BA.i.j) (.cons RP5 .nil)) (by omega) (by have:=N5.i;have:=HSL.i;have:=HPC.i;simp[yC];omega));clear TG TI RT5 RP5;go_wp2_with (go_at_call 102;(with_reducible refine CJ.i.g ?_);rintro e w8 ⟨A8,n8,c8,rfl,hn8,ho8,XJ⟩;have N8:=ab hn8;have R8:=ab (fU.iQ ho8);have B8:=ab XJ;clear hn8 ho8 XJ);go_ret2;have e2:qv k.X k.h k.fK 2048++[sb,pk].flatten=qv k.X k.h k.fK 2048++sb++pk:=by simp
   rw[MO.i];refine⟨A8,n8,c8,rfl,?_,Z7.i.R.trans ((BA.i.trans (B8.i.g BA.i.j)).g Z7.i.R.j)⟩;have:=R8.i
   rwa [show(k.cell TA tc).X=k.X from rfl,show(k.cell TA tc).h=k.h from rfl,e2]at this
end
section
attribute [local go_sem high] iY jH
end
def Agr(l m:List UInt8)(a b:Nat):Prop:=∀j,a<=j->j<b->m.c j 0=l.c j 0
section
variable {l m:List UInt8} {a b:Nat}
theorem Agr.two(h:Agr l m a b){k:Nat}(h1:a<=k)(h2:k+2<=b):eZ m k=eZ l k:=by
 unfold eZ;rw[h k (by omega) (by omega),h (k+1) (by omega) (by omega)]
theorem YP(l:List UInt8)(z j:Nat):(l.f z).c j 0=l.c (z+j) 0:=by simp[au]
theorem YQ(l:List UInt8)(z j:Nat):(l.d z).c j 0=if j<z then l.c j 0 else 0:=by
 simp only[au,jq];split<;>rfl
end
theorem afX{l:List UInt8}(h:(vT l).kind=0):(mq l).2=0/\((mq l).1.ou=2048\/(mq l).1.ou=34525)/\(mO l).2=0/\(mO l).1.oI=false/\((mO l).1.aQ=6\/(mO l).1.aQ=17)/\(LA l).2=0 /\
 vT l=⟨0,⟨(mO l).1.h,(mO l).1.X,(mO l).1.aQ,(LA l).1.kV,(LA l).1.j6⟩,(LA l).1.uR,(mq l).1.fI,(mq l).1.fI+(mO l).1.head,(mq l).1.fI+(mO l).1.dz⟩:=by
 unfold vT at h ⊢;by_cases h1:(mq l).2≠0
 ·rw[if_pos h1]at h;cases h
 rw[if_neg h1]at h ⊢;by_cases h2:(mq l).1.ou≠2048/\(mq l).1.ou≠34525
 ·rw[if_pos h2]at h;cases h
 rw[if_neg h2]at h ⊢;by_cases h3:(mO l).2≠0
 ·rw[if_pos h3]at h;cases h
 rw[if_neg h3]at h ⊢;by_cases h4:(mO l).1.oI=true
 ·rw[if_pos h4]at h;cases h
 rw[if_neg h4]at h ⊢;by_cases h5:(mO l).1.aQ≠6/\(mO l).1.aQ≠17
 ·rw[if_pos h5]at h;cases h
 rw[if_neg h5]at h ⊢;by_cases h6:(LA l).2≠0
 ·rw[if_pos h6]at h;cases h
 rw[if_neg h6]at h ⊢;exact⟨by omega,by omega,by omega,by simpa using h4,by omega,by omega,rfl⟩
theorem YR(l:List UInt8)(z k:Nat):eZ (l.f z) k=eZ l (z+k):=by unfold eZ;rw[YP,YP,mZ]
theorem ajw{l:List UInt8}(h:(vT l).kind=0):(vT l).J.h=(if(vT l).J.h.h then ajc (l.f ((vT l).Cm.e+8))else IZ (l.f ((vT l).Cm.e+12)))/\(vT l).J.X=(if(vT l).J.h.h then ajc (l.f ((vT l).Cm.e+24))else IZ (l.f ((vT l).Cm.e+16)))/\(vT l).J.kV=eZ l (vT l).sV.e/\(vT l).J.j6=eZ l ((vT l).sV.e+2):=by
 have F:=NC h;obtain⟨k1,k2,k3,k4,k5,k6,kp⟩:=afX h;have f5:=F.FU;have f3:=F.sV;have f2:=F.Cm;have f6:=F.len;have hp:(vT l).J.kV=eZ l (vT l).sV.e/\(vT l).J.j6=eZ l ((vT l).sV.e+2):=by
  rw[kp]at f5 f3 f2 f6 ⊢;simp only at f5 f3 f2 f6 ⊢;have e0:uT (mO l).1.aQ ((l.d ((mq l).1.fI+(mO l).1.dz.e)).f ((mq l).1.fI+(mO l).1.head.e))=0:=by
   unfold LA I5 at k6;split at k6
   ·assumption
   ·rename_i hx;exact absurd k6 hx
  have e1:LA l=(qp (mO l).1.aQ ((l.d ((mq l).1.fI+(mO l).1.dz.e)).f ((mq l).1.fI+(mO l).1.head.e)),0):=Vz e0;have hd:0<=(mO l).1.head/\0<=(mO l).1.dz/\(mO l).1.head+8<=(mO l).1.dz:=by
   split at f3<;>split at f5<;>omega
  have e2:((mq l).1.fI+(mO l).1.head:Int).e=(mq l).1.fI+(mO l).1.head.e:=by omega
  rw[e1,e2];have ag:Agr l (l.d ((mq l).1.fI+(mO l).1.dz.e)) 0 ((mq l).1.fI+(mO l).1.dz.e):=fun j _ hj=>by rw[YQ,if_pos hj]
  have a1:=ag.two (k:=(mq l).1.fI+(mO l).1.head.e) (by omega) (by omega);have a2:=ag.two (k:=(mq l).1.fI+(mO l).1.head.e+2) (by omega) (by omega);constructor
  ·rw[<-a1];unfold qp;split<;>simp only[YR,nD]
  ·rw[<-a2];unfold qp;split<;>simp only[YR]
 refine⟨?_,?_,hp⟩
 all_goals
  rw[kp];simp only[dS];unfold mO YJ at k3 ⊢;by_cases ht:(mq l).1.ou=2048
  ·rw[if_pos ht]at k3 ⊢
   have es:=ahr (l:=l.f (mq l).1.fI) k3;have e0:Df (l.f (mq l).1.fI)=0:=by
    simp only at k3;unfold zR at k3;split at k3
    ·assumption
    ·rename_i hx;exact absurd k3 hx
   simp only[es.1];unfold zR;rw[if_pos e0];simp[Qo]
  ·rw[if_neg ht]at k3 ⊢
   have es:=ahq (l:=l.f (mq l).1.fI) k3;simp only[es.1,if_true];simp only at k3;unfold Aq at k3 ⊢;by_cases h1:(l.f (mq l).1.fI).a<40
   ·rw[if_pos h1]at k3;cases k3
   rw[if_neg h1]at k3 ⊢;by_cases h2:nM (l.f (mq l).1.fI) 0/16≠6
   ·rw[if_pos h2]at k3;cases k3
   rw[if_neg h2]at k3 ⊢;by_cases h3:(l.f (mq l).1.fI).a<40+eZ (l.f (mq l).1.fI) 4
   ·rw[if_pos h3]at k3;cases k3
   rw[if_neg h3]at k3 ⊢
   first|rw[(VW 8 _ _ k3).1]|rw[(VW 8 _ _ k3).2]
   simp[sx0]
theorem ahz(l:List UInt8):0<=(vT l).kind/\(vT l).kind<=6:=by
 unfold vT xA
 repeat' split
 all_goals simp
theorem ap5(e:En)(v:Vp)(b:Bk)(t:Tu)(l:List UInt8):(NI e v b t l).1=0\/(NI e v b t l).1=9\/(NI e v b t l).1=10:=by
 unfold NI
 repeat' split
 all_goals simp
theorem Wd(e:En)(s:pY)(l:List UInt8):0<=(Cq e s l).h/\(Cq e s l).h<=10:=by
 have h1:=ahz l;unfold Cq;split
 ·split
  ·split
   ·rename_i i _ _ b xE _
    have:=ap5 e (e.vs.c i oq) b (vT l).J l;split<;>simp only<;>omega
   ·simp
  ·simp
 ·simp only;omega
theorem ahA(v:Vector Int 11)(r:Int)(i:Nat)(hi:i<11):(Oq v r)[i]=if(i:Int)=r then v[i]+1 else v[i]:=by
 unfold Oq;rw[AA];rfl
theorem Ri{e:En}{s:pY}(hc:s.ji[0]=s.no)(a:Ac):(nO e s a).1.ji[0]=(nO e s a).1.no/\(0<=(nO e s a).2.h/\(nO e s a).2.h<=10) /\
 ((nO e s a).2.err≠0->(nO e s a).1=s/\(nO e s a).2={uV with err:=(nO e s a).2.err}) /\
 (a.kind=1->(nO e s a).2.err=0/\(nO e s a).1.ji=Oq s.ji (nO e s a).2.h/\((nO e s a).2.h≠0->(nO e s a).1={s with ji:=Oq s.ji (nO e s a).2.h}/\(nO e s a).2={uV with h:=(nO e s a).2.h})) /\
 (a.kind≠1->(nO e s a).1.ji=s.ji/\(nO e s a).1.no=s.no):=by
 unfold nO;by_cases h1:a.kind=1
 ·rw[if_pos h1]
  have hw:=Wd e s a.frame;unfold BD;by_cases h0:(Cq e s a.frame).h=0
  ·rw[if_pos h0]
   refine⟨?_,by simp,fun h=>absurd rfl h,fun _=>⟨rfl,rfl,fun h=>absurd rfl h⟩,fun h=>absurd h1 h⟩;simp only;rw[ahA _ _ 0 (by omega),if_pos (by simp),hc]
  ·rw[if_neg h0]
   refine⟨?_,hw,fun h=>absurd rfl h,fun _=>⟨rfl,rfl,fun _=>⟨rfl,rfl⟩⟩,fun h=>absurd h1 h⟩;simp only;rw[ahA _ _ 0 (by omega),if_neg (by simp;omega),hc]
 ·rw[if_neg h1]
  have e0:∀n:Int,({uV with err:=n}:Ou).h=0:=fun _=>rfl
  unfold opE NJ NK;by_cases h2:a.kind=2
  ·rw[if_pos h2]
   by_cases h:pU s.kT s.X a.op=0
   ·rw[if_pos h];exact⟨hc,by simp[uV],fun h=>absurd rfl h,fun h=>absurd h h1,fun _=>⟨rfl,rfl⟩⟩
   ·rw[if_neg h];exact⟨hc,by simp[uV],fun _=>⟨rfl,rfl⟩,fun h=>absurd h h1,fun _=>⟨rfl,rfl⟩⟩
  rw[if_neg h2];by_cases h3:a.kind=3
  ·rw[if_pos h3]
   by_cases h:(Iy s.h a.E a.h e.c.kC e.c.X).2.2=0
   ·rw[if_pos h];exact⟨hc,by simp[uV],fun h=>absurd rfl h,fun h=>absurd h h1,fun _=>⟨rfl,rfl⟩⟩
   ·rw[if_neg h];exact⟨hc,by simp[uV],fun _=>⟨rfl,rfl⟩,fun h=>absurd h h1,fun _=>⟨rfl,rfl⟩⟩
  rw[if_neg h3];by_cases h4:a.kind=4
  ·rw[if_pos h4]
   by_cases h:(1099511627776:Int)<=s.fQ
   ·rw[if_pos h];exact⟨hc,by simp[uV],fun _=>⟨rfl,rfl⟩,fun h=>absurd h h1,fun _=>⟨rfl,rfl⟩⟩
   ·rw[if_neg h];exact⟨hc,by simp[uV],fun h=>absurd rfl h,fun h=>absurd h h1,fun _=>⟨rfl,rfl⟩⟩
  rw[if_neg h4];exact⟨hc,by simp[uV],fun _=>⟨rfl,rfl⟩,fun h=>absurd h h1,fun _=>⟨rfl,rfl⟩⟩
theorem amQ{s:pY}{t:Tu}{n:List UInt8}(h:NH s t=some n):∃f,pO s.G t=some f/\f.E=n/\sM s.X n=true/\xq (nX s.h) n=false:=by
 unfold NH at h;split at h
 ·rename_i f hf
  split at h
  ·rename_i hc
   injection h with h
   subst h;simp only[bl,nZ]at hc;exact⟨f,hf,rfl,hc.1,hc.2⟩
  ·cases h
 ·cases h
theorem auF{s:pY}{t:Tu}{f:Fw}(hf:pO s.G t=some f)(h1:sM s.X f.E=true)(h2:xq (nX s.h) f.E=false):NH s t=some f.E:=by
 unfold NH;rw[hf];simp only;rw[h1,h2];rfl
theorem ap6{ls:List (List UInt8)}{rG:List Bk}{key:Vector UInt8 16}{n h:Nat}{m:List UInt8}(hp:lH n=true)(hpk:Gw (uj key n (kW ls rG)) h=some m):∃x∈rG,x.E=m/\x.drain=false/\xq ls m=false:=by
 have h0:∀x∈kW ls rG,0<=x.q:=fun x hx=>by
  unfold kW at hx;obtain⟨y,_,rfl⟩:=iV.1 hx;unfold FL;simp only;split
  ·exact Int.le_refl _
  ·exact Int.natCast_nonneg _
 unfold Gw at hpk;rcases Yo (key:=key) hp h0 with⟨h1,_⟩|⟨h1,h2⟩
 ·rw[h1]at hpk;simp at hpk
 ·have hn:0<n:=by
   rcases eu n with e|e
   ·subst e;rw[h1]at hpk;simp at hpk
   ·exact e
  rw[if_neg (by omega),h1]at hpk;injection hpk with hpk
  obtain⟨i,hi,hs⟩:=h2 (h%n) (fH _ hn);rw[hs,dS,au,aC hi,jB]at hpk;have hm:m∈(uj key n (kW ls rG)).h:=by rw[<-hpk];exact eU hi
  unfold uj at hm;simp only at hm;split at hm
  ·simp at hm
  ·obtain⟨x,hx,rfl⟩:=iV.1 hm
   obtain⟨hx1,hx2⟩:=mh.1 hx;unfold kW at hx1;obtain⟨y,hy,rfl⟩:=iV.1 hx1;refine⟨y,hy,rfl,?_⟩;unfold FL at hx2 ⊢;simp only at hx2 ⊢;cases hd:y.drain<;>cases ho:xq ls y.E<;>rw[hd,ho]at hx2<;>simp at hx2;exact⟨rfl,rfl⟩
theorem nR.srt{M:Int}{e:En}{s:pY}(h:nR M e s):Fp s.X:=(uO.1 h.pl).2.2.2.2
theorem ap7{M:Int}{e:En}{s:pY}(h:nR M e s){t:Tu}{b:Bk}{xE:Bool}(hb:I9 e s t=some (b,xE)):b∈s.X/\xq (nX s.h) b.E=false/\(xE=true->NH s t=some b.E)/\(xE=false->NH s t=none/\Gw (zM e s) (aht e t)=some b.E):=by
 unfold I9 at hb;cases hh:NH s t with
 | some n=>
   rw[hh]at hb;simp only[Option.some.injEq,Prod.mk.injEq]at hb;obtain⟨rfl,rfl⟩:=hb;obtain⟨f,_,_,h1,h2⟩:=amQ hh;obtain⟨g1,g2⟩:=Tf h1;rw[g2];exact⟨g1,h2,fun _=>rfl,fun e=>by cases e⟩
 | none=>
   rw[hh]at hb;simp only at hb;cases hp:Gw (zM e s) (aht e t)with
   | none=>rw[hp]at hb;cases hb
   | some n=>
     rw[hp]at hb;simp only[lV,Option.some.injEq,Prod.mk.injEq]at hb;obtain⟨rfl,rfl⟩:=hb;obtain⟨x,hx,hn,_,ho⟩:=ap6 (rz h.cn).1.2.2 hp;subst hn;rw[alE h.srt hx];exact⟨hx,ho,fun e=>(by cases e),fun _=>⟨rfl,rfl⟩⟩
theorem ahB(l:List UInt8):qF (IZ l)=true:=by
 unfold qF IZ;simp only[Bool.false_or,gJ,beq_iff_eq];intro x hx;obtain⟨j,hj,rfl⟩:=lZ.1 hx;simp only[qd,List.getElem_drop,Vector.getElem_toList,AA];rw[YQ,if_neg (by omega)]
theorem ahC(l:List UInt8):qF (ajc l)=true:=rfl
theorem ayI{l:List UInt8}(h:(vT l).kind=0):Fq (vT l).J=true/\((vT l).J.aQ=6\/(vT l).J.aQ=17):=by
 have F:=NC h;obtain⟨t1,t2,t3,t4⟩:=ajw h;have hs:qF (vT l).J.h=true:=by rw[t1];split;exact ahC _;exact ahB _
 have hd:qF (vT l).J.X=true:=by rw[t2];split;exact ahC _;exact ahB _
 have b1:=ND l (vT l).sV.e;have b2:=ND l ((vT l).sV.e+2);have hp:=F.pro;refine⟨?_,hp⟩;unfold Fq XT;rw[hs,hd];simp only[bl,decide_eq_true_eq];have:=F.fam;refine⟨⟨⟨⟨⟨this,trivial⟩,trivial⟩,?_⟩,?_⟩,?_⟩<;>omega
def amR(c:Cn)(h:Hl)(n:List UInt8):Bool:=(h.E==n)&&(decide (0<=h.I)&&decide (h.I<if h.down then c.kC else c.X))
def Jd(c:Cn)(s:pY)(k:Nat):Bool:=amR c (s.h.c k kS) (s.X.c k jg).E
def YS(l:List Fw)(k:Nat):Bool:=(l.d k).any (tO (l.c k kD).key)
def Sq(s:pY)(k:Nat):Bool:=Dz (s.G.c k kD)&&(decide ((s.G.c k kD).seen<=s.fQ)&&(decide (1<=(s.G.c k kD).no)&&(decide ((s.G.c k kD).no<=s.no)&&(!YS s.G k&&(decide (k=0)||lI (s.G.c (k-1) kD) (s.G.c k kD))))))
def adG(s:pY):Bool:=XT s.fQ 1099511627776&&(XT s.no 1152921504606846976&&s.ji.a.all (XT · 1152921504606846976))
def Wh(c:Cn)(vs:List Vp)(s:pY):Bool:=xX c vs&&(xO s.kT s.X&&(decide (s.h.a=s.X.a)&&decide ((s.G.a:Int)<=c.dU)))
def ze(c:Cn)(vs:List Vp)(s:pY):Bool:=Wh c vs s&&(adG s&&((dP s.h.a).all (Jd c s)&&(dP s.G.a).all (Sq s)))
theorem ajx{α:Type}{lt:α->α->Bool}(hs:Iu lt){l:List α}(h:∀(i:Nat)(hi:i+1<l.a),lt (l[i]'(by omega)) l[i+1]=true):Asc lt l:=by
 unfold Asc;rw[fT];intro i j hi hj hij;obtain⟨d,rfl⟩:∃d,j=i+1+d:=⟨j-i-1,by omega⟩
 induction d with
 | zero=>exact h i hj
 | succ d ih=>exact hs.tr _ _ _ (ih (by omega) (by omega)) (h (i+1+d) hj)
theorem uE{α:Type}{l:List α}{d:α}{k:Nat}(hk:k<l.a):l.c k d=l[k]:=by
 rw[au,aC hk,jB]
theorem ajy{dU:Int}{s:pY}(hl:(s.G.a:Int)<=dU)(h:∀k,k<s.G.a->Sq s k=true):wo dU s.G/\∀f∈s.G,f.seen<=s.fQ/\1<=f.no/\f.no<=s.no:=by
 have H:∀(k:Nat)(hk:k<s.G.a),Dz s.G[k]=true/\(s.G[k].seen<=s.fQ/\1<=s.G[k].no/\s.G[k].no<=s.no)/\YS s.G k=false/\(k=0\/lI (s.G.c (k-1) kD) s.G[k]=true):=fun k hk=>by
  have:=h k hk;unfold Sq at this;rw[uE hk]at this;simp only[bl,decide_eq_true_eq,nZ,nu]at this;exact⟨this.1,⟨this.2.1,this.2.2.1,this.2.2.2.1⟩,this.2.2.2.2.1,this.2.2.2.2.2⟩
 refine⟨⟨ajx tH (fun i hi=>?_),?_,?_,hl⟩,fun f hf=>?_⟩
 ·rcases(H (i+1) hi).2.2.2 with e|e
  ·omega
  ·rw[Nat.add_sub_cancel,uE (by omega)]at e;exact e
 ·rw[fT]
  intro i j hi hj hij e;have h1:=(H j hj).2.2.1;unfold YS at h1;rw[uE hj,qj]at h1;refine h1 s.G[i] ?_ (by simp[tO,e]);rw[rM];exact⟨i,by omega,rfl⟩
 ·intro x hx
  obtain⟨k,hk,rfl⟩:=lZ.1 hx;exact(H k hk).1
 ·obtain⟨k,hk,rfl⟩:=lZ.1 hf
  exact(H k hk).2.1
theorem afY{c:Cn}{vs:List Vp}{s:pY}(key:Vector UInt8 16)(h:ze c vs s=true)(hf:∀x∈s.X,x.pJ):nR 1152921504606846976 ⟨key,c,vs⟩ s:=by
 unfold ze Wh adG XT at h;simp only[bl,decide_eq_true_eq,gJ,eO]at h;obtain⟨⟨h1,h2,h3,h4⟩,⟨h5,h6,h7⟩,h8,h9⟩:=h;obtain⟨f1,f2⟩:=ajy h4 h9;have H:∀(k:Nat)(hk:k<s.h.a),s.h[k].E=(s.X[k]'(by omega)).E/\0<=s.h[k].I/\s.h[k].I<(if s.h[k].down then c.kC else c.X):=fun k hk=>by
  have:=h8 k hk;unfold Jd amR at this;rw[uE hk,uE (by omega)]at this;simpa using this
 refine⟨h1,h2,hf,?_,?_,f1,f2,by omega,by omega,h7⟩
 ·apply List.ext_getElem (by simpa using h3)
  intro i hi1 hi2;simp only[List.getElem_map];exact(H i (by simpa using hi1)).1
 ·intro x hx
  obtain⟨k,hk,rfl⟩:=lZ.1 hx;exact(H k hk).2
theorem nR.right{M:Int}{e:En}{s:pY}(h:nR M e s)(hM:M<=1152921504606846976):ze e.c e.vs s=true:=by
 have hlen:s.h.a=s.X.a:=by have:=congrArg List.length h.nm;simpa using this
 unfold ze Wh adG XT;simp only[bl,decide_eq_true_eq,gJ,eO];refine⟨⟨h.cn,h.pl,hlen,h.fl.len⟩,⟨h.ti,by have:=h.no;omega,fun n hn=>by have:=h.ct n hn;omega⟩,fun k hk=>?_,fun k hk=>?_⟩
 ·unfold Jd amR
  rw[uE hk,uE (show k<s.X.a by omega)];have e1:s.h[k].E=(s.X[k]'(by omega)).E:=by
   have:=List.getElem_of_eq h.nm (i:=k) (by simpa using hk);simpa using this
  have:=h.hl _ (eU hk);simp only[bl,decide_eq_true_eq,beq_iff_eq];exact⟨e1,this⟩
 ·unfold Sq
  rw[uE hk];have h1:=h.fw _ (eU hk);simp only[bl,decide_eq_true_eq,nZ,nu];refine⟨h.fl.Z _ (eU hk),h1.1,h1.2.1,h1.2.2,?_,?_⟩
  ·unfold YS
   rw[uE hk,qj];intro x hx;rw[rM]at hx;obtain⟨i,hi,rfl⟩:=hx;have:=fT.1 h.fl.one i k (by omega) hk (by omega);simpa[tO]using this
  ·rcases eu k with e|e
   ·exact .a e
   ·right
    rw[uE (by omega)];exact fT.1 h.fl.asc (k-1) k (by omega) hk (by omega)
theorem amS{dU:Int}{l:List Fw}{k:Nat}(h:wo dU l)(hk:k<l.a):DF dU (l.d k) (l.c k kD)=l.d (k+1):=by
 rw[uE hk];have hn:pO (l.d k) l[k].key=none:=by
  unfold pO;rw[List.find?_eq_none];intro x hx;rw[rM]at hx;obtain⟨i,hi,rfl⟩:=hx;have:=fT.1 h.one i k (by omega) hk (by omega);simpa[tO]using this
 have hlen:=h.len;unfold DF;rw[if_pos (h.Z _ (eU hk)),hn,if_neg (by simp),if_neg (by rw[bK];omega),acD (fun x hx=>tH.asy ?_),dR hk];rw[rM]at hx;obtain⟨i,hi,rfl⟩:=hx;exact fT.1 h.asc i k (by omega) hk (by omega)
theorem Qv{c:Cn}{vs:List Vp}(key:Vector UInt8 16)(h:xX c vs=true):nR 0 ⟨key,c,vs⟩ uL:=by
 have hr:=(rz h).2.1;refine⟨h,uO.2 ⟨?_,?_,?_,?_,?_⟩,(fun x hx=>by cases hx),rfl,(fun x hx=>by cases hx),.nil ?_,(fun x hx=>by cases hx),?_,?_,fun n hn=>?_⟩
 ·simp[uL]
 ·simp[uL]
 ·simp[uL]
 ·intro x hx;cases hx
 ·exact List.Pairwise.nil
 ·show 0<=c.dU;omega
 ·simp[uL]
 ·simp[uL]
 ·simp[uL]at hn;omega
def zU(z:Int):Bool:=decide (z<0)||decide (1152921504606846976<z)
theorem ajz(z:Int):zU z = !XT z 1152921504606846976:=by
 unfold zU XT;rw[Bool.eq_iff_iff];simp only[nu,decide_eq_true_eq,nZ,Bool.and_eq_false_iff,decide_eq_false_iff_not];omega
theorem abj(z:Int)(w:ak):aP ah 47 #[.b .a z] w fun e w'=>e=.a (.e (zU z))/\w=w':=by
 have HB:=ab (show zU z=(decide (z<0)||decide (1152921504606846976<z))from rfl);go_enter Tryz.func47,Tryz.ntmps47;go_wp2
 all_goals(go_ret;refine⟨?_,rfl⟩;rw[HB.i];simp_all)
theorem adH(args:Array aB)(w:ak):(callFunc 47 args).I ah w = .Z (.enter 47 args) w:=by kernel_rfl
theorem RdI.fI{w:ak}{B n:Nat}{A:Option aT}{l:List Int}(h:RdI w B A n l){k:Nat}(hk:k<n):∃b o,A=some ⟨b,o,none⟩/\w.b ⟨b,o+k,none⟩=some (.b .a (l.c k 0)):=by
 obtain⟨b,o,hA,hb,hc⟩:=iJ.cell (f:=FP) (s:=1) (fun _=>rfl) 0 h hk;refine⟨b,o,hA,?_⟩;have:=hc 0 (by omega);rw[gH,nD]at this;exact this
theorem auG(A:Option aT)(n c B:Nat)(w:ak)(l:List Int)(hc:n<=1000000000)(hr:RdI w B A n l):
 aP ah 114 #[.a A n c,.func (.func 47) #[] #[]] w fun e w'=>∃r:Int,e=.a (.b .a r)/\(decide (0<=r)=l.any zU)/\w=w':=by
 have hen:=adH;have GG:=ab abj;have HR:=ab hr;have hl:=ab hr.len;clear hr;go_enter Tryz.func114,Tryz.ntmps114;go_wp2;go_loop [8] (fun s8=>∃i:Nat,i<=n/\s8=.b .a i/\∀j,j<i->zU (l.c j 0)=false) (fun s8=>n-(intOf s8).e)
 case atStart=>exact⟨0,by omega,rfl,fun j h1=>by omega⟩
 case round=>
  obtain⟨i,hi,rfl,hall⟩:=hrel;have HA:=ab hall;clear hall;by_cases hlt:i<n
  ·have hin:(i:Int)<n:=by omega
   obtain⟨b,o,rfl,hcell⟩:=HR.i.fI hlt;have HG:=ab (uE (l:=l) (d:=0) (k:=i) (by rw[hl.i];exact hlt));obtain⟨m,hm⟩:=cB (l.c i 0);rw[<-hm]at hcell;have HM:=ab hm;clear hm;obtain⟨k,hk⟩:=tN (zU m);have HK:=ab hk;have G1:=ab (fun w=>GG.i m w);rw[hk]at G1;clear hk;cases k
   ·go_wp2_with (refine(G1.i _).g ?_;rintro e w' ⟨rfl,rfl⟩)
    go_round
    case rel=>exact⟨i+1,by omega,by go_num,fun j h1=>by
     by_cases hji:j=i
     ·rw[hji,<-HM.i];exact HK.i
     ·exact HA.i j (by omega)⟩
    case measure=>simp[intOf]<;>omega
   ·have Fh:=ab (show l.any zU=true from List.any_eq_true.2 ⟨m,by rw[HM.i,HG.i];exact eU _,HK.i⟩)
    go_wp2_with (refine(G1.i _).g ?_;rintro e w' ⟨rfl,rfl⟩);go_ret;exact⟨_,rfl,by rw[Fh.i];simp,rfl⟩
  ·obtain rfl:i=n:=by omega
   have HS:=ab (show l.any zU=false from qj.2 (fun x hx=>by
    obtain⟨j,hj,rfl⟩:=lZ.1 hx;have:=HA.i j (by rw[hl.i]at hj;exact hj);rw[uE hj]at this;simp[this]))
   go_wp2;go_ret;exact⟨_,rfl,by rw[HS.i];simp,rfl⟩
theorem auH(A:Option aT)(n c B:Nat)(w:ak)(l:List Int)(hc:n<=1000000000)(hr:RdI w B A n l):
 aP ah 46 #[.a A n c,.func (.func 47) #[] #[]] w fun e w'=>e=.a (.e (l.any zU))/\w=w':=by
 have I:=ab (auG A n c B w l hc hr);clear hr;go_enter Tryz.func46,Tryz.ntmps46;go_wp2_with (go_at_call 114;refine I.i.g ?_;rintro e w' ⟨r,rfl,hr,rfl⟩);go_ret;exact⟨by simp,rfl⟩
theorem ap8(v:Vector Int 11):(v.a.any zU) = !v.a.all (XT · 1152921504606846976):=by
 rw[List.not_all_eq_any_not];congr 1;funext z;exact ajz z
structure Sl where
 acz:Bool
 qU:Fw
def Sl.ay(x:Sl):Array aB:=#[.e x.acz]++x.qU.ay
theorem Sl.G(x:Sl):x.ay.j=42:=by simp[Sl.ay,Fw.G]
theorem Sl.cO(x:Sl):x.ay.all (·.h)=true:=gW ((by simp[cZ])) (Fw.cO _)
@[go_sem]theorem Sl.dY(x:Sl):dY x.ay=42:=Sl.G x
@[go_sem]theorem Sl.all(x:Sl):x.ay.m 0 42=x.ay:=by have:=Sl.G x;rw[<-this];simp
@[go_sem]theorem Sl.NM(x:Sl):x.ay[0]? = some (.e x.acz):=by simp[Sl.ay,aD,Fw.G]
@[go_sem]theorem Sl.TP(x:Sl):x.ay.m 1 42=x.qU.ay:=by simp[Sl.ay,dA,Fw.G,pW,tQ]
def Gd:Sl:=⟨false,kD⟩
@[go_sem]theorem ayJ:bY #[bM false,bM false,aA,aA,aA,aA,aA,aA,aA,aA,aA,aA,aA,aA,aA,aA,aA,aA,bM false,aA,aA,aA,aA,aA,aA,aA,aA,aA,aA,aA,aA,aA,aA,aA,aA,bf,bf,bf,iB {data:=#[]},bf,bf,bf]=bY Gd.ay:=rfl
@[go_sem]theorem auI:eB #[bM false,bM false,aA,aA,aA,aA,aA,aA,aA,aA,aA,aA,aA,aA,aA,aA,aA,aA,bM false,aA,aA,aA,aA,aA,aA,aA,aA,aA,aA,aA,aA,aA,aA,aA,aA,bf,bf,bf,iB {data:=#[]},bf,bf,bf] 213=eB Gd.ay 213:=rfl
theorem kSl:oO 213 42 Gd.ay:=⟨⟨_,uf,rfl⟩,by kernel_rfl,by kernel_rfl,Sl.G _⟩
@[go_sem ↓]theorem aJB(v:aB):bZ 213 v=xI 213 v:=rfl
@[go_sem ↓]theorem aJC(v x:aB):eD 213 v x=yU 213 v x:=rfl
@[go_sem]theorem aGH(W:ak)(b o:Nat)(h:vw W b o 42):(xI 213 (.c (some ⟨b,o,none⟩))).I ah W = .Z (.d (dM W b o 42)) W:=kSl.ld W b o h
@[go_sem]theorem aDx(W:ak)(c:Array aB)(x:Sl)(b:Nat)(hb:b=W.a.j)(hc:dY c=42):(yU 213 (.c (some ⟨b,0,none⟩)) (.d x.ay)).I ah (W.alloc (.D c 213)) = .Z () (W.alloc (.D x.ay 213)):=kSl.stN W c x.ay b hb hc (Sl.G x) (Sl.cO x)
@[go_sem]theorem aGI(W:ak)(b o:Nat)(x:Sl)(h:W.M b o 42):(yU 213 (.c (some ⟨b,o,none⟩)) (.d x.ay)).I ah W = .Z () (gT W b o x.ay):=kSl.st W b o x.ay h (Sl.G x) (Sl.cO x)
@[go_sem ↓]theorem aJD(ps:Array (Nat×aB)):fM 213 ps=uH 213 ps:=rfl
theorem ayK(w:ak)(fs:Array nS)(h:ah.k 213=some (.struct fs)):(iy (fun f=>Prod.mk f.Y <$> sizeOf f.type) fs:Sem (Array (Nat×Nat))).I ah w = .Z #[(0,1),(1,41)] w:=by
 have e:=uf;rw[h]at e;cases e;show _=_
 kernel_rfl
@[go_sem]theorem aDy(W:ak):(uH 213 #[]).I ah W = .Z (.d Gd.ay) W:=kSl.bd0 W _ uf ⟨_,ayK W _ uf⟩
@[go_sem]theorem ayL(W:ak)(acz:Bool)(qU:Fw):(uH 213 #[(0,.e acz),(1,.d (qU.ay))]).I ah W = .Z (.d (Sl.mk acz qU).ay) W:=kSl.bd W _ _ _ _ uf (ayK W _ uf) (by
 refine uQ (Sl.G _) ?_ ?_
 ·simp[rF,cK,Fw.G]
 ·simp[qP,cK,Sl.ay]<;>(simp only[<-Array.append_assoc];rfl))
structure Tk where
 key:Vector UInt8 16
 dU:Int
 count:Int
 qM:Option aT
 pX:Nat
 yc:Nat
def Tk.ay(x:Tk):Array aB:=jd x.key ++ #[.b .a x.dU,.b .a x.count,.a x.qM x.pX x.yc]
theorem Tk.G(x:Tk):x.ay.j=19:=by simp[Tk.ay,dL]
@[go_sem]theorem Tk.abk(x:Tk):x.ay.m 0 16=jd x.key:=by simp[Tk.ay,dA,dL,pW,tQ]
@[go_sem]theorem Tk.Ng(x:Tk):x.ay[16]? = some (.b .a x.dU):=by simp[Tk.ay,aD,dL]
@[go_sem]theorem Tk.adI(x:Tk):x.ay[17]? = some (.b .a x.count):=by simp[Tk.ay,aD,dL]
@[go_sem]theorem Tk.yg(x:Tk):x.ay[18]? = some (.a x.qM x.pX x.yc):=by simp[Tk.ay,aD,dL]
theorem Tk.Qw(x:Tk)(v:Int):x.ay.b 17 (.b .a v)=({x with count:=v}:Tk).ay:=by simp[Tk.ay,aM,dL]
def ajA:Tk:=⟨(bG 16 0),0,0,none,0,0⟩
@[go_sem]theorem ayM:bY #[aA,aA,aA,aA,aA,aA,aA,aA,aA,aA,aA,aA,aA,aA,aA,aA,bf,bf,bD none 0 0]=bY ajA.ay:=rfl
@[go_sem]theorem auJ:eB #[aA,aA,aA,aA,aA,aA,aA,aA,aA,aA,aA,aA,aA,aA,aA,aA,bf,bf,bD none 0 0] 207=eB ajA.ay 207:=rfl
theorem kTk:oO 207 19 ajA.ay:=⟨⟨_,Dr,rfl⟩,by kernel_rfl,by kernel_rfl,Tk.G _⟩
@[go_sem ↓]theorem aJF(v:aB):bZ 207 v=xI 207 v:=rfl
@[go_sem ↓]theorem aJG(v x:aB):eD 207 v x=yU 207 v x:=rfl
@[go_sem ↓]theorem aJH(ps:Array (Nat×aB)):fM 207 ps=uH 207 ps:=rfl
theorem aDz(w:ak)(fs:Array nS)(h:ah.k 207=some (.struct fs)):(iy (fun f=>Prod.mk f.Y <$> sizeOf f.type) fs:Sem (Array (Nat×Nat))).I ah w = .Z #[(0,16),(16,1),(17,1),(18,1)] w:=by
 have e:=Dr;rw[h]at e;cases e;show _=_
 kernel_rfl
def vV:Option Fw->Sl
 | none=>Gd
 | some f=>⟨true,f⟩
theorem Je(o:Option Fw):(vV o).acz=o.isSome:=by cases o<;>rfl
def slC(o:Option Fw):Array aB:=(vV o).ay
theorem Ez(o:Option Fw):(slC o).j=42:=Sl.G _
section
attribute [local go_sem high] iY jH
theorem xC(w:ak):∃(T:Type)(f:T->ak)(n0:T),f n0=w.drew/\(∀n,aL w.a.j w (f n))/\(∀W,aL w.a.j w W->∃n,W=f n):=Ec (aL w.a.j w) w (aG _ _).drew
theorem adJ(n:Nat)(z:Int)(hz:z=n)(hn:n<=4)(p:Nat)(s:S4)(hs:s.Z)(W:ak)(hb:dK W p s.ay):aP ah 183 #[.c (some ⟨p,0,none⟩),.b .a z] W fun e W'=>e=.a (.J #[])/\dK W' p (zC J9 n s).ay/\W.d W' (some p):=by subst hz;exact aeW n hn p s hs W hb
theorem adK(p:Nat)(s:S4)(n:Nat)(hs:s.Z)(hn:n<18446744073709551616)(W:ak)(hb:dK W p s.ay):aP ah 182 #[.c (some ⟨p,0,none⟩),.b .c n] W fun e W'=>e=.a (.J #[])/\dK W' p (UF s n).ay/\W.d W' (some p):=by
 obtain⟨a,b,c,d⟩:=s;have HS:=ab hs;obtain⟨y1,y2,y3,y4,y5⟩:=hb.num;simp only[S4.Z]at hs y1 y2 y3 y4;have e1:=pK d n hs.2.2.2 hn;have OK1:=ab (agZ HS.i hn);have X1:=ab (hb.p3 (d ^^^ n));have G1:=ab (xK (agY W (some p)) (p:=⟨p,3,none⟩) (.a rfl) (.b .c (d ^^^ n:Nat)));have OK2:=ab (Mw 2 _ OK1.i);have C:=ab (adJ 2 2 rfl (by omega) p (ald ⟨a,b,c,d⟩ n) OK1.i _ X1.i);have HW:=ab (show UF ⟨a,b,c,d⟩ n=asY (zC J9 2 (ald ⟨a,b,c,d⟩ n)) n from rfl);obtain⟨t,ht⟩:=cB (zC J9 2 (ald ⟨a,b,c,d⟩ n));rw[<-ht]at OK2 C HW;have HN:=ab hn;obtain⟨ta,tb,tc,td⟩:=t;have e2:=pK ta n OK2.i.1 hn;clear ht hs hb hn;rw[HW.i];go_enter Tryz.func182,Tryz.ntmps182;go_wp2_with (go_at_call 183;go_loud (with_reducible refine C.i.g ?_);rintro e w2 ⟨rfl,hb2,hg2⟩;obtain⟨z1,z2,z3,z4,z5⟩:=hb2.num;have zz:=z5 0;have X2:=ab hb2;have G2:=ab hg2;clear hb2 hg2);go_end0;exact⟨rfl,X2.i.p0 _,xK (Mc G1.i G2.i) (p:=⟨p,0,none⟩) (.a rfl) _⟩
theorem amT{W:ak}{q:Nat}{k:Vector UInt8 16}(h:dK W q (jd k))(o m:Nat)(ho:o+m<=16):fU W W.a.j (some ⟨q,o,none⟩) m ((k.a.f o).d m):=by
 refine⟨by simp;omega,fun _=>⟨_,rfl,h.lt,fun j u hu=>?_⟩⟩;have hj:j<m:=by
  rcases aY j m with hj|hj
  ·exact hj
  ·rw[aS (by simp;omega)]at hu;cases hu
 rw[iC,h.K.1,<-hu];simp[jd,jq,hj,jo]
theorem kS4:oO 280 4 (S4.mk 0 0 0 0).ay:=⟨⟨_,Dt,rfl⟩,by kernel_rfl,by kernel_rfl,rfl⟩
@[go_sem ↓]theorem aJJ(ps:Array (Nat×aB)):fM 280 ps=uH 280 ps:=rfl
theorem aDA(w:ak)(fs:Array nS)(h:ah.k 280=some (.struct fs)):(iy (fun f=>Prod.mk f.Y <$> sizeOf f.type) fs:Sem (Array (Nat×Nat))).I ah w = .Z #[(0,1),(1,1),(2,1),(3,1)] w:=by
 have e:=Dt;rw[h]at e;cases e;show _=_
 kernel_rfl
@[go_sem]theorem ayN(W:ak)(a b c d:Nat):(uH 280 #[(0,.b .c a),(1,.b .c b),(2,.b .c c),(3,.b .c d)]).I ah W = .Z (.d (S4.mk a b c d).ay) W:=kS4.bd W _ _ _ _ Dt (aDA W _ Dt) (by
 refine uQ rfl ?_ ?_
 ·simp[rF,cK,S4.ay]
 ·simp[qP,cK,S4.ay])
theorem adL(x y:Nat)(hx:x<256)(hy:y<72057594037927936):bits .or .c ((x*72057594037927936:Nat):Int) (y:Int)=((y+x*72057594037927936:Nat):Int):=by
 rw[bits_or_u64_nat _ _ (by omega) (by omega)];congr 1;have h:=Nat.two_pow_add_eq_or_of_lt (i:=56) (b:=y) (by simpa using hy) x;rw[show(2:Nat)^56=72057594037927936 by decide,Cw]at h;omega
theorem auK{W:ak}{q:Nat}{k:Vector UInt8 16}(h:dK W q (jd k)):aP ah 180 #[.a (some ⟨q,0,none⟩) 8 16,.e false] W (gD W (.b .c (leN (k.a.d 8)))):=by
 have:=Lg _ 8 16 _ W (by omega) (by omega) (amT h 0 8 (by omega));rw[kY,vL]at this;exact this
theorem auL{W:ak}{q:Nat}{k:Vector UInt8 16}(h:dK W q (jd k)):aP ah 180 #[.a (some ⟨q,8,none⟩) 8 8,.e false] W (gD W (.b .c (leN (k.a.f 8)))):=by
 have:=Lg _ 8 8 _ W (by omega) (by omega) (amT h 8 8 (by omega));rw[vL]at this;have e:(k.a.f 8).d 8=k.a.f 8:=aK (by simp);rw[show min 8 8=8 from rfl,e]at this;exact this
theorem MZ.go{W W':ak}{l:List Xr}{bss:List (List UInt8)}(h:MZ W W.a.j l bss)(hb:aL W.a.j W W'):MZ W' W'.a.j l bss:=⟨h.1,fun i hi=>((h.2 i hi).O hb).lF hb.j⟩
theorem ajB(l:List Xr)(bss:List (List UInt8))(A:Option aT)(n c:Nat)(w:ak)(hR:RdS w w.a.j A n l)(hH:MZ w w.a.j l bss)(hn:n<=1000)(hs:yC l<=1000000000)(bs:List UInt8)(m:Nat)(hbs:bss.flatten=bs)(hm:bs.a=m):
 aP ah 181 #[.a A n c] w fun e w'=>∃A1 c1,e=.a (.a A1 m c1)/\(m<=c1/\c1<=maxLen)/\fU w' w'.a.j A1 m bs/\(∀a,A1=some a->w.a.j<=a.block)/\aL w.a.j w w':=by
 subst hbs hm;refine(Li l bss A n c w hR hH hn hs).g ?_;rintro e w' ⟨v,rfl,ho,hb⟩;obtain⟨A1,c1,rfl,h1,h2⟩:=jE ho;exact⟨A1,c1,rfl,⟨h1,h2⟩,fU.iQ ho,fun a ha=>(ho.lt a.block (by rw[ha];rfl)).1,hb⟩
def Xw(s:S4)(l:List UInt8)(e:Nat):Nat:=alf ((Pg (l.a/8) l e).foldl UF s)
theorem ajC(s:S4)(l:List UInt8)(e:Nat)(h:8<=l.a):Xw s l e=Xw (UF s (leN (l.d 8))) (l.f 8) e:=by
 unfold Xw;rw[show l.a/8=(l.f 8).a/8+1 by rw[jD];omega,Pg,jW]
theorem ajD(s:S4)(l:List UInt8)(e:Nat)(h:l.a<8):Xw s l e=alf (UF s (leN l+e*72057594037927936)):=by
 unfold Xw;rw[show l.a/8=0 by omega];rfl
theorem YT(key:Vector UInt8 16)(l:List Xr)(bss:List (List UInt8))(A:Option aT)(n c:Nat)(w:ak)(hR:RdS w w.a.j A n l)(hH:MZ w w.a.j l bss)(hn:n<=1000)(hs:yC l<=100000000)(bs:List UInt8)(hbs:bss.flatten=bs)(hl:bs.a<=100000000):
 aP ah 97 #[.d (jd key),.a A n c] w (gD w (.b .c (xQ key bs))):=by
 obtain⟨m,hm⟩:=tN bs.a;have HM:=ab hm;have HBS:=ab hbs;have HT:=ab (show xQ key bs=Xw (aoS key) bs (bs.a%256)from rfl);rw[hm]at hl HT;clear hm hbs;have HR:=ab hR;have HH:=ab hH;have Z0:=ab ((Bx.start w).new (jd key) 22);clear hR hH;go_enter Tryz.func97,Tryz.ntmps97;go_upto_region 1 with fail
 generalize w.alloc (.D (jd key) 22)=w1 at Z0 ⊢;obtain⟨k0,hk0⟩:∃k,k=leN (key.a.d 8):=⟨_,rfl⟩
 obtain⟨k1,hk1⟩:∃k,k=leN (key.a.f 8):=⟨_,rfl⟩
 have HS:=ab (show aoS key=⟨k0 ^^^ 8317987319222330741,k1 ^^^ 7237128888997146477,k0 ^^^ 7816392313619706465,k1 ^^^ 8387220255154660723⟩by rw[hk0,hk1];rfl);have b0:k0<18446744073709551616:=by rw[hk0];exact JI _ (by simp)
 have b1:k1<18446744073709551616:=by rw[hk1];exact JI _ (by simp)
 have JA:=ab (ag0 key);obtain⟨T,f,n0,E0,es,ew⟩:=xC (w1);have hT:Nonempty T:=⟨n0⟩
 have ES:=ab es;have EW:=ab ew;have C0:=ab (fun m=>auK (Z0.i.go (es m)).S);have C1:=ab (fun m=>auL (Z0.i.go (es m)).S);rw[<-hk0]at C0;rw[<-hk1]at C1;clear es ew;refine nL f (by kernel_rfl) (by kernel_rfl) n0 E0 ?_
 repeat(go_big_quiet_step ((first|(go_at_call 180;(with_reducible refine(C0.i _).g ?_);rintro e w2 ⟨rfl,hb⟩;exact⟨rfl,EW.i _ ((ES.i _).trans (hb.g (ES.i _).j))⟩)|(go_at_call 180;(with_reducible refine(C1.i _).g ?_);rintro e w2 ⟨rfl,hb⟩;exact⟨rfl,EW.i _ ((ES.i _).trans (hb.g (ES.i _).j))⟩))))
 refine gK ?_;rintro _ ⟨m',rfl⟩;have HB:=ab (ES.i m');generalize f m'=wN at *;clear ES EW E0 hT n0;have Z1:=ab (Z0.i.go HB.i);clear HB C0 C1 hk0 hk1 Z0;have x0:bits .xor .c (k0:Int) 8317987319222330741=((k0 ^^^ 8317987319222330741:Nat):Int):=pK k0 8317987319222330741 b0 (by decide);have x1:bits .xor .c (k1:Int) 7237128888997146477=((k1 ^^^ 7237128888997146477:Nat):Int):=pK k1 7237128888997146477 b1 (by decide);have x2:bits .xor .c (k0:Int) 7816392313619706465=((k0 ^^^ 7816392313619706465:Nat):Int):=pK k0 7816392313619706465 b0 (by decide);have x3:bits .xor .c (k1:Int) 8387220255154660723=((k1 ^^^ 8387220255154660723:Nat):Int):=pK k1 8387220255154660723 b1 (by decide);obtain⟨S,hS⟩:=cB (S4.mk (k0 ^^^ 8317987319222330741) (k1 ^^^ 7237128888997146477) (k0 ^^^ 7816392313619706465) (k1 ^^^ 8387220255154660723));go_upto_region 3 with fail
 rw[<-hS]at HS ⊢;rw[HS.i]at JA;have Z2:=ab (Z1.i.new S.ay 280);have HPW:=ab Z1.i.R.j;clear hS x0 x1 x2 x3 b0 b1;generalize wN.alloc (.D S.ay 280)=w3 at Z2 ⊢;generalize wN.a.j=p at *;have HP3:=ab Z2.i.S.lt;have CC:=ab (ajB l bss A n c w3 (Z2.i.rdR HR.i) (HH.i.go Z2.i.R) hn (by omega) bs m HBS.i HM.i);go_upto_region 4 with(go_at_call 181;(with_reducible refine CC.i.g ?_);rintro e w4 ⟨A1,c1,rfl,hc1,hrd,hbk,hb⟩;have RD:=ab hrd;have HC1:=ab hc1;have HBK:=ab hbk;have Z4:=ab (Z2.i.go hb);clear hrd hb hc1 hbk)
 clear CC Z2;have v1:jy.wrap (m:Int)=m:=by rw[jU];omega
 have v2:jy.wrap ((m:Int)*72057594037927936)=((m%256*72057594037927936:Nat):Int):=by rw[jU];omega
 obtain⟨e8,he8⟩:∃e,e=m%256:=⟨_,rfl⟩
 rw[<-he8]at v2 HT;have he9:e8<256:=by omega
 rw[HS.i]at HT;obtain⟨eN,heN⟩:∃e,e=e8*72057594037927936:=⟨_,rfl⟩
 rw[<-heN]at v2;have HEN:=ab heN;clear he8 heN;go_wp2;go_loopw [8] (fun s8 wr=>∃(A':Option aT)(m' c':Nat)(s:S4)(l':List UInt8),s8=.a A' m' c'/\(m'<=c'/\c'<=maxLen/\m'<=m)/\s.Z/\dK wr p s.ay/\fU wr wr.a.j A' m' l'/\(∀a,A'=some a->a.block≠p)/\Xw S bs e8=Xw s l' e8/\aL w.a.j w wr) (fun s8 _=>arC s8)
 case atStart=>exact⟨A1,m,c1,S,bs,rfl,⟨HC1.i.1,HC1.i.2,av _⟩,JA.i,Z4.i.S,RD.i,fun a ha=>by have:=HBK.i a ha;have:=HP3.i;omega,rfl,Z4.i.R⟩
 case round=>
  obtain⟨A',m',c',s,l',rfl,⟨hmc,hcc,hmm⟩,hok,hbx,hrd,hne,hst,hbl⟩:=hrel;have ap9:=ab hok;have HBX:=ab hbx;have HRD:=ab hrd;have HNE:=ab hne;have HST:=ab hst;have Gb:=ab hbl;have LX:=ab hrd.len;have C1:=ab (Lg A' m' c' l' wr hmc (by unfold maxLen at hcc;omega) hrd);clear hok hbx hrd hne hst hbl;by_cases h8:8<=m'
  ·have h8i:(8:Int)<=m':=by omega
   obtain⟨x,hx⟩:=cB (leN (l'.d 8));have HXL:=ab (show x<18446744073709551616 by rw[hx];exact JI _ (by simp;omega));have HX:=ab hx;rw[<-hx]at C1;clear hx;go_wp2_with (first|(go_at_call 180;(with_reducible refine C1.i.g ?_);rintro e w5 ⟨rfl,hb⟩;have C2:=ab (adK p s x ap9.i HXL.i w5 (HBX.i.go hb));have R5:=ab (HRD.i.upon hb);have L5:=ab (Gb.i.trans (hb.g Gb.i.j));clear hb)|(go_at_call 182;go_loud (with_reducible refine C2.i.g ?_);rintro e w6 ⟨rfl,hb6,hg6⟩;have B6:=ab hb6;have R6:=ab ((fU.atd (w:=w5) R5.i hg6 (fun a ha e=>HNE.i a ha (Option.some.inj e))).lF hg6.j);have L6:=ab (sj L5.i hg6 HPW.i L5.i.j);clear hb6 hg6));go_roundw
   case rel=>exact⟨_,_,_,UF s x,l'.f 8,rfl,⟨by omega,by omega,by omega⟩,aal ap9.i HXL.i,B6.i,R6.i.yD h8 hmc,fun a ha=>by
    unfold vF at ha;split at ha
    ·exact HNE.i a ha
    ·cases hA:A' with
     | none=>rw[hA]at ha;cases ha
     | some a0=>rw[hA]at ha;injection ha with ha;rw[<-ha];exact HNE.i a0 hA,by rw[HST.i,ajC _ _ _ (by rw[LX.i];exact h8),HX.i],L6.i⟩
   case measure=>simp[arC];omega
  ·have h8i:¬(8:Int)<=m':=by omega
   obtain⟨y,hy⟩:=cB (leN l');have hy2:l'.d 8=l':=aK (by rw[LX.i];omega);have hy3:y<72057594037927936:=by
    have h1:=aeX l';have h2:256^l'.a<=256^7:=Nat.pow_le_pow_right (by omega) (by rw[LX.i];omega);omega
   rw[hy2,<-hy]at C1;have HF:=ab (show Xw S bs e8=alf (UF s (y+e8*72057594037927936))by rw[HST.i,ajD _ _ _ (by rw[LX.i];omega),<-hy]);have o1:=adL e8 y he9 hy3;rw[<-HEN.i]at o1 HF;obtain⟨z,hz⟩:=cB (y+eN);have HZL:=ab (show z<18446744073709551616 by have:=HEN.i;omega);rw[<-hz]at o1 HF;obtain⟨t,ht⟩:=cB (UF s z);have HTK:=ab (show t.Z by rw[ht];exact aal ap9.i HZL.i);have HT2:=ab ht;rw[<-ht]at HF;obtain⟨u,hu⟩:=cB (zC J9 4 (ale t 255));have HUK:=ab (show u.Z by rw[hu];exact Mw 4 _ (aak HTK.i (by decide)));have HU:=ab hu;have HFU:=ab (show Xw S bs e8=asZ u by rw[HF.i,hu];rfl);have x2:bits .xor .c (t.c:Int) 255=((t.c ^^^ 255:Nat):Int):=pK t.c 255 HTK.i.2.2.1 (by decide);clear hy hy2 hz ht hu hy3;go_upto_region 9 with(first|(go_at_call 180;(with_reducible refine C1.i.g ?_);rintro e w5 ⟨rfl,hb⟩;have C2:=ab (HT2.i ▸ adK p s z ap9.i HZL.i w5 (HBX.i.go hb));have L5:=ab (Gb.i.trans (hb.g Gb.i.j));clear hb)|(go_at_call 182;(with_reducible refine C2.i.g ?_);rintro e w6 ⟨rfl,hb6,hg6⟩;have B6:=ab hb6;have L6:=ab (sj L5.i hg6 HPW.i L5.i.j);clear hb6 hg6))
   obtain⟨y1,y2,y3,y4,y5⟩:=B6.i.num;have f2:=y5 2;have X9:=ab (show dK (w6.F ⟨p,2,none⟩ (.b .c (t.c ^^^ 255:Nat))) p (ale t 255).ay from B6.i.p2 (t.c ^^^ 255));have L9:=ab (L6.i.F (p:=⟨p,2,none⟩) HPW.i (.b .c (t.c ^^^ 255:Nat)));go_upto_region 10 with fail
   clear y1 y2 y3 y4 y5 f2 x2 o1 B6 L6;generalize w6.F ⟨p,2,none⟩ (.b .c (t.c ^^^ 255:Nat))=w7 at X9 L9 ⊢;have C4:=ab (HU.i ▸ adJ 4 4 rfl (by omega) p (ale t 255) (aak HTK.i (by decide)) w7 X9.i);go_upto_region 11 with(go_at_call 183;go_loud (with_reducible refine C4.i.g ?_);rintro e w8 ⟨rfl,XJ,hg8⟩;have B8:=ab XJ;have L8:=ab (sj L9.i hg8 HPW.i L9.i.j);clear XJ hg8)
   obtain⟨u1,u2,u3,u4⟩:=u;obtain⟨y1,y2,y3,y4,y5⟩:=B8.i.num;simp only at y1 y2 y3 y4;have o2:=pK u1 u2 HUK.i.1 HUK.i.2.1;have o3:=pK (u1 ^^^ u2) u3 (xP _ _ HUK.i.1 HUK.i.2.1) HUK.i.2.2.1;have o4:=pK (u1 ^^^ u2 ^^^ u3) u4 (xP _ _ (xP _ _ HUK.i.1 HUK.i.2.1) HUK.i.2.2.1) HUK.i.2.2.2;go_quiet (fail);have L10:=ab (eH L8.i nq);go_wp2;go_ret;refine⟨?_,L10.i⟩;rw[HT.i,HFU.i];rfl
end
section
def Wi(s:List (Option Fw)):Array aB:=(s.h fun o=>(slC o).a).b
theorem Wj(o:Option Fw)(s:List (Option Fw)):Wi (o::s)=slC o++Wi s:=by
 simp[Wi,iM]
theorem uX(s:List (Option Fw)):(Wi s).j=s.a*42:=by
 induction s with
 | nil=>rfl
 | cons o s ih=>rw[Wj,nV,ih,Ez,bC];omega
theorem JV:∀(s:List (Option Fw))(i j:Nat),i<s.a->j<42->(Wi s)[i*42+j]? = (slC (fI s i))[j]?
 | [],i,j,hi,_=>by simp at hi
 | o::s,0,j,_,hj=>by
   rw[Wj,Nat.zero_mul,bB,aD,if_pos (by rw[Ez];exact hj)];rfl
 | o::s,i+1,j,hi,hj=>by
   rw[Wj,aD,if_neg (by rw[Ez];omega),Ez,show(i+1)*42+j-42=i*42+j by omega];exact JV s i j (by simpa using hi) hj
theorem Qx(s:List (Option Fw))(i k m:Nat)(hi:i<s.a)(hm:k+m<=42)(c:Array aB)(hc:(slC (fI s i)).m k (k+m)=c):(Wi s).m (i*42+k) (i*42+k+m)=c:=by
 rw[<-hc];have h1:=uX s;have h2:=Ez (fI s i);have h3:(i+1)*42<=s.a*42:=dw 42 hi;apply dZ;intro j;rw[dx,dx];by_cases hj:j<m
 ·rw[if_pos (by omega),if_pos (by omega),mZ,JV s i (k+j) hi (by omega)]
 ·rw[if_neg (by omega),if_neg (by omega)]
theorem amU(s:List (Option Fw))(i:Nat)(hi:i<s.a):(Wi s).m (i*42) (i*42+42)=(vV (fI s i)).ay:=Qx s i 0 42 hi (by omega) _ (Sl.all _)
theorem amV(s:List (Option Fw))(i:Nat)(hi:i<s.a):(Wi s).m (i*42+1) (i*42+1+41)=(vV (fI s i)).qU.ay:=Qx s i 1 41 hi (by omega) _ (Sl.TP _)
theorem aqb(s:List (Option Fw))(i:Nat)(hi:i<s.a):(Wi s).m (i*42+1) (i*42+1+37)=(vV (fI s i)).qU.key.ay:=by
 refine Qx s i 1 37 hi (by omega) _ ?_;show(Sl.ay _).m 1 38=_;simp[Sl.ay,Fw.ay,dA,Tu.G,pW (Tu.G _),tQ]
theorem amW(s:List (Option Fw))(i:Nat)(hi:i<s.a):(Wi s)[i*42]? = some (.e (fI s i).isSome):=by
 have:=JV s i 0 hi (by omega);rw[nD]at this;rw[this];show(vV (fI s i)).ay[0]? = _;rw[Sl.NM,Je]
theorem TQ(s:List (Option Fw))(i:Nat)(o:Option Fw)(hi:i<s.a):sw (Wi s) (i*42) (slC o)=Wi (s.set i o):=by
 apply dZ;intro j;rw[DX,uX,Ez];have h3:(i+1)*42<=s.a*42:=dw 42 hi;by_cases hj:j<s.a*42
 ·have e:j=j/42*42+j%42:=by omega
  have hq:j/42<s.a:=by omega
  have h4:(Wi (s.set i o))[j]? = (slC (fI (s.set i o) (j/42)))[j%42]?:=by
   conv=>lhs;rw[e]
   exact JV _ _ _ (by simpa using hq) (by omega)
  have h5:(Wi s)[j]? = (slC (fI s (j/42)))[j%42]?:=by
   conv=>lhs;rw[e]
   exact JV _ _ _ hq (by omega)
  rw[h4,h5,Fy _ _ _ _ hi];by_cases hc:i*42<=j/\j<i*42+42
  ·rw[if_pos ⟨hc.1,hc.2,hj⟩,if_pos (by omega)]
   congr 1;omega
  ·rw[if_neg (by omega),if_neg (by omega)]
 ·rw[if_neg (by omega),aU (by rw[uX];omega),aU (by rw[uX];simp;omega)]
structure ET(W:ak)(q g:Nat)(key:Vector UInt8 16)(dU:Int)(s:List (Option Fw)):Prop where
 h:dK W q (Tk.mk key dU (ig s).a (some ⟨g,0,none⟩) s.a s.a).ay
 sl:dK W g (Wi s)
 ne:q≠g
 sz:0<s.a/\s.a<=100000
variable {W W':ak} {q g:Nat} {key:Vector UInt8 16} {dU:Int} {s:List (Option Fw)}
theorem ET.go(h:ET W q g key dU s)(hb:aL W.a.j W W'):ET W' q g key dU s:=⟨h.h.go hb,h.sl.go hb,h.ne,h.sz⟩
theorem ET.alloc(h:ET W q g key dU s)(ob:Obj):ET (W.alloc ob) q g key dU s:=h.go ((aG _ _).alloc (av _) _)
theorem ET.drew(h:ET W q g key dU s):ET W.drew q g key dU s:=⟨h.h.drew,h.sl.drew,h.ne,h.sz⟩
theorem ET.drewN(h:ET W q g key dU s)(n:Nat):ET (W.drewN n) q g key dU s:=⟨h.h.drewN n,h.sl.drewN n,h.ne,h.sz⟩
theorem ET.Wm(h:ET W q g key dU s){i:Nat}(hi:i<s.a):W.b ⟨g,i*42,none⟩=some (.e (fI s i).isSome)/\dM W g (i*42) 42=(vV (fI s i)).ay/\dM W g (i*42+1) 41=(vV (fI s i)).qU.ay/\dM W g (i*42+1) 37=(vV (fI s i)).qU.key.ay/\vw W g (i*42) 42/\vw W g (i*42+1) 41/\vw W g (i*42+1) 37:=by
 obtain⟨h1,h2,h3,h4⟩:=h.sl.K;have hs:=uX s;have hm:(i+1)*42<=s.a*42:=dw 42 hi;have hh:∀o n,o+n<=s.a*42->vw W g o n:=fun o n hn=>by rw[h3 o n (by unfold dY;omega)];trivial
 refine⟨by rw[h1,amW s i hi],?_,?_,?_,hh _ _ (by omega),hh _ _ (by omega),hh _ _ (by omega)⟩
 ·rw[h4 _ _ (by unfold dY;omega),amU s i hi]
 ·rw[h4 _ _ (by unfold dY;omega),amV s i hi]
 ·rw[h4 _ _ (by unfold dY;omega),aqb s i hi]
theorem ET.K(h:ET W q g key dU s):W.b ⟨q,18,none⟩=some (.a (some ⟨g,0,none⟩) s.a s.a)/\W.b ⟨q,17,none⟩=some (.b .a (ig s).a)/\W.b ⟨q,16,none⟩=some (.b .a dU)/\(∀j,W.frozen? ⟨q,j,none⟩=false)/\dM W q 0 16=jd key/\vw W q 0 16:=by
 obtain⟨h1,h2,h3,h4⟩:=h.h.K;refine⟨(h1 18).trans (Tk.yg _),(h1 17).trans (Tk.adI _),(h1 16).trans (Tk.Ng _),h2,?_,?_⟩
 ·rw[h4 0 16 (by unfold dY;rw[Tk.G];omega)];exact Tk.abk _
 ·rw[h3 0 16 (by unfold dY;rw[Tk.G];omega)];trivial
def hmK(key:Vector UInt8 16)(N:Nat)(k:Tu):Nat:=xQ key (LW k)%N
end
section
open Go.RowKit Go.Shelf
attribute [local go_sem] qo
theorem oU.AQ(x:oU):x.ay.j=2:=by simp[oU.ay]
theorem oU.adN(x:oU):x.ay.all (·.h)=true:=by simp[oU.ay,cZ]
@[go_sem]theorem oU.aDC(x:oU):dY x.ay=2:=oU.AQ x
@[go_sem]theorem oU.aDD(x:oU):x.ay.m 0 2=x.ay:=by have:=oU.AQ x;rw[<-this];simp
@[go_sem]theorem oU.zu(x:oU):x.ay[0]? = some (.g (bT x.E)):=rfl
@[go_sem]theorem oU.aqc(x:oU):x.ay[1]? = some (.b .a x.q):=rfl
def lg:oU:=⟨[],0⟩
instance:Inhabited oU:=⟨lg⟩
@[go_sem]theorem aqd:eB #[iB {data:=#[]},aI bR 0] 151=eB lg.ay 151:=rfl
theorem auO:oO 151 2 lg.ay:=⟨⟨_,Tryz.underlying151,rfl⟩,by kernel_rfl,by kernel_rfl,rfl⟩
@[go_sem ↓]theorem aGN(v:aB):bZ 151 v=xI 151 v:=rfl
@[go_sem ↓]theorem aGO(v x:aB):eD 151 v x=yU 151 v x:=rfl
@[go_sem]theorem auP(W:ak)(b o:Nat)(h:vw W b o 2):(xI 151 (.c (some ⟨b,o,none⟩))).I ah W = .Z (.d (dM W b o 2)) W:=auO.ld W b o h
@[go_sem]theorem aAX(W:ak)(c:Array aB)(x:oU)(b:Nat)(hb:b=W.a.j)(hc:dY c=2):(yU 151 (.c (some ⟨b,0,none⟩)) (.d x.ay)).I ah (W.alloc (.D c 151)) = .Z () (W.alloc (.D x.ay 151)):=auO.stN W c x.ay b hb hc rfl (oU.adN x)
@[go_sem]theorem auQ(w:ak)(x:oU):(alG 1 #[(0,.d x.ay)]).I ah w = .Z (.a (some ⟨w.a.j,0,none⟩) 1 1) (w.alloc (.D x.ay 151)):=aiK w x.E x.q
theorem oU.G(x:oU):x.ay.j=2:=rfl
theorem oU.cO(x:oU):x.ay.all (·.h)=true:=oU.adN x
theorem kK{W:ak}{b:Nat}{x:Fw}(h:dK W b x.ay):(Qf (.c (some ⟨b,0,none⟩))).I ah W = .Z (.d x.ay) W:=by
 have hs:dY x.ay=41:=Fw.G x;rw[ahg W b 0 (of_eq_true (h.K.2.2.1 0 41 (by omega))),h.K.2.2.2 0 41 (by omega),bB,Fw.kr]
theorem Wn{W:ak}{b:Nat}{x:oU}(h:dK W b x.ay):(xI 151 (.c (some ⟨b,0,none⟩))).I ah W = .Z (.d x.ay) W:=by
 have hs:dY x.ay=2:=rfl;rw[auP W b 0 (of_eq_true (h.K.2.2.1 0 2 (by omega))),h.K.2.2.2 0 2 (by omega),bB,oU.aDD]
theorem Wo(F:Kl)(n:Nat)(h3:F.fn 266)(hro:F.round=none)(hn:3<=n)(gf:Nat)(lb:Array aB)(hgf:F.fn gf)(eg:∀args w,(callFunc gf args).I ah w = .Z (.enter gf args) w)(S Sp:List Fw->Prop)(N:Nat)(hN:N<=100000)(w:ak)
 (hseq:vN F (n-1) ah gf lb (fun x:Fw=>#[bY x.ay]) (aL w.a.j) S Sp N w) :
 LQ F n ah 266 #[.a none 0 0,.func (.func gf) #[] lb] w fun e W'=>
  ∃ys,S ys/\∃A' c',e=.a (.a A' ys.a c')/\W'.c w.a.j 86 41 (.a A' ys.a c') ys.a (ys.h fun x=>x.ay.a)/\aL w.a.j w W':=by
 have h1:1<=n:=by omega
 obtain⟨i0,hi,hz0,hz1,hzb⟩:=afs;refine qX Tryz.func266 rfl h3 ?_ hro;simp only[Tryz.ntmps266,dI,bC,gL,kN,kP,gy,gB,iN,gP,dF,gZ];gi_wp2;have bO:=Boxed.new w 34 (.a none 0 0);have hB0:aL w.a.j w (w.alloc (.D #[.a none 0 0] 34)):=(aG _ w).alloc (av _) _;have hs0:(w.alloc (.D #[.a none 0 0] 34)).a.j=w.a.j+1:=by simp
 generalize w.alloc (.D #[.a none 0 0] 34)=W0 at bO hB0 hs0 ⊢;refine yw hro h1 (gf:=gf) (lb:=lb) rfl hgf eg hseq (fun h k=>Below.trans h k) (vJ (by omega)) hB0 (fun _=>rfl)
  (fun(pre:List Fw) W=>(∃v,Boxed W w.a.j 34 v/\W.c w.a.j 86 41 v pre.a (pre.h fun x=>x.ay.a)/\True)/\aL w.a.j w W)
  (fun _ _ _=>False)
  (OwnFrom.and (Own.from (holdsRow_own w.a.j w.a.j 34 86 41 (fun pre:List Fw=>pre.a) (fun pre:List Fw=>pre.h fun x=>x.ay.a) (fun _ _=>True)) _) (yJ (av _) (by omega)))
  (fun _ _ _ _ _ hs _ _=>hs)
  ⟨⟨_,bO,fu _ _ _ _,trivial⟩,hB0⟩
  (fun x a' W=>∃Bq,w.a.j<Bq/\dK W Bq x.ay/\a'={tmps:=#[.a none 0 0,.func (.func gf) #[] lb,.c (some ⟨w.a.j,0,none⟩),undef,.a none 0 0,.c (some ⟨Bq,0,none⟩),.func (.func gf) #[] lb,.d x.ay,undef,undef,undef,undef,undef],defers:=[]})
  (fun x a' _ X Y row hs hg hr=>by obtain⟨Bq,h1,h2,h3⟩:=hs;exact⟨Bq,h1,zm Bq x.ay () X Y row h2 hg (fun r e=>(hr r e).2),h3⟩)
  ?assign ?body ?done ?stop
 case assign=>
  rintro q pre x W K ⟨⟨v,hv,hrow,_⟩,hB⟩ hK;gi_wp2;refine hK _ _ ((KeepsOthers.alloc _ _).from _) ((aG _ W).alloc hB.j _) ⟨⟨v,hv.alloc _,hrow.alloc _,trivial⟩,hB.alloc hB.j _⟩ ⟨W.a.j,hv.lt,dK.new W _ _,rfl⟩
 case body=>
  rintro q pre x a' W hq ⟨r,hr⟩ ⟨⟨v,hv,hrow,_⟩,hB⟩ ⟨Bq,hBq,bX,rfl⟩ hlt;have hcv:=hv.cell;have hld:=kK bX;have hby:(pre.a+1)*i0.bytes<=140737488355328:=aO (gU (show pre.a+1<=100002 by omega) hzb) (by omega);have HN1:=ab (show x.ay.a.a=1*41 by simp[Fw.G]);have HNC:=ab (fun(W:ak) (j:Nat) (u:aB) (hu:x.ay.a[j]? = some u)=>show(W.alloc (.D x.ay 86)).b ((⟨W.a.j,0,none⟩:aT).add j)=some u by
   rw[iC,bB,mQ,<-dD];exact hu)
  have Fh:=ab (show∀u∈x.ay.a,u.h=true from fun u hu=>by have:=Fw.cO x;rw[xG]at this;exact this u (by simpa using hu));gi_wp2_with (gi_at_builtin;refine DW _ rfl _ _ 34 rfl w.a.j 86 i0 (.d kD.ay) 41 i0.bytes EK hi hz0 hz1 rfl (by simp[cK,Fw.G]) (by decide) _ _ _ rfl (hrow.alloc _) ⟨W.a.j,0,none⟩ 1 1 x.ay.a rfl HN1.i (HNC.i W) Fh.i (by unfold maxLen;omega) hby (by have:=hB.j;simp;omega) ?_;intro v' w1 hown' hgrow _;obtain⟨g',cap',rfl⟩:=ownsRow_succ hown';obtain⟨hv1,hv2,hr2,hk2,hb2⟩:=hv.appended (by decide) hrow hB.j (av _) hown' hgrow;have hc1:=hv1.cell;have hf1:=hv1.frozen);exact⟨hk2.from _,hb2,⟨_,hv2,by rw[aR,wJ];simpa using hr2,trivial⟩,hB.trans hb2⟩
 case done=>
  rintro D ys W hD hS ⟨⟨v,hv,hrow,_⟩,hB⟩ hK;have hcv:=hv.cell;gi_wp2;refine⟨by simp,.a ⟨_,_,rfl,uw hK,?_⟩⟩;obtain⟨A',c',hv',_,_⟩:=jE hrow;refine⟨_,Hu rfl _ _ _,ys,hS,A',c',by rw[<-hv'];rfl,?_,hB.trans (vJ (w:=w) (av _) W D _ _ (by omega) hK rfl rfl)⟩;rw[<-hv'];exact ownsRow_putObj hrow _ hK rfl
 case stop=>
  rintro D c pre W _ _ h _;exact h.elim
theorem Xx(gf:Nat)(lb:Array aB)(eg:∀args w,(callFunc gf args).I ah w = .Z (.enter gf args) w)(S Sp:List Fw->Prop)(N:Nat)(hN:N<=100000)(w:ak)(hseq:vN nG 5 ah gf lb (fun x:Fw=>#[bY x.ay]) (aL w.a.j) S Sp N w):
 aP ah 201 #[.func (.func gf) #[] lb] w fun e W'=>
  ∃ys,S ys/\∃A' c',e=.a (.a A' ys.a c')/\W'.c w.a.j 86 41 (.a A' ys.a c') ys.a (ys.h fun x=>x.ay.a)/\aL w.a.j w W':=by
 have AP:=ab ((mU (n:=6)).1 (Wo nG 6 trivial rfl (by omega) gf lb trivial eg S Sp N hN w hseq));clear hseq;go_enter Tryz.func201,Tryz.ntmps201;go_wp2_with fail;refine AP.i.g ?_;rintro e w1 ⟨ys,hS,A1,c1,rfl,ho,hb⟩;have HS:=ab hS;have HO:=ab ho;have HB:=ab hb;clear ho hb hS;obtain⟨m,hm⟩:=cB ys.a;rw[<-hm]at HO ⊢;go_wp2;go_ret;subst hm;exact⟨ys,HS.i,A1,c1,rfl,HO.i,HB.i⟩
theorem Sr(F:Kl)(n:Nat)(h3:F.fn 300)(hro:F.round=none)(hn:3<=n)(gf:Nat)(lb:Array aB)(hgf:F.fn gf)(eg:∀args w,(callFunc gf args).I ah w = .Z (.enter gf args) w)(S Sp:List oU->Prop)(N:Nat)(hN:N<=100000)(w:ak)
 (hseq:vN F (n-1) ah gf lb (fun x:oU=>#[bY x.ay]) (aL w.a.j) S Sp N w) :
 LQ F n ah 300 #[.a none 0 0,.func (.func gf) #[] lb] w fun e W'=>
  ∃ys,S ys/\∃A' c',e=.a (.a A' ys.a c')/\W'.c w.a.j 151 2 (.a A' ys.a c') ys.a (ys.h fun x=>x.ay.a)/\aL w.a.j w W':=by
 have h1:1<=n:=by omega
 obtain⟨i0,hi,hz0,hz1,hzb⟩:=aax;refine qX Tryz.func300 rfl h3 ?_ hro;simp only[Tryz.ntmps300,dI,bC,gL,kN,kP,gy,gB,iN,gP,dF,gZ];gi_wp2;have bO:=Boxed.new w 75 (.a none 0 0);have hB0:aL w.a.j w (w.alloc (.D #[.a none 0 0] 75)):=(aG _ w).alloc (av _) _;have hs0:(w.alloc (.D #[.a none 0 0] 75)).a.j=w.a.j+1:=by simp
 generalize w.alloc (.D #[.a none 0 0] 75)=W0 at bO hB0 hs0 ⊢;refine yw hro h1 (gf:=gf) (lb:=lb) rfl hgf eg hseq (fun h k=>Below.trans h k) (vJ (by omega)) hB0 (fun _=>rfl)
  (fun(pre:List oU) W=>(∃v,Boxed W w.a.j 75 v/\W.c w.a.j 151 2 v pre.a (pre.h fun x=>x.ay.a)/\True)/\aL w.a.j w W)
  (fun _ _ _=>False)
  (OwnFrom.and (Own.from (holdsRow_own w.a.j w.a.j 75 151 2 (fun pre:List oU=>pre.a) (fun pre:List oU=>pre.h fun x=>x.ay.a) (fun _ _=>True)) _) (yJ (av _) (by omega)))
  (fun _ _ _ _ _ hs _ _=>hs)
  ⟨⟨_,bO,fu _ _ _ _,trivial⟩,hB0⟩
  (fun x a' W=>∃Bq,w.a.j<Bq/\dK W Bq x.ay/\a'={tmps:=#[.a none 0 0,.func (.func gf) #[] lb,.c (some ⟨w.a.j,0,none⟩),undef,.a none 0 0,.c (some ⟨Bq,0,none⟩),.func (.func gf) #[] lb,.d x.ay,undef,undef,undef,undef,undef],defers:=[]})
  (fun x a' _ X Y row hs hg hr=>by obtain⟨Bq,h1,h2,h3⟩:=hs;exact⟨Bq,h1,zm Bq x.ay () X Y row h2 hg (fun r e=>(hr r e).2),h3⟩)
  ?assign ?body ?done ?stop
 case assign=>
  rintro q pre x W K ⟨⟨v,hv,hrow,_⟩,hB⟩ hK;gi_wp2;refine hK _ _ ((KeepsOthers.alloc _ _).from _) ((aG _ W).alloc hB.j _) ⟨⟨v,hv.alloc _,hrow.alloc _,trivial⟩,hB.alloc hB.j _⟩ ⟨W.a.j,hv.lt,dK.new W _ _,rfl⟩
 case body=>
  rintro q pre x a' W hq ⟨r,hr⟩ ⟨⟨v,hv,hrow,_⟩,hB⟩ ⟨Bq,hBq,bX,rfl⟩ hlt;have hcv:=hv.cell;have hld:=Wn bX;have hby:(pre.a+1)*i0.bytes<=140737488355328:=aO (gU (show pre.a+1<=100002 by omega) hzb) (by omega);have HN1:=ab (show x.ay.a.a=1*2 by simp[oU.G]);have HNC:=ab (fun(W:ak) (j:Nat) (u:aB) (hu:x.ay.a[j]? = some u)=>show(W.alloc (.D x.ay 151)).b ((⟨W.a.j,0,none⟩:aT).add j)=some u by
   rw[iC,bB,mQ,<-dD];exact hu)
  have Fh:=ab (show∀u∈x.ay.a,u.h=true from fun u hu=>by have:=oU.cO x;rw[xG]at this;exact this u (by simpa using hu));gi_wp2_with (gi_at_builtin;refine DW _ rfl _ _ 75 rfl w.a.j 151 i0 (.d #[.g ⟨#[]⟩,.b .a 0]) 2 i0.bytes vg hi hz0 hz1 rfl (by simp[cK]) (by decide) _ _ _ rfl (hrow.alloc _) ⟨W.a.j,0,none⟩ 1 1 x.ay.a rfl HN1.i (HNC.i W) Fh.i (by unfold maxLen;omega) hby (by have:=hB.j;simp;omega) ?_;intro v' w1 hown' hgrow _;obtain⟨g',cap',rfl⟩:=ownsRow_succ hown';obtain⟨hv1,hv2,hr2,hk2,hb2⟩:=hv.appended (by decide) hrow hB.j (av _) hown' hgrow;have hc1:=hv1.cell;have hf1:=hv1.frozen);exact⟨hk2.from _,hb2,⟨_,hv2,by rw[aR,wJ];simpa using hr2,trivial⟩,hB.trans hb2⟩
 case done=>
  rintro D ys W hD hS ⟨⟨v,hv,hrow,_⟩,hB⟩ hK;have hcv:=hv.cell;gi_wp2;refine⟨by simp,.a ⟨_,_,rfl,uw hK,?_⟩⟩;obtain⟨A',c',hv',_,_⟩:=jE hrow;refine⟨_,Hu rfl _ _ _,ys,hS,A',c',by rw[<-hv'];rfl,?_,hB.trans (vJ (w:=w) (av _) W D _ _ (by omega) hK rfl rfl)⟩;rw[<-hv'];exact ownsRow_putObj hrow _ hK rfl
 case stop=>
  rintro D c pre W _ _ h _;exact h.elim
theorem Wp(gf:Nat)(lb:Array aB)(eg:∀args w,(callFunc gf args).I ah w = .Z (.enter gf args) w)(S Sp:List oU->Prop)(N:Nat)(hN:N<=100000)(w:ak)(hseq:vN nG 5 ah gf lb (fun x:oU=>#[bY x.ay]) (aL w.a.j) S Sp N w):
 aP ah 237 #[.func (.func gf) #[] lb] w fun e W'=>
  ∃ys,S ys/\∃A' c',e=.a (.a A' ys.a c')/\W'.c w.a.j 151 2 (.a A' ys.a c') ys.a (ys.h fun x=>x.ay.a)/\aL w.a.j w W':=by
 have AP:=ab ((mU (n:=6)).1 (Sr nG 6 trivial rfl (by omega) gf lb trivial eg S Sp N hN w hseq));clear hseq;go_enter Tryz.func237,Tryz.ntmps237;go_wp2_with fail;refine AP.i.g ?_;rintro e w1 ⟨ys,hS,A1,c1,rfl,ho,hb⟩;have HS:=ab hS;have HO:=ab ho;have HB:=ab hb;clear ho hb hS;obtain⟨m,hm⟩:=cB ys.a;rw[<-hm]at HO ⊢;go_wp2;go_ret;subst hm;exact⟨ys,HS.i,A1,c1,rfl,HO.i,HB.i⟩
end
theorem Wq:oO 22 16 (jd (bG 16 0)):=⟨⟨_,qh,rfl⟩,by kernel_rfl,by kernel_rfl,dL _⟩
@[go_sem ↓]theorem aGP(v:aB):bZ 22 v=xI 22 v:=rfl
theorem afZ(key:Vector UInt8 16)(A:Option aT)(n c:Nat)(bs:List UInt8)(w:ak)(hr:fU w w.a.j A n bs)(hn:n<=1000000):aP ah 97 #[.d (jd key),.a (some ⟨w.a.j,0,none⟩) 1 1] (w.alloc (.D #[.a A n c] 56)) (gD w (.b .c (xQ key bs))):=by
 have hl:=hr.len;refine(YT key [⟨A,n,c⟩] [bs] _ 1 1 _ (RdS.lit w [⟨A,n,c⟩] 56) (.cons ((hr.alloc (av _) _).lF (by simp)) .nil) (by omega) (by simp[yC];omega) bs (by simp) (by omega)).g ?_;rintro e w' ⟨rfl,hb⟩;exact⟨rfl,((aG _ w).alloc (av _) _).trans (hb.g (by simp))⟩
theorem ajE{W:ak}{q:Nat}{k:Vector UInt8 16}(h:dK W q (jd k)):W.rangeAt q 0 (k.a.map bv):=by
 intro j v hj;rw[h.K.1,bB];unfold jd;rw[List.getElem?_toArray];exact hj
theorem af0(key:Vector UInt8 16)(A:Option aT)(n c:Nat)(bs:List UInt8)(w:ak)(hr:fU w w.a.j A n bs)(hn:n<=1000000):aP ah 97 #[.d (key.a.map bv).b,.a (some ⟨w.a.j,0,none⟩) 1 1] (w.alloc (.D #[.a A n c] 56)) (gD w (.b .c (xQ key bs))):=afZ key A n c bs w hr hn
theorem Jf(t:Tu)(ht:wT t)(w:ak):aP ah 98 #[.d t.ay] w fun e w'=>∃A c,e=.a (.a A 38 c)/\fU w' w'.a.j A 38 (LW t)/\aL w.a.j w w':=by
 refine(aaM t ht w).g ?_;rintro e w' ⟨A,n,c,rfl,hn,ho,hb⟩;rw[aps]at hn;subst hn;exact⟨A,c,rfl,fU.iQ ho,hb⟩
theorem Rj(key:Vector UInt8 16)(t:Tu)(ht:wT t)(w:ak):aP ah 36 #[.d (jd key),.d t.ay] w (gD w (.b .c (xQ key (LW t)))):=by
 have Z0:=ab (((Bx.start w).new (jd key) 22).new t.ay 81);have e1:(w.alloc (.D (jd key) 22)).a.j=w.a.j+1:=by simp
 rw[e1]at Z0;have CB:=ab (fun W=>Jf t ht W);clear e1;go_enter Tryz.func36,Tryz.ntmps36;go_upto_region 1 with fail
 generalize(w.alloc (.D (jd key) 22)).alloc (.D t.ay 81)=w1 at Z0 ⊢;have KS:=ab (fun(w':ak) (h:Bx [(w.a.j+1,t.ay),(w.a.j,jd key)] w w')=>show w'.rangeAt w.a.j 0 (key.a.map bv)/\(wS (.c (some ⟨w.a.j+1,0,none⟩))).I ah w' = .Z (.d t.ay) w' from⟨ajE h.b1,pF h.S⟩);obtain⟨l1,l2⟩:=KS.i _ Z0.i;obtain⟨bs,hbs⟩:=cB (LW t);have HBS:=ab hbs;rw[<-hbs]at CB;clear hbs;have hU:=qh;have hI:(ah.info? 22).map (·.j)=some (key.a.map bv).a:=by rw[bU,nH];kernel_rfl
 go_region_held_law (fun w'=>w'.rangeAt w.a.j 0 (key.a.map bv)/\(wS (.c (some ⟨w.a.j+1,0,none⟩))).I ah w' = .Z (.d t.ay) w')
  (first|exact KS.i _ Z0.i.drew|exact KS.i _ Z6.i|exact KS.i _ (Z5.i.alloc _)|exact KS.i _ Z5.i|go_keep)
  (first
  | (go_at_call 98;(with_reducible refine(CB.i _).g ?_);rintro e w5 ⟨A5,c5,rfl,TN,hb5⟩;have C6:=ab (af0 key A5 38 c5 bs w5 TN (by decide));have Z5:=ab (Z0.i.drew.go hb5);clear TN hb5)
  | (go_at_call 97;(with_reducible refine C6.i.g ?_);rintro e w6 ⟨rfl,hb6⟩;have Z6:=ab (Z5.i.go hb6);clear hb6))
 go_wp2;go_ret;refine⟨?_,Z6.i.R⟩;rw[HBS.i];rfl
def adO:Go.Shelf.Ren:=⟨fun|6=>238|15=>219|14=>301|28=>283|29=>284|20=>339|21=>340|22=>341|23=>342|24=>343|25=>344|26=>345|27=>346|46=>363|47=>329|48=>330|49=>364|50=>365|57=>372|n=>n,fun|22=>75|24=>151|25=>257|3=>3|39=>259|0=>0|53=>323|55=>92|4=>4|46=>352|45=>351|50=>158|5=>5|9=>9|66=>388|70=>392|76=>410|77=>152|n=>n,fun|n=>n⟩
theorem aqe:Go.Proofs.SlLaysF0.n6 ah adO:={
 mixed:=by kernel_rfl,
 f6:=⟨Tryz.f238.E,by decide,Tryz.func238.trans (congrArg some (by kernel_rfl))⟩,
 f14:=⟨Tryz.f301.E,by decide,Tryz.func301.trans (congrArg some (by kernel_rfl))⟩,
 f15:=Tryz.func219.trans (congrArg some (by kernel_rfl)),
 f20:=⟨Tryz.f339.E,by decide,Tryz.func339.trans (congrArg some (by kernel_rfl))⟩,
 f21:=⟨Tryz.f340.E,by decide,Tryz.func340.trans (congrArg some (by kernel_rfl))⟩,
 f22:=⟨Tryz.f341.E,by decide,Tryz.func341.trans (congrArg some (by kernel_rfl))⟩,
 f23:=⟨Tryz.f342.E,by decide,Tryz.func342.trans (congrArg some (by kernel_rfl))⟩,
 f24:=⟨Tryz.f343.E,by decide,Tryz.func343.trans (congrArg some (by kernel_rfl))⟩,
 f25:=⟨Tryz.f344.E,by decide,Tryz.func344.trans (congrArg some (by kernel_rfl))⟩,
 f26:=⟨Tryz.f345.E,by decide,Tryz.func345.trans (congrArg some (by kernel_rfl))⟩,
 f27:=⟨Tryz.f346.E,by decide,Tryz.func346.trans (congrArg some (by kernel_rfl))⟩,
 f28:=Tryz.func283.trans (congrArg some (by kernel_rfl)),
 f29:=Tryz.func284.trans (congrArg some (by kernel_rfl)),
 f46:=⟨Tryz.f363.E,by decide,Tryz.func363.trans (congrArg some (by kernel_rfl))⟩,
 f47:=Tryz.func329.trans (congrArg some (by kernel_rfl)),
 f48:=Tryz.func330.trans (congrArg some (by kernel_rfl)),
 f49:=⟨Tryz.f364.E,by decide,Tryz.func364.trans (congrArg some (by kernel_rfl))⟩,
 f50:=⟨Tryz.f365.E,by decide,Tryz.func365.trans (congrArg some (by kernel_rfl))⟩,
 f57:=⟨Tryz.f372.E,by decide,Tryz.func372.trans (congrArg some (by kernel_rfl))⟩,
 t0:=GL,
 a0:=Tryz.isAgg0,
 z0:=Tryz.sizeOf0,
 v0:=Jt,
 t3:=gQ,
 a3:=Tryz.isAgg3,
 z3:=Tryz.sizeOf3,
 v3:=Ju,
 t4:=nJ,
 a4:=Tryz.isAgg4,
 z4:=Tryz.sizeOf4,
 v4:=Jv,
 t5:=lC,
 a5:=Tryz.isAgg5,
 z5:=Tryz.sizeOf5,
 v5:=Tryz.zeroValue5,
 t9:=iO,
 a9:=KV,
 z9:=Ht,
 v9:=AV,
 t22:=vg,
 a22:=Tryz.isAgg75,
 z22:=Tryz.sizeOf75,
 v22:=Tryz.zeroValue75,
 t25:=Tryz.underlying257,
 a25:=Tryz.isAgg257,
 z25:=Tryz.sizeOf257,
 v25:=Tryz.zeroValue257,
 t39:=Tryz.underlying259,
 a39:=Tryz.isAgg259,
 z39:=Tryz.sizeOf259,
 v39:=Tryz.zeroValue259,
 t45:=Tryz.underlying351,
 a45:=Tryz.isAgg351,
 z45:=Tryz.sizeOf351,
 v45:=Tryz.zeroValue351,
 t46:=Tryz.underlying352,
 a46:=Tryz.isAgg352,
 z46:=Tryz.sizeOf352,
 v46:=Tryz.zeroValue352,
 t50:=Tryz.underlying158,
 a50:=Tryz.isAgg158,
 z50:=Tryz.sizeOf158,
 v50:=Tryz.zeroValue158,
 t53:=Tryz.underlying323,
 a53:=Tryz.isAgg323,
 z53:=Tryz.sizeOf323,
 v53:=Tryz.zeroValue323,
 t55:=Tryz.underlying92,
 a55:=Tryz.isAgg92,
 z55:=Tryz.sizeOf92,
 v55:=Tryz.zeroValue92,
 t66:=Tryz.underlying388,
 a66:=Tryz.isAgg388,
 z66:=Tryz.sizeOf388,
 v66:=Tryz.zeroValue388,
 t70:=Tryz.underlying392,
 a70:=Tryz.isAgg392,
 z70:=Tryz.sizeOf392,
 v70:=Tryz.zeroValue392,
 t76:=Tryz.underlying410,
 a76:=Tryz.isAgg410,
 z76:=Tryz.sizeOf410,
 v76:=Tryz.zeroValue410,
 t77:=Tryz.underlying152,
 a77:=Tryz.isAgg152,
 z77:=Tryz.sizeOf152,
 v77:=Tryz.zeroValue152}
def af2:Go.Shelf.Ren:=⟨fun|6=>151|15=>219|14=>218|28=>283|29=>284|20=>275|21=>276|22=>277|23=>278|24=>279|25=>280|26=>281|27=>282|46=>328|47=>329|48=>330|49=>331|50=>332|57=>359|n=>n,fun|22=>34|24=>86|25=>201|3=>3|39=>259|0=>0|53=>323|55=>92|4=>4|46=>352|45=>351|50=>158|5=>5|9=>9|66=>388|70=>392|76=>410|77=>152|n=>n,fun|n=>n⟩
theorem auR:Go.Proofs.SlLaysF0.n6 ah af2:={
 mixed:=by kernel_rfl,
 f6:=⟨Tryz.f151.E,by decide,Tryz.func151.trans (congrArg some (by kernel_rfl))⟩,
 f14:=⟨Tryz.f218.E,by decide,Tryz.func218.trans (congrArg some (by kernel_rfl))⟩,
 f15:=Tryz.func219.trans (congrArg some (by kernel_rfl)),
 f20:=⟨Tryz.f275.E,by decide,Tryz.func275.trans (congrArg some (by kernel_rfl))⟩,
 f21:=⟨Tryz.f276.E,by decide,Tryz.func276.trans (congrArg some (by kernel_rfl))⟩,
 f22:=⟨Tryz.f277.E,by decide,Tryz.func277.trans (congrArg some (by kernel_rfl))⟩,
 f23:=⟨Tryz.f278.E,by decide,Tryz.func278.trans (congrArg some (by kernel_rfl))⟩,
 f24:=⟨Tryz.f279.E,by decide,Tryz.func279.trans (congrArg some (by kernel_rfl))⟩,
 f25:=⟨Tryz.f280.E,by decide,Tryz.func280.trans (congrArg some (by kernel_rfl))⟩,
 f26:=⟨Tryz.f281.E,by decide,Tryz.func281.trans (congrArg some (by kernel_rfl))⟩,
 f27:=⟨Tryz.f282.E,by decide,Tryz.func282.trans (congrArg some (by kernel_rfl))⟩,
 f28:=Tryz.func283.trans (congrArg some (by kernel_rfl)),
 f29:=Tryz.func284.trans (congrArg some (by kernel_rfl)),
 f46:=⟨Tryz.f328.E,by decide,Tryz.func328.trans (congrArg some (by kernel_rfl))⟩,
 f47:=Tryz.func329.trans (congrArg some (by kernel_rfl)),
 f48:=Tryz.func330.trans (congrArg some (by kernel_rfl)),
 f49:=⟨Tryz.f331.E,by decide,Tryz.func331.trans (congrArg some (by kernel_rfl))⟩,
 f50:=⟨Tryz.f332.E,by decide,Tryz.func332.trans (congrArg some (by kernel_rfl))⟩,
 f57:=⟨Tryz.f359.E,by decide,Tryz.func359.trans (congrArg some (by kernel_rfl))⟩,
 t0:=GL,
 a0:=Tryz.isAgg0,
 z0:=Tryz.sizeOf0,
 v0:=Jt,
 t3:=gQ,
 a3:=Tryz.isAgg3,
 z3:=Tryz.sizeOf3,
 v3:=Ju,
 t4:=nJ,
 a4:=Tryz.isAgg4,
 z4:=Tryz.sizeOf4,
 v4:=Jv,
 t5:=lC,
 a5:=Tryz.isAgg5,
 z5:=Tryz.sizeOf5,
 v5:=Tryz.zeroValue5,
 t9:=iO,
 a9:=KV,
 z9:=Ht,
 v9:=AV,
 t22:=EK,
 a22:=Tryz.isAgg34,
 z22:=Tryz.sizeOf34,
 v22:=Tryz.zeroValue34,
 t25:=Tryz.underlying201,
 a25:=Tryz.isAgg201,
 z25:=Tryz.sizeOf201,
 v25:=Tryz.zeroValue201,
 t39:=Tryz.underlying259,
 a39:=Tryz.isAgg259,
 z39:=Tryz.sizeOf259,
 v39:=Tryz.zeroValue259,
 t45:=Tryz.underlying351,
 a45:=Tryz.isAgg351,
 z45:=Tryz.sizeOf351,
 v45:=Tryz.zeroValue351,
 t46:=Tryz.underlying352,
 a46:=Tryz.isAgg352,
 z46:=Tryz.sizeOf352,
 v46:=Tryz.zeroValue352,
 t50:=Tryz.underlying158,
 a50:=Tryz.isAgg158,
 z50:=Tryz.sizeOf158,
 v50:=Tryz.zeroValue158,
 t53:=Tryz.underlying323,
 a53:=Tryz.isAgg323,
 z53:=Tryz.sizeOf323,
 v53:=Tryz.zeroValue323,
 t55:=Tryz.underlying92,
 a55:=Tryz.isAgg92,
 z55:=Tryz.sizeOf92,
 v55:=Tryz.zeroValue92,
 t66:=Tryz.underlying388,
 a66:=Tryz.isAgg388,
 z66:=Tryz.sizeOf388,
 v66:=Tryz.zeroValue388,
 t70:=Tryz.underlying392,
 a70:=Tryz.isAgg392,
 z70:=Tryz.sizeOf392,
 v70:=Tryz.zeroValue392,
 t76:=Tryz.underlying410,
 a76:=Tryz.isAgg410,
 z76:=Tryz.sizeOf410,
 v76:=Tryz.zeroValue410,
 t77:=Tryz.underlying152,
 a77:=Tryz.isAgg152,
 z77:=Tryz.sizeOf152,
 v77:=Tryz.zeroValue152}
section
variable {α:Type} [Inhabited α]
theorem Wr(f:α->Array aB)(k:Nat)(hk:∀x,(f x).j=k)(l:List α):(Sort.flatK (fun x=>(f x).a) k l.b).a=l.h fun x=>(f x).a:=by
 apply iL;intro t;have hl:=sW f k hk l;by_cases ht:t<l.a*k
 ·have hk0:0<k:=by
   rcases eu k with h|h
   ·subst h;simp at ht
   ·exact h
  have hq:t/k<l.a:=(Nat.div_lt_iff_lt_mul hk0).2 ht;have hm:=fH t hk0;have e:=Nat.div_add_mod t k;have h1:=Sort.get_flatK (fun x=>(f x).a) k l.b t (by simpa using ht);have h2:=uJ f k hk l (t/k) (t%k) hq hm;rw[show t/k*k+t%k=t by rw[Cw];exact e]at h2;rw[h2,dD];have hs:t<(Sort.flatK (fun x=>(f x).a) k l.b).j:=by rw[xH];simpa using ht
  rw[getElem!_pos _ t hs]at h1;rw[fD hs,h1];have hs2:t%k<(f l[t/k]).j:=by rw[hk];exact hm
  rw[fD hs2,getElem!_pos l.b (t/k) (by simpa using hq)];simp only[List.getElem_toArray];rw[getElem!_pos _ (t%k) (by simpa using hs2)];simp
 ·rw[aS (by simp[xH];omega),aS (by omega)]
theorem Sv(f:α->Array aB)(k:Nat)(hk:∀x,(f x).j=k){w:ak}{g:Nat}{cur:Array aB}{e:bF}{l:List α}(hb:w.a[g]? = some (.D cur e (0,0)))(ht:cur.a.d (l.a*k)=l.h fun x=>(f x).a):Sort.HoldsK (fun x=>(f x).a) k w g 0 l.b:=by
 intro j hj;rw[xH]at hj;have hj':j<l.a*k:=by simpa using hj
 refine⟨?_,by simp[rY,hb]⟩;have h1:(cur.a.d (l.a*k))[j]? = (l.h fun x=>(f x).a)[j]?:=by rw[ht]
 rw[gY hj',<-Wr f k hk l,dD,dD]at h1;have hs:j<(Sort.flatK (fun x=>(f x).a) k l.b).j:=by rw[xH];exact hj
 simp only[World.cell?,hb,bB,Option.isSome_none,jI,if_false,id];rw[h1,fD hs,getElem!_pos _ j hs]
theorem abl(f:α->Array aB)(k:Nat){w:ak}{g n:Nat}{os:Array Obj}{cur:Array aB}{e:bF}{fr:Nat×Nat}(d:Array α)(hb:w.a[g]? = some (.D cur e fr)):
 (sortWorldK (fun x=>(f x).a) k w g 0 n d os).a[g]? = some (.D (Sort.putCells id 0 (Sort.flatK (fun x=>(f x).a) k d) cur) e fr):=by
 have hg:g<w.a.j:=(bW.1 hb).1;unfold sortWorldK Sort.putRowK;rw[Sort.heap_grow_old _ _ (by simpa using hg)];simp[Sort.putRow,Sort.mapBlock,Sort.ahead,zy,hb,Sort.onCells]
theorem Sw(f:α->Array aB)(k:Nat){w:ak}{g n:Nat}{os:Array Obj}(d:Array α):w.d (sortWorldK (fun x=>(f x).a) k w g 0 n d os) (some g):=by
 unfold sortWorldK Sort.putRowK;refine⟨rfl,rfl,rfl,by simp,fun j hj hne=>?_⟩;rw[Sort.heap_grow_old _ _ (by simpa using hj)];have:g≠j:=fun e=>hne (by rw[e])
 simp[Sort.putRow,Sort.mapBlock,Sort.ahead,zy,this]
theorem Sy(f:α->Array aB)(k:Nat)(hk:∀x,(f x).j=k){w:ak}{base g cap n:Nat}{e:bF}{os:Array Obj}{cur:Array aB}{l l':List α}(hl:l'.a=l.a)(hbase:base<=g)(hb:w.a[g]? = some (.D cur e (0,0)))
 (h1:l.a<=cap) (h2:cap<=maxLen) (h3:cur.j=cap*k):(sortWorldK (fun x=>(f x).a) k w g 0 n l'.b os).c base e k (.a (some ⟨g,0,none⟩) l.a cap) l.a (l'.h fun x=>(f x).a):=by
 have hle:l.a*k<=cap*k:=dw k h1;refine⟨by rw[sW f k hk,hl],.b ⟨g,cap,_,rfl,hbase,abl f k _ hb,h1,h2,by simp[Sort.putCells,h3],?_⟩⟩;rw[<-Wr f k hk l'];apply iL;intro j;by_cases hj:j<l.a*k
 ·have hs:j<(Sort.flatK (fun x=>(f x).a) k l'.b).j:=by rw[xH];simp[hl];exact hj
  rw[gY hj,dD,dD,fD hs];simp only[Sort.putCells,Array.getElem?_mapIdx];rw[fD (by omega)];simp only[lV,je,true_and,bB,hs,if_true,Nat.sub_zero,id];rw[getElem!_pos _ j hs]
 ·rw[List.getElem?_take_eq_none (by omega),aS (by simp[xH,hl];omega)]
open Go.Shelf in
theorem YU {P:eG} {ρ:Ren} (L:SlLaysF0.n6 P ρ) (k:Nat) (aE:∀w,(isAgg (ρ.t 24)).I P w = .Z true w) (zE:∀w,(Go.sizeOf (ρ.t 24)).I P w = .Z k w) (f:α->Array aB) (hk:∀x,(f x).j=k) (h1:∀x,(f x).all (·.h)=true) (cf:α->α->Int) (hO:Sort.SWO (ltOf cf)) (g:Nat)
 (eg:∀args w,(callFunc g args).I P w = .Z (.enter g args) w) (base:Nat) (T:bF) (A:Option aT) (n c:Nat) (l:List α) (w:ak) (hn:l.a=n) (hn2:n<=1000000) (ho:w.c base T k (.a A n c) n (l.h fun x=>(f x).a))
 (hcmp:∀x y W,aP P g #[.d (f x),.d (f y)] W (gD W (.b .a (cf x y)))) :
 aP P (ρ.f 6) #[.a A n c,.func (.func g) #[] #[]] w fun e w'=>e=.a (.J #[])/\∃l':List α,l'.Perm l/\l'.Pairwise (fun x y=>ltOf cf y x=false)/\w'.c base T k (.a A n c) n (l'.h fun x=>(f x).a)/\w.d w' (bD A n c).f:=by
 subst hn;rcases ho.2 with⟨hv,h0⟩|⟨b,cap,cur,hv,h2,h3,h4,h5,h6,h7⟩
 ·injection hv with e1 e2 e3
  subst e1 e3;have hnil:l=[]:=bE h0;subst hnil;refine(AnyF.slices_SortFunc_none L none 0 _ w).g ?_;rintro e w' ⟨rfl,rfl⟩;exact⟨rfl,[],.refl _,.nil,ho,World.grownBy.refl _ _⟩
 ·injection hv with e1 e2 e3
  subst e1 e3;have hg:b<w.a.j:=(bW.1 h3).1;have hH:=Sv f k hk (l:=l) h3 h7;have hc:CmpLays P g #[] (fun x=>(f x).a) k cf b 0 l.b.j w:=by
   intro m os dk _ x y;refine(Calls.axj (hcmp x y _)).g ?_;rintro e w' ⟨rfl,q,os',hw⟩;exact⟨rfl,q,os',hw⟩
  have:=AnyQ.slices_SortFunc L k aE zE (fun x=>(f x).a) (fun x=>by simp[hk]) (fun x v hv=>by
   have:=h1 x;rw[xG]at this;exact this v (by simpa using hv)) cf hO g #[] b 0 c l.b w eg hc hH hg (by simp;omega)
  rw[show l.b.j=l.a by simp]at this;refine this.g ?_;rintro e w' ⟨rfl,d',nn,os,hp,hs,rfl⟩;obtain⟨p1,p2,p3⟩:=hp;have hsz:d'.j=l.a:=by simpa using p1
  refine⟨rfl,d'.a,?_,?_,?_,Sw f k d'⟩
  ·have e1:d'.m 0 l.a=d':=by rw[<-hsz];simp
   have e2:l.b.m 0 l.a=l.b:=by simp
   rw[e1,e2]at p3;simpa using p3
  ·rw[fT]
   intro i j hi hj hij;have:=hs i j (je _) hij (by simpa[hsz]using hj);rw[getElem!_pos _ j (by simpa using hj),getElem!_pos _ i (by simpa using hi)]at this;simpa using this
  ·have:=Sy f k hk (l:=l) (l':=d'.a) (n:=nn) (os:=os) (e:=T) (by simp[hsz]) h2 h3 h4 h5 h6
   simpa using this
end
theorem af3(l:List UInt8):Lib.bytesOf (l.map fun b=>((b.e:Nat):Int))=l:=by
 unfold Lib.bytesOf;rw[Hq]
 conv=>rhs;rw[<-List.map_id l]
 apply BR;intro b _;simp
theorem Jg{P:eG}{w:ak}{B n:Nat}{A:Option aT}{l:List UInt8}(h:fU w B A n l)(c:Nat):(ug (.a A n c)).I P w = .Z (bT l) w:=by
 have hl:=h.len;rcases eu n with h0|h0
 ·subst h0
  obtain rfl:l=[]:=bE hl;cases A with
  | none=>simp[ug,bT];rfl
  | some a=>simp[ug,Extern.Bytes.loadBytes,bT];rfl
 ·obtain⟨a,rfl,_,hc⟩:=h.2 h0
  have:=Lib.run_loadBytesX (P:=P) w (l.map fun b=>((b.e:Nat):Int)) a .empty (fun j x hj=>by
   rw[jk]at hj;refine hc j _ ?_;rw[jk];cases hj2:l[j]? with
   | none=>rw[hj2]at hj;cases hj
   | some b=>rw[hj2]at hj;simp at hj;subst hj;rfl)
  rw[bU,hl,af3]at this;show Jr P (Extern.Bytes.loadBytes a n .empty) w=_;rw[this];congr 1;exact congrArg ByteArray.mk (by show #[]++l.b=l.b;simp)
theorem Xy{w:ak}{B C n m:Nat}{A A':Option aT}{l k:List UInt8}(h:fU w B A n l)(h':fU w C A' m k)(c c':Nat):(callFunc 263 #[.a A n c,.a A' m c']).I ah w = .Z (.value (.b .a (mD l k))) w:=by
 rw[run_callFunc_extern Tryz.func263 (by kernel_rfl) (by kernel_rfl) (by kernel_rfl) (e:=Extern.BytealgCompare.compare) (by kernel_rfl)];have:(Extern.BytealgCompare.compare #[.a A n c,.a A' m c']).I ah w = .Z (.b .a (mD l k)) w:=by
  change Jr ah (do pure (goInt (Extern.BytealgCompare.cmp (<-ug (.a A n c)) (<-ug (.a A' m c'))))) w=_;simp only[jK,Jg h,Jg h',oh,iD];rw[Lib.cmp_eq];rfl
 rw[this];rfl
theorem Qy{w:ak}{n m:Nat}{A A':Option aT}{l k:List UInt8}(h:fU w w.a.j A n l)(h':fU w w.a.j A' m k)(c c':Nat):aP ah 194 #[.a A n c,.a A' m c'] w fun e w'=>e=.a (.b .a (mD l k))/\w=w':=by
 have hc:=Xy h h' c c';go_enter Tryz.func194,Tryz.ntmps194;go_wp2;go_ret;exact⟨rfl,rfl⟩
def abm(a b:Fw):Int:=if a.no=b.no then mD (LW a.key) (LW b.key)else a.no-b.no
theorem abn(a b:Fw):ltOf abm a b=lI a b:=by
 unfold ltOf abm lI;by_cases h:a.no=b.no
 ·rw[if_pos h,if_pos h,xM]
 ·rw[if_neg h,if_neg h]
  exact decide_eq_decide.2 (by omega)
theorem oP{W:ak}{b:Nat}{x:Fw}(h:dK W b x.ay):(wS (.c (some ⟨b,0,none⟩))).I ah W = .Z (.d x.key.ay) W:=by
 have hs:dY x.ay=41:=Fw.G x;have e:x.ay.m 0 37=x.key.ay:=by
  unfold Fw.ay;simp[dA,Tu.G,pW (Tu.G _)]
 rw[Ti W b 0 (of_eq_true (h.K.2.2.1 0 37 (by omega))),h.K.2.2.2 0 37 (by omega),bB,e]
theorem Rk(a b:Fw)(ha:wT a.key)(hb:wT b.key)(na:0<=a.no/\a.no<=1152921504606846976)(nb:0<=b.no/\b.no<=1152921504606846976)(w:ak):
 aP ah 117 #[.d a.ay,.d b.ay] w (gD w (.b .a (abm a b))):=by
 have Z0:=ab (((Bx.start w).new a.ay 86).new b.ay 86);rw[show(w.alloc (.D a.ay 86)).a.j=w.a.j+1 by simp]at Z0;have C1:=ab (fun W=>Jf a.key ha W);have C2:=ab (fun W=>Jf b.key hb W);obtain⟨l,hl⟩:=cB (LW a.key);obtain⟨k,hk⟩:=cB (LW b.key);rw[<-hl]at C1;rw[<-hk]at C2;have HL:=ab hl;have HK:=ab hk;clear hl hk;go_enter Tryz.func117,Tryz.ntmps117;go_upto_region 1 with fail
 generalize(w.alloc (.D a.ay 86)).alloc (.D b.ay 86)=w1 at Z0 ⊢;have s1:=(Z0.i.b1.K.1 40).trans (Fw.aaG a);have s2:=(Z0.i.S.K.1 40).trans (Fw.aaG b);have l1:=oP Z0.i.b1;have l2:=oP Z0.i.S;by_cases h:a.no=b.no
 ·have t1:decide (a.no=b.no)=true:=by simp[h]
  have t2:(a.no==b.no)=true:=by simp[h]
  have t3:decide (a.no≠b.no)=false:=by simp[h]
  have t4:(a.no != b.no)=false:=by simp[h]
  have HC:=ab (show abm a b=mD l k by unfold abm;rw[if_pos h,<-HL.i,<-HK.i]);clear h;have KS:=ab (fun(w':ak) (h:Bx [(w.a.j+1,b.ay),(w.a.j,a.ay)] w w')=>show(wS (.c (some ⟨w.a.j,0,none⟩))).I ah w' = .Z (.d a.key.ay) w'/\(wS (.c (some ⟨w.a.j+1,0,none⟩))).I ah w' = .Z (.d b.key.ay) w' from⟨oP h.b1,oP h.S⟩);go_wp2_with fail;go_region_held_law (fun w'=>(wS (.c (some ⟨w.a.j,0,none⟩))).I ah w' = .Z (.d a.key.ay) w'/\(wS (.c (some ⟨w.a.j+1,0,none⟩))).I ah w' = .Z (.d b.key.ay) w')
   (first|exact KS.i _ Z0.i.drew|exact KS.i _ Z7.i|exact KS.i _ Z6.i|exact KS.i _ Z5.i|go_keep)
   (first
   | (go_at_call 98;(with_reducible refine(C1.i _).g ?_);rintro e w5 ⟨A5,c5,rfl,TN,hb5⟩;first|(have R5:=ab TN;have Z5:=ab (Z6.i.go hb5);have R6:=ab (R6.i.go hb5))|(have R5:=ab TN;have Z5:=ab (Z0.i.drew.go hb5));clear TN hb5)
   | (go_at_call 98;(with_reducible refine(C2.i _).g ?_);rintro e w6 ⟨A6,c6,rfl,ho6,hb6⟩;first|(have R6:=ab ho6;have Z6:=ab (Z5.i.go hb6);have R5:=ab (R5.i.go hb6))|(have R6:=ab ho6;have Z6:=ab (Z0.i.drew.go hb6));clear ho6 hb6)
   | (go_at_call 194;(with_reducible refine(Qy R5.i R6.i _ _).g ?_);rintro e w7 ⟨rfl,rfl⟩))
  all_goals go_wp2
  all_goals go_ret
  all_goals(refine⟨by rw[HC.i];rfl,?_⟩;first|exact Z6.i.R|exact Z5.i.R)
 ·have t1:decide (a.no=b.no)=false:=by simp[h]
  have t2:(a.no==b.no)=false:=by simp[h]
  have t3:decide (a.no≠b.no)=true:=by simp[h]
  have t4:(a.no != b.no)=true:=by simp[h]
  have HC:=ab (show abm a b=a.no-b.no by unfold abm;rw[if_neg h]);have i1:=jS (a.no-b.no) (by omega);clear h;go_wp2;go_ret;exact⟨by rw[HC.i];rfl,Z0.i.R⟩
theorem Rl(a b:Fw)(ha:wT a.key)(hb:wT b.key)(na:0<=a.no/\a.no<=1152921504606846976)(nb:0<=b.no/\b.no<=1152921504606846976)(w:ak):
 aP ah 49 #[.d a.ay,.d b.ay] w (gD w (.e (lI a b))):=by
 have Z0:=ab (((Bx.start w).new a.ay 86).new b.ay 86);rw[show(w.alloc (.D a.ay 86)).a.j=w.a.j+1 by simp]at Z0;have C1:=ab (fun W=>Rk a b ha hb na nb W);obtain⟨r,hr⟩:=cB (abm a b);obtain⟨o,ho⟩:=cB (lI a b);rw[<-hr]at C1;have t1:decide (r<0)=o:=by rw[ho,<-abn,hr];rfl
 have HO:=ab ho;clear hr ho;go_enter Tryz.func49,Tryz.ntmps49;go_upto_region 1 with fail
 generalize(w.alloc (.D a.ay 86)).alloc (.D b.ay 86)=w1 at Z0 ⊢;have l1:=kK Z0.i.b1;have l2:=kK Z0.i.S;go_wp2_with (go_at_call 117;(with_reducible refine(C1.i _).g ?_);rintro e w5 ⟨rfl,hb5⟩;have Z5:=ab (Z0.i.go hb5);clear hb5);go_ret;exact⟨by rw[HO.i];rfl,Z5.i.R⟩
section
open Go.RowKit Go.Shelf
attribute [local go_sem] qo
theorem Gf{β:Type}{B:Nat}{J:β->ak->Prop}(h:AbidesFrom B J){s:β}{W:ak}(hs:J s W)(o:Obj):J s (W.alloc o):=h s W _ none hs (World.grownBy_alloc W o none) (fun r e=>by cases e)
theorem abo(F:Kl)(n:Nat)(hf:F.fn 239)(hro:F.round=none)(hn:1<=n)(l Bs n₀ B0:Nat)(A:Option aT)(len cap:Nat)(zs:List oU)(hlen:len<=100000)(J Jx:List oU->ak->Prop)(hJ:AbidesFrom B0 J)
 (hY:∀pre x W,J pre W->pre.a<len->YieldAt F (n-1) ah l #[.d x.ay] W fun e W'=>
  (e=.a (.e true)/\J (pre++[x]) W'/\aL n₀ W W')\/(e=.a (.e false)/\Jx (pre++[x]) W'))
 (W:ak) (hn₀:n₀<=W.a.j) (Qe:W.b ⟨Bs,0,none⟩=some (.a A len cap)) (hR:iJ oU.ay 2 W n₀ A len zs) (h0:J [] W) :
 LQ F n ah 239 #[.func (.yield l) #[] #[],.c (some ⟨Bs,0,none⟩)] W fun e W'=>(∃v,e=.a v) /\
  ((∃ys,ys=zs/\J ys W')\/(∃pre,pre <+: zs/\Jx pre W')):=by
 have hzl:=hR.1;refine callsIn_of_wp Tryz.func239 rfl hf ?_ hro;simp only[Tryz.ntmps239,dI,bC,gL,kN,kP,gy,gB,iN,gP,dF,gZ];gi_wp2;gi_loopw [7] (fun i wr=>∃k:Nat,k<=len/\i=.b .a k/\J (zs.d k) wr/\aL n₀ W wr)
  (fun i _=>len-(intOf i).e)
 case atStart=>exact⟨0,je _,rfl,h0,aG _ _⟩
 case round=>
  obtain⟨k,hk,rfl,hJs,hnx⟩:=hrel;by_cases hlt:k<len
  ·have hki:(k:Int)<len:=by omega
   obtain⟨b,o,rfl,hbb,hh,hc⟩:=iJ.fI oU.AQ lg (hR.O hnx) hlt;obtain⟨x,hx⟩:=cB (zs.c k lg);rw[<-hx]at hc;have Dx:=ab (show zs.d k++[x]=zs.d (k+1)by rw[hx];exact lN lg zs k (by omega));clear hx hbb;have bx:=dK.new wr x.ay 151;have hld:=Wn bx;have hsz:=hnx.j;obtain⟨fn,tmps,assign,body,hy,hRd⟩:=hY _ x (wr.alloc (.D x.ay 151)) (Gf hJ hJs _) (by rw[bK];omega);have Qz:=ab (hnx.alloc (by omega) (.D x.ay 151));clear bx;gi_wp2;refine hRd.g ?_;rintro e W3 (⟨rfl,hJ3,hk3⟩|⟨rfl,hJx3⟩)
   ·gi_wp2
    go_roundw
    case rel=>exact⟨k+1,by omega,by simp,by rw[<-Dx.i];exact hJ3,Qz.i.trans hk3⟩
    case measure=>simp[intOf];omega
   ·gi_wp2
    refine aN (vk rfl _ _ _) rfl ?_;exact⟨⟨_,rfl⟩,.b ⟨_,by rw[Dx.i];exact List.take_prefix _ _,hJx3⟩⟩
  ·obtain rfl:k=len:=by omega
   have hd:decide ((k:Int)<k)=false:=by simp
   gi_wp2;go_end0;exact⟨⟨_,rfl⟩,.a ⟨_,aK (by omega),hJs⟩⟩
theorem abp(A:Option aT)(len cap:Nat)(w:ak):
 aP ah 164 #[.a A len cap] w fun e w'=>e=.a (.func (.func 239) #[] #[.c (some ⟨w.a.j,0,none⟩)])/\w.alloc (.D #[.a A len cap] 75)=w':=by
 go_enter Tryz.func164,Tryz.ntmps164;go_wp2;go_ret;exact⟨rfl,rfl⟩
theorem Ws(F:Kl)(n:Nat)(hf:F.fn 239)(hro:F.round=none)(hn:1<=n)(Bs n₀:Nat)(A:Option aT)(len cap:Nat)(zs:List oU)(hlen:len<=100000)(w:ak)(Qe:Bs<w.a.j)(hn₀:n₀<=w.a.j)
 (hc:w.b ⟨Bs,0,none⟩=some (.a A len cap)) (hR:iJ oU.ay 2 w n₀ A len zs) :
 vN F n ah 239 #[.c (some ⟨Bs,0,none⟩)] (fun x:oU=>#[bY x.ay]) (aL n₀) (fun ys=>ys=zs) (fun pre=>pre <+: zs) len w:=fun l J Jx W hW hJ _ hY h0=>by
 have hc':=(hW.cell (p:=⟨Bs,0,none⟩) Qe).trans hc;exact abo F n hf hro hn l Bs n₀ W.a.j A len cap zs hlen J Jx hJ hY W (aO hn₀ hW.j) hc' (hR.to hW hn₀) h0
theorem ajF(x y:oU)(w:ak):aP ah 165 #[.d x.ay,.d y.ay] w (gD w (.b .a (mD x.E y.E))):=by
 have Z0:=ab (((Bx.start w).new x.ay 151).new y.ay 151);rw[show(w.alloc (.D x.ay 151)).a.j=w.a.j+1 by simp]at Z0;have CC:=ab (fun W=>QL x.E y.E W);go_enter Tryz.func165,Tryz.ntmps165;go_upto_region 1 with fail
 generalize(w.alloc (.D x.ay 151)).alloc (.D y.ay 151)=w1 at Z0 ⊢;have c1:=(Z0.i.b1.K.1 0).trans (oU.zu x);have c2:=(Z0.i.S.K.1 0).trans (oU.zu y);go_wp2_with (go_at_call 166;(with_reducible refine(CC.i _).g ?_);rintro e w2 ⟨rfl,rfl⟩);go_ret;exact⟨rfl,Z0.i.R⟩
def YV(x y:oU):Int:=mD x.E y.E
theorem ajG:Sort.SWO (ltOf YV):=by
 have e:∀x y,ltOf YV x y=bQ x.E y.E:=fun x y=>by rw[xM];rfl
 refine⟨fun x=>?_,fun x y z h1 h2=>?_,fun x y z h1 h2=>?_⟩
 ·rw[e];exact sG _
 ·rw[e]at *;exact xV _ _ _ h1 h2
 ·rw[e]at *;exact II h2 h1
def Wt(l:List oU):Prop:=l.Pairwise fun x y=>bQ x.E y.E=true
theorem amX{l l':List oU}(h:Wt l)(hp:l'.Perm l)(hs:l'.Pairwise fun x y=>ltOf YV y x=false):l'=l:=by
 have e:∀x y,ltOf YV x y=bQ x.E y.E:=fun x y=>by rw[xM];rfl
 have hst:Iu (fun x y:oU=>bQ x.E y.E):=⟨fun x=>sG _,fun x y z h1 h2=>xV _ _ _ h1 h2⟩
 have hnd:l'.Pairwise fun x y=>x.E≠y.E:=by
  refine(hp.pairwise_iff (fun{a b} (hab:a.E≠b.E)=>Ne.symm hab)).2 (h.imp ?_);intro a b hab heq;rw[heq,sG]at hab;cases hab
 have h':Asc (fun x y:oU=>bQ x.E y.E) l':=by
  refine(hs.and hnd).imp ?_;rintro a b ⟨h1,h2⟩;rw[e]at h1;cases h3:bQ a.E b.E
  ·exact absurd (zG _ _ h3 h1) h2
  ·exact h3
 exact Asc.eq hst h' h hp
theorem amY(w:ak):(isAgg 151).I ah w = .Z true w:=by simp[isAgg,dJ Tryz.underlying151]
theorem aqg(w:ak):(Go.sizeOf 151).I ah w = .Z 2 w:=by
 obtain⟨i,hi,hi2,_⟩:=auO.afB;rw[run_sizeOf w hi];have hc:ah.cellsOf 151=2:=by simp[Program.cellsOf,hi,hi2]
 rw[hc]
theorem Wu{B base size n:Nat}{e:bF}{v:aB}{xs:List aB}{w w1 w2:ak}(hb:aL B w w1)(ho:w1.c base e size v n xs)(hB:B<=base)(hB2:B<=w.a.j)(hg:w1.d w2 v.f):aL B w w2:=by
 refine⟨hg.os.trans hb.os,hg.tape.trans hb.tape,hg.output.trans hb.output,aO hb.j hg.j,fun k hk=>?_⟩;refine(hg.block k (eY (eY hk hB2) hb.j) (fun e2=>?_)).trans (hb.block k hk)
 ·rcases ho.2 with⟨rfl,_⟩|⟨g,cap,cur,rfl,h2,h3,_⟩
  ·cases e2
  ·injection e2 with e2
   dsimp at e2;omega
theorem af4(l:List oU)(hl:l.a<=1000000)(W:ak)(base:Nat)(A:Option aT)(c:Nat)(h:W.c base 151 2 (.a A l.a c) l.a (l.h fun x=>x.ay.a)):
 aP ah 238 #[.a A l.a c,.func (.func 165) #[] #[]] W fun e w'=>e=.a (.J #[])/\∃l':List oU,l'.Perm l/\l'.Pairwise (fun x y=>ltOf YV y x=false)/\w'.c base 151 2 (.a A l.a c) l.a (l'.h fun x=>x.ay.a)/\W.d w' (bD A l.a c).f:=
 YU aqe 2 amY aqg oU.ay oU.G oU.cO YV ajG 165 (fun args w=>rfl) base 151 A l.a c l W rfl hl h ajF
theorem NQ(gf:Nat)(lb:Array aB)(eg:∀args w,(callFunc gf args).I ah w = .Z (.enter gf args) w)(l:List oU)(hs:Wt l)(hN:l.a<=100000)(w:ak)(hseq:vN nG 5 ah gf lb (fun x:oU=>#[bY x.ay]) (aL w.a.j) (fun ys=>ys=l) (fun pre=>pre <+: l) l.a w):
 aP ah 163 #[.func (.func gf) #[] lb,.func (.func 165) #[] #[]] w fun e W'=>
  ∃A' c',e=.a (.a A' l.a c')/\W'.c w.a.j 151 2 (.a A' l.a c') l.a (l.h fun x=>x.ay.a)/\aL w.a.j w W':=by
 have CO:=ab (Wp gf lb eg (fun ys=>ys=l) (fun pre=>pre <+: l) l.a hN w hseq);have SO:=ab (fun(W:ak) (A:Option aT) (c:Nat) h=>af4 l (by omega) W w.a.j A c h);clear hseq;go_enter Tryz.func163,Tryz.ntmps163;go_wp2_with fail;refine CO.i.g ?_;rintro e w1 ⟨ys,rfl,A1,c1,rfl,ho,hb⟩;have SO1:=ab (SO.i w1 A1 c1 ho);have HB:=ab hb;have HO:=ab ho;have HS:=ab hs;clear hb ho hs SO CO;obtain⟨m,hm⟩:=cB ys.a;rw[<-hm]at HO SO1 ⊢;have HM:=ab hm;clear hm;go_wp2_with fail;refine SO1.i.g ?_;rintro e w2 ⟨rfl,l',hp,hpw,ho2,hg⟩;obtain rfl:=amX HS.i hp hpw;have H2:=ab ho2;have HG:=ab hg;clear ho2 hg hp hpw;go_wp2;go_ret;obtain rfl:=HM.i;exact⟨A1,c1,rfl,H2.i,Wu HB.i HO.i (av _) (av _) HG.i⟩
theorem abq(l:List oU)(hs:Wt l)(A:Option aT)(n c:Nat)(w:ak)(hR:iJ oU.ay 2 w w.a.j A n l)(hn:n<=100000):
 aP ah 80 #[.a A n c] w fun e w'=>∃A' c',e=.a (.a A' n c')/\iJ oU.ay 2 w' w'.a.j A' n l/\aL w.a.j w w':=by
 have hl:=hR.1;have w1s:=(dK.new w #[.a A n c] 75)
 have hB1:aL w.a.j w (w.alloc (.D #[.a A n c] 75)):=(aG _ _).alloc (av _) _;have hR1:=hR.up (.D #[.a A n c] 75);have SQ:=ab (Ws nG 5 trivial rfl (by omega) w.a.j (w.alloc (.D #[.a A n c] 75)).a.j A n c l (by omega) (w.alloc (.D #[.a A n c] 75)) w1s.lt (av _) (w1s.K.1 0) hR1);have VA:=ab (abp A n c w);generalize hw:w.alloc (.D #[.a A n c] 75)=w1 at *;have SF:=ab (NQ 239 #[.c (some ⟨w.a.j,0,none⟩)] (fun args w=>rfl) l hs (by omega) w1 (by rw[hl];exact SQ.i));have HB1:=ab hB1;have HR1:=ab hR1;clear hw w1s hB1 hR1 hR SQ;go_enter Tryz.func80,Tryz.ntmps80;go_wp2_with fail;refine VA.i.g ?_;rintro e w2 ⟨rfl,rfl⟩;go_wp2_with fail;refine SF.i.g ?_;rintro e w2 ⟨A1,c1,rfl,ho,hb⟩;have HO:=ab ho;have HB:=ab hb;clear ho hb;subst hl;go_wp2;go_ret;refine⟨A1,c1,rfl,iJ.iQ rfl HO.i,?_⟩;have h1:=HB1.i;have h2:=HB.i;exact⟨h2.os.trans h1.os,h2.tape.trans h1.tape,h2.output.trans h1.output,aO h1.j h2.j,fun k hk=>(h2.block k (eY hk h1.j)).trans (h1.block k hk)⟩
end
theorem af5(key:Vector UInt8 16)(A:Option aT)(n c:Nat)(s:List UInt8)(tag:UInt8)(a:Int)(ha:a=(tag.e:Int))(w:ak)(hr:fU w w.a.j A n s)(hn:n<=1000000):aP ah 97 #[.d (jd key),.a (some ⟨w.a.j+1,0,none⟩) 2 2] ((w.alloc (.D #[.b .b a] 5)).alloc (.D (yK [⟨A,n,c⟩,⟨some ⟨w.a.j,0,none⟩,1,1⟩]) 56)) (gD w (.b .c (xQ key (s++[tag])))):=by
 have hl:=hr.len;have e1:(w.alloc (.D #[.b .b a] 5)).a.j=w.a.j+1:=by simp
 have h1:=((hr.alloc (av _) (.D #[.b .b a] 5)).lF (show w.a.j<=w.a.j+1 by omega))
 have h2:=Eo w tag a ha;have R:=RdS.lit (w.alloc (.D #[.b .b a] 5)) [⟨A,n,c⟩,⟨some ⟨w.a.j,0,none⟩,1,1⟩] 56;rw[e1]at R;have up:∀{A:Option aT} {n:Nat} {l:List UInt8},fU (w.alloc (.D #[.b .b a] 5)) (w.a.j+1) A n l->fU ((w.alloc (.D #[.b .b a] 5)).alloc (.D (yK [⟨A,n,c⟩,⟨some ⟨w.a.j,0,none⟩,1,1⟩]) 56)) ((w.alloc (.D #[.b .b a] 5)).alloc (.D (yK [⟨A,n,c⟩,⟨some ⟨w.a.j,0,none⟩,1,1⟩]) 56)).a.j A n l:=fun h=>(h.alloc (by rw[e1];omega) _).lF (by simp)
 have go:∀{A:Option aT} {n:Nat} {l:List UInt8} (ob:Obj),fU (w.alloc (.D #[.b .b a] 5)) (w.a.j+1) A n l->fU ((w.alloc (.D #[.b .b a] 5)).alloc ob) ((w.alloc (.D #[.b .b a] 5)).alloc ob).a.j A n l:=fun ob h=>(h.alloc (by rw[e1];omega) _).lF (by simp)
 refine(YT key [⟨A,n,c⟩,⟨some ⟨w.a.j,0,none⟩,1,1⟩] [s,[tag]] _ 2 2 _ R (.cons (go _ h1) (.cons (go _ h2) .nil)) (by omega) (by simp[yC];omega) (s++[tag]) (by simp) (by simp;omega)).g ?_;rintro e w' ⟨rfl,hb⟩;exact⟨rfl,(((aG _ w).alloc (av _) _).alloc (by simp) _).trans (hb.g (by simp;omega))⟩
theorem NT(key:Vector UInt8 16)(s:List UInt8)(tag:UInt8)(a:Int)(ha:a=(tag.e:Int))(b:Nat)(z:Int)(hz:z=b)(hb:1<=b)(hb2:b<=1000000)(hs:s.a<=1000000)(r:Nat)(hr:xQ key (s++[tag])%b=r)(kb nb:Nat)(W:ak)(hk:dK W kb (jd key))(hn:dK W nb #[.g (bT s)]):
 aP ah 167 #[.b .b a,.b .a z,.c (some ⟨kb,0,none⟩),.c (some ⟨nb,0,none⟩)] W (gD W (.b .a (r:Nat))):=by
 subst hz;have l1:=Wq.nC hk (dL _);have l2:=hn.K.1 0;have l2:W.b ⟨nb,0,none⟩=some (.g (bT s)):=l2;have TW:=ab (apq W s);have hcv:=Ic (P:=ah) 9 56 5 iO cu lC s W;obtain⟨W3,hW3⟩:=cB (su W 5 s);rw[<-hW3]at hcv TW;obtain⟨cc,hcc⟩:=tN (grownCap W s.a 0 5);rw[hcc]at hcv;obtain⟨h,hh⟩:=cB (xQ key (s++[tag]));have CS:=ab (af5 key (some ⟨W.a.j,0,none⟩) s.a cc s tag a ha W3 TW.i.1 hs);rw[<-hh]at CS;have HH:=ab hh;have w1:jy.wrap (b:Int)=b:=by rw[jU];omega
 have w2:((h:Int)%(b:Int))=((h%b:Nat):Int):=by omega
 rw[<-hh]at hr;have hlt:=fH h (show 0<b by omega);have w3:=jS ((h%b:Nat):Int) (by omega);have hb0:¬(b:Int)=0:=by omega
 have hb1:¬b=0:=by omega
 rw[hr]at w2 w3 hlt;clear hcc hW3 hh hk hn ha hr;go_enter Tryz.func167,Tryz.ntmps167;go_wp2_with (go_at_call 97;go_loud (with_reducible refine CS.i.g ?_);rintro e w9 ⟨rfl,hb9⟩;have B9:=ab hb9;clear hb9);go_ret;exact⟨rfl,TW.i.2.trans (B9.i.g TW.i.2.j)⟩
theorem Wv(o s n i:Nat)(hn:1<=n)(hn2:n<=100000)(ho:o<=100000)(hs:s<=100000)(hi:i<=1000000000)(W:ak):aP ah 243 #[.b .a o,.b .a s,.b .a n,.b .a i] W fun e W'=>e=.a (.b .a (re o s n (i%n):Nat))/\W=W':=by
 have h1:((i:Int)%(n:Int))=((i%n:Nat):Int):=by omega
 have h0:¬(n:Int)=0:=by omega
 have h0':¬n=0:=by omega
 obtain⟨j,hj⟩:=cB (i%n);have hjl:j<=100000:=by have:=fH i (show 0<n by omega);omega
 rw[<-hj]at h1 ⊢;have hm:j*s<=10000000000:=aO (gU hjl hs) (by decide);have h2:(j:Int)*(s:Int)=((j*s:Nat):Int):=by simp
 obtain⟨p,hp⟩:=cB (j*s);rw[<-hp]at h2 hm;have h3:=jS (p:Int) (by omega);have h4:(o:Int)+(p:Int)=((o+p:Nat):Int):=by omega
 obtain⟨q,hq⟩:=cB (o+p);rw[<-hq]at h4;have h5:=jS (q:Int) (by omega);have h6:(q:Int)%(n:Int)=((q%n:Nat):Int):=by omega
 have HC:=ab (show re o s n j=q%n by rw[hq,hp];rfl);clear hj hp hq;rw[HC.i];go_enter Tryz.func243,Tryz.ntmps243;go_wp2;go_ret;exact⟨rfl,rfl⟩
theorem af6(key:Vector UInt8 16)(s:List UInt8)(n:Nat)(hn:2<=n)(hn2:n<=100000)(hs:s.a<=1000000)(w:ak):aP ah 83 #[.d (jd key),.g (bT s),.b .a n] w (gD w (.J #[.b .a (C8 key s n:Nat),.b .a (Ag key s n:Nat)])):=by
 have Z0:=ab (((Bx.start w).new (jd key) 22).new #[.g (bT s)] 9);rw[show(w.alloc (.D (jd key) 22)).a.j=w.a.j+1 by simp]at Z0;obtain⟨o,ho⟩:=tN (xQ key (s++[0])%n);have HO:=ab (show C8 key s n=o from ho);obtain⟨t,ht⟩:=tN (xQ key (s++[1])%(n-1));obtain⟨t1,ht1⟩:=cB (t+1);have HT:=ab (show Ag key s n=t1 by rw[ht1,<-ht];rfl);have C0:=ab (fun W (h:Bx [(w.a.j+1,#[.g (bT s)]),(w.a.j,jd key)] w W)=>NT key s 0 0 rfl n n rfl (by omega) (by omega) hs o ho w.a.j (w.a.j+1) W h.b1 h.S);have C1:=ab (fun W (h:Bx [(w.a.j+1,#[.g (bT s)]),(w.a.j,jd key)] w W)=>NT key s 1 1 rfl (n-1) ((n:Int)-1) (by omega) (by omega) (by omega) hs t ht w.a.j (w.a.j+1) W h.b1 h.S);have htl:t<n-1:=by rw[<-ht];exact fH _ (by omega)
 have i1:=jS ((n:Int)-1) (by omega);have i2:=jS (t1:Int) (by omega);have i3:(t:Int)+1=(t1:Int):=by omega
 rw[HT.i,HO.i];clear ht ho ht1;go_enter Tryz.func83,Tryz.ntmps83;go_upto_region 1 with fail
 generalize(w.alloc (.D (jd key) 22)).alloc (.D #[.g (bT s)] 9)=w1 at Z0 ⊢;go_wp2_with (first|(go_at_call 167;(with_reducible refine(C0.i _ Z0.i).g ?_);rintro e w5 ⟨rfl,hb⟩;have Z5:=ab (Z0.i.go hb);clear hb)|(go_at_call 167;(with_reducible refine(C1.i _ Z5.i).g ?_);rintro e w6 ⟨rfl,hb⟩;have Z6:=ab (Z5.i.go hb);clear hb));go_ret2;exact⟨rfl,Z6.i.R⟩
def SlA(d:Array aB)(sl:List Int):Prop:=∀j,j<sl.a->d[j]? = some (.b .a (sl.c j 0))
theorem SlA.set{d:Array aB}{sl:List Int}(h:SlA d sl){k:Nat}(v:Int):SlA (d.b k (.b .a v)) (sl.set k v):=by
 intro j hj;rw[aV]at hj;rw[dQ,au,fJ];by_cases e:k=j
 ·subst e
  have:=h k hj;have hlt:k<d.j:=by
   rcases aY k d.j with h1|h1
   ·exact h1
   ·rw[aU h1]at this;cases this
  simp[hj,hlt]
 ·rw[if_neg e,if_neg e,h j hj,au]
theorem am0(o s n i r:Nat)(hr:re o s n (i%n)=r)(hn:1<=n)(hn2:n<=100000)(ho:o<=100000)(hs:s<=100000)(hi:i<=1000000000)(W:ak):aP ah 243 #[.b .a o,.b .a s,.b .a n,.b .a i] W fun e W'=>e=.a (.b .a (r:Nat))/\W=W':=by subst hr;exact Wv o s n i hn hn2 ho hs hi W
theorem af7(tb sb z i n cn o s x f:Nat)(c d:Array aB)(sl:List Int)(W:ak)(hc:dK W tb c)(hd:dK W sb d)(hne:tb≠sb)(h2:c[z+2]? = some (.b .a o))(h3:c[z+3]? = some (.b .a s))(h4:c[z+4]? = some (.b .a x))
 (hsl:SlA d sl) (hl:sl.a=n) (hn:1<=n) (hn2:n<=100000) (hcn:n<=cn) (ho:o<=100000) (hs:s<=100000) (hx:x<=f) (hf:f<n) (hno:∀t,x<=t->t<f->sl.c (re o s n t) 0≠-1) (hyes:sl.c (re o s n f) 0 = -1) :
 aP ah 169 #[.c (some ⟨tb,z,none⟩),.a (some ⟨sb,0,none⟩) n cn,.b .a i] W fun e W'=>e=.a (.J #[])/\dK W' tb (c.b (z+4) (.b .a (f+1:Nat)))/\dK W' sb (d.b (re o s n f) (.b .a i))/\jC [tb,sb] W W':=by
 have HC:=ab hc;have HD:=ab hd;have HNE:=ab hne;have HSL:=ab hsl;have Fh:=ab hno;have HY:=ab hyes;have HL:=ab hl;have H4:=ab h4;clear hc hd hne hsl hno hyes hl h4;have hz4:(c.b (z+4) (.b .a (x:Nat)))=c:=by
  apply dZ;intro j;rw[dQ];split
  ·rename_i e;subst e;rw[H4.i];simp;have:=H4.i;exact(bW.1 this).1
  ·rfl
 have HZ4:=ab hz4;have hcs:z+4<c.j:=(bW.1 H4.i).1;clear hz4;go_enter Tryz.func169,Tryz.ntmps169;go_wp2;go_loopw [] (fun wr=>∃y:Nat,x<=y/\y<=f/\dK wr tb (c.b (z+4) (.b .a (y:Nat)))/\dK wr sb d/\jC [tb,sb] W wr)
  (fun wr=>f-(intOf ((wr.b ⟨tb,z+4,none⟩).c undef)).e)
 case atStart=>exact⟨x,av _,hx,by rw[HZ4.i];exact HC.i,HD.i,jC.refl _ _⟩
 case round=>
  obtain⟨y,hy1,hy2,hb1,hb2,hfr⟩:=hrel;obtain⟨c1,c2,c3,c4⟩:=hb1.K;have k2:=(c1 (z+2)).trans ((dQ ..).trans ((if_neg (by omega)).trans h2));have k3:=(c1 (z+3)).trans ((dQ ..).trans ((if_neg (by omega)).trans h3));have k4:=(c1 (z+4)).trans ((dQ ..).trans ((if_pos rfl).trans (if_pos hcs)));have kf:=c2 (z+4);obtain⟨d1,d2,d3,d4⟩:=hb2.K;have HB1:=ab hb1;have HB2:=ab hb2;have HFR:=ab hfr;have hyn:y%n=y:=fP (by omega);obtain⟨fI,hat⟩:∃a,a=re o s n y:=⟨_,rfl⟩
  have aDF:fI<n:=by rw[hat];exact OX (by omega)
  have CC:=ab (fun w=>am0 o s n y fI (by rw[hyn,hat]) hn hn2 ho hs (by omega) w);obtain⟨v,hv⟩:=cB (sl.c fI 0);have e1:wr.b ⟨sb,fI,none⟩=some (.b .a v):=by rw[d1,HSL.i fI (by rw[HL.i];exact aDF),hv]
  have ef:=d2 fI;obtain⟨y1,hy⟩:=cB (y+1);have i1:(y:Int)+1=(y1:Int):=by omega
  have i2:=jS (y1:Int) (by omega);have ads:(fI:Int)<n:=by omega
  clear c1 c2 c3 c4 d1 d2 d3 d4 hb1 hb2 hfr hyn h2 h3;have HAT:=ab hat;have HV:=ab hv;have X1:=ab (show dK (wr.F ⟨tb,z+4,none⟩ (.b .a y1)) tb (c.b (z+4) (.b .a (y1:Nat)))by have:=HB1.i.eF (z+4) (.b .a y1);rwa [Array.setIfInBounds_setIfInBounds]at this);have X2:=ab (HB2.i.dN ⟨tb,z+4,none⟩ (.b .a y1) HNE.i);have F1:=ab (HFR.i.set ⟨tb,z+4,none⟩ (.b .a y1) (.a (by simp)));have HYV:=ab hy;have e2:(wr.F ⟨tb,z+4,none⟩ (.b .a y1)).b ⟨sb,fI,none⟩=some (.b .a v):=(X2.i.K.1 fI).trans ((HB2.i.K.1 fI).symm.trans e1);have e3:=X2.i.K.2.1 fI;clear e1 ef hat hv hy;go_wp2_with fail;go_quiet ((go_at_call 243;(with_reducible refine(CC.i _).g ?_);rintro e w2 ⟨rfl,rfl⟩;exact⟨rfl,_,rfl⟩));have W1:=ab (show(wr.drewN nq).F ⟨tb,z+4,none⟩ (.b .a y1)=(wr.F ⟨tb,z+4,none⟩ (.b .a y1)).drewN nq from rfl)
  replace k4:(wr.drewN nq).b ⟨tb,z+4,none⟩=some (.b .a y):=k4
  replace kf:(wr.drewN nq).frozen? ⟨tb,z+4,none⟩=false:=kf
  replace e2:((wr.drewN nq).F ⟨tb,z+4,none⟩ (.b .a y1)).b ⟨sb,fI,none⟩=some (.b .a v):=e2
  replace e3:((wr.drewN nq).F ⟨tb,z+4,none⟩ (.b .a y1)).frozen? ⟨sb,fI,none⟩=false:=e3
  clear k2 k3;by_cases hfr:v = -1
  ·have hyf:y=f:=by
    rcases aY y f with h1|h1
    ·exact absurd hfr (by rw[HV.i,HAT.i];exact Fh.i y hy1 h1)
    ·omega
   subst hfr;have HYF:=ab hyf;clear hyf;go_wp2;refine aN (vk rfl _ _ _) rfl ?_;refine⟨rfl,?_,?_,?_⟩
   ·rw[<-HYF.i,<-HYV.i];exact X1.i.dN ⟨sb,fI,none⟩ (.b .a i) (Ne.symm HNE.i)
   ·rw[<-HYF.i,<-HAT.i];exact X2.i.eF fI (.b .a i)
   ·exact(F1.i.drewN nq).set ⟨sb,fI,none⟩ (.b .a i) (.a (by simp))
  ·have hyf:y<f:=by
    rcases aY y f with h1|h1
    ·exact h1
    ·exfalso
     have:y=f:=by omega
     exact hfr (by rw[HV.i,HAT.i,this];exact HY.i)
   go_wp2;go_roundw
   case rel=>exact⟨y1,by omega,by omega,X1.i,X2.i,F1.i.drewN nq⟩
   case measure=>
    have q1:((wr.drewN nq).F ⟨tb,z+4,none⟩ (.b .a y1)).b ⟨tb,z+4,none⟩=some (.b .a y1):=(X1.i.K.1 (z+4)).trans ((dQ ..).trans ((if_pos rfl).trans (if_pos hcs)));have q2:wr.b ⟨tb,z+4,none⟩=some (.b .a y):=k4;rw[q1,q2];simp only[jB,intOf,dS];omega
section
structure Tr where
 uK:Int
 um:Int
 Y:Int
 skip:Int
 next:Int
def Tr.ay(x:Tr):Array aB:=#[.b .a x.uK,.b .a x.um,.b .a x.Y,.b .a x.skip,.b .a x.next]
theorem Tr.G(x:Tr):x.ay.j=5:=by simp[Tr.ay]
theorem Tr.cO(x:Tr):x.ay.all (·.h)=true:=by simp[Tr.ay,cZ]
@[go_sem]theorem Tr.YW(x:Tr):x.ay[0]? = some (.b .a x.uK):=by simp[Tr.ay,aD]
@[go_sem]theorem Tr.ajH(x:Tr):x.ay[1]? = some (.b .a x.um):=by simp[Tr.ay,aD]
@[go_sem]theorem Tr.ajI(x:Tr):x.ay[2]? = some (.b .a x.Y):=by simp[Tr.ay,aD]
@[go_sem]theorem Tr.aqh(x:Tr):x.ay[3]? = some (.b .a x.skip):=by simp[Tr.ay,aD]
@[go_sem]theorem Tr.aqi(x:Tr):x.ay[4]? = some (.b .a x.next):=by simp[Tr.ay,aD]
theorem Tr.Ww(x:Tr)(v:Int):x.ay.b 1 (.b .a v)=({x with um:=v}:Tr).ay:=by simp[Tr.ay,aM]
theorem Tr.am1(x:Tr)(v:Int):x.ay.b 4 (.b .a v)=({x with next:=v}:Tr).ay:=by simp[Tr.ay,aM]
def zf:Tr:=⟨0,0,0,0,0⟩
@[go_sem]theorem ayQ:bY #[bf,bf,bf,bf,bf]=bY zf.ay:=rfl
@[go_sem]theorem auT:eB #[bf,bf,bf,bf,bf] 155=eB zf.ay 155:=rfl
theorem kTr:oO 155 5 zf.ay:=⟨⟨_,Du,rfl⟩,by kernel_rfl,by kernel_rfl,Tr.G _⟩
@[go_sem ↓]theorem aJP(v:aB):bZ 155 v=xI 155 v:=rfl
@[go_sem ↓]theorem aJQ(v x:aB):eD 155 v x=yU 155 v x:=rfl
@[go_sem]theorem aGR(W:ak)(b o:Nat)(h:vw W b o 5):(xI 155 (.c (some ⟨b,o,none⟩))).I ah W = .Z (.d (dM W b o 5)) W:=kTr.ld W b o h
@[go_sem]theorem aDI(W:ak)(c:Array aB)(x:Tr)(b:Nat)(hb:b=W.a.j)(hc:dY c=5):(yU 155 (.c (some ⟨b,0,none⟩)) (.d x.ay)).I ah (W.alloc (.D c 155)) = .Z () (W.alloc (.D x.ay 155)):=kTr.stN W c x.ay b hb hc (Tr.G x) (Tr.cO x)
@[go_sem ↓]theorem aJR(ps:Array (Nat×aB)):fM 155 ps=uH 155 ps:=rfl
theorem aDJ(w:ak)(fs:Array nS)(h:ah.k 155=some (.struct fs)):(iy (fun f=>Prod.mk f.Y <$> sizeOf f.type) fs:Sem (Array (Nat×Nat))).I ah w = .Z #[(0,1),(1,1),(2,1),(3,1),(4,1)] w:=by
 have e:=Du;rw[h]at e;cases e;show _=_
 kernel_rfl
theorem Tr.D(x:Tr)(j:Nat)(hj:j<5):∃v,x.ay[j]? = some v:=⟨x.ay[j]'(by rw[Tr.G];exact hj),by simp[Tr.G,hj]⟩
def TrA(c:Array aB)(l:List Tr):Prop:=∀i,i<l.a->∀j,j<5->c[i*5+j]? = (l.c i zf).ay[j]?
theorem TrA.put{c:Array aB}{l:List Tr}(h:TrA c l){i j:Nat}(hi:i<l.a)(hj:j<5)(v:aB)(y:Tr)(hy:(l.c i zf).ay.b j v=y.ay):TrA (c.b (i*5+j) v) (l.set i y):=by
 intro i2 hi2 j2 hj2;rw[aV]at hi2;have h0:=h i2 hi2 j2 hj2;rw[dQ,au,fJ];by_cases e:i=i2
 ·subst e
  rw[if_pos rfl,if_pos hi,jB,<-hy,dQ];by_cases e2:j=j2
  ·subst e2
   have hlt:i*5+j<c.j:=by
    rcases aY (i*5+j) c.j with h1|h1
    ·exact h1
    ·obtain⟨u,hu⟩:=Tr.D (l.c i zf) j hj
     rw[aU h1,hu]at h0;cases h0
   rw[if_pos rfl,if_pos rfl,if_pos hlt,if_pos (by rw[Tr.G];exact hj)]
  ·rw[if_neg (by omega),if_neg e2,h0]
 ·rw[if_neg (by omega),if_neg e,<-au,h0]
theorem TrA.fI{W:ak}{b:Nat}{c:Array aB}{l:List Tr}(h:TrA c l)(hb:dK W b c){i:Nat}(hi:i<l.a):vw W b (i*5) 5/\dM W b (i*5) 5=(l.c i zf).ay/\W.b ⟨b,i*5,none⟩=some (.b .a (l.c i zf).uK)/\W.b ⟨b,i*5+1,none⟩=some (.b .a (l.c i zf).um)/\W.frozen? ⟨b,i*5+1,none⟩=false:=by
 obtain⟨h1,h2,h3,h4⟩:=hb.K;have hs:i*5+5<=c.j:=by
  obtain⟨u,hu⟩:=Tr.D (l.c i zf) 4 (by omega);have:=h i hi 4 (by omega);rw[hu]at this;have:=(bW.1 this).1;omega
 refine⟨by rw[h3 _ _ (by unfold dY;omega)];trivial,?_,?_,?_,h2 _⟩
 ·rw[h4 _ _ (by unfold dY;omega)]
  apply dZ;intro j;rw[dx];by_cases hj:j<5
  ·rw[if_pos (by omega),h i hi j hj]
  ·rw[if_neg (by omega),aU (by rw[Tr.G];omega)]
 ·rw[h1];have:=h i hi 0 (by omega);rw[nD]at this;rw[this];exact Tr.YW _
 ·rw[h1,h i hi 1 (by omega)];exact Tr.ajH _
theorem Xz(q:List Nat)(i:Nat)(hi:i<q.a):lQ (q.d (i+1))=max (lQ (q.d i)) (q.c i 0):=by
 unfold lQ;rw[dR hi,List.foldl_append,au,aC hi];rfl
structure FiL(g n:Nat)(q o s:List Nat)(m:Mg)(l:List Tr):Prop where
 len:l.a=q.a
 crl:m.cr.a=q.a
 all:∀i,i<q.a->(l.c i zf).uK=q.c i 0/\(l.c i zf).Y=o.c i 0/\(l.c i zf).skip=s.c i 0/\(l.c i zf).um=m.cr.c i 0/\m.cr.c i 0<g/\∃x:Nat,(l.c i zf).next=x/\x<=n/\∀t,t<x->rQ m.sl (re (o.c i 0) (s.c i 0) n t)=false
theorem BF{α:Type}(l:List α)(i j:Nat)(v d:α)(hi:i<l.a):(l.set i v).c j d=if i=j then v else l.c j d:=by
 rw[au,fJ];by_cases h:i=j
 ·subst h;simp[hi]
 ·simp[h,au]
theorem adP{sl:List Int}{k j:Nat}{v:Int}(hv:v≠-1)(h:rQ sl j=false):rQ (sl.set k v) j=false:=by
 unfold rQ at h ⊢;rw[au,fJ];split
 ·split
  ·simpa using hv
  ·simp
 ·rwa [<-au]
def He(o s:List Nat)(n i t:Nat):Nat:=re (o.c i 0) (s.c i 0) n t
variable {g n:Nat} {q o s:List Nat} {m:Mg} {l:List Tr}
theorem FiL.low(h:FiL g n q o s m l){i:Nat}(hi:i<q.a)(hlt:m.cr.c i 0+q.c i 0<g):FiL g n q o s (sF g n q (He o s n) m i) (l.set i {l.c i zf with um:=(m.cr.c i 0+q.c i 0:Nat)}):=by
 have hl:=h.len;have hcl:=h.crl;unfold sF;rw[if_pos hlt];refine⟨by simpa using hl,by simpa using hcl,fun j hj=>?_⟩;rw[BF _ _ _ _ _ (by omega),BF _ _ _ _ _ (by omega)];by_cases e:i=j
 ·subst e
  simp only[if_true];obtain⟨a1,a2,a3,a4,a5,a6⟩:=h.all i hi;exact⟨a1,a2,a3,trivial,hlt,a6⟩
 ·rw[if_neg e,if_neg e]
  exact h.all j hj
theorem FiL.high(h:FiL g n q o s m l){i:Nat}(hi:i<q.a)(hge:¬m.cr.c i 0+q.c i 0<g)(hq:q.c i 0<=g){f:Nat}(hf:f=ff m.sl (He o s n i) n)(hfn:f<n)(hno:∀t,t<f->rQ m.sl (He o s n i t)=false):
 FiL g n q o s (sF g n q (He o s n) m i) ((l.set i {l.c i zf with um:=(m.cr.c i 0+q.c i 0-g:Nat)}).set i {l.c i zf with um:=(m.cr.c i 0+q.c i 0-g:Nat),next:=(f+1:Nat)}):=by
 have hl:=h.len;have hcl:=h.crl;unfold sF;rw[if_neg hge,<-hf,List.set_set];refine⟨by simpa using hl,by simpa using hcl,fun j hj=>?_⟩;rw[BF _ _ _ _ _ (by omega),BF _ _ _ _ _ (by omega)];by_cases e:i=j
 ·subst e
  simp only[if_true];obtain⟨a1,a2,a3,a4,a5,a6⟩:=h.all i hi;refine⟨a1,a2,a3,trivial,by omega,f+1,rfl,by omega,fun t ht=>?_⟩;rcases aY t f with h1|h1
  ·exact adP (by omega) (hno t h1)
  ·have:t=f:=by omega
   subst this;unfold rQ;rw[au,fJ];have e2:He o s n i t=re (o.c i 0) (s.c i 0) n t:=rfl;rw[e2,if_pos rfl];split
   ·simp
   ·simp
 ·rw[if_neg e,if_neg e]
  obtain⟨a1,a2,a3,a4,a5,x,a6,a7,a8⟩:=h.all j hj;exact⟨a1,a2,a3,a4,a5,x,a6,a7,fun t ht=>adP (by omega) (a8 t ht)⟩
theorem FiL.first(h:FiL g n q o s m l){i:Nat}(hi:i<q.a){f x:Nat}(hx:(l.c i zf).next=x)(hfree:rQ m.sl (He o s n i f)=true):x<=f:=by
 obtain⟨_,_,_,_,_,y,b1,b2,b3⟩:=h.all i hi;have:y=x:=by omega
 subst this;rcases aY f y with h1|h1
 ·have:=b3 f h1
  have e2:He o s n i f=re (o.c i 0) (s.c i 0) n f:=rfl;rw[e2,this]at hfree;cases hfree
 ·exact h1
theorem adQ(q:List Nat){i:Nat}(hi:i<q.a):q.c i 0<=lQ q:=by
 have h1:∀(t:List Nat)(b:Nat),b<=t.foldl max b:=by
  intro t
  induction t with
  | nil=>intro b;exact av _
  | cons y t ih=>intro b;rw[jW];exact aO (Nat.le_max_left _ _) (ih _)
 have h2:∀(t:List Nat)(b i:Nat),i<t.a->t.c i 0<=t.foldl max b:=by
  intro t
  induction t with
  | nil=>intro b i hi;simp at hi
  | cons y t ih=>
    intro b i hi;rw[jW];cases i with
    | zero=>exact aO (Nat.le_max_right b y) (h1 t _)
    | succ i=>exact ih _ i (by simpa using hi)
 exact h2 q 0 i hi
variable (g n:Nat) (q o s:List Nat)
def FiS(g n:Nat)(q o s:List Nat)(tb sb:Nat)(W:ak)(J:Nat)(wr:ak):Prop:=∃(l:List Tr)(c d:Array aB),FiL g n q o s (jO g n q (He o s n) J) l/\TrA c l/\SlA d (jO g n q (He o s n) J).sl/\dK wr tb c/\dK wr sb d/\jC [tb,sb] W wr
theorem af8(tb sb k ck n cn g:Nat)(q o s:List Nat)(c d:Array aB)(l0:List Tr)(W:ak)(hg:lQ q=g)(hc:dK W tb c)(hd:dK W sb d)(hne:tb≠sb)(hk:q.a=k)(hT:TrA c l0)(hS:SlA d (dX n (-1)))(hL:FiL g n q o s ⟨q.map fun _=>0,dX n (-1),n⟩ l0)
 (hk1:1<=k) (hk2:k<=100000) (hck:k<=ck) (hn:1<=n) (hn2:n<=100000) (hcn:n<=cn) (hq0:∀x∈q,0<x) (hg2:g<=100000000) (ho:∀i,i<k->o.c i 0<=100000) (hs:∀i,i<k->s.c i 0<=100000) (hf:acu n k (He o s n)) :
 aP ah 85 #[.a (some ⟨tb,0,none⟩) k ck,.a (some ⟨sb,0,none⟩) n cn] W fun e W'=>e=.a (.J #[])/\(∃d',dK W' sb d'/\SlA d' (Ej n q (He o s n)))/\jC [tb,sb] W W':=by
 have hqn:q≠[]:=by intro e;rw[e]at hk;simp at hk;omega
 obtain⟨K,_,hK1,hK2,hK3⟩:=Yn (n:=n) (ch:=He o s n) hqn hq0;rw[hg]at hK1 hK2 hK3;have OK:=ab (fun J (hJ:J<=K)=>ala (g:=g) (n:=n) (q:=q) (ch:=He o s n) (by omega) (by rw[hk];exact hf) J (fun t ht=>hK2 t (by omega)));have HK1:=ab hK1;have HK2:=ab hK2;have HK3:=ab hK3;have HG:=ab hg;have HF:=ab (show acu n q.a (He o s n)by rw[hk];exact hf);have HKQ:=ab hk;have ST0:=ab (show FiS g n q o s tb sb W 0 W from⟨l0,c,d,hL,hT,hS,hc,hd,jC.refl _ _⟩);have HT:=ab hT;have LX:=ab (hL.len.trans hk);have HQ0:=ab (fun i (hi:i<k)=>(hL.all i (by omega)).1);have HO:=ab ho;have HS':=ab hs;have HNE:=ab hne;have HC:=ab hc;have YX:=ab (fun i (hi:i<k)=>(by have:=adQ q (i:=i) (by omega);omega:q.c i 0<=g));have HQP:=ab hq0;clear hK1 hK2 hK3 hg hf hk hL hT hS hc hd ho hs hne hqn hq0;go_enter Tryz.func85,Tryz.ntmps85;go_wp2;go_step3;go_wp2;go_loopw [4,12] (fun s4 s12 wr=>∃i:Nat,i<=k/\s12=.b .a i/\s4=.b .a (lQ (q.d i):Nat)/\dK wr tb c/\FiS g n q o s tb sb W 0 wr) (fun _ s12 _=>k-(intOf s12).e)
 case atStart=>exact⟨0,je _,rfl,rfl,HC.i,ST0.i⟩
 case round=>
  obtain⟨i,hi,rfl,rfl,hbc,hst⟩:=hrel;have HB:=ab hbc;have HST:=ab hst;clear hst;by_cases hlt:i<k
  ·have hli:(i:Int)<k:=by omega
   obtain⟨a1,a2,_,_,_⟩:=HT.i.fI hbc (i:=i) (by rw[LX.i];exact hlt);obtain⟨x,hx⟩:=cB (l0.c i zf);have hxq:x.uK=(q.c i 0:Nat):=by rw[hx];exact HQ0.i i hlt
   rw[<-hx]at a2;have hg1:=Xz q i (by rw[HKQ.i];exact hlt);obtain⟨u,hu⟩:=cB (lQ (q.d i));obtain⟨v,hv⟩:=cB (q.c i 0);obtain⟨z,hz⟩:=cB (lQ (q.d (i+1)));rw[<-hu,<-hv,<-hz]at hg1;rw[<-hv]at hxq;have m1:max (u:Int) (v:Int)=z:=by omega
   have m2:(if(u:Int)<(v:Int)then(v:Int)else(u:Int))=z:=by split<;>omega
   have X1:=ab (dK.new wr x.ay 155);have b0:=X1.i.K.1 0;rw[Tr.YW]at b0;have HZ:=ab hz;rw[<-hu];clear hx hu hv hg1 hz hbc;go_wp2;go_roundw
   case rel=>exact⟨i+1,by omega,by go_num,by rw[<-HZ.i],HB.i.alloc _,by obtain⟨l,c1,d1,y1,y2,y3,y4,y5,y6⟩:=HST.i;exact⟨l,c1,d1,y1,y2,y3,y4.alloc _,y5.alloc _,y6.alloc _⟩⟩
   case measure=>simp[intOf]<;>omega
  ·have hik:i=k:=by omega
   have hd:decide ((i:Int)<k)=false:=by simp;omega
   have HGI:=ab (show lQ (q.d i)=g by rw[hik,<-HKQ.i,List.take_length,HG.i]);rw[HGI.i];clear hik;go_wp2;go_step3;go_wp2;have HKP:=ab (show 0<K by
    rcases eu K with h0|h0
    ·have:=HK1.i;rw[h0]at this;simp[jO]at this;omega
    ·exact h0)
   go_loopw [7] (fun s7 wr=>∃(J r:Nat),J=r*k/\J<K/\s7=.b .a ((jO g n q (He o s n) J).left:Nat)/\FiS g n q o s tb sb W J wr) (fun s7 _=>(intOf s7).e)
   case atStart=>exact⟨0,0,by omega,HKP.i,rfl,HST.i⟩
   case round=>
    obtain⟨J,r,hJ,hJK,rfl,ayT⟩:=hrel;have HJ:=ab hJ;have aDK:=ab ayT;obtain⟨lf,hlf⟩:=cB ((jO g n q (He o s n) J).left);have HLF:=ab hlf;rw[<-hlf];clear hJ ayT hlf hd;go_wp2;go_loopw [7,25] (fun s7 s25 wr=>∃(i J2:Nat),i<=k/\s25=.b .a i/\J2=J+i/\J2<K/\s7=.b .a ((jO g n q (He o s n) J2).left:Nat)/\FiS g n q o s tb sb W J2 wr) (fun _ s25 _=>k-(intOf s25).e)
    case atStart=>exact⟨0,J,je _,rfl,rfl,hJK,by rw[HLF.i],aDK.i⟩
    case round=>
     obtain⟨i2,J2,hi2,rfl,hJ2,ayU,rfl,l,c1,d1,hL,hT,hS,hb1,hb2,hfr⟩:=hrel;have HJ2:=ab hJ2;obtain⟨m,hm⟩:=cB (jO g n q (He o s n) J2);have HM:=ab hm;rw[<-hm]at hL hS;rw[<-hm];clear hJ2 hm;by_cases hlt:i2<k
     ·have hli:(i2:Int)<k:=by omega
      have hiq:i2<q.a:=by rw[HKQ.i];exact hlt
      have MOK:=ab (show aeV n q m by rw[HM.i];exact OK.i J2 (by omega));have hl0:m.left≠0:=by rw[HM.i];exact HK2.i J2 ayU
      have HNX:=ab (show jO g n q (He o s n) (J2+1)=sF g n q (He o s n) m i2 by
       rw[HM.i];show sF g n q (He o s n) _ (J2%q.a)=_;rw[HKQ.i,HJ2.i,HJ.i,Cw,Nat.mul_add_mod,fP hlt])
      obtain⟨e1,e2,e3,e4,e5,x,e6,e7,e8⟩:=hL.all i2 hiq;have hll:i2<l.a:=by rw[hL.len];exact hiq
      obtain⟨_,_,k1,k2,k3⟩:=hT.fI hb1 hll;obtain⟨y,hy⟩:=cB (l.c i2 zf);rw[<-hy]at e1 e2 e3 e4 e6 k1 k2;obtain⟨ci,hci⟩:=cB (m.cr.c i2 0);obtain⟨qi,hqi⟩:=cB (q.c i2 0);rw[<-hci]at e4 e5;rw[<-hqi]at e1;rw[e1]at k1;rw[e4]at k2;have hqg:qi<=g:=by rw[hqi];exact YX.i i2 hlt
      obtain⟨cs,hcs⟩:=cB (ci+qi);have s1:(ci:Int)+(qi:Int)=cs:=by omega
      have hcs2:cs<=200000000:=by omega
      have s2:=jS (cs:Int) (by omega);have X1:=ab (show dK ((wr.F ⟨tb,i2*5+1,none⟩ (.b .a cs)).drew) tb (c1.b (i2*5+1) (.b .a (cs:Nat)))from hb1.eF (i2*5+1) (.b .a cs));have X2:=ab (show dK ((wr.F ⟨tb,i2*5+1,none⟩ (.b .a cs)).drew) sb d1 from hb2.dN ⟨tb,i2*5+1,none⟩ (.b .a cs) HNE.i);have F1:=ab (show jC [tb,sb] W ((wr.F ⟨tb,i2*5+1,none⟩ (.b .a cs)).drew)from(hfr.set ⟨tb,i2*5+1,none⟩ (.b .a cs) (.a (by simp))).drewN 1);have T1:=ab (hT.put (j:=1) hll (by omega) (.b .a (cs:Nat)) {y with um:=(cs:Nat)} (by rw[<-hy];exact Tr.Ww y cs));have HL:=ab hL;have HS:=ab hS;have HCI:=ab hci;have HQI:=ab hqi;have HCS:=ab hcs;have HYL:=ab hy;have E2:=ab e2;have E3:=ab e3;have E6:=ab e6;clear hL hT hS hb1 hb2 hfr e1 e2 e3 e4 e6 e7 e8 hy hci hqi hcs;go_upto_region 11 with fail
      go_region;clear k1 k2 k3 s1 s2;generalize(wr.F ⟨tb,i2*5+1,none⟩ (.b .a cs)).drew=w1 at X1 X2 F1 ⊢;obtain⟨_,_,_,k2,k3⟩:=T1.i.fI X1.i (i:=i2) (by rw[aV];exact hll);rw[BF _ _ _ _ _ hll,if_pos rfl]at k2;simp only at k2;by_cases hlow:cs<g
      ·have hlo:(cs:Int)<g:=by omega
       have HL2:=ab (show FiL g n q o s (jO g n q (He o s n) (J2+1)) (l.set i2 {y with um:=(cs:Nat)})by
        have:=HL.i.low hiq (by rw[<-HCI.i,<-HQI.i,<-HCS.i];exact hlow);rw[<-HCI.i,<-HQI.i,<-HCS.i,<-HYL.i]at this;rw[HNX.i];exact this)
       have HM2:=ab (show(jO g n q (He o s n) (J2+1)).sl=m.sl/\(jO g n q (He o s n) (J2+1)).left=m.left by
        rw[HNX.i];unfold sF;rw[if_pos (by rw[<-HCI.i,<-HQI.i,<-HCS.i];exact hlow)];exact⟨rfl,rfl⟩)
       have aDO:=ab (show J2+1<K by
        rcases aY (J2+1) K with h1|h1
        ·exact h1
        ·exfalso
         have:J2+1=K:=by omega
         have h2:=HM2.i.2;rw[this,HK1.i]at h2;omega)
       clear hlow;go_wp2;go_roundw
       case rel=>exact⟨i2+1,J2+1,by omega,by go_num,by rw[HJ2.i];omega,aDO.i,by rw[HM2.i.2],_,_,_,HL2.i,T1.i,by rw[HM2.i.1];exact HS.i,X1.i,X2.i,F1.i⟩
       case measure=>simp[intOf]<;>omega
      ·have hge:¬(cs:Int)<g:=by omega
       obtain⟨dh,hdh⟩:=cB (cs-g);have s3:(cs:Int)-(g:Int)=dh:=by omega
       have s4:=jS (dh:Int) (by omega);have HDH:=ab hdh;have X3:=ab (show dK (w1.F ⟨tb,i2*5+1,none⟩ (.b .a dh)) tb ((c1.b (i2*5+1) (.b .a (cs:Nat))).b (i2*5+1) (.b .a (dh:Nat)))from X1.i.eF (i2*5+1) (.b .a dh));have X4:=ab (show dK (w1.F ⟨tb,i2*5+1,none⟩ (.b .a dh)) sb d1 from X2.i.dN ⟨tb,i2*5+1,none⟩ (.b .a dh) HNE.i);have F3:=ab (show jC [tb,sb] W (w1.F ⟨tb,i2*5+1,none⟩ (.b .a dh))from F1.i.set ⟨tb,i2*5+1,none⟩ (.b .a dh) (.a (by simp)));have T3:=ab (show TrA ((c1.b (i2*5+1) (.b .a (cs:Nat))).b (i2*5+1) (.b .a (dh:Nat))) (l.set i2 {y with um:=(dh:Nat)})by
        have:=T1.i.put (j:=1) (i:=i2) (by rw[aV];exact hll) (by omega) (.b .a (dh:Nat)) {y with um:=(dh:Nat)} (by rw[BF _ _ _ _ _ hll,if_pos rfl,Tr.Ww])
        rwa [List.set_set]at this)
       clear X1 X2 T1 hdh;generalize(c1.b (i2*5+1) (.b .a (cs:Nat))).b (i2*5+1) (.b .a (dh:Nat))=c3 at X3 T3;obtain⟨f,hf⟩:=cB (ff m.sl (He o s n i2) n);obtain⟨ff1,ff2,ff3⟩:=arv (MOK.i.free HF.i hl0 hiq);rw[<-hf]at ff1 ff2 ff3;have hlen3:i2<(l.set i2 {y with um:=(dh:Nat)}).a:=by rw[aV];exact hll
       have hget:(l.set i2 {y with um:=(dh:Nat)}).c i2 zf={y with um:=(dh:Nat)}:=by rw[BF _ _ _ _ _ hll,if_pos rfl]
       have q2:=T3.i i2 hlen3 2 (by omega);have q3:=T3.i i2 hlen3 3 (by omega);have q4:=T3.i i2 hlen3 4 (by omega);rw[hget]at q2 q3 q4;rw[Tr.ajI]at q2;rw[Tr.aqh]at q3;rw[Tr.aqi]at q4;simp only[E2.i,E3.i,E6.i]at q2 q3 q4;have CT:=ab (fun(w2:ak) (hb1:dK w2 tb c3) (hb2:dK w2 sb d1)=>af7 tb sb (i2*5) i2 n cn (o.c i2 0) (s.c i2 0) x f c3 d1 m.sl w2 hb1 hb2 HNE.i q2 q3 q4 HS.i MOK.i.sll hn hn2 hcn (HO.i i2 hlt) (HS'.i i2 hlt) (HL.i.first hiq (by rw[<-HYL.i];exact E6.i) ff2) ff1
        (fun t _ ht=>of_decide_eq_false (ff3 t ht)) (of_decide_eq_true ff2))
       have HL3:=ab (show FiL g n q o s (jO g n q (He o s n) (J2+1)) ((l.set i2 {y with um:=(dh:Nat)}).set i2 {y with um:=(dh:Nat),next:=(f+1:Nat)})by
        have:=HL.i.high hiq (by rw[<-HCI.i,<-HQI.i,<-HCS.i];exact hlow) (by rw[<-HQI.i];exact hqg) hf ff1 ff3;rw[<-HCI.i,<-HQI.i,<-HCS.i,<-HYL.i,<-HDH.i]at this;rw[HNX.i];exact this)
       have HM3:=ab (show(jO g n q (He o s n) (J2+1)).sl=m.sl.set (re (o.c i2 0) (s.c i2 0) n f) i2/\(jO g n q (He o s n) (J2+1)).left=m.left-1 by
        rw[HNX.i];unfold sF;rw[if_neg (by rw[<-HCI.i,<-HQI.i,<-HCS.i];exact hlow),<-hf];exact⟨rfl,rfl⟩)
       have T4:=ab (T3.i.put (j:=4) hlen3 (by omega) (.b .a (f+1:Nat)) {y with um:=(dh:Nat),next:=(f+1:Nat)} (by rw[hget];exact Tr.am1 _ _));obtain⟨lf2,ayV⟩:=cB (m.left-1);have hmn:m.left<=n:=by
        have:=MOK.i.fr;have h1:=MOK.i.sll;have h2:=List.countP_le_length (p:=fun x:Int=>decide (x = -1)) (l:=m.sl);unfold Ir at this;omega
       have s5:(m.left:Int)-1=lf2:=by omega
       have s6:=jS (lf2:Int) (by omega);rw[<-ayV]at HM3;clear hlow ff1 ff2 ff3 hf hget q2 q3 q4 hlen3 ayV hmn;by_cases hz:lf2=0
       ·have aDP:=ab (show Ej n q (He o s n)=m.sl.set (re (o.c i2 0) (s.c i2 0) n f) i2 by
         have hK:K=J2+1:=by
          rcases aY (J2+1) K with h1|h1
          ·have:=HK2.i _ h1
           rw[HM3.i.2]at this;exact absurd hz this
          ·omega
         rw[HK3.i,hK,HM3.i.1])
        subst hz;go_wp2_with (go_at_call 169;(with_reducible refine(CT.i _ X3.i X4.i).g ?_);rintro e w3 ⟨rfl,ht1,ht2,ht3⟩;have X5:=ab ht2;have F5:=ab (F3.i.pV ht3);clear ht1 ht2 ht3)
        try rw[Exit.noGoto_normal]
        go_end0;exact⟨rfl,⟨_,X5.i,by rw[aDP.i];exact HS.i.set _⟩,F5.i⟩
       ·have hz2:¬(lf2:Int)=0:=by omega
        have aDQ:=ab (show J2+1<K by
         rcases aY (J2+1) K with h1|h1
         ·exact h1
         ·exfalso
          have:J2+1=K:=by omega
          have h2:=HM3.i.2;rw[this,HK1.i]at h2;omega)
        go_wp2_with (go_at_call 169;(with_reducible refine(CT.i _ X3.i X4.i).g ?_);rintro e w3 ⟨rfl,ht1,ht2,ht3⟩;have X5:=ab ht1;have X6:=ab ht2;have F5:=ab (F3.i.pV ht3);clear ht1 ht2 ht3);go_roundw
        case rel=>exact⟨i2+1,J2+1,by omega,by go_num,by rw[HJ2.i];omega,aDQ.i,by rw[HM3.i.2],_,_,_,HL3.i,T4.i,by rw[HM3.i.1];exact HS.i.set _,X5.i,X6.i,F5.i⟩
        case measure=>simp[intOf]<;>omega
     ·have ayW:i2=k:=by omega
      have hd2:decide ((i2:Int)<k)=false:=by simp;omega
      have HJR:=ab (show J2=(r+1)*k by rw[HJ2.i,HJ.i,ayW,Nat.add_mul];omega);have HLS:=ab (show m.left<lf by
       obtain⟨i0,hi0,hgi⟩:=C9 (q:=q) (by intro e;have:=HKQ.i;rw[e]at this;simp at this;omega) HQP.i;rw[HG.i]at hgi;have hp:=aaf (g:=g) (n:=n) (q:=q) (ch:=He o s n) hi0 hgi r;rw[HKQ.i,<-HJR.i,<-HJ.i,<-HLF.i,<-HM.i]at hp;have h1:=HK2.i J hJK;rw[<-HLF.i]at h1;omega)
      have aDR:=ab (show FiS g n q o s tb sb W J2 wr from⟨l,c1,d1,by rw[<-HM.i];exact hL,hT,by rw[<-HM.i];exact hS,hb1,hb2,hfr⟩);clear hL hT hS hb1 hb2 hfr ayW;go_wp2;go_roundw
      case rel=>exact⟨J2,r+1,HJR.i,ayU,by rw[HM.i],aDR.i⟩
      case measure=>have:=HLS.i;simp[intOf]<;>omega
end
def aqk(l:List oU):Prop:=Wt l/\(∀x∈l,0<=x.q/\x.q<=1024000)/\l.a<=1024
theorem Wt.ne{l:List oU}(h:Wt l){j:Nat}(hj:j+1<l.a):(l.c j lg).E≠(l.c (j+1) lg).E:=by
 have:=fT.1 h j (j+1) (by omega) hj (by omega);rw[au,au,aC (by omega),aC hj,jB,jB];intro e;rw[e,sG]at this;cases this
theorem YZ{B:Nat}{w W:ak}(h:aL B w W)(q:Nat):aL B w (W.drewN q):=⟨h.os,h.tape,h.output,h.j,h.block⟩
theorem ajL(l:List oU)(hk:aqk l)(A:Option aT)(n c:Nat)(w:ak)(hR:iJ oU.ay 2 w w.a.j A n l):
 aP ah 82 #[.a A n c] w (gD w (.e true)):=by
 have hl:=hR.1;have hn:n<=1024:=by have:=hk.2.2;omega
 have HK:=ab hk;have HR:=ab hR;have HL:=ab hl;clear hk hl;go_enter Tryz.func82,Tryz.ntmps82;go_wp2;go_loopw [7] (fun i wr=>∃k:Nat,k<=n/\i=.b .a k/\aL w.a.j w wr)
  (fun i _=>n-(intOf i).e)
 case atStart=>exact⟨0,je _,rfl,aG _ _⟩
 case round=>
  obtain⟨k,hkn,rfl,hnx⟩:=hrel;have HN:=ab hnx;by_cases hlt:k<n
  ·have hki:(k:Int)<n:=by omega
   have R1:=ab (HR.i.O HN.i);obtain⟨b,o,hA,hbb,hh,hc⟩:=iJ.fI oU.AQ lg R1.i hlt;subst hA;obtain⟨x,hx⟩:=cB (l.c k lg);rw[<-hx]at hc;have hxm:x∈l:=by rw[hx,au,aC (by rw[HL.i];omega),jB];exact eU _
   obtain⟨q1,q2⟩:=HK.i.2.1 x hxm;have t1:decide (x.q<0)=false:=by simp;omega
   have t2:decide (x.q>1024000)=false:=by simp;omega
   have t3:decide (1024000<x.q)=false:=by simp;omega
   have HX:=ab hx;have hsz:=hnx.j;have HB1:=ab (hnx.alloc (by omega) (.D x.ay 151));have bx:=ab (dK.new wr x.ay 151);have f0:∀i,(wr.alloc (.D x.ay 151)).b ⟨wr.a.j,i,none⟩=x.ay[i]?:=bx.i.K.1;have s0:=(f0 0).trans (oU.zu x);have s1:=(f0 1).trans (oU.aqc x);have i3:=jS ((k:Int)+1) (by omega);clear hx hbb hnx hxm f0 q1 q2 hsz;by_cases h0:0<k
   ·obtain⟨j,hj⟩:∃j,k=j+1:=⟨k-1,by omega⟩
    obtain⟨b2,o2,hA2,Ms,hcj⟩:=iJ.cell oU.AQ lg ((HR.i.O HN.i).alloc (by have:=HN.i.j;omega) (.D x.ay 151)) (show j<n by omega);obtain⟨y,hy⟩:=cB (l.c j lg);have hne:y.E≠x.E:=by
     rw[hy,HX.i,hj];exact HK.i.1.ne (by rw[HL.i];omega)
    rw[<-hy]at hcj;cases hA2;have c0:=(hcj 0 (by omega)).trans (oU.zu y);rw[nD]at c0;have t4:decide ((k:Int)>0)=true:=by simp;omega
    have t5:decide (0<k)=true:=by simp;omega
    have t6:(y.E==x.E)=false:=by simpa using hne
    have i1:(k:Int)-1=(j:Int):=by omega
    have i2:=jS (j:Int) (by omega);have i4:(j:Int)<n:=by omega
    clear hcj hy hne hj h0 Ms;go_wp2_with fail;go_quiet (fail);go_wp2;go_roundw
    case rel=>exact⟨k+1,by omega,by simp,YZ HB1.i _⟩
    case measure=>simp[intOf];omega
   ·have t4:decide ((k:Int)>0)=false:=by simp;omega
    have t5:decide (0<k)=false:=by simp;omega
    clear h0;go_wp2_with fail;go_quiet (fail);go_wp2;go_roundw
    case rel=>exact⟨k+1,by omega,by simp,YZ HB1.i _⟩
    case measure=>simp[intOf];omega
  ·obtain rfl:k=n:=by omega
   have hd:decide ((k:Int)<k)=false:=by simp
   have t1:decide ((k:Int)<=1024)=true:=by simp;omega
   go_wp2;go_ret;exact⟨rfl,HN.i⟩
theorem ajM(x y:Nat)(hx:x<18446744073709551616)(hy:y<18446744073709551616)(w:ak):
 aP ah 242 #[.b .c x,.b .c y] w fun e w'=>e=.a (.J #[.b .c ((x*y/18446744073709551616:Nat):Int),.b .c ((x*y%18446744073709551616:Nat):Int)])/\w=w':=by
 obtain⟨bd,bt,bw,hhi⟩:=Lib.mul64_hi x y hx hy;have ba:=Lib.half_mul_le (a:=x/4294967296) (b:=y/4294967296) (by omega) (by omega);have bb:=Lib.half_mul_le (a:=x/4294967296) (b:=y%4294967296) (by omega) (by omega);have bc:=Lib.half_mul_le (a:=x%4294967296) (b:=y/4294967296) (by omega) (by omega);have ba':x/4294967296*(y/4294967296)<18446744073709551616:=by omega
 have bb':x/4294967296*(y%4294967296)<18446744073709551616:=by omega
 have bc':x%4294967296*(y/4294967296)<18446744073709551616:=by omega
 have bh1:x/4294967296*(y/4294967296)+(x/4294967296*(y%4294967296)+x%4294967296*(y%4294967296)/4294967296)/4294967296<18446744073709551616:=by omega
 have bh:x/4294967296*(y/4294967296)+(x/4294967296*(y%4294967296)+x%4294967296*(y%4294967296)/4294967296)/4294967296+((x/4294967296*(y%4294967296)+x%4294967296*(y%4294967296)/4294967296)%4294967296+x%4294967296*(y/4294967296))/4294967296<18446744073709551616:=by
  rw[hhi];have:=gU (show x<=18446744073709551615 by omega) (show y<=18446744073709551615 by omega);omega
 go_enter Tryz.func242,Tryz.ntmps242;go_wp2;simp only[Mul64.maskN x hx,Mul64.maskN y hy,Mul64.divN,Mul64.mulN,Mul64.addN,vK _ bd,vK _ bb',vK _ bt,Mul64.maskN _ bt,vK _ bc',vK _ bw,vK _ ba',vK _ bh1,vK _ bh,Mul64.wrapM];rw[hhi];go_ret2;exact⟨rfl,rfl⟩
theorem aql(x y:Nat)(hx:x<18446744073709551616)(hy:y<18446744073709551616)(w:ak):
 aP ah 168 #[.b .c x,.b .c y] w fun e w'=>e=.a (.J #[.b .c ((x*y/18446744073709551616:Nat):Int),.b .c ((x*y%18446744073709551616:Nat):Int)])/\w=w':=by
 have C:=ab (ajM x y hx hy w);go_enter Tryz.func168,Tryz.ntmps168;go_wp2_with (go_at_call 242;(with_reducible refine C.i.g ?_);rintro e w1 ⟨rfl,rfl⟩);go_ret2;exact⟨rfl,rfl⟩
theorem mul_one(n:Nat)(hn:n<=1000000)(w:ak):
 aP ah 168 #[.b .c 1,.b .c n] w fun e w'=>e=.a (.J #[.b .c 0,.b .c n])/\w=w':=by
 refine(aql 1 n (by decide) (by omega) w).g ?_;rintro e w1 ⟨rfl,rfl⟩;have e1:1*n/18446744073709551616=0:=by omega
 have e2:1*n%18446744073709551616=n:=by omega
 rw[e1,e2];exact⟨rfl,rfl⟩
theorem ahF(w:ak)(n:Nat)(hn:n<=1000000):(xD 70 (.b .a n) (.b .a n)).I ah w = .Z (.a (some ⟨w.a.j,0,none⟩) n n) (w.alloc (.D (madeCells #[.b .a 0] n) 3)):=by
 obtain⟨i,h1,h2,h3,h4⟩:=zi (P:=ah) (e:=3) (z:=.b .a 0) (size:=1) (bytes:=8) (by kernel_rfl);have:=run_make w 70 3 i _ og h1 h2 .a .a (n:Int) (n:Int) (by omega) (by omega) (by rw[h4];omega) (by omega);rw[dS,h3,gH]at this;exact this
theorem af9{w:ak}{ops:Array iZ}{rest:List iZ}{o:iZ}{a:qR}{Q:zO->qR->ak->Prop}(hg:o.guard=none)(l c:pG)(GY:o.op=Op.makeSlice 70 l c)
 (n:Nat) (hl:a.eval l=.b .a n) (hc:a.eval c=.b .a n) (hn:n<=1000000)
 (hK:wpList ah ops Q rest (a.put o.X (.a (some ⟨w.a.j,0,none⟩) n n)) (w.alloc (.D (madeCells #[.b .a 0] n) 3))):wpList ah ops Q (o::rest) a w:=by
 refine sO hg fun K hK'=>?_
 unfold ni;simp[execOp,GY,hl,hc,ahF w n hn,iD];exact hK' _ _ hK
theorem ahG(W:ak){y z m dl dc sl sc:Nat}{a:aT}{vs:List aB}(hm:vs.a=m)(hm2:m=ql sl dl)(hsrc:∀j v,vs[j]? = some v->W.b (a.add j)=some v)(hth:W.M y z m)(h1:∀v∈vs,v.h=true)(ty:bF):
 (Builtin.copy_ #[70,70] ty #[.a (some ⟨y,z,none⟩) dl dc,.a (some a) sl sc]).I ah W = .Z (goInt m) (W.setCells y z vs):=by
 have:=run_copy_cells (P:=ah) W 70 70 ty 3 y z dl dc a sl sc vs og (by kernel_rfl) (by rw[hm,hm2]) hsrc (fun j hj=>(hth j (by rw[<-hm];exact hj)).1) (fun j hj=>(hth j (by rw[<-hm];exact hj)).2) h1;rw[hm]at this;exact this
theorem af'{w:ak}{ops:Array iZ}{rest:List iZ}{o:iZ}{a:qR}{Q:zO->qR->ak->Prop}(hgd:o.guard=none)(d s:pG)
 (ho:o.op=.call {callee:=.builtin .copy,args:=#[d,s],argTypes:=#[70,70]}) {y z m dl dc sl sc:Nat} {dp:Option aT} {b:aT} {vs:List aB} (hdp:dp=some ⟨y,z,none⟩) (hd:a.eval d=.a dp dl dc) (hs:a.eval s=.a (some b) sl sc)
 (hm:vs.a=m) (hm2:m=ql sl dl) (hsrc:∀j v,vs[j]? = some v->w.b (b.add j)=some v) (hth:w.M y z m) (h1:∀v∈vs,v.h=true)
 (h:wpList ah ops Q rest (a.put o.X (goInt m)) (w.setCells y z vs)):wpList ah ops Q (o::rest) a w:=by
 subst hdp;refine sO hgd fun K hK=>?_
 unfold ni;simp[execOp,ho,resolve,invoke,builtin,hd,hs,ahG w hm hm2 hsrc hth h1,iD];exact hK _ _ h
theorem am2{w:ak}{ops:Array iZ}{o:iZ}{a:qR}{K:qR->ak->Prop}{Q:zO->qR->ak->Prop}{E:Prop}(hgd:o.guard=none)(d s:pG)
 (ho:o.op=.call {callee:=.builtin .copy,args:=#[d,s],argTypes:=#[70,70]}) {y z m dl dc sl sc:Nat} (dp:Option aT) {b:aT} {vs:List aB} (hdp:dp=some ⟨y,z,none⟩) (hd:a.eval d=.a dp dl dc) (hs:a.eval s=.a (some b) sl sc)
 (hm:vs.a=m) (hm2:m=ql sl dl) (hsrc:∀j v,vs[j]? = some v->w.b (b.add j)=some v) (hth:w.M y z m) (h1:∀v∈vs,v.h=true)
 (h:K (a.put o.X (goInt m)) (w.setCells y z vs)):if fF o (yielded ops a.tmps)=true then ni ah o a w K Q else E:=by
 subst hdp;have hw:fF o (yielded ops a.tmps)=true:=by simp[fF,hgd]
 rw[if_pos hw];unfold ni;simp[execOp,ho,resolve,invoke,builtin,hd,hs,ahG w hm hm2 hsrc hth h1,iD];exact h
section
attribute [local go_sem high] iY jH
theorem am3(n:Nat)(h:n<18446744073709551616):jy.wrap (n:Int)=(n:Int):=vK n h
theorem aga(n:Nat)(hn:1<=n)(hn2:n<=100000)(b cx:Nat)(v:Int)(w:ak)(hx:dK w b #[.b .a v]):
 aP ah 84 #[.a (some ⟨b,0,none⟩) 1 cx,.b .a n] w fun e w'=>∃g d,w.a.j<=g/\e=.a (.a (some ⟨g,0,none⟩) n n)/\dK w' g d/\d.j=n/\SlA d (dX n v)/\aL w.a.j w w':=by
 have MU:=ab (fun w=>mul_one n (by omega) w);have hnI:(1:Int)<=n:=by omega
 have t1:decide ((n:Int)<0)=false:=by simp
 have t2:decide ((n:Int)>9223372036854775807)=false:=by simp;omega
 have t3:decide ((9223372036854775807:Int)<n)=false:=by simp;omega
 have t4:decide (9223372036854775807<n)=false:=by simp;omega
 have u1:=am3 n (by omega);have i1:=jS (n:Int) (by omega);obtain⟨d0,hd0⟩:=cB (madeCells #[.b .a 0] n);have D0:=ab (show d0.j=n by rw[hd0];exact size_madeCells _ _);have HD0:=ab hd0;obtain⟨g,hg⟩:=cB w.a.j;have BG:=ab (show dK (w.alloc (.D d0 3)) g d0 by rw[hg];exact dK.new w d0 3);have BX:=ab (hx.alloc (.D d0 3));have HG:=ab hg;have HLT:=ab (show b≠g by rw[hg];exact jL hx.lt);have BL:=ab ((aG w.a.j w).alloc (av _) (.D d0 3));have SRC:=ab (show∀j u,[(.b .a v:aB)][j]? = some u->(w.alloc (.D d0 3)).b ((⟨b,0,none⟩:aT).add j)=some u by
  intro j u hu;have:=BX.i.K.1 j;cases j with
  | zero=>simpa[qy]using this.trans hu
  | succ j=>simp at hu)
 have TH:=ab (BG.i.M 0 1 (by rw[D0.i];omega));have MK:=ab (ahF w n (by omega));clear hd0 hg;go_enter Tryz.func84,Tryz.ntmps84;go_wp2_with (first|(go_at_call 168;(with_reducible refine(MU.i _).g ?_);rintro e w1 ⟨rfl,rfl⟩)|(refine af9 rfl (.a 29) (.a 29) rfl n rfl rfl (by omega) ?_;rw[<-HD0.i,<-HG.i];generalize hww:w.alloc (.D d0 3)=w1 at BG BX BL SRC TH⊢;clear hww)|(refine af' rfl (.a 31) (.a 32) rfl (y:=g) (z:=0) (m:=1) (vs:=[.b .a v]) rfl rfl rfl rfl (by show 1=min 1 n;omega) SRC.i TH.i (by simp[cZ]) ?_));have B1:=ab (BG.i.setCells 0 [.b .a v]);have L1:=ab (xL (B:=w.a.j) (aX HG.i.symm) [.b .a v] 0 _ BL.i);clear SRC TH MU;go_loopw [8] (fun i wr=>∃(k:Nat)(d:Array aB),1<=k/\k<=n/\i=.b .a k/\dK wr g d/\d.j=n/\(∀j,j<k->d[j]? = some (.b .a v))/\aL w.a.j w wr)
  (fun i _=>n-(intOf i).e)
 case atStart=>
  refine⟨1,_,av _,hn,rfl,B1.i,by rw[XK,D0.i],fun j hj=>?_,L1.i⟩;obtain rfl:j=0:=by omega
  rw[DX,if_pos ⟨by omega,by simp,by rw[D0.i];omega⟩];rfl
 case round=>
  obtain⟨k,d,hk1,hkn,rfl,hb,hds,hall,hbel⟩:=hrel;by_cases hlt:k<n
  ·have hki:(k:Int)<n:=by omega
   have aJ1:(k:Int)<=n:=by omega
   obtain⟨m,hm⟩:=cB (ql k (n-k));have hm2:m<=k/\0<m/\k+m<=n:=by have e:ql k (n-k)=min k (n-k):=rfl;rw[e]at hm;omega
   obtain⟨k2,hk2⟩:=cB (k+m);have i2:(k:Int)+(m:Int)=(k2:Int):=by omega
   have i3:=jS (k2:Int) (by omega);have SRC:=ab (show∀j u,(dX m (.b .a v:aB))[j]? = some u->wr.b ((⟨g,0,none⟩:aT).add j)=some u by
    intro j u hu;have h1:=hb.K.1 j;rw[sZ]at hu;split at hu
    ·rename_i hj
     rw[hall j (by omega)]at h1;injection hu with hu
     subst hu;by_cases h0:j=0
     ·subst h0;simpa[qy]using h1
     ·simpa[qy,h0]using h1
    ·cases hu)
   have TH:=ab (hb.M k m (by rw[hds];omega));have HM:=ab (show m=ql k (n-k)from hm);have HC:=ab (show vF (some ⟨g,0,none⟩) k n 1=some ⟨g,k,none⟩from Qt (n:=0) hlt);have HR:=ab (show(dX m (.b .a v:aB)).a=m by simp);have HO:=ab (show∀u∈dX m (.b .a v:aB),u.h=true from fun u hu=>by rw[List.eq_of_mem_replicate hu];rfl);have HB:=ab hb;have HDS:=ab hds;have aDS:=ab hall;have aDT:=ab hbel;have HK2:=ab hk2;have HM2:=ab hm2;clear hm hb hds hall hbel hk2 hm2;go_wp2_with fail;go_region_held_law (fun _=>True) (trivial)
    (first|(refine am2 (o:=⟨some 45,_,_,_,_,_⟩) rfl (.a 41) (.a 44) rfl (y:=g) (z:=k) (m:=m) (vs:=dX m (.b .a v)) (vF (some ⟨g,0,none⟩) k n 1) HC.i rfl rfl HR.i HM.i SRC.i TH.i HO.i ?_))
   go_wp2;go_roundw
   case rel=>
    refine⟨k2,_,by have:=HM2.i;have:=HK2.i;omega,by have:=HM2.i;have:=HK2.i;omega,rfl,HB.i.drew.setCells k _,by rw[XK,HDS.i],fun j hj=>?_,xL (aX HG.i.symm) _ _ _ aDT.i.drew⟩;have h1:=HK2.i;have h2:=HM2.i;rw[DX];split
    ·rename_i h3
     simp at h3;have:j-k<m:=by omega
     simp[this]
    ·rename_i h3
     simp at h3;refine aDS.i j ?_;rcases aY j k with h4|h4
     ·exact h4
     ·have h6:=h3 h4 (by omega)
      have h7:=HDS.i;omega
   case measure=>
    have h1:=HK2.i;have h2:=HM2.i;simp only[intOf,dS];omega
  ·obtain rfl:k=n:=by omega
   have hd:decide ((k:Int)<k)=false:=by simp
   have HB:=ab hb;go_wp2;go_ret;exact⟨g,d,aX HG.i.symm,rfl,HB.i,hds,fun j hj=>by
    rw[oN]at hj;rw[hall j hj,au,sZ,if_pos hj];rfl,hbel⟩
end
section
variable {W W':ak} {q g:Nat} {key:Vector UInt8 16} {dU:Int} {s:List (Option Fw)}
theorem ET.ayY(h:ET W q g key dU s):(xI 22 (.c (some ⟨q,0,none⟩))).I ah W = .Z (.d (jd key)) W:=by
 obtain⟨_,_,_,_,h5,h6⟩:=h.K;rw[Wq.ld W q 0 h6,h5]
theorem ET.lt(h:ET W q g key dU s):q<W.a.j/\g<W.a.j:=⟨h.h.lt,h.sl.lt⟩
theorem Wx(T:ET W q g key dU s)(k:Tu)(hk:wT k):
 aP ah 200 #[.c (some ⟨q,0,none⟩),.d k.ay] W (gD W (.b .a (hmK key s.a k:Nat))):=by
 have T0:=ab (T.alloc (.D k.ay 81));have X0:=ab (dK.new W k.ay 81);have B0:=ab ((aG W.a.j W).alloc (av _) (.D k.ay 81));obtain⟨N,hN⟩:=cB s.a;obtain⟨h,hh⟩:=cB (xQ key (LW k));have HM:=ab (show hmK key s.a k=h%N by unfold hmK;rw[hN,hh]);have hsz:=T.sz;rw[<-hN]at hsz;have C0:=ab (fun W=>Rj key k hk W);rw[<-hh]at C0;have HN:=ab hN;clear hN hh T;obtain⟨r,hr⟩:=cB (h%N);have hrl:r<N:=by rw[hr];exact fH _ (by omega)
 have e1:(h:Int)%(N:Int)=(r:Int):=by rw[hr];omega
 have e2:LV (h:Int) (N:Int)=(r:Int):=by rw[mo (by omega)];exact e1
 have u1:=am3 N (by omega);have u2:=am3 r (by omega);have i1:=jS (N:Int) (by omega);have i2:=jS (r:Int) (by omega);have z1:¬(N:Int)=0:=by omega
 have z2:¬N=0:=by omega
 rw[<-hr]at HM;clear hr;rw[HM.i];go_enter Tryz.func200,Tryz.ntmps200;go_upto_region 1 with fail
 generalize W.alloc (.D k.ay 81)=w1 at T0 X0 B0 ⊢;obtain⟨T,f,n0,E0,es,ew⟩:=xC (w1);have hT:Nonempty T:=⟨n0⟩
 have ES:=ab es;have EW:=ab ew;have l1:=fun m=>(T0.i.go (es m)).ayY
 have l2:=fun m=>pF (X0.i.go (es m))
 have l3:∀m,(f m).b ⟨q,18,none⟩=some (.a (some ⟨g,0,none⟩) N N):=fun m=>by rw[HN.i];exact(T0.i.go (es m)).K.1
 clear es ew;refine nL f (by kernel_rfl) (by kernel_rfl) n0 E0 ?_
 repeat(go_big_quiet_step ((first|(go_at_call 36;(with_reducible refine(C0.i _).g ?_);rintro e w2 ⟨rfl,hb⟩;exact⟨rfl,EW.i _ ((ES.i _).trans (hb.g (ES.i _).j))⟩))))
 refine gK ?_;rintro _ ⟨m',rfl⟩;have HB:=ab (ES.i m');generalize f m'=wN at *;clear ES EW E0 hT n0;clear l1 l2 l3;go_wp2;go_ret;exact⟨rfl,iX B0.i HB.i⟩
theorem BH(T:ET W q g key dU s)(k:Tu)(hk:wT k)(d:Nat)(hd:Found (hmK key s.a) Fw.key s k d):
 aP ah 129 #[.c (some ⟨q,0,none⟩),.d k.ay] W (gD W (.b .a ((hmK key s.a k+d)%s.a:Nat))):=by
 have T0:=ab (T.alloc (.D k.ay 81));have X0:=ab (dK.new W k.ay 81);have B0:=ab ((aG W.a.j W).alloc (av _) (.D k.ay 81));have hsz:=T.sz;have HD:=ab hd;obtain⟨h,hh⟩:=cB (hmK key s.a k);have hhl:h<s.a:=by rw[hh];exact fH _ (by omega)
 have C0:=ab (fun(W:ak) (T:ET W q g key dU s)=>Wx T k hk);rw[<-hh]at C0;have HH:=ab hh;obtain⟨N,hN⟩:=cB s.a;rw[<-hN]at hsz hhl;have HN:=ab hN;clear T hd hh hN;go_enter Tryz.func129,Tryz.ntmps129;go_upto_region 1 with fail
 generalize W.alloc (.D k.ay 81)=w1 at T0 X0 B0 ⊢;have l0:=pF X0.i;go_wp2_with (go_at_call 200;(with_reducible refine(C0.i _ T0.i).g ?_);rintro e w2 ⟨rfl,hb⟩;have T2:=ab (T0.i.go hb);have X2:=ab (X0.i.go hb);have B2:=ab (iX B0.i hb);clear hb l0);go_loopw [5] (fun v wr=>∃j:Nat,j<=d/\v=.b .a ((h+j)%N:Nat)/\aL w2.a.j w2 wr)
  (fun v wr=>((h+d)%N+N-(intOf v).e)%N)
 case atStart=>exact⟨0,je _,by rw[nD,fP hhl],aG _ _⟩
 case round=>
  obtain⟨j,hj,rfl,hbw⟩:=hrel;have HB:=ab hbw;have hdN:d<N:=by rw[HN.i];exact HD.i.1
  obtain⟨i,hi⟩:=cB ((h+j)%N);have hil:i<N:=by rw[hi];exact fH _ (by omega)
  have TR:=ab (T2.i.go hbw);have b1:vw wr W.a.j 0 37:=of_eq_true ((X2.i.go hbw).K.2.2.1 0 37 (by rw[Tu.dY];omega));have b2:dM wr W.a.j 0 37=k.ay:=by rw[(X2.i.go hbw).K.2.2.2 0 37 (by rw[Tu.dY];omega)];exact Tu.kr k
  have l2:wr.b ⟨q,18,none⟩=some (.a (some ⟨g,0,none⟩) N N):=by rw[HN.i];exact TR.i.K.1
  obtain⟨a1,a2,a3,a4,a5,a6,a7⟩:=TR.i.Wm (show i<s.a by rw[<-HN.i];exact hil);rw[<-hi];have hii:(i:Int)<N:=by omega
  obtain⟨i1,hi1⟩:=cB (i+1);have e0:(i:Int)+1=(i1:Int):=by omega
  have w0:=jS (i1:Int) (by omega);obtain⟨i2,hi2⟩:=cB (i1%N);have aJ2:i2<N:=by rw[hi2];exact fH _ (by omega)
  have e1:(i1:Int)%(N:Int)=(i2:Int):=by rw[hi2];omega
  have e2:LV (i1:Int) (N:Int)=(i2:Int):=by rw[mo (by omega)];exact e1
  have w2':=jS (i2:Int) (by omega);have z1:¬(N:Int)=0:=by omega
  have z2:¬N=0:=by omega
  have HI:=ab hi;have HI2:=ab (show i2=(h+(j+1))%N by rw[hi2,hi1,hi,Nat.mod_add_mod,mZ]);clear a2 a3 a5 a6 hi hi1 hi2 hbw;have HST:=ab (show stops (kf:=Fw.key) s k i=true->j=d from fun h1=>by
   rcases aY j d with h2|h2
   ·have h3:=HD.i.2.2 j h2
    rw[<-HH.i,<-HN.i,<-HI.i,h1]at h3;cases h3
   ·omega)
  have Dx:=ab (show stops (kf:=Fw.key) s k i=false->j<d from fun h1=>by
   rcases aY j d with h2|h2
   ·exact h2
   ·have h3:=HD.i.2.1
    obtain rfl:j=d:=by omega
    rw[<-HH.i,<-HN.i,<-HI.i,h1]at h3;cases h3)
  cases hat:fI s i with
  | none=>
    rw[hat]at a1 a4;have HE:=ab (HST.i (by unfold stops;rw[hat]));clear a4 a7 hat
    replace a1:wr.b ⟨g,i*42,none⟩=some (.e false):=a1
    go_wp2_with fail;go_quiet (fail);go_wp2;go_ret;refine⟨?_,?_⟩
    ·rw[<-HH.i,<-HN.i,<-HE.i,<-HI.i];rfl
    ·exact eH (iX B2.i HB.i) _
  | some x=>
    rw[hat]at a1 a4
    replace a1:wr.b ⟨g,i*42,none⟩=some (.e true):=a1
    replace a4:dM wr g (i*42+1) 37=x.key.ay:=a4
    by_cases hxk:x.key=k
    ·have HE:=ab (HST.i (by unfold stops;rw[hat];simp[hxk]))
     have t1:decide (x.key=k)=true:=by simp[hxk]
     clear hxk hat;go_wp2_with fail;go_quiet (fail);go_wp2;go_ret;refine⟨?_,?_⟩
     ·rw[<-HH.i,<-HN.i,<-HE.i,<-HI.i];rfl
     ·exact eH (iX B2.i HB.i) _
    ·have HE:=ab (Dx.i (by unfold stops;rw[hat];simp[hxk]))
     have t1:decide (x.key=k)=false:=by simp[hxk]
     clear hxk hat;go_wp2_with fail;go_quiet (fail);go_wp2;go_roundw
     case rel=>exact⟨j+1,HE.i,by rw[HI2.i],eH HB.i _⟩
     case measure=>
      have h1:=HE.i;have e3:=wD (N:=N) (a:=h+d) (by omega);have e4:=HI.i;rw[wD (N:=N) (a:=h+j) (by omega)]at e4;have e5:=HI2.i;rw[wD (N:=N) (a:=h+(j+1)) (by omega)]at e5;simp only[intOf,dS];rw[e3];generalize hM:(if h+d<N then h+d else h+d-N)=M;have hM2:M<N:=by rw[<-hM];split<;>omega
      rw[wD (N:=N) (a:=M+N-i2) (by omega),wD (N:=N) (a:=M+N-i) (by omega)];rw[e4,e5,<-hM]
      repeat' split
      all_goals omega
end
section
variable {W W':ak} {q g:Nat} {key:Vector UInt8 16} {dU:Int} {s:List (Option Fw)} {l:List Fw}
theorem kFw:oO 86 41 kD.ay:=⟨⟨_,mV,rfl⟩,by kernel_rfl,by kernel_rfl,Fw.G _⟩
theorem ayZ(w:ak)(fs:Array nS)(h:ah.k 86=some (.struct fs)):(iy (fun f=>Prod.mk f.Y <$> sizeOf f.type) fs:Sem (Array (Nat×Nat))).I ah w = .Z #[(0,37),(37,1),(38,1),(39,1),(40,1)] w:=by
 have e:=mV;rw[h]at e;cases e;show _=_
 kernel_rfl
@[go_sem]theorem awo(W:ak):(ati #[]).I ah W = .Z (.d kD.ay) W:=kFw.bd0 W _ mV ⟨_,ayZ W _ mV⟩
structure Ke(W:ak)(q g:Nat)(key:Vector UInt8 16)(dU:Int)(s:List (Option Fw))(l:List Fw):Prop where
 w:ET W q g key dU s
 r:TbR (hmK key s.a) s l
 Z:wo dU l
theorem Ke.go(h:Ke W q g key dU s l)(hb:aL W.a.j W W'):Ke W' q g key dU s l:=⟨h.w.go hb,h.r,h.Z⟩
theorem AU{t:Tu}(h:Fq t=true):wT t:=by
 unfold Fq XT at h;simp only[bl,decide_eq_true_eq]at h;unfold wT;omega
theorem Ke.Vr(h:Ke W q g key dU s l)(k:Tu):∃d,Found (hmK key s.a) Fw.key s k d/\fI s ((hmK key s.a k+d)%s.a)=pO l k:=by
 obtain⟨d,hd⟩:=h.r.tab.found k;exact⟨d,hd,h.r.stop h.Z hd⟩
theorem wo.none{dU:Int}(h:wo dU l){k:Tu}(hk:Fq k=false):pO l k=none:=by
 cases hf:pO l k with
 | none=>rfl
 | some x=>
   obtain⟨h1,h2⟩:=xw hf;have:=wF (h.Z x h1);rw[h2,hk]at this;cases this
def am4(o:Option Fw):aB:=.J #[.d (vV o).qU.ay,.e o.isSome]
theorem JW(T:Ke W q g key dU s l)(k:Tu):
 aP ah 126 #[.c (some ⟨q,0,none⟩),.d k.ay] W (gD W (am4 (pO l k))):=by
 have Z0:=ab (((Bx.start W).new k.ay 81).new kD.ay 86);rw[show(W.alloc (.D k.ay 81)).a.j=W.a.j+1 by simp]at Z0;have CK:=ab (fun w=>JL k w);obtain⟨ok,hok⟩:=cB (Fq k);rw[<-hok]at CK;have HT:=ab T;have JA:=ab hok;have HLT:=ab T.w.lt;obtain⟨o,ho⟩:=cB (pO l k);rw[<-ho];have HO:=ab ho.symm;clear T hok ho;go_enter Tryz.func126,Tryz.ntmps126;go_upto_region 1 with fail
 generalize(W.alloc (.D k.ay 81)).alloc (.D kD.ay 86)=w1 at Z0 ⊢;have l1:=pF Z0.i.b1;have HE:=ab (fun(w':ak) (x:Fw) (h:Bx [(W.a.j+1,kD.ay),(W.a.j,k.ay)] W w')=>show dK (Ah w' (W.a.j+1) 0 x) (W.a.j+1) x.ay/\aL W.a.j W (Ah w' (W.a.j+1) 0 x)from
  have k2:=h.put (fun p hp=>by rw[fG.1 hp];simp) x.ay (by rw[Fw.G,Fw.G])
  ⟨k2.S,k2.R⟩)
 cases ok
 ·have HN:=ab (HT.i.Z.none JA.i.symm)
  rw[HO.i]at HN;go_wp2_with (go_at_call 115;(with_reducible refine(CK.i _).g ?_);rintro e w2 ⟨rfl,hb⟩;have Z2:=ab (Z0.i.go hb);clear hb l1;have yE:=Z2.i.S.M 0 41 (aX (Fw.G _).symm));refine aN (kFw.qC rfl _ rfl (HE.i _ kD Z2.i).1 (Fw.G _)) rfl ?_;exact⟨by rw[HN.i];rfl,(HE.i _ kD Z2.i).2⟩
 ·go_wp2_with (go_at_call 115;(with_reducible refine(CK.i _).g ?_);rintro e w2 ⟨rfl,hb⟩;have Z2:=ab (Z0.i.go hb);clear hb l1)
  obtain⟨d,hd,hat⟩:=HT.i.Vr k;have hsz:=HT.i.w.sz;obtain⟨i,hi⟩:=cB ((hmK key s.a k+d)%s.a);have hil:i<s.a:=by rw[hi];exact fH _ (by omega)
  have CF:=ab (fun(w:ak) (h:Bx [(W.a.j+1,kD.ay),(W.a.j,k.ay)] W w)=>BH (HT.i.w.go h.R) k (AU JA.i.symm) d hd);rw[<-hi]at CF hat;have HAT:=ab hat;have HIL:=ab hil;obtain⟨N,hN⟩:=cB s.a;have HN:=ab hN;have hii:(i:Int)<N:=by omega
  rw[HO.i]at HAT;clear hd hat hi hil hN hsz;refine Qp (Bx.aa3 ([(W.a.j+1,kD.ay),(W.a.j,k.ay)]) W) 9 10 6 213 Gd.ay (by kernel_rfl) rfl (by kernel_rfl) (by decide) (by decide) (by kernel_rfl) (by kernel_rfl) (by kernel_rfl) rfl rfl rfl (fun a w=>by simp[go_sem]) Z2.i.drew ?_;apply rJ;refine⟨fun T f hT es ew=>?_,?_⟩
  ·have EW:=ab ew
   have ES:=ab es;have l1:=fun m=>pF (ES.i m).b1
   have l2:∀m,(f m).b ⟨q,18,none⟩=some (.a (some ⟨g,0,none⟩) N N):=fun m=>by rw[HN.i];exact(HT.i.w.go (ES.i m).R).K.1
   have l3:∀m,vw (f m) g (i*42) 42:=fun m=>((HT.i.w.go (ES.i m).R).Wm HIL.i).2.2.2.2.1
   have l4:∀m,dM (f m) g (i*42) 42=(vV o).ay:=fun m=>by rw[((HT.i.w.go (ES.i m).R).Wm HIL.i).2.1,HAT.i]
   have CG:=ab (fun m=>CF.i (f m) (ES.i m));clear es ew;simp only[kX,bH,bP,jP,j4]
   repeat(go_big_quiet_step ((first|(go_at_call 129;(with_reducible refine(CG.i _).g ?_);rintro e w2 ⟨rfl,hb⟩;exact⟨rfl,EW.i _ _ hb⟩))))
   exact gK rfl
  ·intro w9 w8 zK _ hb
   have ZN:=(zK.new Gd.ay 213).go hb;have hy:=zK.R.j;have hyW:W.a.j+1<w9.a.j:=zK.S.lt;have ZN:=ab ZN;generalize w9.a.j=y at *;clear zK hb;simp only[Act.put,bI,bH,bP,jQ,kY];have hne:=ab (show∀p∈[(W.a.j+1,kD.ay),(W.a.j,k.ay)],p.1≠y from fun p hp=>by simp at hp;rcases hp with rfl|rfl<;>simp<;>omega);have HYW:=ab hyW;clear hyW hy;have yE:=ZN.i.S.M 0 42 (aX (Sl.G Gd).symm);have Z5:=ab (ZN.i.put hne.i (vV o).ay (by rw[Sl.G,Sl.G]));go_step;go_simp;go_step;go_step;clear yE ZN;generalize gT w8 y 0 (vV o).ay=w6 at Z5 ⊢;have b0:=Z5.i.S;have f1:w6.b ⟨y,0,none⟩=some (.e o.isSome):=by rw[b0.K.1 0,Sl.NM,Je]
   have f2:vw w6 y 1 41:=of_eq_true (b0.K.2.2.1 1 41 (by rw[Sl.dY];omega));have f3:dM w6 y 1 41=(vV o).qU.ay:=by rw[b0.K.2.2.2 1 41 (by rw[Sl.dY];omega)];exact Sl.TP _
   have yE:=Z5.i.b1.M 0 41 (aX (Fw.G _).symm);have Z7:=ab (show Bx [(W.a.j+1,(vV o).qU.ay),(y,(vV o).ay),(W.a.j,k.ay)] W (Ah w6.drew (W.a.j+1) 0 (vV o).qU)from Z5.i.drew.swap.put (fun p hp=>by have:=HYW.i;simp at hp;rcases hp with rfl|rfl<;>simp<;>omega) (vV o).qU.ay (by rw[Fw.G,Fw.G]));have f4:(Ah w6.drew (W.a.j+1) 0 (vV o).qU).b ⟨y,0,none⟩=some (.e o.isSome):=by rw[Z7.i.b1.K.1 0,Sl.NM,Je]
   clear b0;go_wp2_with fail;go_region;go_wp2;refine aN (kFw.qC rfl _ rfl Z7.i.S (Fw.G _)) rfl ?_;exact⟨rfl,Z7.i.R⟩
end
theorem am5(N:Nat):madeCells Gd.ay (N*42)=Wi (dX N none):=by
 apply dZ;intro j;by_cases hj:j<N*42
 ·have e:j=j/42*42+j%42:=by omega
  have h1:(Wi (dX N none))[j]? = (slC (fI (dX N none) (j/42)))[j%42]?:=by
   conv=>lhs;rw[e]
   exact JV _ _ _ (by rw[oN];omega) (by omega)
  have h2:fI (dX N (none:Option Fw)) (j/42)=none:=by unfold fI;rw[au,sZ];split<;>rfl
  rw[h1,h2];have h3:Gd.ay.j=42:=Sl.G _;have h4:j%42<Gd.ay.j:=by omega
  simp only[madeCells,Array.getElem?_map,Array.getElem?_range,h3,hj,if_true,lV];show some Gd.ay[j%42]! = (vV none).ay[j%42]?;show some Gd.ay[j%42]! = Gd.ay[j%42]?;rw[fD h4];congr 1;exact getElem!_pos Gd.ay (j%42) h4
 ·rw[aU (by rw[size_madeCells];omega),aU (by rw[uX,oN];omega)]
theorem am6(w:ak)(N:Nat)(hN:N<=100000):(xD 205 (.b .a N) (.b .a N)).I ah w = .Z (.a (some ⟨w.a.j,0,none⟩) N N) (w.alloc (.D (Wi (dX N none)) 213)):=by
 obtain⟨i,h1,h2,h3⟩:=kSl.afB;have hb:i.bytes<=1000:=by
  have:(ah.info? 213).map (fun i=>decide (i.bytes<=1000))=some true:=by kernel_rfl
  rw[h1]at this;simpa using this
 have:=run_make w 205 213 i _ Tryz.underlying205 h1 h3 .a .a (N:Int) (N:Int) (by omega) (by omega) (by have h5:=gU hb hN;rw[<-Int.natCast_mul];omega) (by omega);rw[dS,h2]at this;rw[this];show _=Result.ok _ (w.alloc (.D _ _));rw[<-am5];rfl
theorem aqm(key:Vector UInt8 16):sw ajA.ay 0 (jd key)=jd key ++ #[aI .a 0,.b .a 0,.a none 0 0]:=by
 show sw (jd (bG 16 0) ++ #[aI .a 0,.b .a 0,.a none 0 0]) 0 (jd key)=_;exact FV (by rw[dL,dL])
@[go_sem]theorem ay0(W:ak)(key:Vector UInt8 16)(dU:Int)(A:Option aT)(n c:Nat):(uH 207 #[(0,.d (jd key)),(1,.b .a dU),(3,.a A n c)]).I ah W = .Z (.d (Tk.mk key dU 0 A n c).ay) W:=
 kTk.bd W _ _ _ _ Dr (aDz W _ Dr) (by
  show fE _ ajA.ay [(0,.d (jd key)),(1,.b .a dU),(3,.a A n c)]=_;rw[DY _ _ 0 0 16 _ _ rfl (by show(jd key).j=16;rw[dL]) (by rw[Tk.G];omega)];show fE _ (sw ajA.ay 0 (jd key)) _=_;rw[aqm,<-Array.append_empty (xs:=jd key ++ #[aI .a 0,.b .a 0,.a none 0 0])];rw[oJ 1 16 _ _ _ _ rfl rfl (by simp[dL]),oJ 3 18 _ _ _ _ rfl rfl (by simp[dL])];simp[fE,Tk.ay,aM,dL])
def ay1(l c:aB):Sem aB:=xD 205 l c
@[go_sem ↓]theorem aA3(l c:aB):xD 205 l c=ay1 l c:=rfl
def ar6(w:ak)(key:Vector UInt8 16)(dU:Int)(e:lq)(w':ak):Prop:=
 ∃q g s,e=.a (.J #[.c (some ⟨q,0,none⟩),.b .a 0])/\Ke w' q g key dU s []/\dU*2<=s.a/\w.a.j<=q/\w.a.j<=g/\aL w.a.j w w'
theorem ajN(key:Vector UInt8 16)(r:Nat)(h1:1<=r)(h2:r<=4096)(w:ak):
 aP ah 62 #[.d (jd key),.b .a r] w (ar6 w key r):=by
 have Z0:=ab ((Bx.start w).new (jd key) 22);have t1:decide ((r:Int)<1)=false:=by simp;omega
 have t2:decide ((r:Int)>4096)=false:=by simp;omega
 have t3:decide ((4096:Int)<r)=false:=by simp;omega
 have t4:decide (4096<r)=false:=by simp;omega
 have t5:decide (r<1)=false:=by simp;omega
 have t6:decide (r=0)=false:=by simp;omega
 obtain⟨r2,hr2⟩:=cB (2*r);have e1:(2:Int)*(r:Int)=(r2:Int):=by omega
 have i1:=jS (r2:Int) (by omega);have HR2:=ab hr2;clear hr2;go_enter Tryz.func62,Tryz.ntmps62;go_upto_region 1 with fail
 generalize w.alloc (.D (jd key) 22)=w1 at Z0 ⊢;go_wp2;go_loopw [6] (fun v wr=>∃N:Nat,1<=N/\N<=2*r2/\v=.b .a N/\wr=w1) (fun v _=>2*r2-(intOf v).e)
 case atStart=>exact⟨1,av _,by have:=HR2.i;omega,rfl,by first|rfl|trivial⟩
 case round=>
  obtain⟨N,hN1,hN2,rfl,rfl⟩:=hrel;have hr:=HR2.i;by_cases hlt:N<r2
  ·have hki:(N:Int)<r2:=by omega
   obtain⟨N2,ay2⟩:=cB (N*2);have e2:(N:Int)*2=(N2:Int):=by omega
   have i2:=jS (N2:Int) (by omega);have Qz:=ab ay2;clear ay2 hr;go_wp2;go_roundw
   case rel=>exact⟨N2,by have:=Qz.i;omega,by have:=Qz.i;omega,rfl,by first|rfl|trivial⟩
   case measure=>have:=Qz.i;simp only[intOf,dS];omega
  ·have hki:¬(N:Int)<r2:=by omega
   have hd:decide ((N:Int)<r2)=false:=by simpa using hki
   have hd2:decide (N<r2)=false:=by simpa using hlt
   have mk:=fun w=>am6 w N (by omega)
   have Z1:=ab Z0.i.drew;have l1:=Wq.nC Z1.i.S (dL _);have l2:=Wq.nC ((Z0.i.alloc (.D (Wi (dX N none)) 213)).drew).S (dL _);have l3:=Wq.nC (Z1.i.alloc (.D (Wi (dX N none)) 213)).S (dL _);clear hr hlt;go_wp2_with fail
   replace mk:∀w,(ay1 (.b .a N) (.b .a N)).I ah w = .Z (.a (some ⟨w.a.j,0,none⟩) N N) (w.alloc (.D (Wi (dX N none)) 213)):=mk
   go_region;go_wp2;go_ret2;have hr:=HR2.i;have hsz:=Z0.i.R.j;have hlt:¬N<r2:=by omega
   refine⟨wr.a.j+1,wr.a.j,dX N none,rfl,⟨⟨?_,?_,by omega,by rw[oN];omega⟩,?_,wo.nil (by omega)⟩,by rw[oN];omega,by omega,by omega,?_⟩
   ·rw[UE,oN]
    exact(dK.Rv wr _ _ _).drew
   ·exact((dK.new wr _ _).alloc _).drew
   ·exact TbR.new (by omega) (fun k=>by rw[oN];exact fH _ (by omega))
   ·exact(((Z0.i.R.alloc hsz _).alloc (by simp;omega) _)).drew
end Go.Proofs.YtkjojjopamaoiaaGreat
