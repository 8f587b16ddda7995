/- Parts. -/
import Derived.Test.YtkjojjopamaoiaaGreatKp5
import Derived.Test.YtkjojjopamaoiaaGreatKp2
import Derived.Shelf.SlSortCmp.NoneTotal
import Derived.Lib.BytesEntry
import Derived.Shelf.Bits.Mul64
set_option linter.all false
set_option maxRecDepth 100000
set_option maxHeartbeats 8000000
open Array renaming range->lD,ext'->o9,toList_range->j5,length_toList->bf,getElem?_append->aG,getElem?_toList->dH,getElem?_extract->dz,size_append->om,ext_getElem?->eB,getElem?_setIfInBounds->dU,extract_append->dD,mapM->iG,setIfInBounds_append->aN,getElem?_eq_none->aV,replicate_succ->gH,replicate_zero->gI,all_eq_true'->xQ,getElem?_eq_getElem->dK,getElem?_eq_some_iff->bW,getElem?_modify->zJ,size->Array.j,toList->Array.a,getD->Array.c,setIfInBounds->Array.b,extract->Array.m
open BitVec renaming ofInt->gD,ofNat->Ia,ofInt_natCast->mh,toNat_ofNat->nK,toNat->BitVec.e
open Bool renaming and_eq_true->bB,false_eq_true->jr,not_eq_true'->oz,or_eq_true->nJ
open ByteArray renaming size->ByteArray.j,toList->ByteArray.a,extract->ByteArray.m
open Exists renaming intro->rO
open Go renaming World->au,Ending->lu,Value->aC,Addr->aU,Calls->aQ,wpQuiet_nil->gN,TypeId->bF,Program->eX,run_underlying->dJ,bodyPost_ret->aO,info_parts->xB,setRow_other->oQ,Oper->je,Act->qY,Exit->zW,Operand->pR,wpList_plain->sU,Field->oh,Fence->KU,SeqStopsK->vQ,CallsIn->Mw,callsIn_of_wp_marks->rz,wpIn_rangeFunc_ownH->yI,belowK_b->vL,ownFrom_below->yT,wpListIn_append_own->Eo,run_takeDeferred->uE,results_tmp->Iy,callsIn_wide->ny,callsIn_of_wp->Cu,results_none->vw,underlying->Go.k
open Go.Addr renaming add_mid->iH,add->qH
open Go.BoundsCode renaming toNat->Go.BoundsCode.e
open Go.Calls renaming mono->Go.Calls.g
open Go.CallsD renaming mono->Go.CallsD.g
open Go.DataW renaming agg->Go.DataW.d
open Go.Ending renaming returned->Go.Ending.a
open Go.Extern.Bytes renaming bytesOf->uo
open Go.Fence renaming wide->nP
open Go.Field renaming offset->Go.Field.Z
open Go.FrameMode renaming run->Go.FrameMode.J
open Go.Func renaming name->Go.Func.E
open Go.Instr renaming buildSlice->bK,fill->fD,loadAt->cZ,storeAt->eU,build->fM,makeSlice->xP,slice->Go.Instr.a,extract->Go.Instr.m
open Go.IntKind renaming i64->bU,u64->jB,wrap_u64->jT,u8->aX,wrap_u8->Ic,wrap->vK,bits->nY,signed->lZ,i64->Go.IntKind.a,u8->Go.IntKind.b,u64->Go.IntKind.c
open Go.Lib renaming hid->ah
open Go.Obj renaming cells->eO,cells->Go.Obj.D
open Go.Op renaming bytesLess->bR,slice->Go.Op.a,extract->Go.Op.m
open Go.Oper renaming wp->nI,semAt_some->qA,dst->Go.Oper.Y
open Go.Operand renaming tmp->Go.Operand.a
open Go.Program renaming underlying->Go.Program.k
open Go.Proofs.Mul64 renaming wrapN->vM
open Go.Proofs.Tryz renaming prog->aj,underlying56->cu,underlying189->pG,underlying192->pF,underlying70->oC,underlying213->um,underlying207->DL,underlying280->DN,underlying34->Fx,underlying75->vo,underlying22->qp,underlying0->Ib,zeroValue0->JN,underlying3->gY,zeroValue3->JO,underlying4->nU,zeroValue4->JQ,underlying5->lF,underlying9->iR,isAgg9->Lr,sizeOf9->Iw,zeroValue9->Br,underlying155->DR,underlying86->nC
open Go.Region renaming wanted->fF
open Go.Result renaming andThen->iI
open Go.ResultVar renaming tmp->Go.ResultVar.a
open Go.RoundIn renaming mono->Go.RoundIn.g
open Go.RowKit renaming Below->aM
open Go.RowKit.Below renaming refl->aH,size->Go.RowKit.Below.j,mono->Go.RowKit.Below.g,setCell->Go.RowKit.Below.G
open Go.RowKit.Hid renaming out->Go.RowKit.Hid.i
open Go.Sem renaming run_bind->jM,run_pure->oD,run->JL,run->Go.Sem.J
open Go.Shut renaming out->Go.Shut.i
open Go.Sort renaming size_flatK->xR
open Go.TypeDesc renaming slice->Go.TypeDesc.a,int->Go.TypeDesc.b,bool->Go.TypeDesc.e
open Go.TypeInfo renaming size->Go.TypeInfo.j
open Go.Value renaming pointer->sw,int->aJ,cells->bZ,ownBlock->jJ,slice->bC,oneCell'->dx,agg->cK,bool->bQ,string->jl,cells->Go.Value.D,slice->Go.Value.a,int->Go.Value.b,pointer->Go.Value.c,agg->Go.Value.d,bool->Go.Value.e,tuple->Go.Value.K,ownBlock->Go.Value.f,oneCell'->Go.Value.h,string->Go.Value.g
open Go.World renaming frozen?->su,setRow->rW,size_alloc->tq,ownsRow_nil->fB,heap->Go.World.a,cell?->Go.World.b,setCell->Go.World.G,ownsRow->Go.World.c,there->Go.World.O,grownBy->Go.World.d
open Go.World.grownBy renaming size->Go.World.grownBy.j
open Int renaming toNat_of_nonneg->lJ,toNat_natCast->dW,tmod->MB,tmod_eq_emod_of_nonneg->mI,toNat->Int.e
open List renaming set_cons_succ->bI,set_cons_zero->bM,take_succ_cons->jP,take_zero->jZ,setIfInBounds_toArray->bJ,drop_succ_cons->jQ,drop_zero->kZ,length_drop->jG,getElem?_eq_getElem->aD,getD_eq_getElem?_getD->av,ext_getElem?->iN,getElem?_eq_none->aT,getElem?_take_of_lt->iy,map_cons->kK,map_nil->pU,length_append->aS,length_take->bL,append_assoc->dF,take_of_length_le->aL,nil_append->dG,getElem?_append_left->mX,getElem?_take->jv,getElem?_append_right->rD,getElem?_drop->jq,drop_of_length_le->iY,length_map->bV,flatMap_cons->iO,cons_append->iA,getElem_mem->eY,take_succ_eq_append_getElem->dV,flatMap_append->wR,length_set->aW,mem_append->qy,mem_singleton->fT,mem_map->iX,getElem?_map->jm,map_take->Ap,getElem?_append->kR,range->dS,append_nil->uI,drop_drop->Lm,mem_cons->bE,map_map->Ir,map_congr_left->Ck,findIdx?_eq_some_iff_getElem->ig,getElem?_set->fI,mem_filter->mH,not_mem_nil->fO,eq_nil_of_length_eq_zero->bG,length_cons->bD,length_nil->gQ,all_eq_true->fV,mem_iff_getElem->mF,pairwise_iff_getElem->gu,any_eq_false->qv,mem_take_iff_getElem->rP,mem_range->eG,take_take->vN,foldl_cons->jW,size_toArray->dP,push_toArray->iQ,append_toArray->gX,replicate->eu,take_length->zY,getElem?_replicate->tF,length_replicate->oV,length->List.a,toArray->List.b,getD->List.c,take->List.d,drop->List.f,flatMap->List.h,below->List.S,extract->List.m
open Nat renaming le_refl->ay,le_of_eq->aY,ne_of_lt->jN,mul_one->gL,lt_or_ge->aZ,zero_add->bl,mod_eq_of_lt->fP,ne_of_gt->uD,lt_succ_self->mP,min->qw,le_trans->aP,le_succ_of_le->kP,le_of_lt->mQ,shiftLeft_eq->mO,add_assoc->nG,add_zero->nM,eq_zero_or_pos->eD,mod_lt->fH,mul_comm->Dh,mul_le_mul_right->bY,reduceAdd->kM,reduceSub->kN,mul_le_mul->gP,zero_le->ji,lt_of_lt_of_le->eZ,below->Nat.S
open Option renaming map_some->mo,getD_some->jE,toList->Option.a,getD->Option.c
open Or renaming inl->Or.a,inr->Or.b
open UInt8 renaming ofNat->aK,toNat->UInt8.e
open Vector renaming ofFn->Ej,length_toList->nR,replicate->bH,toList->Vector.a
namespace Go.Proofs.YtkjojjopamaoiaaGreat
open Go.RowKit
section
attribute [local go_sem high] jc jK
def PkP(W:au)(x:Pk)(e:lu)(W':au):Prop:=e=.a (.d x.aA)/\aM W.a.j W W'
theorem Qb{W w:au}{c:Array aC}(tmps:Array aC)(k:Int)(ht:tmps.c 2 undef=.c (some ⟨W.a.j,0,none⟩))(hb:dN w W.a.j c)(hc:c.j=42)(hl:aM W.a.j W w):
 bodyPostD aj Tryz.f32 (PkP W (xL k)) (Exit.panic [{v:=adE k,recovered:=false}]) {tmps:=tmps,defers:=[{target:=Target.fn (Fn.func 90) #[sw (some ⟨W.a.j,0,none⟩)],args:=#[]}]} w:=by
 refine leaves_cons (f:=90) (args:=#[.c (some ⟨W.a.j,0,none⟩)]) (by simp) (by simp[go_sem]) ?_;have hr:=kPk.zm (fn:=Tryz.f32) (p:=2) (by kernel_rfl) tmps ht (hb.put (xL k).aA (by rw[Pk.I,hc])) (Pk.I _);have hb2:=lg hl W.a.j 0 (xL k).aA (ay _);have hq:=Sk W.a.j k [] w (hb.O 0 42 (by omega));generalize gZ w W.a.j 0 (xL k).aA=w2 at *;refine hq.g ?_;rintro e u' w'' ⟨he,hu,hw⟩;rw[he,hu,hw];exact⟨_,hr,rfl,hb2⟩
theorem auM{W w:au}(tmps:Array aC)(x:Pk)(ht:tmps.c 2 undef=.c (some ⟨W.a.j,0,none⟩))(hb:dN w W.a.j x.aA)(hl:aM W.a.j W w):
 bodyPostD aj Tryz.f32 (PkP W x) Exit.ret {tmps:=tmps,defers:=[{target:=Target.fn (Fn.func 90) #[sw (some ⟨W.a.j,0,none⟩)],args:=#[]}]} w:=by
 have hr:=kPk.zm (fn:=Tryz.f32) (p:=2) (by kernel_rfl) tmps ht hb (Pk.I _);refine leaves_cons (f:=90) (args:=#[.c (some ⟨W.a.j,0,none⟩)]) (by simp) (by simp[go_sem]) ?_;refine(af7 W.a.j w).g ?_;rintro e u' w'' ⟨rfl,rfl,rfl⟩;exact⟨_,hr,rfl,hl⟩
theorem Ju(W:au)(A:Option aU)(n c:Nat)(l:List UInt8)(hnc:n<=c)(hc:c<=9223372036854775807/\n<=1000000000)(hr:fZ W W.a.j A n l):aQ aj 32 #[.a A n c] W (PkP W (vW l)):=by
 have HR:=ah hr;have hl:=ah hr.len;have b0:=ah ((Bx.start W).new NI.aA 83);have CL:=ah (NV _ A n c l hnc hc (b0.i.Mf hr));clear hr;have hmf:∀(fn:Fn)(first cap:Array aC)(w:au),(Instr.makeFunc fn first cap).J aj w=.ok (.func fn first cap) w:=fun _ _ _ _=>rfl
 have NO:=ah aqe;have OK:=ah aqd;go_enter_defers Tryz.func32,Tryz.ntmps32;obtain⟨r,hrr⟩:=dw (mJ l);have HRR:=ah hrr;obtain⟨k,er⟩:=r;unfold LkP at CL;rw[<-hrr]at CL;clear hrr;by_cases h1:er≠0
 ·have q:(er==0)=false:=by simp[h1]
  have H:=ah (show vW l=xL 1 by unfold vW;rw[<-HRR.i,if_pos h1]);go_wp2_with (first|(go_at_call 91;with_reducible refine CL.i.g ?_;rintro e w1 ⟨TA,tc,rfl,_,hb1⟩;have Z1:=ah ((b0.i.go hb1).new (k.cell TA tc).aA 108);clear hb1)|(go_at_call 92;with_reducible refine(NO.i 1 _).g ?_;rintro e w2 ⟨rfl,rfl⟩));rw[H.i];exact Qb _ 1 rfl Z1.i.b1 (Pk.I _) Z1.i.R
 obtain rfl:er=0:=by simpa using h1
 obtain⟨uN,adI⟩:=af5 (l:=l) (by rw[<-HRR.i]);rw[<-HRR.i]at uN adI;rw[hl.i]at adI;simp only at uN adI;go_upto_region 4 with(first|(go_at_call 91;with_reducible refine CL.i.g ?_;rintro e w1 ⟨TA,tc,rfl,_,hb1⟩;have Z1:=ah ((b0.i.go hb1).new (k.cell TA tc).aA 108);have hy3:=(b0.i.go hb1).X.lt;clear hb1)|(go_at_call 92;with_reducible refine(OK.i 1 _).g ?_;rintro e w2 ⟨rfl,rfl⟩))
 generalize w1.alloc (.D (k.cell TA tc).aA 108)=w2 at Z1 ⊢;generalize w1.a.j=y3 at *;have F3:=ah (fun(L:List (Nat×Array aC)) (w:au) (h:Bx ((y3,(k.cell TA tc).aA)::L) W w)=>show w.b ⟨y3,13,none⟩=some (.b .a k.oG)/\w.b ⟨y3,14,none⟩=some (.b .a (k.fG:Nat))from⟨(h.X.M.1 13).trans (Lc.Eb _),(h.X.M.1 14).trans (Lc.Ma _)⟩);obtain⟨f1,f2⟩:=F3.i _ _ Z1.i;by_cases hty:k.oG≠2048/\k.oG≠34525
 ·have q1:(k.oG==2048)=false:=by simp[hty.1]
  have q2:(k.oG==34525)=false:=by simp[hty.2]
  have H:=ah (show vW l=xL 2 by unfold vW;rw[<-HRR.i];rw[if_neg (by simp),if_pos hty]);go_wp2_with (go_at_call 92;with_reducible refine(NO.i 2 _).g ?_;rintro e w3 ⟨rfl,rfl⟩);rw[H.i];exact Qb _ 2 rfl Z1.i.b1 (Pk.I _) Z1.i.R
 have HTY:=ah hty;go_cut []from 17 to 25 (fun wx=>wx=w2)
 case first=>
  by_cases q0:k.oG=2048
  ·have q1:(k.oG==2048)=true:=by simp[q0]
   go_wp2_with (go_at_call 92;with_reducible refine(OK.i 2 _).g ?_;rintro e w3 ⟨rfl,rfl⟩);go_meet
   case rel=>rfl
  ·have q1:(k.oG==2048)=false:=by simp[q0]
   have q2:(k.oG==34525)=true:=by simp;omega
   go_wp2_with (go_at_call 92;with_reducible refine(OK.i 2 _).g ?_;rintro e w3 ⟨rfl,rfl⟩);go_meet
   case rel=>rfl
 have hcut:=hcut;rw[hcut];clear hcut f1 f2;have uN:=uN;obtain⟨g,hg⟩:=dw (mZ l);have HG:=ah hg;have HG2:=ah (show g=YS k.oG (l.f k.fG)by rw[hg];unfold mZ;rw[<-HRR.i]);clear hg;obtain⟨g,e2⟩:=g;have i1:(k.fG:Int)<=n:=by omega
 have CI:=ah (fun(w:au) (h:Bx [(y3,(k.cell TA tc).aA),(W.a.j,NI.aA)] W w)=>af6 w k.oG (vI A k.fG c 1) (n-k.fG) (c-k.fG) (l.f k.fG) (by omega) (by omega) ((h.Mf HR.i).yN (by omega) hnc));rw[<-HG2.i]at CI;go_upto_region 5 with fail
 refine xu (Bx.abg ([(y3,(k.cell TA tc).aA),(W.a.j,NI.aA)]) W) 10 11 9 5 35 168 aa5.aA (by kernel_rfl) rfl rfl rfl rfl rfl (by kernel_rfl) (by kernel_rfl) (by kernel_rfl) (by kernel_rfl) (by kernel_rfl) rfl rfl rfl (fun a w=>by simp[go_sem]) (tN rfl) Z1.i.drew ?_;apply rO;refine⟨fun T f hT es ew=>?_,?_⟩
 ·have EW:=ah ew
  have ES:=ah es;have k1:=fun m=>(F3.i _ _ (ES.i m)).1
  have k2:=fun m=>(F3.i _ _ (ES.i m)).2
  have CF:=ah (fun m=>CI.i _ (ES.i m));clear es ew;simp only[mV,yx,kV,bI,bM,jP,jZ]
  repeat(go_big_quiet_step ((first|(go_at_call 93;(with_reducible refine(CF.i _).g ?_);rintro e w2 ⟨rfl,hb⟩;exact⟨rfl,EW.i _ _ hb⟩))))
  exact gN rfl
 ·intro w9 w8 zT _ hb
  have ZN:=ah ((zT.new aa5.aA 168).go hb);have hyy:=ah zT;have hy:=zT.R.j;have hyv:=ah (fun p (hp:p∈[(y3,(k.cell TA tc).aA),(W.a.j,NI.aA)])=>((zT.2 p hp).2.lt:p.1<w9.a.j));generalize w9.a.j=y at *;clear hb zT;have yO:=ZN.i.X.O 0 38 (aY (Nt.I aa5).symm);refine⟨gZ w8 y 0 g.aA,?_,?_⟩
  ·simp[go_sem,yO]
  simp only[Act.put,bJ,bI,bM,jQ,kZ];have Z2:=ah (ZN.i.put (fun p hp=>jN (hyv.i p hp)) g.aA (by rw[Nt.I,Nt.I]));clear yO ZN hyy hyv;generalize gZ w8 y 0 g.aA=w3 at Z2 ⊢;go_step;go_step;go_step;obtain⟨y1,y2,y3',y4⟩:=Z2.i.X.M;have HP:=ah (show vW l=(if e2≠0 then xL 3 else if g.oN=true then xL 4 else if g.aR≠6/\g.aR≠17 then xL 5 else if(Jr g.aR ((l.d (k.fG+g.dA.e)).f (k.fG+g.head.e))).2≠0 then xL 6
   else⟨0,⟨g.h,g.Y,g.aR,(Jr g.aR ((l.d (k.fG+g.dA.e)).f (k.fG+g.head.e))).1.kT,(Jr g.aR ((l.d (k.fG+g.dA.e)).f (k.fG+g.head.e))).1.j4⟩,(Jr g.aR ((l.d (k.fG+g.dA.e)).f (k.fG+g.head.e))).1.uT,k.fG,k.fG+g.head,k.fG+g.dA⟩)by
   unfold vW Mi;rw[<-HRR.i,<-HG.i,if_neg (by simp),if_neg HTY.i])
  by_cases h2:e2≠0
  ·have q:(e2==0)=false:=by simp[h2]
   go_wp2_with (go_at_call 92;(with_reducible refine(NO.i 3 _).g ?_);rintro e w4 ⟨rfl,rfl⟩);rw[HP.i,if_pos h2];exact Qb _ 3 rfl Z2.i.b2 (Pk.I _) Z2.i.R
  obtain rfl:e2=0:=by simpa using h2
  cases hf:g.oN
  case true=>
   go_wp2_with (first|(go_at_call 92;(with_reducible refine(OK.i 3 _).g ?_);rintro e w4 ⟨rfl,rfl⟩)|(go_at_call 92;(with_reducible refine(NO.i 4 _).g ?_);rintro e w4 ⟨rfl,rfl⟩));rw[HP.i,if_neg h2,if_pos hf];exact Qb _ 4 rfl Z2.i.b2 (Pk.I _) Z2.i.R
  case false=>
   have CC:=ah (adD g.aR w3);by_cases hp:g.aR≠6/\g.aR≠17
   ·rw[show(decide (g.aR=6)||decide (g.aR=17))=false by simp[hp.1,hp.2]]at CC
    go_wp2_with (first|(go_at_call 92;(with_reducible refine(OK.i 3 _).g ?_);rintro e w4 ⟨rfl,rfl⟩)|(go_at_call 92;(with_reducible refine(OK.i 4 _).g ?_);rintro e w4 ⟨rfl,rfl⟩)|(go_at_call 94;(with_reducible refine CC.i.g ?_);rintro e w4 ⟨rfl,rfl⟩)|(go_at_call 92;(with_reducible refine(NO.i 5 _).g ?_);rintro e w4 ⟨rfl,rfl⟩));rw[HP.i,if_neg h2,if_neg (by rw[hf];simp),if_pos hp];exact Qb _ 5 rfl Z2.i.b2 (Pk.I _) Z2.i.R
   rw[show(decide (g.aR=6)||decide (g.aR=17))=true by simp;omega]at CC;obtain⟨g1,g2,g3⟩:=amI (k:=k.oG) (l:=l.f k.fG) (by rw[<-HG2.i]);rw[<-HG2.i,jG,hl.i]at g3;rw[<-HG2.i]at g1 g2;simp only at g1 g2 g3;obtain⟨a1,ha1⟩:∃a1:Nat,(k.fG:Int)+g.head=a1:=⟨k.fG+g.head.e,by omega⟩
   obtain⟨b1,hb1⟩:∃b1:Nat,(k.fG:Int)+g.dA=b1:=⟨k.fG+g.dA.e,by omega⟩
   have e1:k.fG+g.head.e=a1:=by omega
   have e1':k.fG+g.dA.e=b1:=by omega
   have hab:a1<=b1/\b1<=n:=by omega
   rw[e1,e1',ha1,hb1]at HP;have hw1:bU.wrap ((k.fG:Int)+g.head)=(a1:Int):=by rw[ha1];exact jV _ (by omega)
   have hw2:bU.wrap ((k.fG:Int)+g.dA)=(b1:Int):=by rw[hb1];exact jV _ (by omega)
   obtain⟨j1,j2⟩:(a1:Int)<=b1/\(b1:Int)<=c:=by omega
   have j0:(0:Int)<=a1:=by omega
   have CP:=ah (fun(w:au) (h:Bx [(y,g.aA),(y3,(k.cell TA tc).aA),(W.a.j,NI.aA)] W w)=>abe w g.aR (vI A a1 c 1) (b1-a1) (c-a1) ((l.d b1).f a1) (by omega) (by omega) ((h.Mf HR.i).adz hab.1 hab.2 hnc));unfold PtP at CP;obtain⟨pr,hpr⟩:=dw (Jr g.aR ((l.d b1).f a1));obtain⟨pt,e3⟩:=pr;rw[<-hpr]at CP HP;clear hpr ha1 hb1 e1 e1' g1 g2 g3 hab;have F5:=ah (fun(w:au) (h:Bx [(y,g.aA),(y3,(k.cell TA tc).aA),(W.a.j,NI.aA)] W w)=>show w.b ⟨y,0,none⟩=some (.b .a g.head)/\w.b ⟨y,1,none⟩=some (.b .a g.dA)/\w.b ⟨y,2,none⟩=some (.b .a g.aR)from⟨(h.X.M.1 0).trans (Nt.Ke _),(h.X.M.1 1).trans (Nt.yw _),(h.X.M.1 2).trans (Nt.BZ _)⟩);go_upto_region 9 with(first|(go_at_call 92;(with_reducible refine(OK.i 3 _).g ?_);rintro e w4 ⟨rfl,rfl⟩)|(go_at_call 92;(with_reducible refine(OK.i 4 _).g ?_);rintro e w4 ⟨rfl,rfl⟩)|(go_at_call 94;(with_reducible refine CC.i.g ?_);rintro e w4 ⟨rfl,rfl⟩)|(go_at_call 92;(with_reducible refine(OK.i 5 _).g ?_);rintro e w4 ⟨rfl,rfl⟩))
   clear y1 y2 y3' y4;refine xu (Bx.abg ([(y,g.aA),(y3,(k.cell TA tc).aA),(W.a.j,NI.aA)]) W) 18 19 17 6 64 172 qP.aA (by kernel_rfl) rfl rfl rfl rfl rfl (by kernel_rfl) (by kernel_rfl) (by kernel_rfl) (by kernel_rfl) (by kernel_rfl) rfl rfl rfl (fun a w=>by simp[go_sem]) (tN rfl) Z2.i.drew ?_;apply rO;refine⟨fun T f hT es ew=>?_,?_⟩
   ·have EW:=ah ew
    have ES:=ah es;have k1:=fun m=>(F5.i _ (ES.i m)).1
    have k2:=fun m=>(F5.i _ (ES.i m)).2.1
    have k3:=fun m=>(F5.i _ (ES.i m)).2.2
    have k4:=fun m=>(F3.i _ _ (ES.i m).swap).2
    have CF:=ah (fun m=>CP.i _ (ES.i m));clear es ew;simp only[mV,yx,kV,bI,bM,jP,jZ]
    repeat(go_big_quiet_step ((first|(go_at_call 95;(with_reducible refine(CF.i _).g ?_);rintro e w2 ⟨rfl,hb⟩;exact⟨rfl,EW.i _ _ hb⟩))))
    exact gN rfl
   ·intro w9 w8 zT _ hb
    have ZN:=ah ((zT.new qP.aA 172).go hb);have hyy:=ah zT;have hy:=zT.R.j;have hyv:=ah (fun p (hp:p∈[(y,g.aA),(y3,(k.cell TA tc).aA),(W.a.j,NI.aA)])=>((zT.2 p hp).2.lt:p.1<w9.a.j));generalize w9.a.j=z at *;clear hb zT;have yO:=ZN.i.X.O 0 5 (aY (Pt.I qP).symm);refine⟨gZ w8 z 0 pt.aA,?_,?_⟩
    ·simp[go_sem,yO]
    simp only[Act.put,bJ,bI,bM,jQ,kZ];have Z4:=ah (ZN.i.put (fun p hp=>jN (hyv.i p hp)) pt.aA (by rw[Pt.I,Pt.I]));clear yO ZN hyy hyv;generalize gZ w8 z 0 pt.aA=w4 at Z4 ⊢;go_step;go_step;go_step;obtain⟨u1,u2,u3,u4⟩:=Z4.i.X.M;by_cases h4:e3≠0
    ·have q:(e3==0)=false:=by simp[h4]
     go_wp2_with (go_at_call 92;(with_reducible refine(NO.i 6 _).g ?_);rintro e w4 ⟨rfl,rfl⟩);rw[HP.i,if_neg h2,if_neg (by rw[hf];simp),if_neg hp,if_pos h4];exact Qb _ 6 rfl Z4.i.b3 (Pk.I _) Z4.i.R
    obtain rfl:e3=0:=by simpa using h4
    obtain⟨v1,v2,v3,v4⟩:=Z4.i.b1.M;have Z5:=ah (Z4.i.new (Tu.mk g.h g.Y g.aR pt.kT pt.j4).aA 81);go_upto_region 12 with(go_at_call 92;(with_reducible refine(OK.i 6 _).g ?_);rintro e w4 ⟨rfl,rfl⟩)
    clear u1 u2 u3 u4 v1 v2 v3 v4;generalize w4.alloc (.D (Tu.mk g.h g.Y g.aR pt.kT pt.j4).aA 81)=w5 at Z5 ⊢;generalize w4.a.j=x5 at *;have Zw:=ah (Z5.i.sub (L':=[(W.a.j,NI.aA)]) (by simp));obtain⟨c1,c2⟩:=F3.i _ _ (Z5.i.sub (L':=[(y3,(k.cell TA tc).aA)]) (by simp));obtain⟨d1,d2,d3⟩:=F5.i _ (Z5.i.sub (by simp));obtain⟨m1,m2,m3,m4⟩:=Z5.i.X.M;have pz:=(Z5.i.b1.M.1 2).trans (Pt.NH _);have thw:=Zw.i.X.O 0 42 (aY (Pk.I NI).symm);have Z6:=ah (Zw.i.put (fun p hp=>by cases hp) (Pk.mk 0 (Tu.mk g.h g.Y g.aR pt.kT pt.j4) pt.uT k.fG a1 b1).aA (by rw[Pk.I,Pk.I]));go_wp2;rw[HP.i,if_neg h2,if_neg (by rw[hf];simp),if_neg hp,if_neg h4];exact auM _ _ rfl Z6.i.X Z6.i.R
end
section
attribute [local go_sem high] jc jK
end
section
open Go.ChangeShapes Go.WideShapes Go.ChangeAt Go.RowKit Go.Deep
section
variable {H:Type} {enc:bF×aC->H} {w:au} {base:Nat} {spare:Nat->Bool} {held:Bool} {fuel:Nat} {cs:List aC} {x:DataW H×List MemPlace}
theorem ajx{P:eX}{k:Nat}{t e:bF}(ht:P.k t=some (.array k e))(he:P.k e=some (.b .a))(hc:P.cellsOf e=1)(hk:P.cellsOf t=k)(h:DataW.trod enc P w base spare held fuel t cs=some x):∃v:Vector Int k,cs=v.a.map (aJ .a):=by
 obtain⟨xs,m,_,_,hl,hxl,hf⟩:=DataW.trod_array ht h;rw[hk]at hl;have hg:∀i,i<k->∃b:Int,cs[i]? = some (.b .a b):=fun i hi=>by
  have h1:=hf i hi;rw[hc,gL,aD (by omega)]at h1;obtain⟨b,hb,_,_⟩:=sH he h1;refine⟨b,?_⟩;rw[take1_drop cs i undef (by omega)]at hb;simp only[List.cons.injEq,and_true]at hb;rw[aD (by omega),<-hb,av,aD (by omega)];rfl
 obtain⟨f,hf⟩:∃f:Nat->Int,∀i,i<k->cs[i]? = some (.b .a (f i)):=by
  refine⟨fun i=>if hi:i<k then(hg i hi).choose else 0,fun i hi=>?_⟩;simp only[hi,dif_pos];exact(hg i hi).choose_spec
 refine⟨Ej fun i:Fin k=>f i,?_⟩;apply iN;intro i;rcases aZ i k with hi|hi
 ·rw[hf i hi]
  simp[hi]
 ·rw[aT (by omega),aT (by simpa using hi)]
end
@[go_sem]theorem auN(w:au):(BU 0 #[]).J aj w=.ok (.a (some ⟨w.a.j,0,none⟩) 0 0) (w.alloc (.D #[] 5)):=by
 obtain⟨i0,hi0,hz0,hz1,hz2⟩:=zF;simp[BU,bK,dJ cu,zeroValue,sizeOf,typeInfo,hi0,hz0,hz1,fD,newRow,bZ,show lD 0 = #[]by apply o9;rw[j5];rfl]
theorem fZ.go{W w1:au}{n:Nat}{A:Option aU}{l:List UInt8}(h:fZ W W.a.j A n l)(hb:aM W.a.j W w1):fZ w1 w1.a.j A n l:=(h.to hb (ay _)).lH hb.j
end
@[go_sem]theorem auO(w:au)(a b:Int):(BU 2 #[(0,.b .b a),(1,.b .b b)]).J aj w=.ok (.a (some ⟨w.a.j,0,none⟩) 2 2) (w.alloc (.D #[.b .b a,.b .b b] 5)):=by
 obtain⟨i0,hi0,hz0,hz1,hz2⟩:=zF;simp[BU,bK,dJ cu,zeroValue,sizeOf,typeInfo,hi0,hz0,hz1,fD,newRow,bZ,afO]
theorem VX(w:au)(c:Array aC)(l:List UInt8)(h:c.a=l.map bv):fZ (w.alloc (.D c 5)) (w.a.j+1) (some ⟨w.a.j,0,none⟩) l.a l:=by
 refine⟨by simp,fun _=>⟨_,rfl,by simp,fun j u hu=>?_⟩⟩;rw[iH,bl];have:=ni w c 5 j;rw[this,<-hu,<-h];simp
theorem xM(l:List UInt8)(i:Nat)(h:i<l.a):l.d (i+1)=l.d i++[l.c i 0]:=by
 rw[List.take_add_one,aD h,av,aD h];rfl
def psB(s d:fE)(p n:Nat):List UInt8:=
 if s.h=true then s.b.a.d 16++d.b.a.d 16++[0,0,aK (n/256),aK (n%256),0,0,0,aK p]
 else s.b.a.d 4++d.b.a.d 4++[0,aK p,aK (n/256),aK (n%256)]
theorem aqg(s d:fE)(p n:Nat):(psB s d p n).a<=40:=by unfold psB;split<;>simp
theorem zU(a:fE)(k:Nat)(hk:k<=16):(a.b.a.d k).a=k/\∀i,i<k->a.aA[1+i]? = some (bv ((a.b.a.d k).c i 0)):=by
 refine⟨by simp;omega,fun i hi=>?_⟩;rw[Nat.add_comm 1 i,fE.Ew _ i (by omega)];simp[av,iy hi]
theorem yX(n:Nat)(h:n<=255):((aK n).e:Int)=(n:Int):=by rw[UInt8.toNat_ofNat',fP (by omega)]
@[go_sem]theorem auP(w:au)(a0 a1 a2 a3:Int):(BU 4 #[(0,.b .b a0),(1,.b .b a1),(2,.b .b a2),(3,.b .b a3)]).J aj w=.ok (.a (some ⟨w.a.j,0,none⟩) 4 4) (w.alloc (.D #[.b .b a0,.b .b a1,.b .b a2,.b .b a3] 5)):=by
 obtain⟨i0,hi0,hz0,hz1,hz2⟩:=zF;have hr:lD 4 = #[0,1,2,3]:=by apply o9;rw[j5];rfl
 simp[BU,bK,dJ cu,zeroValue,sizeOf,typeInfo,hi0,hz0,hz1,fD,newRow,bZ,hr]
@[go_sem]theorem auQ(w:au)(a0 a1 a2 a3 a4 a5 a6 a7:Int):(BU 8 #[(0,.b .b a0),(1,.b .b a1),(2,.b .b a2),(3,.b .b a3),(4,.b .b a4),(5,.b .b a5),(6,.b .b a6),(7,.b .b a7)]).J aj w=.ok (.a (some ⟨w.a.j,0,none⟩) 8 8) (w.alloc (.D #[.b .b a0,.b .b a1,.b .b a2,.b .b a3,.b .b a4,.b .b a5,.b .b a6,.b .b a7] 5)):=by
 obtain⟨i0,hi0,hz0,hz1,hz2⟩:=zF;have hr:lD 8 = #[0,1,2,3,4,5,6,7]:=by apply o9;rw[j5];rfl
 simp[BU,bK,dJ cu,zeroValue,sizeOf,typeInfo,hi0,hz0,hz1,fD,newRow,bZ,hr]
theorem aqh(p n:Nat)(hp:p<=255)(hn:n<=65535)(wr:au):fZ (wr.alloc (.D #[.b .b 0,.b .b 0,.b .b ((n:Int)/256),.b .b ((n:Int)%256),.b .b 0,.b .b 0,.b .b 0,.b .b p] 5)) (wr.a.j+1) (some ⟨wr.a.j,0,none⟩) 8 [0,0,aK (n/256),aK (n%256),0,0,0,aK p]:=
 VX wr #[.b .b 0,.b .b 0,.b .b ((n:Int)/256),.b .b ((n:Int)%256),.b .b 0,.b .b 0,.b .b 0,.b .b p] [0,0,aK (n/256),aK (n%256),0,0,0,aK p] (by
  simp only[kK,pU,bv];rw[yX _ hp,yX (n/256) (by omega),yX (n%256) (by omega)];rfl)
theorem auR(p n:Nat)(hp:p<=255)(hn:n<=65535)(wr:au):fZ (wr.alloc (.D #[.b .b 0,.b .b p,.b .b ((n:Int)/256),.b .b ((n:Int)%256)] 5)) (wr.a.j+1) (some ⟨wr.a.j,0,none⟩) 4 [0,aK p,aK (n/256),aK (n%256)]:=
 VX wr #[.b .b 0,.b .b p,.b .b ((n:Int)/256),.b .b ((n:Int)%256)] [0,aK p,aK (n/256),aK (n%256)] (by
  simp only[kK,pU,bv];rw[yX _ hp,yX (n/256) (by omega),yX (n%256) (by omega)];rfl)
theorem XC(s d:fE)(p n:Nat)(hp:p<=255)(hn:n<=65535)(w:au):aQ aj 259 #[.d s.aA,.d d.aA,.b .a p,.b .a n] w (KI w (psB s d p n)):=by
 have aD1:=ah (aqh p n hp hn);have PR4:=ah (auR p n hp hn);have h0:=((Ly.nil (w:=w)).new s.aA 27).new d.aA 27;rw[show(w.alloc (.D s.aA 27)).a.j=w.a.j+1 by simp]at h0;have S0:=ah h0;clear h0;obtain⟨q1,q2,q3,q4⟩:=S0.i.b1.M;obtain⟨p1,p2,p3,p4⟩:=S0.i.X.M;have x0:=fE.qG s;obtain⟨b6,hb6⟩:∃b,s.h=b:=⟨_,rfl⟩
 have H6:=ah hb6;rw[hb6]at x0;clear hb6;have n0:(0:Int)<=n:=by omega
 have n1:(n:Int)<=65535:=by omega
 have n2:(0:Int)<=p:=by omega
 have n3:(p:Int)<=255:=by omega
 cases b6
 ·have GI:=ah (show([]:List UInt8).a=0 from rfl)
  obtain⟨ls,nL⟩:∃l,l=s.b.a.d 4:=⟨_,rfl⟩
  obtain⟨ld,hld⟩:∃l,l=d.b.a.d 4:=⟨_,rfl⟩
  have LS:=ah (show ls.a=4 by rw[nL];exact(zU s 4 (by omega)).1);have LD:=ah (show ld.a=4 by rw[hld];exact(zU d 4 (by omega)).1);have CS:=ah (show∀i,i<4->s.aA[1+i]? = some (bv (ls.c i 0))by rw[nL];exact(zU s 4 (by omega)).2);have CD:=ah (show∀i,i<4->d.aA[1+i]? = some (bv (ld.c i 0))by rw[hld];exact(zU d 4 (by omega)).2);have HT:=ah (show psB s d p n=ls++ld++[0,aK p,aK (n/256),aK (n%256)]by rw[nL,hld];unfold psB;rw[H6.i];rfl);clear nL hld;go_enter Tryz.func259,Tryz.ntmps259;go_wp2;clear q1 q2 q3 q4 p1 p2 p3 p4;go_loopw [9,11] (fun sr si wr=>∃(i:Nat)(A':Option aU)(m' c':Nat),i<=4/\si=.b .a i/\sr=.a A' m' c'/\Ly w.a.j [(w.a.j+1,d.aA),(w.a.j,s.aA)] w wr (.a A' m' c') ([]++ls.d i)) (fun _ si _=>4-(intOf si).e)
  case atStart=>exact⟨0,_,_,_,by omega,rfl,rfl,by simpa using S0.i⟩
  case round=>
   obtain⟨i,A',m',c',hi,rfl,rfl,h⟩:=hrel;have HO:=ah h;clear h;by_cases hlt:i<4
   ·have hlt2:(i:Int)<4:=by omega
    obtain⟨q1,q2,q3,q4⟩:=HO.i.b1.M;have hlq:=HO.i.b1.lt;have hc:=CS.i i hlt;obtain⟨u,hu⟩:=sQ (ls.c i 0);rw[hu]at hc;unfold bv at hc;have HS:=ah (xM ls i (by rw[LS.i];exact hlt));rw[hu]at HS;have L1:=ah (HO.i.alloc (.D #[.b .b (u.e:Int)] 5));have R1:=ah (EO wr u _ rfl);have MF:=ah (show([]++ls.d i).a+1<=1000000000 by rw[aS,bL,GI.i,LS.i];omega);go_wp2_with (at_builtin;refine kC rfl (.a 20) (.a 25) rfl rfl L1.i.o rfl R1.i MF.i ?_;intro A5 n5 c5 w5 h2 h3;have L2:=ah (L1.i.step h3);clear h2 h3);go_roundw
    case rel=>exact⟨i+1,A5,n5,c5,by omega,by go_num,rfl,by rw[HS.i,<-dF];exact L2.i⟩
    case measure=>simp[intOf]<;>omega
   ·have hge:¬(i:Int)<4:=by omega
    have HF:=ah (show ls.d i=ls from aL (by rw[LS.i];omega));rw[HF.i]at HO;clear HF;rw[dG]at HO;clear GI S0;obtain⟨bs2,Gd⟩:∃b,b=ls:=⟨_,rfl⟩
    have GI:=ah (show bs2.a=4 by rw[Gd,LS.i]);rw[<-Gd]at HO HT;clear Gd;go_wp2;clear hge hi hlt;go_loopw [9,12] (fun sr si wr=>∃(i:Nat)(A':Option aU)(m' c':Nat),i<=4/\si=.b .a i/\sr=.a A' m' c'/\Ly w.a.j [(w.a.j+1,d.aA),(w.a.j,s.aA)] w wr (.a A' m' c') (bs2++ld.d i)) (fun _ si _=>4-(intOf si).e)
    case atStart=>exact⟨0,_,_,_,by omega,rfl,rfl,by simpa using HO.i⟩
    case round=>
     obtain⟨i,A',m',c',hi,rfl,rfl,h⟩:=hrel;have HO:=ah h;clear h;by_cases hlt:i<4
     ·have hlt2:(i:Int)<4:=by omega
      obtain⟨q1,q2,q3,q4⟩:=HO.i.X.M;have hlq:=HO.i.X.lt;have hc:=CD.i i hlt;obtain⟨u,hu⟩:=sQ (ld.c i 0);rw[hu]at hc;unfold bv at hc;have HS:=ah (xM ld i (by rw[LD.i];exact hlt));rw[hu]at HS;have L1:=ah (HO.i.alloc (.D #[.b .b (u.e:Int)] 5));have R1:=ah (EO wr u _ rfl);have MF:=ah (show(bs2++ld.d i).a+1<=1000000000 by rw[aS,bL,GI.i,LD.i];omega);go_wp2_with (at_builtin;refine kC rfl (.a 32) (.a 37) rfl rfl L1.i.o rfl R1.i MF.i ?_;intro A5 n5 c5 w5 h2 h3;have L2:=ah (L1.i.step h3);clear h2 h3);go_roundw
      case rel=>exact⟨i+1,A5,n5,c5,by omega,by go_num,rfl,by rw[HS.i,<-dF];exact L2.i⟩
      case measure=>simp[intOf]<;>omega
     ·have hge:¬(i:Int)<4:=by omega
      have HF:=ah (show ld.d i=ld from aL (by rw[LD.i];omega));rw[HF.i]at HO;clear HF;obtain⟨bs3,Ml⟩:∃b,b=bs2++ld:=⟨_,rfl⟩
      have NZ:=ah (show bs3.a=8 by rw[Ml,aS,GI.i,LD.i]);rw[<-Ml]at HO HT;clear Ml;obtain⟨q1,q2,q3,q4⟩:=HO.i.b1.M;have L4:=ah (HO.i.alloc (.D #[.b .b 0,.b .b p,.b .b ((n:Int)/256),.b .b ((n:Int)%256)] 5));have R4:=ah (PR4.i wr);have HL4:=ah (show bs3.a+4<=1000000000 by rw[NZ.i];omega);go_wp2_with (at_builtin;refine kC rfl (.a 52) (.a 61) rfl rfl L4.i.o rfl R4.i HL4.i ?_;intro A5 n5 c5 w5 h2 h3;have L5:=ah (L4.i.step h3);clear h2 h3);go_ret;rw[<-HT.i]at L5;have ho:=L5.i.o;obtain⟨A9,c9,e9⟩:=ho.Cy;injection e9 with e9 e10 e11
      subst e10;exact⟨A5,_,c5,rfl,rfl,ho.vD,ho.R⟩
 ·have GI:=ah (show([]:List UInt8).a=0 from rfl)
  obtain⟨ls,nL⟩:∃l,l=s.b.a.d 16:=⟨_,rfl⟩
  obtain⟨ld,hld⟩:∃l,l=d.b.a.d 16:=⟨_,rfl⟩
  have LS:=ah (show ls.a=16 by rw[nL];exact(zU s 16 (by omega)).1);have LD:=ah (show ld.a=16 by rw[hld];exact(zU d 16 (by omega)).1);have CS:=ah (show∀i,i<16->s.aA[1+i]? = some (bv (ls.c i 0))by rw[nL];exact(zU s 16 (by omega)).2);have CD:=ah (show∀i,i<16->d.aA[1+i]? = some (bv (ld.c i 0))by rw[hld];exact(zU d 16 (by omega)).2);have HT:=ah (show psB s d p n=ls++ld++[0,0,aK (n/256),aK (n%256),0,0,0,aK p]by rw[nL,hld];unfold psB;rw[H6.i];rfl);clear nL hld;go_enter Tryz.func259,Tryz.ntmps259;go_wp2;clear q1 q2 q3 q4 p1 p2 p3 p4;go_loopw [9,11] (fun sr si wr=>∃(i:Nat)(A':Option aU)(m' c':Nat),i<=16/\si=.b .a i/\sr=.a A' m' c'/\Ly w.a.j [(w.a.j+1,d.aA),(w.a.j,s.aA)] w wr (.a A' m' c') ([]++ls.d i)) (fun _ si _=>16-(intOf si).e)
  case atStart=>exact⟨0,_,_,_,by omega,rfl,rfl,by simpa using S0.i⟩
  case round=>
   obtain⟨i,A',m',c',hi,rfl,rfl,h⟩:=hrel;have HO:=ah h;clear h;by_cases hlt:i<16
   ·have hlt2:(i:Int)<16:=by omega
    obtain⟨q1,q2,q3,q4⟩:=HO.i.b1.M;have hlq:=HO.i.b1.lt;have hc:=CS.i i hlt;obtain⟨u,hu⟩:=sQ (ls.c i 0);rw[hu]at hc;unfold bv at hc;have HS:=ah (xM ls i (by rw[LS.i];exact hlt));rw[hu]at HS;have L1:=ah (HO.i.alloc (.D #[.b .b (u.e:Int)] 5));have R1:=ah (EO wr u _ rfl);have MF:=ah (show([]++ls.d i).a+1<=1000000000 by rw[aS,bL,GI.i,LS.i];omega);go_wp2_with (at_builtin;refine kC rfl (.a 20) (.a 25) rfl rfl L1.i.o rfl R1.i MF.i ?_;intro A5 n5 c5 w5 h2 h3;have L2:=ah (L1.i.step h3);clear h2 h3);go_roundw
    case rel=>exact⟨i+1,A5,n5,c5,by omega,by go_num,rfl,by rw[HS.i,<-dF];exact L2.i⟩
    case measure=>simp[intOf]<;>omega
   ·have hge:¬(i:Int)<16:=by omega
    have HF:=ah (show ls.d i=ls from aL (by rw[LS.i];omega));rw[HF.i]at HO;clear HF;rw[dG]at HO;clear GI S0;obtain⟨bs2,Gd⟩:∃b,b=ls:=⟨_,rfl⟩
    have GI:=ah (show bs2.a=16 by rw[Gd,LS.i]);rw[<-Gd]at HO HT;clear Gd;go_wp2;clear hge hi hlt;go_loopw [9,12] (fun sr si wr=>∃(i:Nat)(A':Option aU)(m' c':Nat),i<=16/\si=.b .a i/\sr=.a A' m' c'/\Ly w.a.j [(w.a.j+1,d.aA),(w.a.j,s.aA)] w wr (.a A' m' c') (bs2++ld.d i)) (fun _ si _=>16-(intOf si).e)
    case atStart=>exact⟨0,_,_,_,by omega,rfl,rfl,by simpa using HO.i⟩
    case round=>
     obtain⟨i,A',m',c',hi,rfl,rfl,h⟩:=hrel;have HO:=ah h;clear h;by_cases hlt:i<16
     ·have hlt2:(i:Int)<16:=by omega
      obtain⟨q1,q2,q3,q4⟩:=HO.i.X.M;have hlq:=HO.i.X.lt;have hc:=CD.i i hlt;obtain⟨u,hu⟩:=sQ (ld.c i 0);rw[hu]at hc;unfold bv at hc;have HS:=ah (xM ld i (by rw[LD.i];exact hlt));rw[hu]at HS;have L1:=ah (HO.i.alloc (.D #[.b .b (u.e:Int)] 5));have R1:=ah (EO wr u _ rfl);have MF:=ah (show(bs2++ld.d i).a+1<=1000000000 by rw[aS,bL,GI.i,LD.i];omega);go_wp2_with (at_builtin;refine kC rfl (.a 32) (.a 37) rfl rfl L1.i.o rfl R1.i MF.i ?_;intro A5 n5 c5 w5 h2 h3;have L2:=ah (L1.i.step h3);clear h2 h3);go_roundw
      case rel=>exact⟨i+1,A5,n5,c5,by omega,by go_num,rfl,by rw[HS.i,<-dF];exact L2.i⟩
      case measure=>simp[intOf]<;>omega
     ·have hge:¬(i:Int)<16:=by omega
      have HF:=ah (show ld.d i=ld from aL (by rw[LD.i];omega));rw[HF.i]at HO;clear HF;obtain⟨bs3,Ml⟩:∃b,b=bs2++ld:=⟨_,rfl⟩
      have NZ:=ah (show bs3.a=32 by rw[Ml,aS,GI.i,LD.i]);rw[<-Ml]at HO HT;clear Ml;obtain⟨q1,q2,q3,q4⟩:=HO.i.b1.M;have L4:=ah (HO.i.alloc (.D #[.b .b 0,.b .b 0,.b .b ((n:Int)/256),.b .b ((n:Int)%256),.b .b 0,.b .b 0,.b .b 0,.b .b p] 5));have R4:=ah (aD1.i wr);have HL4:=ah (show bs3.a+8<=1000000000 by rw[NZ.i];omega);go_wp2_with (at_builtin;refine kC rfl (.a 41) (.a 50) rfl rfl L4.i.o rfl R4.i HL4.i ?_;intro A5 n5 c5 w5 h2 h3;have L5:=ah (L4.i.step h3);clear h2 h3);go_ret;rw[<-HT.i]at L5;have ho:=L5.i.o;obtain⟨A9,c9,e9⟩:=ho.Cy;injection e9 with e9 e10 e11
      subst e10;exact⟨A5,_,c5,rfl,rfl,ho.vD,ho.R⟩
def sj(l:List UInt8)(k:Nat)(b:List UInt8):List UInt8:=l.d k++b++l.f (k+b.a)
def N7(n:Nat):List UInt8:=[aK (n/256),aK (n%256)]
theorem VY(n:Nat):(N7 n).a=2:=rfl
theorem EZ{l:List UInt8}{k:Nat}{b:List UInt8}(h:k+b.a<=l.a):(sj l k b).a=l.a:=by
 unfold sj;simp;omega
theorem amN{l:List UInt8}{k:Nat}{b:List UInt8}(h:k+b.a<=l.a)(j:Nat):(sj l k b).c j 0=if k<=j/\j<k+b.a then b.c (j-k) 0 else l.c j 0:=by
 unfold sj;rw[av,av,av,dF];by_cases h1:j<k
 ·rw[mX (by simp;omega),jv,if_pos h1,if_neg (by omega)]
 ·rw[rD (by simp;omega)]
  have e:(l.d k).a=k:=by simp;omega
  rw[e];by_cases h2:j<k+b.a
  ·rw[mX (by omega),if_pos (by omega)]
  ·rw[rD (by omega),if_neg (by omega),jq]
   congr 2;omega
theorem amO{l:List UInt8}{k:Nat}{b:List UInt8}(h:k+b.a<=l.a){z n:Nat}(hj:z+n<=k\/k+b.a<=z):((sj l k b).f z).d n=(l.f z).d n:=by
 apply iN;intro i;rw[jv,jv];by_cases hi:i<n
 ·rw[if_pos hi,if_pos hi,jq,jq]
  have hg:=amN h (z+i);rw[if_neg (by omega),av,av]at hg;have hl:=EZ h;by_cases hlt:z+i<l.a
  ·rw[aD hlt,aD (by omega)]at hg ⊢
   simpa using hg
  ·rw[aT (by omega),aT (by omega)]
 ·rw[if_neg hi,if_neg hi]
theorem ajz{l:List UInt8}{k:Nat}{b:List UInt8}(h:k+b.a<=l.a):((sj l k b).f k).d b.a=b:=by
 unfold sj;rw[dF,List.drop_append_of_le_length (by simp;omega),iY (by simp;omega)];simp
def Du(p:Int):Nat:=if p=6 then 16 else if p=17 then 6 else 0
def QN(l:List UInt8)(a:fE)(n:Int):Bool:=(vW l).kind==0&&(a.h==(vW l).K.h.h&&((vW l).K.h.h||a.mU))&&(decide (0<=n)&&decide (n<=65535))
def adJ(p:Pk)(dst:Bool):Nat:=p.C8.e+(if p.K.h.h then 8 else 12)+(if dst then(if p.K.h.h then 16 else 4)else 0)
def vX(p:Pk):Nat:=if p.K.h.h then 16 else 4
def GJ(p:Pk)(dst:Bool):Nat:=p.tu.e+(if dst then 2 else 0)
def rw1(l:List UInt8)(p:Pk)(a:fE)(n:Nat)(dst:Bool):List UInt8:=sj (sj (l.d p.Gw.e) (adJ p dst) (a.b.a.d (vX p))) (GJ p dst) (N7 n)
def YU(l:List UInt8)(p:Pk)(dst:Bool):List UInt8:=(l.f (adJ p dst)).d (vX p)
def rw2(l:List UInt8)(p:Pk)(a:fE)(n:Nat)(dst:Bool):List UInt8:=
 if p.K.h.h then rw1 l p a n dst else sj (rw1 l p a n dst) (p.C8.e+10) (N7 (oF (fq l (p.C8.e+10)) (YU l p dst) (a.b.a.d (vX p))))
def ahH(l:List UInt8)(p:Pk)(a:fE)(n:Nat)(dst:Bool):Nat:=
 oF (oF (fq l (p.tu.e+Du p.K.aR)) (YU l p dst) (a.b.a.d (vX p))) ((l.f (GJ p dst)).d 2) (N7 n)
def rw3(l:List UInt8)(p:Pk)(a:fE)(n:Nat)(dst:Bool):List UInt8:=
 if p.K.aR=17/\fq l (p.tu.e+Du p.K.aR)=0 then rw2 l p a n dst
 else sj (rw2 l p a n dst) (p.tu.e+Du p.K.aR) (N7 (if p.K.aR=17/\ahH l p a n dst=0 then 65535 else ahH l p a n dst))
def abn(l:List UInt8)(a:fE)(n:Int)(dst:Bool):List UInt8:=if QN l a n then rw3 l (vW l) a n.e dst else []
structure amP(l:List UInt8)(p:Pk):Prop where
 fam:p.K.h.h=p.K.Y.h
 C8:14<=p.C8
 tu:p.C8+(if p.K.h.h then 40 else 20)<=p.tu
 pro:p.K.aR=6\/p.K.aR=17
 Gw:p.tu+(if p.K.aR=6 then 20 else 8)<=p.Gw
 len:p.Gw<=l.a
theorem VZ(f:Nat):∀(x:Sx)(r:List UInt8),(yP f x r).2=0->(yP f x r).1.h=x.h/\(yP f x r).1.Y=x.Y:=by
 induction f with
 | zero=>
   intro x r h;unfold yP at h ⊢;split
   ·exact⟨rfl,rfl⟩
   ·rename_i h1;rw[if_neg h1]at h;cases h
 | succ f ih=>
   intro x r h;unfold yP at h ⊢;split
   ·exact⟨rfl,rfl⟩
   ·rename_i h1
    rw[if_neg h1]at h;split
    ·rename_i h2;rw[if_pos h2]at h;cases h
    ·rename_i h2;rw[if_neg h2]at h;exact ih _ _ h
theorem ahI{l:List UInt8}(h:(AU l).2=0):(AU l).1.h.h=true/\(AU l).1.Y.h=true:=by
 unfold AU at h ⊢;split
 ·rename_i h1;rw[if_pos h1]at h;cases h
 ·rename_i h1
  rw[if_neg h1]at h;split
  ·rename_i h2;rw[if_pos h2]at h;cases h
  ·rename_i h2
   rw[if_neg h2]at h;split
   ·rename_i h3;rw[if_pos h3]at h;cases h
   ·rename_i h3
    rw[if_neg h3]at h;obtain⟨a,b⟩:=VZ _ _ _ h;rw[a,b];exact⟨rfl,rfl⟩
theorem ahJ{l:List UInt8}(h:(zZ l).2=0):(zZ l).1.h.h=false/\(zZ l).1.Y.h=false:=by
 unfold zZ at h ⊢;split
 ·exact⟨rfl,rfl⟩
 ·rename_i h1;rw[if_neg h1]at h;exact absurd h h1
theorem aqi{p:Int}{l:List UInt8}(hp:p=6\/p=17)(h:(Jr p l).2=0):(if p=6 then 20 else 8)<=l.a:=by
 rcases hp with rfl|rfl
 ·rw[asj]at h
  rw[if_pos rfl];by_cases h1:l.a<20
  ·rw[if_pos h1]at h;cases h
  ·omega
 ·rw[amL]at h
  rw[if_neg (by decide)];by_cases h1:l.a<8
  ·rw[if_pos h1]at h;cases h
  ·omega
theorem Od{l:List UInt8}(h:(vW l).kind=0):amP l (vW l):=by
 unfold vW at h ⊢;by_cases h1:(mJ l).2≠0
 ·rw[if_pos h1]at h;cases h
 rw[if_neg h1]at h ⊢;by_cases h2:(mJ l).1.oG≠2048/\(mJ l).1.oG≠34525
 ·rw[if_pos h2]at h;cases h
 rw[if_neg h2]at h ⊢;by_cases h3:(mZ l).2≠0
 ·rw[if_pos h3]at h;cases h
 rw[if_neg h3]at h ⊢;by_cases h4:(mZ l).1.oN=true
 ·rw[if_pos h4]at h;cases h
 rw[if_neg h4]at h ⊢;by_cases h5:(mZ l).1.aR≠6/\(mZ l).1.aR≠17
 ·rw[if_pos h5]at h;cases h
 rw[if_neg h5]at h ⊢;by_cases h6:(Mi l).2≠0
 ·rw[if_pos h6]at h;cases h
 rw[if_neg h6];have hat:=af5 (l:=l) (by omega);have h3':(YS (mJ l).1.oG (l.f (mJ l).1.fG)).2=0:=by simpa[mZ]using h3
 have hip:=amI h3';rw[jG]at hip;have hp:(mZ l).1.aR=6\/(mZ l).1.aR=17:=by omega
 have hpt:=aqi hp (l:=(l.d ((mJ l).1.fG+(mZ l).1.dA.e)).f ((mJ l).1.fG+(mZ l).1.head.e)) (by simpa[Mi]using h6);rw[jG,bL]at hpt;have hh:(mZ l).1.head=(YS (mJ l).1.oG (l.f (mJ l).1.fG)).1.head:=rfl;have ht:(mZ l).1.dA=(YS (mJ l).1.oG (l.f (mJ l).1.fG)).1.dA:=rfl;have ayX:(mZ l).1.h.h=(mZ l).1.Y.h/\((mZ l).1.h.h=true->40<=(mZ l).1.head):=by
  unfold mZ YS;unfold YS at h3';by_cases h7:(mJ l).1.oG=2048
  ·rw[if_pos h7]at h3' ⊢
   have:=ahJ h3';exact⟨by simp only[this.1,this.2],fun e=>by simp only[this.1]at e;cases e⟩
  ·rw[if_neg h7]at h3' ⊢
   have:=ahI h3';exact⟨by simp only[this.1,this.2],fun _=>(amH h3').1⟩
 refine⟨ayX.1,?_,?_,hp,?_,?_⟩
 ·show(14:Int)<=((mJ l).1.fG:Nat)
  omega
 ·show((mJ l).1.fG:Int)+(if(mZ l).1.h.h then 40 else 20)<=((mJ l).1.fG:Int)+(mZ l).1.head
  split
  ·have:=ayX.2 ‹_›;omega
  ·omega
 ·show((mJ l).1.fG:Int)+(mZ l).1.head+(if(mZ l).1.aR=6 then 20 else 8)<=((mJ l).1.fG:Int)+(mZ l).1.dA
  rcases hp with e|e
  ·rw[if_pos e]at hpt⊢;omega
  ·rw[if_neg (by rw[e];decide)]at hpt⊢;omega
 ·show((mJ l).1.fG:Int)+(mZ l).1.dA<=l.a
  omega
theorem Ly.amQ(w w1:au)(hb:aM w.a.j w w1)(c:Array aC)(l:List UInt8)(k:Nat)(hk:l.a=k)(hk2:k<=1000000)(h:c.a=l.map bv):Ly w.a.j [] w (w1.alloc (.D c 5)) (.a (some ⟨w1.a.j,0,none⟩) k k) l:=by
 have hc:c.j=k:=by rw[<-bf,h,bV,hk]
 have h1:(w1.alloc (.D c 5)).c w1.a.j 5 1 (.a (some ⟨w1.a.j,0,none⟩) k k) k c.a:=World.ownsRow_lit w1 c k (ay _) (by unfold maxLen;omega) (by omega);rw[h]at h1;have h2:=hb.alloc hb.j (.D c 5);subst hk;exact⟨⟨iM h1 hb.j,⟨h2.os,h2.tape,h2.output,h2.j,fun i hi _=>h2.block i hi⟩,.b ⟨_,rfl,hb.j⟩,ay _,fun k h=>by cases h⟩,fun p hp=>by cases hp⟩
def wM(x:Sx):List UInt8:=[96,0,0,0,aK ((x.dA-40).e/256),aK ((x.dA-40).e%256),aK x.aR.e,aK x.Ij.e]++x.h.b.a++x.Y.b.a
def qm(n:Int):List UInt8:=[aK (n.e/256),aK (n.e%256)]
def Ab(t:Tg):List UInt8:=qm t.oG++qm t.tci
def qE(d s:Vector UInt8 6)(fK:List Tg)(ty:Int):List UInt8:=d.a++s.a++fK.h Ab++qm ty
def abo(t:Tg):Prop:=(0<=t.oG/\t.oG<=65535)/\0<=t.tci/\t.tci<=65535
theorem Fa(l:List Tg):(l.h Ab).a=4*l.a:=by
 induction l with
 | nil=>rfl
 | cons a l ih=>rw[iO,aS,ih];simp[Ab,qm];omega
theorem asn(d:Vector UInt8 6)(i:Nat)(hi:i<6):(AO d)[i]? = some (bv (d.a.c i 0)):=by
 simp[AO,av,hi]
theorem Lc.auS(x:Lc)(i:Nat)(hi:i<6):x.aA[i]? = some (bv (x.Y.a.c i 0)):=by
 rw[<-asn _ i hi];simp[Lc.aA,aG,gM,hi]
theorem Lc.auT(x:Lc)(i:Nat)(hi:i<6):x.aA[6+i]? = some (bv (x.h.a.c i 0)):=by
 rw[<-asn _ i hi];simp[Lc.aA,aG,gM,hi,show¬6+i<6 by omega]
theorem V6(n:Int)(h0:0<=n)(h1:n<=65535):((aK (n.e/256)).e:Int)=n/256/\((aK (n.e%256)).e:Int)=n%256:=by
 rw[yX _ (by omega),yX _ (by omega)];omega
theorem auU(n:Int)(h0:0<=n)(h1:n<=65535)(wr:au):fZ (wr.alloc (.D #[.b .b (n/256),.b .b (n%256)] 5)) (wr.a.j+1) (some ⟨wr.a.j,0,none⟩) 2 (qm n):=
 VX wr #[.b .b (n/256),.b .b (n%256)] (qm n) (by
  obtain⟨e1,e2⟩:=V6 n h0 h1;simp only[qm,kK,pU,bv];rw[e1,e2])
theorem auV(t:Tg)(h:abo t)(wr:au):fZ (wr.alloc (.D #[.b .b (t.oG/256),.b .b (t.oG%256),.b .b (t.tci/256),.b .b (t.tci%256)] 5)) (wr.a.j+1) (some ⟨wr.a.j,0,none⟩) 4 (Ab t):=
 VX wr #[.b .b (t.oG/256),.b .b (t.oG%256),.b .b (t.tci/256),.b .b (t.tci%256)] (Ab t) (by
  obtain⟨e1,e2⟩:=V6 t.oG h.1.1 h.1.2;obtain⟨e3,e4⟩:=V6 t.tci h.2.1 h.2.2;simp only[Ab,qm,kK,pU,bv,iA,dG];rw[e1,e2,e3,e4])
theorem V7(x:Lc)(fK:List Tg)(hf:∀t∈fK,abo t)(hn:fK.a<=1000)(t0:0<=x.oG)(t1:x.oG<=65535)(w:au)(hT:iF Tg.aA 2 w w.a.j x.VD x.EP fK):aQ aj 103 #[.d x.aA] w (KI w (qE x.Y x.h fK x.oG)):=by
 have HT:=ah (show qE x.Y x.h fK x.oG=x.Y.a++x.h.a++fK.h Ab++qm x.oG from rfl);have l0:=((Ly.nil (w:=w)).new x.aA 108)
 have S0:=ah l0;clear l0;have hl:=ah hT.len;have hnt:x.EP<=1000:=by rw[<-hl.i];exact hn
 have HR:=ah hT;have HF:=ah hf;clear hT hf;have GI:=ah (show([]:List UInt8).a=0 from rfl);have CS:=ah (x.auT);have CD:=ah (x.auS);obtain⟨ls,nL⟩:∃l,l=x.h.a:=⟨_,rfl⟩
 obtain⟨ld,hld⟩:∃l,l=x.Y.a:=⟨_,rfl⟩
 have LS:=ah (show ls.a=6 by rw[nL];simp);have LD:=ah (show ld.a=6 by rw[hld];simp);rw[<-nL]at HT CS;rw[<-hld]at HT CD;clear nL hld;go_enter Tryz.func103,Tryz.ntmps103;go_wp2;go_loopw [3,4] (fun sr si wr=>∃(i:Nat)(A':Option aU)(m' c':Nat),i<=6/\si=.b .a i/\sr=.a A' m' c'/\Ly w.a.j [(w.a.j,x.aA)] w wr (.a A' m' c') ([]++ld.d i)) (fun _ si _=>6-(intOf si).e)
 case atStart=>exact⟨0,_,_,_,by omega,rfl,rfl,by simpa using S0.i⟩
 case round=>
  obtain⟨i,A',m',c',hi,rfl,rfl,h⟩:=hrel;have HO:=ah h;clear h;by_cases hlt:i<6
  ·have hlt2:(i:Int)<6:=by omega
   obtain⟨q1,q2,q3,q4⟩:=HO.i.X.M;have hlq:=HO.i.X.lt;have hc:=CD.i i hlt;obtain⟨u,hu⟩:=sQ (ld.c i 0);rw[hu]at hc;unfold bv at hc;have HS:=ah (xM ld i (by rw[LD.i];exact hlt));rw[hu]at HS;have L1:=ah (HO.i.alloc (.D #[.b .b (u.e:Int)] 5));have R1:=ah (EO wr u _ rfl);have MF:=ah (show([]++ld.d i).a+1<=1000000000 by rw[aS,bL,GI.i,LD.i];omega);go_wp2_with (at_builtin;refine kC rfl (.a 12) (.a 17) rfl rfl L1.i.o rfl R1.i MF.i ?_;intro A5 n5 c5 w5 h2 h3;have L2:=ah (L1.i.step h3);clear h2 h3);go_roundw
   case rel=>exact⟨i+1,A5,n5,c5,by omega,by go_num,rfl,by rw[HS.i,<-dF];exact L2.i⟩
   case measure=>simp[intOf]<;>omega
  ·have hge:¬(i:Int)<6:=by omega
   have HF:=ah (show ld.d i=ld from aL (by rw[LD.i];omega));rw[HF.i]at HO;clear HF;rw[dG]at HO;clear GI S0;obtain⟨bs2,Gd⟩:∃b,b=ld:=⟨_,rfl⟩
   have GI:=ah (show bs2.a=6 by rw[Gd,LD.i]);rw[<-Gd]at HO HT;clear Gd;go_wp2;clear hge hi hlt;go_loopw [3,5] (fun sr si wr=>∃(i:Nat)(A':Option aU)(m' c':Nat),i<=6/\si=.b .a i/\sr=.a A' m' c'/\Ly w.a.j [(w.a.j,x.aA)] w wr (.a A' m' c') (bs2++ls.d i)) (fun _ si _=>6-(intOf si).e)
   case atStart=>exact⟨0,_,_,_,by omega,rfl,rfl,by simpa using HO.i⟩
   case round=>
    obtain⟨i,A',m',c',hi,rfl,rfl,h⟩:=hrel;have HO:=ah h;clear h;by_cases hlt:i<6
    ·have hlt2:(i:Int)<6:=by omega
     obtain⟨q1,q2,q3,q4⟩:=HO.i.X.M;have hlq:=HO.i.X.lt;have hc:=CS.i i hlt;obtain⟨u,hu⟩:=sQ (ls.c i 0);rw[hu]at hc;unfold bv at hc;have HS:=ah (xM ls i (by rw[LS.i];exact hlt));rw[hu]at HS;have L1:=ah (HO.i.alloc (.D #[.b .b (u.e:Int)] 5));have R1:=ah (EO wr u _ rfl);have MF:=ah (show(bs2++ls.d i).a+1<=1000000000 by rw[aS,bL,GI.i,LS.i];omega);go_wp2_with (at_builtin;refine kC rfl (.a 23) (.a 28) rfl rfl L1.i.o rfl R1.i MF.i ?_;intro A5 n5 c5 w5 h2 h3;have L2:=ah (L1.i.step h3);clear h2 h3);go_roundw
     case rel=>exact⟨i+1,A5,n5,c5,by omega,by go_num,rfl,by rw[HS.i,<-dF];exact L2.i⟩
     case measure=>simp[intOf]<;>omega
    ·have hge:¬(i:Int)<6:=by omega
     have HF:=ah (show ls.d i=ls from aL (by rw[LS.i];omega));rw[HF.i]at HO;clear HF;obtain⟨bs3,Ml⟩:∃b,b=bs2++ls:=⟨_,rfl⟩
     have NZ:=ah (show bs3.a=12 by rw[Ml,aS,GI.i,LS.i]);rw[<-Ml]at HO HT;clear Ml GI;have S3:=HO;clear HO;go_wp2;clear hge hi hlt;go_loopw [3,6] (fun sr si wr=>∃(i:Nat)(A':Option aU)(m' c':Nat),i<=x.EP/\si=.b .a i/\sr=.a A' m' c'/\Ly w.a.j [(w.a.j,x.aA)] w wr (.a A' m' c') (bs3++(fK.d i).h Ab)) (fun _ si _=>x.EP-(intOf si).e)
     case atStart=>exact⟨0,_,_,_,by omega,rfl,rfl,by simpa using S3.i⟩
     case round=>
      obtain⟨i,A',m',c',hi,rfl,rfl,h⟩:=hrel;have HO:=ah h;clear h S3;obtain⟨q1,q2,q3,q4⟩:=HO.i.X.M;by_cases hlt:i<x.EP
      ·have hlt2:(i:Int)<x.EP:=by omega
       obtain⟨ba,oa,ea,_,t3,t4⟩:=(HR.i.go HO.i.o.R).fG Tg.I Sj hlt;obtain⟨t,ht⟩:=dw (fK.c i Sj);rw[<-ht]at t4;have HK:=ah (show abo t by rw[ht,av,aD (by rw[hl.i];exact hlt)];exact HF.i _ (eY _));have HS:=ah (show(fK.d (i+1)).h Ab=(fK.d i).h Ab++Ab t by rw[ht,dV (by rw[hl.i];exact hlt),wR,av,aD (by rw[hl.i];exact hlt)];simp);obtain⟨⟨k1,k2⟩,k3,k4⟩:=HK.i;have MF:=ah (show(bs3++(fK.d i).h Ab).a+4<=1000000000 by rw[aS,Fa,bL,NZ.i];omega);clear ht;have L1:=ah ((HO.i.alloc (.D t.aA 268)).alloc (.D #[.b .b (t.oG/256),.b .b (t.oG%256),.b .b (t.tci/256),.b .b (t.tci%256)] 5));have R1:=ah (auV t HK.i (wr.alloc (.D t.aA 268)));have TB:=ah (dN.new wr t.aA 268);go_upto_region 14 with fail
       obtain⟨y1,y2,y3,y4⟩:=TB.i.M;generalize wr.alloc (.D t.aA 268)=wt at *;go_wp2_with (at_builtin;refine kC rfl (.a 42) (.a 59) rfl rfl L1.i.o rfl R1.i MF.i ?_;intro A5 n5 c5 w5 h2 h3;have L2:=ah (L1.i.step h3);clear h2 h3);go_roundw
       case rel=>exact⟨i+1,A5,n5,c5,by omega,by go_num,rfl,by rw[HS.i,<-dF];exact L2.i⟩
       case measure=>simp[intOf]<;>omega
      ·have hge:¬(i:Int)<x.EP:=by omega
       have HE:=ah (show fK.d i=fK from aL (by rw[hl.i];omega));rw[HE.i]at HO;have L4:=ah (HO.i.alloc (.D #[.b .b (x.oG/256),.b .b (x.oG%256)] 5));have R4:=ah (auU x.oG t0 t1 wr);have HL4:=ah (show(bs3++fK.h Ab).a+2<=1000000000 by rw[aS,Fa,NZ.i];omega);clear HE;go_wp2_with (at_builtin;refine kC rfl (.a 61) (.a 70) rfl rfl L4.i.o rfl R4.i HL4.i ?_;intro A5 n5 c5 w5 h2 h3;have L5:=ah (L4.i.step h3);clear h2 h3);go_ret;rw[<-HT.i]at L5;have ho:=L5.i.o;obtain⟨A9,c9,e9⟩:=ho.Cy;injection e9 with e9 e10 e11
       subst e10;exact⟨A5,_,c5,rfl,rfl,ho.vD,ho.R⟩
theorem Ly.at0{B:Nat}{L:List (Nat×Array aC)}{w0 W:au}{A:Option aU}{n c:Nat}{bs:List UInt8}(h:Ly B L w0 W (.a A n c) bs)(hn:0<bs.a):
 n=bs.a/\n<=c/\∃g,A=some ⟨g,0,none⟩/\(∀j,j<bs.a->W.b ⟨g,j,none⟩=some (bv (bs.c j 0)))/\(∀j,W.frozen? ⟨g,j,none⟩=false):=by
 obtain⟨h1,h2⟩:=h.o.vD;rcases h2 with⟨e,e2⟩|⟨g,cap,cur,e,hg,hh,hle,hm,hs,ht⟩
 ·omega
 ·injection e with e1 e2 e3
  subst e1 e2 e3;refine⟨rfl,hle,g,rfl,fun j hj=>?_,fun j=>by simp[su,hh]⟩;rw[cell_of_row W g j cur _ (0,0) hh];have:(bs.map bv)[j]? = some (bv (bs.c j 0)):=by simp[av,hj]
  rw[<-this,<-ht,iy (by omega),dH]
theorem Ly.af9{B:Nat}{L:List (Nat×Array aC)}{w0 W:au}{g n c:Nat}{bs:List UInt8}(h:Ly B L w0 W (.a (some ⟨g,0,none⟩) n c) bs)(j:Nat)(b:UInt8):Ly B L w0 (W.G ⟨g,j,none⟩ (bv b)) (.a (some ⟨g,0,none⟩) n c) (bs.set j b):=by
 obtain⟨A9,c9,e9⟩:=h.o.Cy;injection e9 with e9 e10 e11
 subst e10;obtain⟨g1,g2⟩:=h.o.vD.stored j (bv b);refine⟨⟨by rw[aW,List.map_set];exact g1,atV h.o.gr (.b ?_) _,h.o.uf,h.o.hB,h.o.gb⟩,fun p hp=>⟨(h.I p hp).1.dR _ _ (fun e=>(h.I p hp).2 (by rw[<-e];rfl)),(h.I p hp).2⟩⟩;rcases h.o.uf with e|⟨k,e,e2⟩
 ·cases e
 ·injection e with e
  subst e;exact e2
def Dv(x:Fo):List UInt8:=[69,aK x.OL.e,aK (x.dA.e/256),aK (x.dA.e%256),aK (x.id.e/256),aK (x.id.e%256),(if x.keep then 64 else 0),0,aK x.LZ.e,aK x.aR.e,0,0]++x.h.b.a.d 4++x.Y.b.a.d 4
def adK(l:List UInt8):List UInt8:=(l.set 10 (aK (wX l/256))).set 11 (aK (wX l%256))
def tO(x:Fo):List UInt8:=adK (Dv x)
theorem Fo.Ns(x:Fo)(i:Nat)(hi:i<16):x.aA[9+i]? = some (bv (x.h.b.a.c i 0)):=by
 rw[<-fE.Ew _ i hi];have:i+1<17:=by omega
 simp[Fo.aA,aG,fE.I,show 9+i-8=i+1 by omega,show¬9+i<8 by omega,this]
theorem Fo.Le(x:Fo)(i:Nat)(hi:i<16):x.aA[26+i]? = some (bv (x.Y.b.a.c i 0)):=by
 rw[<-fE.Ew _ i hi];simp[Fo.aA,aG,fE.I,show¬26+i<8 by omega,show¬26+i-8<17 by omega,show 26+i-8-17=i+1 by omega]
theorem asq(l:List UInt8)(i:Nat)(hi:i<4):(l.d 4).c i 0=l.c i 0:=by
 simp[av,iy hi]
@[go_sem]theorem asr(w:au)(a0 a1 a2 a3 a4 a5 a6 a7 a8 a9 a10 a11:Int):(BU 12 #[(0,.b .b a0),(1,.b .b a1),(2,.b .b a2),(3,.b .b a3),(4,.b .b a4),(5,.b .b a5),(6,.b .b a6),(7,.b .b a7),(8,.b .b a8),(9,.b .b a9),(10,.b .b a10),(11,.b .b a11)]).J aj w=.ok (.a (some ⟨w.a.j,0,none⟩) 12 12) (w.alloc (.D #[.b .b a0,.b .b a1,.b .b a2,.b .b a3,.b .b a4,.b .b a5,.b .b a6,.b .b a7,.b .b a8,.b .b a9,.b .b a10,.b .b a11] 5)):=by
 obtain⟨i0,hi0,hz0,hz1,hz2⟩:=zF;have hr:lD 12 = #[0,1,2,3,4,5,6,7,8,9,10,11]:=by apply o9;rw[j5];rfl
 simp[BU,bK,dJ cu,zeroValue,sizeOf,typeInfo,hi0,hz0,hz1,fD,newRow,bZ,hr]
theorem V8(x:Fo)(s0:0<=x.OL)(s1:x.OL<=255)(t0:0<=x.dA)(t1:x.dA<=65535)(i0:0<=x.id)(i1:x.id<=65535)(l0:0<=x.LZ)(l1:x.LZ<=255)(p0:0<=x.aR)(p1:x.aR<=255)(w:au):aQ aj 106 #[.d x.aA] w (KI w (tO x)):=by
 have T:=ah (dN.new w x.aA 192);have HB:=ah ((aH w.a.j w).alloc (ay _) (.D x.aA 192));have r0:=(Ly.amQ w _ HB.i #[.b .b 69,.b .b x.OL,.b .b (x.dA/256),.b .b (x.dA%256),.b .b (x.id/256),.b .b (x.id%256),.b .b 0,.b .b 0,.b .b x.LZ,.b .b x.aR,.b .b 0,.b .b 0] [69,aK x.OL.e,aK (x.dA.e/256),aK (x.dA.e%256),aK (x.id.e/256),aK (x.id.e%256),0,0,aK x.LZ.e,aK x.aR.e,0,0] 12 rfl (by omega) (by
  obtain⟨e1,e2⟩:=V6 x.dA t0 t1;obtain⟨e3,e4⟩:=V6 x.id i0 i1;simp only[kK,pU,bv];rw[e1,e2,e3,e4,yX x.OL.e (by omega),yX x.LZ.e (by omega),yX x.aR.e (by omega),lJ s0,lJ l0,lJ p0];rfl)).add (q:=w.a.j) (c:=x.aA) (T.i.alloc _) (by rw[show(w.alloc (.D x.aA 192)).a.j=w.a.j+1 by simp];simp[jJ])
 rw[show(w.alloc (.D x.aA 192)).a.j=w.a.j+1 by simp]at r0;have S:=ah r0;have HP:=ah (show tO x=adK (Dv x)from rfl);have CS:=ah (show∀i,i<4->x.aA[9+i]? = some (bv ((x.h.b.a.d 4).c i 0))from fun i hi=>by rw[asq _ i hi];exact x.Ns i (by omega));have CD:=ah (show∀i,i<4->x.aA[26+i]? = some (bv ((x.Y.b.a.d 4).c i 0))from fun i hi=>by rw[asq _ i hi];exact x.Le i (by omega));have HT:=ah (show Dv x=[69,aK x.OL.e,aK (x.dA.e/256),aK (x.dA.e%256),aK (x.id.e/256),aK (x.id.e%256),(if x.keep then 64 else 0),0,aK x.LZ.e,aK x.aR.e,0,0]++x.h.b.a.d 4++x.Y.b.a.d 4 from rfl);obtain⟨ls,nL⟩:∃l,l=x.h.b.a.d 4:=⟨_,rfl⟩
 obtain⟨ld,hld⟩:∃l,l=x.Y.b.a.d 4:=⟨_,rfl⟩
 have LS:=ah (show ls.a=4 by rw[nL];simp);have LD:=ah (show ld.a=4 by rw[hld];simp);rw[<-nL]at HT CS;rw[<-hld]at HT CD;clear nL hld r0;obtain⟨q1,q2,q3,q4⟩:=T.i.M;have x5:=x.aa4;obtain⟨kp,hkp⟩:∃k,x.keep=k:=⟨_,rfl⟩
 rw[hkp]at x5 HT;clear hkp;go_enter Tryz.func106,Tryz.ntmps106;go_upto_region 2 with fail
 obtain⟨y1,y2,y3,y4⟩:=S.i.X.M;obtain⟨_,_,g,eg,c1,c2⟩:=S.i.at0 (by simp);injection eg with eg
 injection eg with eg
 subst eg;clear q1 q2 q3 q4;have c6:=c1 6 (by simp);clear c1;generalize(w.alloc (.D x.aA 192)).alloc (.D #[.b .b 69,.b .b x.OL,.b .b (x.dA/256),.b .b (x.dA%256),.b .b (x.id/256),.b .b (x.id%256),.b .b 0,.b .b 0,.b .b x.LZ,.b .b x.aR,.b .b 0,.b .b 0] 5)=w2 at *;cases kp
 case' false=>
  go_wp2;have S0:=S;obtain⟨bs,hbs⟩:∃bs:List UInt8,bs=[69,aK x.OL.e,aK (x.dA.e/256),aK (x.dA.e%256),aK (x.id.e/256),aK (x.id.e%256),0,0,aK x.LZ.e,aK x.aR.e,0,0]:=⟨_,rfl⟩
  have GI:=ah (show bs.a=12 by rw[hbs];rfl);have HQ:=ah (show Dv x=bs++ls++ld by rw[HT.i,hbs];rfl);rw[<-hbs]at S0
 case' true=>
  go_wp2;have S0:=ah (S.i.af9 6 64);rw[show bv 64=.b .b 64 from rfl]at S0;obtain⟨bs,hbs⟩:∃bs:List UInt8,bs=[69,aK x.OL.e,aK (x.dA.e/256),aK (x.dA.e%256),aK (x.id.e/256),aK (x.id.e%256),64,0,aK x.LZ.e,aK x.aR.e,0,0]:=⟨_,rfl⟩
  have GI:=ah (show bs.a=12 by rw[hbs];rfl);have HQ:=ah (show Dv x=bs++ls++ld by rw[HT.i,hbs];rfl);rw[show([69,aK x.OL.e,aK (x.dA.e/256),aK (x.dA.e%256),aK (x.id.e/256),aK (x.id.e%256),0,0,aK x.LZ.e,aK x.aR.e,0,0]:List UInt8).set 6 64=bs by rw[hbs];rfl]at S0
 all_goals
  clear HT hbs y1 y2 y3 y4 c2 c6 S;go_loopw [3,4] (fun sr si wr=>∃(i:Nat)(A':Option aU)(m' c':Nat),i<=4/\si=.b .a i/\sr=.a A' m' c'/\Ly w.a.j [(w.a.j,x.aA)] w wr (.a A' m' c') (bs++ls.d i)) (fun _ si _=>4-(intOf si).e)
  case atStart=>exact⟨0,_,_,_,by omega,rfl,rfl,by simpa using S0.i⟩
  case round=>
   obtain⟨i,A',m',c',hi,rfl,rfl,h⟩:=hrel;have HO:=ah h;clear h;by_cases hlt:i<4
   ·have hlt2:(i:Int)<4:=by omega
    obtain⟨q1,q2,q3,q4⟩:=HO.i.X.M;have hlq:=HO.i.X.lt;have hc:=CS.i i hlt;obtain⟨u,hu⟩:=sQ (ls.c i 0);rw[hu]at hc;unfold bv at hc;have HS:=ah (xM ls i (by rw[LS.i];exact hlt));rw[hu]at HS;have L1:=ah (HO.i.alloc (.D #[.b .b (u.e:Int)] 5));have R1:=ah (EO wr u _ rfl);have MF:=ah (show(bs++ls.d i).a+1<=1000000000 by rw[aS,bL,GI.i,LS.i];omega);go_wp2_with (at_builtin;refine kC rfl (.a 41) (.a 47) rfl rfl L1.i.o rfl R1.i MF.i ?_;intro A5 n5 c5 w5 h2 h3;have L2:=ah (L1.i.step h3);clear h2 h3);go_roundw
    case rel=>exact⟨i+1,A5,n5,c5,by omega,by go_num,rfl,by rw[HS.i,<-dF];exact L2.i⟩
    case measure=>simp[intOf]<;>omega
   ·have hge:¬(i:Int)<4:=by omega
    have HF:=ah (show ls.d i=ls from aL (by rw[LS.i];omega));rw[HF.i]at HO;clear HF;obtain⟨bs2,Gd⟩:∃b,b=bs++ls:=⟨_,rfl⟩
    have ayZ:=ah (show bs2.a=16 by rw[Gd,aS,GI.i,LS.i]);rw[<-Gd]at HO HQ;clear Gd S0 GI;have GI:=ayZ;clear ayZ;go_wp2;clear hge hi hlt;go_loopw [3,5] (fun sr si wr=>∃(i:Nat)(A':Option aU)(m' c':Nat),i<=4/\si=.b .a i/\sr=.a A' m' c'/\Ly w.a.j [(w.a.j,x.aA)] w wr (.a A' m' c') (bs2++ld.d i)) (fun _ si _=>4-(intOf si).e)
    case atStart=>exact⟨0,_,_,_,by omega,rfl,rfl,by simpa using HO.i⟩
    case round=>
     obtain⟨i,A',m',c',hi,rfl,rfl,h⟩:=hrel;have HO:=ah h;clear h;by_cases hlt:i<4
     ·have hlt2:(i:Int)<4:=by omega
      obtain⟨q1,q2,q3,q4⟩:=HO.i.X.M;have hlq:=HO.i.X.lt;have hc:=CD.i i hlt;obtain⟨u,hu⟩:=sQ (ld.c i 0);rw[hu]at hc;unfold bv at hc;have HS:=ah (xM ld i (by rw[LD.i];exact hlt));rw[hu]at HS;have L1:=ah (HO.i.alloc (.D #[.b .b (u.e:Int)] 5));have R1:=ah (EO wr u _ rfl);have MF:=ah (show(bs2++ld.d i).a+1<=1000000000 by rw[aS,bL,GI.i,LD.i];omega);go_wp2_with (at_builtin;refine kC rfl (.a 53) (.a 59) rfl rfl L1.i.o rfl R1.i MF.i ?_;intro A5 n5 c5 w5 h2 h3;have L2:=ah (L1.i.step h3);clear h2 h3);go_roundw
      case rel=>exact⟨i+1,A5,n5,c5,by omega,by go_num,rfl,by rw[HS.i,<-dF];exact L2.i⟩
      case measure=>simp[intOf]<;>omega
     ·have hge:¬(i:Int)<4:=by omega
      have HF:=ah (show ld.d i=ld from aL (by rw[LD.i];omega));rw[HF.i]at HO;clear HF;obtain⟨bs3,Ml⟩:∃b,b=bs2++ld:=⟨_,rfl⟩
      have NZ:=ah (show bs3.a=20 by rw[Ml,aS,GI.i,LD.i]);rw[<-Ml]at HO HQ;clear Ml GI;have CQ:=ah (VU wr A' m' c' bs3 (by have:=HO.i.o.Cy;obtain⟨A9,c9,e9⟩:=this;injection e9 with e9 e10 e11;rw[e10,NZ.i];omega) (Dq HO.i.o (aH _ _)));have HSL:=ah (show wX bs3<=65535 by unfold wX;omega);have HP2:=ah (show tO x=(bs3.set 10 (aK (wX bs3/256))).set 11 (aK (wX bs3%256))by rw[HP.i,HQ.i];rfl);clear HP HQ;generalize wX bs3=z at *;have z0:(0:Int)<=z:=by omega
      have z1:(z:Int)<=65535:=by have:=HSL.i;omega
      go_upto_region 13 with(go_at_call 186;(with_reducible refine CQ.i.g ?_);rintro e w6 ⟨rfl,hb⟩;have M1:=ah (HO.i.go hb);clear hb)
      clear hlt hge hi;obtain⟨hm1,hm2,g,rfl,k1,k2⟩:=M1.i.at0 (by rw[NZ.i];omega);have m1:(10:Int)<m':=by rw[NZ.i]at hm1;omega
      have m2:(11:Int)<m':=by rw[NZ.i]at hm1;omega
      have k10:=k1 10 (by rw[NZ.i];omega);have M2:=ah (M1.i.af9 10 (aK (z/256)));have e1:((aK (z/256)).e:Int)=(z:Int)/256:=by rw[yX _ (by have:=HSL.i;omega)];omega
      unfold bv at M2;rw[e1]at M2;clear k1 e1;go_upto_region 14 with fail
      generalize w6.G ⟨g,10,none⟩ (.b .b ((z:Int)/256))=w7 at *;obtain⟨_,_,g',eg,k3,k4⟩:=M2.i.at0 (by rw[aW,NZ.i];omega);injection eg with eg
      injection eg with eg
      subst eg;have k11:=k3 11 (by rw[aW,NZ.i];omega);have M3:=ah (M2.i.af9 11 (aK (z%256)));have e2:((aK (z%256)).e:Int)=(z:Int)%256:=by rw[yX _ (by omega)];omega
      unfold bv at M3;rw[e2]at M3;clear k3 e2 k2 k10;go_wp2;go_ret;rw[<-HP2.i]at M3;have ho:=M3.i.o;obtain⟨A9,c9,e9⟩:=ho.Cy;injection e9 with e9 e10 e11
      subst e10;have HLE:bs3.a=(tO x).a:=by rw[HP2.i,aW,aW]
      rw[HLE];exact⟨_,_,_,rfl,rfl,ho.vD,ho.R⟩
def amS(a b:fE):Bool:=a.h==b.h&&(a.h||a.mU&&b.mU)
def Ad(k:Int)(l:List UInt8):Tn:=
 if k=2048 then⟨(zZ l).1.head,(zZ l).1.dA,(zZ l).1.aR,(zZ l).1.oN,(zZ l).2==0⟩
 else if k=34525 then⟨(AU l).1.head,(AU l).1.dA,(AU l).1.aR,(AU l).1.oN,(AU l).2==0⟩
 else sS
def af'(x:Lc)(t:Tu):Lc:={x with oG:=if t.h.h then 34525 else 2048}
theorem abp(x:Lc)(t:Tu)(w:au):aQ aj 104 #[.d x.aA,.d t.aA] w (gy w (.d (af' x t).aA)):=by
 have h0:=(((Bx.start w).new x.aA 108).new t.aA 81).new qQ.aA 108;rw[show((w.alloc (.D x.aA 108)).alloc (.D t.aA 81)).a.j=w.a.j+2 by simp,show(w.alloc (.D x.aA 108)).a.j=w.a.j+1 by simp]at h0;have Z:=ah (h0.sub (L':=[(w.a.j,x.aA),(w.a.j+1,t.aA),(w.a.j+2,qQ.aA)]) (by simp));clear h0;have hne:=ah (fun p (hp:p∈[(w.a.j+1,t.aA),(w.a.j+2,qQ.aA)])=>show p.1≠w.a.j by
  simp at hp;rcases hp with rfl|rfl<;>simp)
 go_enter Tryz.func104,Tryz.ntmps104;go_upto_region 1 with fail
 generalize((w.alloc (.D x.aA 108)).alloc (.D t.aA 81)).alloc (.D qQ.aA 108)=w2 at Z ⊢;obtain⟨y1,y2,y3,y4⟩:=Z.i.X.M;have Z1:=ah (Z.i.set hne.i 13 (.b .a 2048));rw[Lc.TM]at Z1;go_upto_region 2 with fail
 clear y1 y2 y3 y4;generalize w2.G ⟨w.a.j,13,none⟩ (.b .a 2048)=w3 at Z1 ⊢;obtain⟨x1,x2,x3,x4⟩:=Z1.i.b1.M;have x0:=Tu.qG t;cases h6:t.h.h
 ·have H6:=ah h6
  rw[h6]at x0;clear h6;obtain⟨u1,u2,u3,u4⟩:=Z1.i.X.M;have th:=Z1.i.b2.O 0 15 (aY (Lc.I qQ).symm);have ZP:=ah ((Z1.i.sub (L':=[(w.a.j+2,qQ.aA)]) (by simp)).put (fun p hp=>by cases hp) ({x with oG:=2048}:Lc).aA (by rw[Lc.I,Lc.I]));go_wp2;refine aO (kLc.zm rfl _ rfl ZP.i.X (Lc.I _)) rfl ?_;rw[show af' x t={x with oG:=2048}by unfold af';rw[H6.i];rfl];exact⟨rfl,ZP.i.R⟩
 ·have H6:=ah h6
  rw[h6]at x0;clear h6;obtain⟨y1,y2,y3,y4⟩:=Z1.i.X.M;have Z2:=ah (Z1.i.set hne.i 13 (.b .a 34525));rw[Lc.TM]at Z2;go_upto_region 4 with fail
  clear y1 y2 y3 y4 x1 x2 x3 x4;generalize w3.G ⟨w.a.j,13,none⟩ (.b .a 34525)=w4 at Z2 ⊢;obtain⟨u1,u2,u3,u4⟩:=Z2.i.X.M;have th:=Z2.i.b2.O 0 15 (aY (Lc.I qQ).symm);have ZP:=ah ((Z2.i.sub (L':=[(w.a.j+2,qQ.aA)]) (by simp)).put (fun p hp=>by cases hp) ({x with oG:=34525}:Lc).aA (by rw[Lc.I,Lc.I]));go_wp2;refine aO (kLc.zm rfl _ rfl ZP.i.X (Lc.I _)) rfl ?_;rw[show af' x t={x with oG:=34525}by unfold af';rw[H6.i];rfl];exact⟨rfl,ZP.i.R⟩
section
attribute [local go_sem high] jc jK
def Hw(l:List UInt8)(s d:fE):List UInt8×Int:=
 if(mJ l).2≠0 then([],3)
 else if(Ad (mJ l).1.oG (l.f (mJ l).1.fG)).ok=false then([],3)
 else if amS s d=false then([],1)
 else if s.h=true then
  if(Ad (mJ l).1.oG (l.f (mJ l).1.fG)).dA>65535 then([],4)
  else(qE (mJ l).1.Y (mJ l).1.h (mJ l).1.fK 34525++wM ⟨40,40+(Ad (mJ l).1.oG (l.f (mJ l).1.fG)).dA,64,false,0,if(mJ l).1.oG=34525 then 41 else 4,s,d⟩++(l.f (mJ l).1.fG).d (Ad (mJ l).1.oG (l.f (mJ l).1.fG)).dA.e,0)
 else if 20+(Ad (mJ l).1.oG (l.f (mJ l).1.fG)).dA>65535 then([],4)
  else(qE (mJ l).1.Y (mJ l).1.h (mJ l).1.fK 2048++tO ⟨20,20+(Ad (mJ l).1.oG (l.f (mJ l).1.fG)).dA,0,0,false,true,64,if(mJ l).1.oG=34525 then 41 else 4,s,d⟩++(l.f (mJ l).1.fG).d (Ad (mJ l).1.oG (l.f (mJ l).1.fG)).dA.e,0)
def ajA(W:au)(r:List UInt8×Int)(e:lu)(W':au):Prop:=∃A n c,e=.a (.K #[.a A n c,.b .a r.2])/\fZ W' W'.a.j A n r.1/\aM W.a.j W W'
theorem Oe(l:List UInt8)(k:Nat):fq l k<=65535:=by
 have h1:=(l.c k 0).toNat_lt;have h2:=(l.c (k+1) 0).toNat_lt;unfold fq;omega
theorem YV{l:List UInt8}:∀(m k:Nat)(fK:List Tg),(∀t∈fK,abo t)->fK.a+m<=2->(∀t∈(C9 l m k fK).1.fK,abo t)/\(C9 l m k fK).1.fK.a<=2
 | 0,k,fK,h,hl=>by
   cases ht:tY (fq l (k-2):Nat)with
   | false=>rw[zQ ht];exact⟨h,hl⟩
   | true=>rw[Kh ht];exact⟨fun t ht=>by simp[ER]at ht,by simp[ER]⟩
 | m+1,k,fK,h,hl=>by
   cases ht:tY (fq l (k-2):Nat)with
   | false=>rw[zQ ht];exact⟨h,by simp only;omega⟩
   | true=>
     by_cases h4:l.a<k+4
     ·rw[Cb ht h4];exact⟨fun t ht=>by simp[ER]at ht,by simp[ER]⟩
     ·rw[ET ht h4]
      refine YV m (k+4) _ (fun t ht=>?_) (by simp;omega);rcases qy.1 ht with ht|ht
      ·exact h t ht
      ·rw[fT.1 ht]
       have h1:=Oe l (k-2);have h2:=Oe l k;exact⟨⟨by simp only;omega,by simp only;omega⟩,by simp only;omega,by simp only;omega⟩
theorem V9(l:List UInt8):(∀t∈(mJ l).1.fK,abo t)/\(mJ l).1.fK.a<=2:=by
 unfold mJ;split
 ·exact⟨fun t ht=>by simp[ER]at ht,by simp[ER]⟩
 ·exact YV 2 14 [] (fun t ht=>by cases ht) (by simp)
end
section
attribute [local go_sem high] jc jK
theorem aga(W:au)(k:Int)(A:Option aU)(n c:Nat)(l:List UInt8)(hnc:n<=c)(hc:c<=9223372036854775807/\n<=1000000)(hr:fZ W W.a.j A n l):aQ aj 101 #[.b .a k,.a A n c] W (gy W (.d (Ad k l).aA)):=by
 have b0:=ah ((Bx.start W).new sS.aA 179);have R0:=b0.i.Mf hr;have C4:=ah (NM _ A n c l hnc (by omega) R0);have C6:=ah (QM _ A n c l hnc (by omega) R0);clear R0 hr;go_enter Tryz.func101,Tryz.ntmps101;by_cases hk:k=2048
 ·have q:(k==2048)=true:=by simp[hk]
  obtain⟨x,hx⟩:=dw ((zZ l));obtain⟨x,er⟩:=x;have H:=ah (show Ad k l=⟨x.head,x.dA,x.aR,x.oN,er==0⟩by unfold Ad;rw[if_pos hk,<-hx]);unfold FoP at C4;rw[<-hx]at C4;clear hx hk;go_wp2_with (go_at_call 175;with_reducible refine C4.i.g ?_;rintro e w1 ⟨rfl,hb1⟩;have Z1:=ah (b0.i.go hb1);have Z2:=ah (Z1.i.new x.aA 192);obtain⟨y1,y2,y3,y4⟩:=Z2.i.X.M;have yO:=Z2.i.b1.O 0 5 (aY (Tn.I sS).symm);clear hb1);have Z3:=ah (Z2.i.swap.put (fun p hp=>by rw[fT.1 hp];exact uD Z1.i.X.lt) (Tn.mk x.head x.dA x.aR x.oN (er==0)).aA (by rw[Tn.I,Tn.I]));refine aO (kTn.zm rfl _ rfl Z3.i.X (Tn.I _)) rfl ?_;rw[H.i];exact⟨rfl,Z3.i.R⟩
 by_cases hk6:k=34525
 ·have q:(k==2048)=false:=by simp[hk]
  have q2:(k==34525)=true:=by simp[hk6]
  obtain⟨x,hx⟩:=dw ((AU l));obtain⟨x,er⟩:=x;have H:=ah (show Ad k l=⟨x.head,x.dA,x.aR,x.oN,er==0⟩by unfold Ad;rw[if_neg hk,if_pos hk6,<-hx]);unfold SxP at C6;rw[<-hx]at C6;clear hx hk hk6;go_wp2_with (go_at_call 176;with_reducible refine C6.i.g ?_;rintro e w1 ⟨rfl,hb1⟩;have Z1:=ah (b0.i.go hb1);have Z2:=ah (Z1.i.new x.aA 189);obtain⟨y1,y2,y3,y4⟩:=Z2.i.X.M;have yO:=Z2.i.b1.O 0 5 (aY (Tn.I sS).symm);clear hb1);have Z3:=ah (Z2.i.swap.put (fun p hp=>by rw[fT.1 hp];exact uD Z1.i.X.lt) (Tn.mk x.head x.dA x.aR x.oN (er==0)).aA (by rw[Tn.I,Tn.I]));refine aO (kTn.zm rfl _ rfl Z3.i.X (Tn.I _)) rfl ?_;rw[H.i];exact⟨rfl,Z3.i.R⟩
 ·have q:(k==2048)=false:=by simp[hk]
  have q2:(k==34525)=false:=by simp[hk6]
  have H:=ah (show Ad k l=sS by unfold Ad;rw[if_neg hk,if_neg hk6]);have yO:=b0.i.X.O 0 5 (aY (Tn.I sS).symm);clear hk hk6;go_wp2;have Z3:=ah (b0.i.put (fun p hp=>by cases hp) sS.aA rfl);refine aO (kTn.zm rfl _ rfl (b:=W.a.j) (c:=sS.aA) (by first|exact Z3.i.X|exact b0.i.X) (Tn.I _)) rfl ?_;rw[H.i];exact⟨rfl,by first|exact Z3.i.R|exact b0.i.R⟩
theorem aD3:ajm 314:=⟨fun c w=>by
 go_enter Tryz.func314,Tryz.ntmps314;go_wp2;go_ret;exact⟨rfl,rfl⟩,fun args w=>by kernel_rfl⟩
theorem adL(a:fE)(w:au):aQ aj 269 #[.d a.aA] w (gy w (.e a.mU)):=by
 have HB:=ah ((aH w.a.j w).alloc (ay _) (.D a.aA 27));have x0:=dN.new w a.aA 27;have C:=ah (ahD _ aD3 _ 12 12 _ _ _ (by omega) (fZ.tail (B:=w.a.j+1) (mP _) x0));have HS:=ah (Ki a);obtain⟨z,hz⟩:=dw (nzB (a.b.a.f 4));rw[<-hz]at C HS;clear hz;go_enter Tryz.func269,Tryz.ntmps269;go_wp2_with fail;refine C.i.g ?_;rintro e w' ⟨rfl,rfl⟩;cases z
 all_goals
  go_wp2;go_ret;exact⟨by have:=HS.i;simp at this;simp[<-this],HB.i⟩
theorem agb(k:Int)(w:au):aQ aj 256 #[.b .a k] w fun e w'=>e=.a (.e (decide (0<=k)&&decide (k<=65535)))/\w=w':=by
 go_enter Tryz.func256,Tryz.ntmps256;by_cases h1:0<=k<;>by_cases h2:k<=65535
 all_goals
  go_wp2;go_ret;exact⟨by simp[h1,h2],rfl⟩
theorem ajB(k:Int)(w:au):aQ aj 315 #[.b .a k] w fun e w'=>e=.a (.e (decide (0<=k)&&decide (k<=255)))/\w=w':=by
 go_enter Tryz.func315,Tryz.ntmps315;by_cases h1:0<=k<;>by_cases h2:k<=255
 all_goals
  go_wp2;go_ret;exact⟨by simp[h1,h2],rfl⟩
end
theorem agc(l:List UInt8):∀v∈l.map bv,v.h=true:=by
 intro v hv;obtain⟨b,_,rfl⟩:=iX.1 hv;rfl
theorem amT(l:List UInt8)(k:Nat):sj l k []=l:=by unfold sj;simp
theorem Qc{g z n c:Nat}(h:z<c):vI (some ⟨g,0,none⟩) z c 1=some ⟨g,z,none⟩:=by
 unfold vI;rw[if_neg (by omega)];simp only[mo,gL];rw[iH,bl]
theorem Ly.copy{B:Nat}{L:List (Nat×Array aC)}{w0 W:au}{A:Option aU}{n c:Nat}{bs:List UInt8}(h:Ly B L w0 W (.a A n c) bs)(z:Nat){C:Nat}{sp:Option aU}{sLen:Nat}{ys:List UInt8}(hr:fZ W C sp sLen ys)(m:Nat)(dp:Option aU)(dLen dCap sCap:Nat)
 (hm:m=qw sLen dLen) (hd:0<m->∃g,A=some ⟨g,0,none⟩/\dp=some ⟨g,z,none⟩) (hz:z+m<=bs.a) (ty:bF) (dT sT:bF) (hu:aj.k dT=some (.a 5)) :
 ∃W',(Builtin.copy_ #[dT,sT] ty #[.a dp dLen dCap,.a sp sLen sCap]).J aj W=.ok (goInt m) W'/\Ly B L w0 W' (.a A n c) (sj bs z (ys.d m))/\W.d W' (jJ (.a A n c)):=by
 have hsz:(aj.info? 5).map (·.j)=some 1:=by
  obtain⟨i0,hi0,hz0,hz1,_⟩:=xB FM;rw[hi0];simp[hz1]
 by_cases h0:m=0
 ·subst h0
  exact⟨W,run_copy_none (P:=aj) W dT sT ty 5 dp sp dLen dCap sLen sCap hu hsz hm.symm,by rw[jZ,amT];exact h,World.grownBy.refl _ _⟩
 ·obtain⟨g,rfl,rfl⟩:=hd (by omega)
  have hln:=hr.len;have hms:m<=sLen:=by rw[hm];exact Nat.min_le_left _ _
  obtain⟨a,rfl,_,hsrc⟩:=hr.2 (by omega);have hl1:((ys.d m).map bv).a=m:=by simp;omega
  rcases h.o.vD.2 with⟨e,_⟩|⟨g',cap,cur,e,hB,hh,hn,hcap,hcs,htk⟩
  ·cases e
  ·injection e with e1 e2 e3
   injection e1 with e1
   injection e1 with e1
   subst e1 e3;have hnb:n=bs.a:=e2;have hg2:w0.a.j<=g:=by
    rcases h.o.uf with e|⟨k',e,e2⟩
    ·cases e
    ·injection e with e;subst e;exact e2
   have hrun:=run_copy_row (P:=aj) W dT sT ty 5 g z dLen dCap a sLen sCap cur 5 ((ys.d m).map bv) hu hsz hh (by rw[hl1,hm]) (fun j v hv=>hsrc j v (by
    simp only[jm,jv]at hv ⊢;split at hv
    ·exact hv
    ·cases hv)) (by rw[hl1,hcs];omega) (agc _)
   rw[hl1]at hrun;refine⟨_,hrun,?_,?_⟩
   ·have U6:(sj bs z (ys.d m)).a=bs.a:=EZ (by simp;omega)
    have aD4:(cur.a.d bs.a)=bs.map bv:=by rw[<-htk,gL]
    refine⟨⟨⟨by simp[U6],.b ⟨g,c,_,by rw[U6,hnb],hB,setRow_heap W g cur _ _ _ hh,by rw[U6];omega,hcap,by simp;simp at hcs;omega,?_⟩⟩,?_,h.o.uf,h.o.hB,h.o.gb⟩,fun p hp=>⟨?_,(h.I p hp).2⟩⟩
    ·rw[U6,gL]
     unfold sj;simp only[List.toList_toArray,List.map_append,Ap,List.map_drop,<-aD4];simp only[Array.toList_ofFn,bL];apply iN;intro i;have hcz:cur.a.a=c:=by rw[bf,hcs,gL]
     rw[jv];by_cases hi:i<bs.a
     ·rw[if_pos hi]
      simp only[dF,kR,bL,bV,jv,jq,hcz]
      repeat' split
      all_goals first|omega|rfl|(simp at *;omega)|(congr 1;omega)|(simp;omega)|skip
     ·rw[if_neg hi]
      symm;apply aT;simp[hcz];omega
    ·exact⟨h.o.gr.os,h.o.gr.tape,h.o.gr.output,by simpa[rW]using h.o.gr.j,fun k hk hne=>(oQ W g k _ (by omega)).trans (h.o.gr.block k hk hne)⟩
    ·obtain⟨t,ht⟩:=(h.I p hp).1
     exact⟨t,(oQ W g p.1 _ (fun e=>(h.I p hp).2 (by rw[e];rfl))).trans ht⟩
   ·exact⟨rfl,rfl,rfl,by simp[rW],fun k hk hne=>oQ W g k _ (fun e=>hne (by rw[e];rfl))⟩
section
attribute [local go_sem high] jc jK
theorem aqj:lD 3 = #[0,1,2]:=by apply o9;rw[j5];rfl
@[go_sem]theorem asv(w:au)(A0 A1 A2:Option aU)(n0 n1 n2 c0 c1 c2:Nat):(Gu 3 #[(0,.a A0 n0 c0),(1,.a A1 n1 c1),(2,.a A2 n2 c2)]).J aj w=.ok (.a (some ⟨w.a.j,0,none⟩) 3 3) (w.alloc (.D (yU [⟨A0,n0,c0⟩,⟨A1,n1,c1⟩,⟨A2,n2,c2⟩]) 56)):=by
 obtain⟨i0,hi0,hz0,hz1⟩:=Tp;simp[Gu,bK,dJ Tryz.underlying276,zeroValue,sizeOf,typeInfo,hi0,hz0,hz1,fD,newRow,yU,bZ,aqj]
def adM(w:au)(bs:List UInt8)(e:lu)(w':au):Prop:=∃A n c,e=.a (.K #[.a A n c,.b .a 0])/\n=bs.a/\w'.c w.a.j 5 1 (.a A n c) n (bs.map bv)/\aM w.a.j w w'
theorem Ly.amU{B:Nat}{L:List (Nat×Array aC)}{w0 W:au}{A:Option aU}{n c:Nat}{bs:List UInt8}(ho:W.c B 5 1 (.a A n c) n (bs.map bv))(hB0:w0.a.j<=B)(hb:aM w0.a.j w0 W)(hx:∀p∈L,dN W p.1 p.2/\p.1<B):Ly w0.a.j L w0 W (.a A n c) bs:=by
 have hn:n=bs.a:=by have:=ho.1;rw[bV]at this;omega
 subst hn;have hk:∀k,(bC A bs.a c).f=some k->B<=k:=fun k hk=>(ho.lt k hk).1
 refine⟨⟨iM ho hB0,⟨hb.os,hb.tape,hb.output,hb.j,fun i hi _=>hb.block i hi⟩,?_,ay _,fun k h=>by cases h⟩,fun p hp=>⟨(hx p hp).1,fun e=>by have:=hk _ e;have:=(hx p hp).2;omega⟩⟩;cases A with
 | none=>exact .a rfl
 | some a=>exact .b ⟨_,rfl,aP hB0 (hk _ rfl)⟩
theorem Ly.toE{L:List (Nat×Array aC)}{w0 W:au}{A:Option aU}{n c:Nat}{bs:List UInt8}(h:Ly w0.a.j L w0 W (.a A n c) bs):adM w0 bs (.a (.K #[.a A n c,.b .a 0])) W:=by
 obtain⟨A9,c9,e9⟩:=h.o.Cy;injection e9 with e1 e2 e3
 subst e2;exact⟨A,_,c,rfl,rfl,h.o.vD,h.o.R⟩
theorem uW(n:Nat)(h:n<=65535):iL n 2 true=qm n:=by
 simp only[iL,rQ,qm,if_true,dW];rw[show dS 2=[0,1]from rfl];simp[FP];apply UInt8.toNat_inj.1;simp
theorem adN{α β:Type}(f:α->List β)(d:α)(l:List α)(i:Nat)(hi:i<l.a):(l.d (i+1)).h f=(l.d i).h f++f (l.c i d):=by
 rw[<-lW d l i hi];simp
theorem ahK{W:au}{q o:Nat}{c:Array aC}(h:dN W q c)(v:Vector UInt8 6)(hc:c.m o (o+6)=AO v):fZ W W.a.j (some ⟨q,o,none⟩) 6 v.a:=by
 have:=fZ.NQ (w:=W) (B:=W.a.j) (b:=q) (o:=o) (l:=v.a) h.lt (fun j hj=>by
  rw[h.M.1];have h2:(c.m o (o+6))[j]? = (AO v)[j]?:=by rw[hc]
  have hj6:j<6:=by simpa using hj
  have hs:(AO v)[j]? = some (bv (v.a.c j 0)):=by simp[AO,av,hj6]
  rw[hs,dz]at h2;split at h2
  ·exact h2
  ·cases h2)
 simpa using this
theorem adO(xd xr:Vector UInt8 6)(TA:Option aU)(tn adP:Nat)(xty xat:Int)(fK:List Tg)(hf:∀t∈fK,abo t)(hi:∀t∈fK,tY t.oG=true)(hn:fK.a<=2)(t0:0<=xty)(t1:xty<=65535)(ht:tY xty=false)(w:au)(hT:iF Tg.aA 2 w w.a.j TA tn fK):aQ aj 185 #[.d (Lc.mk xd xr TA tn adP xty xat).aA] w (adM w (qE xd xr fK xty)):=by
 have Z:=ah ((Bx.start w).new (Lc.mk xd xr TA tn adP xty xat).aA 108);have HT:=ah hT;have HN:=ah hT.1;have hn2:tn<=2:=by have:=hT.1;omega
 have q2:decide ((2:Int)<tn)=false:=by simp;omega
 have CI:=ah (fun k W (h:0<=k/\k<=65535)=>show aQ aj 256 #[.b .a k] W (fun e W'=>e=.a (.e true)/\W=W')by
  have:=agb k W;rwa [decide_eq_true h.1,decide_eq_true h.2]at this)
 have CX:=ah (fun W=>CI.i xty W ⟨t0,t1⟩);have CT:=ah (fun W=>by have:=aa9 (W:=W) xty;rwa [ht]at this:∀W,aQ aj 174 #[.b .a xty] W fun e W'=>e=.a (.e false)/\W=W');have HF:=ah hf;have HI:=ah hi;have HTY:=ah ht;clear hT hf hi ht;go_enter Tryz.func185,Tryz.ntmps185;go_upto_region 1 with fail
 generalize w.alloc (.D (Lc.mk xd xr TA tn adP xty xat).aA 108)=w1 at *;obtain⟨y1,y2,y3,y4⟩:=Z.i.X.M;go_upto_region 3 with(first|(go_at_call 256;(with_reducible refine(CX.i _).g ?_);rintro e w4 ⟨rfl,rfl⟩)|(go_at_call 174;(with_reducible refine(CT.i _).g ?_);rintro e w4 ⟨rfl,rfl⟩))
 have CC:=ah (BR [⟨some ⟨w.a.j,0,none⟩,6,6⟩,⟨some ⟨w.a.j,6,none⟩,6,6⟩] [xd.a,xr.a] 56 2 w1.drew rfl (.cons (ahK Z.i.drew.X xd (Lc.Jk _)) (.cons (ahK Z.i.drew.X xr (Lc.Jj _)) .nil)) (by omega) (by simp[yM]));simp only[show w1.drew.a.j=w1.a.j from rfl,show∀(w:au) ob,w.drew.alloc ob=(w.alloc ob).drew from fun _ _=>rfl]at CC;obtain⟨bs,hbs⟩:=dw (xd.a++xr.a);have HBS:=ah (show qE xd xr fK xty=bs++fK.h Ab++qm xty by rw[hbs];rfl);have GI:=ah (show bs.a=12 by rw[hbs];simp);rw[show [xd.a,xr.a].flatten=bs by rw[hbs];simp]at CC;clear hbs y1 y2 y3 y4 q2;go_region_held_law (fun _=>True) (trivial) (first|(go_at_call 181;(with_reducible refine CC.i.g ?_);rintro e w2 ⟨A2,m2,c2,rfl,hm2,_,ho2,hb2⟩;have O2:=ah ho2;have B2:=ah (Ny hb2);clear hm2 ho2 hb2));have S0:=ah (Ly.amU (L:=[(w.a.j,(Lc.mk xd xr TA tn adP xty xat).aA)]) (w0:=w) O2.i (kP Z.i.R.j) (Z.i.R.trans (B2.i.g Z.i.R.j)) (fun p hp=>by rw[fT.1 hp];exact⟨Z.i.X.go B2.i,Nat.lt_succ_of_lt Z.i.X.lt⟩));have fg:=fun(w':au) (h:dN w' w.a.j (Lc.mk xd xr TA tn adP xty xat).aA)=>show w'.b ⟨w.a.j,12,none⟩=some (.a TA tn adP)from(h.M.1 12).trans (Lc.aa6 _)
 have FG:=ah fg;have fy:=fun(w':au) (h:dN w' w.a.j (Lc.mk xd xr TA tn adP xty xat).aA)=>show w'.b ⟨w.a.j,13,none⟩=some (.b .a xty)from(h.M.1 13).trans (Lc.Eb _)
 have FY:=ah fy;clear fg fy;have f12:=FG.i _ S0.i.X;have HTL:=ah (Fa fK);go_wp2;clear f12;go_loopw [4,31] (fun s4 s31 wr=>∃(i:Nat)(A:Option aU)(m c:Nat),i<=tn/\s31=.b .a i/\s4=.a A m c/\Ly w.a.j [(w.a.j,(Lc.mk xd xr TA tn adP xty xat).aA)] w wr (.a A m c) (bs++(fK.d i).h Ab)) (fun _ s31 _=>tn-(intOf s31).e)
 case atStart=>exact⟨0,_,_,_,by omega,rfl,rfl,by simpa using S0.i⟩
 case round=>
  obtain⟨i,A,m,c,hin,rfl,rfl,h⟩:=hrel;have HO:=ah h;clear h;have HL1:=ah (show((fK.d i).h Ab).a<=8 by rw[Fa,bL];have:=HN.i;omega);by_cases hlt:i<tn
  ·have hi:(i:Int)<tn:=by omega
   obtain⟨b,o,hA,hbb,hh,hcl⟩:=iF.fG Tg.I Sj ((HT.i.S HO.i.o.R).lH HO.i.o.R.j) hlt;have hm:=Eu Sj fK i (by rw[HN.i];exact hlt);have DV:=ah (adN Ab Sj fK i (by rw[HN.i];exact hlt));have ok1:=HF.i _ hm;have ok2:=HI.i _ hm;obtain⟨t,htt⟩:=dw (fK.c i Sj);rw[<-htt]at hcl ok1 ok2 DV;clear htt hm;obtain⟨⟨k0,k1⟩,k2,k3⟩:=ok1;obtain⟨ty,hty⟩:∃n:Nat,t.oG=(n:Int):=⟨t.oG.e,by omega⟩
   obtain⟨tc,htc⟩:∃n:Nat,t.tci=(n:Int):=⟨t.tci.e,by omega⟩
   have CTT:=ah (show∀W,aQ aj 174 #[.b .a t.oG] W fun e W'=>e=.a (.e true)/\W=W' from fun W=>by have:=aa9 (W:=W) t.oG;rwa [ok2]at this);have CII:=ah (fun W=>CI.i t.tci W ⟨k2,k3⟩);have HTB:=ah (show Ab t=qm ty++qm tc by unfold Ab;rw[hty,htc]);have cs:jB.wrap t.oG=(ty:Int):=by rw[jT];omega
   have cd:jB.wrap t.tci=(tc:Int):=by rw[jT];omega
   have PS:=ah (fun W=>wD ty (by omega) W);have PD:=ah (fun W=>wD tc (by omega) W);rw[uW ty (by omega)]at PS;rw[uW tc (by omega)]at PD;have HZ:=ah hty;have HZ2:=ah htc;subst hA;clear hty htc ok2 k0 k1 k2 k3;have L1:=ah (HO.i.new t.aA 268);go_upto_region 7 with fail
   clear hh hcl;generalize wr.alloc (.D t.aA 268)=w5 at L1 ⊢;generalize wr.a.j=y6 at L1 ⊢;have e1:=(L1.i.X.M.1 0).trans (Tg.Eb t);have e2:=(L1.i.X.M.1 1).trans (Tg.amx t);go_upto_region 9 with(first|(go_at_call 174;(with_reducible refine(CTT.i _).g ?_);rintro e w6 ⟨rfl,rfl⟩)|(go_at_call 256;(with_reducible refine(CII.i _).g ?_);rintro e w6 ⟨rfl,rfl⟩))
   go_upto_region 10 with(first|(go_at_call 184;(with_reducible refine(PS.i _).g ?_);rintro e w6 ⟨A6,rfl,ho,hb⟩;have R6:=ah (Dq ho (aH _ _));have L2:=ah (L1.i.go hb);have HLN:=ah (show(bs++(fK.d i).h Ab).a+2<=1000000000 by rw[aS];have:=HL1.i;have:=GI.i;omega);clear ho hb)|(at_builtin;refine kC rfl (.a 45) (.a 49) rfl rfl L2.i.o rfl R6.i HLN.i ?_;intro A7 n7 c7 w7 h2 h3;have L3:=ah (L2.i.step h3);clear h2 h3))
   have e3:=(L3.i.X.M.1 1).trans (Tg.amx t);have auY:=ah (show(bs++(fK.d i).h Ab++qm ty).a+2<=1000000000 by rw[aS,aS];have:=HL1.i;have:=GI.i;have:(qm ty).a=2:=rfl;omega);go_wp2_with (first|(go_at_call 184;(with_reducible refine(PD.i _).g ?_);rintro e w8 ⟨A8,rfl,ho,hb⟩;have R8:=ah (Dq ho (aH _ _));have L4:=ah (L3.i.go hb);clear ho hb)|(at_builtin;refine kC rfl (.a 51) (.a 55) rfl rfl L4.i.o rfl R8.i auY.i ?_;intro A9 n9 c9 w9 h2 h3;have L5:=ah (L4.i.step h3);clear h2 h3));go_roundw
   case rel=>exact⟨i+1,A9,n9,c9,by omega,by go_num,rfl,by have:=L5.i.Vu;rw[DV.i,HTB.i,<-dF,<-dF];exact this⟩
   case measure=>simp[intOf]<;>omega
  ·have hge:¬(i:Int)<tn:=by omega
   have HFU:=ah (show(fK.d i).h Ab=fK.h Ab by rw[aL (by rw[HN.i];omega)]);obtain⟨ty,hty⟩:∃n:Nat,xty=(n:Int):=⟨xty.e,by omega⟩
   subst hty;have cs:jB.wrap (ty:Int)=(ty:Int):=by rw[jT];omega
   have PS:=ah (fun W=>wD ty (by omega) W);rw[uW ty (by omega)]at PS;have e3:=FY.i _ HO.i.X;have auY:=ah (show(bs++(fK.d i).h Ab).a+2<=1000000000 by rw[aS];have:=HL1.i;have:=GI.i;omega);go_wp2_with (first|(go_at_call 184;(with_reducible refine(PS.i _).g ?_);rintro e w8 ⟨A8,rfl,ho,hb⟩;have R8:=ah (Dq ho (aH _ _));have L4:=ah (HO.i.go hb);clear ho hb)|(at_builtin;refine kC rfl (.a 58) (.a 62) rfl rfl L4.i.o rfl R8.i auY.i ?_;intro A9 n9 c9 w9 h2 h3;have L5:=ah (L4.i.step h3);clear h2 h3));go_ret2;rw[HBS.i,<-HFU.i];exact L5.i.toE
theorem adR(x:Lc)(fK:List Tg)(hf:∀t∈fK,abo t)(hi:∀t∈fK,tY t.oG=true)(hn:fK.a<=2)(t0:0<=x.oG)(t1:x.oG<=65535)(ht:tY x.oG=false)(w:au)(hT:iF Tg.aA 2 w w.a.j x.VD x.EP fK):aQ aj 185 #[.d x.aA] w (adM w (qE x.Y x.h fK x.oG)):=
 adO x.Y x.h x.VD x.EP x.ahC x.oG x.fG fK hf hi hn t0 t1 ht w hT
end
section
attribute [local go_sem high] jc jK
theorem ay2(w:au)(c:Array aC)(t:bF)(l:List UInt8)(h:c.a=l.map bv):fZ (w.alloc (.D c t)) (w.a.j+1) (some ⟨w.a.j,0,none⟩) l.a l:=by
 have:=fZ.NQ (w:=w.alloc (.D c t)) (B:=w.a.j+1) (b:=w.a.j) (o:=0) (l:=l) (mP _) (fun j hj=>by
  rw[bl,ni w c t j,<-dH,h];simp[av,hj])
 exact this
theorem Mq{W:au}{q o:Nat}{c:Array aC}(h:dN W q c)(a:fE)(hc:c.m o (o+17)=a.aA):fZ W W.a.j (some ⟨q,o+1,none⟩) 16 a.b.a:=by
 have:=fZ.NQ (w:=W) (B:=W.a.j) (b:=q) (o:=o+1) (l:=a.b.a) h.lt (fun j hj=>by
  have hj6:j<16:=by simpa using hj
  rw[h.M.1,show o+1+j=o+(j+1)by omega];have h2:(c.m o (o+17))[j+1]? = a.aA[j+1]?:=by rw[hc]
  rw[fE.Ew a j hj6,dz]at h2;split at h2
  ·exact h2
  ·cases h2)
 simpa using this
theorem adM.of{w W:au}{A:Option aU}{n c:Nat}{bs:List UInt8}{B:Nat}(hn:n=bs.a)(ho:W.c B 5 1 (.a A n c) n (bs.map bv))(hB:w.a.j<=B)(hb:aM w.a.j w W):adM w bs (.a (.K #[.a A n c,.b .a 0])) W:=⟨A,n,c,rfl,hn,iM ho hB,hb⟩
theorem Wd(x:Sx)(n:Nat)(hn:n<=65535)(hh:x.head=40)(ht:x.dA=40+n)(p0:0<=x.aR)(p1:x.aR<=255)(pe:zR x.aR=false)(h0:0<=x.Ij)(h1:x.Ij<=255)(hf:x.oN=false)(he:x.Ik=0)(hs:x.h.h=true)(hd:x.Y.h=true)(w:au):aQ aj 270 #[.d x.aA] w (adM w (wM x)):=by
 have Z:=ah ((Bx.start w).new x.aA 189);have FA:=ah (fun(w':au) (h:dN w' w.a.j x.aA)=>show w'.b ⟨w.a.j,0,none⟩=some (.b .a 40)/\w'.b ⟨w.a.j,1,none⟩=some (.b .a (40+n))/\w'.b ⟨w.a.j,2,none⟩=some (.b .a x.Ij)/\w'.b ⟨w.a.j,3,none⟩=some (.e false)/\w'.b ⟨w.a.j,4,none⟩=some (.b .a 0)/\w'.b ⟨w.a.j,5,none⟩=some (.b .a x.aR)/\w'.b ⟨w.a.j,6,none⟩=some (.e true)/\w'.b ⟨w.a.j,23,none⟩=some (.e true)by
  have f:=h.M.1;refine⟨(f 0).trans ((Sx.Ke x).trans (by rw[hh])),(f 1).trans ((Sx.yw x).trans (by rw[ht])),(f 2).trans (Sx.auo x),(f 3).trans ((Sx.TJ x).trans (by rw[hf])),(f 4).trans ((Sx.apY x).trans (by rw[he])),(f 5).trans (Sx.BZ x),(f 6).trans ?_,(f 23).trans ?_⟩
  ·have:=Sx.Jj x
   have h2:(x.aA.m 6 23)[0]? = x.h.aA[0]?:=by rw[this]
   rw[fE.qG,hs,dz,if_pos (by rw[Sx.I];omega)]at h2;exact h2
  ·have:=Sx.Jk x
   have h2:(x.aA.m 23 40)[0]? = x.Y.aA[0]?:=by rw[this]
   rw[fE.qG,hd,dz,if_pos (by rw[Sx.I];omega)]at h2;exact h2)
 have HT:=ah (show wM x=[96,0,0,0]++qm n++[aK x.aR.e,aK x.Ij.e]++x.h.b.a++x.Y.b.a by
  unfold wM qm;rw[ht,show((40:Int)+n-40).e=n by omega];rfl)
 have CI:=ah (fun k W (h:0<=k/\k<=255)=>show aQ aj 315 #[.b .a k] W (fun e W'=>e=.a (.e true)/\W=W')by
  have:=ajB k W;rwa [decide_eq_true h.1,decide_eq_true h.2]at this)
 have C1:=ah (fun W=>CI.i x.Ij W ⟨h0,h1⟩);have C2:=ah (fun W=>CI.i x.aR W ⟨p0,p1⟩);have CE:=ah (fun W=>by have:=VG x.aR W;rwa [pe]at this:∀W,aQ aj 250 #[.b .a x.aR] W fun e W'=>e=.a (.e false)/\aM W.a.j W W');have q1:decide ((40:Int)+n<40)=false:=by simp;omega
 have q2:decide ((65575:Int)<40+(n:Int))=false:=by simp;omega
 have q3:=jV (40+(n:Int)-40) (by omega);have q4:(40:Int)+n-40=n:=by omega
 rw[q4]at q3;have q5:jB.wrap (n:Int)=n:=by rw[jT];omega
 have q6:aX.wrap x.aR=x.aR:=by rw[Ic];omega
 have q7:aX.wrap x.Ij=x.Ij:=by rw[Ic];omega
 have PS:=ah (fun W=>wD n hn W);rw[uW n hn]at PS;have HP:=ah (show #[aJ .b x.aR,.b .b x.Ij].a=[aK x.aR.e,aK x.Ij.e].map bv by
  simp only[kK,pU,bv];rw[yX x.aR.e (by omega),yX x.Ij.e (by omega),lJ p0,lJ h0])
 have E1:=ah (Sx.Jj x);have E2:=ah (Sx.Jk x);clear hh ht pe hf he hs hd p0 p1 h0 h1;go_enter Tryz.func270,Tryz.ntmps270;go_upto_region 1 with fail
 generalize w.alloc (.D x.aA 189)=w1 at *;obtain⟨f0,f1,f2,f3,f4,f5,f6,f7⟩:=FA.i _ Z.i.X;go_upto_region 3 with(first|(go_at_call 315;(with_reducible refine(C1.i _).g ?_);rintro e w4 ⟨rfl,rfl⟩)|(go_at_call 315;(with_reducible refine(C2.i _).g ?_);rintro e w4 ⟨rfl,rfl⟩)|(go_at_call 250;(with_reducible refine(CE.i _).g ?_);rintro e w5 ⟨rfl,hb⟩;have Z5:=ah (Z.i.go hb);clear f0 f1 f2 f3 f4 f5 f6 f7;obtain⟨f0,f1,f2,f3,f4,f5,f6,f7⟩:=FA.i _ Z5.i.X;clear hb))
 clear f0 f3 f4 f6 f7 f1 f2 f5 q1 q2;have L0:=ah ((Ly.amQ w w5 Z5.i.R #[.b .b 96,.b .b 0,.b .b 0,.b .b 0] [96,0,0,0] 4 rfl (by omega) rfl).add (q:=w.a.j) (c:=x.aA) (Z5.i.X.alloc _) (by simp[jJ];exact uD Z5.i.X.lt));go_upto_region 4 with fail
 generalize w5.alloc (.D #[.b .b 96,.b .b 0,.b .b 0,.b .b 0] 5)=w6 at L0 ⊢;generalize bC (some ⟨w5.a.j,0,none⟩) 4 4=v6 at L0 ⊢;have f1:=(FA.i _ L0.i.X).2.1;go_upto_region 5 with(first|(go_at_call 184;(with_reducible refine(PS.i _).g ?_);rintro e w7 ⟨A7,rfl,ho,hb⟩;have R7:=ah (Dq ho (aH _ _));have L1:=ah (L0.i.go hb);clear ho hb)|(at_builtin;refine kC rfl (.a 57) (.a 62) rfl rfl L1.i.o rfl R7.i (show 4+2<=1000000000 by decide) ?_;intro A8 n8 c8 w8 h2 h3;have L2:=ah (L1.i.step h3);clear h2 h3))
 clear f1 q3 q5 q4;obtain⟨_,_,f2,_,_,f5,_,_⟩:=FA.i _ L2.i.X;have L3:=ah (L2.i.alloc (.D #[.b .b x.aR,.b .b x.Ij] 5));have R8:=ah (ay2 w8 #[.b .b x.aR,.b .b x.Ij] 5 _ HP.i);go_upto_region 6 with(first|(at_builtin;refine kC rfl (.a 64) (.a 71) rfl rfl L3.i.o rfl R8.i (show 4+2+2<=1000000000 by decide) ?_;intro A9 n9 c9 w9 h2 h3;have L4:=ah (L3.i.step h3);clear h2 h3))
 clear f2 f5 q6 q7;obtain⟨bs,hbs⟩:=dw ([96,0,0,0]++qm n++[aK x.aR.e,aK x.Ij.e]);have GI:=ah (show bs.a=8 by rw[hbs];rfl);rw[<-hbs]at L4 HT;clear hbs;obtain⟨A10,c10,e10⟩:=L4.i.o.Cy;injection e10 with e11 e12 e13
 subst e11 e12 e13;have BX:=ah L4.i.X.drew;have RB:=ah (fZ.gV L4.i.o.vD);have CC:=ah (BR [⟨A9,bs.a,c9⟩,⟨some ⟨w.a.j,7,none⟩,16,16⟩,⟨some ⟨w.a.j,24,none⟩,16,16⟩] [bs,x.h.b.a,x.Y.b.a] 56 3 w9.drew rfl (.cons RB.i (.cons (Mq (o:=6) BX.i x.h E1.i) (.cons (Mq (o:=23) BX.i x.Y E2.i) .nil))) (by omega) (by simp[yM,GI.i]));simp only[show w9.drew.a.j=w9.a.j from rfl,show∀(w:au) ob,w.drew.alloc ob=(w.alloc ob).drew from fun _ _=>rfl]at CC;rw[show [bs,x.h.b.a,x.Y.b.a].flatten=wM x by rw[HT.i];simp]at CC;go_region_held_law (fun _=>True) (trivial) (first|(go_at_call 181;(with_reducible refine CC.i.g ?_);rintro e w2 ⟨A2,m2,c2,rfl,hm2,_,ho2,hb2⟩;have O2:=ah ho2;have N2:=ah hm2;have B2:=ah (Ny hb2);clear hm2 ho2 hb2));go_wp2;go_ret2;exact adM.of N2.i O2.i (kP L4.i.o.R.j) (L4.i.o.R.trans (B2.i.g L4.i.o.R.j))
end
theorem Mr{w:au}{ops:Array je}{rest:List je}{o:je}{a:qY}{Q:zW->qY->au->Prop}(hgd:o.guard=none)(d s:pR)
 (ho:o.op=.call {callee:=.builtin .copy,args:=#[d,s],argTypes:=#[56,56]}) {B:Nat} {L:List (Nat×Array aC)} {w0:au} {A:Option aU} {n c:Nat} {bs:List UInt8} (H:Ly B L w0 w (.a A n c) bs) (z m:Nat)
 {dp:Option aU} {dLen dCap:Nat} (hd:a.eval d=.a dp dLen dCap) {sp:Option aU} {sLen sCap:Nat} (hs:a.eval s=.a sp sLen sCap) {C:Nat} {ys:List UInt8} (hr:fZ w C sp sLen ys) (hm:m=qw sLen dLen)
 (hp:0<m->∃g,A=some ⟨g,0,none⟩/\dp=some ⟨g,z,none⟩) (hz:z+m<=bs.a)
 (h:∀w',Ly B L w0 w' (.a A n c) (sj bs z (ys.d m))->w.d w' (jJ (.a A n c))->wpList aj ops Q rest (a.put o.Y (goInt m)) w'):wpList aj ops Q (o::rest) a w:=by
 obtain⟨W',hrun,hL,hG⟩:=H.copy z hr m dp dLen dCap sCap hm hp hz o.type 56 56 cu;refine sU hgd fun K hK=>?_
 unfold nI;simp[execOp,ho,resolve,invoke,builtin,hd,hs,hrun,iI];exact hK _ _ (h W' hL hG)
theorem Og{w:au}{ops:Array je}{o:je}{a:qY}{K:qY->au->Prop}{Q:zW->qY->au->Prop}{E:Prop}(hgd:o.guard=none)(d s:pR)
 (ho:o.op=.call {callee:=.builtin .copy,args:=#[d,s],argTypes:=#[56,56]}) {B:Nat} {L:List (Nat×Array aC)} {w0:au} (A:Option aU) (n c:Nat) {bs:List UInt8} (H:Ly B L w0 w (.a A n c) bs) (z m:Nat)
 (dp:Option aU) (dLen dCap:Nat) (hd:a.eval d=.a dp dLen dCap) (sp:Option aU) (sLen sCap:Nat) (hs:a.eval s=.a sp sLen sCap) {C:Nat} {ys:List UInt8} (hr:fZ w C sp sLen ys) (hm:m=qw sLen dLen)
 (hp:0<m->∃g,A=some ⟨g,0,none⟩/\dp=some ⟨g,z,none⟩) (hz:z+m<=bs.a)
 (h:∀w',Ly B L w0 w' (.a A n c) (sj bs z (ys.d m))->w.d w' (jJ (.a A n c))->K (a.put o.Y (goInt m)) w'):if fF o (yielded ops a.tmps)=true then nI aj o a w K Q else E:=by
 have hw:fF o (yielded ops a.tmps)=true:=by simp[fF,hgd]
 rw[if_pos hw];obtain⟨W',hrun,hL,hG⟩:=H.copy z hr m dp dLen dCap sCap hm hp hz o.type 56 56 cu;unfold nI;simp[execOp,ho,resolve,invoke,builtin,hd,hs,hrun,iI];exact h W' hL hG
theorem Ly.h{B:Nat}{L:List (Nat×Array aC)}{w0 w:au}{A:Option aU}{n c:Nat}{bs:List UInt8}(H:Ly B L w0 w (.a A n c) bs)(h:0<bs.a):∃g,A=some ⟨g,0,none⟩/\n=bs.a/\n<=c/\w0.a.j<=g/\∀p∈L,p.1≠g:=by
 rcases H.o.vD.2 with⟨e,h0⟩|⟨g,cap,cur,e,hB,_,hn,_⟩
 ·omega
 ·injection e with e1 e2 e3
  subst e1 e2 e3;refine⟨g,rfl,rfl,hn,?_,fun p hp e=>(H.I p hp).2 (by rw[e];rfl)⟩;rcases H.o.uf with e|⟨k',e,e2⟩
  ·cases e
  ·injection e with e;subst e;exact e2
section
attribute [local go_sem high] jc jK
def Fb(l:List UInt8)(d s:Vector UInt8 6):List UInt8:=(d.a++s.a++l.f 12).d l.a
theorem ay3(l:List UInt8)(d s:Vector UInt8 6)(h:l.a<=6):sj l 0 (d.a.d l.a)=Fb l d s:=by
 have e:(d.a.d l.a).a=l.a:=by simp;omega
 unfold sj Fb;rw[jZ,dG,bl,e,List.drop_length,uI,dF,List.take_append_of_le_length (by simp;omega)]
theorem ay4(l:List UInt8)(d s:Vector UInt8 6)(h:6<l.a):sj (sj l 0 (d.a.d 6)) 6 (s.a.d (min 6 (l.a-6)))=Fb l d s:=by
 have hd:d.a.d 6=d.a:=aL (by simp);have hdl:d.a.a=6:=by simp
 have hsl:s.a.a=6:=by simp
 rw[hd];unfold sj Fb;simp only[jZ,dG,bl,hdl];rw[List.take_left' hdl,<-Lm];have e2:(d.a++l.f 6).f 6=l.f 6:=List.drop_left' hdl;have e3:(s.a.d (min 6 (l.a-6))).a=min 6 (l.a-6):=by simp
 rw[e2,e3,Lm,dF d.a s.a,List.take_append,hdl];rw[aL (by omega:d.a.a<=l.a),dF];congr 1;rw[List.take_append,hsl];by_cases h2:l.a<=12
 ·rw[show min 6 (l.a-6)=l.a-6 by omega,iY (by omega),iY (by omega:l.a<=12)]
  simp
 ·rw[show min 6 (l.a-6)=6 by omega,aL (by omega:s.a.a<=6),aL (by omega:s.a.a<=l.a-6)]
  congr 1;rw[aL (by simp;omega)]
theorem Ly.toN{L:List (Nat×Array aC)}{w0 W:au}{A:Option aU}{n c:Nat}{bs:List UInt8}(h:Ly w0.a.j L w0 W (.a A n c) bs):KI w0 bs (.a (.a A n c)) W:=by
 obtain⟨A9,c9,e9⟩:=h.o.Cy;injection e9 with e1 e2 e3
 subst e2;exact⟨A,_,c,rfl,rfl,h.o.vD,h.o.R⟩
theorem abq(w:au)(A:Option aU)(n c:Nat)(l:List UInt8)(d s:Vector UInt8 6)(hn:n<=1000000)(hr:fZ w w.a.j A n l):aQ aj 206 #[.a A n c,.d (AO d),.d (AO s)] w (KI w (Fb l d s)):=by
 have h0:=((Bx.start w).new (AO d) 25).new (AO s) 25;simp only[tq]at h0;have Z:=ah h0;have CC:=ah (ai1 l A n c _ (h0.Mf hr) (by omega));have hl:=ah hr.len;clear h0 hr;go_enter Tryz.func206,Tryz.ntmps206;go_upto_region 1 with fail
 generalize(w.alloc (.D (AO d) 25)).alloc (.D (AO s) 25)=w1 at Z CC ⊢;go_upto_region 2 with(go_at_call 268;(with_reducible refine CC.i.g ?_);rintro e w2 ⟨A2,c2,rfl,ho,hb⟩;have L1:=ah (Ly.amU (w0:=w) (L:=[(w.a.j+1,AO s),(w.a.j,AO d)]) ho Z.i.R.j (Z.i.R.trans (hb.g Z.i.R.j)) (fun p hp=>⟨((Z.i.go hb).2 p hp).2,(Z.i.2 p hp).2.lt⟩));clear ho hb)
 have RD:=ah (ahK (o:=0) L1.i.b1 d (by rw[<-gM d];simp));by_cases h6:n<=6
 ·have hm:n=qw 6 n:=by show n=min 6 n;omega
  have HM:=ah hm;have q:decide ((6:Int)<n)=false:=by simp;omega
  have HP:=ah (show 0<n->∃g,A2=some ⟨g,0,none⟩/\A2=some ⟨g,0,none⟩from fun h=>by
   obtain⟨g,hg,_⟩:=L1.i.h (by rw[hl.i];exact h);exact⟨g,hg,hg⟩)
  have HZ:=ah (show 0+n<=l.a by rw[hl.i];omega);clear hm;go_wp2_with (first|(at_builtin;fail)|(refine Mr rfl (.a 10) (.a 11) rfl L1.i 0 n rfl rfl RD.i HM.i HP.i HZ.i ?_;intro w3 h3 h4;have L2:=ah h3;clear h3 h4));go_ret;have:=L2.i.toN;have e:sj l 0 (d.a.d n)=Fb l d s:=by rw[<-ay3 l d s (by rw[hl.i];exact h6),hl.i]
  rw[e]at this;exact this
 ·have q:decide ((6:Int)<n)=true:=by simp;omega
  obtain⟨g,hg1,hg2,hg3,hg4,hg5⟩:=L1.i.h (by rw[hl.i];omega);subst hg1;clear hg2;have HP:=ah (show 0<6->∃g',(some ⟨g,0,none⟩:Option aU)=some ⟨g',0,none⟩/\(some ⟨g,0,none⟩:Option aU)=some ⟨g',0,none⟩from fun h=>⟨g,rfl,rfl⟩);have HM:=ah (show 6=qw 6 n by show 6=min 6 n;omega);have HZ:=ah (show 0+6<=l.a by rw[hl.i];omega);have hn6:(6:Int)<=n:=by omega
  go_upto_region 4 with(first|(refine Mr rfl (.a 10) (.a 11) rfl L1.i 0 6 rfl rfl RD.i HM.i HP.i HZ.i ?_;intro w3 h3 h4;have L2:=ah h3;clear h3 h4))
  have aKe:(6:Int)<=c2:=by omega
  have L3:=ah L2.i.drew;have RS:=ah (ahK (o:=0) L3.i.X s (by rw[<-gM s];simp));have HPL:=ah (show(sj l 0 (d.a.d 6)).a=n by rw[EZ (by simp;rw[hl.i];omega),hl.i]);obtain⟨m2,hm2⟩:∃m,m=qw 6 (n-6):=⟨_,rfl⟩
  have HM2:=ah hm2;have hm3:m2=min 6 (n-6):=hm2;have HP2:=ah (show 0<m2->∃g',(some ⟨g,0,none⟩:Option aU)=some ⟨g',0,none⟩/\vI (some ⟨g,0,none⟩) 6 c2 1=some ⟨g',6,none⟩from fun h=>⟨g,rfl,Qc (n:=0) (by omega)⟩);have HZ2:=ah (show 6+m2<=(sj l 0 (d.a.d 6)).a by rw[HPL.i];omega);have HT:=ah (show sj (sj l 0 (d.a.d 6)) 6 (s.a.d m2)=Fb l d s by rw[hm3,<-hl.i];exact ay4 l d s (by rw[hl.i];omega));clear hm2 hm3 h6;go_region_held_law (fun _=>True) (trivial)
   (first|(refine Og (o:=⟨some 19,_,_,_,_,_⟩) rfl (.a 17) (.a 18) rfl (some ⟨g,0,none⟩) n c2 L3.i 6 m2 (vI (some ⟨g,0,none⟩) 6 c2 1) (n-6) (c2-6) rfl (some ⟨w.a.j+1,0,none⟩) 6 6 rfl RS.i HM2.i HP2.i HZ2.i ?_;intro w4 h3 h4;have L4:=ah h3;clear h3 h4))
  go_wp2;go_ret;have:=L4.i.toN;rw[HT.i]at this;exact this
end
structure Ac where
 kind:Int
 frame:List UInt8
 op:qV
 E:List UInt8
 h:Bool
structure Ou where
 err:Int
 jh:Int
 wW:Bool
 Y:Int
 E:List UInt8
 i:List UInt8
deriving DecidableEq
def GK:Ou:=⟨0,0,false,0,[],[]⟩
structure En where
 key:Vector UInt8 16
 c:Cn
 vs:List Vp
def wF(e:En)(s:qB):Tl:=uw e.key e.c.j.e (kU (ou s.h) s.rX)
def ahL(e:En)(t:Tu):Nat:=xZ e.key (MC t)
def Oh(s:qB)(t:Tu):Option (List UInt8):=match pW s.I t with
 | some f=>if sP s.rX f.E && !xH (ou s.h) f.E then some f.E else none
 | none=>none
def Jv(e:En)(s:qB)(t:Tu):Option (Bk×Bool):=match Oh s t with
 | some n=>some (qd s.rX n,true)
 | none=>(Hr (wF e s) (ahL e t)).map fun n=>(qd s.rX n,false)
def Oi(e:En)(v:Vp)(b:Bk)(t:Tu)(l:List UInt8):Int×List UInt8:=
 if v.Vy then
  if(Hw l (if b.h.h then e.c.h else e.c.Cz) b.h).2=0 then(0,Fb (Hw l (if b.h.h then e.c.h else e.c.Cz) b.h).1 b.Bj e.c.Bj)else(10,[])
 else if b.h.h=t.Y.h then(0,Fb (abn l b.h b.nu true) b.Bj e.c.Bj)else(9,[])
structure Wy where
 jh:Int
 i:List UInt8
 bk:Bk
 wW:Bool
def Ed(e:En)(s:qB)(l:List UInt8):Wy:=
 if(vW l).kind=0 then
  match zo e.vs (vW l).K.Y (vW l).K.aR (vW l).K.j4 with
  | some i=>match Jv e s (vW l).K with
    | some (b,wW)=>
      if(Oi e (e.vs.c i og) b (vW l).K l).1=0 then⟨0,(Oi e (e.vs.c i og) b (vW l).K l).2,b,wW⟩
      else⟨(Oi e (e.vs.c i og) b (vW l).K l).1,[],jd,false⟩
    | none=>⟨8,[],jd,false⟩
  | none=>⟨7,[],jd,false⟩
 else⟨(vW l).kind,[],jd,false⟩
def upC(v:Vector Int 11)(r:Int):Vector Int 11:=Ej fun i=>if(i:Int)=r then v[i]+1 else v[i]
def ahM(s:qB)(p:Pk):Int:=match pW s.I p.K with
 | some f=>ag' f.xG p.uT.e
 | none=>aan p.K.aR p.uT.e
def amV(s:qB)(p:Pk)(n:List UInt8):Fw:=⟨p.K,n,ahM s p,s.gq,s.no+1⟩
def Ee(e:En)(s:qB)(l:List UInt8):qB×Ou:=
 if(Ed e s l).jh=0 then
  ({s with lI:=upC s.lI 0,no:=s.no+1,I:=DZ e.c.dX s.I (amV s (vW l) (Ed e s l).bk.E)},⟨0,0,(Ed e s l).wW,s.Y,(Ed e s l).bk.E,(Ed e s l).i⟩)
 else({s with lI:=upC s.lI (Ed e s l).jh},{GK with jh:=(Ed e s l).jh})
def opE(s:qB)(o:qV):qB×Ou:=
 if qC s.Y s.rX o=0 then({s with Y:=doV s.Y s.rX o,rX:=doL s.Y s.rX o,h:=EL s.h ((doL s.Y s.rX o).map (·.E))},{GK with Y:=doV s.Y s.rX o})
 else(s,{GK with err:=qC s.Y s.rX o})
def QO(e:En)(s:qB)(n:List UInt8)(well:Bool):qB×Ou:=
 if(KE s.h n well e.c.kr e.c.fall).2.2=0 then({s with h:=(KE s.h n well e.c.kr e.c.fall).1},GK)
 else(s,{GK with err:=(KE s.h n well e.c.kr e.c.fall).2.2})
def QS(e:En)(s:qB):qB×Ou:=
 if 1099511627776<=s.gq then(s,{GK with err:=7})else({s with gq:=s.gq+1,I:=LX (s.gq+1) e.c.kD s.I},GK)
def yA(e:En)(s:qB)(a:Ac):qB×Ou:=
 if a.kind=1 then Ee e s a.frame else if a.kind=2 then opE s a.op else if a.kind=3 then QO e s a.E a.h else if a.kind=4 then QS e s else(s,{GK with err:=1})
structure oH(M:Int)(e:En)(s:qB):Prop where
 cn:yu e.c e.vs=true
 pl:xX s.Y s.rX=true
 fi:∀x∈s.rX,x.qg
 nm:s.h.map (·.E)=s.rX.map (·.E)
 hl:∀x∈s.h,0<=x.J/\x.J<(if x.down then e.c.kr else e.c.fall)
 fl:wE e.c.dX s.I
 fw:∀f∈s.I,f.seen<=s.gq/\1<=f.no/\f.no<=s.no
 ti:0<=s.gq/\s.gq<=1099511627776
 no:0<=s.no/\s.no<=M
 ct:∀n∈s.lI.a,0<=n/\n<=M
theorem oH.le{M K:Int}{e:En}{s:qB}(h:oH M e s)(hk:M<=K):oH K e s:=
 ⟨h.cn,h.pl,h.fi,h.nm,h.hl,h.fl,h.fw,h.ti,by have:=h.no;omega,fun n hn=>by have:=h.ct n hn;omega⟩
theorem sN{x:Cn}{l:List Vp}(h:yu x l=true):(2<=x.j/\x.j<=65537/\lK x.j.e=true)/\(1<=x.dX/\x.dX<=4096)/\(1<=x.kr/\x.kr<=100)/\(1<=x.fall/\x.fall<=100):=by
 unfold yu at h;simp only[bB,decide_eq_true_eq]at h;obtain⟨⟨⟨⟨⟨⟨⟨⟨⟨⟨_,_⟩,⟨⟨h1,h2⟩,h3⟩⟩,h4⟩,h5⟩,h6⟩,_⟩,_⟩,_⟩,_⟩,_⟩:=h;exact⟨⟨h1,h2,h3⟩,h4,h5,h6⟩
theorem ahN{v:Vector Int 11}{r:Int}{M:Int}(h:∀n∈v.a,0<=n/\n<=M):∀n∈(upC v r).a,0<=n/\n<=M+1:=by
 intro n hn;have hv:∀(i:Nat)(hi:i<11),0<=v[i]/\v[i]<=M:=fun i hi=>h _ (by rw[Vector.mem_toList_iff];exact Vector.getElem_mem hi)
 rw[Vector.mem_toList_iff,Vector.mem_iff_getElem]at hn;obtain⟨i,hi,rfl⟩:=hn;unfold upC;rw[Vector.getElem_ofFn];have:=hv i hi;simp only[Fin.getElem_fin];split<;>omega
theorem abr{f x:Fw}{l:List Fw}:x∈ins lQ f l↔x=f\/x∈l:=by
 rw[(BF (lt:=lQ) f l).mem_iff,bE]
theorem aqk{dX:Int}{l:List Fw}{f x:Fw}(h:x∈DZ dX l f):x=f\/x∈l:=by
 unfold DZ at h;split at h
 ·split at h
  ·rcases abr.1 h with h|h
   ·exact .a h
   ·exact .b ((aa0 l f.key).subset h)
  ·split at h
   ·rcases abr.1 h with h|h
    ·exact .a h
    ·exact .b (List.mem_of_mem_tail h)
   ·exact abr.1 h
 ·exact .b h
theorem ajC{M:Int}{e:En}{s:qB}(h:oH M e s)(l:List UInt8):oH (M+1) e (Ee e s l).1:=by
 obtain⟨_,⟨r1,_⟩,_⟩:=sN h.cn;have hno:=h.no;unfold Ee;split
 ·refine⟨h.cn,h.pl,h.fi,h.nm,h.hl,h.fl.put r1 _,?_,h.ti,?_,ahN h.ct⟩
  ·intro f hf
   simp only at hf ⊢;rcases aqk hf with rfl|hf
   ·simp only[amV];omega
   ·have:=h.fw f hf;omega
  ·simp only;omega
 ·exact⟨h.cn,h.pl,h.fi,h.nm,h.hl,h.fl,h.fw,h.ti,by simp only;omega,ahN h.ct⟩
theorem Jw:∀{l:List (List UInt8)},l.Pairwise (fun x y=>bR x y=true)->Ih l=l
 | [],_=>rfl
 | x::l,h=>by
   obtain⟨h1,h2⟩:=List.pairwise_cons.1 h;have ih:=Jw h2;unfold Ih at ih ⊢;rw[List.foldr_cons,ih];cases l with
   | nil=>rfl
   | cons y l=>
     have:=h1 y (by simp);simp[Ve,this]
theorem YW{a b:List UInt8}(h:mK a b<0):bR a b=true:=by
 rw[xW];simpa using h
theorem ajD{l:List Bk}(h:Ga l):(l.map (·.E)).Pairwise (fun x y=>bR x y=true):=by
 unfold Ga at h;rw[List.pairwise_map];exact h.imp (fun hab=>YW hab)
theorem agd{l:List Hl}{names:List (List UInt8)}(h:names.Pairwise (fun x y=>bR x y=true)):(EL l names).map (·.E)=names:=by
 unfold EL;rw[Jw h,Ir]
 conv=>rhs;rw[<-List.map_id names]
 apply Ck;intro s _;exact afx l s
theorem ajE(l:List Hl)(s:List UInt8):BI l s∈l\/BI l s=⟨s,false,0⟩:=by
 unfold BI;split
 ·exact .b rfl
 ·rename_i h
  left;unfold zL at h ⊢;cases hf:l.findIdx? (fun x=>x.E==s)with
  | none=>rw[hf]at h;simp at h
  | some i=>
    obtain⟨hi,_,_⟩:=ig.1 hf;simp only[dW];rw[av,aD hi];exact eY hi
theorem amW{M:Int}{e:En}{s:qB}(h:oH M e s)(o:qV)(hof:o.bk.qg)(how:o.w<18446744073709551616):oH M e (opE s o).1:=by
 obtain⟨_,_,⟨r1,_⟩,f1,_⟩:=sN h.cn;unfold opE;split
 ·rename_i hw
  have hd:=aft h.pl h.fi hof how hw;have hs:=(wZ.1 hd.1).2.2.2.2;refine⟨h.cn,?_,hd.2,?_,?_,h.fl,h.fw,h.ti,h.no,h.ct⟩
  ·simp only[doV,hw,if_true];exact hd.1
  ·simp only
   exact agd (ajD hs)
  ·intro x hx
   simp only at hx;unfold EL at hx;obtain⟨n,_,rfl⟩:=iX.1 hx;rcases ajE s.h n with hm|hm
   ·exact h.hl _ hm
   ·rw[hm]
    simp only[jr,if_false];omega
 ·exact h
theorem amX{x:Hl}{well:Bool}{kr fall:Int}(hr:1<=kr/\kr<=100)(hf:1<=fall/\fall<=100)(h:0<=x.J/\x.J<(if x.down then kr else fall)):0<=(uQ x well kr fall).1.J/\(uQ x well kr fall).1.J<(if(uQ x well kr fall).1.down then kr else fall):=by
 have hb:∀n:Int,1<=n/\n<=100->uP n=n:=fun n hn=>by unfold uP;rw[if_neg (by omega),if_neg (by omega)]
 unfold uQ;cases hd:x.down
 ·rw[hd]at h
  simp only[jr,if_false]at h ⊢;rw[hb _ hf];split
  ·simp only[hd,jr,if_false];omega
  ·split
   ·simp only[Bool.not_false,if_true];omega
   ·simp only[jr,if_false];omega
 ·rw[hd]at h
  simp only[if_true]at h ⊢;rw[hb _ hr];split
  ·simp only[hd,if_true];omega
  ·split
   ·simp only[Bool.not_true,jr,if_false];omega
   ·simp only[if_true];omega
theorem ajF(x:Hl)(well:Bool)(kr fall:Int):(uQ x well kr fall).1.E=x.E:=by
 unfold uQ
 repeat' split
 all_goals rfl
theorem adS{M:Int}{e:En}{s:qB}(h:oH M e s)(n:List UInt8)(well:Bool):oH M e (QO e s n well).1:=by
 obtain⟨_,_,hr,hf⟩:=sN h.cn;unfold QO;split
 ·rename_i h0
  unfold KE at h0 ⊢;split
  ·rename_i h1;rw[if_pos h1]at h0;cases h0
  ·rename_i h1
   have hin:(zL s.h n).e<s.h.a:=by
    unfold zL at h1 ⊢;cases hf:s.h.findIdx? (fun x=>x.E==n)with
    | none=>rw[hf]at h1;simp at h1
    | some i=>
      obtain⟨hi,_,_⟩:=ig.1 hf;simpa using hi
   have hm:s.h.c (zL s.h n).e kQ∈s.h:=by
    rw[av,aD hin];exact eY hin
   refine⟨h.cn,h.pl,h.fi,?_,?_,h.fl,h.fw,h.ti,h.no,h.ct⟩
   ·simp only
    rw[<-h.nm,List.map_set];apply iN;intro i;rw[fI];split
    ·rename_i hi
     subst hi;rw[bV,if_pos hin,ajF,jm,aD hin,av,aD hin];rfl
    ·rfl
   ·intro x hx
    simp only at hx;rcases List.mem_or_eq_of_mem_set hx with hx|rfl
    ·exact h.hl x hx
    ·exact amX hr hf (h.hl _ hm)
 ·exact h
theorem amY{M:Int}{e:En}{s:qB}(h:oH M e s):oH M e (QS e s).1:=by
 unfold QS;split
 ·exact h
 ·have ht:=h.ti
  refine⟨h.cn,h.pl,h.fi,h.nm,h.hl,h.fl.ayj _ _,?_,by simp only;omega,h.no,h.ct⟩;intro f hf;have:=h.fw f (mH.1 hf).1;simp only;omega
theorem uX{M:Int}{e:En}{s:qB}(h:oH M e s)(a:Ac)(hof:a.op.bk.qg)(how:a.op.w<18446744073709551616):oH (M+1) e (yA e s a).1:=by
 unfold yA;split
 ·exact ajC h _
 ·split
  ·exact(amW h a.op hof how).le (by omega)
  ·split
   ·exact(adS h _ _).le (by omega)
   ·split
    ·exact(amY h).le (by omega)
    ·exact h.le (by omega)
theorem oO{place:Nat->Option (Nat×Nat)}(i off:Nat)(v:aC)(ps:List (Nat×aC))(p r:Array aC)(h:place i=some (off,1))(hv:v.D = #[v])(ho:off<p.j):fD place (p++r) ((i,v)::ps)=fD place (p.b off v++r) ps:=by
 rw[Er place _ i off 1 v ps h (by rw[hv];rfl) (by rw[om];omega),hv];congr 1;apply eB;intro j;rw[Ep];simp only[om,aG,Array.size_setIfInBounds,dU];by_cases hj:j=off
 ·subst hj
  simp[ho];omega
 ·by_cases h1:off<=j/\j<off+1
  ·omega
  ·have:¬off=j:=fun e=>hj e.symm
   simp[this];intro a b;omega
@[go_sem]theorem ay5(W:au)(head dA Ij aR:Int)(src dst:fE):(uJ 189 #[(0,.b .a head),(1,.b .a dA),(2,.b .a Ij),(5,.b .a aR),(6,.d src.aA),(7,.d dst.aA)]).J aj W=.ok (.d (Sx.mk head dA Ij false 0 aR src dst).aA) W:=
 kSx.bd W _ _ _ _ pG (auq W _ pG) (by
  show fD _ (#[aJ .a 0,.b .a 0,.b .a 0,.e false,.b .a 0,.b .a 0]++(nE.aA++nE.aA)) [(0,.b .a head),(1,.b .a dA),(2,.b .a Ij),(5,.b .a aR),(6,.d src.aA),(7,.d dst.aA)]=_;rw[oO 0 0 _ _ _ _ rfl rfl (by simp),oO 1 1 _ _ _ _ rfl rfl (by simp),oO 2 2 _ _ _ _ rfl rfl (by simp),oO 5 5 _ _ _ _ rfl rfl (by simp)];rw[Tq]
  ·simp[qW,bZ,Sx.aA]
  ·simp[rM,bZ,fE.I])
@[go_sem]theorem ay6(W:au)(head dA LZ aR:Int)(keep:Bool)(src dst:fE):(uJ 192 #[(0,.b .a head),(1,.b .a dA),(5,.e keep),(6,.b .a LZ),(7,.b .a aR),(8,.d src.aA),(9,.d dst.aA)]).J aj W=.ok (.d (Fo.mk head dA 0 0 false keep LZ aR src dst).aA) W:=
 kFo.bd W _ _ _ _ pF (aun W _ pF) (by
  show fD _ (#[aJ .a 0,.b .a 0,.b .a 0,.b .a 0,.e false,.e false,.b .a 0,.b .a 0]++(nE.aA++nE.aA)) [(0,.b .a head),(1,.b .a dA),(5,.e keep),(6,.b .a LZ),(7,.b .a aR),(8,.d src.aA),(9,.d dst.aA)]=_;rw[oO 0 0 _ _ _ _ rfl rfl (by simp),oO 1 1 _ _ _ _ rfl rfl (by simp),oO 5 5 _ _ _ _ rfl rfl (by simp),oO 6 6 _ _ _ _ rfl rfl (by simp),oO 7 7 _ _ _ _ rfl rfl (by simp)];rw[Tq]
  ·simp[qW,bZ,Fo.aA]
  ·simp[rM,bZ,fE.I])
section
attribute [local go_sem high] jc jK
theorem oW.mW{T:bF}{n:Nat}{z:Array aC}(K:oW T n z){W:au}{b:Nat}{c:Array aC}(h:dN W b c)(hc:c.j=n):(xK T (.c (some ⟨b,0,none⟩))).J aj W=.ok (.d c) W:=by
 have hs:eF c=n:=hc;rw[K.ld W b 0 (of_eq_true (h.M.2.2.1 0 n (by omega))),h.M.2.2.2 0 n (by omega)];simp[<-hc]
theorem dN.ahO{W:au}{b:Nat}{a:fE}(h:dN W b a.aA):(rH (.c (some ⟨b,0,none⟩))).J aj W=.ok (.d a.aA) W:=by
 have hs:eF a.aA=17:=fE.I a;rw[MO W b 0 (of_eq_true (h.M.2.2.1 0 17 (by omega))),h.M.2.2.2 0 17 (by omega)];simp[<-fE.I a]
theorem ajG{d s:Vector UInt8 6}{fK:List Tg}{ty:Int}(h:fK.a<=2):(qE d s fK ty).a<=1000:=by
 have h2:=Fa fK;unfold qE;simp only[aS,h2,nR];simp[qm];omega
theorem adT(x:Sx):(wM x).a=40:=by simp[wM]
theorem Bx.ow{L:List (Nat×Array aC)}{w W W':au}{B:Nat}{g:Option Nat}{v:aC}{bs:List UInt8}(h:Bx L w W)(k:Ow B g W v bs W')(hB:∀p∈L,p.1<B)(hw:w.a.j<=B):Bx L w W':=
 ⟨h.1.trans (k.S.g hw),fun p hp=>⟨(h.2 p hp).1,by obtain⟨t,ht⟩:=(h.2 p hp).2;exact⟨t,(k.S.block p.1 (hB p hp)).trans ht⟩⟩⟩
theorem Wh(x:Fo):(tO x).a=20:=by simp[tO,adK,Dv]
theorem KJ(W:au):fZ W W.a.j none 0 []:=Dq (Ly.nil (w:=W)).o (aH _ _)
end
section
attribute [local go_sem high] jc jK
theorem amZ(f:Nat):∀(x:Sx)(r:List UInt8),(yP f x r).1.dA=x.dA\/(yP f x r).1=qL:=by
 induction f with
 | zero=>intro x r;unfold yP;split;exact .a rfl;exact .b rfl
 | succ f ih=>
   intro x r;unfold yP;split
   ·exact .a rfl
   ·split
    ·exact .b rfl
    ·exact ih _ _
theorem adU(k:Int)(l:List UInt8):0<=(Ad k l).dA/\(Ad k l).dA<=l.a:=by
 unfold Ad;split
 ·unfold zZ
  split
  ·rename_i h1 h2
   have:=amG (l:=l) (by unfold zZ;rw[if_pos h2]);unfold zZ at this;rw[if_pos h2]at this;simp only at this ⊢;omega
  ·simp[xq]
 ·split
  ·unfold AU
   split
   ·simp[qL]
   ·split
    ·simp[qL]
    ·split
     ·simp[qL]
     ·rcases amZ 8 (sx0 l) ((l.d (40+fq l 4)).f 40)with h|h
      ·rw[h];show 0<=(40:Int)+fq l 4/\(40:Int)+fq l 4<=l.a;omega
      ·simp[h,qL]
  ·simp[sS]
def Sm(l:List UInt8):Tn:=if(mJ l).2≠0 then sS else Ad (mJ l).1.oG (l.f (mJ l).1.fG)
def Jy(l:List UInt8):List UInt8:=if(mJ l).2≠0 then []else(l.f (mJ l).1.fG).d (Sm l).dA.e
def ay7(W:au)(l:List UInt8)(e:lu)(W':au):Prop:=∃A c PA pn pc,e=.a (.K #[.d ((mJ l).1.cell A c).aA,.d (Sm l).aA,.a PA pn pc])/\iF Tg.aA 2 W' W'.a.j A (mJ l).1.fK.a (mJ l).1.fK/\fZ W' W'.a.j PA pn (Jy l)/\pn<=pc/\(pc<=9223372036854775807/\pn<=1000000)/\aM W.a.j W W'
theorem au0{l:List UInt8}(h:(mJ l).2≠0):(mJ l).1=ER:=by
 have go:∀(m k:Nat)(fK:List Tg),(C9 l m k fK).2≠0->(C9 l m k fK).1=ER:=by
  intro m
  induction m with
  | zero=>intro k fK h;unfold C9 at h⊢;split at h<;>first|(exact absurd rfl h)|(rename_i h1;simp_all)|rfl
  | succ m ih=>
    intro k fK;cases ht:tY (fq l (k-2):Nat)with
    | false=>rw[zQ ht];intro h;exact absurd rfl h
    | true=>
      by_cases h4:l.a<k+4
      ·rw[Cb ht h4];intro _;rfl
      ·rw[ET ht h4];exact ih _ _
 unfold mJ at h ⊢;split
 ·rfl
 ·rename_i h1;rw[if_neg h1]at h;exact go _ _ _ h
section
variable {fn:Func} {p q u:Tmp} {T U:bF} {b1 b2 n m:Nat} {z y c d:Array aC} {W:au}
theorem ahP(K:oW T n z)(K2:oW U m y)(h:fn.results = #[.cell p T,.cell q U,.a u])(tmps:Array aC)(hp:tmps.c p undef=.c (some ⟨b1,0,none⟩))(hq:tmps.c q undef=.c (some ⟨b2,0,none⟩))(hb:dN W b1 c)(hc:c.j=n)(hd:dN W b2 d)(hdc:d.j=m):(results fn tmps).J aj W=.ok (.K #[.d c,.d d,tmps.c u undef]) W:=by
 have l1:=K.mW hb hc;have l2:=K2.mW hd hdc;unfold xK at l1 l2;simp only[cZ,Instr.sureAddr,jM,oD,Result.andThen_ok]at l1 l2;rw[Array.getD_eq_getD_getElem?]at hp hq;simp[results,h,hp,hq,asAddr,iI,l1,l2]
end
theorem iF.ay8{α:Type}{f:α->Array aC}{s:Nat}{w w':au}{B B':Nat}{A:Option aU}(h:iF f s w B A 0 []):iF f s w' B' A 0 []:=
 ⟨rfl,⟨by simp,fun h=>absurd h (by omega)⟩,fun a _ h=>absurd h (by omega)⟩
theorem Wi{l:List UInt8}:∀(m k:Nat)(fK:List Tg),(∀t∈fK,tY t.oG=true)->(∀t∈(C9 l m k fK).1.fK,tY t.oG=true)
 | 0,k,fK,h=>by
   cases ht:tY (fq l (k-2):Nat)with
   | false=>rw[zQ ht];exact h
   | true=>rw[Kh ht];exact fun t ht=>by simp[ER]at ht
 | m+1,k,fK,h=>by
   cases ht:tY (fq l (k-2):Nat)with
   | false=>rw[zQ ht];exact h
   | true=>
     by_cases h4:l.a<k+4
     ·rw[Cb ht h4];exact fun t ht=>by simp[ER]at ht
     ·rw[ET ht h4]
      refine Wi m (k+4) _ (fun t h2=>?_);rcases qy.1 h2 with h2|h2
      ·exact h t h2
      ·rw[fT.1 h2];exact ht
theorem Qd(l:List UInt8):∀t∈(mJ l).1.fK,tY t.oG=true:=by
 unfold mJ;split
 ·exact fun t ht=>by simp[ER]at ht
 ·exact Wi 2 14 [] (fun t ht=>by cases ht)
def am0(c:Array aC):Bool:=c.all fun v=>match v with | .b .a z=>decide (z=0)|_=>true
theorem ajH{c:Array aC}(h:am0 c=true){j:Nat}{t:Int}(ht:t≠0):c[j]?≠some (.b .a t):=fun e=>by
 have:=Array.all_eq_true_iff_forall_mem.1 h _ (Array.mem_of_getElem? e);simp at this;exact ht this
theorem iF.apart{w:au}{B b n:Nat}{A:Option aU}{l:List Tg}{c:Array aC}(h:iF Tg.aA 2 w B A n l)(hi:∀t∈l,tY t.oG=true)(hb:dN w b c)(hc:am0 c=true)(hn:0<n):∀a,A=some a->b≠a.block:=by
 intro a ha e;obtain⟨b',o,hA,_,hcell⟩:=h.cell Tg.I Sj hn;rw[hA]at ha;injection ha with ha
 subst ha;simp only at e;subst e;have h1:=hcell 0 (by omega);rw[hb.M.1,Tg.Eb]at h1;have ht:=hi _ (Eu Sj l 0 (by rw[h.1];exact hn));refine ajH hc ?_ h1;intro e0;rw[e0]at ht;cases ht
theorem iF.asx{α:Type}{f:α->Array aC}{s:Nat}{B b n:Nat}{A:Option aU}{l:List α}(hp:∀a,A=some a->b≠a.block)(x:Array aC):∀(o:Nat) {w:au},iF f s w B A n l->iF f s (gZ w b o x) B A n l:=by
 have:∀(vs:List aC)(o:Nat)(w:au),iF f s w B A n l->iF f s (w.setCells b o vs) B A n l:=by
  intro vs
  induction vs with
  | nil=>exact fun _ _ h=>h
  | cons v vs ih=>intro o w h;exact ih (o+1) _ (h.aCz v (fun a ha=>hp a ha))
 exact fun o w h=>this _ _ _ h
theorem ajI(w:au)(A:Option aU)(n c:Nat)(l:List UInt8)(hnc:n<=c)(hc:c<=9223372036854775807/\n<=1000000)(hr:fZ w w.a.j A n l):aQ aj 99 #[.a A n c] w (ay7 w l):=by
 have HR:=ah hr;have hl:=ah hr.len;have h0:=((Bx.start w).new qQ.aA 108).new sS.aA 179;simp only[tq]at h0;have Z0:=ah h0;have CL:=ah (NV _ A n c l hnc (by omega) (h0.Mf hr));clear h0 hr;go_enter Tryz.func99,Tryz.ntmps99;obtain⟨r,hrr⟩:=dw (mJ l);have HRR:=ah hrr;obtain⟨k,er⟩:=r;unfold LkP at CL;rw[<-hrr]at CL;clear hrr;go_upto_region 1 with fail
 generalize(w.alloc (.D qQ.aA 108)).alloc (.D sS.aA 179)=w0 at Z0 CL ⊢;go_upto_region 2 with(go_at_call 91;(with_reducible refine CL.i.g ?_);rintro e w1 ⟨TA,tc,rfl,hT,hb1⟩;have Z1:=ah ((Z0.i.go hb1).new (k.cell TA tc).aA 108);have HW:=ah (Z0.i.go hb1).X.lt;have RT:=ah (hT.alloc (ay _) (.D (k.cell TA tc).aA 108));clear hb1 hT)
 have HW2:=ah (show w1.a.j<=(w1.alloc (.D (k.cell TA tc).aA 108)).a.j by simp);generalize w1.alloc (.D (k.cell TA tc).aA 108)=w2 at Z1 RT HW2 ⊢;generalize w1.a.j=y5 at Z1 RT HW HW2 ⊢;have YL:=HW2;have MF:=ah (show∀r∈[(w.a.j+1,sS.aA),(w.a.j,qQ.aA)],r.1≠y5 from fun r hr=>by
  have:=HW.i;simp only[bE,fO,or_false]at hr;rcases hr with rfl|rfl<;>simp only[]<;>omega)
 by_cases h1:er≠0
 ·have q:(er != 0)=true:=by simp[h1]
  have HTN:=ah (show Sm l=sS by unfold Sm;rw[<-HRR.i,if_pos h1]);have HPK:=ah (show Jy l=[]by unfold Jy;rw[<-HRR.i,if_pos h1]);have l5:=kLc.mW Z1.i.X (Lc.I _);have Z2:=ah (Z1.i.sub (L':=[(w.a.j,qQ.aA),(y5,(k.cell TA tc).aA),(w.a.j+1,sS.aA)]) (by simp));have Z3:=ah (Z2.i.put (fun r hr=>by
   have:=HW.i;simp only[bE,fO,or_false]at hr;rcases hr with rfl|rfl<;>simp only[]<;>omega) (k.cell TA tc).aA (by rw[Lc.I,Lc.I]))
  have au1:=Z2.i.X.O 0 15 (aY (Lc.I qQ).symm);have au2:=Z3.i.b2.O 0 5 (aY (Tn.I sS).symm);have Z4:=ah ((Z3.i.sub (L':=[(w.a.j+1,sS.aA),(w.a.j,(k.cell TA tc).aA)]) (by simp)).put (fun r hr=>by
   simp only[bE,fO,or_false]at hr;rcases hr with rfl<;>simp only[]<;>omega) sS.aA rfl)
  go_wp2;refine aO (ahP kLc kTn rfl _ rfl rfl Z4.i.b1 (Lc.I _) Z4.i.X (Tn.I _)) rfl ?_;have RT2:=RT.i;refine⟨TA,tc,none,0,0,by rw[HTN.i,<-HRR.i];rfl,?_,by rw[HPK.i];exact KJ _,ay _,by omega,Z4.i.R⟩;have hk0:k=ER:=by have:=au0 (l:=l) (by rw[<-HRR.i];exact h1);rw[<-HRR.i]at this;exact this
  rw[<-HRR.i];subst hk0;exact iF.ay8 RT2
 obtain rfl:er=0:=by simpa using h1
 have q00:((0:Int) != 0)=false:=rfl;obtain⟨uN,adI⟩:=af5 (l:=l) (by rw[<-HRR.i]);rw[<-HRR.i]at uN adI;rw[hl.i]at adI;simp only at uN adI;have i1:(k.fG:Int)<=n:=by omega
 have F8:=ah (fun(w':au) (h:Bx [(y5,(k.cell TA tc).aA),(w.a.j+1,sS.aA),(w.a.j,qQ.aA)] w w')=>show w'.b ⟨y5,13,none⟩=some (.b .a k.oG)/\w'.b ⟨y5,14,none⟩=some (.b .a (k.fG:Nat))from⟨(h.X.M.1 13).trans (Lc.Eb _),(h.X.M.1 14).trans (Lc.Ma _)⟩);have CN:=ah (fun(w':au) (h:Bx [(y5,(k.cell TA tc).aA),(w.a.j+1,sS.aA),(w.a.j,qQ.aA)] w w')=>aga w' k.oG (vI A k.fG c 1) (n-k.fG) (c-k.fG) (l.f k.fG) (by omega) (by omega) ((h.Mf HR.i).yN (by omega) hnc));have HTN:=ah (show Sm l=Ad k.oG (l.f k.fG)by unfold Sm;rw[<-HRR.i,if_neg (by simp)]);have HPK:=ah (show Jy l=(l.f k.fG).d (Sm l).dA.e by unfold Jy;rw[<-HRR.i,if_neg (by simp)]);have HTO:=ah (adU k.oG (l.f k.fG));obtain⟨g,hg⟩:=dw (Ad k.oG (l.f k.fG));have HG:=ah hg;rw[<-hg]at CN HTN HTO;clear hg;rw[HTN.i]at HPK;go_upto_region 4 with fail
 refine P5 (VK (Bx.abg ([(y5,(k.cell TA tc).aA),(w.a.j+1,sS.aA),(w.a.j,qQ.aA)]) w) w2) 7 8 7 179 sS.aA (by kernel_rfl) rfl (by kernel_rfl) (by decide) (by decide) (by kernel_rfl) (by kernel_rfl) (by kernel_rfl) rfl rfl rfl (fun a w=>by simp[go_sem]) ⟨Z1.i.drew,(aH w2.a.j w2).drew⟩ ?_;apply rO;refine⟨fun T f hT es ew=>?_,?_⟩
 ·have EW:=ah ew
  have ES:=ah es;have k1:=fun m=>(F8.i _ (ES.i m).1).1
  have k2:=fun m=>(F8.i _ (ES.i m).1).2
  have CF:=ah (fun m=>CN.i _ (ES.i m).1);clear es ew;simp only[kV,bI,bM,jP,jZ]
  repeat(go_big_quiet_step ((first|(go_at_call 101;(with_reducible refine(CF.i _).g ?_);rintro e w2 ⟨rfl,hb⟩;exact⟨rfl,EW.i _ _ hb⟩))))
  exact gN rfl
 ·intro w9 w8 zT _ hb
  have BN:=(zT.2.alloc zT.2.j (.D sS.aA 179)).trans (hb.g (by simp;exact kP zT.2.j));have aD8:=zT.2.j
  replace zT:=zT.1
  have ZN:=(zT.new sS.aA 179).go hb;have hy:=zT.R.j;have HYW:=BN.j;have BN:=ah BN;have ZN:=ah ZN;have yO:=ZN.i.X.O 0 5 (aY (Tn.I sS).symm);have hyy:y5<w9.a.j:=zT.X.lt;generalize w9.a.j=y7 at *;have Z8:=ah (ZN.i.put (fun r hr=>by
   have:=HW.i;simp only[bE,fO,or_false]at hr;rcases hr with rfl|rfl|rfl<;>simp only[]<;>omega) g.aA (by rw[Tn.I,Tn.I]))
  have B8:=ah (lg BN.i y7 0 g.aA aD8);go_upto_region 5 with fail
  clear yO ZN;generalize gZ w8 y7 0 g.aA=w10 at Z8 B8 ⊢;obtain⟨T0,hT0⟩:∃T:Nat,g.dA=T:=⟨g.dA.e,by have:=HTO.i;omega⟩
  have hT1:T0+k.fG<=n:=by have:=HTO.i.2;rw[jG,hl.i]at this;omega
  have HTT:=ah hT0;obtain⟨m0,hm0⟩:∃m:Nat,m=k.fG+T0:=⟨_,rfl⟩
  have q1:=jV ((k.fG:Int)+T0) (by omega);have q2:(k.fG:Int)+T0=m0:=by omega
  rw[q2]at q1;have q3:(k.fG:Int)<=m0:=by omega
  have q4:(m0:Int)<=c:=by omega
  have HM:=ah hm0;have HMN:=ah (show m0<=n by omega);have F9:=ah (fun(w':au) (h:Bx [(y7,g.aA),(y5,(k.cell TA tc).aA)] w w')=>show(xK 108 (.c (some ⟨y5,0,none⟩))).J aj w'=.ok (.d (k.cell TA tc).aA) w'/\(xK 179 (.c (some ⟨y7,0,none⟩))).J aj w'=.ok (.d g.aA) w'/\w'.b ⟨y5,14,none⟩=some (.b .a (k.fG:Nat))/\w'.b ⟨y7,1,none⟩=some (.b .a (T0:Nat))from⟨kLc.mW h.b1 (Lc.I _),kTn.mW h.X (Tn.I _),(h.b1.M.1 14).trans (Lc.Ma _),(h.X.M.1 1).trans ((Tn.yw g).trans (by rw[HTT.i]))⟩);clear hT0 hm0 hT1;have ZA:=ah Z8.i.drew;have WB:=ah B8.i.drew;have Z2:=ah (ZA.i.sub (L':=[(w.a.j,qQ.aA),(w.a.j+1,sS.aA),(y7,g.aA),(y5,(k.cell TA tc).aA)]) (by simp));have aKh:w.a.j+1<y5:=HW.i;have Z3:=ah (Z2.i.put (fun r hr=>by
   simp only[bE,fO,or_false]at hr;rcases hr with rfl|rfl|rfl<;>simp only[]<;>omega) (k.cell TA tc).aA (by rw[Lc.I,Lc.I]))
  have au1:=Z2.i.X.O 0 15 (aY (Lc.I qQ).symm);have au2:=Z3.i.b1.O 0 5 (aY (Tn.I sS).symm);have Z4:=ah ((Z3.i.sub (L':=[(w.a.j+1,sS.aA),(w.a.j,(k.cell TA tc).aA),(y7,g.aA),(y5,(k.cell TA tc).aA)]) (by simp)).put (fun r hr=>by
   simp only[bE,fO,or_false]at hr;rcases hr with rfl|rfl|rfl<;>simp only[]<;>omega) g.aA (by rw[Tn.I,Tn.I]))
  obtain⟨k1,k2,k3,k4⟩:=F9.i _ (ZA.i.sub (by simp));obtain⟨k5,k6,k7,k8⟩:=F9.i _ (Z3.i.sub (by simp));obtain⟨k9,k10,k11,k12⟩:=F9.i _ (Z4.i.sub (by simp));go_region;go_wp2;refine aO (ahP kLc kTn rfl _ rfl rfl Z4.i.b1 (Lc.I _) Z4.i.X (Tn.I _)) rfl ?_;have hHN:=HMN.i;have RF:=ah (show fZ (gZ (gZ w10.drew w.a.j 0 (k.cell TA tc).aA) (w.a.j+1) 0 g.aA) (gZ (gZ w10.drew w.a.j 0 (k.cell TA tc).aA) (w.a.j+1) 0 g.aA).a.j (vI A k.fG c 1) (m0-k.fG) (Jy l)by
   have:=(Z4.i.Mf HR.i).adz (z:=k.fG) (b:=m0) (c:=c) (by omega) hHN hnc;have e2:(l.d m0).f k.fG=Jy l:=by rw[HPK.i,HTT.i,dW,List.drop_take,HM.i,Nat.add_sub_cancel_left]
   rwa [e2]at this)
  have TF:=ah (show iF Tg.aA 2 (gZ (gZ w10.drew w.a.j 0 (k.cell TA tc).aA) (w.a.j+1) 0 g.aA) (gZ (gZ w10.drew w.a.j 0 (k.cell TA tc).aA) (w.a.j+1) 0 g.aA).a.j TA k.fK.a k.fK by
   have h1:iF Tg.aA 2 w10.drew y5 TA k.fK.a k.fK:=RT.i.S (WB.i.g YL.i);have hI:=Qd l;rw[<-HRR.i]at hI;by_cases h0:k.fK.a=0
   ·have e0:k.fK=[]:=bG h0
    rw[e0]at h1 ⊢;exact iF.ay8 h1
   ·have p1:=h1.apart hI ZA.i.b3 (by kernel_rfl) (by omega)
    have p2:=h1.apart hI ZA.i.b2 (by kernel_rfl) (by omega);exact(iF.asx p2 _ 0 (iF.asx p1 _ 0 h1)).lH (aP (mQ hyy) (mQ (Z4.i.b2).lt)))
  refine⟨TA,tc,vI A k.fG c 1,m0-k.fG,c-k.fG,by rw[HTN.i,<-HRR.i];rfl,?_,RF.i,by omega,by omega,Z4.i.R⟩;rw[<-HRR.i];exact TF.i
end
section
attribute [local go_sem high] jc jK
theorem ay'(a c:Nat)(ha:a<256)(hc:c<256):bits .or .a ((a:Int)*256) (c:Int)=((a*256+c:Nat):Int):=by
 have h1:gD 64 ((a:Int)*256)=Ia 64 (a*256):=by rw[show((a:Int)*256)=((a*256:Nat):Int)by omega];exact mh _ _
 have h2:gD 64 (c:Int)=Ia 64 c:=mh _ _;show bU.wrap ((gD 64 ((a:Int)*256) ||| gD 64 (c:Int)).e:Int)=_;rw[h1,h2,BitVec.toNat_or,nK,nK,fP (by omega),fP (by omega),show a*256=a <<< 8 by rw[mO],<-Nat.shiftLeft_add_eq_or_of_lt (by omega)];rw[mO];simp[vK,nY,lZ];omega
theorem aqm:lD 5 = #[0,1,2,3,4]:=by apply o9;rw[j5];rfl
@[go_sem]theorem asz(w:au)(a b c d e:Int):(LW 5 #[(0,.b .a a),(1,.b .a b),(2,.b .a c),(3,.b .a d),(4,.b .a e)]).J aj w=.ok (.a (some ⟨w.a.j,0,none⟩) 5 5) (w.alloc (.D (sK [a,b,c,d,e]) 3)):=by
 obtain⟨i0,hi0,hz0,hz1⟩:=Tm;simp[LW,bK,dJ oC,zeroValue,sizeOf,typeInfo,hi0,hz0,hz1,fD,newRow,sK,bZ,aqm]
def ahQ(x:Fo):List Nat:=[x.dA.e,x.id.e,if x.keep then 16384 else 0,x.LZ.e*256+x.aR.e,0]
def Hy(l:List Nat):List Int:=l.map (fun n:Nat=>(n:Int))
theorem ajK(l:List Nat)(j:Nat)(hj:j<l.a):(sK (Hy l))[j]? = some (.b .a ((l.c j 0:Nat):Int)):=by
 have:=YI (Hy l) j (by simpa[Hy]using hj);rw[bl]at this;rw[this];simp[Hy,av,hj]
theorem fZ.upN{w:au}{B n k:Nat}{A:Option aU}{l:List UInt8}(h:fZ w B A n l)(hk:k<=n):fZ w B A k (l.d k):=by
 have:=Rd.upto h hk
 rwa [gL,<-Ap]at this
theorem abt{l:List UInt8}{k:Nat}{a b:UInt8}(h:k+2<=l.a):sj l k [a,b]=(l.set k a).set (k+1) b:=by
 apply iN;intro i;unfold sj;simp only[dF,kR,bL,jv,jq,fI,aW,bD,gQ];by_cases h1:i<k
 ·simp[h1,show¬k+1=i by omega,show¬k=i by omega,show i<min k l.a by omega]
 ·by_cases h2:i=k
  ·subst h2
   simp[show i<l.a by omega,show min i l.a=i by omega]
  ·by_cases h3:i=k+1
   ·subst h3
    simp[show k+1<l.a by omega,show min k l.a=k by omega,show¬k+1<k by omega]
   ·have e1:min k l.a=k:=by omega
    have e2:k+2+(i-k-2)=i:=by omega
    simp[show¬k+1=i by omega,show¬k=i by omega,e1,h1,show¬i-k<2 by omega,e2]
theorem am1(x:Fo)(h1:x.LZ.e<256)(h2:x.aR.e<256):Dv x=[69,aK x.OL.e]++(ahQ x).h (fun n:Nat=>qm (n:Int))++x.h.b.a.d 4++x.Y.b.a.d 4:=by
 unfold Dv ahQ;have e1:(x.LZ.e*256+x.aR.e)/256=x.LZ.e:=by omega
 have e2:(x.LZ.e*256+x.aR.e)%256=x.aR.e:=by omega
 cases x.keep<;>simp[qm,e1,e2]
theorem QT(x:Fo)(hh:x.head=20)(s0:0<=x.OL)(s1:x.OL<=255)(t0:20<=x.dA)(t1:x.dA<=65535)(i0:0<=x.id)(i1:x.id<=65535)(l0:0<=x.LZ)(l1:x.LZ<=255)(p0:0<=x.aR)(p1:x.aR<=255)(hf:x.oN=false)(hs:(!x.h.h&&x.h.mU)=true)(hd:(!x.Y.h&&x.Y.mU)=true)(w:au):aQ aj 271 #[.d x.aA] w (adM w (tO x)):=by
 have Z:=ah ((Bx.start w).new x.aA 192);have FA:=ah (fun(w':au) (h:dN w' w.a.j x.aA)=>show w'.b ⟨w.a.j,0,none⟩=some (.b .a 20)/\w'.b ⟨w.a.j,1,none⟩=some (.b .a x.dA)/\w'.b ⟨w.a.j,2,none⟩=some (.b .a x.OL)/\w'.b ⟨w.a.j,3,none⟩=some (.b .a x.id)/\w'.b ⟨w.a.j,4,none⟩=some (.e false)/\w'.b ⟨w.a.j,5,none⟩=some (.e x.keep)/\w'.b ⟨w.a.j,6,none⟩=some (.b .a x.LZ)/\w'.b ⟨w.a.j,7,none⟩=some (.b .a x.aR)/\(rH (.c (some ⟨w.a.j,8,none⟩))).J aj w'=.ok (.d x.h.aA) w'/\(rH (.c (some ⟨w.a.j,25,none⟩))).J aj w'=.ok (.d x.Y.aA) w' by
  have f:=h.M.1;have hz:x.aA.j=42:=Fo.I x;refine⟨(f 0).trans ((Fo.Ke x).trans (by rw[hh])),(f 1).trans (Fo.yw x),(f 2).trans (Fo.auk x),(f 3).trans (Fo.ayp x),(f 4).trans ((Fo.TJ x).trans (by rw[hf])),(f 5).trans (Fo.aa4 x),(f 6).trans (Fo.aul x),(f 7).trans (Fo.BZ x),?_,?_⟩
  ·rw[MO w' w.a.j 8 (of_eq_true (h.M.2.2.1 8 17 (by unfold eF;omega))),h.M.2.2.2 8 17 (by unfold eF;omega),Fo.Jj]
  ·rw[MO w' w.a.j 25 (of_eq_true (h.M.2.2.1 25 17 (by unfold eF;omega))),h.M.2.2.2 25 17 (by unfold eF;omega),Fo.Jk])
 have CI:=ah (fun k m W (h:0<=k/\k<=m)=>show aQ aj 316 #[.b .a k,.b .a m] W (fun e W'=>e=.a (.e true)/\aM W.a.j W W')by
  have:=af0 k m W;rwa [decide_eq_true h.1,decide_eq_true h.2]at this)
 have C1:=ah (fun W=>CI.i x.dA 65535 W ⟨by omega,t1⟩);have C2:=ah (fun W=>CI.i x.OL 255 W ⟨s0,s1⟩);have C3:=ah (fun W=>CI.i x.LZ 255 W ⟨l0,l1⟩);have C4:=ah (fun W=>CI.i x.aR 255 W ⟨p0,p1⟩);have C5:=ah (fun W=>CI.i x.id 65535 W ⟨i0,i1⟩);have C6:=ah (fun W=>by have:=VE x.h W;rwa [hs]at this:∀W,aQ aj 317 #[.d x.h.aA] W fun e W'=>e=.a (.e true)/\aM W.a.j W W');have C7:=ah (fun W=>by have:=VE x.Y W;rwa [hd]at this:∀W,aQ aj 317 #[.d x.Y.aA] W fun e W'=>e=.a (.e true)/\aM W.a.j W W');have q1:decide (x.dA<20)=false:=by simp;omega
 have HF:=ah (am1 x (by omega) (by omega));clear hh hf hs hd;go_enter Tryz.func271,Tryz.ntmps271;go_upto_region 1 with fail
 generalize w.alloc (.D x.aA 192)=w1 at *;obtain⟨f0,f1,f2,f3,f4,f5,f6,f7,f8,f9⟩:=FA.i _ Z.i.X;go_upto_region 3 with(first|(go_at_call 316;(first|(with_reducible refine(C1.i _).g ?_)|(with_reducible refine(C2.i _).g ?_)|(with_reducible refine(C3.i _).g ?_)|(with_reducible refine(C4.i _).g ?_)|(with_reducible refine(C5.i _).g ?_));rintro e w5 ⟨rfl,hb⟩;have ZN:=ah (Z.i.go hb);clear f0 f1 f2 f3 f4 f5 f6 f7 f8 f9;obtain⟨f0,f1,f2,f3,f4,f5,f6,f7,f8,f9⟩:=FA.i _ ZN.i.X;clear hb Z;have Z:=ZN;clear ZN)|(go_at_call 317;(first|(with_reducible refine(C6.i _).g ?_)|(with_reducible refine(C7.i _).g ?_));rintro e w5 ⟨rfl,hb⟩;have ZN:=ah (Z.i.go hb);clear f0 f1 f2 f3 f4 f5 f6 f7 f8 f9;obtain⟨f0,f1,f2,f3,f4,f5,f6,f7,f8,f9⟩:=FA.i _ ZN.i.X;clear hb Z;have Z:=ZN;clear ZN))
 clear f0 f1 f2 f3 f4 f5 f6 f7 f8 f9 C1 C2 C3 C4 C5 C6 C7 CI q1;obtain⟨tt,htt⟩:∃n:Nat,x.dA=(n:Int):=⟨x.dA.e,by omega⟩
 obtain⟨ti,hti⟩:∃n:Nat,x.id=(n:Int):=⟨x.id.e,by omega⟩
 obtain⟨tl,htl⟩:∃n:Nat,x.LZ=(n:Int):=⟨x.LZ.e,by omega⟩
 obtain⟨tp,htp⟩:∃n:Nat,x.aR=(n:Int):=⟨x.aR.e,by omega⟩
 obtain⟨kb,hkb⟩:∃n:Nat,n=if x.keep then 16384 else 0:=⟨_,rfl⟩
 have hkb2:kb<=16384:=by rw[hkb];split<;>omega
 have HNS:=ah (show ahQ x=[tt,ti,kb,tl*256+tp,0]by unfold ahQ;rw[htt,hti,htl,htp,<-hkb];rfl);rw[HNS.i]at HF;have f:=FA.i _ Z.i.X;rw[htt,hti,htl,htp]at f;obtain⟨f0,f1,f2,f3,f4,f5,f6,f7,f8,f9⟩:=f;have q2:=ay' tl tp (by omega) (by omega);have q3:aX.wrap x.OL=x.OL:=by rw[Ic];omega
 have HX1:=ah htt;have HX2:=ah hti;have HX3:=ah htl;have HX4:=ah htp;have B1:tt<=65535:=by omega
 have B2:ti<=65535:=by omega
 have B3:tl*256+tp<=65535:=by omega
 have B4:tl<=255:=by omega
 have B5:tp<=255:=by omega
 have HFA:=FA;have HKB:=ah hkb;clear htt hti htl htp i0 i1 l0 l1 p0 p1 t0 t1 HNS FA;cases hk:x.keep
 all_goals
  rw[hk]at f5;have HK:=ah hk;go_upto_region 6 with fail
  clear hk hkb;have L0:=ah ((Ly.amQ w w5 Z.i.R #[.b .b 69,.b .b x.OL] [69,aK x.OL.e] 2 rfl (by omega) (by
   simp only[kK,pU,bv];rw[yX x.OL.e (by omega),lJ s0];rfl)).add (q:=w.a.j) (c:=x.aA) (Z.i.X.alloc _) (by simp[jJ];exact uD Z.i.X.lt))
  go_upto_region 7 with fail
  clear f0 f1 f2 f3 f4 f5 f6 f7 f8 f9;generalize w5.alloc (.D #[.b .b 69,.b .b x.OL] 5)=w6 at L0 ⊢;generalize bC (some ⟨w5.a.j,0,none⟩) 2 2=v6 at L0 ⊢;have f:=HFA.i _ L0.i.X;obtain⟨kv,hkv⟩:∃kv:Nat,kb=kv:=⟨_,rfl⟩
  have hkk:kb=(if x.keep then 16384 else 0):=HKB.i;rw[HK.i]at hkk;simp only[if_true,if_false,jr]at hkk;subst hkk;obtain⟨_,f1,_,f3,_,_,f6,f7,_,_⟩:=f;rw[HX1.i]at f1;rw[HX2.i]at f3;rw[HX3.i]at f6;rw[HX4.i]at f7;clear hkv kv;go_upto_region 8 with fail
  clear f1 f3 f6 f7 q2
  first
  | (have L1:=ah (L0.i.new (sK (Hy [tt,ti,16384,tl*256+tp,0])) 3)
     have HIN:=ah (show Hy [tt,ti,16384,tl*256+tp,0]=[(tt:Int),ti,16384,(tl:Int)*256+tp,0]by simp[Hy]);rw[<-HIN.i];clear HIN;generalize hns:([tt,ti,16384,tl*256+tp,0]:List Nat)=ns at L1 HF⊢)
  | (have L1:=ah (L0.i.new (sK (Hy [tt,ti,0,tl*256+tp,0])) 3)
     have HIN:=ah (show Hy [tt,ti,0,tl*256+tp,0]=[(tt:Int),ti,0,(tl:Int)*256+tp,0]by simp[Hy]);rw[<-HIN.i];clear HIN;generalize hns:([tt,ti,0,tl*256+tp,0]:List Nat)=ns at L1 HF⊢)
  have HNL:=ah (show ns.a=5 by rw[<-hns];rfl);have HNB:=ah (show∀z∈ns,z<=65535 by
   rw[<-hns];intro z hz;simp only[bE,fO,or_false]at hz;omega)
  clear hns hkb2 B1 B2 B3 B4 B5;obtain⟨A0,c0,hv⟩:=L1.i.o.Cy;have hv2:v6=.a A0 2 c0:=hv;clear hv;subst hv2;have hy7:=L0.i.X.lt;generalize w6.alloc (.D (sK (Hy ns)) 3)=w7 at L1 ⊢;generalize w6.a.j=y7 at L1 hy7 ⊢;have auL:∀i:Nat,((ns.d i).h (fun n:Nat=>qm (n:Int))).a<=10:=by
   have h1:∀l:List Nat,(l.h (fun n:Nat=>qm (n:Int))).a=2*l.a:=by
    intro l
    induction l with
    | nil=>rfl
    | cons a l ih=>rw[iO,aS,ih];simp[qm];omega
   intro i;rw[h1,bL];have:=HNL.i;omega
  have HLT:=ah auL;clear auL;obtain⟨b0,hb0⟩:∃l:List UInt8,l=[69,aK x.OL.e]:=⟨_,rfl⟩
  have HB0:=ah (show b0.a=2 by rw[hb0];rfl);rw[<-hb0]at L1 HF;clear hb0;go_loopw [5,81] (fun s5 s81 wr=>∃(i:Nat)(A:Option aU)(m c:Nat),i<=5/\s81=.b .a i/\s5=.a A m c/\Ly w.a.j [(y7,sK (Hy ns)),(w.a.j,x.aA)] w wr (.a A m c) (b0++(ns.d i).h (fun n:Nat=>qm (n:Int)))) (fun _ s81 _=>5-(intOf s81).e)
  case atStart=>exact⟨0,_,_,_,by omega,rfl,rfl,by rw[jZ,List.flatMap_nil,uI];exact L1.i⟩
  case round=>
   obtain⟨i,A,m,c,hin,rfl,rfl,h⟩:=hrel;have HO:=ah h;clear h;have HL1:=ah (show(b0++(ns.d i).h (fun n:Nat=>qm (n:Int))).a<=12 by rw[aS];have:=HLT.i i;have:=HB0.i;omega);by_cases hlt:i<5
   ·have hi:(i:Int)<5:=by omega
    have hi0:(0:Int)<=i:=by omega
    have e1:=(HO.i.X.M.1 i).trans (ajK ns i (by rw[HNL.i];exact hlt));have DV:=ah (adN (fun n:Nat=>qm (n:Int)) 0 ns i (by rw[HNL.i];exact hlt));have hz:=HNB.i _ (Eu 0 ns i (by rw[HNL.i];exact hlt));obtain⟨z,hzz⟩:=dw (ns.c i 0);rw[<-hzz]at e1 DV hz;clear hzz;have cs:jB.wrap (z:Int)=(z:Int):=by rw[jT];omega
    have PS:=ah (fun W=>wD z hz W);rw[uW z hz]at PS;have HLN:=ah (show(b0++(ns.d i).h (fun n:Nat=>qm (n:Int))).a+2<=1000000000 by have:=HL1.i;omega);go_wp2_with (first|(go_at_call 184;(with_reducible refine(PS.i _).g ?_);rintro e w8 ⟨A8,rfl,ho,hb⟩;have R8:=ah (Dq ho (aH _ _));have L4:=ah (HO.i.go hb);clear ho hb)|(at_builtin;refine kC rfl (.a 85) (.a 88) rfl rfl L4.i.o rfl R8.i HLN.i ?_;intro A9 n9 c9 w9 h2 h3;have L5:=ah (L4.i.step h3);clear h2 h3));go_roundw
    case rel=>exact⟨i+1,A9,n9,c9,by omega,by go_num,rfl,by rw[DV.i,<-dF];exact L5.i⟩
    case measure=>simp[intOf]<;>omega
   ·obtain rfl:i=5:=by omega
    have HFU:=ah (show ns.d 5=ns from aL (by rw[HNL.i];omega));rw[HFU.i]at HO HL1;obtain⟨b1,hb1⟩:∃l:List UInt8,l=b0++ns.h (fun n:Nat=>qm (n:Int)):=⟨_,rfl⟩
    have HB1:=ah (show b1.a=12 by
     rw[hb1,aS,HB0.i];have h1:∀l:List Nat,(l.h (fun n:Nat=>qm (n:Int))).a=2*l.a:=by
      intro l
      induction l with
      | nil=>rfl
      | cons a l ih=>rw[iO,aS,ih];simp[qm];omega
     rw[h1,HNL.i])
    rw[<-hb1]at HO HF;clear hb1 HFU HL1 hin hlt;have LY:=ah (show Ly w.a.j [(w.a.j,x.aA)] w wr (.a A m c) b1 from HO.i.Vu);have RS:=ah (fun(w':au) (h:dN w' w.a.j x.aA)=>show fZ w' w'.a.j (some ⟨w.a.j,9,none⟩) 4 (x.h.b.a.d 4)from(Mq (o:=8) h x.h (Fo.Jj x)).upN (by omega));have RD:=ah (fun(w':au) (h:dN w' w.a.j x.aA)=>show fZ w' w'.a.j (some ⟨w.a.j,26,none⟩) 4 (x.Y.b.a.d 4)from(Mq (o:=25) h x.Y (Fo.Jk x)).upN (by omega));have LD:=ah LY.i.drew;have RSd:=ah (RS.i _ LD.i.X);obtain⟨A',c',hv⟩:=LD.i.o.Cy;have hm:m=b1.a:=by injection hv
    rw[HB1.i]at hm;subst hm;clear hv A' c';have LN1:=ah (show b1.a+4<=1000000000 by rw[HB1.i];decide);have LN2:=ah (show(b1++x.h.b.a.d 4).a+4<=1000000000 by rw[aS,bL,HB1.i];omega);go_wp2_with fail;go_region_held_law (fun _=>True) (trivial)
     (first
     | (refine Nw (o:=⟨some 95,_,_,_,_,_⟩) rfl (.a 91) (.a 94) rfl (.a A 12 c) (some ⟨w.a.j,9,none⟩) 4 16 rfl LD.i.o rfl RSd.i LN1.i ?_;intro A6 n6 c6 w6 h8 h9;have L6:=ah (LD.i.step h9);have RDd:=ah (RD.i _ L6.i.X);clear h8 h9)
     | (refine Nw (o:=⟨some 99,_,_,_,_,_⟩) rfl (.a 95) (.a 98) rfl (.a A6 n6 c6) (some ⟨w.a.j,26,none⟩) 4 16 rfl L6.i.o rfl RDd.i LN2.i ?_;intro A7 n7 c7 w7 h8 h9;have L7:=ah (L6.i.step h9);clear h8 h9))
    go_wp2_with fail;rw[<-HF.i]at L7;have HFL:=ah (show(Dv x).a=20 by simp[Dv]);have HPF:=ah (show tO x=sj (Dv x) 10 (qm (wX (Dv x):Nat))by
     unfold tO adK qm;rw[dW,abt (by rw[HFL.i];omega)])
    obtain⟨fh,hfh⟩:∃l,l=Dv x:=⟨_,rfl⟩
    rw[<-hfh]at L7 HFL HPF;clear hfh HF;obtain⟨g,hg1,hg2,hg3,hg4,hg5⟩:=L7.i.h (by rw[HFL.i];decide);rw[HFL.i]at hg2;subst hg1 hg2;have h10:(10:Int)<=c7:=by omega
    have L8:=L7.i.drew.new (#[bC (some ⟨g,0,none⟩) 20 c7]) 56;simp only[show w7.drew.a.j=w7.a.j from rfl,show∀(w:au) ob,w.drew.alloc ob=(w.alloc ob).drew from fun _ _=>rfl]at L8;have L8:=ah L8;have hfr:fZ w7 w7.a.j (some ⟨g,0,none⟩) 20 fh:=by have ho:=L7.i.o.vD;rw[HFL.i]at ho;exact fZ.gV ho
    have CS:=ah (ahk ((w7.alloc (.D (#[bC (some ⟨g,0,none⟩) 20 c7]) 56)).drew) w7.a.j (some ⟨g,0,none⟩) 20 c7 w7.a.j fh (by decide) ((L8.i.X.M.1 0).trans rfl) (hfr.alloc (ay _) _));have hsz:wX fh<=65535:=by unfold wX;omega
    obtain⟨z,hz⟩:=dw (wX fh);rw[<-hz]at CS HPF hsz;clear hz hfr;have q7:jB.wrap (z:Int)=(z:Int):=by rw[jT];omega
    have PZ:=ah (fun W=>wD z hsz W);rw[uW z hsz]at PZ;have HP:=ah (show 0<2->∃g',(some ⟨g,0,none⟩:Option aU)=some ⟨g',0,none⟩/\vI (some ⟨g,0,none⟩) 10 c7 1=some ⟨g',10,none⟩from fun _=>⟨g,rfl,Qc (n:=0) (by omega)⟩);have HZ:=ah (show 10+2<=fh.a by rw[HFL.i];decide);go_region_held_law (fun _=>True) (trivial)
     (first
     | (go_at_call 305;(with_reducible refine CS.i.g ?_);rintro e w8 ⟨rfl,rfl⟩)
     | (go_at_call 184;(with_reducible refine(PZ.i _).g ?_);rintro e w9 ⟨A9,rfl,ho,hb⟩;have R9:=ah (Dq ho (aH _ _));have L9:=ah (L8.i.go hb);clear ho hb)
     | (refine Og (o:=⟨some 107,_,_,_,_,_⟩) rfl (.a 101) (.a 106) rfl (some ⟨g,0,none⟩) 20 c7 L9.i 10 2 (vI (some ⟨g,0,none⟩) 10 c7 1) 10 (c7-10) rfl A9 2 2 rfl R9.i rfl HP.i HZ.i ?_;intro w10 h10 h11;have L10:=ah h10;clear h10 h11))
    go_wp2;go_ret2;rw[HPF.i];exact L10.i.toE
end
section
attribute [local go_sem high] jc jK
theorem Wj(x:Lc)(kind:Int)(fK:List Tg)(hf:∀t∈fK,abo t)(hi:∀t∈fK,tY t.oG=true)(hn:fK.a<=2)(t0:0<=kind)(t1:kind<=65535)(ht:tY kind=false)(w:au)(hT:iF Tg.aA 2 w w.a.j x.VD x.EP fK)
 (P:Option aU) (m mc:Nat) (sl:List Xx) (bss:List (List UInt8)) (hS:RdS w w.a.j P m sl) (hH:Nv w w.a.j sl bss) (hm:m<=1000) (hs:yM sl<=900000000) :
 aQ aj 102 #[.d x.aA,.b .a kind,.a P m mc] w (KI w (qE x.Y x.h fK kind++bss.flatten)):=by
 have Z1:=ah ((Bx.start w).new x.aA 108);have fz:=Z1.i.X.M.2.1 13;have HT:=ah hT;have HS:=ah hS;have HH:=ah hH;have Z2:=ah (Z1.i.set (fun p hp=>by cases hp) 13 (.b .a kind));rw[Lc.TM]at Z2;clear hT hS hH;go_enter Tryz.func102,Tryz.ntmps102;go_upto_region 1 with fail
 have c13:(w.alloc (.D x.aA 108)).b ⟨w.a.j,13,none⟩=some (.b .a x.oG):=(Z1.i.X.M.1 13).trans (Lc.Eb x);generalize w.alloc (.D x.aA 108)=w1 at *;go_upto_region 2 with fail
 generalize w1.G ⟨w.a.j,13,none⟩ (.b .a kind)=w2 at *;clear c13 fz;have l3:=kLc.mW Z2.i.X (Lc.I _);have CL:=ah (adR ({x with oG:=kind}:Lc) fK hf hi hn t0 t1 ht w2 ((HT.i.S Z2.i.R).lH Z2.i.R.j));have HLB:=ah (show(qE x.Y x.h fK kind).a<=1000 from ajG hn);go_upto_region 3 with(go_at_call 185;(with_reducible refine CL.i.g ?_);rintro e w3 ⟨A3,n3,c3,rfl,hn3,ho3,hb3⟩;have N3:=ah hn3;have O3:=ah ho3;have B3:=ah (Z2.i.R.trans (hb3.g Z2.i.R.j));clear hn3 ho3 hb3)
 have C1:=ah (LV sl bss P m mc w3 ((HS.i.S B3.i).lH B3.i.j) ⟨HH.i.1,fun i hi=>((HH.i.2 i hi).S B3.i).lH B3.i.j⟩ hm (by omega));obtain⟨hb0,hhb⟩:∃l,l=qE x.Y x.h fK kind:=⟨_,rfl⟩
 rw[<-hhb]at N3 O3 HLB;have HHB:=ah hhb;clear hhb l3;have HFL:=ah (show bss.flatten.a<=900000000 by
  have:=Vr HH.i sl.a (ay _);rw[aL (ay _),HH.i.1,aL (ay _)]at this;omega)
 obtain⟨fl,hfl⟩:∃l,l=bss.flatten:=⟨_,rfl⟩
 unfold atU at C1;rw[<-hfl]at HFL C1;have HFB:=ah hfl;clear hfl;go_wp2_with (first
 | (go_at_call 181;(with_reducible refine C1.i.g ?_);rintro e w4 ⟨v4,rfl,ho4,hb4⟩;obtain⟨A4,c4,hv4,_,_⟩:=jw ho4;subst hv4;have O4:=ah ho4;have B4:=ah (B3.i.trans (hb4.g B3.i.j));have R3:=ah (fZ.gV (fQ O3.i hb4));have R4:=ah (fZ.gV ho4);have C2:=ah (BR [⟨A3,n3,c3⟩,⟨A4,fl.a,c4⟩] [hb0,fl] 56 2 w4 rfl (.cons R3.i (.cons R4.i .nil)) (by omega) (by have:=N3.i;have:=HLB.i;have:=HFL.i;simp[yM];omega));clear ho4 hb4)
 | (go_at_call 181;(with_reducible refine C2.i.g ?_);rintro e w5 ⟨A5,m5,c5,rfl,hm5,_,TP,hb5⟩;have O5:=ah TP;have N5:=ah hm5;have B5:=ah hb5;clear hm5 TP hb5))
 go_ret;have e2:[hb0,fl].flatten=hb0++fl:=by simp
 have ho:=O5.i;have hnn:=N5.i;rw[e2,HHB.i,HFB.i]at ho hnn;exact⟨A5,m5,c5,rfl,hnn,iM ho (kP B4.i.j),B4.i.trans (B5.i.g B4.i.j)⟩
end
section
attribute [local go_sem high] jc jK
theorem aqn{w:au}{y:Nat}{a b c:Array aC}(h:w.a.j+1<y):∀p∈[(y+1,a),(w.a.j+1,b),(w.a.j,c)],p.1≠y:=fun r hr=>by
 simp only[bE,fO,or_false]at hr;rcases hr with rfl|rfl|rfl<;>simp only[]<;>omega
theorem am3{w:au}{y:Nat}{a b c:Array aC}(h:w.a.j+1<y):∀p∈[(y,a),(w.a.j+1,b),(w.a.j,c)],p.1≠y+1:=fun r hr=>by
 simp only[bE,fO,or_false]at hr;rcases hr with rfl|rfl|rfl<;>simp only[]<;>omega
theorem am4(l:List UInt8):((Jy l).a:Int)=(Sm l).dA:=by
 unfold Jy Sm;split
 ·simp[sS]
 ·have:=adU (mJ l).1.oG (l.f (mJ l).1.fG)
  rw[bL];omega
theorem am5(l:List UInt8)(s d:fE):Hw l s d =
 (if(Sm l).ok=false then([],3)else if amS s d=false then([],1)else if s.h=true then if((Jy l).a:Int)>65535 then([],4)
 else(qE (mJ l).1.Y (mJ l).1.h (mJ l).1.fK 34525++wM ⟨40,40+((Jy l).a:Int),64,false,0,if(mJ l).1.oG=34525 then 41 else 4,s,d⟩++Jy l,0)
 else if 20+((Jy l).a:Int)>65535 then([],4)
  else(qE (mJ l).1.Y (mJ l).1.h (mJ l).1.fK 2048++tO ⟨20,20+((Jy l).a:Int),0,0,false,true,64,if(mJ l).1.oG=34525 then 41 else 4,s,d⟩++Jy l,0)):=by
 rw[am4];unfold Hw Jy Sm;by_cases h:(mJ l).2≠0
 ·rw[if_pos h,if_pos h,if_pos (by rfl)]
 ·rw[if_neg h,if_neg h,if_neg h]
theorem agh(w:au)(A:Option aU)(n c:Nat)(l:List UInt8)(s d:fE)(hnc:n<=c)(hc:c<=9223372036854775807/\n<=1000000)(hr:fZ w w.a.j A n l):aQ aj 207 #[.a A n c,.d s.aA,.d d.aA] w (ajA w (Hw l s d)):=by
 have h0:=((Bx.start w).new s.aA 27).new d.aA 27;rw[show(w.alloc (.D s.aA 27)).a.j=w.a.j+1 by simp]at h0;have Z0:=ah h0;have CC:=ah (ajI _ A n c l hnc hc (h0.Mf hr));have HW:=ah (am5 l s d);clear h0 hr;go_enter Tryz.func207,Tryz.ntmps207;go_upto_region 1 with fail
 generalize(w.alloc (.D s.aA 27)).alloc (.D d.aA 27)=w0 at Z0 CC ⊢;obtain⟨k,hk⟩:=dw ((mJ l).1);obtain⟨g,hg⟩:=dw (Sm l);obtain⟨pk,hpk⟩:∃q,q=Jy l:=⟨_,rfl⟩
 have HK:=ah hk;unfold ay7 at CC;rw[<-hk,<-hg,<-hpk]at CC HW;clear hk hg hpk;go_upto_region 2 with(go_at_call 99;(with_reducible refine CC.i.g ?_);rintro e w1 ⟨TA,tc,PA,pn,pc,rfl,hT,hP,hpc,azb,hb1⟩;have zn:=((Z0.i.go hb1).new qQ.aA 108).new sS.aA 179;rw[tq]at zn;have hsz:=(Z0.i.go hb1).X.lt;have ZN:=ah zn;have au1:=ZN.i.b1.O 0 15 (aY (Lc.I qQ).symm);have Z2:=ah ((ZN.i.sub (L':=[(w1.a.j,qQ.aA),(w1.a.j+1,sS.aA),(w.a.j+1,d.aA),(w.a.j,s.aA)]) (by simp)).put (aqn hsz) (k.cell TA tc).aA (by rw[Lc.I,Lc.I]));have au2:=Z2.i.b1.O 0 5 (aY (Tn.I sS).symm);have Z1:=ah ((Z2.i.sub (L':=[(w1.a.j+1,sS.aA),(w1.a.j,(k.cell TA tc).aA),(w.a.j+1,d.aA),(w.a.j,s.aA)]) (by simp)).put (am3 hsz) g.aA (by rw[Tn.I,Tn.I]));have Qx:=ah (lg (lg ((((aH w1.a.j w1).alloc (ay _) (.D qQ.aA 108)).alloc (by simp) (.D sS.aA 179))) w1.a.j 0 (k.cell TA tc).aA (ay _)) (w1.a.j+1) 0 g.aA (Nat.le_succ _));have RT:=ah (hT.S Qx.i);have RP:=ah (hP.S Qx.i);have HPC:=ah (And.intro hpc azb);clear zn hpc azb;clear hb1 hT hP)
 have YL:=ah (show w1.a.j<=(gZ (gZ ((w1.alloc (.D qQ.aA 108)).alloc (.D sS.aA 179)) w1.a.j 0 (k.cell TA tc).aA) (w1.a.j+1) 0 g.aA).a.j from Qx.i.j);have HY:=ah hsz;clear au1 au2 ZN Z2 Qx hsz;generalize gZ (gZ ((w1.alloc (.D qQ.aA 108)).alloc (.D sS.aA 179)) w1.a.j 0 (k.cell TA tc).aA) (w1.a.j+1) 0 g.aA=w2 at Z1 RT RP YL ⊢;generalize w1.a.j=y8 at *;have hpn:=ah RP.i.len;have KS:=ah (fun(w':au) (h:Bx [(y8+1,g.aA),(y8,(k.cell TA tc).aA),(w.a.j+1,d.aA),(w.a.j,s.aA)] w w')=>show w'.b ⟨y8+1,4,none⟩=some (.e g.ok)/\w'.b ⟨w.a.j,0,none⟩=some (.e s.h)/\w'.b ⟨w.a.j+1,0,none⟩=some (.e d.h)/\(rH (.c (some ⟨w.a.j,0,none⟩))).J aj w'=.ok (.d s.aA) w'/\(rH (.c (some ⟨w.a.j+1,0,none⟩))).J aj w'=.ok (.d d.aA) w'/\w'.b ⟨y8,13,none⟩=some (.b .a k.oG)/\(xK 108 (.c (some ⟨y8,0,none⟩))).J aj w'=.ok (.d (k.cell TA tc).aA) w' from⟨(h.X.M.1 4).trans (Tn.ayB g),(h.b3.M.1 0).trans (fE.qG s),(h.b2.M.1 0).trans (fE.qG d),h.b3.ahO,h.b2.ahO,(h.b1.M.1 13).trans (Lc.Eb _),kLc.mW h.b1 (Lc.I _)⟩);obtain⟨f1,f2,f3,f4,f5,f6,f7⟩:=KS.i _ Z1.i;have CP:=ah adL;cases hok:g.ok
 ·rw[hok]at f1
  go_wp2;go_ret2;rw[HW.i,if_pos hok];exact⟨none,0,0,rfl,KJ _,Z1.i.R⟩
 rw[hok]at f1;have HWO:=ah (HW.i.trans (if_neg (by rw[hok];simp)));clear HW;have HFM:=ah (show amS s d=(s.h==d.h&&(s.h||s.mU&&d.mU))from rfl);have NOF:=ah (show amS s d=false->Hw l s d=([],1)from fun h=>HWO.i.trans (if_pos h));cases h6:s.h<;>cases g6:d.h
 case false.true=>
  rw[h6]at f2 HFM;rw[g6]at f3 HFM;go_wp2;go_ret2;rw[NOF.i HFM.i];exact⟨none,0,0,rfl,KJ _,Z1.i.R⟩
 case true.false=>
  rw[h6]at f2 HFM;rw[g6]at f3 HFM;go_wp2;go_ret2;rw[NOF.i HFM.i];exact⟨none,0,0,rfl,KJ _,Z1.i.R⟩
 case true.true=>
  have HH6:=ah h6;have HG6:=ah g6;rw[h6]at f2 HFM;rw[g6]at f3 HFM;clear g6;have HWX:=ah (HWO.i.trans ((if_neg (by rw[HFM.i];simp)).trans (if_pos h6)));clear h6;have hty:(k.oG==34525)=true/\(if k.oG=34525 then(41:Int)else 4)=41\/(k.oG==34525)=false/\(if k.oG=34525 then(41:Int)else 4)=4:=by
   by_cases h:k.oG=34525
   ·exact .a ⟨by simpa using h,if_pos h⟩
   ·exact .b ⟨by simpa using h,if_neg h⟩
  by_cases hT:65535<pn
  ·have qt:decide ((65535:Int)<pn)=true:=by simp;omega
   go_wp2
   all_goals
    go_ret2;rw[HWX.i,if_pos (by have:=hpn.i;omega)];exact⟨none,0,0,rfl,KJ _,Z1.i.R⟩
  have qt:decide ((65535:Int)<pn)=false:=by simp;omega
  have Nl:=ah (HWX.i.trans (if_neg (by have:=hpn.i;omega)));have q5:=jV (40+(pn:Int)) (by omega);rcases hty with⟨qty,hpp⟩|⟨qty,hpp⟩
  case' inl=>
   rw[hpp,hpn.i]at Nl;clear hpp;have CS:=ah (fun W'=>Wd (Sx.mk 40 (40+pn) 64 false 0 41 s d) pn (by omega) rfl rfl (show(0:Int)<=41 by decide) (show(41:Int)<=255 by decide) (by rfl) (show(0:Int)<=64 by decide) (show(64:Int)<=255 by decide) rfl rfl HH6.i HG6.i W');go_upto_region 14 with(go_at_call 270;(with_reducible refine(CS.i _).g ?_);rintro e w5 ⟨A5,n5,c5,rfl,hn5,TP,hb5⟩;have Z5:=ah (Z1.i.go hb5);have N5:=ah hn5;have R5:=ah (fZ.gV TP);have B5:=ah hb5;clear hn5 TP hb5)
   clear f1 f2 f3 f4 f5 f6 f7 q5 qt qty;obtain⟨_,_,_,_,_,_,f7⟩:=KS.i _ Z5.i;obtain⟨sb,hsb⟩:∃l,l=wM (Sx.mk 40 (40+pn) 64 false 0 41 s d):=⟨_,rfl⟩
  case' inr=>
   rw[hpp,hpn.i]at Nl;clear hpp;have CS:=ah (fun W'=>Wd (Sx.mk 40 (40+pn) 64 false 0 4 s d) pn (by omega) rfl rfl (show(0:Int)<=4 by decide) (show(4:Int)<=255 by decide) (by rfl) (show(0:Int)<=64 by decide) (show(64:Int)<=255 by decide) rfl rfl HH6.i HG6.i W');go_upto_region 14 with(go_at_call 270;(with_reducible refine(CS.i _).g ?_);rintro e w5 ⟨A5,n5,c5,rfl,hn5,TP,hb5⟩;have Z5:=ah (Z1.i.go hb5);have N5:=ah hn5;have R5:=ah (fZ.gV TP);have B5:=ah hb5;clear hn5 TP hb5)
   clear f1 f2 f3 f4 f5 f6 f7 q5 qt qty;obtain⟨_,_,_,_,_,_,f7⟩:=KS.i _ Z5.i;obtain⟨sb,hsb⟩:∃l,l=wM (Sx.mk 40 (40+pn) 64 false 0 4 s d):=⟨_,rfl⟩
  all_goals
   have HSL:=ah (show sb.a=40 by rw[hsb,adT]);rw[<-hsb]at Nl N5 R5;clear hsb;have BA:=ah (Below.alloc (aH w5.a.j w5) (ay _) (.D (yU [⟨A5,n5,c5⟩,⟨PA,pn,pc⟩]) 56));have TG:=V9 l;have TI:=Qd l;rw[<-HK.i]at TG TI;have RT5:=((RT.i.S (B5.i.g YL.i)).S (BA.i.g (aP YL.i B5.i.j))).lH (aP YL.i (aP B5.i.j BA.i.j));have RP5:=((RP.i.S (B5.i.g YL.i)).S (BA.i.g (aP YL.i B5.i.j))).lH (aP YL.i (aP B5.i.j BA.i.j));have CJ:=ah (Wj (k.cell TA tc) 34525 k.fK TG.1 TI TG.2 (by decide) (by decide) (by decide) _ RT5 (some ⟨w5.a.j,0,none⟩) 2 2 [⟨A5,n5,c5⟩,⟨PA,pn,pc⟩] [sb,pk] (RdS.lit w5 [⟨A5,n5,c5⟩,⟨PA,pn,pc⟩] 56) (.cons ((R5.i.S BA.i).lH BA.i.j) (.cons RP5 .nil)) (by omega) (by have:=N5.i;have:=HSL.i;have:=HPC.i;simp[yM];omega));clear TG TI RT5 RP5;go_wp2_with (go_at_call 102;(with_reducible refine CJ.i.g ?_);rintro e w8 ⟨A8,n8,c8,rfl,hn8,ho8,XQ⟩;have N8:=ah hn8;have R8:=ah (fZ.gV ho8);have B8:=ah XQ;clear hn8 ho8 XQ);go_ret2;have e2:qE k.Y k.h k.fK 34525++[sb,pk].flatten=qE k.Y k.h k.fK 34525++sb++pk:=by simp
   rw[Nl.i];refine⟨A8,n8,c8,rfl,?_,Z5.i.R.trans ((BA.i.trans (B8.i.g BA.i.j)).g Z5.i.R.j)⟩;have:=R8.i
   rwa [show(k.cell TA tc).Y=k.Y from rfl,show(k.cell TA tc).h=k.h from rfl,e2]at this
 case false.false=>
  have HH6:=ah h6;have HG6:=ah g6;rw[h6]at f2 HFM;rw[g6]at f3 HFM;simp only[h6,g6]at KS;clear g6;have CP1:=ah (fun W=>CP.i s W);have CP2:=ah (fun W=>CP.i d W);cases hs:s.mU
  ·rw[hs]at CP1 HFM
   clear hs;go_wp2_with (go_at_call 269;(with_reducible refine(CP1.i _).g ?_);rintro e w4 ⟨rfl,hb⟩;have Z4:=ah (Z1.i.go hb);clear f1 f2 f3 f4 f5 f6 f7;obtain⟨f1,f2,f3,f4,f5,f6,f7⟩:=KS.i _ Z4.i;clear hb);go_ret2;rw[NOF.i HFM.i];exact⟨none,0,0,rfl,KJ _,Z4.i.R⟩
  cases hd:d.mU
  ·rw[hs]at CP1 HFM
   rw[hd]at CP2 HFM;clear hs hd;go_wp2_with (go_at_call 269;(first|((with_reducible refine(CP1.i _).g ?_);rintro e w4 ⟨rfl,hb⟩;have Z4:=ah (Z1.i.go hb);clear f1 f2 f3 f4 f5 f6 f7;obtain⟨f1,f2,f3,f4,f5,f6,f7⟩:=KS.i _ Z4.i;clear hb)|((with_reducible refine(CP2.i _).g ?_);rintro e w5 ⟨rfl,hb⟩;have Z5:=ah (Z4.i.go hb);clear f1 f2 f3 f4 f5 f6 f7;obtain⟨f1,f2,f3,f4,f5,f6,f7⟩:=KS.i _ Z5.i;clear hb)));go_ret2;rw[NOF.i HFM.i];exact⟨none,0,0,rfl,KJ _,Z5.i.R⟩
  have HS4:=ah (show(!s.h&&s.mU)=true by rw[HH6.i,hs];rfl);have HD4:=ah (show(!d.h&&d.mU)=true by rw[HG6.i,hd];rfl);rw[hs]at CP1 HFM;rw[hd]at CP2 HFM;clear hs hd;have HWX:=ah (HWO.i.trans ((if_neg (by rw[HFM.i];simp)).trans (if_neg (by rw[h6];simp))));clear h6;have hty:(k.oG==34525)=true/\(if k.oG=34525 then(41:Int)else 4)=41\/(k.oG==34525)=false/\(if k.oG=34525 then(41:Int)else 4)=4:=by
   by_cases h:k.oG=34525
   ·exact .a ⟨by simpa using h,if_pos h⟩
   ·exact .b ⟨by simpa using h,if_neg h⟩
  have q5:=jV (20+(pn:Int)) (by have:=HPC.i;omega);go_upto_region 7 with(go_at_call 269;(first|((with_reducible refine(CP1.i _).g ?_);rintro e w4 ⟨rfl,hb⟩;have Z4:=ah (Z1.i.go hb);have B4:=ah hb;clear f1 f2 f3 f4 f5 f6 f7;obtain⟨f1,f2,f3,f4,f5,f6,f7⟩:=KS.i _ Z4.i;clear hb)|((with_reducible refine(CP2.i _).g ?_);rintro e w5 ⟨rfl,hb⟩;have Z5:=ah (Z4.i.go hb);have B5:=ah (B4.i.trans (hb.g B4.i.j));clear f1 f2 f3 f4 f5 f6 f7;obtain⟨f1,f2,f3,f4,f5,f6,f7⟩:=KS.i _ Z5.i;clear hb)))
  by_cases hT:65535<20+pn
  ·have qt:decide ((65535:Int)<20+(pn:Int))=true:=by simp;omega
   go_wp2
   all_goals
    go_ret2;rw[HWX.i,if_pos (by have:=hpn.i;omega)];exact⟨none,0,0,rfl,KJ _,Z5.i.R⟩
  have qt:decide ((65535:Int)<20+(pn:Int))=false:=by simp;omega
  have Nl:=ah (HWX.i.trans (if_neg (by have:=hpn.i;omega)));rcases hty with⟨qty,hpp⟩|⟨qty,hpp⟩
  case' inl=>
   rw[hpp,hpn.i]at Nl;clear hpp;have CS:=ah (fun W'=>QT (Fo.mk 20 (20+pn) 0 0 false true 64 41 s d) rfl (show(0:Int)<=0 by decide) (show(0:Int)<=255 by decide) (show 20<=20+(pn:Int)by omega) (show 20+(pn:Int)<=65535 by omega) (show(0:Int)<=0 by decide) (show(0:Int)<=65535 by decide) (show(0:Int)<=64 by decide) (show(64:Int)<=255 by decide) (show(0:Int)<=41 by decide) (show(41:Int)<=255 by decide) rfl HS4.i HD4.i W');go_upto_region 18 with(go_at_call 271;(with_reducible refine(CS.i _).g ?_);rintro e w7 ⟨A5,n5,c5,rfl,hn5,TP,hb5⟩;have Z7:=ah (Z5.i.go hb5);have N5:=ah hn5;have R5:=ah (fZ.gV TP);have B7:=ah (B5.i.trans (hb5.g B5.i.j));clear hn5 TP hb5)
   clear f1 f2 f3 f4 f5 f6 f7 q5 qt qty;obtain⟨_,_,_,_,_,_,f7⟩:=KS.i _ Z7.i;obtain⟨sb,hsb⟩:∃l,l=tO (Fo.mk 20 (20+pn) 0 0 false true 64 41 s d):=⟨_,rfl⟩
  case' inr=>
   rw[hpp,hpn.i]at Nl;clear hpp;have CS:=ah (fun W'=>QT (Fo.mk 20 (20+pn) 0 0 false true 64 4 s d) rfl (show(0:Int)<=0 by decide) (show(0:Int)<=255 by decide) (show 20<=20+(pn:Int)by omega) (show 20+(pn:Int)<=65535 by omega) (show(0:Int)<=0 by decide) (show(0:Int)<=65535 by decide) (show(0:Int)<=64 by decide) (show(64:Int)<=255 by decide) (show(0:Int)<=4 by decide) (show(4:Int)<=255 by decide) rfl HS4.i HD4.i W');go_upto_region 18 with(go_at_call 271;(with_reducible refine(CS.i _).g ?_);rintro e w7 ⟨A5,n5,c5,rfl,hn5,TP,hb5⟩;have Z7:=ah (Z5.i.go hb5);have N5:=ah hn5;have R5:=ah (fZ.gV TP);have B7:=ah (B5.i.trans (hb5.g B5.i.j));clear hn5 TP hb5)
   clear f1 f2 f3 f4 f5 f6 f7 q5 qt qty;obtain⟨_,_,_,_,_,_,f7⟩:=KS.i _ Z7.i;obtain⟨sb,hsb⟩:∃l,l=tO (Fo.mk 20 (20+pn) 0 0 false true 64 4 s d):=⟨_,rfl⟩
  all_goals
   have HSL:=ah (show sb.a=20 by rw[hsb,Wh]);rw[<-hsb]at Nl N5 R5;clear hsb;have BA:=ah (Below.alloc (aH w7.a.j w7) (ay _) (.D (yU [⟨A5,n5,c5⟩,⟨PA,pn,pc⟩]) 56));have TG:=V9 l;have TI:=Qd l;rw[<-HK.i]at TG TI;have RT5:=((RT.i.S (B7.i.g YL.i)).S (BA.i.g (aP YL.i B7.i.j))).lH (aP YL.i (aP B7.i.j BA.i.j));have RP5:=((RP.i.S (B7.i.g YL.i)).S (BA.i.g (aP YL.i B7.i.j))).lH (aP YL.i (aP B7.i.j BA.i.j));have CJ:=ah (Wj (k.cell TA tc) 2048 k.fK TG.1 TI TG.2 (by decide) (by decide) (by decide) _ RT5 (some ⟨w7.a.j,0,none⟩) 2 2 [⟨A5,n5,c5⟩,⟨PA,pn,pc⟩] [sb,pk] (RdS.lit w7 [⟨A5,n5,c5⟩,⟨PA,pn,pc⟩] 56) (.cons ((R5.i.S BA.i).lH BA.i.j) (.cons RP5 .nil)) (by omega) (by have:=N5.i;have:=HSL.i;have:=HPC.i;simp[yM];omega));clear TG TI RT5 RP5;go_wp2_with (go_at_call 102;(with_reducible refine CJ.i.g ?_);rintro e w8 ⟨A8,n8,c8,rfl,hn8,ho8,XQ⟩;have N8:=ah hn8;have R8:=ah (fZ.gV ho8);have B8:=ah XQ;clear hn8 ho8 XQ);go_ret2;have e2:qE k.Y k.h k.fK 2048++[sb,pk].flatten=qE k.Y k.h k.fK 2048++sb++pk:=by simp
   rw[Nl.i];refine⟨A8,n8,c8,rfl,?_,Z7.i.R.trans ((BA.i.trans (B8.i.g BA.i.j)).g Z7.i.R.j)⟩;have:=R8.i
   rwa [show(k.cell TA tc).Y=k.Y from rfl,show(k.cell TA tc).h=k.h from rfl,e2]at this
end
section
attribute [local go_sem high] jc jK
theorem AV{w:au}{base n sz k c:Nat}{e:bF}{A:Option aU}{xs:List aC}(h:w.c base e sz (.a A n c) k xs):n<=c/\c<=9223372036854775807:=by
 rcases h.2 with⟨h1,h2⟩|⟨g,cap,cur,h1,_,_,h4,h5,_⟩
 ·injection h1 with _ e1 e2
  omega
 ·injection h1 with _ e1 e2
  have:maxLen=9223372036854775807:=rfl;omega
end
def Agr(l m:List UInt8)(a b:Nat):Prop:=∀j,a<=j->j<b->m.c j 0=l.c j 0
section
variable {l m:List UInt8} {a b:Nat}
theorem Agr.two(h:Agr l m a b){k:Nat}(h1:a<=k)(h2:k+2<=b):fq m k=fq l k:=by
 unfold fq;rw[h k (by omega) (by omega),h (k+1) (by omega) (by omega)]
theorem YX(l:List UInt8)(z j:Nat):(l.f z).c j 0=l.c (z+j) 0:=by simp[av]
theorem YZ(l:List UInt8)(z j:Nat):(l.d z).c j 0=if j<z then l.c j 0 else 0:=by
 simp only[av,jv];split<;>rfl
end
theorem agi{l:List UInt8}(h:(vW l).kind=0):(mJ l).2=0/\((mJ l).1.oG=2048\/(mJ l).1.oG=34525)/\(mZ l).2=0/\(mZ l).1.oN=false/\((mZ l).1.aR=6\/(mZ l).1.aR=17)/\(Mi l).2=0 /\
 vW l=⟨0,⟨(mZ l).1.h,(mZ l).1.Y,(mZ l).1.aR,(Mi l).1.kT,(Mi l).1.j4⟩,(Mi l).1.uT,(mJ l).1.fG,(mJ l).1.fG+(mZ l).1.head,(mJ l).1.fG+(mZ l).1.dA⟩:=by
 unfold vW at h ⊢;by_cases h1:(mJ l).2≠0
 ·rw[if_pos h1]at h;cases h
 rw[if_neg h1]at h ⊢;by_cases h2:(mJ l).1.oG≠2048/\(mJ l).1.oG≠34525
 ·rw[if_pos h2]at h;cases h
 rw[if_neg h2]at h ⊢;by_cases h3:(mZ l).2≠0
 ·rw[if_pos h3]at h;cases h
 rw[if_neg h3]at h ⊢;by_cases h4:(mZ l).1.oN=true
 ·rw[if_pos h4]at h;cases h
 rw[if_neg h4]at h ⊢;by_cases h5:(mZ l).1.aR≠6/\(mZ l).1.aR≠17
 ·rw[if_pos h5]at h;cases h
 rw[if_neg h5]at h ⊢;by_cases h6:(Mi l).2≠0
 ·rw[if_pos h6]at h;cases h
 rw[if_neg h6]at h ⊢;exact⟨by omega,by omega,by omega,by simpa using h4,by omega,by omega,rfl⟩
theorem Y1(l:List UInt8)(z k:Nat):fq (l.f z) k=fq l (z+k):=by unfold fq;rw[YX,YX,nG]
theorem ajL{l:List UInt8}(h:(vW l).kind=0):(vW l).K.h=(if(vW l).K.h.h then ajr (l.f ((vW l).C8.e+8))else Jp (l.f ((vW l).C8.e+12)))/\(vW l).K.Y=(if(vW l).K.h.h then ajr (l.f ((vW l).C8.e+24))else Jp (l.f ((vW l).C8.e+16)))/\(vW l).K.kT=fq l (vW l).tu.e/\(vW l).K.j4=fq l ((vW l).tu.e+2):=by
 have F:=Od h;obtain⟨k1,k2,k3,k4,k5,k6,kp⟩:=agi h;have f5:=F.Gw;have f3:=F.tu;have f2:=F.C8;have f6:=F.len;have hp:(vW l).K.kT=fq l (vW l).tu.e/\(vW l).K.j4=fq l ((vW l).tu.e+2):=by
  rw[kp]at f5 f3 f2 f6 ⊢;simp only at f5 f3 f2 f6 ⊢;have e0:uV (mZ l).1.aR ((l.d ((mJ l).1.fG+(mZ l).1.dA.e)).f ((mJ l).1.fG+(mZ l).1.head.e))=0:=by
   unfold Mi Jr at k6;split at k6
   ·assumption
   ·rename_i hx;exact absurd k6 hx
  have e1:Mi l=(qD (mZ l).1.aR ((l.d ((mJ l).1.fG+(mZ l).1.dA.e)).f ((mJ l).1.fG+(mZ l).1.head.e)),0):=VF e0;have hd:0<=(mZ l).1.head/\0<=(mZ l).1.dA/\(mZ l).1.head+8<=(mZ l).1.dA:=by
   split at f3<;>split at f5<;>omega
  have e2:((mJ l).1.fG+(mZ l).1.head:Int).e=(mJ l).1.fG+(mZ l).1.head.e:=by omega
  rw[e1,e2];have ag:Agr l (l.d ((mJ l).1.fG+(mZ l).1.dA.e)) 0 ((mJ l).1.fG+(mZ l).1.dA.e):=fun j _ hj=>by rw[YZ,if_pos hj]
  have a1:=ag.two (k:=(mJ l).1.fG+(mZ l).1.head.e) (by omega) (by omega);have a2:=ag.two (k:=(mJ l).1.fG+(mZ l).1.head.e+2) (by omega) (by omega);constructor
  ·rw[<-a1];unfold qD;split<;>simp only[Y1,nM]
  ·rw[<-a2];unfold qD;split<;>simp only[Y1]
 refine⟨?_,?_,hp⟩
 all_goals
  rw[kp];simp only[dW];unfold mZ YS at k3 ⊢;by_cases ht:(mJ l).1.oG=2048
  ·rw[if_pos ht]at k3 ⊢
   have es:=ahJ (l:=l.f (mJ l).1.fG) k3;have e0:Dt (l.f (mJ l).1.fG)=0:=by
    simp only at k3;unfold zZ at k3;split at k3
    ·assumption
    ·rename_i hx;exact absurd k3 hx
   simp only[es.1];unfold zZ;rw[if_pos e0];simp[PY]
  ·rw[if_neg ht]at k3 ⊢
   have es:=ahI (l:=l.f (mJ l).1.fG) k3;simp only[es.1,if_true];simp only at k3;unfold AU at k3 ⊢;by_cases h1:(l.f (mJ l).1.fG).a<40
   ·rw[if_pos h1]at k3;cases k3
   rw[if_neg h1]at k3 ⊢;by_cases h2:nX (l.f (mJ l).1.fG) 0/16≠6
   ·rw[if_pos h2]at k3;cases k3
   rw[if_neg h2]at k3 ⊢;by_cases h3:(l.f (mJ l).1.fG).a<40+fq (l.f (mJ l).1.fG) 4
   ·rw[if_pos h3]at k3;cases k3
   rw[if_neg h3]at k3 ⊢
   first|rw[(VZ 8 _ _ k3).1]|rw[(VZ 8 _ _ k3).2]
   simp[sx0]
theorem ahR(l:List UInt8):0<=(vW l).kind/\(vW l).kind<=6:=by
 unfold vW xL
 repeat' split
 all_goals simp
theorem aqo(e:En)(v:Vp)(b:Bk)(t:Tu)(l:List UInt8):(Oi e v b t l).1=0\/(Oi e v b t l).1=9\/(Oi e v b t l).1=10:=by
 unfold Oi
 repeat' split
 all_goals simp
theorem agj(e:En)(s:qB)(l:List UInt8):0<=(Ed e s l).jh/\(Ed e s l).jh<=10:=by
 have h1:=ahR l;unfold Ed;split
 ·split
  ·split
   ·rename_i i _ _ b wW _
    have:=aqo e (e.vs.c i og) b (vW l).K l;split<;>simp only<;>omega
   ·simp
  ·simp
 ·simp only;omega
theorem am6{s:qB}{t:Tu}{n:List UInt8}(h:Oh s t=some n):∃f,pW s.I t=some f/\f.E=n/\sP s.rX n=true/\xH (ou s.h) n=false:=by
 unfold Oh at h;split at h
 ·rename_i f hf
  split at h
  ·rename_i hc
   injection h with h
   subst h;simp only[bB,oz]at hc;exact⟨f,hf,rfl,hc.1,hc.2⟩
  ·cases h
 ·cases h
theorem au6{s:qB}{t:Tu}{f:Fw}(hf:pW s.I t=some f)(h1:sP s.rX f.E=true)(h2:xH (ou s.h) f.E=false):Oh s t=some f.E:=by
 unfold Oh;rw[hf];simp only;rw[h1,h2];rfl
theorem aqp{ls:List (List UInt8)}{rX:List Bk}{key:Vector UInt8 16}{n h:Nat}{m:List UInt8}(hp:lK n=true)(hpk:Hr (uw key n (kU ls rX)) h=some m):∃x∈rX,x.E=m/\x.drain=false/\xH ls m=false:=by
 have h0:∀x∈kU ls rX,0<=x.q:=fun x hx=>by
  unfold kU at hx;obtain⟨y,_,rfl⟩:=iX.1 hx;unfold Gq;simp only;split
  ·exact Int.le_refl _
  ·exact Int.natCast_nonneg _
 unfold Hr at hpk;rcases Yv (key:=key) hp h0 with⟨h1,_⟩|⟨h1,h2⟩
 ·rw[h1]at hpk;simp at hpk
 ·have hn:0<n:=by
   rcases eD n with e|e
   ·subst e;rw[h1]at hpk;simp at hpk
   ·exact e
  rw[if_neg (by omega),h1]at hpk;injection hpk with hpk
  obtain⟨i,hi,hs⟩:=h2 (h%n) (fH _ hn);rw[hs,dW,av,aD hi,jE]at hpk;have hm:m∈(uw key n (kU ls rX)).h:=by rw[<-hpk];exact eY hi
  unfold uw at hm;simp only at hm;split at hm
  ·simp at hm
  ·obtain⟨x,hx,rfl⟩:=iX.1 hm
   obtain⟨hx1,hx2⟩:=mH.1 hx;unfold kU at hx1;obtain⟨y,hy,rfl⟩:=iX.1 hx1;refine⟨y,hy,rfl,?_⟩;unfold Gq at hx2 ⊢;simp only at hx2 ⊢;cases hd:y.drain<;>cases ho:xH ls y.E<;>rw[hd,ho]at hx2<;>simp at hx2;exact⟨rfl,rfl⟩
theorem oH.srt{M:Int}{e:En}{s:qB}(h:oH M e s):Ga s.rX:=(wZ.1 h.pl).2.2.2.2
theorem aqr{M:Int}{e:En}{s:qB}(h:oH M e s){t:Tu}{b:Bk}{wW:Bool}(hb:Jv e s t=some (b,wW)):b∈s.rX/\xH (ou s.h) b.E=false/\(wW=true->Oh s t=some b.E)/\(wW=false->Oh s t=none/\Hr (wF e s) (ahL e t)=some b.E):=by
 unfold Jv at hb;cases hh:Oh s t with
 | some n=>
   rw[hh]at hb;simp only[Option.some.injEq,Prod.mk.injEq]at hb;obtain⟨rfl,rfl⟩:=hb;obtain⟨f,_,_,h1,h2⟩:=am6 hh;obtain⟨g1,g2⟩:=Tf h1;rw[g2];exact⟨g1,h2,fun _=>rfl,fun e=>by cases e⟩
 | none=>
   rw[hh]at hb;simp only at hb;cases hp:Hr (wF e s) (ahL e t)with
   | none=>rw[hp]at hb;cases hb
   | some n=>
     rw[hp]at hb;simp only[mo,Option.some.injEq,Prod.mk.injEq]at hb;obtain⟨rfl,rfl⟩:=hb;obtain⟨x,hx,hn,_,ho⟩:=aqp (sN h.cn).1.2.2 hp;subst hn;rw[alU h.srt hx];exact⟨hx,ho,fun e=>(by cases e),fun _=>⟨rfl,rfl⟩⟩
theorem ahS(l:List UInt8):qN (Jp l)=true:=by
 unfold qN Jp;simp only[Bool.false_or,fV,beq_iff_eq];intro x hx;obtain⟨j,hj,rfl⟩:=mF.1 hx;simp only[qh,List.getElem_drop,Vector.getElem_toList,Vector.getElem_ofFn];rw[YZ,if_neg (by omega)]
theorem ahT(l:List UInt8):qN (ajr l)=true:=rfl
theorem azf{l:List UInt8}(h:(vW l).kind=0):Gb (vW l).K=true/\((vW l).K.aR=6\/(vW l).K.aR=17):=by
 have F:=Od h;obtain⟨t1,t2,t3,t4⟩:=ajL h;have hs:qN (vW l).K.h=true:=by rw[t1];split;exact ahT _;exact ahS _
 have hd:qN (vW l).K.Y=true:=by rw[t2];split;exact ahT _;exact ahS _
 have b1:=Oe l (vW l).tu.e;have b2:=Oe l ((vW l).tu.e+2);have hp:=F.pro;refine⟨?_,hp⟩;unfold Gb Yb;rw[hs,hd];simp only[bB,decide_eq_true_eq];have:=F.fam;refine⟨⟨⟨⟨⟨this,trivial⟩,trivial⟩,?_⟩,?_⟩,?_⟩<;>omega
def aqs(c:Cn)(h:Hl)(n:List UInt8):Bool:=(h.E==n)&&(decide (0<=h.J)&&decide (h.J<if h.down then c.kr else c.fall))
def Wm(c:Cn)(s:qB)(k:Nat):Bool:=aqs c (s.h.c k kQ) (s.rX.c k jd).E
def Zd(l:List Fw)(k:Nat):Bool:=(l.d k).any (tV (l.c k ko).key)
def Sn(s:qB)(k:Nat):Bool:=DX (s.I.c k ko)&&(decide ((s.I.c k ko).seen<=s.gq)&&(decide (1<=(s.I.c k ko).no)&&(decide ((s.I.c k ko).no<=s.no)&&(!Zd s.I k&&(decide (k=0)||lQ (s.I.c (k-1) ko) (s.I.c k ko))))))
def adV(s:qB):Bool:=Yb s.gq 1099511627776&&(Yb s.no 1152921504606846976&&s.lI.a.all (Yb · 1152921504606846976))
def Wn(c:Cn)(vs:List Vp)(s:qB):Bool:=yu c vs&&(xX s.Y s.rX&&(decide (s.h.a=s.rX.a)&&decide ((s.I.a:Int)<=c.dX)))
def zw(c:Cn)(vs:List Vp)(s:qB):Bool:=Wn c vs s&&(adV s&&((dS s.h.a).all (Wm c s)&&(dS s.I.a).all (Sn s)))
theorem ajM{α:Type}{lt:α->α->Bool}(hs:I7 lt){l:List α}(h:∀(i:Nat)(hi:i+1<l.a),lt (l[i]'(by omega)) l[i+1]=true):Asc lt l:=by
 unfold Asc;rw[gu];intro i j hi hj hij;obtain⟨d,rfl⟩:∃d,j=i+1+d:=⟨j-i-1,by omega⟩
 induction d with
 | zero=>exact h i hj
 | succ d ih=>exact hs.tr _ _ _ (ih (by omega) (by omega)) (h (i+1+d) hj)
theorem uH{α:Type}{l:List α}{d:α}{k:Nat}(hk:k<l.a):l.c k d=l[k]:=by
 rw[av,aD hk,jE]
theorem ajN{dX:Int}{s:qB}(hl:(s.I.a:Int)<=dX)(h:∀k,k<s.I.a->Sn s k=true):wE dX s.I/\∀f∈s.I,f.seen<=s.gq/\1<=f.no/\f.no<=s.no:=by
 have H:∀(k:Nat)(hk:k<s.I.a),DX s.I[k]=true/\(s.I[k].seen<=s.gq/\1<=s.I[k].no/\s.I[k].no<=s.no)/\Zd s.I k=false/\(k=0\/lQ (s.I.c (k-1) ko) s.I[k]=true):=fun k hk=>by
  have:=h k hk;unfold Sn at this;rw[uH hk]at this;simp only[bB,decide_eq_true_eq,oz,nJ]at this;exact⟨this.1,⟨this.2.1,this.2.2.1,this.2.2.2.1⟩,this.2.2.2.2.1,this.2.2.2.2.2⟩
 refine⟨⟨ajM tL (fun i hi=>?_),?_,?_,hl⟩,fun f hf=>?_⟩
 ·rcases(H (i+1) hi).2.2.2 with e|e
  ·omega
  ·rw[Nat.add_sub_cancel,uH (by omega)]at e;exact e
 ·rw[gu]
  intro i j hi hj hij e;have h1:=(H j hj).2.2.1;unfold Zd at h1;rw[uH hj,qv]at h1;refine h1 s.I[i] ?_ (by simp[tV,e]);rw[rP];exact⟨i,by omega,rfl⟩
 ·intro x hx
  obtain⟨k,hk,rfl⟩:=mF.1 hx;exact(H k hk).1
 ·obtain⟨k,hk,rfl⟩:=mF.1 hf
  exact(H k hk).2.1
theorem agk{c:Cn}{vs:List Vp}{s:qB}(key:Vector UInt8 16)(h:zw c vs s=true)(hf:∀x∈s.rX,x.qg):oH 1152921504606846976 ⟨key,c,vs⟩ s:=by
 unfold zw Wn adV Yb at h;simp only[bB,decide_eq_true_eq,fV,eG]at h;obtain⟨⟨h1,h2,h3,h4⟩,⟨h5,h6,h7⟩,h8,h9⟩:=h;obtain⟨f1,f2⟩:=ajN h4 h9;have H:∀(k:Nat)(hk:k<s.h.a),s.h[k].E=(s.rX[k]'(by omega)).E/\0<=s.h[k].J/\s.h[k].J<(if s.h[k].down then c.kr else c.fall):=fun k hk=>by
  have:=h8 k hk;unfold Wm aqs at this;rw[uH hk,uH (by omega)]at this;simpa using this
 refine⟨h1,h2,hf,?_,?_,f1,f2,by omega,by omega,h7⟩
 ·apply List.ext_getElem (by simpa using h3)
  intro i hi1 hi2;simp only[List.getElem_map];exact(H i (by simpa using hi1)).1
 ·intro x hx
  obtain⟨k,hk,rfl⟩:=mF.1 hx;exact(H k hk).2
theorem oH.right{M:Int}{e:En}{s:qB}(h:oH M e s)(hM:M<=1152921504606846976):zw e.c e.vs s=true:=by
 have hlen:s.h.a=s.rX.a:=by have:=congrArg List.length h.nm;simpa using this
 unfold zw Wn adV Yb;simp only[bB,decide_eq_true_eq,fV,eG];refine⟨⟨h.cn,h.pl,hlen,h.fl.len⟩,⟨h.ti,by have:=h.no;omega,fun n hn=>by have:=h.ct n hn;omega⟩,fun k hk=>?_,fun k hk=>?_⟩
 ·unfold Wm aqs
  rw[uH hk,uH (show k<s.rX.a by omega)];have e1:s.h[k].E=(s.rX[k]'(by omega)).E:=by
   have:=List.getElem_of_eq h.nm (i:=k) (by simpa using hk);simpa using this
  have:=h.hl _ (eY hk);simp only[bB,decide_eq_true_eq,beq_iff_eq];exact⟨e1,this⟩
 ·unfold Sn
  rw[uH hk];have h1:=h.fw _ (eY hk);simp only[bB,decide_eq_true_eq,oz,nJ];refine⟨h.fl.ok _ (eY hk),h1.1,h1.2.1,h1.2.2,?_,?_⟩
  ·unfold Zd
   rw[uH hk,qv];intro x hx;rw[rP]at hx;obtain⟨i,hi,rfl⟩:=hx;have:=gu.1 h.fl.one i k (by omega) hk (by omega);simpa[tV]using this
  ·rcases eD k with e|e
   ·exact .a e
   ·right
    rw[uH (by omega)];exact gu.1 h.fl.asc (k-1) k (by omega) hk (by omega)
theorem am7{dX:Int}{l:List Fw}{k:Nat}(h:wE dX l)(hk:k<l.a):DZ dX (l.d k) (l.c k ko)=l.d (k+1):=by
 rw[uH hk];have hn:pW (l.d k) l[k].key=none:=by
  unfold pW;rw[List.find?_eq_none];intro x hx;rw[rP]at hx;obtain⟨i,hi,rfl⟩:=hx;have:=gu.1 h.one i k (by omega) hk (by omega);simpa[tV]using this
 have hlen:=h.len;unfold DZ;rw[if_pos (h.ok _ (eY hk)),hn,if_neg (by simp),if_neg (by rw[bL];omega),acV (fun x hx=>tL.asy ?_),dV hk];rw[rP]at hx;obtain⟨i,hi,rfl⟩:=hx;exact gu.1 h.asc i k (by omega) hk (by omega)
theorem Qe{c:Cn}{vs:List Vp}(key:Vector UInt8 16)(h:yu c vs=true):oH 0 ⟨key,c,vs⟩ uO:=by
 have hr:=(sN h).2.1;refine⟨h,wZ.2 ⟨?_,?_,?_,?_,?_⟩,(fun x hx=>by cases hx),rfl,(fun x hx=>by cases hx),.nil ?_,(fun x hx=>by cases hx),?_,?_,fun n hn=>?_⟩
 ·simp[uO]
 ·simp[uO]
 ·simp[uO]
 ·intro x hx;cases hx
 ·exact List.Pairwise.nil
 ·show 0<=c.dX;omega
 ·simp[uO]
 ·simp[uO]
 ·simp[uO]at hn;omega
def Ae(z:Int):Bool:=decide (z<0)||decide (1152921504606846976<z)
theorem ajO(z:Int):Ae z = !Yb z 1152921504606846976:=by
 unfold Ae Yb;rw[Bool.eq_iff_iff];simp only[nJ,decide_eq_true_eq,oz,Bool.and_eq_false_iff,decide_eq_false_iff_not];omega
theorem abw(z:Int)(w:au):aQ aj 47 #[.b .a z] w fun e w'=>e=.a (.e (Ae z))/\w=w':=by
 have HB:=ah (show Ae z=(decide (z<0)||decide (1152921504606846976<z))from rfl);go_enter Tryz.func47,Tryz.ntmps47;go_wp2
 all_goals(go_ret;refine⟨?_,rfl⟩;rw[HB.i];simp_all)
theorem adW(args:Array aC)(w:au):(callFunc 47 args).J aj w=.ok (.enter 47 args) w:=by kernel_rfl
theorem YG.fG{w:au}{B n:Nat}{A:Option aU}{l:List Int}(h:YG w B A n l){k:Nat}(hk:k<n):∃b o,A=some ⟨b,o,none⟩/\w.b ⟨b,o+k,none⟩=some (.b .a (l.c k 0)):=by
 obtain⟨b,o,hA,hb,hc⟩:=iF.cell (f:=Gt) (s:=1) (fun _=>rfl) 0 h hk;refine⟨b,o,hA,?_⟩;have:=hc 0 (by omega);rw[gL,nM]at this;exact this
theorem au7(A:Option aU)(n c B:Nat)(w:au)(l:List Int)(hc:n<=1000000000)(hr:YG w B A n l):
 aQ aj 114 #[.a A n c,.func (.func 47) #[] #[]] w fun e w'=>∃r:Int,e=.a (.b .a r)/\(decide (0<=r)=l.any Ae)/\w=w':=by
 have hen:=adW;have GG:=ah abw;have HR:=ah hr;have hl:=ah hr.len;clear hr;go_enter Tryz.func114,Tryz.ntmps114;go_wp2;go_loop [8] (fun s8=>∃i:Nat,i<=n/\s8=.b .a i/\∀j,j<i->Ae (l.c j 0)=false) (fun s8=>n-(intOf s8).e)
 case atStart=>exact⟨0,by omega,rfl,fun j h1=>by omega⟩
 case round=>
  obtain⟨i,hi,rfl,hall⟩:=hrel;have HA:=ah hall;clear hall;by_cases hlt:i<n
  ·have hin:(i:Int)<n:=by omega
   obtain⟨b,o,rfl,hcell⟩:=HR.i.fG hlt;have HG:=ah (uH (l:=l) (d:=0) (k:=i) (by rw[hl.i];exact hlt));obtain⟨m,hm⟩:=dw (l.c i 0);rw[<-hm]at hcell;have HM:=ah hm;clear hm;obtain⟨k,hk⟩:=sQ (Ae m);have HK:=ah hk;have G1:=ah (fun w=>GG.i m w);rw[hk]at G1;clear hk;cases k
   ·go_wp2_with (refine(G1.i _).g ?_;rintro e w' ⟨rfl,rfl⟩)
    go_round
    case rel=>exact⟨i+1,by omega,by go_num,fun j h1=>by
     by_cases hji:j=i
     ·rw[hji,<-HM.i];exact HK.i
     ·exact HA.i j (by omega)⟩
    case measure=>simp[intOf]<;>omega
   ·have FW:=ah (show l.any Ae=true from List.any_eq_true.2 ⟨m,by rw[HM.i,HG.i];exact eY _,HK.i⟩)
    go_wp2_with (refine(G1.i _).g ?_;rintro e w' ⟨rfl,rfl⟩);go_ret;exact⟨_,rfl,by rw[FW.i];simp,rfl⟩
  ·obtain rfl:i=n:=by omega
   have HS:=ah (show l.any Ae=false from qv.2 (fun x hx=>by
    obtain⟨j,hj,rfl⟩:=mF.1 hx;have:=HA.i j (by rw[hl.i]at hj;exact hj);rw[uH hj]at this;simp[this]))
   go_wp2;go_ret;exact⟨_,rfl,by rw[HS.i];simp,rfl⟩
theorem au8(A:Option aU)(n c B:Nat)(w:au)(l:List Int)(hc:n<=1000000000)(hr:YG w B A n l):
 aQ aj 46 #[.a A n c,.func (.func 47) #[] #[]] w fun e w'=>e=.a (.e (l.any Ae))/\w=w':=by
 have I:=ah (au7 A n c B w l hc hr);clear hr;go_enter Tryz.func46,Tryz.ntmps46;go_wp2_with (go_at_call 114;refine I.i.g ?_;rintro e w' ⟨r,rfl,hr,rfl⟩);go_ret;exact⟨by simp,rfl⟩
theorem aqt(v:Vector Int 11):(v.a.any Ae) = !v.a.all (Yb · 1152921504606846976):=by
 rw[List.not_all_eq_any_not];congr 1;funext z;exact ajO z
structure Sl where
 acS:Bool
 qZ:Fw
def Sl.aA(x:Sl):Array aC:=#[.e x.acS]++x.qZ.aA
theorem Sl.I(x:Sl):x.aA.j=42:=by simp[Sl.aA,Fw.I]
theorem Sl.cO(x:Sl):x.aA.all (·.h)=true:=iq ((by simp[dx])) (Fw.cO _)
@[go_sem]theorem Sl.eF(x:Sl):eF x.aA=42:=Sl.I x
@[go_sem]theorem Sl.all(x:Sl):x.aA.m 0 42=x.aA:=by have:=Sl.I x;rw[<-this];simp
@[go_sem]theorem Sl.Oj(x:Sl):x.aA[0]? = some (.e x.acS):=by simp[Sl.aA,aG,Fw.I]
@[go_sem]theorem Sl.TQ(x:Sl):x.aA.m 1 42=x.qZ.aA:=by simp[Sl.aA,dD,Fw.I,qc,tX]
def GL:Sl:=⟨false,ko⟩
@[go_sem]theorem azg:cK #[bQ false,bQ false,aB,aB,aB,aB,aB,aB,aB,aB,aB,aB,aB,aB,aB,aB,aB,aB,bQ false,aB,aB,aB,aB,aB,aB,aB,aB,aB,aB,aB,aB,aB,aB,aB,aB,bg,bg,bg,jl {data:=#[]},bg,bg,bg]=cK GL.aA:=rfl
@[go_sem]theorem au9:eO #[bQ false,bQ false,aB,aB,aB,aB,aB,aB,aB,aB,aB,aB,aB,aB,aB,aB,aB,aB,bQ false,aB,aB,aB,aB,aB,aB,aB,aB,aB,aB,aB,aB,aB,aB,aB,aB,bg,bg,bg,jl {data:=#[]},bg,bg,bg] 213=eO GL.aA 213:=rfl
theorem kSl:oW 213 42 GL.aA:=⟨⟨_,um,rfl⟩,by kernel_rfl,by kernel_rfl,Sl.I _⟩
@[go_sem ↓]theorem aKr(v:aC):cZ 213 v=xK 213 v:=rfl
@[go_sem ↓]theorem aKs(v x:aC):eU 213 v x=zk 213 v x:=rfl
@[go_sem]theorem aHl(W:au)(b o:Nat)(h:vE W b o 42):(xK 213 (.c (some ⟨b,o,none⟩))).J aj W=.ok (.d (dQ W b o 42)) W:=kSl.ld W b o h
@[go_sem]theorem aEc(W:au)(c:Array aC)(x:Sl)(b:Nat)(hb:b=W.a.j)(hc:eF c=42):(zk 213 (.c (some ⟨b,0,none⟩)) (.d x.aA)).J aj (W.alloc (.D c 213))=.ok () (W.alloc (.D x.aA 213)):=kSl.stN W c x.aA b hb hc (Sl.I x) (Sl.cO x)
@[go_sem]theorem aHm(W:au)(b o:Nat)(x:Sl)(h:W.O b o 42):(zk 213 (.c (some ⟨b,o,none⟩)) (.d x.aA)).J aj W=.ok () (gZ W b o x.aA):=kSl.st W b o x.aA h (Sl.I x) (Sl.cO x)
@[go_sem ↓]theorem aKt(ps:Array (Nat×aC)):fM 213 ps=uJ 213 ps:=rfl
theorem azh(w:au)(fs:Array oh)(h:aj.k 213=some (.struct fs)):(iG (fun f=>Prod.mk f.Z <$> sizeOf f.type) fs:Sem (Array (Nat×Nat))).J aj w=.ok #[(0,1),(1,41)] w:=by
 have e:=um;rw[h]at e;cases e;show _=_
 kernel_rfl
@[go_sem]theorem aEd(W:au):(uJ 213 #[]).J aj W=.ok (.d GL.aA) W:=kSl.bd0 W _ um ⟨_,azh W _ um⟩
@[go_sem]theorem azi(W:au)(acS:Bool)(qZ:Fw):(uJ 213 #[(0,.e acS),(1,.d (qZ.aA))]).J aj W=.ok (.d (Sl.mk acS qZ).aA) W:=kSl.bd W _ _ _ _ um (azh W _ um) (by
 refine uS (Sl.I _) ?_ ?_
 ·simp[rM,bZ,Fw.I]
 ·simp[qW,bZ,Sl.aA]<;>(simp only[<-Array.append_assoc];rfl))
structure Tk where
 key:Vector UInt8 16
 dX:Int
 count:Int
 oP:Option aU
 lM:Nat
 vY:Nat
def Tk.aA(x:Tk):Array aC:=jg x.key ++ #[.b .a x.dX,.b .a x.count,.a x.oP x.lM x.vY]
theorem Tk.I(x:Tk):x.aA.j=19:=by simp[Tk.aA,dL]
@[go_sem]theorem Tk.abx(x:Tk):x.aA.m 0 16=jg x.key:=by simp[Tk.aA,dD,dL,qc,tX]
@[go_sem]theorem Tk.Tt(x:Tk):x.aA[16]? = some (.b .a x.dX):=by simp[Tk.aA,aG,dL]
@[go_sem]theorem Tk.adX(x:Tk):x.aA[17]? = some (.b .a x.count):=by simp[Tk.aA,aG,dL]
@[go_sem]theorem Tk.wG(x:Tk):x.aA[18]? = some (.a x.oP x.lM x.vY):=by simp[Tk.aA,aG,dL]
theorem Tk.Qf(x:Tk)(v:Int):x.aA.b 17 (.b .a v)=({x with count:=v}:Tk).aA:=by simp[Tk.aA,aN,dL]
def ajP:Tk:=⟨(bH 16 0),0,0,none,0,0⟩
@[go_sem]theorem azj:cK #[aB,aB,aB,aB,aB,aB,aB,aB,aB,aB,aB,aB,aB,aB,aB,aB,bg,bg,bC none 0 0]=cK ajP.aA:=rfl
@[go_sem]theorem au':eO #[aB,aB,aB,aB,aB,aB,aB,aB,aB,aB,aB,aB,aB,aB,aB,aB,bg,bg,bC none 0 0] 207=eO ajP.aA 207:=rfl
theorem kTk:oW 207 19 ajP.aA:=⟨⟨_,DL,rfl⟩,by kernel_rfl,by kernel_rfl,Tk.I _⟩
@[go_sem ↓]theorem aKv(v:aC):cZ 207 v=xK 207 v:=rfl
@[go_sem ↓]theorem aKw(v x:aC):eU 207 v x=zk 207 v x:=rfl
@[go_sem ↓]theorem aKx(ps:Array (Nat×aC)):fM 207 ps=uJ 207 ps:=rfl
theorem aEe(w:au)(fs:Array oh)(h:aj.k 207=some (.struct fs)):(iG (fun f=>Prod.mk f.Z <$> sizeOf f.type) fs:Sem (Array (Nat×Nat))).J aj w=.ok #[(0,16),(16,1),(17,1),(18,1)] w:=by
 have e:=DL;rw[h]at e;cases e;show _=_
 kernel_rfl
def vZ:Option Fw->Sl
 | none=>GL
 | some f=>⟨true,f⟩
theorem Jz(o:Option Fw):(vZ o).acS=o.isSome:=by cases o<;>rfl
def slC(o:Option Fw):Array aC:=(vZ o).aA
theorem Fe(o:Option Fw):(slC o).j=42:=Sl.I _
section
attribute [local go_sem high] jc jK
theorem xO(w:au):∃(T:Type)(f:T->au)(n0:T),f n0=w.drew/\(∀n,aM w.a.j w (f n))/\(∀W,aM w.a.j w W->∃n,W=f n):=EC (aM w.a.j w) w (aH _ _).drew
theorem adY(n:Nat)(z:Int)(hz:z=n)(hn:n<=4)(p:Nat)(s:S4)(hs:s.ok)(W:au)(hb:dN W p s.aA):aQ aj 183 #[.c (some ⟨p,0,none⟩),.b .a z] W fun e W'=>e=.a (.K #[])/\dN W' p (zM KD n s).aA/\W.d W' (some p):=by subst hz;exact afc n hn p s hs W hb
theorem adZ(p:Nat)(s:S4)(n:Nat)(hs:s.ok)(hn:n<18446744073709551616)(W:au)(hb:dN W p s.aA):aQ aj 182 #[.c (some ⟨p,0,none⟩),.b .c n] W fun e W'=>e=.a (.K #[])/\dN W' p (UH s n).aA/\W.d W' (some p):=by
 obtain⟨a,b,c,d⟩:=s;have HS:=ah hs;obtain⟨y1,y2,y3,y4,y5⟩:=hb.num;simp only[S4.ok]at hs y1 y2 y3 y4;have e1:=pV d n hs.2.2.2 hn;have OK1:=ah (ahg HS.i hn);have X1:=ah (hb.p3 (d ^^^ n));have G1:=ah (xU (ahf W (some p)) (p:=⟨p,3,none⟩) (.a rfl) (.b .c (d ^^^ n:Nat)));have OK2:=ah (Na 2 _ OK1.i);have C:=ah (adY 2 2 rfl (by omega) p (alv ⟨a,b,c,d⟩ n) OK1.i _ X1.i);have HW:=ah (show UH ⟨a,b,c,d⟩ n=ato (zM KD 2 (alv ⟨a,b,c,d⟩ n)) n from rfl);obtain⟨t,ht⟩:=dw (zM KD 2 (alv ⟨a,b,c,d⟩ n));rw[<-ht]at OK2 C HW;have HN:=ah hn;obtain⟨ta,tb,tc,td⟩:=t;have e2:=pV ta n OK2.i.1 hn;clear ht hs hb hn;rw[HW.i];go_enter Tryz.func182,Tryz.ntmps182;go_wp2_with (go_at_call 183;go_loud (with_reducible refine C.i.g ?_);rintro e w2 ⟨rfl,hb2,hg2⟩;obtain⟨z1,z2,z3,z4,z5⟩:=hb2.num;have zz:=z5 0;have X2:=ah hb2;have G2:=ah hg2;clear hb2 hg2);go_end0;exact⟨rfl,X2.i.p0 _,xU (MH G1.i G2.i) (p:=⟨p,0,none⟩) (.a rfl) _⟩
theorem am8{W:au}{q:Nat}{k:Vector UInt8 16}(h:dN W q (jg k))(o m:Nat)(ho:o+m<=16):fZ W W.a.j (some ⟨q,o,none⟩) m ((k.a.f o).d m):=by
 refine⟨by simp;omega,fun _=>⟨_,rfl,h.lt,fun j u hu=>?_⟩⟩;have hj:j<m:=by
  rcases aZ j m with hj|hj
  ·exact hj
  ·rw[aT (by simp;omega)]at hu;cases hu
 rw[iH,h.M.1,<-hu];simp[jg,jv,hj,jq]
theorem kS4:oW 280 4 (S4.mk 0 0 0 0).aA:=⟨⟨_,DN,rfl⟩,by kernel_rfl,by kernel_rfl,rfl⟩
@[go_sem ↓]theorem aKz(ps:Array (Nat×aC)):fM 280 ps=uJ 280 ps:=rfl
theorem aEf(w:au)(fs:Array oh)(h:aj.k 280=some (.struct fs)):(iG (fun f=>Prod.mk f.Z <$> sizeOf f.type) fs:Sem (Array (Nat×Nat))).J aj w=.ok #[(0,1),(1,1),(2,1),(3,1)] w:=by
 have e:=DN;rw[h]at e;cases e;show _=_
 kernel_rfl
@[go_sem]theorem azk(W:au)(a b c d:Nat):(uJ 280 #[(0,.b .c a),(1,.b .c b),(2,.b .c c),(3,.b .c d)]).J aj W=.ok (.d (S4.mk a b c d).aA) W:=kS4.bd W _ _ _ _ DN (aEf W _ DN) (by
 refine uS rfl ?_ ?_
 ·simp[rM,bZ,S4.aA]
 ·simp[qW,bZ,S4.aA])
theorem ad1(x y:Nat)(hx:x<256)(hy:y<72057594037927936):bits .or .c ((x*72057594037927936:Nat):Int) (y:Int)=((y+x*72057594037927936:Nat):Int):=by
 rw[bits_or_u64_nat _ _ (by omega) (by omega)];congr 1;have h:=Nat.two_pow_add_eq_or_of_lt (i:=56) (b:=y) (by simpa using hy) x;rw[show(2:Nat)^56=72057594037927936 by decide,Dh]at h;omega
theorem ava{W:au}{q:Nat}{k:Vector UInt8 16}(h:dN W q (jg k)):aQ aj 180 #[.a (some ⟨q,0,none⟩) 8 16,.e false] W (gy W (.b .c (leN (k.a.d 8)))):=by
 have:=LU _ 8 16 _ W (by omega) (by omega) (am8 h 0 8 (by omega));rw[kZ,vN]at this;exact this
theorem avb{W:au}{q:Nat}{k:Vector UInt8 16}(h:dN W q (jg k)):aQ aj 180 #[.a (some ⟨q,8,none⟩) 8 8,.e false] W (gy W (.b .c (leN (k.a.f 8)))):=by
 have:=LU _ 8 8 _ W (by omega) (by omega) (am8 h 8 8 (by omega));rw[vN]at this;have e:(k.a.f 8).d 8=k.a.f 8:=aL (by simp);rw[show min 8 8=8 from rfl,e]at this;exact this
theorem Nv.go{W W':au}{l:List Xx}{bss:List (List UInt8)}(h:Nv W W.a.j l bss)(hb:aM W.a.j W W'):Nv W' W'.a.j l bss:=⟨h.1,fun i hi=>((h.2 i hi).S hb).lH hb.j⟩
theorem ajQ(l:List Xx)(bss:List (List UInt8))(A:Option aU)(n c:Nat)(w:au)(hR:RdS w w.a.j A n l)(hH:Nv w w.a.j l bss)(hn:n<=1000)(hs:yM l<=1000000000)(bs:List UInt8)(m:Nat)(hbs:bss.flatten=bs)(hm:bs.a=m):
 aQ aj 181 #[.a A n c] w fun e w'=>∃A1 c1,e=.a (.a A1 m c1)/\(m<=c1/\c1<=maxLen)/\fZ w' w'.a.j A1 m bs/\(∀a,A1=some a->w.a.j<=a.block)/\aM w.a.j w w':=by
 subst hbs hm;refine(LV l bss A n c w hR hH hn hs).g ?_;rintro e w' ⟨v,rfl,ho,hb⟩;obtain⟨A1,c1,rfl,h1,h2⟩:=jw ho;exact⟨A1,c1,rfl,⟨h1,h2⟩,fZ.gV ho,fun a ha=>(ho.lt a.block (by rw[ha];rfl)).1,hb⟩
def XD(s:S4)(l:List UInt8)(e:Nat):Nat:=aly ((Pn (l.a/8) l e).foldl UH s)
theorem ajR(s:S4)(l:List UInt8)(e:Nat)(h:8<=l.a):XD s l e=XD (UH s (leN (l.d 8))) (l.f 8) e:=by
 unfold XD;rw[show l.a/8=(l.f 8).a/8+1 by rw[jG];omega,Pn,jW]
theorem ajS(s:S4)(l:List UInt8)(e:Nat)(h:l.a<8):XD s l e=aly (UH s (leN l+e*72057594037927936)):=by
 unfold XD;rw[show l.a/8=0 by omega];rfl
theorem Ze(key:Vector UInt8 16)(l:List Xx)(bss:List (List UInt8))(A:Option aU)(n c:Nat)(w:au)(hR:RdS w w.a.j A n l)(hH:Nv w w.a.j l bss)(hn:n<=1000)(hs:yM l<=100000000)(bs:List UInt8)(hbs:bss.flatten=bs)(hl:bs.a<=100000000):
 aQ aj 97 #[.d (jg key),.a A n c] w (gy w (.b .c (xZ key bs))):=by
 obtain⟨m,hm⟩:=sQ bs.a;have HM:=ah hm;have HBS:=ah hbs;have HT:=ah (show xZ key bs=XD (apb key) bs (bs.a%256)from rfl);rw[hm]at hl HT;clear hm hbs;have HR:=ah hR;have HH:=ah hH;have Z0:=ah ((Bx.start w).new (jg key) 22);clear hR hH;go_enter Tryz.func97,Tryz.ntmps97;go_upto_region 1 with fail
 generalize w.alloc (.D (jg key) 22)=w1 at Z0 ⊢;obtain⟨k0,hk0⟩:∃k,k=leN (key.a.d 8):=⟨_,rfl⟩
 obtain⟨k1,hk1⟩:∃k,k=leN (key.a.f 8):=⟨_,rfl⟩
 have HS:=ah (show apb key=⟨k0 ^^^ 8317987319222330741,k1 ^^^ 7237128888997146477,k0 ^^^ 7816392313619706465,k1 ^^^ 8387220255154660723⟩by rw[hk0,hk1];rfl);have b0:k0<18446744073709551616:=by rw[hk0];exact J7 _ (by simp)
 have b1:k1<18446744073709551616:=by rw[hk1];exact J7 _ (by simp)
 have JW:=ah (ahh key);obtain⟨T,f,n0,E0,es,ew⟩:=xO (w1);have hT:Nonempty T:=⟨n0⟩
 have ES:=ah es;have EW:=ah ew;have C0:=ah (fun m=>ava (Z0.i.go (es m)).X);have C1:=ah (fun m=>avb (Z0.i.go (es m)).X);rw[<-hk0]at C0;rw[<-hk1]at C1;clear es ew;refine nW f (by kernel_rfl) (by kernel_rfl) n0 E0 ?_
 repeat(go_big_quiet_step ((first|(go_at_call 180;(with_reducible refine(C0.i _).g ?_);rintro e w2 ⟨rfl,hb⟩;exact⟨rfl,EW.i _ ((ES.i _).trans (hb.g (ES.i _).j))⟩)|(go_at_call 180;(with_reducible refine(C1.i _).g ?_);rintro e w2 ⟨rfl,hb⟩;exact⟨rfl,EW.i _ ((ES.i _).trans (hb.g (ES.i _).j))⟩))))
 refine gN ?_;rintro _ ⟨m',rfl⟩;have HB:=ah (ES.i m');generalize f m'=wN at *;clear ES EW E0 hT n0;have Z1:=ah (Z0.i.go HB.i);clear HB C0 C1 hk0 hk1 Z0;have x0:bits .xor .c (k0:Int) 8317987319222330741=((k0 ^^^ 8317987319222330741:Nat):Int):=pV k0 8317987319222330741 b0 (by decide);have x1:bits .xor .c (k1:Int) 7237128888997146477=((k1 ^^^ 7237128888997146477:Nat):Int):=pV k1 7237128888997146477 b1 (by decide);have x2:bits .xor .c (k0:Int) 7816392313619706465=((k0 ^^^ 7816392313619706465:Nat):Int):=pV k0 7816392313619706465 b0 (by decide);have x3:bits .xor .c (k1:Int) 8387220255154660723=((k1 ^^^ 8387220255154660723:Nat):Int):=pV k1 8387220255154660723 b1 (by decide);obtain⟨S,hS⟩:=dw (S4.mk (k0 ^^^ 8317987319222330741) (k1 ^^^ 7237128888997146477) (k0 ^^^ 7816392313619706465) (k1 ^^^ 8387220255154660723));go_upto_region 3 with fail
 rw[<-hS]at HS ⊢;rw[HS.i]at JW;have Z2:=ah (Z1.i.new S.aA 280);have HPW:=ah Z1.i.R.j;clear hS x0 x1 x2 x3 b0 b1;generalize wN.alloc (.D S.aA 280)=w3 at Z2 ⊢;generalize wN.a.j=p at *;have HP3:=ah Z2.i.X.lt;have CC:=ah (ajQ l bss A n c w3 (Z2.i.rdR HR.i) (HH.i.go Z2.i.R) hn (by omega) bs m HBS.i HM.i);go_upto_region 4 with(go_at_call 181;(with_reducible refine CC.i.g ?_);rintro e w4 ⟨A1,c1,rfl,hc1,hrd,hbk,hb⟩;have RD:=ah hrd;have HC1:=ah hc1;have HBK:=ah hbk;have Z4:=ah (Z2.i.go hb);clear hrd hb hc1 hbk)
 clear CC Z2;have v1:jB.wrap (m:Int)=m:=by rw[jT];omega
 have v2:jB.wrap ((m:Int)*72057594037927936)=((m%256*72057594037927936:Nat):Int):=by rw[jT];omega
 obtain⟨e8,he8⟩:∃e,e=m%256:=⟨_,rfl⟩
 rw[<-he8]at v2 HT;have he9:e8<256:=by omega
 rw[HS.i]at HT;obtain⟨eN,heN⟩:∃e,e=e8*72057594037927936:=⟨_,rfl⟩
 rw[<-heN]at v2;have HEN:=ah heN;clear he8 heN;go_wp2;go_loopw [8] (fun s8 wr=>∃(A':Option aU)(m' c':Nat)(s:S4)(l':List UInt8),s8=.a A' m' c'/\(m'<=c'/\c'<=maxLen/\m'<=m)/\s.ok/\dN wr p s.aA/\fZ wr wr.a.j A' m' l'/\(∀a,A'=some a->a.block≠p)/\XD S bs e8=XD s l' e8/\aM w.a.j w wr) (fun s8 _=>arZ s8)
 case atStart=>exact⟨A1,m,c1,S,bs,rfl,⟨HC1.i.1,HC1.i.2,ay _⟩,JW.i,Z4.i.X,RD.i,fun a ha=>by have:=HBK.i a ha;have:=HP3.i;omega,rfl,Z4.i.R⟩
 case round=>
  obtain⟨A',m',c',s,l',rfl,⟨hmc,hcc,hmm⟩,hok,hbx,hrd,hne,hst,hbl⟩:=hrel;have aqu:=ah hok;have HBX:=ah hbx;have HRD:=ah hrd;have HNE:=ah hne;have HST:=ah hst;have GI:=ah hbl;have MF:=ah hrd.len;have C1:=ah (LU A' m' c' l' wr hmc (by unfold maxLen at hcc;omega) hrd);clear hok hbx hrd hne hst hbl;by_cases h8:8<=m'
  ·have h8i:(8:Int)<=m':=by omega
   obtain⟨x,hx⟩:=dw (leN (l'.d 8));have HXL:=ah (show x<18446744073709551616 by rw[hx];exact J7 _ (by simp;omega));have HX:=ah hx;rw[<-hx]at C1;clear hx;go_wp2_with (first|(go_at_call 180;(with_reducible refine C1.i.g ?_);rintro e w5 ⟨rfl,hb⟩;have C2:=ah (adZ p s x aqu.i HXL.i w5 (HBX.i.go hb));have R5:=ah (HRD.i.upon hb);have L5:=ah (GI.i.trans (hb.g GI.i.j));clear hb)|(go_at_call 182;go_loud (with_reducible refine C2.i.g ?_);rintro e w6 ⟨rfl,hb6,hg6⟩;have B6:=ah hb6;have R6:=ah ((fZ.atE (w:=w5) R5.i hg6 (fun a ha e=>HNE.i a ha (Option.some.inj e))).lH hg6.j);have L6:=ah (qM L5.i hg6 HPW.i L5.i.j);clear hb6 hg6));go_roundw
   case rel=>exact⟨_,_,_,UH s x,l'.f 8,rfl,⟨by omega,by omega,by omega⟩,aaw aqu.i HXL.i,B6.i,R6.i.yN h8 hmc,fun a ha=>by
    unfold vI at ha;split at ha
    ·exact HNE.i a ha
    ·cases hA:A' with
     | none=>rw[hA]at ha;cases ha
     | some a0=>rw[hA]at ha;injection ha with ha;rw[<-ha];exact HNE.i a0 hA,by rw[HST.i,ajR _ _ _ (by rw[MF.i];exact h8),HX.i],L6.i⟩
   case measure=>simp[arZ];omega
  ·have h8i:¬(8:Int)<=m':=by omega
   obtain⟨y,hy⟩:=dw (leN l');have hy2:l'.d 8=l':=aL (by rw[MF.i];omega);have hy3:y<72057594037927936:=by
    have h1:=afd l';have h2:256^l'.a<=256^7:=Nat.pow_le_pow_right (by omega) (by rw[MF.i];omega);omega
   rw[hy2,<-hy]at C1;have HF:=ah (show XD S bs e8=aly (UH s (y+e8*72057594037927936))by rw[HST.i,ajS _ _ _ (by rw[MF.i];omega),<-hy]);have o1:=ad1 e8 y he9 hy3;rw[<-HEN.i]at o1 HF;obtain⟨z,hz⟩:=dw (y+eN);have HZL:=ah (show z<18446744073709551616 by have:=HEN.i;omega);rw[<-hz]at o1 HF;obtain⟨t,ht⟩:=dw (UH s z);have HTK:=ah (show t.ok by rw[ht];exact aaw aqu.i HZL.i);have HT2:=ah ht;rw[<-ht]at HF;obtain⟨u,hu⟩:=dw (zM KD 4 (alx t 255));have HUK:=ah (show u.ok by rw[hu];exact Na 4 _ (aav HTK.i (by decide)));have HU:=ah hu;have HFU:=ah (show XD S bs e8=atp u by rw[HF.i,hu];rfl);have x2:bits .xor .c (t.c:Int) 255=((t.c ^^^ 255:Nat):Int):=pV t.c 255 HTK.i.2.2.1 (by decide);clear hy hy2 hz ht hu hy3;go_upto_region 9 with(first|(go_at_call 180;(with_reducible refine C1.i.g ?_);rintro e w5 ⟨rfl,hb⟩;have C2:=ah (HT2.i ▸ adZ p s z aqu.i HZL.i w5 (HBX.i.go hb));have L5:=ah (GI.i.trans (hb.g GI.i.j));clear hb)|(go_at_call 182;(with_reducible refine C2.i.g ?_);rintro e w6 ⟨rfl,hb6,hg6⟩;have B6:=ah hb6;have L6:=ah (qM L5.i hg6 HPW.i L5.i.j);clear hb6 hg6))
   obtain⟨y1,y2,y3,y4,y5⟩:=B6.i.num;have f2:=y5 2;have X9:=ah (show dN (w6.G ⟨p,2,none⟩ (.b .c (t.c ^^^ 255:Nat))) p (alx t 255).aA from B6.i.p2 (t.c ^^^ 255));have L9:=ah (L6.i.G (p:=⟨p,2,none⟩) HPW.i (.b .c (t.c ^^^ 255:Nat)));go_upto_region 10 with fail
   clear y1 y2 y3 y4 y5 f2 x2 o1 B6 L6;generalize w6.G ⟨p,2,none⟩ (.b .c (t.c ^^^ 255:Nat))=w7 at X9 L9 ⊢;have C4:=ah (HU.i ▸ adY 4 4 rfl (by omega) p (alx t 255) (aav HTK.i (by decide)) w7 X9.i);go_upto_region 11 with(go_at_call 183;go_loud (with_reducible refine C4.i.g ?_);rintro e w8 ⟨rfl,XQ,hg8⟩;have B8:=ah XQ;have L8:=ah (qM L9.i hg8 HPW.i L9.i.j);clear XQ hg8)
   obtain⟨u1,u2,u3,u4⟩:=u;obtain⟨y1,y2,y3,y4,y5⟩:=B8.i.num;simp only at y1 y2 y3 y4;have o2:=pV u1 u2 HUK.i.1 HUK.i.2.1;have o3:=pV (u1 ^^^ u2) u3 (xY _ _ HUK.i.1 HUK.i.2.1) HUK.i.2.2.1;have o4:=pV (u1 ^^^ u2 ^^^ u3) u4 (xY _ _ (xY _ _ HUK.i.1 HUK.i.2.1) HUK.i.2.2.1) HUK.i.2.2.2;go_quiet (fail);have L10:=ah (fJ L8.i nq);go_wp2;go_ret;refine⟨?_,L10.i⟩;rw[HT.i,HFU.i];rfl
end
section
def Wo(s:List (Option Fw)):Array aC:=(s.h fun o=>(slC o).a).b
theorem Wp(o:Option Fw)(s:List (Option Fw)):Wo (o::s)=slC o++Wo s:=by
 simp[Wo,iO]
theorem uY(s:List (Option Fw)):(Wo s).j=s.a*42:=by
 induction s with
 | nil=>rfl
 | cons o s ih=>rw[Wp,om,ih,Fe,bD];omega
theorem Kk:∀(s:List (Option Fw))(i j:Nat),i<s.a->j<42->(Wo s)[i*42+j]? = (slC (fG s i))[j]?
 | [],i,j,hi,_=>by simp at hi
 | o::s,0,j,_,hj=>by
   rw[Wp,Nat.zero_mul,bl,aG,if_pos (by rw[Fe];exact hj)];rfl
 | o::s,i+1,j,hi,hj=>by
   rw[Wp,aG,if_neg (by rw[Fe];omega),Fe,show(i+1)*42+j-42=i*42+j by omega];exact Kk s i j (by simpa using hi) hj
theorem Qg(s:List (Option Fw))(i k m:Nat)(hi:i<s.a)(hm:k+m<=42)(c:Array aC)(hc:(slC (fG s i)).m k (k+m)=c):(Wo s).m (i*42+k) (i*42+k+m)=c:=by
 rw[<-hc];have h1:=uY s;have h2:=Fe (fG s i);have h3:(i+1)*42<=s.a*42:=bY 42 hi;apply eB;intro j;rw[dz,dz];by_cases hj:j<m
 ·rw[if_pos (by omega),if_pos (by omega),nG,Kk s i (k+j) hi (by omega)]
 ·rw[if_neg (by omega),if_neg (by omega)]
theorem am9(s:List (Option Fw))(i:Nat)(hi:i<s.a):(Wo s).m (i*42) (i*42+42)=(vZ (fG s i)).aA:=Qg s i 0 42 hi (by omega) _ (Sl.all _)
theorem am'(s:List (Option Fw))(i:Nat)(hi:i<s.a):(Wo s).m (i*42+1) (i*42+1+41)=(vZ (fG s i)).qZ.aA:=Qg s i 1 41 hi (by omega) _ (Sl.TQ _)
theorem aqx(s:List (Option Fw))(i:Nat)(hi:i<s.a):(Wo s).m (i*42+1) (i*42+1+37)=(vZ (fG s i)).qZ.key.aA:=by
 refine Qg s i 1 37 hi (by omega) _ ?_;show(Sl.aA _).m 1 38=_;simp[Sl.aA,Fw.aA,dD,Tu.I,qc (Tu.I _),tX]
theorem ana(s:List (Option Fw))(i:Nat)(hi:i<s.a):(Wo s)[i*42]? = some (.e (fG s i).isSome):=by
 have:=Kk s i 0 hi (by omega);rw[nM]at this;rw[this];show(vZ (fG s i)).aA[0]? = _;rw[Sl.Oj,Jz]
theorem TS(s:List (Option Fw))(i:Nat)(o:Option Fw)(hi:i<s.a):sG (Wo s) (i*42) (slC o)=Wo (s.set i o):=by
 apply eB;intro j;rw[Ep,uY,Fe];have h3:(i+1)*42<=s.a*42:=bY 42 hi;by_cases hj:j<s.a*42
 ·have e:j=j/42*42+j%42:=by omega
  have hq:j/42<s.a:=by omega
  have h4:(Wo (s.set i o))[j]? = (slC (fG (s.set i o) (j/42)))[j%42]?:=by
   conv=>lhs;rw[e]
   exact Kk _ _ _ (by simpa using hq) (by omega)
  have h5:(Wo s)[j]? = (slC (fG s (j/42)))[j%42]?:=by
   conv=>lhs;rw[e]
   exact Kk _ _ _ hq (by omega)
  rw[h4,h5,Gh _ _ _ _ hi];by_cases hc:i*42<=j/\j<i*42+42
  ·rw[if_pos ⟨hc.1,hc.2,hj⟩,if_pos (by omega)]
   congr 1;omega
  ·rw[if_neg (by omega),if_neg (by omega)]
 ·rw[if_neg (by omega),aV (by rw[uY];omega),aV (by rw[uY];simp;omega)]
structure FH(W:au)(q g:Nat)(key:Vector UInt8 16)(dX:Int)(s:List (Option Fw)):Prop where
 h:dN W q (Tk.mk key dX (iB s).a (some ⟨g,0,none⟩) s.a s.a).aA
 sl:dN W g (Wo s)
 ne:q≠g
 sz:0<s.a/\s.a<=100000
variable {W W':au} {q g:Nat} {key:Vector UInt8 16} {dX:Int} {s:List (Option Fw)}
theorem FH.go(h:FH W q g key dX s)(hb:aM W.a.j W W'):FH W' q g key dX s:=⟨h.h.go hb,h.sl.go hb,h.ne,h.sz⟩
theorem FH.alloc(h:FH W q g key dX s)(ob:Obj):FH (W.alloc ob) q g key dX s:=h.go ((aH _ _).alloc (ay _) _)
theorem FH.drew(h:FH W q g key dX s):FH W.drew q g key dX s:=⟨h.h.drew,h.sl.drew,h.ne,h.sz⟩
theorem FH.drewN(h:FH W q g key dX s)(n:Nat):FH (W.drewN n) q g key dX s:=⟨h.h.drewN n,h.sl.drewN n,h.ne,h.sz⟩
theorem FH.Wq(h:FH W q g key dX s){i:Nat}(hi:i<s.a):W.b ⟨g,i*42,none⟩=some (.e (fG s i).isSome)/\dQ W g (i*42) 42=(vZ (fG s i)).aA/\dQ W g (i*42+1) 41=(vZ (fG s i)).qZ.aA/\dQ W g (i*42+1) 37=(vZ (fG s i)).qZ.key.aA/\vE W g (i*42) 42/\vE W g (i*42+1) 41/\vE W g (i*42+1) 37:=by
 obtain⟨h1,h2,h3,h4⟩:=h.sl.M;have hs:=uY s;have hm:(i+1)*42<=s.a*42:=bY 42 hi;have hh:∀o n,o+n<=s.a*42->vE W g o n:=fun o n hn=>by rw[h3 o n (by unfold eF;omega)];trivial
 refine⟨by rw[h1,ana s i hi],?_,?_,?_,hh _ _ (by omega),hh _ _ (by omega),hh _ _ (by omega)⟩
 ·rw[h4 _ _ (by unfold eF;omega),am9 s i hi]
 ·rw[h4 _ _ (by unfold eF;omega),am' s i hi]
 ·rw[h4 _ _ (by unfold eF;omega),aqx s i hi]
theorem FH.M(h:FH W q g key dX s):W.b ⟨q,18,none⟩=some (.a (some ⟨g,0,none⟩) s.a s.a)/\W.b ⟨q,17,none⟩=some (.b .a (iB s).a)/\W.b ⟨q,16,none⟩=some (.b .a dX)/\(∀j,W.frozen? ⟨q,j,none⟩=false)/\dQ W q 0 16=jg key/\vE W q 0 16:=by
 obtain⟨h1,h2,h3,h4⟩:=h.h.M;refine⟨(h1 18).trans (Tk.wG _),(h1 17).trans (Tk.adX _),(h1 16).trans (Tk.Tt _),h2,?_,?_⟩
 ·rw[h4 0 16 (by unfold eF;rw[Tk.I];omega)];exact Tk.abx _
 ·rw[h3 0 16 (by unfold eF;rw[Tk.I];omega)];trivial
def hmK(key:Vector UInt8 16)(N:Nat)(k:Tu):Nat:=xZ key (MC k)%N
end
section
open Go.RowKit Go.Shelf
attribute [local go_sem] qA
theorem pE.Bo(x:pE):x.aA.j=2:=by simp[pE.aA]
theorem pE.ad3(x:pE):x.aA.all (·.h)=true:=by simp[pE.aA,dx]
@[go_sem]theorem pE.aEh(x:pE):eF x.aA=2:=pE.Bo x
@[go_sem]theorem pE.aEi(x:pE):x.aA.m 0 2=x.aA:=by have:=pE.Bo x;rw[<-this];simp
@[go_sem]theorem pE.zH(x:pE):x.aA[0]? = some (.g (bP x.E)):=rfl
@[go_sem]theorem pE.aqy(x:pE):x.aA[1]? = some (.b .a x.q):=rfl
def lq:pE:=⟨[],0⟩
instance:Inhabited pE:=⟨lq⟩
@[go_sem]theorem aqz:eO #[jl {data:=#[]},aJ bU 0] 151=eO lq.aA 151:=rfl
theorem ave:oW 151 2 lq.aA:=⟨⟨_,Tryz.underlying151,rfl⟩,by kernel_rfl,by kernel_rfl,rfl⟩
@[go_sem ↓]theorem aHr(v:aC):cZ 151 v=xK 151 v:=rfl
@[go_sem ↓]theorem aHs(v x:aC):eU 151 v x=zk 151 v x:=rfl
@[go_sem]theorem avf(W:au)(b o:Nat)(h:vE W b o 2):(xK 151 (.c (some ⟨b,o,none⟩))).J aj W=.ok (.d (dQ W b o 2)) W:=ave.ld W b o h
@[go_sem]theorem aBC(W:au)(c:Array aC)(x:pE)(b:Nat)(hb:b=W.a.j)(hc:eF c=2):(zk 151 (.c (some ⟨b,0,none⟩)) (.d x.aA)).J aj (W.alloc (.D c 151))=.ok () (W.alloc (.D x.aA 151)):=ave.stN W c x.aA b hb hc rfl (pE.ad3 x)
@[go_sem]theorem avg(w:au)(x:pE):(alW 1 #[(0,.d x.aA)]).J aj w=.ok (.a (some ⟨w.a.j,0,none⟩) 1 1) (w.alloc (.D x.aA 151)):=ai0 w x.E x.q
theorem pE.I(x:pE):x.aA.j=2:=rfl
theorem pE.cO(x:pE):x.aA.all (·.h)=true:=pE.ad3 x
theorem kJ{W:au}{b:Nat}{x:Fw}(h:dN W b x.aA):(Py (.c (some ⟨b,0,none⟩))).J aj W=.ok (.d x.aA) W:=by
 have hs:eF x.aA=41:=Fw.I x;rw[ahy W b 0 (of_eq_true (h.M.2.2.1 0 41 (by omega))),h.M.2.2.2 0 41 (by omega),bl,Fw.kg]
theorem Wr{W:au}{b:Nat}{x:pE}(h:dN W b x.aA):(xK 151 (.c (some ⟨b,0,none⟩))).J aj W=.ok (.d x.aA) W:=by
 have hs:eF x.aA=2:=rfl;rw[avf W b 0 (of_eq_true (h.M.2.2.1 0 2 (by omega))),h.M.2.2.2 0 2 (by omega),bl,pE.aEi]
theorem Ws(F:KU)(n:Nat)(h3:F.fn 266)(hro:F.round=none)(hn:3<=n)(gf:Nat)(lb:Array aC)(hgf:F.fn gf)(eg:∀args w,(callFunc gf args).J aj w=.ok (.enter gf args) w)(S Sp:List Fw->Prop)(N:Nat)(hN:N<=100000)(w:au)
 (hseq:vQ F (n-1) aj gf lb (fun x:Fw=>#[cK x.aA]) (aM w.a.j) S Sp N w) :
 Mw F n aj 266 #[.a none 0 0,.func (.func gf) #[] lb] w fun e W'=>
  ∃ys,S ys/\∃A' c',e=.a (.a A' ys.a c')/\W'.c w.a.j 86 41 (.a A' ys.a c') ys.a (ys.h fun x=>x.aA.a)/\aM w.a.j w W':=by
 have h1:1<=n:=by omega
 obtain⟨i0,hi,hz0,hz1,hzb⟩:=afJ;refine rz Tryz.func266 rfl h3 ?_ hro;simp only[Tryz.ntmps266,dP,bD,gQ,kM,kN,gH,gI,iQ,gX,dG,iA];gi_wp2;have bO:=Boxed.new w 34 (.a none 0 0);have hB0:aM w.a.j w (w.alloc (.D #[.a none 0 0] 34)):=(aH _ w).alloc (ay _) _;have hs0:(w.alloc (.D #[.a none 0 0] 34)).a.j=w.a.j+1:=by simp
 generalize w.alloc (.D #[.a none 0 0] 34)=W0 at bO hB0 hs0 ⊢;refine yI hro h1 (gf:=gf) (lb:=lb) rfl hgf eg hseq (fun h k=>Below.trans h k) (vL (by omega)) hB0 (fun _=>rfl)
  (fun(pre:List Fw) W=>(∃v,Boxed W w.a.j 34 v/\W.c w.a.j 86 41 v pre.a (pre.h fun x=>x.aA.a)/\True)/\aM w.a.j w W)
  (fun _ _ _=>False)
  (OwnFrom.and (Own.from (holdsRow_own w.a.j w.a.j 34 86 41 (fun pre:List Fw=>pre.a) (fun pre:List Fw=>pre.h fun x=>x.aA.a) (fun _ _=>True)) _) (yT (ay _) (by omega)))
  (fun _ _ _ _ _ hs _ _=>hs)
  ⟨⟨_,bO,fB _ _ _ _,trivial⟩,hB0⟩
  (fun x a' W=>∃Bq,w.a.j<Bq/\dN W Bq x.aA/\a'={tmps:=#[.a none 0 0,.func (.func gf) #[] lb,.c (some ⟨w.a.j,0,none⟩),undef,.a none 0 0,.c (some ⟨Bq,0,none⟩),.func (.func gf) #[] lb,.d x.aA,undef,undef,undef,undef,undef],defers:=[]})
  (fun x a' _ X Y row hs hg hr=>by obtain⟨Bq,h1,h2,h3⟩:=hs;exact⟨Bq,h1,zD Bq x.aA () X Y row h2 hg (fun r e=>(hr r e).2),h3⟩)
  ?assign ?body ?done ?stop
 case assign=>
  rintro q pre x W K ⟨⟨v,hv,hrow,_⟩,hB⟩ hK;gi_wp2;refine hK _ _ ((KeepsOthers.alloc _ _).from _) ((aH _ W).alloc hB.j _) ⟨⟨v,hv.alloc _,hrow.alloc _,trivial⟩,hB.alloc hB.j _⟩ ⟨W.a.j,hv.lt,dN.new W _ _,rfl⟩
 case body=>
  rintro q pre x a' W hq ⟨r,hr⟩ ⟨⟨v,hv,hrow,_⟩,hB⟩ ⟨Bq,hBq,bX,rfl⟩ hlt;have hcv:=hv.cell;have hld:=kJ bX;have hby:(pre.a+1)*i0.bytes<=140737488355328:=aP (gP (show pre.a+1<=100002 by omega) hzb) (by omega);have HN1:=ah (show x.aA.a.a=1*41 by simp[Fw.I]);have HNC:=ah (fun(W:au) (j:Nat) (u:aC) (hu:x.aA.a[j]? = some u)=>show(W.alloc (.D x.aA 86)).b ((⟨W.a.j,0,none⟩:aU).add j)=some u by
   rw[iH,bl,ni,<-dH];exact hu)
  have FW:=ah (show∀u∈x.aA.a,u.h=true from fun u hu=>by have:=Fw.cO x;rw[xQ]at this;exact this u (by simpa using hu));gi_wp2_with (gi_at_builtin;refine Eo _ rfl _ _ 34 rfl w.a.j 86 i0 (.d ko.aA) 41 i0.bytes Fx hi hz0 hz1 rfl (by simp[bZ,Fw.I]) (by decide) _ _ _ rfl (hrow.alloc _) ⟨W.a.j,0,none⟩ 1 1 x.aA.a rfl HN1.i (HNC.i W) FW.i (by unfold maxLen;omega) hby (by have:=hB.j;simp;omega) ?_;intro v' w1 hown' hgrow _;obtain⟨g',cap',rfl⟩:=ownsRow_succ hown';obtain⟨hv1,hv2,hr2,hk2,hb2⟩:=hv.appended (by decide) hrow hB.j (ay _) hown' hgrow;have hc1:=hv1.cell;have hf1:=hv1.frozen);exact⟨hk2.from _,hb2,⟨_,hv2,by rw[aS,wR];simpa using hr2,trivial⟩,hB.trans hb2⟩
 case done=>
  rintro D ys W hD hS ⟨⟨v,hv,hrow,_⟩,hB⟩ hK;have hcv:=hv.cell;gi_wp2;refine⟨by simp,.a ⟨_,_,rfl,uE hK,?_⟩⟩;obtain⟨A',c',hv',_,_⟩:=jw hrow;refine⟨_,Iy rfl _ _ _,ys,hS,A',c',by rw[<-hv'];rfl,?_,hB.trans (vL (w:=w) (ay _) W D _ _ (by omega) hK rfl rfl)⟩;rw[<-hv'];exact ownsRow_putObj hrow _ hK rfl
 case stop=>
  rintro D c pre W _ _ h _;exact h.elim
theorem XE(gf:Nat)(lb:Array aC)(eg:∀args w,(callFunc gf args).J aj w=.ok (.enter gf args) w)(S Sp:List Fw->Prop)(N:Nat)(hN:N<=100000)(w:au)(hseq:vQ nP 5 aj gf lb (fun x:Fw=>#[cK x.aA]) (aM w.a.j) S Sp N w):
 aQ aj 201 #[.func (.func gf) #[] lb] w fun e W'=>
  ∃ys,S ys/\∃A' c',e=.a (.a A' ys.a c')/\W'.c w.a.j 86 41 (.a A' ys.a c') ys.a (ys.h fun x=>x.aA.a)/\aM w.a.j w W':=by
 have AP:=ah ((ny (n:=6)).1 (Ws nP 6 trivial rfl (by omega) gf lb trivial eg S Sp N hN w hseq));clear hseq;go_enter Tryz.func201,Tryz.ntmps201;go_wp2_with fail;refine AP.i.g ?_;rintro e w1 ⟨ys,hS,A1,c1,rfl,ho,hb⟩;have HS:=ah hS;have HO:=ah ho;have HB:=ah hb;clear ho hb hS;obtain⟨m,hm⟩:=dw ys.a;rw[<-hm]at HO ⊢;go_wp2;go_ret;subst hm;exact⟨ys,HS.i,A1,c1,rfl,HO.i,HB.i⟩
theorem Sq(F:KU)(n:Nat)(h3:F.fn 300)(hro:F.round=none)(hn:3<=n)(gf:Nat)(lb:Array aC)(hgf:F.fn gf)(eg:∀args w,(callFunc gf args).J aj w=.ok (.enter gf args) w)(S Sp:List pE->Prop)(N:Nat)(hN:N<=100000)(w:au)
 (hseq:vQ F (n-1) aj gf lb (fun x:pE=>#[cK x.aA]) (aM w.a.j) S Sp N w) :
 Mw F n aj 300 #[.a none 0 0,.func (.func gf) #[] lb] w fun e W'=>
  ∃ys,S ys/\∃A' c',e=.a (.a A' ys.a c')/\W'.c w.a.j 151 2 (.a A' ys.a c') ys.a (ys.h fun x=>x.aA.a)/\aM w.a.j w W':=by
 have h1:1<=n:=by omega
 obtain⟨i0,hi,hz0,hz1,hzb⟩:=aaI;refine rz Tryz.func300 rfl h3 ?_ hro;simp only[Tryz.ntmps300,dP,bD,gQ,kM,kN,gH,gI,iQ,gX,dG,iA];gi_wp2;have bO:=Boxed.new w 75 (.a none 0 0);have hB0:aM w.a.j w (w.alloc (.D #[.a none 0 0] 75)):=(aH _ w).alloc (ay _) _;have hs0:(w.alloc (.D #[.a none 0 0] 75)).a.j=w.a.j+1:=by simp
 generalize w.alloc (.D #[.a none 0 0] 75)=W0 at bO hB0 hs0 ⊢;refine yI hro h1 (gf:=gf) (lb:=lb) rfl hgf eg hseq (fun h k=>Below.trans h k) (vL (by omega)) hB0 (fun _=>rfl)
  (fun(pre:List pE) W=>(∃v,Boxed W w.a.j 75 v/\W.c w.a.j 151 2 v pre.a (pre.h fun x=>x.aA.a)/\True)/\aM w.a.j w W)
  (fun _ _ _=>False)
  (OwnFrom.and (Own.from (holdsRow_own w.a.j w.a.j 75 151 2 (fun pre:List pE=>pre.a) (fun pre:List pE=>pre.h fun x=>x.aA.a) (fun _ _=>True)) _) (yT (ay _) (by omega)))
  (fun _ _ _ _ _ hs _ _=>hs)
  ⟨⟨_,bO,fB _ _ _ _,trivial⟩,hB0⟩
  (fun x a' W=>∃Bq,w.a.j<Bq/\dN W Bq x.aA/\a'={tmps:=#[.a none 0 0,.func (.func gf) #[] lb,.c (some ⟨w.a.j,0,none⟩),undef,.a none 0 0,.c (some ⟨Bq,0,none⟩),.func (.func gf) #[] lb,.d x.aA,undef,undef,undef,undef,undef],defers:=[]})
  (fun x a' _ X Y row hs hg hr=>by obtain⟨Bq,h1,h2,h3⟩:=hs;exact⟨Bq,h1,zD Bq x.aA () X Y row h2 hg (fun r e=>(hr r e).2),h3⟩)
  ?assign ?body ?done ?stop
 case assign=>
  rintro q pre x W K ⟨⟨v,hv,hrow,_⟩,hB⟩ hK;gi_wp2;refine hK _ _ ((KeepsOthers.alloc _ _).from _) ((aH _ W).alloc hB.j _) ⟨⟨v,hv.alloc _,hrow.alloc _,trivial⟩,hB.alloc hB.j _⟩ ⟨W.a.j,hv.lt,dN.new W _ _,rfl⟩
 case body=>
  rintro q pre x a' W hq ⟨r,hr⟩ ⟨⟨v,hv,hrow,_⟩,hB⟩ ⟨Bq,hBq,bX,rfl⟩ hlt;have hcv:=hv.cell;have hld:=Wr bX;have hby:(pre.a+1)*i0.bytes<=140737488355328:=aP (gP (show pre.a+1<=100002 by omega) hzb) (by omega);have HN1:=ah (show x.aA.a.a=1*2 by simp[pE.I]);have HNC:=ah (fun(W:au) (j:Nat) (u:aC) (hu:x.aA.a[j]? = some u)=>show(W.alloc (.D x.aA 151)).b ((⟨W.a.j,0,none⟩:aU).add j)=some u by
   rw[iH,bl,ni,<-dH];exact hu)
  have FW:=ah (show∀u∈x.aA.a,u.h=true from fun u hu=>by have:=pE.cO x;rw[xQ]at this;exact this u (by simpa using hu));gi_wp2_with (gi_at_builtin;refine Eo _ rfl _ _ 75 rfl w.a.j 151 i0 (.d #[.g ⟨#[]⟩,.b .a 0]) 2 i0.bytes vo hi hz0 hz1 rfl (by simp[bZ]) (by decide) _ _ _ rfl (hrow.alloc _) ⟨W.a.j,0,none⟩ 1 1 x.aA.a rfl HN1.i (HNC.i W) FW.i (by unfold maxLen;omega) hby (by have:=hB.j;simp;omega) ?_;intro v' w1 hown' hgrow _;obtain⟨g',cap',rfl⟩:=ownsRow_succ hown';obtain⟨hv1,hv2,hr2,hk2,hb2⟩:=hv.appended (by decide) hrow hB.j (ay _) hown' hgrow;have hc1:=hv1.cell;have hf1:=hv1.frozen);exact⟨hk2.from _,hb2,⟨_,hv2,by rw[aS,wR];simpa using hr2,trivial⟩,hB.trans hb2⟩
 case done=>
  rintro D ys W hD hS ⟨⟨v,hv,hrow,_⟩,hB⟩ hK;have hcv:=hv.cell;gi_wp2;refine⟨by simp,.a ⟨_,_,rfl,uE hK,?_⟩⟩;obtain⟨A',c',hv',_,_⟩:=jw hrow;refine⟨_,Iy rfl _ _ _,ys,hS,A',c',by rw[<-hv'];rfl,?_,hB.trans (vL (w:=w) (ay _) W D _ _ (by omega) hK rfl rfl)⟩;rw[<-hv'];exact ownsRow_putObj hrow _ hK rfl
 case stop=>
  rintro D c pre W _ _ h _;exact h.elim
theorem Wt(gf:Nat)(lb:Array aC)(eg:∀args w,(callFunc gf args).J aj w=.ok (.enter gf args) w)(S Sp:List pE->Prop)(N:Nat)(hN:N<=100000)(w:au)(hseq:vQ nP 5 aj gf lb (fun x:pE=>#[cK x.aA]) (aM w.a.j) S Sp N w):
 aQ aj 237 #[.func (.func gf) #[] lb] w fun e W'=>
  ∃ys,S ys/\∃A' c',e=.a (.a A' ys.a c')/\W'.c w.a.j 151 2 (.a A' ys.a c') ys.a (ys.h fun x=>x.aA.a)/\aM w.a.j w W':=by
 have AP:=ah ((ny (n:=6)).1 (Sq nP 6 trivial rfl (by omega) gf lb trivial eg S Sp N hN w hseq));clear hseq;go_enter Tryz.func237,Tryz.ntmps237;go_wp2_with fail;refine AP.i.g ?_;rintro e w1 ⟨ys,hS,A1,c1,rfl,ho,hb⟩;have HS:=ah hS;have HO:=ah ho;have HB:=ah hb;clear ho hb hS;obtain⟨m,hm⟩:=dw ys.a;rw[<-hm]at HO ⊢;go_wp2;go_ret;subst hm;exact⟨ys,HS.i,A1,c1,rfl,HO.i,HB.i⟩
end
theorem Sr:oW 22 16 (jg (bH 16 0)):=⟨⟨_,qp,rfl⟩,by kernel_rfl,by kernel_rfl,dL _⟩
@[go_sem ↓]theorem aHt(v:aC):cZ 22 v=xK 22 v:=rfl
theorem agl(key:Vector UInt8 16)(A:Option aU)(n c:Nat)(bs:List UInt8)(w:au)(hr:fZ w w.a.j A n bs)(hn:n<=1000000):aQ aj 97 #[.d (jg key),.a (some ⟨w.a.j,0,none⟩) 1 1] (w.alloc (.D #[.a A n c] 56)) (gy w (.b .c (xZ key bs))):=by
 have hl:=hr.len;refine(Ze key [⟨A,n,c⟩] [bs] _ 1 1 _ (RdS.lit w [⟨A,n,c⟩] 56) (.cons ((hr.alloc (ay _) _).lH (by simp)) .nil) (by omega) (by simp[yM];omega) bs (by simp) (by omega)).g ?_;rintro e w' ⟨rfl,hb⟩;exact⟨rfl,((aH _ w).alloc (ay _) _).trans (hb.g (by simp))⟩
theorem ajT{W:au}{q:Nat}{k:Vector UInt8 16}(h:dN W q (jg k)):W.rangeAt q 0 (k.a.map bv):=by
 intro j v hj;rw[h.M.1,bl];unfold jg;rw[List.getElem?_toArray];exact hj
theorem agm(key:Vector UInt8 16)(A:Option aU)(n c:Nat)(bs:List UInt8)(w:au)(hr:fZ w w.a.j A n bs)(hn:n<=1000000):aQ aj 97 #[.d (key.a.map bv).b,.a (some ⟨w.a.j,0,none⟩) 1 1] (w.alloc (.D #[.a A n c] 56)) (gy w (.b .c (xZ key bs))):=agl key A n c bs w hr hn
theorem JA(t:Tu)(ht:xk t)(w:au):aQ aj 98 #[.d t.aA] w fun e w'=>∃A c,e=.a (.a A 38 c)/\fZ w' w'.a.j A 38 (MC t)/\aM w.a.j w w':=by
 refine(aaX t ht w).g ?_;rintro e w' ⟨A,n,c,rfl,hn,ho,hb⟩;rw[apM]at hn;subst hn;exact⟨A,c,rfl,fZ.gV ho,hb⟩
theorem QU(key:Vector UInt8 16)(t:Tu)(ht:xk t)(w:au):aQ aj 36 #[.d (jg key),.d t.aA] w (gy w (.b .c (xZ key (MC t)))):=by
 have Z0:=ah (((Bx.start w).new (jg key) 22).new t.aA 81);have e1:(w.alloc (.D (jg key) 22)).a.j=w.a.j+1:=by simp
 rw[e1]at Z0;have CB:=ah (fun W=>JA t ht W);clear e1;go_enter Tryz.func36,Tryz.ntmps36;go_upto_region 1 with fail
 generalize(w.alloc (.D (jg key) 22)).alloc (.D t.aA 81)=w1 at Z0 ⊢;have KS:=ah (fun(w':au) (h:Bx [(w.a.j+1,t.aA),(w.a.j,jg key)] w w')=>show w'.rangeAt w.a.j 0 (key.a.map bv)/\(xg (.c (some ⟨w.a.j+1,0,none⟩))).J aj w'=.ok (.d t.aA) w' from⟨ajT h.b1,pQ h.X⟩);obtain⟨l1,l2⟩:=KS.i _ Z0.i;obtain⟨bs,hbs⟩:=dw (MC t);have HBS:=ah hbs;rw[<-hbs]at CB;clear hbs;have hU:=qp;have hI:(aj.info? 22).map (·.j)=some (key.a.map bv).a:=by rw[bV,nR];kernel_rfl
 go_region_held_law (fun w'=>w'.rangeAt w.a.j 0 (key.a.map bv)/\(xg (.c (some ⟨w.a.j+1,0,none⟩))).J aj w'=.ok (.d t.aA) w')
  (first|exact KS.i _ Z0.i.drew|exact KS.i _ Z6.i|exact KS.i _ (Z5.i.alloc _)|exact KS.i _ Z5.i|go_keep)
  (first
  | (go_at_call 98;(with_reducible refine(CB.i _).g ?_);rintro e w5 ⟨A5,c5,rfl,TP,hb5⟩;have C6:=ah (agm key A5 38 c5 bs w5 TP (by decide));have Z5:=ah (Z0.i.drew.go hb5);clear TP hb5)
  | (go_at_call 97;(with_reducible refine C6.i.g ?_);rintro e w6 ⟨rfl,hb6⟩;have Z6:=ah (Z5.i.go hb6);clear hb6))
 go_wp2;go_ret;refine⟨?_,Z6.i.R⟩;rw[HBS.i];rfl
def ad4:Go.Shelf.Ren:=⟨fun|6=>238|15=>219|14=>301|28=>283|29=>284|20=>339|21=>340|22=>341|23=>342|24=>343|25=>344|26=>345|27=>346|46=>363|47=>329|48=>330|49=>364|50=>365|57=>372|n=>n,fun|22=>75|24=>151|25=>257|3=>3|39=>259|0=>0|53=>323|55=>92|4=>4|46=>352|45=>351|50=>158|5=>5|9=>9|66=>388|70=>392|76=>410|77=>152|n=>n,fun|n=>n⟩
theorem aqA:Go.Proofs.SlLaysF0.n6 aj ad4:={
 mixed:=by kernel_rfl,
 f6:=⟨Tryz.f238.E,by decide,Tryz.func238.trans (congrArg some (by kernel_rfl))⟩,
 f14:=⟨Tryz.f301.E,by decide,Tryz.func301.trans (congrArg some (by kernel_rfl))⟩,
 f15:=Tryz.func219.trans (congrArg some (by kernel_rfl)),
 f20:=⟨Tryz.f339.E,by decide,Tryz.func339.trans (congrArg some (by kernel_rfl))⟩,
 f21:=⟨Tryz.f340.E,by decide,Tryz.func340.trans (congrArg some (by kernel_rfl))⟩,
 f22:=⟨Tryz.f341.E,by decide,Tryz.func341.trans (congrArg some (by kernel_rfl))⟩,
 f23:=⟨Tryz.f342.E,by decide,Tryz.func342.trans (congrArg some (by kernel_rfl))⟩,
 f24:=⟨Tryz.f343.E,by decide,Tryz.func343.trans (congrArg some (by kernel_rfl))⟩,
 f25:=⟨Tryz.f344.E,by decide,Tryz.func344.trans (congrArg some (by kernel_rfl))⟩,
 f26:=⟨Tryz.f345.E,by decide,Tryz.func345.trans (congrArg some (by kernel_rfl))⟩,
 f27:=⟨Tryz.f346.E,by decide,Tryz.func346.trans (congrArg some (by kernel_rfl))⟩,
 f28:=Tryz.func283.trans (congrArg some (by kernel_rfl)),
 f29:=Tryz.func284.trans (congrArg some (by kernel_rfl)),
 f46:=⟨Tryz.f363.E,by decide,Tryz.func363.trans (congrArg some (by kernel_rfl))⟩,
 f47:=Tryz.func329.trans (congrArg some (by kernel_rfl)),
 f48:=Tryz.func330.trans (congrArg some (by kernel_rfl)),
 f49:=⟨Tryz.f364.E,by decide,Tryz.func364.trans (congrArg some (by kernel_rfl))⟩,
 f50:=⟨Tryz.f365.E,by decide,Tryz.func365.trans (congrArg some (by kernel_rfl))⟩,
 f57:=⟨Tryz.f372.E,by decide,Tryz.func372.trans (congrArg some (by kernel_rfl))⟩,
 t0:=Ib,
 a0:=Tryz.isAgg0,
 z0:=Tryz.sizeOf0,
 v0:=JN,
 t3:=gY,
 a3:=Tryz.isAgg3,
 z3:=Tryz.sizeOf3,
 v3:=JO,
 t4:=nU,
 a4:=Tryz.isAgg4,
 z4:=Tryz.sizeOf4,
 v4:=JQ,
 t5:=lF,
 a5:=Tryz.isAgg5,
 z5:=Tryz.sizeOf5,
 v5:=Tryz.zeroValue5,
 t9:=iR,
 a9:=Lr,
 z9:=Iw,
 v9:=Br,
 t22:=vo,
 a22:=Tryz.isAgg75,
 z22:=Tryz.sizeOf75,
 v22:=Tryz.zeroValue75,
 t25:=Tryz.underlying257,
 a25:=Tryz.isAgg257,
 z25:=Tryz.sizeOf257,
 v25:=Tryz.zeroValue257,
 t39:=Tryz.underlying259,
 a39:=Tryz.isAgg259,
 z39:=Tryz.sizeOf259,
 v39:=Tryz.zeroValue259,
 t45:=Tryz.underlying351,
 a45:=Tryz.isAgg351,
 z45:=Tryz.sizeOf351,
 v45:=Tryz.zeroValue351,
 t46:=Tryz.underlying352,
 a46:=Tryz.isAgg352,
 z46:=Tryz.sizeOf352,
 v46:=Tryz.zeroValue352,
 t50:=Tryz.underlying158,
 a50:=Tryz.isAgg158,
 z50:=Tryz.sizeOf158,
 v50:=Tryz.zeroValue158,
 t53:=Tryz.underlying323,
 a53:=Tryz.isAgg323,
 z53:=Tryz.sizeOf323,
 v53:=Tryz.zeroValue323,
 t55:=Tryz.underlying92,
 a55:=Tryz.isAgg92,
 z55:=Tryz.sizeOf92,
 v55:=Tryz.zeroValue92,
 t66:=Tryz.underlying388,
 a66:=Tryz.isAgg388,
 z66:=Tryz.sizeOf388,
 v66:=Tryz.zeroValue388,
 t70:=Tryz.underlying392,
 a70:=Tryz.isAgg392,
 z70:=Tryz.sizeOf392,
 v70:=Tryz.zeroValue392,
 t76:=Tryz.underlying410,
 a76:=Tryz.isAgg410,
 z76:=Tryz.sizeOf410,
 v76:=Tryz.zeroValue410,
 t77:=Tryz.underlying152,
 a77:=Tryz.isAgg152,
 z77:=Tryz.sizeOf152,
 v77:=Tryz.zeroValue152}
def agn:Go.Shelf.Ren:=⟨fun|6=>151|15=>219|14=>218|28=>283|29=>284|20=>275|21=>276|22=>277|23=>278|24=>279|25=>280|26=>281|27=>282|46=>328|47=>329|48=>330|49=>331|50=>332|57=>359|n=>n,fun|22=>34|24=>86|25=>201|3=>3|39=>259|0=>0|53=>323|55=>92|4=>4|46=>352|45=>351|50=>158|5=>5|9=>9|66=>388|70=>392|76=>410|77=>152|n=>n,fun|n=>n⟩
theorem avh:Go.Proofs.SlLaysF0.n6 aj agn:={
 mixed:=by kernel_rfl,
 f6:=⟨Tryz.f151.E,by decide,Tryz.func151.trans (congrArg some (by kernel_rfl))⟩,
 f14:=⟨Tryz.f218.E,by decide,Tryz.func218.trans (congrArg some (by kernel_rfl))⟩,
 f15:=Tryz.func219.trans (congrArg some (by kernel_rfl)),
 f20:=⟨Tryz.f275.E,by decide,Tryz.func275.trans (congrArg some (by kernel_rfl))⟩,
 f21:=⟨Tryz.f276.E,by decide,Tryz.func276.trans (congrArg some (by kernel_rfl))⟩,
 f22:=⟨Tryz.f277.E,by decide,Tryz.func277.trans (congrArg some (by kernel_rfl))⟩,
 f23:=⟨Tryz.f278.E,by decide,Tryz.func278.trans (congrArg some (by kernel_rfl))⟩,
 f24:=⟨Tryz.f279.E,by decide,Tryz.func279.trans (congrArg some (by kernel_rfl))⟩,
 f25:=⟨Tryz.f280.E,by decide,Tryz.func280.trans (congrArg some (by kernel_rfl))⟩,
 f26:=⟨Tryz.f281.E,by decide,Tryz.func281.trans (congrArg some (by kernel_rfl))⟩,
 f27:=⟨Tryz.f282.E,by decide,Tryz.func282.trans (congrArg some (by kernel_rfl))⟩,
 f28:=Tryz.func283.trans (congrArg some (by kernel_rfl)),
 f29:=Tryz.func284.trans (congrArg some (by kernel_rfl)),
 f46:=⟨Tryz.f328.E,by decide,Tryz.func328.trans (congrArg some (by kernel_rfl))⟩,
 f47:=Tryz.func329.trans (congrArg some (by kernel_rfl)),
 f48:=Tryz.func330.trans (congrArg some (by kernel_rfl)),
 f49:=⟨Tryz.f331.E,by decide,Tryz.func331.trans (congrArg some (by kernel_rfl))⟩,
 f50:=⟨Tryz.f332.E,by decide,Tryz.func332.trans (congrArg some (by kernel_rfl))⟩,
 f57:=⟨Tryz.f359.E,by decide,Tryz.func359.trans (congrArg some (by kernel_rfl))⟩,
 t0:=Ib,
 a0:=Tryz.isAgg0,
 z0:=Tryz.sizeOf0,
 v0:=JN,
 t3:=gY,
 a3:=Tryz.isAgg3,
 z3:=Tryz.sizeOf3,
 v3:=JO,
 t4:=nU,
 a4:=Tryz.isAgg4,
 z4:=Tryz.sizeOf4,
 v4:=JQ,
 t5:=lF,
 a5:=Tryz.isAgg5,
 z5:=Tryz.sizeOf5,
 v5:=Tryz.zeroValue5,
 t9:=iR,
 a9:=Lr,
 z9:=Iw,
 v9:=Br,
 t22:=Fx,
 a22:=Tryz.isAgg34,
 z22:=Tryz.sizeOf34,
 v22:=Tryz.zeroValue34,
 t25:=Tryz.underlying201,
 a25:=Tryz.isAgg201,
 z25:=Tryz.sizeOf201,
 v25:=Tryz.zeroValue201,
 t39:=Tryz.underlying259,
 a39:=Tryz.isAgg259,
 z39:=Tryz.sizeOf259,
 v39:=Tryz.zeroValue259,
 t45:=Tryz.underlying351,
 a45:=Tryz.isAgg351,
 z45:=Tryz.sizeOf351,
 v45:=Tryz.zeroValue351,
 t46:=Tryz.underlying352,
 a46:=Tryz.isAgg352,
 z46:=Tryz.sizeOf352,
 v46:=Tryz.zeroValue352,
 t50:=Tryz.underlying158,
 a50:=Tryz.isAgg158,
 z50:=Tryz.sizeOf158,
 v50:=Tryz.zeroValue158,
 t53:=Tryz.underlying323,
 a53:=Tryz.isAgg323,
 z53:=Tryz.sizeOf323,
 v53:=Tryz.zeroValue323,
 t55:=Tryz.underlying92,
 a55:=Tryz.isAgg92,
 z55:=Tryz.sizeOf92,
 v55:=Tryz.zeroValue92,
 t66:=Tryz.underlying388,
 a66:=Tryz.isAgg388,
 z66:=Tryz.sizeOf388,
 v66:=Tryz.zeroValue388,
 t70:=Tryz.underlying392,
 a70:=Tryz.isAgg392,
 z70:=Tryz.sizeOf392,
 v70:=Tryz.zeroValue392,
 t76:=Tryz.underlying410,
 a76:=Tryz.isAgg410,
 z76:=Tryz.sizeOf410,
 v76:=Tryz.zeroValue410,
 t77:=Tryz.underlying152,
 a77:=Tryz.isAgg152,
 z77:=Tryz.sizeOf152,
 v77:=Tryz.zeroValue152}
section
variable {α:Type} [Inhabited α]
theorem Wu(f:α->Array aC)(k:Nat)(hk:∀x,(f x).j=k)(l:List α):(Sort.flatK (fun x=>(f x).a) k l.b).a=l.h fun x=>(f x).a:=by
 apply iN;intro t;have hl:=tC f k hk l;by_cases ht:t<l.a*k
 ·have hk0:0<k:=by
   rcases eD k with h|h
   ·subst h;simp at ht
   ·exact h
  have hq:t/k<l.a:=(Nat.div_lt_iff_lt_mul hk0).2 ht;have hm:=fH t hk0;have e:=Nat.div_add_mod t k;have h1:=Sort.get_flatK (fun x=>(f x).a) k l.b t (by simpa using ht);have h2:=uL f k hk l (t/k) (t%k) hq hm;rw[show t/k*k+t%k=t by rw[Dh];exact e]at h2;rw[h2,dH];have hs:t<(Sort.flatK (fun x=>(f x).a) k l.b).j:=by rw[xR];simpa using ht
  rw[getElem!_pos _ t hs]at h1;rw[dK hs,h1];have hs2:t%k<(f l[t/k]).j:=by rw[hk];exact hm
  rw[dK hs2,getElem!_pos l.b (t/k) (by simpa using hq)];simp only[List.getElem_toArray];rw[getElem!_pos _ (t%k) (by simpa using hs2)];simp
 ·rw[aT (by simp[xR];omega),aT (by omega)]
theorem Sv(f:α->Array aC)(k:Nat)(hk:∀x,(f x).j=k){w:au}{g:Nat}{cur:Array aC}{e:bF}{l:List α}(hb:w.a[g]? = some (.D cur e (0,0)))(ht:cur.a.d (l.a*k)=l.h fun x=>(f x).a):Sort.HoldsK (fun x=>(f x).a) k w g 0 l.b:=by
 intro j hj;rw[xR]at hj;have hj':j<l.a*k:=by simpa using hj
 refine⟨?_,by simp[su,hb]⟩;have h1:(cur.a.d (l.a*k))[j]? = (l.h fun x=>(f x).a)[j]?:=by rw[ht]
 rw[iy hj',<-Wu f k hk l,dH,dH]at h1;have hs:j<(Sort.flatK (fun x=>(f x).a) k l.b).j:=by rw[xR];exact hj
 simp only[World.cell?,hb,bl,Option.isSome_none,jr,if_false,id];rw[h1,dK hs,getElem!_pos _ j hs]
theorem aby(f:α->Array aC)(k:Nat){w:au}{g n:Nat}{os:Array Obj}{cur:Array aC}{e:bF}{fr:Nat×Nat}(d:Array α)(hb:w.a[g]? = some (.D cur e fr)):
 (sortWorldK (fun x=>(f x).a) k w g 0 n d os).a[g]? = some (.D (Sort.putCells id 0 (Sort.flatK (fun x=>(f x).a) k d) cur) e fr):=by
 have hg:g<w.a.j:=(bW.1 hb).1;unfold sortWorldK Sort.putRowK;rw[Sort.heap_grow_old _ _ (by simpa using hg)];simp[Sort.putRow,Sort.mapBlock,Sort.ahead,zJ,hb,Sort.onCells]
theorem Sw(f:α->Array aC)(k:Nat){w:au}{g n:Nat}{os:Array Obj}(d:Array α):w.d (sortWorldK (fun x=>(f x).a) k w g 0 n d os) (some g):=by
 unfold sortWorldK Sort.putRowK;refine⟨rfl,rfl,rfl,by simp,fun j hj hne=>?_⟩;rw[Sort.heap_grow_old _ _ (by simpa using hj)];have:g≠j:=fun e=>hne (by rw[e])
 simp[Sort.putRow,Sort.mapBlock,Sort.ahead,zJ,this]
theorem Sy(f:α->Array aC)(k:Nat)(hk:∀x,(f x).j=k){w:au}{base g cap n:Nat}{e:bF}{os:Array Obj}{cur:Array aC}{l l':List α}(hl:l'.a=l.a)(hbase:base<=g)(hb:w.a[g]? = some (.D cur e (0,0)))
 (h1:l.a<=cap) (h2:cap<=maxLen) (h3:cur.j=cap*k):(sortWorldK (fun x=>(f x).a) k w g 0 n l'.b os).c base e k (.a (some ⟨g,0,none⟩) l.a cap) l.a (l'.h fun x=>(f x).a):=by
 have hle:l.a*k<=cap*k:=bY k h1;refine⟨by rw[tC f k hk,hl],.b ⟨g,cap,_,rfl,hbase,aby f k _ hb,h1,h2,by simp[Sort.putCells,h3],?_⟩⟩;rw[<-Wu f k hk l'];apply iN;intro j;by_cases hj:j<l.a*k
 ·have hs:j<(Sort.flatK (fun x=>(f x).a) k l'.b).j:=by rw[xR];simp[hl];exact hj
  rw[iy hj,dH,dH,dK hs];simp only[Sort.putCells,Array.getElem?_mapIdx];rw[dK (by omega)];simp only[mo,ji,true_and,bl,hs,if_true,Nat.sub_zero,id];rw[getElem!_pos _ j hs]
 ·rw[List.getElem?_take_eq_none (by omega),aT (by simp[xR,hl];omega)]
open Go.Shelf in
theorem Zf {P:eX} {ρ:Ren} (L:SlLaysF0.n6 P ρ) (k:Nat) (aE:∀w,(isAgg (ρ.t 24)).J P w=.ok true w) (zE:∀w,(Go.sizeOf (ρ.t 24)).J P w=.ok k w) (f:α->Array aC) (hk:∀x,(f x).j=k) (h1:∀x,(f x).all (·.h)=true) (cf:α->α->Int) (hO:Sort.SWO (ltOf cf)) (g:Nat)
 (eg:∀args w,(callFunc g args).J P w=.ok (.enter g args) w) (base:Nat) (T:bF) (A:Option aU) (n c:Nat) (l:List α) (w:au) (hn:l.a=n) (hn2:n<=1000000) (ho:w.c base T k (.a A n c) n (l.h fun x=>(f x).a))
 (hcmp:∀x y W,aQ P g #[.d (f x),.d (f y)] W (gy W (.b .a (cf x y)))) :
 aQ P (ρ.f 6) #[.a A n c,.func (.func g) #[] #[]] w fun e w'=>e=.a (.K #[])/\∃l':List α,l'.Perm l/\l'.Pairwise (fun x y=>ltOf cf y x=false)/\w'.c base T k (.a A n c) n (l'.h fun x=>(f x).a)/\w.d w' (bC A n c).f:=by
 subst hn;rcases ho.2 with⟨hv,h0⟩|⟨b,cap,cur,hv,h2,h3,h4,h5,h6,h7⟩
 ·injection hv with e1 e2 e3
  subst e1 e3;have hnil:l=[]:=bG h0;subst hnil;refine(AnyF.slices_SortFunc_none L none 0 _ w).g ?_;rintro e w' ⟨rfl,rfl⟩;exact⟨rfl,[],.refl _,.nil,ho,World.grownBy.refl _ _⟩
 ·injection hv with e1 e2 e3
  subst e1 e3;have hg:b<w.a.j:=(bW.1 h3).1;have hH:=Sv f k hk (l:=l) h3 h7;have hc:CmpLays P g #[] (fun x=>(f x).a) k cf b 0 l.b.j w:=by
   intro m os dk _ x y;refine(Calls.axU (hcmp x y _)).g ?_;rintro e w' ⟨rfl,q,os',hw⟩;exact⟨rfl,q,os',hw⟩
  have:=AnyQ.slices_SortFunc L k aE zE (fun x=>(f x).a) (fun x=>by simp[hk]) (fun x v hv=>by
   have:=h1 x;rw[xQ]at this;exact this v (by simpa using hv)) cf hO g #[] b 0 c l.b w eg hc hH hg (by simp;omega)
  rw[show l.b.j=l.a by simp]at this;refine this.g ?_;rintro e w' ⟨rfl,d',nn,os,hp,hs,rfl⟩;obtain⟨p1,p2,p3⟩:=hp;have hsz:d'.j=l.a:=by simpa using p1
  refine⟨rfl,d'.a,?_,?_,?_,Sw f k d'⟩
  ·have e1:d'.m 0 l.a=d':=by rw[<-hsz];simp
   have e2:l.b.m 0 l.a=l.b:=by simp
   rw[e1,e2]at p3;simpa using p3
  ·rw[gu]
   intro i j hi hj hij;have:=hs i j (ji _) hij (by simpa[hsz]using hj);rw[getElem!_pos _ j (by simpa using hj),getElem!_pos _ i (by simpa using hi)]at this;simpa using this
  ·have:=Sy f k hk (l:=l) (l':=d'.a) (n:=nn) (os:=os) (e:=T) (by simp[hsz]) h2 h3 h4 h5 h6
   simpa using this
end
theorem agp(l:List UInt8):Lib.bytesOf (l.map fun b=>((b.e:Nat):Int))=l:=by
 unfold Lib.bytesOf;rw[Ir]
 conv=>rhs;rw[<-List.map_id l]
 apply Ck;intro b _;simp
theorem JB{P:eX}{w:au}{B n:Nat}{A:Option aU}{l:List UInt8}(h:fZ w B A n l)(c:Nat):(uo (.a A n c)).J P w=.ok (bP l) w:=by
 have hl:=h.len;rcases eD n with h0|h0
 ·subst h0
  obtain rfl:l=[]:=bG hl;cases A with
  | none=>simp[uo,bP];rfl
  | some a=>simp[uo,Extern.Bytes.loadBytes,bP];rfl
 ·obtain⟨a,rfl,_,hc⟩:=h.2 h0
  have:=Lib.run_loadBytesX (P:=P) w (l.map fun b=>((b.e:Nat):Int)) a .empty (fun j x hj=>by
   rw[jm]at hj;refine hc j _ ?_;rw[jm];cases hj2:l[j]? with
   | none=>rw[hj2]at hj;cases hj
   | some b=>rw[hj2]at hj;simp at hj;subst hj;rfl)
  rw[bV,hl,agp]at this;show JL P (Extern.Bytes.loadBytes a n .empty) w=_;rw[this];congr 1;exact congrArg ByteArray.mk (by show #[]++l.b=l.b;simp)
theorem XG{w:au}{B C n m:Nat}{A A':Option aU}{l k:List UInt8}(h:fZ w B A n l)(h':fZ w C A' m k)(c c':Nat):(callFunc 263 #[.a A n c,.a A' m c']).J aj w=.ok (.value (.b .a (mK l k))) w:=by
 rw[run_callFunc_extern Tryz.func263 (by kernel_rfl) (by kernel_rfl) (by kernel_rfl) (e:=Extern.BytealgCompare.compare) (by kernel_rfl)];have:(Extern.BytealgCompare.compare #[.a A n c,.a A' m c']).J aj w=.ok (.b .a (mK l k)) w:=by
  change JL aj (do pure (goInt (Extern.BytealgCompare.cmp (<-uo (.a A n c)) (<-uo (.a A' m c'))))) w=_;simp only[jM,JB h,JB h',oD,iI];rw[Lib.cmp_eq];rfl
 rw[this];rfl
theorem Qh{w:au}{n m:Nat}{A A':Option aU}{l k:List UInt8}(h:fZ w w.a.j A n l)(h':fZ w w.a.j A' m k)(c c':Nat):aQ aj 194 #[.a A n c,.a A' m c'] w fun e w'=>e=.a (.b .a (mK l k))/\w=w':=by
 have hc:=XG h h' c c';go_enter Tryz.func194,Tryz.ntmps194;go_wp2;go_ret;exact⟨rfl,rfl⟩
def abz(a b:Fw):Int:=if a.no=b.no then mK (MC a.key) (MC b.key)else a.no-b.no
theorem abA(a b:Fw):ltOf abz a b=lQ a b:=by
 unfold ltOf abz lQ;by_cases h:a.no=b.no
 ·rw[if_pos h,if_pos h,xW]
 ·rw[if_neg h,if_neg h]
  exact decide_eq_decide.2 (by omega)
theorem oZ{W:au}{b:Nat}{x:Fw}(h:dN W b x.aA):(xg (.c (some ⟨b,0,none⟩))).J aj W=.ok (.d x.key.aA) W:=by
 have hs:eF x.aA=41:=Fw.I x;have e:x.aA.m 0 37=x.key.aA:=by
  unfold Fw.aA;simp[dD,Tu.I,qc (Tu.I _)]
 rw[Ti W b 0 (of_eq_true (h.M.2.2.1 0 37 (by omega))),h.M.2.2.2 0 37 (by omega),bl,e]
theorem QV(a b:Fw)(ha:xk a.key)(hb:xk b.key)(na:0<=a.no/\a.no<=1152921504606846976)(nb:0<=b.no/\b.no<=1152921504606846976)(w:au):
 aQ aj 117 #[.d a.aA,.d b.aA] w (gy w (.b .a (abz a b))):=by
 have Z0:=ah (((Bx.start w).new a.aA 86).new b.aA 86);rw[show(w.alloc (.D a.aA 86)).a.j=w.a.j+1 by simp]at Z0;have C1:=ah (fun W=>JA a.key ha W);have C2:=ah (fun W=>JA b.key hb W);obtain⟨l,hl⟩:=dw (MC a.key);obtain⟨k,hk⟩:=dw (MC b.key);rw[<-hl]at C1;rw[<-hk]at C2;have HL:=ah hl;have HK:=ah hk;clear hl hk;go_enter Tryz.func117,Tryz.ntmps117;go_upto_region 1 with fail
 generalize(w.alloc (.D a.aA 86)).alloc (.D b.aA 86)=w1 at Z0 ⊢;have s1:=(Z0.i.b1.M.1 40).trans (Fw.aaR a);have s2:=(Z0.i.X.M.1 40).trans (Fw.aaR b);have l1:=oZ Z0.i.b1;have l2:=oZ Z0.i.X;by_cases h:a.no=b.no
 ·have t1:decide (a.no=b.no)=true:=by simp[h]
  have t2:(a.no==b.no)=true:=by simp[h]
  have t3:decide (a.no≠b.no)=false:=by simp[h]
  have t4:(a.no != b.no)=false:=by simp[h]
  have HC:=ah (show abz a b=mK l k by unfold abz;rw[if_pos h,<-HL.i,<-HK.i]);clear h;have KS:=ah (fun(w':au) (h:Bx [(w.a.j+1,b.aA),(w.a.j,a.aA)] w w')=>show(xg (.c (some ⟨w.a.j,0,none⟩))).J aj w'=.ok (.d a.key.aA) w'/\(xg (.c (some ⟨w.a.j+1,0,none⟩))).J aj w'=.ok (.d b.key.aA) w' from⟨oZ h.b1,oZ h.X⟩);go_wp2_with fail;go_region_held_law (fun w'=>(xg (.c (some ⟨w.a.j,0,none⟩))).J aj w'=.ok (.d a.key.aA) w'/\(xg (.c (some ⟨w.a.j+1,0,none⟩))).J aj w'=.ok (.d b.key.aA) w')
   (first|exact KS.i _ Z0.i.drew|exact KS.i _ Z7.i|exact KS.i _ Z6.i|exact KS.i _ Z5.i|go_keep)
   (first
   | (go_at_call 98;(with_reducible refine(C1.i _).g ?_);rintro e w5 ⟨A5,c5,rfl,TP,hb5⟩;first|(have R5:=ah TP;have Z5:=ah (Z6.i.go hb5);have R6:=ah (R6.i.go hb5))|(have R5:=ah TP;have Z5:=ah (Z0.i.drew.go hb5));clear TP hb5)
   | (go_at_call 98;(with_reducible refine(C2.i _).g ?_);rintro e w6 ⟨A6,c6,rfl,ho6,hb6⟩;first|(have R6:=ah ho6;have Z6:=ah (Z5.i.go hb6);have R5:=ah (R5.i.go hb6))|(have R6:=ah ho6;have Z6:=ah (Z0.i.drew.go hb6));clear ho6 hb6)
   | (go_at_call 194;(with_reducible refine(Qh R5.i R6.i _ _).g ?_);rintro e w7 ⟨rfl,rfl⟩))
  all_goals go_wp2
  all_goals go_ret
  all_goals(refine⟨by rw[HC.i];rfl,?_⟩;first|exact Z6.i.R|exact Z5.i.R)
 ·have t1:decide (a.no=b.no)=false:=by simp[h]
  have t2:(a.no==b.no)=false:=by simp[h]
  have t3:decide (a.no≠b.no)=true:=by simp[h]
  have t4:(a.no != b.no)=true:=by simp[h]
  have HC:=ah (show abz a b=a.no-b.no by unfold abz;rw[if_neg h]);have i1:=jV (a.no-b.no) (by omega);clear h;go_wp2;go_ret;exact⟨by rw[HC.i];rfl,Z0.i.R⟩
theorem QW(a b:Fw)(ha:xk a.key)(hb:xk b.key)(na:0<=a.no/\a.no<=1152921504606846976)(nb:0<=b.no/\b.no<=1152921504606846976)(w:au):
 aQ aj 49 #[.d a.aA,.d b.aA] w (gy w (.e (lQ a b))):=by
 have Z0:=ah (((Bx.start w).new a.aA 86).new b.aA 86);rw[show(w.alloc (.D a.aA 86)).a.j=w.a.j+1 by simp]at Z0;have C1:=ah (fun W=>QV a b ha hb na nb W);obtain⟨r,hr⟩:=dw (abz a b);obtain⟨o,ho⟩:=dw (lQ a b);rw[<-hr]at C1;have t1:decide (r<0)=o:=by rw[ho,<-abA,hr];rfl
 have HO:=ah ho;clear hr ho;go_enter Tryz.func49,Tryz.ntmps49;go_upto_region 1 with fail
 generalize(w.alloc (.D a.aA 86)).alloc (.D b.aA 86)=w1 at Z0 ⊢;have l1:=kJ Z0.i.b1;have l2:=kJ Z0.i.X;go_wp2_with (go_at_call 117;(with_reducible refine(C1.i _).g ?_);rintro e w5 ⟨rfl,hb5⟩;have Z5:=ah (Z0.i.go hb5);clear hb5);go_ret;exact⟨by rw[HO.i];rfl,Z5.i.R⟩
section
open Go.RowKit Go.Shelf
attribute [local go_sem] qA
theorem GN{β:Type}{B:Nat}{J:β->au->Prop}(h:AbidesFrom B J){s:β}{W:au}(hs:J s W)(o:Obj):J s (W.alloc o):=h s W _ none hs (World.grownBy_alloc W o none) (fun r e=>by cases e)
theorem abB(F:KU)(n:Nat)(hf:F.fn 239)(hro:F.round=none)(hn:1<=n)(l Bs n₀ B0:Nat)(A:Option aU)(len cap:Nat)(zs:List pE)(hlen:len<=100000)(J Jx:List pE->au->Prop)(hJ:AbidesFrom B0 J)
 (hY:∀pre x W,J pre W->pre.a<len->YieldAt F (n-1) aj l #[.d x.aA] W fun e W'=>
  (e=.a (.e true)/\J (pre++[x]) W'/\aM n₀ W W')\/(e=.a (.e false)/\Jx (pre++[x]) W'))
 (W:au) (hn₀:n₀<=W.a.j) (Px:W.b ⟨Bs,0,none⟩=some (.a A len cap)) (hR:iF pE.aA 2 W n₀ A len zs) (h0:J [] W) :
 Mw F n aj 239 #[.func (.yield l) #[] #[],.c (some ⟨Bs,0,none⟩)] W fun e W'=>(∃v,e=.a v) /\
  ((∃ys,ys=zs/\J ys W')\/(∃pre,pre <+: zs/\Jx pre W')):=by
 have hzl:=hR.1;refine Cu Tryz.func239 rfl hf ?_ hro;simp only[Tryz.ntmps239,dP,bD,gQ,kM,kN,gH,gI,iQ,gX,dG,iA];gi_wp2;gi_loopw [7] (fun i wr=>∃k:Nat,k<=len/\i=.b .a k/\J (zs.d k) wr/\aM n₀ W wr)
  (fun i _=>len-(intOf i).e)
 case atStart=>exact⟨0,ji _,rfl,h0,aH _ _⟩
 case round=>
  obtain⟨k,hk,rfl,hJs,hnx⟩:=hrel;by_cases hlt:k<len
  ·have hki:(k:Int)<len:=by omega
   obtain⟨b,o,rfl,hbb,hh,hc⟩:=iF.fG pE.Bo lq (hR.S hnx) hlt;obtain⟨x,hx⟩:=dw (zs.c k lq);rw[<-hx]at hc;have DV:=ah (show zs.d k++[x]=zs.d (k+1)by rw[hx];exact lW lq zs k (by omega));clear hx hbb;have bx:=dN.new wr x.aA 151;have hld:=Wr bx;have hsz:=hnx.j;obtain⟨fn,tmps,assign,body,hy,hRd⟩:=hY _ x (wr.alloc (.D x.aA 151)) (GN hJ hJs _) (by rw[bL];omega);have Qi:=ah (hnx.alloc (by omega) (.D x.aA 151));clear bx;gi_wp2;refine hRd.g ?_;rintro e W3 (⟨rfl,hJ3,hk3⟩|⟨rfl,hJx3⟩)
   ·gi_wp2
    go_roundw
    case rel=>exact⟨k+1,by omega,by simp,by rw[<-DV.i];exact hJ3,Qi.i.trans hk3⟩
    case measure=>simp[intOf];omega
   ·gi_wp2
    refine aO (vw rfl _ _ _) rfl ?_;exact⟨⟨_,rfl⟩,.b ⟨_,by rw[DV.i];exact List.take_prefix _ _,hJx3⟩⟩
  ·obtain rfl:k=len:=by omega
   have hd:decide ((k:Int)<k)=false:=by simp
   gi_wp2;go_end0;exact⟨⟨_,rfl⟩,.a ⟨_,aL (by omega),hJs⟩⟩
theorem abC(A:Option aU)(len cap:Nat)(w:au):
 aQ aj 164 #[.a A len cap] w fun e w'=>e=.a (.func (.func 239) #[] #[.c (some ⟨w.a.j,0,none⟩)])/\w.alloc (.D #[.a A len cap] 75)=w':=by
 go_enter Tryz.func164,Tryz.ntmps164;go_wp2;go_ret;exact⟨rfl,rfl⟩
theorem Wv(F:KU)(n:Nat)(hf:F.fn 239)(hro:F.round=none)(hn:1<=n)(Bs n₀:Nat)(A:Option aU)(len cap:Nat)(zs:List pE)(hlen:len<=100000)(w:au)(Px:Bs<w.a.j)(hn₀:n₀<=w.a.j)
 (hc:w.b ⟨Bs,0,none⟩=some (.a A len cap)) (hR:iF pE.aA 2 w n₀ A len zs) :
 vQ F n aj 239 #[.c (some ⟨Bs,0,none⟩)] (fun x:pE=>#[cK x.aA]) (aM n₀) (fun ys=>ys=zs) (fun pre=>pre <+: zs) len w:=fun l J Jx W hW hJ _ hY h0=>by
 have hc':=(hW.cell (p:=⟨Bs,0,none⟩) Px).trans hc;exact abB F n hf hro hn l Bs n₀ W.a.j A len cap zs hlen J Jx hJ hY W (aP hn₀ hW.j) hc' (hR.to hW hn₀) h0
theorem ajU(x y:pE)(w:au):aQ aj 165 #[.d x.aA,.d y.aA] w (gy w (.b .a (mK x.E y.E))):=by
 have Z0:=ah (((Bx.start w).new x.aA 151).new y.aA 151);rw[show(w.alloc (.D x.aA 151)).a.j=w.a.j+1 by simp]at Z0;have CC:=ah (fun W=>Qv x.E y.E W);go_enter Tryz.func165,Tryz.ntmps165;go_upto_region 1 with fail
 generalize(w.alloc (.D x.aA 151)).alloc (.D y.aA 151)=w1 at Z0 ⊢;have c1:=(Z0.i.b1.M.1 0).trans (pE.zH x);have c2:=(Z0.i.X.M.1 0).trans (pE.zH y);go_wp2_with (go_at_call 166;(with_reducible refine(CC.i _).g ?_);rintro e w2 ⟨rfl,rfl⟩);go_ret;exact⟨rfl,Z0.i.R⟩
def Zg(x y:pE):Int:=mK x.E y.E
theorem ajV:Sort.SWO (ltOf Zg):=by
 have e:∀x y,ltOf Zg x y=bR x.E y.E:=fun x y=>by rw[xW];rfl
 refine⟨fun x=>?_,fun x y z h1 h2=>?_,fun x y z h1 h2=>?_⟩
 ·rw[e];exact sJ _
 ·rw[e]at *;exact yj _ _ _ h1 h2
 ·rw[e]at *;exact Je h2 h1
def Ww(l:List pE):Prop:=l.Pairwise fun x y=>bR x.E y.E=true
theorem anb{l l':List pE}(h:Ww l)(hp:l'.Perm l)(hs:l'.Pairwise fun x y=>ltOf Zg y x=false):l'=l:=by
 have e:∀x y,ltOf Zg x y=bR x.E y.E:=fun x y=>by rw[xW];rfl
 have hst:I7 (fun x y:pE=>bR x.E y.E):=⟨fun x=>sJ _,fun x y z h1 h2=>yj _ _ _ h1 h2⟩
 have hnd:l'.Pairwise fun x y=>x.E≠y.E:=by
  refine(hp.pairwise_iff (fun{a b} (hab:a.E≠b.E)=>Ne.symm hab)).2 (h.imp ?_);intro a b hab heq;rw[heq,sJ]at hab;cases hab
 have h':Asc (fun x y:pE=>bR x.E y.E) l':=by
  refine(hs.and hnd).imp ?_;rintro a b ⟨h1,h2⟩;rw[e]at h1;cases h3:bR a.E b.E
  ·exact absurd (zP _ _ h3 h1) h2
  ·exact h3
 exact Asc.eq hst h' h hp
theorem anc(w:au):(isAgg 151).J aj w=.ok true w:=by simp[isAgg,dJ Tryz.underlying151]
theorem aqC(w:au):(Go.sizeOf 151).J aj w=.ok 2 w:=by
 obtain⟨i,hi,hi2,_⟩:=ave.afU;rw[run_sizeOf w hi];have hc:aj.cellsOf 151=2:=by simp[Program.cellsOf,hi,hi2]
 rw[hc]
theorem Wx{B base size n:Nat}{e:bF}{v:aC}{xs:List aC}{w w1 w2:au}(hb:aM B w w1)(ho:w1.c base e size v n xs)(hB:B<=base)(hB2:B<=w.a.j)(hg:w1.d w2 v.f):aM B w w2:=by
 refine⟨hg.os.trans hb.os,hg.tape.trans hb.tape,hg.output.trans hb.output,aP hb.j hg.j,fun k hk=>?_⟩;refine(hg.block k (eZ (eZ hk hB2) hb.j) (fun e2=>?_)).trans (hb.block k hk)
 ·rcases ho.2 with⟨rfl,_⟩|⟨g,cap,cur,rfl,h2,h3,_⟩
  ·cases e2
  ·injection e2 with e2
   dsimp at e2;omega
theorem agq(l:List pE)(hl:l.a<=1000000)(W:au)(base:Nat)(A:Option aU)(c:Nat)(h:W.c base 151 2 (.a A l.a c) l.a (l.h fun x=>x.aA.a)):
 aQ aj 238 #[.a A l.a c,.func (.func 165) #[] #[]] W fun e w'=>e=.a (.K #[])/\∃l':List pE,l'.Perm l/\l'.Pairwise (fun x y=>ltOf Zg y x=false)/\w'.c base 151 2 (.a A l.a c) l.a (l'.h fun x=>x.aA.a)/\W.d w' (bC A l.a c).f:=
 Zf aqA 2 anc aqC pE.aA pE.I pE.cO Zg ajV 165 (fun args w=>rfl) base 151 A l.a c l W rfl hl h ajU
theorem Ol(gf:Nat)(lb:Array aC)(eg:∀args w,(callFunc gf args).J aj w=.ok (.enter gf args) w)(l:List pE)(hs:Ww l)(hN:l.a<=100000)(w:au)(hseq:vQ nP 5 aj gf lb (fun x:pE=>#[cK x.aA]) (aM w.a.j) (fun ys=>ys=l) (fun pre=>pre <+: l) l.a w):
 aQ aj 163 #[.func (.func gf) #[] lb,.func (.func 165) #[] #[]] w fun e W'=>
  ∃A' c',e=.a (.a A' l.a c')/\W'.c w.a.j 151 2 (.a A' l.a c') l.a (l.h fun x=>x.aA.a)/\aM w.a.j w W':=by
 have CO:=ah (Wt gf lb eg (fun ys=>ys=l) (fun pre=>pre <+: l) l.a hN w hseq);have SO:=ah (fun(W:au) (A:Option aU) (c:Nat) h=>agq l (by omega) W w.a.j A c h);clear hseq;go_enter Tryz.func163,Tryz.ntmps163;go_wp2_with fail;refine CO.i.g ?_;rintro e w1 ⟨ys,rfl,A1,c1,rfl,ho,hb⟩;have SO1:=ah (SO.i w1 A1 c1 ho);have HB:=ah hb;have HO:=ah ho;have HS:=ah hs;clear hb ho hs SO CO;obtain⟨m,hm⟩:=dw ys.a;rw[<-hm]at HO SO1 ⊢;have HM:=ah hm;clear hm;go_wp2_with fail;refine SO1.i.g ?_;rintro e w2 ⟨rfl,l',hp,hpw,ho2,hg⟩;obtain rfl:=anb HS.i hp hpw;have H2:=ah ho2;have HG:=ah hg;clear ho2 hg hp hpw;go_wp2;go_ret;obtain rfl:=HM.i;exact⟨A1,c1,rfl,H2.i,Wx HB.i HO.i (ay _) (ay _) HG.i⟩
theorem abD(l:List pE)(hs:Ww l)(A:Option aU)(n c:Nat)(w:au)(hR:iF pE.aA 2 w w.a.j A n l)(hn:n<=100000):
 aQ aj 80 #[.a A n c] w fun e w'=>∃A' c',e=.a (.a A' n c')/\iF pE.aA 2 w' w'.a.j A' n l/\aM w.a.j w w':=by
 have hl:=hR.1;have w1s:=(dN.new w #[.a A n c] 75)
 have hB1:aM w.a.j w (w.alloc (.D #[.a A n c] 75)):=(aH _ _).alloc (ay _) _;have hR1:=hR.up (.D #[.a A n c] 75);have SQ:=ah (Wv nP 5 trivial rfl (by omega) w.a.j (w.alloc (.D #[.a A n c] 75)).a.j A n c l (by omega) (w.alloc (.D #[.a A n c] 75)) w1s.lt (ay _) (w1s.M.1 0) hR1);have VA:=ah (abC A n c w);generalize hw:w.alloc (.D #[.a A n c] 75)=w1 at *;have SF:=ah (Ol 239 #[.c (some ⟨w.a.j,0,none⟩)] (fun args w=>rfl) l hs (by omega) w1 (by rw[hl];exact SQ.i));have HB1:=ah hB1;have HR1:=ah hR1;clear hw w1s hB1 hR1 hR SQ;go_enter Tryz.func80,Tryz.ntmps80;go_wp2_with fail;refine VA.i.g ?_;rintro e w2 ⟨rfl,rfl⟩;go_wp2_with fail;refine SF.i.g ?_;rintro e w2 ⟨A1,c1,rfl,ho,hb⟩;have HO:=ah ho;have HB:=ah hb;clear ho hb;subst hl;go_wp2;go_ret;refine⟨A1,c1,rfl,iF.gV rfl HO.i,?_⟩;have h1:=HB1.i;have h2:=HB.i;exact⟨h2.os.trans h1.os,h2.tape.trans h1.tape,h2.output.trans h1.output,aP h1.j h2.j,fun k hk=>(h2.block k (eZ hk h1.j)).trans (h1.block k hk)⟩
end
theorem agr(key:Vector UInt8 16)(A:Option aU)(n c:Nat)(s:List UInt8)(tag:UInt8)(a:Int)(ha:a=(tag.e:Int))(w:au)(hr:fZ w w.a.j A n s)(hn:n<=1000000):aQ aj 97 #[.d (jg key),.a (some ⟨w.a.j+1,0,none⟩) 2 2] ((w.alloc (.D #[.b .b a] 5)).alloc (.D (yU [⟨A,n,c⟩,⟨some ⟨w.a.j,0,none⟩,1,1⟩]) 56)) (gy w (.b .c (xZ key (s++[tag])))):=by
 have hl:=hr.len;have e1:(w.alloc (.D #[.b .b a] 5)).a.j=w.a.j+1:=by simp
 have h1:=((hr.alloc (ay _) (.D #[.b .b a] 5)).lH (show w.a.j<=w.a.j+1 by omega))
 have h2:=EO w tag a ha;have R:=RdS.lit (w.alloc (.D #[.b .b a] 5)) [⟨A,n,c⟩,⟨some ⟨w.a.j,0,none⟩,1,1⟩] 56;rw[e1]at R;have up:∀{A:Option aU} {n:Nat} {l:List UInt8},fZ (w.alloc (.D #[.b .b a] 5)) (w.a.j+1) A n l->fZ ((w.alloc (.D #[.b .b a] 5)).alloc (.D (yU [⟨A,n,c⟩,⟨some ⟨w.a.j,0,none⟩,1,1⟩]) 56)) ((w.alloc (.D #[.b .b a] 5)).alloc (.D (yU [⟨A,n,c⟩,⟨some ⟨w.a.j,0,none⟩,1,1⟩]) 56)).a.j A n l:=fun h=>(h.alloc (by rw[e1];omega) _).lH (by simp)
 have go:∀{A:Option aU} {n:Nat} {l:List UInt8} (ob:Obj),fZ (w.alloc (.D #[.b .b a] 5)) (w.a.j+1) A n l->fZ ((w.alloc (.D #[.b .b a] 5)).alloc ob) ((w.alloc (.D #[.b .b a] 5)).alloc ob).a.j A n l:=fun ob h=>(h.alloc (by rw[e1];omega) _).lH (by simp)
 refine(Ze key [⟨A,n,c⟩,⟨some ⟨w.a.j,0,none⟩,1,1⟩] [s,[tag]] _ 2 2 _ R (.cons (go _ h1) (.cons (go _ h2) .nil)) (by omega) (by simp[yM];omega) (s++[tag]) (by simp) (by simp;omega)).g ?_;rintro e w' ⟨rfl,hb⟩;exact⟨rfl,(((aH _ w).alloc (ay _) _).alloc (by simp) _).trans (hb.g (by simp;omega))⟩
theorem Om(key:Vector UInt8 16)(s:List UInt8)(tag:UInt8)(a:Int)(ha:a=(tag.e:Int))(b:Nat)(z:Int)(hz:z=b)(hb:1<=b)(hb2:b<=1000000)(hs:s.a<=1000000)(r:Nat)(hr:xZ key (s++[tag])%b=r)(kb nb:Nat)(W:au)(hk:dN W kb (jg key))(hn:dN W nb #[.g (bP s)]):
 aQ aj 167 #[.b .b a,.b .a z,.c (some ⟨kb,0,none⟩),.c (some ⟨nb,0,none⟩)] W (gy W (.b .a (r:Nat))):=by
 subst hz;have l1:=Sr.mW hk (dL _);have l2:=hn.M.1 0;have l2:W.b ⟨nb,0,none⟩=some (.g (bP s)):=l2;have TW:=ah (apK W s);have hcv:=II (P:=aj) 9 56 5 iR cu lF s W;obtain⟨W3,hW3⟩:=dw (sF W 5 s);rw[<-hW3]at hcv TW;obtain⟨cc,hcc⟩:=sQ (grownCap W s.a 0 5);rw[hcc]at hcv;obtain⟨h,hh⟩:=dw (xZ key (s++[tag]));have CS:=ah (agr key (some ⟨W.a.j,0,none⟩) s.a cc s tag a ha W3 TW.i.1 hs);rw[<-hh]at CS;have HH:=ah hh;have w1:jB.wrap (b:Int)=b:=by rw[jT];omega
 have w2:((h:Int)%(b:Int))=((h%b:Nat):Int):=by omega
 rw[<-hh]at hr;have hlt:=fH h (show 0<b by omega);have w3:=jV ((h%b:Nat):Int) (by omega);have hb0:¬(b:Int)=0:=by omega
 have hb1:¬b=0:=by omega
 rw[hr]at w2 w3 hlt;clear hcc hW3 hh hk hn ha hr;go_enter Tryz.func167,Tryz.ntmps167;go_wp2_with (go_at_call 97;go_loud (with_reducible refine CS.i.g ?_);rintro e w9 ⟨rfl,hb9⟩;have B9:=ah hb9;clear hb9);go_ret;exact⟨rfl,TW.i.2.trans (B9.i.g TW.i.2.j)⟩
theorem Wz(o s n i:Nat)(hn:1<=n)(hn2:n<=100000)(ho:o<=100000)(hs:s<=100000)(hi:i<=1000000000)(W:au):aQ aj 243 #[.b .a o,.b .a s,.b .a n,.b .a i] W fun e W'=>e=.a (.b .a (rF o s n (i%n):Nat))/\W=W':=by
 have h1:((i:Int)%(n:Int))=((i%n:Nat):Int):=by omega
 have h0:¬(n:Int)=0:=by omega
 have h0':¬n=0:=by omega
 obtain⟨j,hj⟩:=dw (i%n);have hjl:j<=100000:=by have:=fH i (show 0<n by omega);omega
 rw[<-hj]at h1 ⊢;have hm:j*s<=10000000000:=aP (gP hjl hs) (by decide);have h2:(j:Int)*(s:Int)=((j*s:Nat):Int):=by simp
 obtain⟨p,hp⟩:=dw (j*s);rw[<-hp]at h2 hm;have h3:=jV (p:Int) (by omega);have h4:(o:Int)+(p:Int)=((o+p:Nat):Int):=by omega
 obtain⟨q,hq⟩:=dw (o+p);rw[<-hq]at h4;have h5:=jV (q:Int) (by omega);have h6:(q:Int)%(n:Int)=((q%n:Nat):Int):=by omega
 have HC:=ah (show rF o s n j=q%n by rw[hq,hp];rfl);clear hj hp hq;rw[HC.i];go_enter Tryz.func243,Tryz.ntmps243;go_wp2;go_ret;exact⟨rfl,rfl⟩
theorem ags(key:Vector UInt8 16)(s:List UInt8)(n:Nat)(hn:2<=n)(hn2:n<=100000)(hs:s.a<=1000000)(w:au):aQ aj 83 #[.d (jg key),.g (bP s),.b .a n] w (gy w (.K #[.b .a (Dm key s n:Nat),.b .a (Au key s n:Nat)])):=by
 have Z0:=ah (((Bx.start w).new (jg key) 22).new #[.g (bP s)] 9);rw[show(w.alloc (.D (jg key) 22)).a.j=w.a.j+1 by simp]at Z0;obtain⟨o,ho⟩:=sQ (xZ key (s++[0])%n);have HO:=ah (show Dm key s n=o from ho);obtain⟨t,ht⟩:=sQ (xZ key (s++[1])%(n-1));obtain⟨t1,ht1⟩:=dw (t+1);have HT:=ah (show Au key s n=t1 by rw[ht1,<-ht];rfl);have C0:=ah (fun W (h:Bx [(w.a.j+1,#[.g (bP s)]),(w.a.j,jg key)] w W)=>Om key s 0 0 rfl n n rfl (by omega) (by omega) hs o ho w.a.j (w.a.j+1) W h.b1 h.X);have C1:=ah (fun W (h:Bx [(w.a.j+1,#[.g (bP s)]),(w.a.j,jg key)] w W)=>Om key s 1 1 rfl (n-1) ((n:Int)-1) (by omega) (by omega) (by omega) hs t ht w.a.j (w.a.j+1) W h.b1 h.X);have htl:t<n-1:=by rw[<-ht];exact fH _ (by omega)
 have i1:=jV ((n:Int)-1) (by omega);have i2:=jV (t1:Int) (by omega);have i3:(t:Int)+1=(t1:Int):=by omega
 rw[HT.i,HO.i];clear ht ho ht1;go_enter Tryz.func83,Tryz.ntmps83;go_upto_region 1 with fail
 generalize(w.alloc (.D (jg key) 22)).alloc (.D #[.g (bP s)] 9)=w1 at Z0 ⊢;go_wp2_with (first|(go_at_call 167;(with_reducible refine(C0.i _ Z0.i).g ?_);rintro e w5 ⟨rfl,hb⟩;have Z5:=ah (Z0.i.go hb);clear hb)|(go_at_call 167;(with_reducible refine(C1.i _ Z5.i).g ?_);rintro e w6 ⟨rfl,hb⟩;have Z6:=ah (Z5.i.go hb);clear hb));go_ret2;exact⟨rfl,Z6.i.R⟩
def SlA(d:Array aC)(sl:List Int):Prop:=∀j,j<sl.a->d[j]? = some (.b .a (sl.c j 0))
theorem SlA.set{d:Array aC}{sl:List Int}(h:SlA d sl){k:Nat}(v:Int):SlA (d.b k (.b .a v)) (sl.set k v):=by
 intro j hj;rw[aW]at hj;rw[dU,av,fI];by_cases e:k=j
 ·subst e
  have:=h k hj;have hlt:k<d.j:=by
   rcases aZ k d.j with h1|h1
   ·exact h1
   ·rw[aV h1]at this;cases this
  simp[hj,hlt]
 ·rw[if_neg e,if_neg e,h j hj,av]
theorem anf(o s n i r:Nat)(hr:rF o s n (i%n)=r)(hn:1<=n)(hn2:n<=100000)(ho:o<=100000)(hs:s<=100000)(hi:i<=1000000000)(W:au):aQ aj 243 #[.b .a o,.b .a s,.b .a n,.b .a i] W fun e W'=>e=.a (.b .a (r:Nat))/\W=W':=by subst hr;exact Wz o s n i hn hn2 ho hs hi W
theorem agt(tb sb z i n cn o s x f:Nat)(c d:Array aC)(sl:List Int)(W:au)(hc:dN W tb c)(hd:dN W sb d)(hne:tb≠sb)(h2:c[z+2]? = some (.b .a o))(h3:c[z+3]? = some (.b .a s))(h4:c[z+4]? = some (.b .a x))
 (hsl:SlA d sl) (hl:sl.a=n) (hn:1<=n) (hn2:n<=100000) (hcn:n<=cn) (ho:o<=100000) (hs:s<=100000) (hx:x<=f) (hf:f<n) (hno:∀t,x<=t->t<f->sl.c (rF o s n t) 0≠-1) (hyes:sl.c (rF o s n f) 0 = -1) :
 aQ aj 169 #[.c (some ⟨tb,z,none⟩),.a (some ⟨sb,0,none⟩) n cn,.b .a i] W fun e W'=>e=.a (.K #[])/\dN W' tb (c.b (z+4) (.b .a (f+1:Nat)))/\dN W' sb (d.b (rF o s n f) (.b .a i))/\jC [tb,sb] W W':=by
 have HC:=ah hc;have HD:=ah hd;have HNE:=ah hne;have HSL:=ah hsl;have FW:=ah hno;have HY:=ah hyes;have HL:=ah hl;have H4:=ah h4;clear hc hd hne hsl hno hyes hl h4;have hz4:(c.b (z+4) (.b .a (x:Nat)))=c:=by
  apply eB;intro j;rw[dU];split
  ·rename_i e;subst e;rw[H4.i];simp;have:=H4.i;exact(bW.1 this).1
  ·rfl
 have HZ4:=ah hz4;have hcs:z+4<c.j:=(bW.1 H4.i).1;clear hz4;go_enter Tryz.func169,Tryz.ntmps169;go_wp2;go_loopw [] (fun wr=>∃y:Nat,x<=y/\y<=f/\dN wr tb (c.b (z+4) (.b .a (y:Nat)))/\dN wr sb d/\jC [tb,sb] W wr)
  (fun wr=>f-(intOf ((wr.b ⟨tb,z+4,none⟩).c undef)).e)
 case atStart=>exact⟨x,ay _,hx,by rw[HZ4.i];exact HC.i,HD.i,jC.refl _ _⟩
 case round=>
  obtain⟨y,hy1,hy2,hb1,hb2,hfr⟩:=hrel;obtain⟨c1,c2,c3,c4⟩:=hb1.M;have k2:=(c1 (z+2)).trans ((dU ..).trans ((if_neg (by omega)).trans h2));have k3:=(c1 (z+3)).trans ((dU ..).trans ((if_neg (by omega)).trans h3));have k4:=(c1 (z+4)).trans ((dU ..).trans ((if_pos rfl).trans (if_pos hcs)));have kf:=c2 (z+4);obtain⟨d1,d2,d3,d4⟩:=hb2.M;have HB1:=ah hb1;have HB2:=ah hb2;have HFR:=ah hfr;have hyn:y%n=y:=fP (by omega);obtain⟨fG,hat⟩:∃a,a=rF o s n y:=⟨_,rfl⟩
  have aEk:fG<n:=by rw[hat];exact Pf (by omega)
  have CC:=ah (fun w=>anf o s n y fG (by rw[hyn,hat]) hn hn2 ho hs (by omega) w);obtain⟨v,hv⟩:=dw (sl.c fG 0);have e1:wr.b ⟨sb,fG,none⟩=some (.b .a v):=by rw[d1,HSL.i fG (by rw[HL.i];exact aEk),hv]
  have ef:=d2 fG;obtain⟨y1,hy⟩:=dw (y+1);have i1:(y:Int)+1=(y1:Int):=by omega
  have i2:=jV (y1:Int) (by omega);have adI:(fG:Int)<n:=by omega
  clear c1 c2 c3 c4 d1 d2 d3 d4 hb1 hb2 hfr hyn h2 h3;have HAT:=ah hat;have HV:=ah hv;have X1:=ah (show dN (wr.G ⟨tb,z+4,none⟩ (.b .a y1)) tb (c.b (z+4) (.b .a (y1:Nat)))by have:=HB1.i.eH (z+4) (.b .a y1);rwa [Array.setIfInBounds_setIfInBounds]at this);have X2:=ah (HB2.i.dR ⟨tb,z+4,none⟩ (.b .a y1) HNE.i);have F1:=ah (HFR.i.set ⟨tb,z+4,none⟩ (.b .a y1) (.a (by simp)));have HYV:=ah hy;have e2:(wr.G ⟨tb,z+4,none⟩ (.b .a y1)).b ⟨sb,fG,none⟩=some (.b .a v):=(X2.i.M.1 fG).trans ((HB2.i.M.1 fG).symm.trans e1);have e3:=X2.i.M.2.1 fG;clear e1 ef hat hv hy;go_wp2_with fail;go_quiet ((go_at_call 243;(with_reducible refine(CC.i _).g ?_);rintro e w2 ⟨rfl,rfl⟩;exact⟨rfl,_,rfl⟩));have W1:=ah (show(wr.drewN nq).G ⟨tb,z+4,none⟩ (.b .a y1)=(wr.G ⟨tb,z+4,none⟩ (.b .a y1)).drewN nq from rfl)
  replace k4:(wr.drewN nq).b ⟨tb,z+4,none⟩=some (.b .a y):=k4
  replace kf:(wr.drewN nq).frozen? ⟨tb,z+4,none⟩=false:=kf
  replace e2:((wr.drewN nq).G ⟨tb,z+4,none⟩ (.b .a y1)).b ⟨sb,fG,none⟩=some (.b .a v):=e2
  replace e3:((wr.drewN nq).G ⟨tb,z+4,none⟩ (.b .a y1)).frozen? ⟨sb,fG,none⟩=false:=e3
  clear k2 k3;by_cases hfr:v = -1
  ·have hyf:y=f:=by
    rcases aZ y f with h1|h1
    ·exact absurd hfr (by rw[HV.i,HAT.i];exact FW.i y hy1 h1)
    ·omega
   subst hfr;have HYF:=ah hyf;clear hyf;go_wp2;refine aO (vw rfl _ _ _) rfl ?_;refine⟨rfl,?_,?_,?_⟩
   ·rw[<-HYF.i,<-HYV.i];exact X1.i.dR ⟨sb,fG,none⟩ (.b .a i) (Ne.symm HNE.i)
   ·rw[<-HYF.i,<-HAT.i];exact X2.i.eH fG (.b .a i)
   ·exact(F1.i.drewN nq).set ⟨sb,fG,none⟩ (.b .a i) (.a (by simp))
  ·have hyf:y<f:=by
    rcases aZ y f with h1|h1
    ·exact h1
    ·exfalso
     have:y=f:=by omega
     exact hfr (by rw[HV.i,HAT.i,this];exact HY.i)
   go_wp2;go_roundw
   case rel=>exact⟨y1,by omega,by omega,X1.i,X2.i,F1.i.drewN nq⟩
   case measure=>
    have q1:((wr.drewN nq).G ⟨tb,z+4,none⟩ (.b .a y1)).b ⟨tb,z+4,none⟩=some (.b .a y1):=(X1.i.M.1 (z+4)).trans ((dU ..).trans ((if_pos rfl).trans (if_pos hcs)));have q2:wr.b ⟨tb,z+4,none⟩=some (.b .a y):=k4;rw[q1,q2];simp only[jE,intOf,dW];omega
section
structure Tr where
 uM:Int
 uy:Int
 Z:Int
 skip:Int
 next:Int
def Tr.aA(x:Tr):Array aC:=#[.b .a x.uM,.b .a x.uy,.b .a x.Z,.b .a x.skip,.b .a x.next]
theorem Tr.I(x:Tr):x.aA.j=5:=by simp[Tr.aA]
theorem Tr.cO(x:Tr):x.aA.all (·.h)=true:=by simp[Tr.aA,dx]
@[go_sem]theorem Tr.Zh(x:Tr):x.aA[0]? = some (.b .a x.uM):=by simp[Tr.aA,aG]
@[go_sem]theorem Tr.ajW(x:Tr):x.aA[1]? = some (.b .a x.uy):=by simp[Tr.aA,aG]
@[go_sem]theorem Tr.ajX(x:Tr):x.aA[2]? = some (.b .a x.Z):=by simp[Tr.aA,aG]
@[go_sem]theorem Tr.aqD(x:Tr):x.aA[3]? = some (.b .a x.skip):=by simp[Tr.aA,aG]
@[go_sem]theorem Tr.aqE(x:Tr):x.aA[4]? = some (.b .a x.next):=by simp[Tr.aA,aG]
theorem Tr.WA(x:Tr)(v:Int):x.aA.b 1 (.b .a v)=({x with uy:=v}:Tr).aA:=by simp[Tr.aA,aN]
theorem Tr.ang(x:Tr)(v:Int):x.aA.b 4 (.b .a v)=({x with next:=v}:Tr).aA:=by simp[Tr.aA,aN]
def zy:Tr:=⟨0,0,0,0,0⟩
@[go_sem]theorem azn:cK #[bg,bg,bg,bg,bg]=cK zy.aA:=rfl
@[go_sem]theorem avj:eO #[bg,bg,bg,bg,bg] 155=eO zy.aA 155:=rfl
theorem kTr:oW 155 5 zy.aA:=⟨⟨_,DR,rfl⟩,by kernel_rfl,by kernel_rfl,Tr.I _⟩
@[go_sem ↓]theorem aKF(v:aC):cZ 155 v=xK 155 v:=rfl
@[go_sem ↓]theorem aKG(v x:aC):eU 155 v x=zk 155 v x:=rfl
@[go_sem]theorem aHv(W:au)(b o:Nat)(h:vE W b o 5):(xK 155 (.c (some ⟨b,o,none⟩))).J aj W=.ok (.d (dQ W b o 5)) W:=kTr.ld W b o h
@[go_sem]theorem aEn(W:au)(c:Array aC)(x:Tr)(b:Nat)(hb:b=W.a.j)(hc:eF c=5):(zk 155 (.c (some ⟨b,0,none⟩)) (.d x.aA)).J aj (W.alloc (.D c 155))=.ok () (W.alloc (.D x.aA 155)):=kTr.stN W c x.aA b hb hc (Tr.I x) (Tr.cO x)
@[go_sem ↓]theorem aKH(ps:Array (Nat×aC)):fM 155 ps=uJ 155 ps:=rfl
theorem aEo(w:au)(fs:Array oh)(h:aj.k 155=some (.struct fs)):(iG (fun f=>Prod.mk f.Z <$> sizeOf f.type) fs:Sem (Array (Nat×Nat))).J aj w=.ok #[(0,1),(1,1),(2,1),(3,1),(4,1)] w:=by
 have e:=DR;rw[h]at e;cases e;show _=_
 kernel_rfl
theorem Tr.D(x:Tr)(j:Nat)(hj:j<5):∃v,x.aA[j]? = some v:=⟨x.aA[j]'(by rw[Tr.I];exact hj),by simp[Tr.I,hj]⟩
def TrA(c:Array aC)(l:List Tr):Prop:=∀i,i<l.a->∀j,j<5->c[i*5+j]? = (l.c i zy).aA[j]?
theorem TrA.put{c:Array aC}{l:List Tr}(h:TrA c l){i j:Nat}(hi:i<l.a)(hj:j<5)(v:aC)(y:Tr)(hy:(l.c i zy).aA.b j v=y.aA):TrA (c.b (i*5+j) v) (l.set i y):=by
 intro i2 hi2 j2 hj2;rw[aW]at hi2;have h0:=h i2 hi2 j2 hj2;rw[dU,av,fI];by_cases e:i=i2
 ·subst e
  rw[if_pos rfl,if_pos hi,jE,<-hy,dU];by_cases e2:j=j2
  ·subst e2
   have hlt:i*5+j<c.j:=by
    rcases aZ (i*5+j) c.j with h1|h1
    ·exact h1
    ·obtain⟨u,hu⟩:=Tr.D (l.c i zy) j hj
     rw[aV h1,hu]at h0;cases h0
   rw[if_pos rfl,if_pos rfl,if_pos hlt,if_pos (by rw[Tr.I];exact hj)]
  ·rw[if_neg (by omega),if_neg e2,h0]
 ·rw[if_neg (by omega),if_neg e,<-av,h0]
theorem TrA.fG{W:au}{b:Nat}{c:Array aC}{l:List Tr}(h:TrA c l)(hb:dN W b c){i:Nat}(hi:i<l.a):vE W b (i*5) 5/\dQ W b (i*5) 5=(l.c i zy).aA/\W.b ⟨b,i*5,none⟩=some (.b .a (l.c i zy).uM)/\W.b ⟨b,i*5+1,none⟩=some (.b .a (l.c i zy).uy)/\W.frozen? ⟨b,i*5+1,none⟩=false:=by
 obtain⟨h1,h2,h3,h4⟩:=hb.M;have hs:i*5+5<=c.j:=by
  obtain⟨u,hu⟩:=Tr.D (l.c i zy) 4 (by omega);have:=h i hi 4 (by omega);rw[hu]at this;have:=(bW.1 this).1;omega
 refine⟨by rw[h3 _ _ (by unfold eF;omega)];trivial,?_,?_,?_,h2 _⟩
 ·rw[h4 _ _ (by unfold eF;omega)]
  apply eB;intro j;rw[dz];by_cases hj:j<5
  ·rw[if_pos (by omega),h i hi j hj]
  ·rw[if_neg (by omega),aV (by rw[Tr.I];omega)]
 ·rw[h1];have:=h i hi 0 (by omega);rw[nM]at this;rw[this];exact Tr.Zh _
 ·rw[h1,h i hi 1 (by omega)];exact Tr.ajW _
theorem XH(q:List Nat)(i:Nat)(hi:i<q.a):lX (q.d (i+1))=max (lX (q.d i)) (q.c i 0):=by
 unfold lX;rw[dV hi,List.foldl_append,av,aD hi];rfl
structure FiL(g n:Nat)(q o s:List Nat)(m:Mg)(l:List Tr):Prop where
 len:l.a=q.a
 crl:m.cr.a=q.a
 all:∀i,i<q.a->(l.c i zy).uM=q.c i 0/\(l.c i zy).Z=o.c i 0/\(l.c i zy).skip=s.c i 0/\(l.c i zy).uy=m.cr.c i 0/\m.cr.c i 0<g/\∃x:Nat,(l.c i zy).next=x/\x<=n/\∀t,t<x->rU m.sl (rF (o.c i 0) (s.c i 0) n t)=false
theorem Ce{α:Type}(l:List α)(i j:Nat)(v d:α)(hi:i<l.a):(l.set i v).c j d=if i=j then v else l.c j d:=by
 rw[av,fI];by_cases h:i=j
 ·subst h;simp[hi]
 ·simp[h,av]
theorem ad5{sl:List Int}{k j:Nat}{v:Int}(hv:v≠-1)(h:rU sl j=false):rU (sl.set k v) j=false:=by
 unfold rU at h ⊢;rw[av,fI];split
 ·split
  ·simpa using hv
  ·simp
 ·rwa [<-av]
def Il(o s:List Nat)(n i t:Nat):Nat:=rF (o.c i 0) (s.c i 0) n t
variable {g n:Nat} {q o s:List Nat} {m:Mg} {l:List Tr}
theorem FiL.low(h:FiL g n q o s m l){i:Nat}(hi:i<q.a)(hlt:m.cr.c i 0+q.c i 0<g):FiL g n q o s (sI g n q (Il o s n) m i) (l.set i {l.c i zy with uy:=(m.cr.c i 0+q.c i 0:Nat)}):=by
 have hl:=h.len;have hcl:=h.crl;unfold sI;rw[if_pos hlt];refine⟨by simpa using hl,by simpa using hcl,fun j hj=>?_⟩;rw[Ce _ _ _ _ _ (by omega),Ce _ _ _ _ _ (by omega)];by_cases e:i=j
 ·subst e
  simp only[if_true];obtain⟨a1,a2,a3,a4,a5,a6⟩:=h.all i hi;exact⟨a1,a2,a3,trivial,hlt,a6⟩
 ·rw[if_neg e,if_neg e]
  exact h.all j hj
theorem FiL.high(h:FiL g n q o s m l){i:Nat}(hi:i<q.a)(hge:¬m.cr.c i 0+q.c i 0<g)(hq:q.c i 0<=g){f:Nat}(hf:f=ff m.sl (Il o s n i) n)(hfn:f<n)(hno:∀t,t<f->rU m.sl (Il o s n i t)=false):
 FiL g n q o s (sI g n q (Il o s n) m i) ((l.set i {l.c i zy with uy:=(m.cr.c i 0+q.c i 0-g:Nat)}).set i {l.c i zy with uy:=(m.cr.c i 0+q.c i 0-g:Nat),next:=(f+1:Nat)}):=by
 have hl:=h.len;have hcl:=h.crl;unfold sI;rw[if_neg hge,<-hf,List.set_set];refine⟨by simpa using hl,by simpa using hcl,fun j hj=>?_⟩;rw[Ce _ _ _ _ _ (by omega),Ce _ _ _ _ _ (by omega)];by_cases e:i=j
 ·subst e
  simp only[if_true];obtain⟨a1,a2,a3,a4,a5,a6⟩:=h.all i hi;refine⟨a1,a2,a3,trivial,by omega,f+1,rfl,by omega,fun t ht=>?_⟩;rcases aZ t f with h1|h1
  ·exact ad5 (by omega) (hno t h1)
  ·have:t=f:=by omega
   subst this;unfold rU;rw[av,fI];have e2:Il o s n i t=rF (o.c i 0) (s.c i 0) n t:=rfl;rw[e2,if_pos rfl];split
   ·simp
   ·simp
 ·rw[if_neg e,if_neg e]
  obtain⟨a1,a2,a3,a4,a5,x,a6,a7,a8⟩:=h.all j hj;exact⟨a1,a2,a3,a4,a5,x,a6,a7,fun t ht=>ad5 (by omega) (a8 t ht)⟩
theorem FiL.first(h:FiL g n q o s m l){i:Nat}(hi:i<q.a){f x:Nat}(hx:(l.c i zy).next=x)(hfree:rU m.sl (Il o s n i f)=true):x<=f:=by
 obtain⟨_,_,_,_,_,y,b1,b2,b3⟩:=h.all i hi;have:y=x:=by omega
 subst this;rcases aZ f y with h1|h1
 ·have:=b3 f h1
  have e2:Il o s n i f=rF (o.c i 0) (s.c i 0) n f:=rfl;rw[e2,this]at hfree;cases hfree
 ·exact h1
theorem ad6(q:List Nat){i:Nat}(hi:i<q.a):q.c i 0<=lX q:=by
 have h1:∀(t:List Nat)(b:Nat),b<=t.foldl max b:=by
  intro t
  induction t with
  | nil=>intro b;exact ay _
  | cons y t ih=>intro b;rw[jW];exact aP (Nat.le_max_left _ _) (ih _)
 have h2:∀(t:List Nat)(b i:Nat),i<t.a->t.c i 0<=t.foldl max b:=by
  intro t
  induction t with
  | nil=>intro b i hi;simp at hi
  | cons y t ih=>
    intro b i hi;rw[jW];cases i with
    | zero=>exact aP (Nat.le_max_right b y) (h1 t _)
    | succ i=>exact ih _ i (by simpa using hi)
 exact h2 q 0 i hi
variable (g n:Nat) (q o s:List Nat)
def FiS(g n:Nat)(q o s:List Nat)(tb sb:Nat)(W:au)(J:Nat)(wr:au):Prop:=∃(l:List Tr)(c d:Array aC),FiL g n q o s (jO g n q (Il o s n) J) l/\TrA c l/\SlA d (jO g n q (Il o s n) J).sl/\dN wr tb c/\dN wr sb d/\jC [tb,sb] W wr
theorem agu(tb sb k ck n cn g:Nat)(q o s:List Nat)(c d:Array aC)(l0:List Tr)(W:au)(hg:lX q=g)(hc:dN W tb c)(hd:dN W sb d)(hne:tb≠sb)(hk:q.a=k)(hT:TrA c l0)(hS:SlA d (eu n (-1)))(hL:FiL g n q o s ⟨q.map fun _=>0,eu n (-1),n⟩ l0)
 (hk1:1<=k) (hk2:k<=100000) (hck:k<=ck) (hn:1<=n) (hn2:n<=100000) (hcn:n<=cn) (hq0:∀x∈q,0<x) (hg2:g<=100000000) (ho:∀i,i<k->o.c i 0<=100000) (hs:∀i,i<k->s.c i 0<=100000) (hf:acO n k (Il o s n)) :
 aQ aj 85 #[.a (some ⟨tb,0,none⟩) k ck,.a (some ⟨sb,0,none⟩) n cn] W fun e W'=>e=.a (.K #[])/\(∃d',dN W' sb d'/\SlA d' (EK n q (Il o s n)))/\jC [tb,sb] W W':=by
 have hqn:q≠[]:=by intro e;rw[e]at hk;simp at hk;omega
 obtain⟨K,_,hK1,hK2,hK3⟩:=Yu (n:=n) (ch:=Il o s n) hqn hq0;rw[hg]at hK1 hK2 hK3;have OK:=ah (fun J (hJ:J<=K)=>alr (g:=g) (n:=n) (q:=q) (ch:=Il o s n) (by omega) (by rw[hk];exact hf) J (fun t ht=>hK2 t (by omega)));have HK1:=ah hK1;have HK2:=ah hK2;have HK3:=ah hK3;have HG:=ah hg;have HF:=ah (show acO n q.a (Il o s n)by rw[hk];exact hf);have HKQ:=ah hk;have ST0:=ah (show FiS g n q o s tb sb W 0 W from⟨l0,c,d,hL,hT,hS,hc,hd,jC.refl _ _⟩);have HT:=ah hT;have MF:=ah (hL.len.trans hk);have HQ0:=ah (fun i (hi:i<k)=>(hL.all i (by omega)).1);have HO:=ah ho;have HS':=ah hs;have HNE:=ah hne;have HC:=ah hc;have Zi:=ah (fun i (hi:i<k)=>(by have:=ad6 q (i:=i) (by omega);omega:q.c i 0<=g));have HQP:=ah hq0;clear hK1 hK2 hK3 hg hf hk hL hT hS hc hd ho hs hne hqn hq0;go_enter Tryz.func85,Tryz.ntmps85;go_wp2;go_step3;go_wp2;go_loopw [4,12] (fun s4 s12 wr=>∃i:Nat,i<=k/\s12=.b .a i/\s4=.b .a (lX (q.d i):Nat)/\dN wr tb c/\FiS g n q o s tb sb W 0 wr) (fun _ s12 _=>k-(intOf s12).e)
 case atStart=>exact⟨0,ji _,rfl,rfl,HC.i,ST0.i⟩
 case round=>
  obtain⟨i,hi,rfl,rfl,hbc,hst⟩:=hrel;have HB:=ah hbc;have HST:=ah hst;clear hst;by_cases hlt:i<k
  ·have hli:(i:Int)<k:=by omega
   obtain⟨a1,a2,_,_,_⟩:=HT.i.fG hbc (i:=i) (by rw[MF.i];exact hlt);obtain⟨x,hx⟩:=dw (l0.c i zy);have hxq:x.uM=(q.c i 0:Nat):=by rw[hx];exact HQ0.i i hlt
   rw[<-hx]at a2;have hg1:=XH q i (by rw[HKQ.i];exact hlt);obtain⟨u,hu⟩:=dw (lX (q.d i));obtain⟨v,hv⟩:=dw (q.c i 0);obtain⟨z,hz⟩:=dw (lX (q.d (i+1)));rw[<-hu,<-hv,<-hz]at hg1;rw[<-hv]at hxq;have m1:max (u:Int) (v:Int)=z:=by omega
   have m2:(if(u:Int)<(v:Int)then(v:Int)else(u:Int))=z:=by split<;>omega
   have X1:=ah (dN.new wr x.aA 155);have b0:=X1.i.M.1 0;rw[Tr.Zh]at b0;have HZ:=ah hz;rw[<-hu];clear hx hu hv hg1 hz hbc;go_wp2;go_roundw
   case rel=>exact⟨i+1,by omega,by go_num,by rw[<-HZ.i],HB.i.alloc _,by obtain⟨l,c1,d1,y1,y2,y3,y4,y5,y6⟩:=HST.i;exact⟨l,c1,d1,y1,y2,y3,y4.alloc _,y5.alloc _,y6.alloc _⟩⟩
   case measure=>simp[intOf]<;>omega
  ·have hik:i=k:=by omega
   have hd:decide ((i:Int)<k)=false:=by simp;omega
   have HGI:=ah (show lX (q.d i)=g by rw[hik,<-HKQ.i,zY,HG.i]);rw[HGI.i];clear hik;go_wp2;go_step3;go_wp2;have HKP:=ah (show 0<K by
    rcases eD K with h0|h0
    ·have:=HK1.i;rw[h0]at this;simp[jO]at this;omega
    ·exact h0)
   go_loopw [7] (fun s7 wr=>∃(J r:Nat),J=r*k/\J<K/\s7=.b .a ((jO g n q (Il o s n) J).left:Nat)/\FiS g n q o s tb sb W J wr) (fun s7 _=>(intOf s7).e)
   case atStart=>exact⟨0,0,by omega,HKP.i,rfl,HST.i⟩
   case round=>
    obtain⟨J,r,hJ,hJK,rfl,azq⟩:=hrel;have HJ:=ah hJ;have aEp:=ah azq;obtain⟨lf,hlf⟩:=dw ((jO g n q (Il o s n) J).left);have HLF:=ah hlf;rw[<-hlf];clear hJ azq hlf hd;go_wp2;go_loopw [7,25] (fun s7 s25 wr=>∃(i J2:Nat),i<=k/\s25=.b .a i/\J2=J+i/\J2<K/\s7=.b .a ((jO g n q (Il o s n) J2).left:Nat)/\FiS g n q o s tb sb W J2 wr) (fun _ s25 _=>k-(intOf s25).e)
    case atStart=>exact⟨0,J,ji _,rfl,rfl,hJK,by rw[HLF.i],aEp.i⟩
    case round=>
     obtain⟨i2,J2,hi2,rfl,hJ2,azr,rfl,l,c1,d1,hL,hT,hS,hb1,hb2,hfr⟩:=hrel;have HJ2:=ah hJ2;obtain⟨m,hm⟩:=dw (jO g n q (Il o s n) J2);have HM:=ah hm;rw[<-hm]at hL hS;rw[<-hm];clear hJ2 hm;by_cases hlt:i2<k
     ·have hli:(i2:Int)<k:=by omega
      have hiq:i2<q.a:=by rw[HKQ.i];exact hlt
      have MOK:=ah (show afb n q m by rw[HM.i];exact OK.i J2 (by omega));have hl0:m.left≠0:=by rw[HM.i];exact HK2.i J2 azr
      have HNX:=ah (show jO g n q (Il o s n) (J2+1)=sI g n q (Il o s n) m i2 by
       rw[HM.i];show sI g n q (Il o s n) _ (J2%q.a)=_;rw[HKQ.i,HJ2.i,HJ.i,Dh,Nat.mul_add_mod,fP hlt])
      obtain⟨e1,e2,e3,e4,e5,x,e6,e7,e8⟩:=hL.all i2 hiq;have hll:i2<l.a:=by rw[hL.len];exact hiq
      obtain⟨_,_,k1,k2,k3⟩:=hT.fG hb1 hll;obtain⟨y,hy⟩:=dw (l.c i2 zy);rw[<-hy]at e1 e2 e3 e4 e6 k1 k2;obtain⟨ci,hci⟩:=dw (m.cr.c i2 0);obtain⟨qi,hqi⟩:=dw (q.c i2 0);rw[<-hci]at e4 e5;rw[<-hqi]at e1;rw[e1]at k1;rw[e4]at k2;have hqg:qi<=g:=by rw[hqi];exact Zi.i i2 hlt
      obtain⟨cs,hcs⟩:=dw (ci+qi);have s1:(ci:Int)+(qi:Int)=cs:=by omega
      have hcs2:cs<=200000000:=by omega
      have s2:=jV (cs:Int) (by omega);have X1:=ah (show dN ((wr.G ⟨tb,i2*5+1,none⟩ (.b .a cs)).drew) tb (c1.b (i2*5+1) (.b .a (cs:Nat)))from hb1.eH (i2*5+1) (.b .a cs));have X2:=ah (show dN ((wr.G ⟨tb,i2*5+1,none⟩ (.b .a cs)).drew) sb d1 from hb2.dR ⟨tb,i2*5+1,none⟩ (.b .a cs) HNE.i);have F1:=ah (show jC [tb,sb] W ((wr.G ⟨tb,i2*5+1,none⟩ (.b .a cs)).drew)from(hfr.set ⟨tb,i2*5+1,none⟩ (.b .a cs) (.a (by simp))).drewN 1);have T1:=ah (hT.put (j:=1) hll (by omega) (.b .a (cs:Nat)) {y with uy:=(cs:Nat)} (by rw[<-hy];exact Tr.WA y cs));have HL:=ah hL;have HS:=ah hS;have HCI:=ah hci;have HQI:=ah hqi;have HCS:=ah hcs;have HYL:=ah hy;have E2:=ah e2;have E3:=ah e3;have E6:=ah e6;clear hL hT hS hb1 hb2 hfr e1 e2 e3 e4 e6 e7 e8 hy hci hqi hcs;go_upto_region 11 with fail
      go_region;clear k1 k2 k3 s1 s2;generalize(wr.G ⟨tb,i2*5+1,none⟩ (.b .a cs)).drew=w1 at X1 X2 F1 ⊢;obtain⟨_,_,_,k2,k3⟩:=T1.i.fG X1.i (i:=i2) (by rw[aW];exact hll);rw[Ce _ _ _ _ _ hll,if_pos rfl]at k2;simp only at k2;by_cases hlow:cs<g
      ·have hlo:(cs:Int)<g:=by omega
       have HL2:=ah (show FiL g n q o s (jO g n q (Il o s n) (J2+1)) (l.set i2 {y with uy:=(cs:Nat)})by
        have:=HL.i.low hiq (by rw[<-HCI.i,<-HQI.i,<-HCS.i];exact hlow);rw[<-HCI.i,<-HQI.i,<-HCS.i,<-HYL.i]at this;rw[HNX.i];exact this)
       have HM2:=ah (show(jO g n q (Il o s n) (J2+1)).sl=m.sl/\(jO g n q (Il o s n) (J2+1)).left=m.left by
        rw[HNX.i];unfold sI;rw[if_pos (by rw[<-HCI.i,<-HQI.i,<-HCS.i];exact hlow)];exact⟨rfl,rfl⟩)
       have aEs:=ah (show J2+1<K by
        rcases aZ (J2+1) K with h1|h1
        ·exact h1
        ·exfalso
         have:J2+1=K:=by omega
         have h2:=HM2.i.2;rw[this,HK1.i]at h2;omega)
       clear hlow;go_wp2;go_roundw
       case rel=>exact⟨i2+1,J2+1,by omega,by go_num,by rw[HJ2.i];omega,aEs.i,by rw[HM2.i.2],_,_,_,HL2.i,T1.i,by rw[HM2.i.1];exact HS.i,X1.i,X2.i,F1.i⟩
       case measure=>simp[intOf]<;>omega
      ·have hge:¬(cs:Int)<g:=by omega
       obtain⟨dh,hdh⟩:=dw (cs-g);have s3:(cs:Int)-(g:Int)=dh:=by omega
       have s4:=jV (dh:Int) (by omega);have HDH:=ah hdh;have X3:=ah (show dN (w1.G ⟨tb,i2*5+1,none⟩ (.b .a dh)) tb ((c1.b (i2*5+1) (.b .a (cs:Nat))).b (i2*5+1) (.b .a (dh:Nat)))from X1.i.eH (i2*5+1) (.b .a dh));have X4:=ah (show dN (w1.G ⟨tb,i2*5+1,none⟩ (.b .a dh)) sb d1 from X2.i.dR ⟨tb,i2*5+1,none⟩ (.b .a dh) HNE.i);have F3:=ah (show jC [tb,sb] W (w1.G ⟨tb,i2*5+1,none⟩ (.b .a dh))from F1.i.set ⟨tb,i2*5+1,none⟩ (.b .a dh) (.a (by simp)));have T3:=ah (show TrA ((c1.b (i2*5+1) (.b .a (cs:Nat))).b (i2*5+1) (.b .a (dh:Nat))) (l.set i2 {y with uy:=(dh:Nat)})by
        have:=T1.i.put (j:=1) (i:=i2) (by rw[aW];exact hll) (by omega) (.b .a (dh:Nat)) {y with uy:=(dh:Nat)} (by rw[Ce _ _ _ _ _ hll,if_pos rfl,Tr.WA])
        rwa [List.set_set]at this)
       clear X1 X2 T1 hdh;generalize(c1.b (i2*5+1) (.b .a (cs:Nat))).b (i2*5+1) (.b .a (dh:Nat))=c3 at X3 T3;obtain⟨f,hf⟩:=dw (ff m.sl (Il o s n i2) n);obtain⟨ff1,ff2,ff3⟩:=arS (MOK.i.free HF.i hl0 hiq);rw[<-hf]at ff1 ff2 ff3;have hlen3:i2<(l.set i2 {y with uy:=(dh:Nat)}).a:=by rw[aW];exact hll
       have hget:(l.set i2 {y with uy:=(dh:Nat)}).c i2 zy={y with uy:=(dh:Nat)}:=by rw[Ce _ _ _ _ _ hll,if_pos rfl]
       have q2:=T3.i i2 hlen3 2 (by omega);have q3:=T3.i i2 hlen3 3 (by omega);have q4:=T3.i i2 hlen3 4 (by omega);rw[hget]at q2 q3 q4;rw[Tr.ajX]at q2;rw[Tr.aqD]at q3;rw[Tr.aqE]at q4;simp only[E2.i,E3.i,E6.i]at q2 q3 q4;have CT:=ah (fun(w2:au) (hb1:dN w2 tb c3) (hb2:dN w2 sb d1)=>agt tb sb (i2*5) i2 n cn (o.c i2 0) (s.c i2 0) x f c3 d1 m.sl w2 hb1 hb2 HNE.i q2 q3 q4 HS.i MOK.i.sll hn hn2 hcn (HO.i i2 hlt) (HS'.i i2 hlt) (HL.i.first hiq (by rw[<-HYL.i];exact E6.i) ff2) ff1
        (fun t _ ht=>of_decide_eq_false (ff3 t ht)) (of_decide_eq_true ff2))
       have HL3:=ah (show FiL g n q o s (jO g n q (Il o s n) (J2+1)) ((l.set i2 {y with uy:=(dh:Nat)}).set i2 {y with uy:=(dh:Nat),next:=(f+1:Nat)})by
        have:=HL.i.high hiq (by rw[<-HCI.i,<-HQI.i,<-HCS.i];exact hlow) (by rw[<-HQI.i];exact hqg) hf ff1 ff3;rw[<-HCI.i,<-HQI.i,<-HCS.i,<-HYL.i,<-HDH.i]at this;rw[HNX.i];exact this)
       have HM3:=ah (show(jO g n q (Il o s n) (J2+1)).sl=m.sl.set (rF (o.c i2 0) (s.c i2 0) n f) i2/\(jO g n q (Il o s n) (J2+1)).left=m.left-1 by
        rw[HNX.i];unfold sI;rw[if_neg (by rw[<-HCI.i,<-HQI.i,<-HCS.i];exact hlow),<-hf];exact⟨rfl,rfl⟩)
       have T4:=ah (T3.i.put (j:=4) hlen3 (by omega) (.b .a (f+1:Nat)) {y with uy:=(dh:Nat),next:=(f+1:Nat)} (by rw[hget];exact Tr.ang _ _));obtain⟨lf2,azs⟩:=dw (m.left-1);have hmn:m.left<=n:=by
        have:=MOK.i.fr;have h1:=MOK.i.sll;have h2:=List.countP_le_length (p:=fun x:Int=>decide (x = -1)) (l:=m.sl);unfold I6 at this;omega
       have s5:(m.left:Int)-1=lf2:=by omega
       have s6:=jV (lf2:Int) (by omega);rw[<-azs]at HM3;clear hlow ff1 ff2 ff3 hf hget q2 q3 q4 hlen3 azs hmn;by_cases hz:lf2=0
       ·have aEt:=ah (show EK n q (Il o s n)=m.sl.set (rF (o.c i2 0) (s.c i2 0) n f) i2 by
         have hK:K=J2+1:=by
          rcases aZ (J2+1) K with h1|h1
          ·have:=HK2.i _ h1
           rw[HM3.i.2]at this;exact absurd hz this
          ·omega
         rw[HK3.i,hK,HM3.i.1])
        subst hz;go_wp2_with (go_at_call 169;(with_reducible refine(CT.i _ X3.i X4.i).g ?_);rintro e w3 ⟨rfl,ht1,ht2,ht3⟩;have X5:=ah ht2;have F5:=ah (F3.i.pO ht3);clear ht1 ht2 ht3)
        try rw[Exit.noGoto_normal]
        go_end0;exact⟨rfl,⟨_,X5.i,by rw[aEt.i];exact HS.i.set _⟩,F5.i⟩
       ·have hz2:¬(lf2:Int)=0:=by omega
        have aEu:=ah (show J2+1<K by
         rcases aZ (J2+1) K with h1|h1
         ·exact h1
         ·exfalso
          have:J2+1=K:=by omega
          have h2:=HM3.i.2;rw[this,HK1.i]at h2;omega)
        go_wp2_with (go_at_call 169;(with_reducible refine(CT.i _ X3.i X4.i).g ?_);rintro e w3 ⟨rfl,ht1,ht2,ht3⟩;have X5:=ah ht1;have X6:=ah ht2;have F5:=ah (F3.i.pO ht3);clear ht1 ht2 ht3);go_roundw
        case rel=>exact⟨i2+1,J2+1,by omega,by go_num,by rw[HJ2.i];omega,aEu.i,by rw[HM3.i.2],_,_,_,HL3.i,T4.i,by rw[HM3.i.1];exact HS.i.set _,X5.i,X6.i,F5.i⟩
        case measure=>simp[intOf]<;>omega
     ·have azt:i2=k:=by omega
      have hd2:decide ((i2:Int)<k)=false:=by simp;omega
      have HJR:=ah (show J2=(r+1)*k by rw[HJ2.i,HJ.i,azt,Nat.add_mul];omega);have HLS:=ah (show m.left<lf by
       obtain⟨i0,hi0,hgi⟩:=Dn (q:=q) (by intro e;have:=HKQ.i;rw[e]at this;simp at this;omega) HQP.i;rw[HG.i]at hgi;have hp:=aaq (g:=g) (n:=n) (q:=q) (ch:=Il o s n) hi0 hgi r;rw[HKQ.i,<-HJR.i,<-HJ.i,<-HLF.i,<-HM.i]at hp;have h1:=HK2.i J hJK;rw[<-HLF.i]at h1;omega)
      have aEv:=ah (show FiS g n q o s tb sb W J2 wr from⟨l,c1,d1,by rw[<-HM.i];exact hL,hT,by rw[<-HM.i];exact hS,hb1,hb2,hfr⟩);clear hL hT hS hb1 hb2 hfr azt;go_wp2;go_roundw
      case rel=>exact⟨J2,r+1,HJR.i,azr,by rw[HM.i],aEv.i⟩
      case measure=>have:=HLS.i;simp[intOf]<;>omega
end
def aqG(l:List pE):Prop:=Ww l/\(∀x∈l,0<=x.q/\x.q<=1024000)/\l.a<=1024
theorem Ww.ne{l:List pE}(h:Ww l){j:Nat}(hj:j+1<l.a):(l.c j lq).E≠(l.c (j+1) lq).E:=by
 have:=gu.1 h j (j+1) (by omega) hj (by omega);rw[av,av,aD (by omega),aD hj,jE,jE];intro e;rw[e,sJ]at this;cases this
theorem Zj{B:Nat}{w W:au}(h:aM B w W)(q:Nat):aM B w (W.drewN q):=⟨h.os,h.tape,h.output,h.j,h.block⟩
theorem ajZ(l:List pE)(hk:aqG l)(A:Option aU)(n c:Nat)(w:au)(hR:iF pE.aA 2 w w.a.j A n l):
 aQ aj 82 #[.a A n c] w (gy w (.e true)):=by
 have hl:=hR.1;have hn:n<=1024:=by have:=hk.2.2;omega
 have HK:=ah hk;have HR:=ah hR;have HL:=ah hl;clear hk hl;go_enter Tryz.func82,Tryz.ntmps82;go_wp2;go_loopw [7] (fun i wr=>∃k:Nat,k<=n/\i=.b .a k/\aM w.a.j w wr)
  (fun i _=>n-(intOf i).e)
 case atStart=>exact⟨0,ji _,rfl,aH _ _⟩
 case round=>
  obtain⟨k,hkn,rfl,hnx⟩:=hrel;have HN:=ah hnx;by_cases hlt:k<n
  ·have hki:(k:Int)<n:=by omega
   have R1:=ah (HR.i.S HN.i);obtain⟨b,o,hA,hbb,hh,hc⟩:=iF.fG pE.Bo lq R1.i hlt;subst hA;obtain⟨x,hx⟩:=dw (l.c k lq);rw[<-hx]at hc;have hxm:x∈l:=by rw[hx,av,aD (by rw[HL.i];omega),jE];exact eY _
   obtain⟨q1,q2⟩:=HK.i.2.1 x hxm;have t1:decide (x.q<0)=false:=by simp;omega
   have t2:decide (x.q>1024000)=false:=by simp;omega
   have t3:decide (1024000<x.q)=false:=by simp;omega
   have HX:=ah hx;have hsz:=hnx.j;have HB1:=ah (hnx.alloc (by omega) (.D x.aA 151));have bx:=ah (dN.new wr x.aA 151);have f0:∀i,(wr.alloc (.D x.aA 151)).b ⟨wr.a.j,i,none⟩=x.aA[i]?:=bx.i.M.1;have s0:=(f0 0).trans (pE.zH x);have s1:=(f0 1).trans (pE.aqy x);have i3:=jV ((k:Int)+1) (by omega);clear hx hbb hnx hxm f0 q1 q2 hsz;by_cases h0:0<k
   ·obtain⟨j,hj⟩:∃j,k=j+1:=⟨k-1,by omega⟩
    obtain⟨b2,o2,hA2,MZ,hcj⟩:=iF.cell pE.Bo lq ((HR.i.S HN.i).alloc (by have:=HN.i.j;omega) (.D x.aA 151)) (show j<n by omega);obtain⟨y,hy⟩:=dw (l.c j lq);have hne:y.E≠x.E:=by
     rw[hy,HX.i,hj];exact HK.i.1.ne (by rw[HL.i];omega)
    rw[<-hy]at hcj;cases hA2;have c0:=(hcj 0 (by omega)).trans (pE.zH y);rw[nM]at c0;have t4:decide ((k:Int)>0)=true:=by simp;omega
    have t5:decide (0<k)=true:=by simp;omega
    have t6:(y.E==x.E)=false:=by simpa using hne
    have i1:(k:Int)-1=(j:Int):=by omega
    have i2:=jV (j:Int) (by omega);have i4:(j:Int)<n:=by omega
    clear hcj hy hne hj h0 MZ;go_wp2_with fail;go_quiet (fail);go_wp2;go_roundw
    case rel=>exact⟨k+1,by omega,by simp,Zj HB1.i _⟩
    case measure=>simp[intOf];omega
   ·have t4:decide ((k:Int)>0)=false:=by simp;omega
    have t5:decide (0<k)=false:=by simp;omega
    clear h0;go_wp2_with fail;go_quiet (fail);go_wp2;go_roundw
    case rel=>exact⟨k+1,by omega,by simp,Zj HB1.i _⟩
    case measure=>simp[intOf];omega
  ·obtain rfl:k=n:=by omega
   have hd:decide ((k:Int)<k)=false:=by simp
   have t1:decide ((k:Int)<=1024)=true:=by simp;omega
   go_wp2;go_ret;exact⟨rfl,HN.i⟩
theorem aj0(x y:Nat)(hx:x<18446744073709551616)(hy:y<18446744073709551616)(w:au):
 aQ aj 242 #[.b .c x,.b .c y] w fun e w'=>e=.a (.K #[.b .c ((x*y/18446744073709551616:Nat):Int),.b .c ((x*y%18446744073709551616:Nat):Int)])/\w=w':=by
 obtain⟨bd,bt,bw,hhi⟩:=Lib.mul64_hi x y hx hy;have ba:=Lib.half_mul_le (a:=x/4294967296) (b:=y/4294967296) (by omega) (by omega);have bb:=Lib.half_mul_le (a:=x/4294967296) (b:=y%4294967296) (by omega) (by omega);have bc:=Lib.half_mul_le (a:=x%4294967296) (b:=y/4294967296) (by omega) (by omega);have ba':x/4294967296*(y/4294967296)<18446744073709551616:=by omega
 have bb':x/4294967296*(y%4294967296)<18446744073709551616:=by omega
 have bc':x%4294967296*(y/4294967296)<18446744073709551616:=by omega
 have bh1:x/4294967296*(y/4294967296)+(x/4294967296*(y%4294967296)+x%4294967296*(y%4294967296)/4294967296)/4294967296<18446744073709551616:=by omega
 have bh:x/4294967296*(y/4294967296)+(x/4294967296*(y%4294967296)+x%4294967296*(y%4294967296)/4294967296)/4294967296+((x/4294967296*(y%4294967296)+x%4294967296*(y%4294967296)/4294967296)%4294967296+x%4294967296*(y/4294967296))/4294967296<18446744073709551616:=by
  rw[hhi];have:=gP (show x<=18446744073709551615 by omega) (show y<=18446744073709551615 by omega);omega
 go_enter Tryz.func242,Tryz.ntmps242;go_wp2;simp only[Mul64.maskN x hx,Mul64.maskN y hy,Mul64.divN,Mul64.mulN,Mul64.addN,vM _ bd,vM _ bb',vM _ bt,Mul64.maskN _ bt,vM _ bc',vM _ bw,vM _ ba',vM _ bh1,vM _ bh,Mul64.wrapM];rw[hhi];go_ret2;exact⟨rfl,rfl⟩
theorem aqH(x y:Nat)(hx:x<18446744073709551616)(hy:y<18446744073709551616)(w:au):
 aQ aj 168 #[.b .c x,.b .c y] w fun e w'=>e=.a (.K #[.b .c ((x*y/18446744073709551616:Nat):Int),.b .c ((x*y%18446744073709551616:Nat):Int)])/\w=w':=by
 have C:=ah (aj0 x y hx hy w);go_enter Tryz.func168,Tryz.ntmps168;go_wp2_with (go_at_call 242;(with_reducible refine C.i.g ?_);rintro e w1 ⟨rfl,rfl⟩);go_ret2;exact⟨rfl,rfl⟩
theorem mul_one(n:Nat)(hn:n<=1000000)(w:au):
 aQ aj 168 #[.b .c 1,.b .c n] w fun e w'=>e=.a (.K #[.b .c 0,.b .c n])/\w=w':=by
 refine(aqH 1 n (by decide) (by omega) w).g ?_;rintro e w1 ⟨rfl,rfl⟩;have e1:1*n/18446744073709551616=0:=by omega
 have e2:1*n%18446744073709551616=n:=by omega
 rw[e1,e2];exact⟨rfl,rfl⟩
theorem ahX(w:au)(n:Nat)(hn:n<=1000000):(xP 70 (.b .a n) (.b .a n)).J aj w=.ok (.a (some ⟨w.a.j,0,none⟩) n n) (w.alloc (.D (madeCells #[.b .a 0] n) 3)):=by
 obtain⟨i,h1,h2,h3,h4⟩:=xB (P:=aj) (e:=3) (z:=.b .a 0) (size:=1) (bytes:=8) (by kernel_rfl);have:=run_make w 70 3 i _ oC h1 h2 .a .a (n:Int) (n:Int) (by omega) (by omega) (by rw[h4];omega) (by omega);rw[dW,h3,gL]at this;exact this
theorem agv{w:au}{ops:Array je}{rest:List je}{o:je}{a:qY}{Q:zW->qY->au->Prop}(hg:o.guard=none)(l c:pR)(Ij:o.op=Op.makeSlice 70 l c)
 (n:Nat) (hl:a.eval l=.b .a n) (hc:a.eval c=.b .a n) (hn:n<=1000000)
 (hK:wpList aj ops Q rest (a.put o.Y (.a (some ⟨w.a.j,0,none⟩) n n)) (w.alloc (.D (madeCells #[.b .a 0] n) 3))):wpList aj ops Q (o::rest) a w:=by
 refine sU hg fun K hK'=>?_
 unfold nI;simp[execOp,Ij,hl,hc,ahX w n hn,iI];exact hK' _ _ hK
theorem ahY(W:au){y z m dl dc sl sc:Nat}{a:aU}{vs:List aC}(hm:vs.a=m)(hm2:m=qw sl dl)(hsrc:∀j v,vs[j]? = some v->W.b (a.add j)=some v)(hth:W.O y z m)(h1:∀v∈vs,v.h=true)(ty:bF):
 (Builtin.copy_ #[70,70] ty #[.a (some ⟨y,z,none⟩) dl dc,.a (some a) sl sc]).J aj W=.ok (goInt m) (W.setCells y z vs):=by
 have:=run_copy_cells (P:=aj) W 70 70 ty 3 y z dl dc a sl sc vs oC (by kernel_rfl) (by rw[hm,hm2]) hsrc (fun j hj=>(hth j (by rw[<-hm];exact hj)).1) (fun j hj=>(hth j (by rw[<-hm];exact hj)).2) h1;rw[hm]at this;exact this
theorem agw{w:au}{ops:Array je}{rest:List je}{o:je}{a:qY}{Q:zW->qY->au->Prop}(hgd:o.guard=none)(d s:pR)
 (ho:o.op=.call {callee:=.builtin .copy,args:=#[d,s],argTypes:=#[70,70]}) {y z m dl dc sl sc:Nat} {dp:Option aU} {b:aU} {vs:List aC} (hdp:dp=some ⟨y,z,none⟩) (hd:a.eval d=.a dp dl dc) (hs:a.eval s=.a (some b) sl sc)
 (hm:vs.a=m) (hm2:m=qw sl dl) (hsrc:∀j v,vs[j]? = some v->w.b (b.add j)=some v) (hth:w.O y z m) (h1:∀v∈vs,v.h=true)
 (h:wpList aj ops Q rest (a.put o.Y (goInt m)) (w.setCells y z vs)):wpList aj ops Q (o::rest) a w:=by
 subst hdp;refine sU hgd fun K hK=>?_
 unfold nI;simp[execOp,ho,resolve,invoke,builtin,hd,hs,ahY w hm hm2 hsrc hth h1,iI];exact hK _ _ h
theorem anh{w:au}{ops:Array je}{o:je}{a:qY}{K:qY->au->Prop}{Q:zW->qY->au->Prop}{E:Prop}(hgd:o.guard=none)(d s:pR)
 (ho:o.op=.call {callee:=.builtin .copy,args:=#[d,s],argTypes:=#[70,70]}) {y z m dl dc sl sc:Nat} (dp:Option aU) {b:aU} {vs:List aC} (hdp:dp=some ⟨y,z,none⟩) (hd:a.eval d=.a dp dl dc) (hs:a.eval s=.a (some b) sl sc)
 (hm:vs.a=m) (hm2:m=qw sl dl) (hsrc:∀j v,vs[j]? = some v->w.b (b.add j)=some v) (hth:w.O y z m) (h1:∀v∈vs,v.h=true)
 (h:K (a.put o.Y (goInt m)) (w.setCells y z vs)):if fF o (yielded ops a.tmps)=true then nI aj o a w K Q else E:=by
 subst hdp;have hw:fF o (yielded ops a.tmps)=true:=by simp[fF,hgd]
 rw[if_pos hw];unfold nI;simp[execOp,ho,resolve,invoke,builtin,hd,hs,ahY w hm hm2 hsrc hth h1,iI];exact h
section
attribute [local go_sem high] jc jK
theorem ani(n:Nat)(h:n<18446744073709551616):jB.wrap (n:Int)=(n:Int):=vM n h
theorem agx(n:Nat)(hn:1<=n)(hn2:n<=100000)(b cx:Nat)(v:Int)(w:au)(hx:dN w b #[.b .a v]):
 aQ aj 84 #[.a (some ⟨b,0,none⟩) 1 cx,.b .a n] w fun e w'=>∃g d,w.a.j<=g/\e=.a (.a (some ⟨g,0,none⟩) n n)/\dN w' g d/\d.j=n/\SlA d (eu n v)/\aM w.a.j w w':=by
 have MU:=ah (fun w=>mul_one n (by omega) w);have hnI:(1:Int)<=n:=by omega
 have t1:decide ((n:Int)<0)=false:=by simp
 have t2:decide ((n:Int)>9223372036854775807)=false:=by simp;omega
 have t3:decide ((9223372036854775807:Int)<n)=false:=by simp;omega
 have t4:decide (9223372036854775807<n)=false:=by simp;omega
 have u1:=ani n (by omega);have i1:=jV (n:Int) (by omega);obtain⟨d0,hd0⟩:=dw (madeCells #[.b .a 0] n);have D0:=ah (show d0.j=n by rw[hd0];exact size_madeCells _ _);have HD0:=ah hd0;obtain⟨g,hg⟩:=dw w.a.j;have BG:=ah (show dN (w.alloc (.D d0 3)) g d0 by rw[hg];exact dN.new w d0 3);have BX:=ah (hx.alloc (.D d0 3));have HG:=ah hg;have HLT:=ah (show b≠g by rw[hg];exact jN hx.lt);have BL:=ah ((aH w.a.j w).alloc (ay _) (.D d0 3));have SRC:=ah (show∀j u,[(.b .a v:aC)][j]? = some u->(w.alloc (.D d0 3)).b ((⟨b,0,none⟩:aU).add j)=some u by
  intro j u hu;have:=BX.i.M.1 j;cases j with
  | zero=>simpa[qH]using this.trans hu
  | succ j=>simp at hu)
 have TH:=ah (BG.i.O 0 1 (by rw[D0.i];omega));have MK:=ah (ahX w n (by omega));clear hd0 hg;go_enter Tryz.func84,Tryz.ntmps84;go_wp2_with (first|(go_at_call 168;(with_reducible refine(MU.i _).g ?_);rintro e w1 ⟨rfl,rfl⟩)|(refine agv rfl (.a 29) (.a 29) rfl n rfl rfl (by omega) ?_;rw[<-HD0.i,<-HG.i];generalize hww:w.alloc (.D d0 3)=w1 at BG BX BL SRC TH⊢;clear hww)|(refine agw rfl (.a 31) (.a 32) rfl (y:=g) (z:=0) (m:=1) (vs:=[.b .a v]) rfl rfl rfl rfl (by show 1=min 1 n;omega) SRC.i TH.i (by simp[dx]) ?_));have B1:=ah (BG.i.setCells 0 [.b .a v]);have L1:=ah (xV (B:=w.a.j) (aY HG.i.symm) [.b .a v] 0 _ BL.i);clear SRC TH MU;go_loopw [8] (fun i wr=>∃(k:Nat)(d:Array aC),1<=k/\k<=n/\i=.b .a k/\dN wr g d/\d.j=n/\(∀j,j<k->d[j]? = some (.b .a v))/\aM w.a.j w wr)
  (fun i _=>n-(intOf i).e)
 case atStart=>
  refine⟨1,_,ay _,hn,rfl,B1.i,by rw[XT,D0.i],fun j hj=>?_,L1.i⟩;obtain rfl:j=0:=by omega
  rw[Ep,if_pos ⟨by omega,by simp,by rw[D0.i];omega⟩];rfl
 case round=>
  obtain⟨k,d,hk1,hkn,rfl,hb,hds,hall,hbel⟩:=hrel;by_cases hlt:k<n
  ·have hki:(k:Int)<n:=by omega
   have aKR:(k:Int)<=n:=by omega
   obtain⟨m,hm⟩:=dw (qw k (n-k));have hm2:m<=k/\0<m/\k+m<=n:=by have e:qw k (n-k)=min k (n-k):=rfl;rw[e]at hm;omega
   obtain⟨k2,hk2⟩:=dw (k+m);have i2:(k:Int)+(m:Int)=(k2:Int):=by omega
   have i3:=jV (k2:Int) (by omega);have SRC:=ah (show∀j u,(eu m (.b .a v:aC))[j]? = some u->wr.b ((⟨g,0,none⟩:aU).add j)=some u by
    intro j u hu;have h1:=hb.M.1 j;rw[tF]at hu;split at hu
    ·rename_i hj
     rw[hall j (by omega)]at h1;injection hu with hu
     subst hu;by_cases h0:j=0
     ·subst h0;simpa[qH]using h1
     ·simpa[qH,h0]using h1
    ·cases hu)
   have TH:=ah (hb.O k m (by rw[hds];omega));have HM:=ah (show m=qw k (n-k)from hm);have HC:=ah (show vI (some ⟨g,0,none⟩) k n 1=some ⟨g,k,none⟩from Qc (n:=0) hlt);have HR:=ah (show(eu m (.b .a v:aC)).a=m by simp);have HO:=ah (show∀u∈eu m (.b .a v:aC),u.h=true from fun u hu=>by rw[List.eq_of_mem_replicate hu];rfl);have HB:=ah hb;have HDS:=ah hds;have aEw:=ah hall;have aEx:=ah hbel;have HK2:=ah hk2;have HM2:=ah hm2;clear hm hb hds hall hbel hk2 hm2;go_wp2_with fail;go_region_held_law (fun _=>True) (trivial)
    (first|(refine anh (o:=⟨some 45,_,_,_,_,_⟩) rfl (.a 41) (.a 44) rfl (y:=g) (z:=k) (m:=m) (vs:=eu m (.b .a v)) (vI (some ⟨g,0,none⟩) k n 1) HC.i rfl rfl HR.i HM.i SRC.i TH.i HO.i ?_))
   go_wp2;go_roundw
   case rel=>
    refine⟨k2,_,by have:=HM2.i;have:=HK2.i;omega,by have:=HM2.i;have:=HK2.i;omega,rfl,HB.i.drew.setCells k _,by rw[XT,HDS.i],fun j hj=>?_,xV (aY HG.i.symm) _ _ _ aEx.i.drew⟩;have h1:=HK2.i;have h2:=HM2.i;rw[Ep];split
    ·rename_i h3
     simp at h3;have:j-k<m:=by omega
     simp[this]
    ·rename_i h3
     simp at h3;refine aEw.i j ?_;rcases aZ j k with h4|h4
     ·exact h4
     ·have h6:=h3 h4 (by omega)
      have h7:=HDS.i;omega
   case measure=>
    have h1:=HK2.i;have h2:=HM2.i;simp only[intOf,dW];omega
  ·obtain rfl:k=n:=by omega
   have hd:decide ((k:Int)<k)=false:=by simp
   have HB:=ah hb;go_wp2;go_ret;exact⟨g,d,aY HG.i.symm,rfl,HB.i,hds,fun j hj=>by
    rw[oV]at hj;rw[hall j hj,av,tF,if_pos hj];rfl,hbel⟩
end
section
variable {W W':au} {q g:Nat} {key:Vector UInt8 16} {dX:Int} {s:List (Option Fw)}
theorem FH.azv(h:FH W q g key dX s):(xK 22 (.c (some ⟨q,0,none⟩))).J aj W=.ok (.d (jg key)) W:=by
 obtain⟨_,_,_,_,h5,h6⟩:=h.M;rw[Sr.ld W q 0 h6,h5]
theorem FH.lt(h:FH W q g key dX s):q<W.a.j/\g<W.a.j:=⟨h.h.lt,h.sl.lt⟩
theorem WC(T:FH W q g key dX s)(k:Tu)(hk:xk k):
 aQ aj 200 #[.c (some ⟨q,0,none⟩),.d k.aA] W (gy W (.b .a (hmK key s.a k:Nat))):=by
 have T0:=ah (T.alloc (.D k.aA 81));have X0:=ah (dN.new W k.aA 81);have B0:=ah ((aH W.a.j W).alloc (ay _) (.D k.aA 81));obtain⟨N,hN⟩:=dw s.a;obtain⟨h,hh⟩:=dw (xZ key (MC k));have HM:=ah (show hmK key s.a k=h%N by unfold hmK;rw[hN,hh]);have hsz:=T.sz;rw[<-hN]at hsz;have C0:=ah (fun W=>QU key k hk W);rw[<-hh]at C0;have HN:=ah hN;clear hN hh T;obtain⟨r,hr⟩:=dw (h%N);have hrl:r<N:=by rw[hr];exact fH _ (by omega)
 have e1:(h:Int)%(N:Int)=(r:Int):=by rw[hr];omega
 have e2:MB (h:Int) (N:Int)=(r:Int):=by rw[mI (by omega)];exact e1
 have u1:=ani N (by omega);have u2:=ani r (by omega);have i1:=jV (N:Int) (by omega);have i2:=jV (r:Int) (by omega);have z1:¬(N:Int)=0:=by omega
 have z2:¬N=0:=by omega
 rw[<-hr]at HM;clear hr;rw[HM.i];go_enter Tryz.func200,Tryz.ntmps200;go_upto_region 1 with fail
 generalize W.alloc (.D k.aA 81)=w1 at T0 X0 B0 ⊢;obtain⟨T,f,n0,E0,es,ew⟩:=xO (w1);have hT:Nonempty T:=⟨n0⟩
 have ES:=ah es;have EW:=ah ew;have l1:=fun m=>(T0.i.go (es m)).azv
 have l2:=fun m=>pQ (X0.i.go (es m))
 have l3:∀m,(f m).b ⟨q,18,none⟩=some (.a (some ⟨g,0,none⟩) N N):=fun m=>by rw[HN.i];exact(T0.i.go (es m)).M.1
 clear es ew;refine nW f (by kernel_rfl) (by kernel_rfl) n0 E0 ?_
 repeat(go_big_quiet_step ((first|(go_at_call 36;(with_reducible refine(C0.i _).g ?_);rintro e w2 ⟨rfl,hb⟩;exact⟨rfl,EW.i _ ((ES.i _).trans (hb.g (ES.i _).j))⟩))))
 refine gN ?_;rintro _ ⟨m',rfl⟩;have HB:=ah (ES.i m');generalize f m'=wN at *;clear ES EW E0 hT n0;clear l1 l2 l3;go_wp2;go_ret;exact⟨rfl,iZ B0.i HB.i⟩
theorem Cg(T:FH W q g key dX s)(k:Tu)(hk:xk k)(d:Nat)(hd:Found (hmK key s.a) Fw.key s k d):
 aQ aj 129 #[.c (some ⟨q,0,none⟩),.d k.aA] W (gy W (.b .a ((hmK key s.a k+d)%s.a:Nat))):=by
 have T0:=ah (T.alloc (.D k.aA 81));have X0:=ah (dN.new W k.aA 81);have B0:=ah ((aH W.a.j W).alloc (ay _) (.D k.aA 81));have hsz:=T.sz;have HD:=ah hd;obtain⟨h,hh⟩:=dw (hmK key s.a k);have hhl:h<s.a:=by rw[hh];exact fH _ (by omega)
 have C0:=ah (fun(W:au) (T:FH W q g key dX s)=>WC T k hk);rw[<-hh]at C0;have HH:=ah hh;obtain⟨N,hN⟩:=dw s.a;rw[<-hN]at hsz hhl;have HN:=ah hN;clear T hd hh hN;go_enter Tryz.func129,Tryz.ntmps129;go_upto_region 1 with fail
 generalize W.alloc (.D k.aA 81)=w1 at T0 X0 B0 ⊢;have l0:=pQ X0.i;go_wp2_with (go_at_call 200;(with_reducible refine(C0.i _ T0.i).g ?_);rintro e w2 ⟨rfl,hb⟩;have T2:=ah (T0.i.go hb);have X2:=ah (X0.i.go hb);have B2:=ah (iZ B0.i hb);clear hb l0);go_loopw [5] (fun v wr=>∃j:Nat,j<=d/\v=.b .a ((h+j)%N:Nat)/\aM w2.a.j w2 wr)
  (fun v wr=>((h+d)%N+N-(intOf v).e)%N)
 case atStart=>exact⟨0,ji _,by rw[nM,fP hhl],aH _ _⟩
 case round=>
  obtain⟨j,hj,rfl,hbw⟩:=hrel;have HB:=ah hbw;have hdN:d<N:=by rw[HN.i];exact HD.i.1
  obtain⟨i,hi⟩:=dw ((h+j)%N);have hil:i<N:=by rw[hi];exact fH _ (by omega)
  have TR:=ah (T2.i.go hbw);have b1:vE wr W.a.j 0 37:=of_eq_true ((X2.i.go hbw).M.2.2.1 0 37 (by rw[Tu.eF];omega));have b2:dQ wr W.a.j 0 37=k.aA:=by rw[(X2.i.go hbw).M.2.2.2 0 37 (by rw[Tu.eF];omega)];exact Tu.kg k
  have l2:wr.b ⟨q,18,none⟩=some (.a (some ⟨g,0,none⟩) N N):=by rw[HN.i];exact TR.i.M.1
  obtain⟨a1,a2,a3,a4,a5,a6,a7⟩:=TR.i.Wq (show i<s.a by rw[<-HN.i];exact hil);rw[<-hi];have hii:(i:Int)<N:=by omega
  obtain⟨i1,hi1⟩:=dw (i+1);have e0:(i:Int)+1=(i1:Int):=by omega
  have w0:=jV (i1:Int) (by omega);obtain⟨i2,hi2⟩:=dw (i1%N);have aKS:i2<N:=by rw[hi2];exact fH _ (by omega)
  have e1:(i1:Int)%(N:Int)=(i2:Int):=by rw[hi2];omega
  have e2:MB (i1:Int) (N:Int)=(i2:Int):=by rw[mI (by omega)];exact e1
  have w2':=jV (i2:Int) (by omega);have z1:¬(N:Int)=0:=by omega
  have z2:¬N=0:=by omega
  have HI:=ah hi;have HI2:=ah (show i2=(h+(j+1))%N by rw[hi2,hi1,hi,Nat.mod_add_mod,nG]);clear a2 a3 a5 a6 hi hi1 hi2 hbw;have HST:=ah (show stops (kf:=Fw.key) s k i=true->j=d from fun h1=>by
   rcases aZ j d with h2|h2
   ·have h3:=HD.i.2.2 j h2
    rw[<-HH.i,<-HN.i,<-HI.i,h1]at h3;cases h3
   ·omega)
  have DV:=ah (show stops (kf:=Fw.key) s k i=false->j<d from fun h1=>by
   rcases aZ j d with h2|h2
   ·exact h2
   ·have h3:=HD.i.2.1
    obtain rfl:j=d:=by omega
    rw[<-HH.i,<-HN.i,<-HI.i,h1]at h3;cases h3)
  cases hat:fG s i with
  | none=>
    rw[hat]at a1 a4;have HE:=ah (HST.i (by unfold stops;rw[hat]));clear a4 a7 hat
    replace a1:wr.b ⟨g,i*42,none⟩=some (.e false):=a1
    go_wp2_with fail;go_quiet (fail);go_wp2;go_ret;refine⟨?_,?_⟩
    ·rw[<-HH.i,<-HN.i,<-HE.i,<-HI.i];rfl
    ·exact fJ (iZ B2.i HB.i) _
  | some x=>
    rw[hat]at a1 a4
    replace a1:wr.b ⟨g,i*42,none⟩=some (.e true):=a1
    replace a4:dQ wr g (i*42+1) 37=x.key.aA:=a4
    by_cases hxk:x.key=k
    ·have HE:=ah (HST.i (by unfold stops;rw[hat];simp[hxk]))
     have t1:decide (x.key=k)=true:=by simp[hxk]
     clear hxk hat;go_wp2_with fail;go_quiet (fail);go_wp2;go_ret;refine⟨?_,?_⟩
     ·rw[<-HH.i,<-HN.i,<-HE.i,<-HI.i];rfl
     ·exact fJ (iZ B2.i HB.i) _
    ·have HE:=ah (DV.i (by unfold stops;rw[hat];simp[hxk]))
     have t1:decide (x.key=k)=false:=by simp[hxk]
     clear hxk hat;go_wp2_with fail;go_quiet (fail);go_wp2;go_roundw
     case rel=>exact⟨j+1,HE.i,by rw[HI2.i],fJ HB.i _⟩
     case measure=>
      have h1:=HE.i;have e3:=wJ (N:=N) (a:=h+d) (by omega);have e4:=HI.i;rw[wJ (N:=N) (a:=h+j) (by omega)]at e4;have e5:=HI2.i;rw[wJ (N:=N) (a:=h+(j+1)) (by omega)]at e5;simp only[intOf,dW];rw[e3];generalize hM:(if h+d<N then h+d else h+d-N)=M;have hM2:M<N:=by rw[<-hM];split<;>omega
      rw[wJ (N:=N) (a:=M+N-i2) (by omega),wJ (N:=N) (a:=M+N-i) (by omega)];rw[e4,e5,<-hM]
      repeat' split
      all_goals omega
end
section
variable {W W':au} {q g:Nat} {key:Vector UInt8 16} {dX:Int} {s:List (Option Fw)} {l:List Fw}
theorem kFw:oW 86 41 ko.aA:=⟨⟨_,nC,rfl⟩,by kernel_rfl,by kernel_rfl,Fw.I _⟩
theorem azw(w:au)(fs:Array oh)(h:aj.k 86=some (.struct fs)):(iG (fun f=>Prod.mk f.Z <$> sizeOf f.type) fs:Sem (Array (Nat×Nat))).J aj w=.ok #[(0,37),(37,1),(38,1),(39,1),(40,1)] w:=by
 have e:=nC;rw[h]at e;cases e;show _=_
 kernel_rfl
@[go_sem]theorem awZ(W:au):(atL #[]).J aj W=.ok (.d ko.aA) W:=kFw.bd0 W _ nC ⟨_,azw W _ nC⟩
structure KL(W:au)(q g:Nat)(key:Vector UInt8 16)(dX:Int)(s:List (Option Fw))(l:List Fw):Prop where
 w:FH W q g key dX s
 r:TbR (hmK key s.a) s l
 ok:wE dX l
theorem KL.go(h:KL W q g key dX s l)(hb:aM W.a.j W W'):KL W' q g key dX s l:=⟨h.w.go hb,h.r,h.ok⟩
theorem Bp{t:Tu}(h:Gb t=true):xk t:=by
 unfold Gb Yb at h;simp only[bB,decide_eq_true_eq]at h;unfold xk;omega
theorem KL.Vv(h:KL W q g key dX s l)(k:Tu):∃d,Found (hmK key s.a) Fw.key s k d/\fG s ((hmK key s.a k+d)%s.a)=pW l k:=by
 obtain⟨d,hd⟩:=h.r.tab.found k;exact⟨d,hd,h.r.stop h.ok hd⟩
theorem wE.none{dX:Int}(h:wE dX l){k:Tu}(hk:Gb k=false):pW l k=none:=by
 cases hf:pW l k with
 | none=>rfl
 | some x=>
   obtain⟨h1,h2⟩:=xJ hf;have:=wL (h.ok x h1);rw[h2,hk]at this;cases this
def anj(o:Option Fw):aC:=.K #[.d (vZ o).qZ.aA,.e o.isSome]
theorem Kl(T:KL W q g key dX s l)(k:Tu):
 aQ aj 126 #[.c (some ⟨q,0,none⟩),.d k.aA] W (gy W (anj (pW l k))):=by
 have Z0:=ah (((Bx.start W).new k.aA 81).new ko.aA 86);rw[show(W.alloc (.D k.aA 81)).a.j=W.a.j+1 by simp]at Z0;have CK:=ah (fun w=>Ka k w);obtain⟨ok,hok⟩:=dw (Gb k);rw[<-hok]at CK;have HT:=ah T;have JW:=ah hok;have HLT:=ah T.w.lt;obtain⟨o,ho⟩:=dw (pW l k);rw[<-ho];have HO:=ah ho.symm;clear T hok ho;go_enter Tryz.func126,Tryz.ntmps126;go_upto_region 1 with fail
 generalize(W.alloc (.D k.aA 81)).alloc (.D ko.aA 86)=w1 at Z0 ⊢;have l1:=pQ Z0.i.b1;have HE:=ah (fun(w':au) (x:Fw) (h:Bx [(W.a.j+1,ko.aA),(W.a.j,k.aA)] W w')=>show dN (Av w' (W.a.j+1) 0 x) (W.a.j+1) x.aA/\aM W.a.j W (Av w' (W.a.j+1) 0 x)from
  have k2:=h.put (fun p hp=>by rw[fT.1 hp];simp) x.aA (by rw[Fw.I,Fw.I])
  ⟨k2.X,k2.R⟩)
 cases ok
 ·have HN:=ah (HT.i.ok.none JW.i.symm)
  rw[HO.i]at HN;go_wp2_with (go_at_call 115;(with_reducible refine(CK.i _).g ?_);rintro e w2 ⟨rfl,hb⟩;have Z2:=ah (Z0.i.go hb);clear hb l1;have yO:=Z2.i.X.O 0 41 (aY (Fw.I _).symm));refine aO (kFw.qK rfl _ rfl (HE.i _ ko Z2.i).1 (Fw.I _)) rfl ?_;exact⟨by rw[HN.i];rfl,(HE.i _ ko Z2.i).2⟩
 ·go_wp2_with (go_at_call 115;(with_reducible refine(CK.i _).g ?_);rintro e w2 ⟨rfl,hb⟩;have Z2:=ah (Z0.i.go hb);clear hb l1)
  obtain⟨d,hd,hat⟩:=HT.i.Vv k;have hsz:=HT.i.w.sz;obtain⟨i,hi⟩:=dw ((hmK key s.a k+d)%s.a);have hil:i<s.a:=by rw[hi];exact fH _ (by omega)
  have CF:=ah (fun(w:au) (h:Bx [(W.a.j+1,ko.aA),(W.a.j,k.aA)] W w)=>Cg (HT.i.w.go h.R) k (Bp JW.i.symm) d hd);rw[<-hi]at CF hat;have HAT:=ah hat;have HIL:=ah hil;obtain⟨N,hN⟩:=dw s.a;have HN:=ah hN;have hii:(i:Int)<N:=by omega
  rw[HO.i]at HAT;clear hd hat hi hil hN hsz;refine P5 (Bx.abg ([(W.a.j+1,ko.aA),(W.a.j,k.aA)]) W) 9 10 6 213 GL.aA (by kernel_rfl) rfl (by kernel_rfl) (by decide) (by decide) (by kernel_rfl) (by kernel_rfl) (by kernel_rfl) rfl rfl rfl (fun a w=>by simp[go_sem]) Z2.i.drew ?_;apply rO;refine⟨fun T f hT es ew=>?_,?_⟩
  ·have EW:=ah ew
   have ES:=ah es;have l1:=fun m=>pQ (ES.i m).b1
   have l2:∀m,(f m).b ⟨q,18,none⟩=some (.a (some ⟨g,0,none⟩) N N):=fun m=>by rw[HN.i];exact(HT.i.w.go (ES.i m).R).M.1
   have l3:∀m,vE (f m) g (i*42) 42:=fun m=>((HT.i.w.go (ES.i m).R).Wq HIL.i).2.2.2.2.1
   have l4:∀m,dQ (f m) g (i*42) 42=(vZ o).aA:=fun m=>by rw[((HT.i.w.go (ES.i m).R).Wq HIL.i).2.1,HAT.i]
   have CG:=ah (fun m=>CF.i (f m) (ES.i m));clear es ew;simp only[kV,bI,bM,jP,jZ]
   repeat(go_big_quiet_step ((first|(go_at_call 129;(with_reducible refine(CG.i _).g ?_);rintro e w2 ⟨rfl,hb⟩;exact⟨rfl,EW.i _ _ hb⟩))))
   exact gN rfl
  ·intro w9 w8 zT _ hb
   have ZN:=(zT.new GL.aA 213).go hb;have hy:=zT.R.j;have hyW:W.a.j+1<w9.a.j:=zT.X.lt;have ZN:=ah ZN;generalize w9.a.j=y at *;clear zT hb;simp only[Act.put,bJ,bI,bM,jQ,kZ];have hne:=ah (show∀p∈[(W.a.j+1,ko.aA),(W.a.j,k.aA)],p.1≠y from fun p hp=>by simp at hp;rcases hp with rfl|rfl<;>simp<;>omega);have HYW:=ah hyW;clear hyW hy;have yO:=ZN.i.X.O 0 42 (aY (Sl.I GL).symm);have Z5:=ah (ZN.i.put hne.i (vZ o).aA (by rw[Sl.I,Sl.I]));go_step;go_simp;go_step;go_step;clear yO ZN;generalize gZ w8 y 0 (vZ o).aA=w6 at Z5 ⊢;have b0:=Z5.i.X;have f1:w6.b ⟨y,0,none⟩=some (.e o.isSome):=by rw[b0.M.1 0,Sl.Oj,Jz]
   have f2:vE w6 y 1 41:=of_eq_true (b0.M.2.2.1 1 41 (by rw[Sl.eF];omega));have f3:dQ w6 y 1 41=(vZ o).qZ.aA:=by rw[b0.M.2.2.2 1 41 (by rw[Sl.eF];omega)];exact Sl.TQ _
   have yO:=Z5.i.b1.O 0 41 (aY (Fw.I _).symm);have Z7:=ah (show Bx [(W.a.j+1,(vZ o).qZ.aA),(y,(vZ o).aA),(W.a.j,k.aA)] W (Av w6.drew (W.a.j+1) 0 (vZ o).qZ)from Z5.i.drew.swap.put (fun p hp=>by have:=HYW.i;simp at hp;rcases hp with rfl|rfl<;>simp<;>omega) (vZ o).qZ.aA (by rw[Fw.I,Fw.I]));have f4:(Av w6.drew (W.a.j+1) 0 (vZ o).qZ).b ⟨y,0,none⟩=some (.e o.isSome):=by rw[Z7.i.b1.M.1 0,Sl.Oj,Jz]
   clear b0;go_wp2_with fail;go_region;go_wp2;refine aO (kFw.qK rfl _ rfl Z7.i.X (Fw.I _)) rfl ?_;exact⟨rfl,Z7.i.R⟩
end
theorem ank(N:Nat):madeCells GL.aA (N*42)=Wo (eu N none):=by
 apply eB;intro j;by_cases hj:j<N*42
 ·have e:j=j/42*42+j%42:=by omega
  have h1:(Wo (eu N none))[j]? = (slC (fG (eu N none) (j/42)))[j%42]?:=by
   conv=>lhs;rw[e]
   exact Kk _ _ _ (by rw[oV];omega) (by omega)
  have h2:fG (eu N (none:Option Fw)) (j/42)=none:=by unfold fG;rw[av,tF];split<;>rfl
  rw[h1,h2];have h3:GL.aA.j=42:=Sl.I _;have h4:j%42<GL.aA.j:=by omega
  simp only[madeCells,Array.getElem?_map,Array.getElem?_range,h3,hj,if_true,mo];show some GL.aA[j%42]! = (vZ none).aA[j%42]?;show some GL.aA[j%42]! = GL.aA[j%42]?;rw[dK h4];congr 1;exact getElem!_pos GL.aA (j%42) h4
 ·rw[aV (by rw[size_madeCells];omega),aV (by rw[uY,oV];omega)]
theorem anl(w:au)(N:Nat)(hN:N<=100000):(xP 205 (.b .a N) (.b .a N)).J aj w=.ok (.a (some ⟨w.a.j,0,none⟩) N N) (w.alloc (.D (Wo (eu N none)) 213)):=by
 obtain⟨i,h1,h2,h3⟩:=kSl.afU;have hb:i.bytes<=1000:=by
  have:(aj.info? 213).map (fun i=>decide (i.bytes<=1000))=some true:=by kernel_rfl
  rw[h1]at this;simpa using this
 have:=run_make w 205 213 i _ Tryz.underlying205 h1 h3 .a .a (N:Int) (N:Int) (by omega) (by omega) (by have h5:=gP hb hN;rw[<-Int.natCast_mul];omega) (by omega);rw[dW,h2]at this;rw[this];show _=Result.ok _ (w.alloc (.D _ _));rw[<-ank];rfl
theorem aqI(key:Vector UInt8 16):sG ajP.aA 0 (jg key)=jg key ++ #[aJ .a 0,.b .a 0,.a none 0 0]:=by
 show sG (jg (bH 16 0) ++ #[aJ .a 0,.b .a 0,.a none 0 0]) 0 (jg key)=_;exact Gy (by rw[dL,dL])
@[go_sem]theorem azx(W:au)(key:Vector UInt8 16)(dX:Int)(A:Option aU)(n c:Nat):(uJ 207 #[(0,.d (jg key)),(1,.b .a dX),(3,.a A n c)]).J aj W=.ok (.d (Tk.mk key dX 0 A n c).aA) W:=
 kTk.bd W _ _ _ _ DL (aEe W _ DL) (by
  show fD _ ajP.aA [(0,.d (jg key)),(1,.b .a dX),(3,.a A n c)]=_;rw[Er _ _ 0 0 16 _ _ rfl (by show(jg key).j=16;rw[dL]) (by rw[Tk.I];omega)];show fD _ (sG ajP.aA 0 (jg key)) _=_;rw[aqI,<-Array.append_empty (xs:=jg key ++ #[aJ .a 0,.b .a 0,.a none 0 0])];rw[oO 1 16 _ _ _ _ rfl rfl (by simp[dL]),oO 3 18 _ _ _ _ rfl rfl (by simp[dL])];simp[fD,Tk.aA,aN,dL])
def azy(l c:aC):Sem aC:=xP 205 l c
@[go_sem ↓]theorem aBI(l c:aC):xP 205 l c=azy l c:=rfl
def asD(w:au)(key:Vector UInt8 16)(dX:Int)(e:lu)(w':au):Prop:=
 ∃q g s,e=.a (.K #[.c (some ⟨q,0,none⟩),.b .a 0])/\KL w' q g key dX s []/\dX*2<=s.a/\w.a.j<=q/\w.a.j<=g/\aM w.a.j w w'
theorem aj1(key:Vector UInt8 16)(r:Nat)(h1:1<=r)(h2:r<=4096)(w:au):
 aQ aj 62 #[.d (jg key),.b .a r] w (asD w key r):=by
 have Z0:=ah ((Bx.start w).new (jg key) 22);have t1:decide ((r:Int)<1)=false:=by simp;omega
 have t2:decide ((r:Int)>4096)=false:=by simp;omega
 have t3:decide ((4096:Int)<r)=false:=by simp;omega
 have t4:decide (4096<r)=false:=by simp;omega
 have t5:decide (r<1)=false:=by simp;omega
 have t6:decide (r=0)=false:=by simp;omega
 obtain⟨r2,hr2⟩:=dw (2*r);have e1:(2:Int)*(r:Int)=(r2:Int):=by omega
 have i1:=jV (r2:Int) (by omega);have HR2:=ah hr2;clear hr2;go_enter Tryz.func62,Tryz.ntmps62;go_upto_region 1 with fail
 generalize w.alloc (.D (jg key) 22)=w1 at Z0 ⊢;go_wp2;go_loopw [6] (fun v wr=>∃N:Nat,1<=N/\N<=2*r2/\v=.b .a N/\wr=w1) (fun v _=>2*r2-(intOf v).e)
 case atStart=>exact⟨1,ay _,by have:=HR2.i;omega,rfl,by first|rfl|trivial⟩
 case round=>
  obtain⟨N,hN1,hN2,rfl,rfl⟩:=hrel;have hr:=HR2.i;by_cases hlt:N<r2
  ·have hki:(N:Int)<r2:=by omega
   obtain⟨N2,azz⟩:=dw (N*2);have e2:(N:Int)*2=(N2:Int):=by omega
   have i2:=jV (N2:Int) (by omega);have Qi:=ah azz;clear azz hr;go_wp2;go_roundw
   case rel=>exact⟨N2,by have:=Qi.i;omega,by have:=Qi.i;omega,rfl,by first|rfl|trivial⟩
   case measure=>have:=Qi.i;simp only[intOf,dW];omega
  ·have hki:¬(N:Int)<r2:=by omega
   have hd:decide ((N:Int)<r2)=false:=by simpa using hki
   have hd2:decide (N<r2)=false:=by simpa using hlt
   have mk:=fun w=>anl w N (by omega)
   have Z1:=ah Z0.i.drew;have l1:=Sr.mW Z1.i.X (dL _);have l2:=Sr.mW ((Z0.i.alloc (.D (Wo (eu N none)) 213)).drew).X (dL _);have l3:=Sr.mW (Z1.i.alloc (.D (Wo (eu N none)) 213)).X (dL _);clear hr hlt;go_wp2_with fail
   replace mk:∀w,(azy (.b .a N) (.b .a N)).J aj w=.ok (.a (some ⟨w.a.j,0,none⟩) N N) (w.alloc (.D (Wo (eu N none)) 213)):=mk
   go_region;go_wp2;go_ret2;have hr:=HR2.i;have hsz:=Z0.i.R.j;have hlt:¬N<r2:=by omega
   refine⟨wr.a.j+1,wr.a.j,eu N none,rfl,⟨⟨?_,?_,by omega,by rw[oV];omega⟩,?_,wE.nil (by omega)⟩,by rw[oV];omega,by omega,by omega,?_⟩
   ·rw[UG,oV]
    exact(dN.Rb wr _ _ _).drew
   ·exact((dN.new wr _ _).alloc _).drew
   ·exact TbR.new (by omega) (fun k=>by rw[oV];exact fH _ (by omega))
   ·exact(((Z0.i.R.alloc hsz _).alloc (by simp;omega) _)).drew
section
open Go.RowKit Go.Shelf
attribute [local go_sem] qA
theorem Zk{α:Type}(a b:List (Option α)):iB (a++b)=iB a++iB b:=by simp[iB]
theorem WE{α:Type}(s:List (Option α))(k:Nat)(hk:k<s.a):iB (s.d (k+1))=iB (s.d k)++(fG s k).a:=by
 rw[dV hk,Zk];congr 1;unfold fG;rw[av,aD hk,jE];cases s[k]<;>rfl
theorem Zl{α:Type}(s:List (Option α))(k:Nat):iB (s.d k) <+: iB s:=by
 have:iB s=iB (s.d k)++iB (s.f k):=by rw[<-Zk,List.take_append_drop]
 rw[this];exact List.prefix_append _ _
theorem Fg{α:Type}(s:List (Option α)):(iB s).a<=s.a:=List.length_filterMap_le _ _
theorem FH.anm{W W':au}{q g n₀:Nat}{key:Vector UInt8 16}{dX:Int}{s:List (Option Fw)}(h:FH W q g key dX s)(hb:aM n₀ W W')(hq:q<n₀/\g<n₀):FH W' q g key dX s:=⟨h.h.S hb hq.1,h.sl.S hb hq.2,h.ne,h.sz⟩
theorem aj2(F:KU)(n:Nat)(hf:F.fn 202)(hro:F.round=none)(hn:1<=n)(l Bs n₀ B0:Nat)(q g:Nat)(key:Vector UInt8 16)(dX:Int)(s:List (Option Fw))(J Jx:List Fw->au->Prop)(hJ:AbidesFrom B0 J)
 (hY:∀pre x W,J pre W->pre.a<s.a->YieldAt F (n-1) aj l #[.d x.aA] W fun e W'=>
  (e=.a (.e true)/\J (pre++[x]) W'/\aM n₀ W W')\/(e=.a (.e false)/\Jx (pre++[x]) W'))
 (W:au) (hn₀:n₀<=W.a.j) (hB0:B0<=W.a.j) (Px:W.b ⟨Bs,0,none⟩=some (.c (some ⟨q,0,none⟩))) (T:FH W q g key dX s) (hqg:q<n₀/\g<n₀) (h0:J [] W) :
 Mw F n aj 202 #[.func (.yield l) #[] #[],.c (some ⟨Bs,0,none⟩)] W fun e W'=>(∃v,e=.a v) /\
  ((∃ys,ys=iB s/\J ys W')\/(∃pre,pre <+: iB s/\Jx pre W')):=by
 have hsz:=T.sz;obtain⟨N,hN⟩:=dw s.a;have l2:W.b ⟨q,18,none⟩=some (.a (some ⟨g,0,none⟩) N N):=by rw[hN];exact T.M.1
 have HT:=ah T;have HN:=ah hN;rw[<-hN]at hsz;clear hN T;refine Cu Tryz.func202 rfl hf ?_ hro;simp only[Tryz.ntmps202,dP,bD,gQ,kM,kN,gH,gI,iQ,gX,dG,iA];gi_wp2;gi_loopw [10] (fun i wr=>∃k:Nat,k<=N/\i=.b .a k/\J (iB (s.d k)) wr/\aM n₀ W wr)
  (fun i _=>N-(intOf i).e)
 case atStart=>exact⟨0,ji _,rfl,h0,aH _ _⟩
 case round=>
  obtain⟨k,hk,rfl,hJs,hnx⟩:=hrel;by_cases hlt:k<N
  ·have hki:(k:Int)<N:=by omega
   have TR:=ah (HT.i.anm hnx hqg);have hks:k<s.a:=by rw[<-HN.i];exact hlt
   obtain⟨_,a2,_,_,a5,_,_⟩:=TR.i.Wq hks;have hET:=WE s k hks;have bx:=dN.new wr (vZ (fG s k)).aA 213;have f1:=(bx.M.1 0).trans (Sl.Oj _);rw[Jz]at f1;have f2:vE (wr.alloc (.D (vZ (fG s k)).aA 213)) wr.a.j 1 41:=of_eq_true (bx.M.2.2.1 1 41 (by rw[Sl.eF];omega));have f3:dQ (wr.alloc (.D (vZ (fG s k)).aA 213)) wr.a.j 1 41=(vZ (fG s k)).qZ.aA:=by rw[bx.M.2.2.2 1 41 (by rw[Sl.eF];omega)];exact Sl.TQ _
   have hsz2:=hnx.j;have Qi:=ah (hnx.alloc (by omega) (.D (vZ (fG s k)).aA 213));have HJA:=ah (GN hJ hJs (.D (vZ (fG s k)).aA 213));clear bx hsz2;cases hat:fG s k with
   | none=>
     rw[hat]at a2 f1 f2 f3 Qi HJA hET
     replace f1:(wr.alloc (.D (vZ none).aA 213)).b ⟨wr.a.j,0,none⟩=some (.e false):=f1
     have DV:=ah (show iB (s.d (k+1))=iB (s.d k)by rw[hET];simp);clear hET hat f2 f3;gi_wp2;refine⟨fun f h=>(by cases h),?_⟩;gi_wp2;go_roundw
     case rel=>exact⟨k+1,by omega,by simp,by rw[DV.i];exact HJA.i,Qi.i⟩
     case measure=>simp[intOf];omega
   | some x=>
     rw[hat]at a2 f1 f2 f3 Qi HJA hET
     replace f1:(wr.alloc (.D (vZ (some x)).aA 213)).b ⟨wr.a.j,0,none⟩=some (.e true):=f1
     replace f3:dQ (wr.alloc (.D (vZ (some x)).aA 213)) wr.a.j 1 41=x.aA:=f3
     have DV:=ah (show iB (s.d k)++[x]=iB (s.d (k+1))by rw[hET];simp);clear hET hat;obtain⟨fn,tmps,assign,body,hy,hRd⟩:=hY _ x _ HJA.i (by have:=Fg (s.d k);rw[bL]at this;omega);gi_wp2;refine hRd.g ?_;rintro e W3 (⟨rfl,hJ3,hk3⟩|⟨rfl,hJx3⟩)
     ·gi_wp2
      go_roundw
      case rel=>exact⟨k+1,by omega,by simp,by rw[<-DV.i];exact hJ3,Qi.i.trans hk3⟩
      case measure=>simp[intOf];omega
     ·gi_wp2
      refine aO (vw rfl _ _ _) rfl ?_;exact⟨⟨_,rfl⟩,.b ⟨_,by rw[DV.i];exact Zl _ _,hJx3⟩⟩
  ·obtain rfl:k=N:=by omega
   have hd:decide ((k:Int)<k)=false:=by simp
   gi_wp2;go_end0;exact⟨⟨_,rfl⟩,.a ⟨_,by rw[HN.i,zY],hJs⟩⟩
end
end Go.Proofs.YtkjojjopamaoiaaGreat
