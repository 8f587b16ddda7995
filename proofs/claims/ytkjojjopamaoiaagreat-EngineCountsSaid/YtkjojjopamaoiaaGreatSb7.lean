/- Parts. -/
import Derived.Test.YtkjojjopamaoiaaGreatSb6
set_option linter.unusedSimpArgs false
set_option linter.unusedVariables false
set_option linter.unusedSectionVars false
set_option maxRecDepth 100000
set_option maxHeartbeats 8000000
open Array renaming replicate_succ->gy,replicate_zero->gB,getElem?_eq_some_iff->bW,getElem?_append->aD,mapM->iy,append_assoc->fV,setIfInBounds_append->aM,extract_append->dA,getElem?_extract->dx,ext_getElem?->dZ,replicate->ng,getElem?_eq_none->aU,range->lW,toList_inj->Gn,size->Array.j,toList->Array.a,getD->Array.c,setIfInBounds->Array.b,extract->Array.m
open Bool renaming and_eq_true->bl,true_and->zZ,false_and->Dl,eq_iff_iff->bV
open ByteArray renaming size->ByteArray.j,extract->ByteArray.m
open Exists renaming intro->rJ
open Go renaming World->ak,Fence->Kl,callsIn_of_wp->Ce,bodyPost_ret->aN,results_none->vk,run_underlying->dJ,Calls->aP,Addr->aT,SeqStopsK->vN,Value->aB,callsIn_wide->mU,callsIn_of_wp_marks->qX,wpIn_rangeFunc_ownH->yw,belowK_b->vJ,ownFrom_below->yJ,run_takeDeferred->uw,TypeId->bF,Ending->lq,wpQuiet_nil->gK,TypeInfo->nI,Oper->iZ,Field->nS,run_equal_slice_nil->jc,info_parts->zi,wpS_seq->Hy,wpS_region->BU
open Go.BoundsCode renaming toNat->Go.BoundsCode.e
open Go.Calls renaming mono->Go.Calls.g
open Go.CallsD renaming mono->Go.CallsD.g
open Go.CallsIn renaming inRound->GQ,mono->Go.CallsIn.g
open Go.Ending renaming returned->Go.Ending.a
open Go.Exit renaming thenS->vO
open Go.Fence renaming wide->nG
open Go.Field renaming name->Go.Field.E,offset->Go.Field.Y
open Go.FrameMode renaming run->Go.FrameMode.I
open Go.Instr renaming loadAt->bZ,fill->fE,buildSlice->bJ,storeAt->eD,build->fM,typeAssert->Gm,slice->Go.Instr.a,extract->Go.Instr.m
open Go.IntKind renaming i64->bR,u16->Dm,wrap->vI,bits->nP,signed->lT,u64->jy,wrap_u64->jU,min->Jm,max->Jo,i64->Go.IntKind.a
open Go.Lib renaming hid->ab
open Go.Lit renaming int->Go.Lit.b,bool->Go.Lit.e,string->Go.Lit.g
open Go.Obj renaming cells->eB,cells->Go.Obj.D
open Go.Op renaming bytesLess->bQ,slice->Go.Op.a,extract->Go.Op.m
open Go.Oper renaming semAt_some->qo,dst->Go.Oper.X
open Go.Operand renaming tmp->Go.Operand.a
open Go.Program renaming cellsOf->zX,keyLits->wK,fieldsOf->jT,cellsOf->Go.Program.a
open Go.Proofs.Tryz renaming prog->ah,underlying86->mV,underlying29->mW,underlying3->gQ,underlying69->lJ,underlying155->Du,underlying72->EO,underlying123->Dv,underlying22->qh,underlying376->Dw,underlying56->cu,underlying58->kM,ntmps134->Af,func25->KX,ntmps25->Hz,underlying70->og,underlying23->EP,underlying27->fB,underlying81->j3
open Go.Result renaming andThen->iD,andThen_ok->gM,ok->Go.Result.Z
open Go.ResultVar renaming tmp->Go.ResultVar.a
open Go.RoundIn renaming mono->Go.RoundIn.g
open Go.RowKit renaming Below->aL
open Go.RowKit.Below renaming refl->aG,size->Go.RowKit.Below.j,mono->Go.RowKit.Below.g
open Go.RowKit.Hid renaming out->Go.RowKit.Hid.i
open Go.Sem renaming run_bind->jK,run_pure->oh,run->Go.Sem.I
open Go.Shut renaming out->Go.Shut.i
open Go.Tables renaming info?->Go.Tables.l
open Go.TypeDesc renaming slice->Go.TypeDesc.a,int->Go.TypeDesc.b,bool->Go.TypeDesc.e
open Go.TypeInfo renaming size->Go.TypeInfo.j
open Go.Value renaming slice->bD,agg->bY,int->aI,cells->cK,ownBlock->jY,oneCell'->cZ,string->iB,pointer->rZ,bool->bM,cells->Go.Value.D,slice->Go.Value.a,int->Go.Value.b,pointer->Go.Value.c,agg->Go.Value.d,bool->Go.Value.e,tuple->Go.Value.J,ownBlock->Go.Value.f,oneCell'->Go.Value.h,string->Go.Value.g
open Go.World renaming size_alloc->sU,ownsRow_nil->fu,setCell->gX,ownsRow_lit->nU,heap->Go.World.a,cell?->Go.World.b,setCell->Go.World.F,ownsRow->Go.World.c,there->Go.World.M,grownBy->Go.World.d
open Go.World.grownBy renaming refl->dO
open Int renaming tmod->LV,tmod_eq_emod_of_nonneg->mo,toNat_natCast->dS,toNat_of_nonneg->lG,toNat->Int.e
open List renaming take_succ_eq_append_getElem->dR,getD_eq_getElem?_getD->au,getElem?_eq_getElem->aC,take_append_drop->iF,size_toArray->dI,length_cons->bC,length_nil->gL,push_toArray->iN,append_toArray->gP,nil_append->dF,cons_append->gZ,length_take->bK,take_length->zQ,mem_cons_of_mem->jZ,mem_cons_self->mg,flatMap_cons->iM,length_map->bU,pairwise_map->yP,map_append->iU,mem_map->iV,foldl_append->yQ,getElem?_eq_none->aS,length_set->aV,filter_eq_self->wI,findIdx?_eq_some_iff_getElem->gV,findIdx?_eq_none_iff->wC,mem_cons->bg,not_mem_nil->fO,any_eq_false->qj,any_eq_true->tq,getElem_mem->eU,flatMap_append->wJ,set_cons_succ->bH,set_cons_zero->bP,take_succ_cons->jP,take_zero->j4,setIfInBounds_toArray->bI,drop_succ_cons->jQ,drop_zero->kY,mem_range->eO,filter_congr->EM,mem_filter->mh,length_filter_le->oM,map_cons->kL,map_nil->pI,length_append->aR,take_of_length_le->aK,replicate->dX,drop_take->rb,eq_nil_of_length_eq_zero->bE,take_left'->Jw,append_assoc->dB,length->List.a,getD->List.c,take->List.d,drop->List.f,flatMap->List.h,below->List.O,extract->List.m
open List.Perm renaming length_eq->List.Perm.t
open Nat renaming reduceAdd->kN,reduceSub->kP,zero_le->je,le_trans->aO,le_refl->av,lt_of_lt_of_le->eY,le_of_eq->aX,mod_lt->fH,mul_le_mul_right->dw,lt_or_ge->aY,zero_add->bB,lt_succ_self->mF,ne_of_lt->jL,mul_one->gH,mul_le_mul->gU,add_sub_cancel_left->jN,min->ql,succ_pos->mH,eq_zero_or_pos->eu
open Ne renaming symm->jr
open Option renaming getD_some->jB,toList->Option.a,getD->Option.c
open Or renaming inl->Or.a,inr->Or.b
open UInt8 renaming toNat->UInt8.e
open Vector renaming replicate->bG,length_toList->nH,toList->Vector.a
namespace Go.Proofs.YtkjojjopamaoiaaGreat
open Go.RowKit
section
open Go.RowKit Go.Shelf
attribute [local go_sem] qo
theorem Y0{α:Type}(a b:List (Option α)):ig (a++b)=ig a++ig b:=by simp[ig]
theorem Wz{α:Type}(s:List (Option α))(k:Nat)(hk:k<s.a):ig (s.d (k+1))=ig (s.d k)++(fI s k).a:=by
 rw[dR hk,Y0];congr 1;unfold fI;rw[au,aC hk,jB];cases s[k]<;>rfl
theorem Y1{α:Type}(s:List (Option α))(k:Nat):ig (s.d k) <+: ig s:=by
 have:ig s=ig (s.d k)++ig (s.f k):=by rw[<-Y0,iF]
 rw[this];exact List.prefix_append _ _
theorem EA{α:Type}(s:List (Option α)):(ig s).a<=s.a:=List.length_filterMap_le _ _
theorem ET.am7{W W':ak}{q g n₀:Nat}{key:Vector UInt8 16}{dU:Int}{s:List (Option Fw)}(h:ET W q g key dU s)(hb:aL n₀ W W')(hq:q<n₀/\g<n₀):ET W' q g key dU s:=⟨h.h.O hb hq.1,h.sl.O hb hq.2,h.ne,h.sz⟩
theorem ajO(F:Kl)(n:Nat)(hf:F.fn 202)(hro:F.round=none)(hn:1<=n)(l Bs n₀ B0:Nat)(q g:Nat)(key:Vector UInt8 16)(dU:Int)(s:List (Option Fw))(J Jx:List Fw->ak->Prop)(hJ:AbidesFrom B0 J)
 (hY:∀pre x W,J pre W->pre.a<s.a->YieldAt F (n-1) ah l #[.d x.ay] W fun e W'=>
  (e=.a (.e true)/\J (pre++[x]) W'/\aL n₀ W W')\/(e=.a (.e false)/\Jx (pre++[x]) W'))
 (W:ak) (hn₀:n₀<=W.a.j) (hB0:B0<=W.a.j) (Qe:W.b ⟨Bs,0,none⟩=some (.c (some ⟨q,0,none⟩))) (T:ET W q g key dU s) (hqg:q<n₀/\g<n₀) (h0:J [] W) :
 CallsIn F n ah 202 #[.func (.yield l) #[] #[],.c (some ⟨Bs,0,none⟩)] W fun e W'=>(∃v,e=.a v) /\
  ((∃ys,ys=ig s/\J ys W')\/(∃pre,pre <+: ig s/\Jx pre W')):=by
 have hsz:=T.sz;obtain⟨N,hN⟩:=cB s.a;have l2:W.b ⟨q,18,none⟩=some (.a (some ⟨g,0,none⟩) N N):=by rw[hN];exact T.K.1
 have HT:=ab T;have HN:=ab hN;rw[<-hN]at hsz;clear hN T;refine Ce Tryz.func202 rfl hf ?_ hro;simp only[Tryz.ntmps202,dI,bC,gL,kN,kP,gy,gB,iN,gP,dF,gZ];gi_wp2;gi_loopw [10] (fun i wr=>∃k:Nat,k<=N/\i=.b .a k/\J (ig (s.d k)) wr/\aL n₀ W wr)
  (fun i _=>N-(intOf i).e)
 case atStart=>exact⟨0,je _,rfl,h0,aG _ _⟩
 case round=>
  obtain⟨k,hk,rfl,hJs,hnx⟩:=hrel;by_cases hlt:k<N
  ·have hki:(k:Int)<N:=by omega
   have TR:=ab (HT.i.am7 hnx hqg);have hks:k<s.a:=by rw[<-HN.i];exact hlt
   obtain⟨_,a2,_,_,a5,_,_⟩:=TR.i.Wm hks;have hET:=Wz s k hks;have bx:=dK.new wr (vV (fI s k)).ay 213;have f1:=(bx.K.1 0).trans (Sl.NM _);rw[Je]at f1;have f2:vw (wr.alloc (.D (vV (fI s k)).ay 213)) wr.a.j 1 41:=of_eq_true (bx.K.2.2.1 1 41 (by rw[Sl.dY];omega));have f3:dM (wr.alloc (.D (vV (fI s k)).ay 213)) wr.a.j 1 41=(vV (fI s k)).qU.ay:=by rw[bx.K.2.2.2 1 41 (by rw[Sl.dY];omega)];exact Sl.TP _
   have hsz2:=hnx.j;have Qz:=ab (hnx.alloc (by omega) (.D (vV (fI s k)).ay 213));have HJA:=ab (Gf hJ hJs (.D (vV (fI s k)).ay 213));clear bx hsz2;cases hat:fI s k with
   | none=>
     rw[hat]at a2 f1 f2 f3 Qz HJA hET
     replace f1:(wr.alloc (.D (vV none).ay 213)).b ⟨wr.a.j,0,none⟩=some (.e false):=f1
     have Dx:=ab (show ig (s.d (k+1))=ig (s.d k)by rw[hET];simp);clear hET hat f2 f3;gi_wp2;refine⟨fun f h=>(by cases h),?_⟩;gi_wp2;go_roundw
     case rel=>exact⟨k+1,by omega,by simp,by rw[Dx.i];exact HJA.i,Qz.i⟩
     case measure=>simp[intOf];omega
   | some x=>
     rw[hat]at a2 f1 f2 f3 Qz HJA hET
     replace f1:(wr.alloc (.D (vV (some x)).ay 213)).b ⟨wr.a.j,0,none⟩=some (.e true):=f1
     replace f3:dM (wr.alloc (.D (vV (some x)).ay 213)) wr.a.j 1 41=x.ay:=f3
     have Dx:=ab (show ig (s.d k)++[x]=ig (s.d (k+1))by rw[hET];simp);clear hET hat;obtain⟨fn,tmps,assign,body,hy,hRd⟩:=hY _ x _ HJA.i (by have:=EA (s.d k);rw[bK]at this;omega);gi_wp2;refine hRd.g ?_;rintro e W3 (⟨rfl,hJ3,hk3⟩|⟨rfl,hJx3⟩)
     ·gi_wp2
      go_roundw
      case rel=>exact⟨k+1,by omega,by simp,by rw[<-Dx.i];exact hJ3,Qz.i.trans hk3⟩
      case measure=>simp[intOf];omega
     ·gi_wp2
      refine aN (vk rfl _ _ _) rfl ?_;exact⟨⟨_,rfl⟩,.b ⟨_,by rw[Dx.i];exact Y1 _ _,hJx3⟩⟩
  ·obtain rfl:k=N:=by omega
   have hd:decide ((k:Int)<k)=false:=by simp
   gi_wp2;go_end0;exact⟨⟨_,rfl⟩,.a ⟨_,by rw[HN.i,zQ],hJs⟩⟩
end
section
open Go.RowKit Go.Shelf
abbrev OkF:={x:Fw // Dz x=true}
instance:Inhabited OkF:=⟨⟨⟨aeN,[97],1,0,0⟩,by kernel_rfl⟩⟩
theorem am8:∀(ys:List Fw),(∀x∈ys,Dz x=true)->∃zs:List OkF,zs.map (·.1)=ys
 | [],_=>⟨[],rfl⟩
 | y::ys,h=>by
   obtain⟨zs,hz⟩:=am8 ys (fun x hx=>h x (jZ _ hx));exact⟨⟨y,h y (mg ..)⟩::zs,by simp[hz]⟩
theorem Y8(zs:List OkF):(zs.h fun x=>x.1.ay.a)=(zs.map (·.1)).h fun x=>x.ay.a:=by
 induction zs with
 | nil=>rfl
 | cons z zs ih=>simp[iM]
theorem ajQ{a b c:List UInt8}(h1:bQ a b=false)(h2:bQ b c=false):bQ a c=false:=by
 cases h3:bQ a c with
 | false=>rfl
 | true=>
   exfalso;cases h4:bQ b a with
   | true=>rw[xV _ _ _ h4 h3]at h2;cases h2
   | false=>
     have:=zG _ _ h1 h4;subst this;rw[h3]at h2;cases h2
theorem abr{a b c:Fw}(h1:lI a b=false)(h2:lI b c=false):lI a c=false:=by
 unfold lI at *;by_cases e1:a.no=b.no
 ·rw[if_pos e1]at h1
  by_cases e2:b.no=c.no
  ·rw[if_pos e2]at h2
   rw[if_pos (e1.trans e2)];exact ajQ h1 h2
  ·rw[if_neg e2]at h2
   rw[if_neg (by omega)];simp at h2 ⊢;omega
 ·rw[if_neg e1]at h1
  simp at h1;by_cases e2:b.no=c.no
  ·rw[if_neg (by omega)]
   simp;omega
  ·rw[if_neg e2]at h2
   simp at h2;rw[if_neg (by omega)];simp;omega
def aqo(x y:OkF):Int:=abm x.1 y.1
theorem am9:Sort.SWO (ltOf aqo):=by
 have e:∀x y,ltOf aqo x y=lI x.1 y.1:=fun x y=>abn x.1 y.1
 refine⟨fun x=>?_,fun x y z h1 h2=>?_,fun x y z h1 h2=>?_⟩
 ·rw[e];exact tH.irr _
 ·rw[e]at *;exact tH.tr _ _ _ h1 h2
 ·rw[e]at *;exact abr h1 h2
theorem JX{x:Fw}(h:Dz x=true):wT x.key/\0<=x.no/\x.no<=1152921504606846976:=by
 refine⟨AU (wF h),?_⟩;unfold Dz XT at h;simp only[bl,decide_eq_true_eq]at h;omega
theorem aqp(w:ak):(isAgg 86).I ah w = .Z true w:=by simp[isAgg,dJ mV]
theorem auX(w:ak):(Go.sizeOf 86).I ah w = .Z 41 w:=by
 obtain⟨i,hi,hi2,_⟩:=kFw.afB;rw[run_sizeOf w hi];have hc:ah.a 86=41:=by simp[zX,hi,hi2]
 rw[hc]
theorem ajR(x y:OkF)(w:ak):aP ah 117 #[.d x.1.ay,.d y.1.ay] w (gD w (.b .a (aqo x y))):=by
 obtain⟨h1,h2⟩:=JX x.2;obtain⟨h3,h4⟩:=JX y.2;exact Rk x.1 y.1 h1 h3 h2 h4 w
theorem KL(l ys:List Fw)(dU:Int)(hl:wo dU l)(hp:ys.Perm l)(hn:ys.a<=1000000)(W:ak)(base:Nat)(A:Option aT)(c:Nat)(h:W.c base 86 41 (.a A ys.a c) ys.a (ys.h fun x=>x.ay.a)):
 aP ah 151 #[.a A ys.a c,.func (.func 117) #[] #[]] W fun e w'=>e=.a (.J #[])/\w'.c base 86 41 (.a A ys.a c) ys.a (l.h fun x=>x.ay.a)/\W.d w' (bD A ys.a c).f:=by
 obtain⟨zs,hz⟩:=am8 ys (fun x hx=>hl.Z x (hp.mem_iff.1 hx));have hlen:zs.a=ys.a:=by rw[<-hz,bU]
 have hc:=Y8 zs;rw[hz]at hc;rw[<-hc]at h;refine(YU auR 41 aqp auX (fun x:OkF=>x.1.ay) (fun x=>Fw.G x.1) (fun x=>Fw.cO x.1) aqo am9 117 (fun args w=>rfl) base 86 A ys.a c zs W hlen hn h ajR).g ?_;rintro e w' ⟨rfl,l',h1,h2,h3,h4⟩;refine⟨rfl,?_,h4⟩;rw[Y8]at h3;have hp2:(l'.map (·.1)).Perm l:=((h1.map _).trans (by rw[hz])).trans hp;have hone:(l'.map (·.1)).Pairwise fun x y=>x.key≠y.key:=(hp2.pairwise_iff (fun{a b} (hab:a.key≠b.key)=>jr hab)).2 hl.one
 have hasc:Asc lI (l'.map (·.1)):=by
  have h5:(l'.map (·.1)).Pairwise fun x y=>lI y x=false:=by
   rw[yP];exact h2.imp (fun{a b} hab=>by rw[<-hab];exact(abn b.1 a.1).symm)
  refine List.Pairwise.imp_of_mem ?_ (h5.and hone);rintro a b ha hb ⟨h6,h7⟩;rcases Q7 (Nc (wF (hl.Z a (hp2.mem_iff.1 ha)))) (Nc (wF (hl.Z b (hp2.mem_iff.1 hb)))) h7 with h8|h8
  ·exact h8
  ·rw[h6]at h8;cases h8
 rw[<-Asc.eq tH hasc hl.asc hp2];exact h3
end
section
open Go.RowKit Go.Shelf
variable {W W':ak} {q g:Nat} {key:Vector UInt8 16} {dU:Int} {s:List (Option Fw)} {l:List Fw}
theorem QA(q:Nat)(w:ak):
 aP ah 132 #[.c (some ⟨q,0,none⟩)] w fun e w'=>e=.a (.func (.func 202) #[] #[.c (some ⟨w.a.j,0,none⟩)])/\w.alloc (.D #[.c (some ⟨q,0,none⟩)] 121)=w':=by
 go_enter Tryz.func132,Tryz.ntmps132;go_wp2;go_ret;exact⟨rfl,rfl⟩
theorem adR(F:Kl)(n:Nat)(hf:F.fn 202)(hro:F.round=none)(hn:1<=n)(Bs n₀:Nat)(w:ak)(Qe:Bs<w.a.j)(hn₀:n₀<=w.a.j)
 (hc:w.b ⟨Bs,0,none⟩=some (.c (some ⟨q,0,none⟩))) (T:ET w q g key dU s) (hqg:q<n₀/\g<n₀) :
 vN F n ah 202 #[.c (some ⟨Bs,0,none⟩)] (fun x:Fw=>#[bY x.ay]) (aL n₀) (fun ys=>ys=ig s) (fun pre=>pre <+: ig s) s.a w:=fun l J Jx W hW hJ _ hY h0=>by
 have hc':=(hW.cell (p:=⟨Bs,0,none⟩) Qe).trans hc;exact ajO F n hf hro hn l Bs n₀ W.a.j q g key dU s J Jx hJ hY W (aO hn₀ hW.j) (av _) hc' (T.go hW) hqg h0
theorem abt(gf:Nat)(lb:Array aB)(eg:∀args w,(callFunc gf args).I ah w = .Z (.enter gf args) w)(l ys:List Fw)(dU:Int)(hl:wo dU l)(hp:ys.Perm l)(N:Nat)(hN:N<=100000)(hyN:ys.a<=100000)(w:ak)(hseq:vN nG 5 ah gf lb (fun x:Fw=>#[bY x.ay]) (aL w.a.j) (fun zs=>zs=ys) (fun pre=>pre <+: ys) N w):
 aP ah 131 #[.func (.func gf) #[] lb,.func (.func 117) #[] #[]] w fun e W'=>
  ∃A' c',e=.a (.a A' l.a c')/\W'.c w.a.j 86 41 (.a A' l.a c') l.a (l.h fun x=>x.ay.a)/\aL w.a.j w W':=by
 have CO:=ab (Xx gf lb eg (fun zs=>zs=ys) (fun pre=>pre <+: ys) N hN w hseq);have SO:=ab (fun(W:ak) (A:Option aT) (c:Nat) h=>KL l ys dU hl hp (by omega) W w.a.j A c h);have HP:=ab hp.t;clear hseq hl hp;go_enter Tryz.func131,Tryz.ntmps131;go_wp2_with fail;refine CO.i.g ?_;rintro e w1 ⟨zs,hzs,A1,c1,rfl,ho,hb⟩;rw[hzs]at ho ⊢;have SO1:=ab (SO.i w1 A1 c1 ho);have HB:=ab hb;have HO:=ab ho;clear hb ho SO CO hzs;obtain⟨m,hm⟩:=cB ys.a;rw[<-hm]at HO SO1 HP ⊢;clear hm;go_wp2_with fail;refine SO1.i.g ?_;rintro e w2 ⟨rfl,ho2,hg⟩;have H2:=ab ho2;have HG:=ab hg;clear ho2 hg;go_wp2;go_ret;have h1:=H2.i;have h2:=HP.i;exact⟨A1,c1,by rw[<-h2];rfl,by rw[<-h2];exact h1,Wu HB.i HO.i (av _) (av _) HG.i⟩
theorem agc(T:Ke W q g key dU s l):
 aP ah 65 #[.c (some ⟨q,0,none⟩)] W fun e w'=>∃A' c',e=.a (.a A' l.a c')/\w'.c W.a.j 86 41 (.a A' l.a c') l.a (l.h fun x=>x.ay.a)/\aL W.a.j W w':=by
 have w1s:=(dK.new W #[.c (some ⟨q,0,none⟩)] 121)
 have hB1:aL W.a.j W (W.alloc (.D #[.c (some ⟨q,0,none⟩)] 121)):=(aG _ _).alloc (av _) _;have T1:=T.w.go hB1;have hs:=T.w.sz;have hlt:=T.w.lt;have hsz:(W.alloc (.D #[.c (some ⟨q,0,none⟩)] 121)).a.j=W.a.j+1:=by simp
 have SQ:=ab (adR nG 5 trivial rfl (by omega) W.a.j (W.alloc (.D #[.c (some ⟨q,0,none⟩)] 121)).a.j (W.alloc (.D #[.c (some ⟨q,0,none⟩)] 121)) w1s.lt (av _) (w1s.K.1 0) T1 (by rw[hsz];omega));have VA:=ab (QA q W);generalize hw:W.alloc (.D #[.c (some ⟨q,0,none⟩)] 121)=w1 at *;have SF:=ab (abt 202 #[.c (some ⟨W.a.j,0,none⟩)] (fun args w=>rfl) l (ig s) dU T.Z T.r.Pf s.a hs.2 (by have:=EA s;omega) w1 SQ.i);have HB1:=ab hB1;clear hw w1s hB1 SQ T T1 hs hlt hsz;go_enter Tryz.func65,Tryz.ntmps65;go_wp2_with fail;refine VA.i.g ?_;rintro e w2 ⟨rfl,rfl⟩;go_wp2_with fail;refine SF.i.g ?_;rintro e w2 ⟨A1,c1,rfl,ho,hb⟩;have HO:=ab ho;have HB:=ab hb;clear ho hb;obtain⟨m,hm⟩:=cB l.a;rw[<-hm]at HO ⊢;have HM:=ab hm;clear hm;go_wp2;go_ret;obtain rfl:=HM.i;have h1:=HB1.i;have h2:=HB.i;exact⟨A1,c1,rfl,iI HO.i h1.j,⟨h2.os.trans h1.os,h2.tape.trans h1.tape,h2.output.trans h1.output,aO h1.j h2.j,fun k hk=>(h2.block k (eY hk h1.j)).trans (h1.block k hk)⟩⟩
end
section
open Go.RowKit Go.Shelf
attribute [local go_sem] qo
variable {W W':ak} {q g:Nat} {key:Vector UInt8 16} {dU:Int} {s:List (Option Fw)} {l:List Fw}
theorem agd{β:Type}(val:β->Fw)(F:Kl)(n:Nat)(hf:F.fn 202)(hro:F.round=none)(hn:1<=n)(l Bs n₀ B0:Nat)(q g:Nat)(key:Vector UInt8 16)(dU:Int)(s:List (Option Fw))(hval:∀x∈ig s,∃z,val z=x)(J Jx:List β->ak->Prop)(hJ:AbidesFrom B0 J)
 (hY:∀pre x W,J pre W->pre.a<s.a->YieldAt F (n-1) ah l #[.d (val x).ay] W fun e W'=>
  (e=.a (.e true)/\J (pre++[x]) W'/\aL n₀ W W')\/(e=.a (.e false)/\Jx (pre++[x]) W'))
 (W:ak) (hn₀:n₀<=W.a.j) (hB0:B0<=W.a.j) (Qe:W.b ⟨Bs,0,none⟩=some (.c (some ⟨q,0,none⟩))) (T:ET W q g key dU s) (hqg:q<n₀/\g<n₀) (h0:J [] W) :
 CallsIn F n ah 202 #[.func (.yield l) #[] #[],.c (some ⟨Bs,0,none⟩)] W fun e W'=>(∃v,e=.a v) /\
  ((∃ys:List β,ys.map val=ig s/\J ys W')\/(∃pre:List β,pre.map val <+: ig s/\Jx pre W')):=by
 have hsz:=T.sz;obtain⟨N,hN⟩:=cB s.a;have l2:W.b ⟨q,18,none⟩=some (.a (some ⟨g,0,none⟩) N N):=by rw[hN];exact T.K.1
 have HT:=ab T;have HN:=ab hN;rw[<-hN]at hsz;clear hN T;refine Ce Tryz.func202 rfl hf ?_ hro;simp only[Tryz.ntmps202,dI,bC,gL,kN,kP,gy,gB,iN,gP,dF,gZ];gi_wp2;gi_loopw [10] (fun i wr=>∃(k:Nat)(zs:List β),k<=N/\i=.b .a k/\zs.map val=ig (s.d k)/\J zs wr/\aL n₀ W wr)
  (fun i _=>N-(intOf i).e)
 case atStart=>exact⟨0,[],je _,rfl,rfl,h0,aG _ _⟩
 case round=>
  obtain⟨k,zs,hk,rfl,hzs,hJs,hnx⟩:=hrel;have HZ:=ab hzs;clear hzs;by_cases hlt:k<N
  ·have hki:(k:Int)<N:=by omega
   have TR:=ab (HT.i.am7 hnx hqg);have hks:k<s.a:=by rw[<-HN.i];exact hlt
   obtain⟨_,a2,_,_,a5,_,_⟩:=TR.i.Wm hks;have hET:=Wz s k hks;have bx:=dK.new wr (vV (fI s k)).ay 213;have f1:=(bx.K.1 0).trans (Sl.NM _);rw[Je]at f1;have f2:vw (wr.alloc (.D (vV (fI s k)).ay 213)) wr.a.j 1 41:=of_eq_true (bx.K.2.2.1 1 41 (by rw[Sl.dY];omega));have f3:dM (wr.alloc (.D (vV (fI s k)).ay 213)) wr.a.j 1 41=(vV (fI s k)).qU.ay:=by rw[bx.K.2.2.2 1 41 (by rw[Sl.dY];omega)];exact Sl.TP _
   have hsz2:=hnx.j;have Qz:=ab (hnx.alloc (by omega) (.D (vV (fI s k)).ay 213));have HJA:=ab (Gf hJ hJs (.D (vV (fI s k)).ay 213));clear bx hsz2;cases hat:fI s k with
   | none=>
     rw[hat]at a2 f1 f2 f3 Qz HJA hET
     replace f1:(wr.alloc (.D (vV none).ay 213)).b ⟨wr.a.j,0,none⟩=some (.e false):=f1
     have Dx:=ab (show ig (s.d (k+1))=ig (s.d k)by rw[hET];simp);clear hET hat f2 f3;gi_wp2;refine⟨fun f h=>(by cases h),?_⟩;gi_wp2;go_roundw
     case rel=>exact⟨k+1,zs,by omega,by simp,by rw[Dx.i];exact HZ.i,HJA.i,Qz.i⟩
     case measure=>simp[intOf];omega
   | some x=>
     rw[hat]at a2 f1 f2 f3 Qz HJA hET
     replace f1:(wr.alloc (.D (vV (some x)).ay 213)).b ⟨wr.a.j,0,none⟩=some (.e true):=f1
     replace f3:dM (wr.alloc (.D (vV (some x)).ay 213)) wr.a.j 1 41=x.ay:=f3
     have hxm:x∈ig s:=Pb.2 ⟨k,hks,hat⟩;have hZL:zs.a<=k:=by have h1:=EA (s.d k);rw[<-HZ.i,bU,bK]at h1;omega
     have ay3:=show ig (s.d k)++[x]=ig (s.d (k+1))by rw[hET];simp
     clear hET hat;obtain⟨z,rfl⟩:=hval x hxm;have Dx:=ab (show(zs++[z]).map val=ig (s.d (k+1))by rw[<-ay3,iU,HZ.i];rfl);clear ay3 hxm;obtain⟨fn,tmps,assign,body,hy,hRd⟩:=hY zs z _ HJA.i (by omega);gi_wp2;refine hRd.g ?_;rintro e W3 (⟨rfl,hJ3,hk3⟩|⟨rfl,hJx3⟩)
     ·gi_wp2
      go_roundw
      case rel=>exact⟨k+1,zs++[z],by omega,by simp,Dx.i,hJ3,Qz.i.trans hk3⟩
      case measure=>simp[intOf];omega
     ·gi_wp2
      refine aN (vk rfl _ _ _) rfl ?_;exact⟨⟨_,rfl⟩,.b ⟨zs++[z],by rw[Dx.i];exact Y1 _ _,hJx3⟩⟩
  ·obtain rfl:k=N:=by omega
   have hd:decide ((k:Int)<k)=false:=by simp
   gi_wp2;go_end0;exact⟨⟨_,rfl⟩,.a ⟨zs,by rw[HZ.i,HN.i,zQ],hJs⟩⟩
theorem KO(F:Kl)(n:Nat)(hf:F.fn 202)(hro:F.round=none)(hn:1<=n)(Bs n₀:Nat)(w:ak)(Qe:Bs<w.a.j)(hn₀:n₀<=w.a.j)
 (hc:w.b ⟨Bs,0,none⟩=some (.c (some ⟨q,0,none⟩))) (T:Ke w q g key dU s l) (hqg:q<n₀/\g<n₀) :
 vN F n ah 202 #[.c (some ⟨Bs,0,none⟩)] (fun x:OkF=>#[bY x.1.ay]) (aL n₀) (fun ys=>ys.map (·.1)=ig s) (fun pre=>pre.map (·.1) <+: ig s) s.a w:=fun l' J Jx W hW hJ _ hY h0=>by
 have hc':=(hW.cell (p:=⟨Bs,0,none⟩) Qe).trans hc;exact agd (fun x:OkF=>x.1) F n hf hro hn l' Bs n₀ W.a.j q g key dU s (fun x hx=>⟨⟨x,T.Z.Z x (T.r.Pf.mem_iff.1 hx)⟩,rfl⟩) J Jx hJ hY W (aO hn₀ hW.j) (av _) hc' (T.w.go hW) hqg h0
def aqr(pre:List Fw):Option Fw:=pre.foldl (least lI) none
def NU(pre:List OkF):Option Fw:=aqr (pre.map (·.1))
theorem ajS{l:List Fw}:∀(b:Option Fw)(y:Fw),l.foldl (least lI) b=some y->y∈l\/b=some y:=by
 induction l with
 | nil=>intro b y h;exact .b h
 | cons x l ih=>
   intro b y h;rw[List.foldl_cons]at h;rcases ih _ _ h with h1|h1
   ·exact .a (jZ _ h1)
   ·unfold least at h1
    split at h1
    ·injection h1 with h1;subst h1;exact .a (mg ..)
    ·split at h1
     ·injection h1 with h1;subst h1;exact .a (mg ..)
     ·exact .b h1
theorem aqs(pre:List OkF)(y:Fw)(h:aqr (pre.map (·.1))=some y):Dz y=true:=by
 rcases ajS _ _ h with h1|h1
 ·obtain⟨z,_,rfl⟩:=iV.1 h1
  exact z.2
 ·cases h1
theorem WA{W:ak}{b D:Nat}{c:Array aB}{x:Option (List Deferred)}(h:dK W b c)(hD:W.a[D]? = some (.deferred x))(o:Obj):dK (W.putObj D o) b c:=by
 obtain⟨t,ht⟩:=h;refine⟨t,(World.putObj_heap_other (fun e=>?_)).trans ht⟩;rw[e,hD]at ht;cases ht
theorem EC{F:List Nat}{B:Nat}{W W':ak}(h:jC F W W')(hF:∀k∈F,k<B):KeepsFrom B W W':=
 ⟨h.j,fun k o hB hk _=>(h.block k (bW.1 hk).1 (fun hm=>by have:=hF k hm;omega)).trans hk⟩
theorem abu(w:ak)(T:Ke w q g key dU s l):
 aP ah 127 #[.c (some ⟨q,0,none⟩)] w (gD w (.d (l.head?.c kD).ay)):=by
 refine(mU (n:=8)).1 ?_;have hs:=T.w.sz;have hlt:=T.w.lt;have hold:=ai2 T.r T.Z;have HT:=ab T;clear T;refine qX Tryz.func127 rfl trivial ?_ rfl;have hfn:∀f,nG.fn f:=fun _=>trivial
 simp only[Tryz.ntmps127,dI,bC,gL,kN,kP,gy,gB,iN,gP,dF,gZ];gi_wp2_with (gi_at_call 132;refine(mU.2 (QA q _)).g ?_;rintro e w' ⟨rfl,rfl⟩);have Z4:=ab (((((Bx.start w).new kD.ay 86).new kD.ay 86).new #[.e true] 4).new #[.c (some ⟨q,0,none⟩)] 121);have e1:(w.alloc (.D kD.ay 86)).a.j=w.a.j+1:=by simp
 have e2:((w.alloc (.D kD.ay 86)).alloc (.D kD.ay 86)).a.j=w.a.j+1+1:=by simp
 have e3:(((w.alloc (.D kD.ay 86)).alloc (.D kD.ay 86)).alloc (.D #[.e true] 4)).a.j=w.a.j+1+1+1:=by simp
 rw[e3,e2,e1]at Z4;have hs4:((((w.alloc (.D kD.ay 86)).alloc (.D kD.ay 86)).alloc (.D #[.e true] 4)).alloc (.D #[.c (some ⟨q,0,none⟩)] 121)).a.j=w.a.j+1+1+1+1:=by simp
 generalize(((w.alloc (.D kD.ay 86)).alloc (.D kD.ay 86)).alloc (.D #[.e true] 4)).alloc (.D #[.c (some ⟨q,0,none⟩)] 121)=W4 at Z4 hs4 ⊢;clear e1 e2 e3;refine yw rfl (by omega) (gf:=202) (lb:=#[.c (some ⟨w.a.j+1+1+1,0,none⟩)]) rfl trivial (fun args w=>rfl)
  (KO nG 7 trivial rfl (by omega) (w.a.j+1+1+1) w.a.j W4 (by omega) (by omega) (Z4.i.S.K.1 0) (HT.i.go Z4.i.R) hlt) (fun h k=>Below.trans h k) (vJ (by omega)) (aG _ _) (fun _=>rfl)
  (fun(pre:List OkF) W=>(dK W (w.a.j+1) ((NU pre).c kD).ay/\dK W (w.a.j+1+1) #[.e (NU pre).isNone]/\dK W w.a.j kD.ay)/\aL w.a.j w W)
  (fun _ _ _=>False)
  (OwnFrom.and (fun s X Y row hs hg hr=>⟨zm _ _ () X Y row hs.1 hg (fun r e=>(hr r e).2),zm _ _ () X Y row hs.2.1 hg (fun r e=>(hr r e).2),zm _ _ () X Y row hs.2.2 hg (fun r e=>(hr r e).2)⟩) (yJ (av _) (by omega)))
  (fun _ _ _ _ _ hs _ _=>hs)
  ⟨⟨Z4.i.b2,Z4.i.b1,Z4.i.b3⟩,Z4.i.R⟩
  (fun x a' W=>∃Bq,w.a.j+1+1<Bq/\dK W Bq x.1.ay/\a'={tmps:=#[.c (some ⟨q,0,none⟩),undef,.c (some ⟨w.a.j,0,none⟩),.c (some ⟨w.a.j+1,0,none⟩),.c (some ⟨w.a.j+1+1,0,none⟩),.c (some ⟨Bq,0,none⟩),.c (some ⟨q,0,none⟩),.func (.func 202) #[] #[.c (some ⟨w.a.j+1+1+1,0,none⟩)],.d x.1.ay,undef,undef,undef,undef,undef,undef,undef,undef],defers:=[]})
  (fun x a' _ X Y row hs hg hr=>by obtain⟨Bq,h1,h2,h3⟩:=hs;exact⟨Bq,h1,zm Bq x.1.ay () X Y row h2 hg (fun r e=>(hr r e).2),h3⟩)
  ?assign ?body ?done ?stop
 case assign=>
  rintro q' pre x W K ⟨⟨h1,h2,h3⟩,hB⟩ hK;gi_wp2;refine hK _ _ ((KeepsOthers.alloc _ _).from _) ((aG _ W).alloc hB.j _) ⟨⟨h1.alloc _,h2.alloc _,h3.alloc _⟩,hB.alloc hB.j _⟩ ⟨W.a.j,h2.lt,dK.new W _ _,rfl⟩
 case body=>
  rintro q' pre x a' W hq ⟨r,hr⟩ ⟨⟨h1,h2,h3⟩,hB⟩ ⟨Bq,hBq,bX,rfl⟩ hlt';have hd1:(1:Nat)<=8-1-1:=by omega
  have l1:=kK bX;have f1:=h2.K.1 0;have f2:=h2.K.2.1 0;have th:=h1.M 0 41 (aX (Fw.G _).symm);have HB:=ab hB;have H1:=ab h1;have H2:=ab h2;have H3:=ab h3;have HX:=ab bX;have HA:=ab (show NU (pre++[x])=least lI (NU pre) x.1 by unfold NU aqr;rw[iU,yQ];rfl);have HM:=ab (show∀y,NU pre=some y->Dz y=true from fun y e=>aqs pre y e);clear hB h1 h2 h3 bX;cases ha:NU pre with
  | none=>
    rw[ha]at HA H1 H2 f1;have f3:(Ah W (w.a.j+1) 0 x.1).b ⟨w.a.j+1+1,0,none⟩=some (.e true):=((H2.i.gG (by simp)).K.1 0:_)
    have f4:(Ah W (w.a.j+1) 0 x.1).frozen? ⟨w.a.j+1+1,0,none⟩=false:=((H2.i.gG (by simp)).K.2.1 0:_)
    clear ha;gi_wp2;have F:=(jC.U0 (F:=[w.a.j+1,w.a.j+1+1]) (lS (dO W (some (w.a.j+1))) 0 x.1.ay) (fun g e=>.a (by injection e with e;simp[e]))).set ⟨w.a.j+1+1,0,none⟩ (.e false) (.a (by simp));refine⟨EC F (by intro k hk;simp at hk;omega),F.qG (by intro k hk;simp at hk;omega) HB.i.j,⟨?_,?_,?_⟩,HB.i.trans (F.qG (by intro k hk;simp at hk;omega) HB.i.j)⟩
    ·rw[HA.i];exact(H1.i.put x.1.ay (by rw[Fw.G,Fw.G])).dN _ _ (by simp)
    ·rw[HA.i];exact(H2.i.gG (by simp)).eF 0 (.e false)
    ·exact(H3.i.gG (by omega)).dN _ _ (by simp;omega)
  | some y=>
    rw[ha]at HA H1 H2 f1;have hy:=HM.i y ha;obtain⟨y1,y2⟩:=JX hy;obtain⟨x1,x2⟩:=JX x.2
    replace H1:Hid (dK W (w.a.j+1) y.ay):=H1
    replace f1:W.b ⟨w.a.j+1+1,0,none⟩=some (.e false):=f1
    have l2:=kK H1.i;have OC:=ab (Rl x.1 y x1 y1 x2 y2 W);obtain⟨o,ho⟩:=cB (lI x.1 y);rw[<-ho]at OC;have HE:=ab (show NU (pre++[x])=if o=true then some x.1 else some y by rw[HA.i,ho];rfl);clear ha hy y1 y2 x1 x2 ho f2 th;cases o
    ·gi_wp2_with (gi_at_call 49;refine(GQ q' (mU.2 OC.i)).g ?_;rintro e w1 ⟨rfl,hb⟩;have GU:=ab hb;clear hb)
     have F:=jC.jw (F:=[w.a.j+1,w.a.j+1+1]) GU.i;refine⟨EC F (by intro k hk;simp at hk;omega),F.qG (by intro k hk;simp at hk;omega) HB.i.j,⟨?_,?_,?_⟩,HB.i.trans (F.qG (by intro k hk;simp at hk;omega) HB.i.j)⟩
     ·rw[show NU (pre++[x])=some y from HE.i];exact H1.i.go GU.i
     ·rw[show NU (pre++[x])=some y from HE.i];exact H2.i.go GU.i
     ·exact H3.i.go GU.i
    ·gi_wp2_with (gi_at_call 49;refine(GQ q' (mU.2 OC.i)).g ?_;rintro e w1 ⟨rfl,hb⟩;have GU:=ab hb;have G1:=ab (H1.i.go hb);have G2:=ab (H2.i.go hb);have G3:=ab (H3.i.go hb);have l3:=kK (HX.i.go hb);clear hb l1 l2 f1;have th:=G1.i.M 0 41 (aX (Fw.G _).symm);have f3:(Ah w1 (w.a.j+1) 0 x.1).b ⟨w.a.j+1+1,0,none⟩=some (.e false):=((G2.i.gG (by simp)).K.1 0:_);have f4:(Ah w1 (w.a.j+1) 0 x.1).frozen? ⟨w.a.j+1+1,0,none⟩=false:=((G2.i.gG (by simp)).K.2.1 0:_))
     have F:=((jC.jw (F:=[w.a.j+1,w.a.j+1+1]) GU.i).grown (lS (dO w1 (some (w.a.j+1))) 0 x.1.ay) (fun g e=>.a (by injection e with e;simp[e]))).set ⟨w.a.j+1+1,0,none⟩ (.e false) (.a (by simp));refine⟨EC F (by intro k hk;simp at hk;omega),F.qG (by intro k hk;simp at hk;omega) HB.i.j,⟨?_,?_,?_⟩,HB.i.trans (F.qG (by intro k hk;simp at hk;omega) HB.i.j)⟩
     ·rw[show NU (pre++[x])=some x.1 from HE.i];exact(G1.i.put x.1.ay (by rw[Fw.G,Fw.G])).dN _ _ (by simp)
     ·rw[show NU (pre++[x])=some x.1 from HE.i];exact(G2.i.gG (by simp)).eF 0 (.e false)
     ·exact(G3.i.gG (by omega)).dN _ _ (by simp;omega)
 case done=>
  rintro D ys W hD hS ⟨⟨h1,h2,h3⟩,hB⟩ hK;have hacc:NU ys=l.head?:=by unfold NU aqr;rw[hS];exact hold
  rw[hacc]at h1;have ld:=kK h1;have th:=h3.M 0 41 (aX (Fw.G _).symm);obtain⟨y,hy⟩:=cB (l.head?.c kD);rw[<-hy]at ld h1;have HY:=ab hy;have H3:=ab h3;have HB:=ab hB;clear hy h3 hB h1 h2 hacc hS;gi_wp2;have hG:=lS (dO W (some w.a.j)) 0 y.ay;have hDW:D<W.a.j:=(bW.1 hK).1;have hK2:(Ah W w.a.j 0 y).a[D]? = some (.deferred (some [])):=(hG.block D hDW (fun e=>by injection e with e;omega)).trans hK;refine⟨by simp,.a ⟨_,_,rfl,uw hK2,?_⟩⟩;refine⟨_,kFw.yV rfl _ rfl (WA (H3.i.put y.ay (by rw[Fw.G,Fw.G])) hK2 _) (Fw.G _),by rw[HY.i],?_⟩;exact((kZ HB.i w.a.j 0 y.ay (av _)).trans (vJ (w:=w) (av _) _ D _ _ (by omega) hK2 rfl rfl))
 case stop=>
  rintro D c pre W _ _ h _;exact h.elim
end
section
theorem ajT{α:Type}(s:List (Option α))(i:Nat)(x:α)(h:fI s i=some x):s.set i (some x)=s:=by
 apply List.ext_getElem?;intro j;rw[List.getElem?_set];split
 ·rename_i e
  subst e;unfold fI at h;rw[au]at h;split
  ·rename_i hl
   rw[aC hl]at h ⊢;rw[jB]at h;rw[h]
  ·rename_i hl
   rw[aS (by omega)]
 ·rfl
theorem JY{α:Type}(s:List (Option α))(i:Nat)(x:α)(hi:i<s.a)(h:fI s i=some x):(ig s).Perm (x::ig (s.set i none)):=by
 have:=yT s i x hi
 rwa [ajT s i x h]at this
theorem Y9{N z c:Nat}(hz:z<N)(h1:1<=c)(h2:c<=N):yA N ((z+1)%N) (yx N z c)=c-1:=by
 have e1:yx N z c=(z+c)%N:=rfl;rw[e1,wD (N:=N) (a:=z+1) (by omega),wD (N:=N) (a:=z+c) (by omega)];unfold yA
 repeat' split
 all_goals omega
variable {W W':ak} {q g:Nat} {key:Vector UInt8 16} {dU:Int} {s:List (Option Fw)} {l:List Fw}
theorem ET.ahH(h:ET W q g key dU s){i:Nat}(hi:i<s.a)(o:Option Fw)(n:Nat)(hn:(ig (s.set i o)).a=n)(hc:n=(ig s).a):ET (gT W g (i*42) (slC o)) q g key dU (s.set i o):=by
 have hb:=h.sl.setCells (i*42) (slC o).a;refine⟨?_,?_,h.ne,by rw[aV];exact h.sz⟩
 ·rw[hn,hc,aV]
  exact h.h.gG h.ne
 ·rw[<-TQ s i o hi]
  simpa[gT]using hb
theorem WC{l:List Fw}{k:Tu}(h:pO l k=none):yD l k=l:=by
 unfold yD;refine wI.2 fun x hx=>?_
 have:=AO h x hx;simp[tO,this]
theorem WE(T:Ke W q g key dU s l)(k:Tu):
 aP ah 128 #[.c (some ⟨q,0,none⟩),.d k.ay] W fun e w'=>e=.a (.e (pO l k).isSome)/\(∃s',Ke w' q g key dU s' (yD l k)/\s'.a=s.a)/\jC [q,g] W w':=by
 have X0:=ab (dK.new W k.ay 81);have B0:=ab ((aG W.a.j W).alloc (av _) (.D k.ay 81));have T0:=ab (T.go B0.i);have HT:=ab T;have HLT:=ab T.w.lt;have CG:=ab (fun(w:ak) (T:Ke w q g key dU s l)=>JW T k);obtain⟨o,ho⟩:=cB (pO l k);rw[<-ho]at CG ⊢;have HO:=ab ho.symm;have hcg:∀o,am4 o = .J #[.d (vV o).qU.ay,.e o.isSome]:=fun _=>rfl
 simp only[hcg]at CG;clear T ho hcg;go_enter Tryz.func128,Tryz.ntmps128;go_upto_region 1 with fail
 generalize W.alloc (.D k.ay 81)=w1 at X0 B0 T0 ⊢;have l1:=pF X0.i;cases o with
 | none=>
   go_wp2_with (go_at_call 126;(with_reducible refine(CG.i _ T0.i).g ?_);rintro e w2 ⟨rfl,hb⟩;have B2:=ab (iX B0.i hb);clear hb l1);go_ret;have HB:=(B2.i.alloc B2.i.j (.D (vV none).qU.ay 86))
   refine⟨rfl,⟨s,?_,rfl⟩,jC.jw HB⟩;rw[WC HO.i];exact HT.i.go HB
 | some x=>
   obtain⟨hxl,hxk⟩:=xw HO.i;have hok:=HT.i.Z.Z x hxl;have hkn:wT k:=by rw[<-hxk];exact AU (wF hok)
   obtain⟨d,hd,hat⟩:=HT.i.Vr k;rw[HO.i]at hat;have hsz:=HT.i.w.sz;obtain⟨j,hj⟩:=cB ((hmK key s.a k+d)%s.a);have hjl:j<s.a:=by rw[hj];exact fH _ (by omega)
   have CF:=ab (fun(w:ak) (T:ET w q g key dU s)=>BH T k hkn d hd);rw[<-hj]at CF hat;obtain⟨z,a0,Zd,aqt⟩:=HT.i.r.tab.aB7 hjl hat;obtain⟨N,hN⟩:=cB s.a;rw[<-hN]at aqt hjl hsz;have hz:z<N:=by rw[hN];exact Zd.hz
   have ha0:1<=a0/\a0+1<=N:=⟨Zd.a0,by rw[hN];exact Zd.cN⟩
   have HL:=ab (JY s j x (by rw[<-hN];exact hjl) hat);obtain⟨L,hL⟩:=cB (ig (s.set j none));rw[<-hL]at Zd HL;have H0:=ab Zd;have HN:=ab hN;have HJ:=ab aqt;have HAT:=ab hat;have HX:=ab (show x.key=k from hxk);obtain⟨j1,hj1⟩:=cB (j+1);have e1:(j:Int)+1=(j1:Int):=by omega
   have i1:=jS (j1:Int) (by omega);obtain⟨j2,hj2⟩:=cB (j1%N);have aJ4:j2<N:=by rw[hj2];exact fH _ (by omega)
   have e2:(j1:Int)%(N:Int)=(j2:Int):=by rw[hj2];omega
   have e3:LV (j1:Int) (N:Int)=(j2:Int):=by rw[mo (by omega)];exact e2
   have i2:=jS (j2:Int) (by omega);have z1:¬(N:Int)=0:=by omega
   have z2:¬N=0:=by omega
   have HJ2:=ab (show j2=yx N z (a0+1)by rw[hj2,hj1,<-aqt];exact acC hz (by omega));clear hxl hxk hok hkn hd hat hj Zd aqt hN hL hj1 hj2;go_wp2_with (first|(go_at_call 126;(with_reducible refine(CG.i _ T0.i).g ?_);rintro e w2 ⟨rfl,hb⟩;have T2:=ab ((T0.i.go hb).go ((aG _ _).alloc (av _) (.D (vV (some x)).qU.ay 86)));have B2:=ab ((iX B0.i hb).alloc ((iX B0.i hb).j) (.D (vV (some x)).qU.ay 86));have l2:=pF ((X0.i.go hb).alloc (.D (vV (some x)).qU.ay 86));have f2:(w2.alloc (.D (vV (some x)).qU.ay 86)).b ⟨q,18,none⟩=some (.a (some ⟨g,0,none⟩) N N):=(by rw[HN.i];exact T2.i.w.K.1);clear hb l1)|(go_at_call 129;(with_reducible refine(CF.i _ T2.i.w).g ?_);rintro e w3 ⟨rfl,hb⟩;have T3:=ab (T2.i.go hb);have B3:=ab (iX B2.i hb);clear hb l2 f2));go_loopw [8,9] (fun v8 v9 wr=>∃(s':List (Option Fw))(a c:Nat)(y:Fw),s'.a=N/\Xk Fw.key (hmK key N) z s' a c L/\fI s' (yx N z a)=some y/\ET wr q g key dU s'/\v8=.b .a (yx N z a:Nat)/\v9=.b .a (yx N z c:Nat)/\jC [g] w3 wr)
    (fun _ v9 wr=>N-yA N ((z+1)%N) (intOf v9).e)
   case atStart=>exact⟨s,a0,a0+1,x,HN.i.symm,by rw[HN.i];exact H0.i,by rw[HJ.i];exact HAT.i,T3.i.w,by rw[HJ.i],by rw[<-HJ2.i],jC.refl _ _⟩
   case round=>
    obtain⟨s',a,c,y,hlen,hol,hay,hTb,rfl,rfl,hfr⟩:=hrel;have hcN:c<=N:=by rw[<-hlen];exact hol.cN
    have hac:=hol.ac;have ha1:=hol.a0;obtain⟨i,hi⟩:=cB (yx N z c);obtain⟨b,hb⟩:=cB (yx N z a);have hil:i<N:=by rw[hi];exact Bh (by omega)
    have hbl:b<N:=by rw[hb];exact Bh (by omega)
    have HOL:=ab hol;have HLEN:=ab hlen;have HTB:=ab hTb;have HFR:=ab hfr;have f18:wr.b ⟨q,18,none⟩=some (.a (some ⟨g,0,none⟩) N N):=by rw[<-hlen];exact hTb.K.1
    have hai:=(hTb.Wm (show i<s'.a by rw[hlen];exact hil))
    rw[<-hi,<-hb];rw[<-hb]at hay;have HI:=ab hi;have GU:=ab hb;have HAY:=ab hay;have hii:(i:Int)<N:=by omega
    have hbi:(b:Int)<N:=by omega
    have HCT:=ab (show(ig s').a=L.a+1 by
     have h1:=(JY s' b y (by rw[hlen];exact hbl) hay).t;rw[bC]at h1;have h2:=hol.Pf;rw[hlen,<-hb]at h2;rw[h1,h2.t])
    have thb:=hTb.sl.M (b*42) 42 (by rw[uX,hlen];have:=dw 42 (show b+1<=N from hbl);omega);clear hol hlen hTb hfr hi hb hay;cases hat:fI s' i with
    | none=>
      rw[hat]at hai;have a1:wr.b ⟨g,i*42,none⟩=some (.e false):=hai.1;have aDW:=ab hat;have PQ:=ab (HTB.i.h.gG (b2:=g) (o:=b*42) (x:=Gd.ay) HTB.i.ne);have f17:=(PQ.i.K.1 17).trans (Tk.adI _);have g17:=PQ.i.K.2.1 17;have aJ6:=(PQ.i.K.1 18).trans (Tk.yg _);rw[HCT.i]at f17;obtain⟨m,hm⟩:=cB L.a;rw[<-hm]at f17;obtain⟨m1,hm1⟩:=cB (m+1);rw[<-hm1]at f17;have e5:(m1:Int)-1=(m:Int):=by omega
      have hmb:m1<=100000:=by have h1:=EA s';have h2:=HTB.i.sz;have h3:=HCT.i;omega
      have i5:=jS (m:Int) (by omega);have HM:=ab hm;clear hai hat hm hm1 hmb;go_wp2;go_ret;obtain⟨hd1,hd2⟩:=HOL.i.done (by rw[HLEN.i,<-HI.i];exact aDW.i);rw[HLEN.i,<-GU.i]at hd1 hd2;have hxl:=xw HO.i;have hlp:l.Perm (x::L):=(HT.i.r.Pf.symm).trans HL.i;have hcut:=Vs HT.i.Z hxl.1 hlp;rw[hxl.2]at hcut;have hbs:b<s'.a:=by rw[HLEN.i];exact hbl
      have hel:(ig (s'.set b none)).a=m:=by rw[hd2.t,HM.i]
      have hW:ET ((gT wr g (b*42) Gd.ay).F ⟨q,17,none⟩ (.b .a m)) q g key dU (s'.set b none):=by
       refine⟨?_,?_,HTB.i.ne,by rw[aV];exact HTB.i.sz⟩
       ·have:=PQ.i.eF 17 (.b .a m)
        rw[Tk.Qw]at this;rw[hel,aV];exact this
       ·have h1:=HTB.i.sl.setCells (b*42) Gd.ay.a
        have h2:=TQ s' b none hbs;refine dK.dN ?_ _ _ HTB.i.ne;rw[<-h2];simpa[gT,slC,vV]using h1
      refine⟨rfl,⟨s'.set b none,⟨hW,⟨?_,?_⟩,HT.i.Z.sub (aaO l k)⟩,by rw[aV,HLEN.i,HN.i]⟩,?_⟩
      ·rw[aV,HLEN.i];exact hd1
      ·exact hd2.trans hcut
      ·refine jC.set ?_ _ _ (.a (by simp))
       refine jC.grown ?_ (lS (dO wr (some g)) (b*42) Gd.ay) (fun j e=>.a (by injection e with e;simp[e]));exact(jC.jw B3.i).trans HFR.i (fun j hj=>.a (by simp at hj;simp[hj]))
    | some v=>
      rw[hat]at hai;obtain⟨a1,a2,_,a4,a5,_,a7⟩:=hai
      replace a1:wr.b ⟨g,i*42,none⟩=some (.e true):=a1
      replace a4:dM wr g (i*42+1) 37=v.key.ay:=a4
      have hcl:c<N:=by
       rcases aY c N with h1|h1
       ·exact h1
       ·exfalso
        have h2:c=N:=by omega
        have h3:=HOL.i.free;have h4:i=z:=by rw[HI.i,h2];show(z+N)%N=z;rw[Nat.add_mod_right,Nat.mod_eq_of_lt hz]
        rw[h4,h3]at hat;cases hat
      have hib:i≠b:=fun e=>by
       have:=JH hz hcl (show a<N by omega) (by rw[<-HI.i,<-GU.i];exact e);omega
      have hvl:v∈l:=by
       have h1:v∈ig (s'.set b none):=Pb.2 ⟨i,by rw[aV,HLEN.i];exact hil,by rw[Fy _ _ _ _ (by rw[HLEN.i];exact hbl),if_neg (jr hib)];exact hat⟩;have h2:=HOL.i.Pf;rw[HLEN.i,<-GU.i]at h2;exact HT.i.r.Pf.mem_iff.1 (HL.i.mem_iff.2 (jZ _ (h2.mem_iff.1 h1)))
      have hvn:=AU (wF (HT.i.Z.Z v hvl));obtain⟨hv,hhv⟩:=cB (hmK key N v.key);have hvN:hv<N:=by rw[hhv];exact fH _ (by omega)
      have CH:=ab (fun(w:ak) (T:ET w q g key dU s')=>Wx T v.key hvn);rw[HLEN.i,<-hhv]at CH;have hat':fI s' (yx s'.a z c)=some v:=by rw[HLEN.i,<-HI.i];exact hat
      have hlin:=(HOL.i.lin c v (by rw[HLEN.i];exact hcl) (by omega) hat').1;rw[HLEN.i,<-hhv]at hlin;have ay6:=ab (show hmK key N v.key=hv from hhv.symm);obtain⟨p1,hp1⟩:=cB (i+N-hv);obtain⟨p2,hp2⟩:=cB (i+N-b);obtain⟨d1,hd1⟩:=cB (p1%N);obtain⟨d2,hd2⟩:=cB (p2%N);have aJ8:d1<N:=by rw[hd1];exact fH _ (by omega)
      have aJ9:d2<N:=by rw[hd2];exact fH _ (by omega)
      have g1:=jS ((i:Int)-(hv:Int)) (by omega);have g2:=jS ((i:Int)-(b:Int)) (by omega);have g3:(i:Int)-(hv:Int)+(N:Int)=(p1:Int):=by omega
      have g4:(i:Int)-(b:Int)+(N:Int)=(p2:Int):=by omega
      have g5:=jS (p1:Int) (by omega);have g6:=jS (p2:Int) (by omega);have g7:(p1:Int)%(N:Int)=(d1:Int):=by rw[hd1];omega
      have g8:(p2:Int)%(N:Int)=(d2:Int):=by rw[hd2];omega
      have g9:LV (p1:Int) (N:Int)=(d1:Int):=by rw[mo (by omega)];exact g7
      have g10:LV (p2:Int) (N:Int)=(d2:Int):=by rw[mo (by omega)];exact g8
      have g11:=jS (d1:Int) (by omega);have g12:=jS (d2:Int) (by omega);have D1:=ab (show d1=c-yA N z hv by rw[hd1,hp1,HI.i];exact aiz hz hvN hlin hcl);have D2:=ab (show d2=c-a by rw[hd2,hp2,HI.i,GU.i];exact acB hz (by omega) hcl);obtain⟨n1,hn1⟩:=cB (i+1);have k1:(i:Int)+1=(n1:Int):=by omega
      have k2:=jS (n1:Int) (by omega);obtain⟨n2,hn2⟩:=cB (n1%N);have aJ':n2<N:=by rw[hn2];exact fH _ (by omega)
      have k3:(n1:Int)%(N:Int)=(n2:Int):=by rw[hn2];omega
      have k4:LV (n1:Int) (N:Int)=(n2:Int):=by rw[mo (by omega)];exact k3
      have k5:=jS (n2:Int) (by omega);have Qz:=ab (show n2=yx N z (c+1)by rw[hn2,hn1,HI.i];exact acC hz hcl);have aqu:=ab hat';have ay7:=ab hlin;have HIB:=ab hib;have ar7:=ab (show N-yA N ((z+1)%N) n2<N-yA N ((z+1)%N) i by
       rw[Qz.i,HI.i,Y9 hz (by omega) (by omega),Y9 hz (by omega) (by omega)];omega)
      have HC:=ab (show c<N/\a<c/\0<a from⟨hcl,hac,ha1⟩);clear hvl hvn hhv hat' hlin hp1 hp2 hd1 hd2 hn1 hn2 hib hat a2 a5 hcl;by_cases hle:d2<=d1
      ·have t1:decide ((d1:Int)>=(d2:Int))=true:=by simp;omega
       have t2:decide ((d2:Int)<=(d1:Int))=true:=by simp;omega
       have t3:decide (d2<=d1)=true:=by simp;omega
       have HLE:=ab hle;clear hle thb;go_wp2_with (go_at_call 200;(with_reducible refine(CH.i _ HTB.i).g ?_);rintro e w5 ⟨rfl,hb5⟩;have HB5:=ab hb5;have T5:=ab (HTB.i.go hb5);clear hb5 a1 a4 a7 f18;have f18:w5.b ⟨q,18,none⟩=some (.a (some ⟨g,0,none⟩) N N):=(by rw[<-HLEN.i];exact T5.i.K.1);have a5:vw w5 g (i*42) 42:=(T5.i.Wm (by rw[HLEN.i];exact hil)).2.2.2.2.1;have a2:dM w5 g (i*42) 42=(vV (some v)).ay:=(by rw[(T5.i.Wm (by rw[HLEN.i];exact hil)).2.1,show fI s' i=some v from(by have:=aqu.i;rw[HLEN.i,<-HI.i]at this;exact this)]);have thb:w5.M g (b*42) 42:=T5.i.sl.M (b*42) 42 (by rw[uX,HLEN.i];have:=dw 42 (show b+1<=N from hbl);omega));go_region;go_wp2;go_roundw
       case rel=>
        have h1:=HC.i;have h2:=HLE.i;rw[D1.i,D2.i]at h2;have h3:=ay7.i;have hmv:=HOL.i.move (by rw[HLEN.i];exact h1.1) aqu.i (by rw[HLEN.i,ay6.i];omega);rw[HLEN.i,<-GU.i]at hmv;have hbs:b<s'.a:=by rw[HLEN.i];exact hbl
        have hai2:fI (s'.set b (some v)) i=some v:=by
         rw[Fy _ _ _ _ hbs,if_neg (jr HIB.i)];have:=aqu.i;rw[HLEN.i,<-HI.i]at this;exact this
        have hel:(ig (s'.set b (some v))).a=L.a+1:=by
         have h4:=(JY (s'.set b (some v)) i v (by rw[aV,HLEN.i];exact hil) hai2).t;rw[bC]at h4;have h5:=hmv.Pf;rw[aV,HLEN.i,<-HI.i]at h5;rw[h4,h5.t]
        refine⟨s'.set b (some v),c,c+1,v,by rw[aV,HLEN.i],hmv,by rw[<-HI.i];exact hai2,?_,by rw[HI.i],by rw[Qz.i],?_⟩
        ·exact T5.i.drew.ahH hbs (some v) (L.a+1) hel (HCT.i.symm)
        ·exact jC.grown (HFR.i.O HB5.i.drew HFR.i.j) (lS (dO w5.drew (some g)) (b*42) (vV (some v)).ay) (fun j e=>.a (by injection e with e;simp[e]))
       case measure=>
        simp only[intOf,dS];exact ar7.i
      ·have t1:decide ((d1:Int)>=(d2:Int))=false:=by simp;omega
       have t2:decide ((d2:Int)<=(d1:Int))=false:=by simp;omega
       have t3:decide (d2<=d1)=false:=by simp;omega
       have HLE:=ab hle;clear hle thb;go_wp2_with (go_at_call 200;(with_reducible refine(CH.i _ HTB.i).g ?_);rintro e w5 ⟨rfl,hb5⟩;have HB5:=ab hb5;clear hb5 a1 a4 a7 f18);go_roundw
       case rel=>
        have h1:=HC.i;have h2:=HLE.i;rw[D1.i,D2.i]at h2;have h3:=ay7.i;refine⟨s',a,c+1,y,HLEN.i,HOL.i.aB8 (by rw[HLEN.i];exact h1.1) aqu.i (by rw[HLEN.i,ay6.i];omega),by rw[<-GU.i];exact HAY.i,HTB.i.go HB5.i,by rw[GU.i],by rw[Qz.i],HFR.i.O HB5.i HFR.i.j⟩
       case measure=>
        simp only[intOf,dS];exact ar7.i
end
section
variable {W W':ak} {q g:Nat} {key:Vector UInt8 16} {dU:Int} {s:List (Option Fw)} {l:List Fw}
theorem TbR.DF{hm:Tu->Nat}(h:TbR hm s l)(ho:wo dU l){f x:Fw}{d:Nat}(hd:Found hm Fw.key s f.key d)(hf:pO l f.key=some x)(hl:l.a<s.a)(m:List Fw)(hm':m.Perm (f::yD l f.key)):TbR hm (s.set ((hm f.key+d)%s.a) (some f)) m:=by
 have hN:0<s.a:=by omega
 have hj:(hm f.key+d)%s.a<s.a:=fH _ hN;have hst:=h.stop ho hd;have hel:=h.Pf.t;rw[hf]at hst;obtain⟨h1,h2⟩:=xw hf;obtain⟨z,hz1,hz2⟩:=(La s).1 (by omega);refine⟨h.tab.put hd hz1 hz2 (fun e=>by rw[e,hst]at hz2;cases hz2),?_⟩;have e1:=yT s _ f hj;have e2:=OZ s _ x hj hst;have e3:=Vs ho h1 (h.Pf.symm.trans e2);rw[h2]at e3;exact e1.trans ((e3.cons f).trans hm'.symm)
theorem NV{fn:Func}{p u v:Tmp}{ty:bF}(h:fn.results = #[.cell p ty,.a u,.a v])(tmps:Array aB)(P:Program)(w:ak):
 (results fn tmps).I P w=((asAddr (tmps.c p undef)).I P w).andThen fun a w₁=>((loadVar ty a).I P w₁).andThen fun x w₂=>.Z (.J #[x,tmps.c u undef,tmps.c v undef]) w₂:=by
 simp only[results,h];simp[jK,iD]
theorem oO.aqv{T:bF}{n:Nat}{z:Array aB}{fn:Func}{p u v b:Nat}{W:ak}{c:Array aB}(K:oO T n z)(h:fn.results = #[.cell p T,.a u,.a v])(tmps:Array aB)(hp:tmps.c p undef=.c (some ⟨b,0,none⟩))(hb:dK W b c)(hc:c.j=n):(results fn tmps).I ah W = .Z (.J #[.d c,tmps.c u undef,tmps.c v undef]) W:=by
 obtain⟨_,_,h3,h4⟩:=hb.K;have hl:=K.ld W b 0 (by rw[h3 0 n (by unfold dY;omega)];trivial);rw[h4 0 n (by unfold dY;omega),bB,<-hc,Array.extract_size]at hl;unfold xI at hl;simp only[bZ,Instr.sureAddr,jK,oh,gM]at hl;rw[NV h,hp];simp[asAddr,iD,hl]
def ajU(dU:Int)(l:List Fw)(f:Fw):aB:=
 if Dz f then(if(pO l f.key).isNone&&decide (dU<=l.a)then .J #[.d (l.head?.c kD).ay,.e true,.b .a 0]else .J #[.d kD.ay,.e false,.b .a 0])else .J #[.d kD.ay,.e false,.b .a 1]
def agf(W:ak)(q g:Nat)(key:Vector UInt8 16)(dU:Int)(s:List (Option Fw))(l:List Fw)(f:Fw)(e:lq)(w':ak):Prop:=
 e=.a (ajU dU l f)/\(∃s',Ke w' q g key dU s' (DF dU l f)/\s'.a=s.a)/\jC [q,g] W w'
theorem Ze(T:Ke W q g key dU s l)(h1:1<=dU)(h2:dU*2<=s.a)(f:Fw)(hfn:f.E.a<=1000000):
 aP ah 63 #[.c (some ⟨q,0,none⟩),.d f.ay] W (agf W q g key dU s l f):=by
 have Z0:=ab (((Bx.start W).new f.ay 86).new kD.ay 86);rw[show(W.alloc (.D f.ay 86)).a.j=W.a.j+1 by simp]at Z0;have CR:=ab (fun w=>KE f w (by omega));have HT:=ab T;have HLT:=ab T.w.lt;obtain⟨ok,hok⟩:=cB (Dz f);rw[<-hok]at CR;have JA:=ab hok;clear hok T;go_enter Tryz.func63,Tryz.ntmps63;go_upto_region 1 with fail
 generalize(W.alloc (.D f.ay 86)).alloc (.D kD.ay 86)=w1 at Z0 ⊢;have l1:=kK Z0.i.b1;cases ok
 ·go_wp2_with (go_at_call 48;(with_reducible refine(CR.i _).g ?_);rintro e w2 ⟨rfl,hb⟩;have Z2:=ab (Z0.i.go hb);clear hb l1;have yE:=Z2.i.S.M 0 41 (aX (Fw.G _).symm))
  have k2:=Z2.i.put (fun p hp=>by rw[List.mem_singleton.1 hp];simp) kD.ay rfl;refine aN (kFw.aqv rfl _ rfl (show dK (Ah w2 (W.a.j+1) 0 kD) (W.a.j+1) kD.ay from k2.S) (Fw.G _)) rfl ?_;refine⟨by unfold ajU;rw[if_neg (by rw[<-JA.i];simp)];rfl,⟨s,?_,rfl⟩,jC.jw k2.R⟩;unfold DF;rw[if_neg (by rw[<-JA.i];simp)];exact HT.i.go k2.R
 ·have hkn:wT f.key:=AU (wF JA.i.symm)
  have CG:=ab (fun(w:ak) (T:Ke w q g key dU s l)=>JW T f.key);obtain⟨o,ho⟩:=cB (pO l f.key);rw[<-ho]at CG;have HO:=ab ho.symm;have hcg:∀o,am4 o = .J #[.d (vV o).qU.ay,.e o.isSome]:=fun _=>rfl
  simp only[hcg]at CG;clear ho hcg;have hcnt:(ig s).a=l.a:=HT.i.r.Pf.t;have hsz:=HT.i.w.sz;obtain⟨n,hn⟩:=cB l.a;have HNL:=ab hn;have HF:=ab (fun(w':ak) (T:Ke w' q g key dU s l)=>show w'.b ⟨q,17,none⟩=some (.b .a n)/\w'.b ⟨q,16,none⟩=some (.b .a dU)from⟨by rw[T.w.K.2.1,T.r.Pf.t,hn],T.w.K.2.2.1⟩);clear hcnt hn;go_upto_region 6 with(first|(go_at_call 48;(with_reducible refine(CR.i _).g ?_);rintro e w2 ⟨rfl,hb⟩;have HW3:=ab (show W.a.j+1<w2.a.j from(Z0.i.go hb).S.lt);have Z2:=ab ((Z0.i.go hb).new kD.ay 86);clear hb l1;have l2:=oP Z2.i.b2)|(go_at_call 126;(with_reducible refine(CG.i _ (HT.i.go Z2.i.R)).g ?_);rintro e w3 ⟨rfl,hb⟩;have Z3:=ab ((Z2.i.go hb).new (vV o).qU.ay 86);clear hb l2))
  have TA:=ab (HT.i.go Z3.i.R);obtain⟨f17,f16⟩:=HF.i _ TA.i;cases o with
  | some x=>
    go_wp2_with fail;go_quiet (fail);have T1:=ab (show Ke ((w3.alloc (.D (vV (some x)).qU.ay 86)).drewN nq) q g key dU s l from⟨TA.i.w.drewN nq,TA.i.r,TA.i.Z⟩);have XF:=ab (Z3.i.b3.drewN nq);have XR:=ab (Z3.i.b2.drewN nq);have XY:=ab (Z3.i.b1.drewN nq);have FR:=ab (jC.jw (F:=[q,g]) (eH Z3.i.R nq));have HF1:=ab HO.i;generalize(w3.alloc (.D (vV (some x)).qU.ay 86)).drewN nq=wA at T1 XF XR XY FR ⊢;clear f17 f16;go_wp2_with fail;obtain⟨d,hd,hat⟩:=T1.i.Vr f.key;rw[HF1.i]at hat;have hsz1:=T1.i.w.sz;obtain⟨j,hj⟩:=cB ((hmK key s.a f.key+d)%s.a);have hjl:j<s.a:=by rw[hj];exact fH _ (by omega)
    have CF:=ab (fun(w:ak) (T:ET w q g key dU s)=>BH T f.key hkn d hd);rw[<-hj]at CF hat;have HD:=ab hd;have HJ:=ab hj;have HAT:=ab hat;obtain⟨N,hN⟩:=cB s.a;have HN:=ab hN;have hji:(j:Int)<N:=by omega
    have HJL:=ab hjl;clear hd hj hat hN hjl hsz1;obtain⟨T,ff,n0,E0,es,ew⟩:=xC (wA);have hT:Nonempty T:=⟨n0⟩
    have ES:=ab es;have EW:=ab ew;have l18:∀m,(ff m).b ⟨q,18,none⟩=some (.a (some ⟨g,0,none⟩) N N):=fun m=>by rw[HN.i];exact(T1.i.w.go (es m)).K.1
    have lk:=fun m=>oP (XF.i.go (es m))
    have CG2:=ab (fun m=>CF.i _ (T1.i.w.go (es m)));clear es ew;refine nL ff (by kernel_rfl) (by kernel_rfl) n0 E0 ?_
    repeat(go_big_quiet_step ((first|(go_at_call 129;(with_reducible refine(CG2.i _).g ?_);rintro e w2 ⟨rfl,hb⟩;exact⟨rfl,EW.i _ ((ES.i _).trans (hb.g (ES.i _).j))⟩))))
    refine gK ?_;rintro _ ⟨m',rfl⟩;have HB:=ab (ES.i m');generalize ff m'=wN at *;clear ES EW E0 hT n0;clear l18 lk;have T2:=ab (T1.i.go HB.i);have F2:=ab (XF.i.go HB.i);have R2:=ab (XR.i.go HB.i);have Y2:=ab (XY.i.go HB.i);have FR2:=ab (FR.i.O HB.i FR.i.j);obtain⟨a1,_,_,_,a5,_,_⟩:=T2.i.w.Wm HJL.i;rw[HAT.i]at a1
    replace a1:wN.b ⟨g,j*42,none⟩=some (.e true):=a1
    have lf:=kK F2.i;have thj:=T2.i.w.sl.M (j*42) 42 (by rw[uX];have:=dw 42 (show j+1<=s.a from HJL.i);omega);have YX:=ab (show q≠W.a.j+1/\g≠W.a.j+1/\g≠w2.a.j/\w2.a.j≠W.a.j+1 from⟨by have:=HLT.i;omega,by have:=HLT.i;omega,by have:=HLT.i;have:=HW3.i;omega,by have:=HW3.i;omega⟩);have Y3:=ab (Y2.i.gG (o:=j*42) (x:=(Sl.mk true f).ay) (jr YX.i.2.2.1));have R3:=ab (R2.i.gG (o:=j*42) (x:=(Sl.mk true f).ay) (jr YX.i.2.1));have ly:=kK Y3.i;have yE:=R3.i.M 0 41 (aX (Fw.G _).symm);clear a5;go_wp2;refine aN (kFw.aqv rfl _ rfl (R3.i.put kD.ay rfl) (Fw.G _)) rfl ?_;have hpf:DF dU l f=ins lI f (yD l f.key):=by unfold DF;rw[if_pos JA.i.symm,if_pos (by rw[HO.i];rfl)]
    have e1:=JY s j x HJL.i HAT.i;have e2:=yT s j f HJL.i;have hW:=T2.i.w.ahH HJL.i (some f) (ig s).a (by rw[e2.t,e1.t,bC,bC]) rfl;have hR:=T2.i.r.DF T2.i.Z HD.i HO.i (by have:=T2.i.Z.len;omega) (ins lI f (yD l f.key)) (Bl _ _);rw[<-HJ.i]at hR;refine⟨by unfold ajU;rw[if_pos JA.i.symm,HO.i];rfl,⟨s.set j (some f),⟨⟨hW.h.gG YX.i.1,hW.sl.gG YX.i.2.1,hW.ne,hW.sz⟩,?_,T2.i.Z.put h1 f⟩,by rw[aV]⟩,?_⟩
    ·rw[aV,hpf];exact hR
    ·refine jC.grown ?_ (lS (dO _ (some (W.a.j+1))) 0 kD.ay) (fun k e=>.b (by injection e with e;omega))
     exact jC.grown FR2.i (lS (dO _ (some g)) (j*42) (Sl.mk true f).ay) (fun k e=>.a (by injection e with e;simp[e]))
  | none=>
   by_cases hfull:dU<=(n:Int)
   ·have t1:decide ((n:Int)>=dU)=true:=by simp;omega
    have t2:decide (dU<=(n:Int))=true:=by simp;omega
    obtain⟨x0,tl,hl0⟩:∃x0 tl,l=x0::tl:=by
     have:=HNL.i;cases l with
     | nil=>simp at this;omega
     | cons x t=>exact⟨x,t,rfl⟩
    have hhd:l.head?.c kD=x0:=by rw[hl0];rfl
    have hct:yD l x0.key=tl:=by have:=HT.i.Z;rw[hl0]at this⊢;exact ama this
    have CO:=ab (fun w (T:Ke w q g key dU s l)=>abu w T);rw[hhd]at CO;have CD:=ab (fun w (T:Ke w q g key dU s l)=>WE T x0.key);rw[hct]at CD;have hfl:dU<=(l.a:Int):=by rw[<-HNL.i];exact hfull
    have HPF:=ab (show DF dU l f=ins lI f tl by unfold DF;rw[if_pos JA.i.symm,if_neg (by rw[HO.i];simp),if_pos hfl,hl0];rfl);have HPC:=ab (show ajU dU l f = .J #[.d x0.ay,.e true,.b .a 0]by unfold ajU;rw[if_pos JA.i.symm,HO.i,if_pos (by simpa using hfl),hhd]);have HFT:=ab (show pO tl f.key=none by
     unfold pO;rw[List.find?_eq_none];intro z hz;have:=AO HO.i z (by rw[hl0];exact jZ _ hz);simp[tO,this])
    have HPT:=ab (show DF dU tl f=ins lI f tl by
     unfold DF;rw[if_pos JA.i.symm,if_neg (by rw[HFT.i];simp),if_neg (by have:=HT.i.Z.len;rw[hl0,bC]at this;omega)])
    have HBD:=ab (show((tl.a:Nat):Int)+1<=dU by have:=HT.i.Z.len;rw[hl0,bC]at this;omega);clear hfull hl0 hhd hct hfl;go_wp2_with fail;go_quiet (fail);have TB:=ab (show Ke ((w3.alloc (.D (vV none).qU.ay 86)).drewN nq) q g key dU s l from⟨TA.i.w.drewN nq,TA.i.r,TA.i.Z⟩);have XF0:=ab (Z3.i.b3.drewN nq);have XR0:=ab (Z3.i.b2.drewN nq);have XY0:=ab (Z3.i.b1.drewN nq);have FR0:=ab (jC.jw (F:=[q,g]) (eH Z3.i.R nq));generalize(w3.alloc (.D (vV none).qU.ay 86)).drewN nq=wB at TB XF0 XR0 XY0 FR0 ⊢;clear f17 f16;have HQK:=ab (show w2.a.j≠q/\w2.a.j≠g/\w2.a.j≠W.a.j/\w2.a.j≠W.a.j+1/\W.a.j≠q/\W.a.j≠g/\W.a.j+1≠q/\W.a.j+1≠g by have:=HLT.i;have:=HW3.i;omega);go_upto_region 9 with(first
     | (go_at_call 127;(with_reducible refine(CO.i _ TB.i).g ?_);rintro e w4 ⟨rfl,hb4⟩;have Y4:=ab (XY0.i.go hb4);have th4:=Y4.i.M 0 41 (aX (Fw.G _).symm);have T5:=ab (show Ke (Ah w4 w2.a.j 0 x0) q g key dU s l from⟨⟨(TB.i.w.go hb4).h.gG (jr HQK.i.1),(TB.i.w.go hb4).sl.gG (jr HQK.i.2.1),TB.i.w.ne,TB.i.w.sz⟩,TB.i.r,TB.i.Z⟩);have Y5:=ab (show dK (Ah w4 w2.a.j 0 x0) w2.a.j x0.ay from Y4.i.put x0.ay (by rw[Fw.G,Fw.G]));have F5:=ab (show dK (Ah w4 w2.a.j 0 x0) W.a.j f.ay from(XF0.i.go hb4).gG (b2:=w2.a.j) (o:=0) (x:=x0.ay) (jr HQK.i.2.2.1));have R5:=ab (show dK (Ah w4 w2.a.j 0 x0) (W.a.j+1) kD.ay from(XR0.i.go hb4).gG (b2:=w2.a.j) (o:=0) (x:=x0.ay) (jr HQK.i.2.2.2.1));have lk5:=oP Y5.i;have FR5:=ab (show jC [q,g] W (Ah w4 w2.a.j 0 x0)from(FR0.i.O hb4 FR0.i.j).grown (lS (dO w4 (some w2.a.j)) 0 x0.ay) (fun k e=>.b (by injection e with e;have:=HW3.i;omega)));clear hb4)
     | (go_at_call 128;(with_reducible refine(CD.i _ T5.i).g ?_);rintro e wA ⟨rfl,⟨s',T6,hs6⟩,F6⟩;have T1:=ab T6;have HS6:=ab hs6;have XF:=ab (F6.box F5.i (by have:=HQK.i;simp;omega));have XR:=ab (F6.box R5.i (by have:=HQK.i;simp;omega));have XY:=ab (F6.box Y5.i (by have:=HQK.i;simp;omega));have FR:=ab (FR5.i.pV F6);clear lk5 th4 T6 hs6 F6))
    have HF1:=ab HFT.i;obtain⟨n',hn'⟩:=cB tl.a;have HNP:=ab hn';clear hn';obtain⟨d,hd,hat⟩:=T1.i.Vr f.key;rw[HF1.i]at hat;have hsz1:=T1.i.w.sz;obtain⟨j,hj⟩:=cB ((hmK key s'.a f.key+d)%s'.a);have hjl:j<s'.a:=by rw[hj];exact fH _ (by omega)
    have CF:=ab (fun(w:ak) (T:ET w q g key dU s')=>BH T f.key hkn d hd);rw[<-hj]at CF hat;have HD:=ab hd;have HJ:=ab hj;have HAT:=ab hat;obtain⟨N,hN⟩:=cB s'.a;have HN:=ab hN;have hji:(j:Int)<N:=by omega
    have HJL:=ab hjl;clear hd hj hat hN hjl hsz1;obtain⟨T,ff,n0,E0,es,ew⟩:=xC (wA);have hT:Nonempty T:=⟨n0⟩
    have ES:=ab es;have EW:=ab ew;have l18:∀m,(ff m).b ⟨q,18,none⟩=some (.a (some ⟨g,0,none⟩) N N):=fun m=>by rw[HN.i];exact(T1.i.w.go (es m)).K.1
    have lk:=fun m=>oP (XF.i.go (es m))
    have CG2:=ab (fun m=>CF.i _ (T1.i.w.go (es m)));clear es ew;refine nL ff (by kernel_rfl) (by kernel_rfl) n0 E0 ?_
    repeat(go_big_quiet_step ((first|(go_at_call 129;(with_reducible refine(CG2.i _).g ?_);rintro e w2 ⟨rfl,hb⟩;exact⟨rfl,EW.i _ ((ES.i _).trans (hb.g (ES.i _).j))⟩))))
    refine gK ?_;rintro _ ⟨m',rfl⟩;have HB:=ab (ES.i m');generalize ff m'=wN at *;clear ES EW E0 hT n0;clear l18 lk;have T2:=ab (T1.i.go HB.i);have F2:=ab (XF.i.go HB.i);have R2:=ab (XR.i.go HB.i);have Y2:=ab (XY.i.go HB.i);have FR2:=ab (FR.i.O HB.i FR.i.j);obtain⟨a1,_,_,_,a5,_,_⟩:=T2.i.w.Wm HJL.i;rw[HAT.i]at a1
    replace a1:wN.b ⟨g,j*42,none⟩=some (.e false):=a1
    have c17:wN.b ⟨q,17,none⟩=some (.b .a n'):=by rw[T2.i.w.K.2.1,T2.i.r.Pf.t,HNP.i]
    have g17:=T2.i.w.K.2.2.2.1 17;obtain⟨n1,hn1⟩:=cB (n'+1);have e5:(n':Int)+1=(n1:Int):=by omega
    have hnb:=T2.i.Z.len;have hnl:=HNP.i;have i5:=jS (n1:Int) (by omega);have HN1:=ab hn1;have F3:=ab (F2.i.dN ⟨q,17,none⟩ (.b .a n1) (by have:=HLT.i;show q≠W.a.j;omega));have lf:=kK F3.i;have SL:=ab (T2.i.w.sl.dN ⟨q,17,none⟩ (.b .a n1) T2.i.w.ne);have thj:=SL.i.M (j*42) 42 (by rw[uX];have:=dw 42 (show j+1<=s'.a from HJL.i);omega);have YX:=ab (show q≠W.a.j+1/\g≠W.a.j+1/\g≠w2.a.j/\w2.a.j≠W.a.j+1/\q≠w2.a.j from⟨by have:=HLT.i;omega,by have:=HLT.i;omega,by have:=HLT.i;have:=HW3.i;omega,by have:=HW3.i;omega,by have:=HLT.i;have:=HW3.i;omega⟩);have Y3:=ab ((Y2.i.dN ⟨q,17,none⟩ (.b .a n1) YX.i.2.2.2.2).gG (o:=j*42) (x:=(Sl.mk true f).ay) (jr YX.i.2.2.1));have R3:=ab ((R2.i.dN ⟨q,17,none⟩ (.b .a n1) YX.i.1).gG (o:=j*42) (x:=(Sl.mk true f).ay) (jr YX.i.2.1));have ly:=kK Y3.i;have yE:=R3.i.M 0 41 (aX (Fw.G _).symm);clear a5 hn1 hnb hnl;go_wp2;refine aN (kFw.aqv rfl _ rfl (R3.i.put x0.ay (by rw[Fw.G,Fw.G])) (Fw.G _)) rfl ?_;have hnl:=HNP.i;have hhs:=HS6.i;have hbd:=HBD.i;have hpf:DF dU l f=ins lI f tl:=HPF.i;have hcu:=WC HF1.i;have e2:=K9 s' j f HJL.i HAT.i;have hel:(ig (s'.set j (some f))).a=n1:=by rw[e2.t,bC,T2.i.r.Pf.t,HN1.i,hnl]
    have hR:=T2.i.r.put T2.i.Z HD.i (by omega) (ins lI f tl) (by rw[hcu];exact Bl _ _);rw[<-HJ.i]at hR;have hT1:dK (wN.F ⟨q,17,none⟩ (.b .a n1)) q (Tk.mk key dU (ig (s'.set j (some f))).a (some ⟨g,0,none⟩) s'.a s'.a).ay:=by
     have:=T2.i.w.h.eF 17 (.b .a n1);rw[Tk.Qw]at this;rw[hel];exact this
    have hT2:dK (gT (wN.F ⟨q,17,none⟩ (.b .a n1)) g (j*42) (Sl.mk true f).ay) g (Wi (s'.set j (some f))):=by
     have h5:=SL.i.setCells (j*42) (Sl.mk true f).ay.a;rw[<-TQ s' j (some f) HJL.i];simpa[gT,slC,vV]using h5
    refine⟨by rw[HPC.i];rfl,⟨s'.set j (some f),⟨⟨?_,hT2.gG YX.i.2.1,T2.i.w.ne,by rw[aV];exact T2.i.w.sz⟩,?_,by rw[hpf,<-HPT.i];exact T2.i.Z.put h1 f⟩,by rw[aV,HS6.i]⟩,?_⟩
    ·rw[aV];exact(hT1.gG T2.i.w.ne).gG YX.i.1
    ·rw[aV,hpf];exact hR
    ·refine jC.grown ?_ (lS (dO _ (some (W.a.j+1))) 0 x0.ay) (fun k e=>.b (by injection e with e;omega))
     refine jC.grown ?_ (lS (dO _ (some g)) (j*42) (Sl.mk true f).ay) (fun k e=>.a (by injection e with e;simp[e]));exact FR2.i.set ⟨q,17,none⟩ (.b .a n1) (.a (by simp))
   ·have t1:decide ((n:Int)>=dU)=false:=by simp;omega
    have t2:decide (dU<=(n:Int))=false:=by simp;omega
    have aza:=ab hfull;clear hfull;go_wp2_with fail;go_quiet (fail);have T1:=ab (show Ke ((w3.alloc (.D (vV none).qU.ay 86)).drewN nq) q g key dU s l from⟨TA.i.w.drewN nq,TA.i.r,TA.i.Z⟩);have XF:=ab (Z3.i.b3.drewN nq);have XR:=ab (Z3.i.b2.drewN nq);have XY:=ab (Z3.i.b1.drewN nq);have FR:=ab (jC.jw (F:=[q,g]) (eH Z3.i.R nq));have HF1:=ab HO.i;generalize(w3.alloc (.D (vV none).qU.ay 86)).drewN nq=wA at T1 XF XR XY FR ⊢;clear f17 f16;go_wp2_with fail;obtain⟨d,hd,hat⟩:=T1.i.Vr f.key;rw[HF1.i]at hat;have hsz1:=T1.i.w.sz;obtain⟨j,hj⟩:=cB ((hmK key s.a f.key+d)%s.a);have hjl:j<s.a:=by rw[hj];exact fH _ (by omega)
    have CF:=ab (fun(w:ak) (T:ET w q g key dU s)=>BH T f.key hkn d hd);rw[<-hj]at CF hat;have HD:=ab hd;have HJ:=ab hj;have HAT:=ab hat;obtain⟨N,hN⟩:=cB s.a;have HN:=ab hN;have hji:(j:Int)<N:=by omega
    have HJL:=ab hjl;clear hd hj hat hN hjl hsz1;obtain⟨T,ff,n0,E0,es,ew⟩:=xC (wA);have hT:Nonempty T:=⟨n0⟩
    have ES:=ab es;have EW:=ab ew;have l18:∀m,(ff m).b ⟨q,18,none⟩=some (.a (some ⟨g,0,none⟩) N N):=fun m=>by rw[HN.i];exact(T1.i.w.go (es m)).K.1
    have lk:=fun m=>oP (XF.i.go (es m))
    have CG2:=ab (fun m=>CF.i _ (T1.i.w.go (es m)));clear es ew;refine nL ff (by kernel_rfl) (by kernel_rfl) n0 E0 ?_
    repeat(go_big_quiet_step ((first|(go_at_call 129;(with_reducible refine(CG2.i _).g ?_);rintro e w2 ⟨rfl,hb⟩;exact⟨rfl,EW.i _ ((ES.i _).trans (hb.g (ES.i _).j))⟩))))
    refine gK ?_;rintro _ ⟨m',rfl⟩;have HB:=ab (ES.i m');generalize ff m'=wN at *;clear ES EW E0 hT n0;clear l18 lk;have T2:=ab (T1.i.go HB.i);have F2:=ab (XF.i.go HB.i);have R2:=ab (XR.i.go HB.i);have Y2:=ab (XY.i.go HB.i);have FR2:=ab (FR.i.O HB.i FR.i.j);obtain⟨a1,_,_,_,a5,_,_⟩:=T2.i.w.Wm HJL.i;rw[HAT.i]at a1
    replace a1:wN.b ⟨g,j*42,none⟩=some (.e false):=a1
    have c17:=(HF.i _ T2.i).1;have g17:=T2.i.w.K.2.2.2.1 17;obtain⟨n1,hn1⟩:=cB (n+1);have e5:(n:Int)+1=(n1:Int):=by omega
    have hnb:=T2.i.Z.len;have hnl:=HNL.i;have i5:=jS (n1:Int) (by omega);have HN1:=ab hn1;have F3:=ab (F2.i.dN ⟨q,17,none⟩ (.b .a n1) (by have:=HLT.i;show q≠W.a.j;omega));have lf:=kK F3.i;have SL:=ab (T2.i.w.sl.dN ⟨q,17,none⟩ (.b .a n1) T2.i.w.ne);have thj:=SL.i.M (j*42) 42 (by rw[uX];have:=dw 42 (show j+1<=s.a from HJL.i);omega);have YX:=ab (show q≠W.a.j+1/\g≠W.a.j+1/\g≠w2.a.j/\w2.a.j≠W.a.j+1/\q≠w2.a.j from⟨by have:=HLT.i;omega,by have:=HLT.i;omega,by have:=HLT.i;have:=HW3.i;omega,by have:=HW3.i;omega,by have:=HLT.i;have:=HW3.i;omega⟩);have Y3:=ab ((Y2.i.dN ⟨q,17,none⟩ (.b .a n1) YX.i.2.2.2.2).gG (o:=j*42) (x:=(Sl.mk true f).ay) (jr YX.i.2.2.1));have R3:=ab ((R2.i.dN ⟨q,17,none⟩ (.b .a n1) YX.i.1).gG (o:=j*42) (x:=(Sl.mk true f).ay) (jr YX.i.2.1));have ly:=kK Y3.i;have yE:=R3.i.M 0 41 (aX (Fw.G _).symm);clear a5 hn1 hnb hnl;go_wp2;refine aN (kFw.aqv rfl _ rfl (R3.i.put kD.ay rfl) (Fw.G _)) rfl ?_;have hnl:=HNL.i;have hfu:=aza.i;have hrl:¬dU<=(l.a:Int):=by omega
    have hpf:DF dU l f=ins lI f l:=by unfold DF;rw[if_pos JA.i.symm,if_neg (by rw[HO.i];simp),if_neg hrl]
    have hcu:=WC HO.i;have e2:=K9 s j f HJL.i HAT.i;have hel:(ig (s.set j (some f))).a=n1:=by rw[e2.t,bC,T2.i.r.Pf.t,HN1.i,hnl]
    have hR:=T2.i.r.put T2.i.Z HD.i (by omega) (ins lI f l) (by rw[hcu];exact Bl _ _);rw[<-HJ.i]at hR;have hT1:dK (wN.F ⟨q,17,none⟩ (.b .a n1)) q (Tk.mk key dU (ig (s.set j (some f))).a (some ⟨g,0,none⟩) s.a s.a).ay:=by
     have:=T2.i.w.h.eF 17 (.b .a n1);rw[Tk.Qw]at this;rw[hel];exact this
    have hT2:dK (gT (wN.F ⟨q,17,none⟩ (.b .a n1)) g (j*42) (Sl.mk true f).ay) g (Wi (s.set j (some f))):=by
     have h5:=SL.i.setCells (j*42) (Sl.mk true f).ay.a;rw[<-TQ s j (some f) HJL.i];simpa[gT,slC,vV]using h5
    refine⟨by unfold ajU;rw[if_pos JA.i.symm,HO.i,if_neg (by simp;omega)];rfl,⟨s.set j (some f),⟨⟨?_,hT2.gG YX.i.2.1,T2.i.w.ne,by rw[aV];exact T2.i.w.sz⟩,?_,T2.i.Z.put h1 f⟩,by rw[aV]⟩,?_⟩
    ·rw[aV];exact(hT1.gG T2.i.w.ne).gG YX.i.1
    ·rw[aV,hpf];exact hR
    ·refine jC.grown ?_ (lS (dO _ (some (W.a.j+1))) 0 kD.ay) (fun k e=>.b (by injection e with e;omega))
     refine jC.grown ?_ (lS (dO _ (some g)) (j*42) (Sl.mk true f).ay) (fun k e=>.a (by injection e with e;simp[e]));exact FR2.i.set ⟨q,17,none⟩ (.b .a n1) (.a (by simp))
end
section
attribute [local go_sem high] iY jH
theorem au0:ai8 190:=⟨fun c w=>by
 go_enter Tryz.func190,Tryz.ntmps190;go_wp2;go_ret;exact⟨rfl,rfl⟩,fun args w=>by kernel_rfl⟩
theorem am'(a:fC):qF a=(a.h || !nzB (a.b.a.f 4)):=by rw[JR];cases h:a.h<;>simp[qF,fC.mJ,h]
theorem KQ(a:fC)(w:ak):aP ah 110 #[.d a.ay] w (gD w (.e (qF a))):=by
 have HB:=ab ((aG w.a.j w).alloc (av _) (.D a.ay 27));have x0:=dK.new w a.ay 27;have C:=ab (ahl _ au0 _ 12 12 _ _ _ (by omega) (fU.tail (B:=w.a.j+1) (mF _) x0));have HS:=ab (am' a);obtain⟨z,hz⟩:=cB (nzB (a.b.a.f 4));rw[<-hz]at C HS;clear hz;cases h6:a.h
 ·rw[h6]at HS
  go_enter Tryz.func110,Tryz.ntmps110;go_wp2_with fail;refine C.i.g ?_;rintro e w' ⟨rfl,rfl⟩;cases z
  all_goals
   go_wp2;go_ret;exact⟨by rw[HS.i];rfl,HB.i⟩
 ·rw[h6]at HS
  go_enter Tryz.func110,Tryz.ntmps110;go_wp2;go_ret;exact⟨by rw[HS.i];rfl,HB.i⟩
def Jh(n a b:Int):Bool:=decide (a<=n)&&decide (n<=b)
theorem yh(n a b:Int)(w:ak):aP ah 109 #[.b .a n,.b .a a,.b .a b] w fun e w'=>e=.a (.e (Jh n a b))/\w=w':=by
 go_enter Tryz.func109,Tryz.ntmps109;by_cases h1:a<=n<;>by_cases h2:n<=b
 all_goals
  go_wp2;go_ret;exact⟨by simp[Jh,h1,h2],rfl⟩
theorem ajV(args:Array aB)(w:ak):(callFunc 204 args).I ah w = .Z (.enter 204 args) w:=by kernel_rfl
theorem agi(x:Vp)(a:fC)(p q:Int)(ba bp bq:Nat)(w:ak)(ha:dK w ba a.ay)(hp:dK w bp #[.b .a p])(hq:dK w bq #[.b .a q]):
 aP ah 204 #[.d x.ay,.c (some ⟨ba,0,none⟩),.c (some ⟨bp,0,none⟩),.c (some ⟨bq,0,none⟩)] w (gD w (.e (xW a p q x))):=by
 have HB:=ab (fun ob=>(aG w.a.j w).alloc (av _) ob);have na:=ha.lt;have np:=hp.lt;have nq:=hq.lt;obtain⟨a1,a2,a3,a4⟩:=ha.K;obtain⟨p1,p2,p3,p4⟩:=hp.K;obtain⟨q1,q2,q3,q4⟩:=hq.K;clear ha hp hq;go_enter Tryz.func204,Tryz.ntmps204;go_wp2
 all_goals
  go_ret;refine⟨?_,HB.i _⟩;clear HB;simp_all[xW]
def ahI(l:List Vp)(a:fC)(p q:Int):Int:=match yX l a p q with|some i=>(i:Nat)|none=>-1
theorem ajW(l:List Vp)(a:fC)(p q:Int)(ba bp bq:Nat)(A:Option aT)(n c:Nat)(w:ak)(hR:RdV w w.a.j A n l)(hn:n<=100000)(ha:dK w ba a.ay)(hp:dK w bp #[.b .a p])(hq:dK w bq #[.b .a q]):
 aP ah 203 #[.a A n c,.func (.func 204) #[] #[.c (some ⟨ba,0,none⟩),.c (some ⟨bp,0,none⟩),.c (some ⟨bq,0,none⟩)]] w (gD w (.b .a (ahI l a p q))):=by
 have hen:=ajV;have HR:=ab hR;have HN:=ab hR.1;have PR:=ab (fun x W (h:aL w.a.j w W)=>agi x a p q ba bp bq W (ha.go h) (hp.go h) (hq.go h));clear hR ha hp hq;go_enter Tryz.func203,Tryz.ntmps203;go_wp2;go_loopw [8] (fun s8 wr=>∃i:Nat,i<=n/\s8=.b .a i/\(∀k,k<i->xW a p q (l.c k oq)=false)/\aL w.a.j w wr) (fun s8 _=>n-(intOf s8).e)
 case atStart=>exact⟨0,by omega,rfl,fun k hk=>by omega,aG _ _⟩
 case round=>
  obtain⟨i,hin,rfl,hno,hb⟩:=hrel;have Fh:=ab hno;have HB:=ab hb;clear hno hb;by_cases hlt:i<n
  ·have hi:(i:Int)<n:=by omega
   obtain⟨b,o,rfl,hbb,hh,hcl⟩:=iJ.fI Vp.G oq ((HR.i.O HB.i).lF HB.i.j) hlt;obtain⟨x,hx⟩:=cB (l.c i oq);rw[<-hx]at hcl;have HX:=ab hx;have CP:=ab (PR.i x _ HB.i);clear hx hbb;cases hq:xW a p q x
   ·have HQ:=ab hq
    rw[hq]at CP;clear hq;go_wp2_with (go_at_call 204;(with_reducible refine CP.i.g ?_);rintro e w1 ⟨rfl,hb1⟩;clear hh hcl;have HB1:=ab hb1;clear hb1);go_roundw
    case rel=>exact⟨i+1,by omega,by go_num,fun k hk=>by
     by_cases hki:k=i
     ·rw[hki,<-HX.i];exact HQ.i
     ·exact Fh.i k (by omega),iX HB.i HB1.i⟩
    case measure=>simp[intOf]<;>omega
   ·have UG:=ab (show yX l a p q=some i from gV.2 ⟨by rw[HN.i];exact hlt,by
      have:=hq;rw[HX.i,au,aC (by rw[HN.i];exact hlt)]at this;exact this,fun j hj=>by
      have:=Fh.i j hj;rw[au,aC (by rw[HN.i];omega)]at this;simpa using this⟩)
    rw[hq]at CP;clear hq;go_wp2_with (go_at_call 204;(with_reducible refine CP.i.g ?_);rintro e w1 ⟨rfl,hb1⟩;clear hh hcl;have HB1:=ab hb1;clear hb1);go_ret;exact⟨by unfold ahI;rw[UG.i];rfl,iX HB.i HB1.i⟩
  ·obtain rfl:i=n:=by omega
   have UG:=ab (show yX l a p q=none from wC.2 fun x hx=>by
    obtain⟨j,hj,rfl⟩:=List.getElem_of_mem hx;have:=Fh.i j (by rw[<-HN.i];exact hj);rw[au,aC hj]at this;exact this)
   have hd:decide ((i:Int)<i)=false:=by simp
   go_wp2;go_ret;exact⟨by unfold ahI;rw[UG.i];rfl,HB.i⟩
def XB(l:List Vp)(a:fC)(p q:Int):Vp×Bool:=match yX l a p q with|some i=>(l.c i oq,true)|none=>(oq,false)
theorem ajX{l:List Vp}{a:fC}{p q:Int}{i:Nat}(h:yX l a p q=some i):i<l.a:=(gV.1 h).1
theorem Rm(x:Cn)(l:List Vp)(a:fC)(p q:Int)(w:ak)(hR:RdV w w.a.j x.qH x.iK l)(hn:x.iK<=100000):
 aP ah 135 #[.d x.ay,.d a.ay,.b .a p,.b .a q] w (gD w (.J #[.d (XB l a p q).1.ay,.e (XB l a p q).2])):=by
 have h0:=((((Bx.start w).new x.ay 29).new a.ay 27).new #[.b .a p] 3).new #[.b .a q] 3;have h1:=h0.new oq.ay 98;simp only[sU]at h1;have Z:=ab h1;have HR:=ab (h1.rdR hR);have HN:=ab hR.1;clear h0 h1 hR;go_enter Tryz.func135,Tryz.ntmps135;go_upto_region 1 with fail
 generalize(((((w.alloc (.D x.ay 29)).alloc (.D a.ay 27)).alloc (.D #[.b .a p] 3)).alloc (.D #[.b .a q] 3)).alloc (.D oq.ay 98))=w5 at Z HR ⊢;obtain⟨y1,y2,y3,y4⟩:=Z.i.Tq.b3.K;have CI:=ab (ajW l a p q _ _ _ x.qH x.iK x.qI w5 HR.i hn Z.i.b3 Z.i.b2 Z.i.b1);have LX:=ab (show∀r∈[(w.a.j+1+1+1,#[aI .a q]),(w.a.j+1+1,#[aI .a p]),(w.a.j+1,a.ay),(w.a.j,x.ay)],r.1≠w.a.j+1+1+1+1 from fun r hr=>by
  simp only[bg,fO,or_false]at hr;rcases hr with rfl|rfl|rfl|rfl<;>simp only[]<;>omega)
 have HP:=ab (show ahI l a p q=match yX l a p q with|some i=>(i:Nat)|none=>-1 from rfl);have HV:=ab (show XB l a p q=match yX l a p q with|some i=>(l.c i oq,true)|none=>(oq,false)from rfl);cases hf:yX l a p q with
 | none=>
   rw[hf]at HP HV;rw[HP.i]at CI;simp only at CI;clear hf;go_wp2_with (go_at_call 203;(with_reducible refine CI.i.g ?_);rintro e w6 ⟨rfl,hb⟩;have Z6:=ab (Z.i.go hb);have yE:=Z6.i.S.M 0 20 (aX (Vp.G oq).symm);clear hb);refine aN (kVp.qC rfl _ rfl (b:=w.a.j+1+1+1+1) (c:=oq.ay) (Z6.i.put LX.i oq.ay rfl).S (Vp.G _)) rfl ?_;rw[HV.i];exact⟨rfl,(Z6.i.put LX.i oq.ay rfl).R⟩
 | some i=>
   have hi:=ajX hf;rw[HN.i]at hi;rw[hf]at HP HV;rw[HP.i]at CI;simp only at CI;clear hf;have hi2:(i:Int)<x.iK:=by omega
   obtain⟨b,o,hA,hbb,hh,hcl⟩:=iJ.fI Vp.G oq HR.i hi;rw[hA]at HR CI;go_wp2_with (go_at_call 203;(with_reducible refine CI.i.g ?_);rintro e w6 ⟨rfl,hb⟩;have Z6:=ab (Z.i.go hb);have yE:=Z6.i.S.M 0 20 (aX (Vp.G oq).symm);have HR6:=ab (HR.i.go hb);clear hb;clear y1 y2 y3 y4 hh hcl;obtain⟨y1,y2,y3,y4⟩:=Z6.i.Tq.b3.K;obtain⟨b',o',hA',aKe,hh,hcl⟩:=iJ.fI Vp.G oq HR6.i hi;cases hA');refine aN (kVp.qC rfl _ rfl (b:=w.a.j+1+1+1+1) (c:=(l.c i oq).ay) (Z6.i.put LX.i (l.c i oq).ay (by rw[Vp.G,Vp.G])).S (Vp.G _)) rfl ?_;rw[HV.i];exact⟨rfl,(Z6.i.put LX.i (l.c i oq).ay (by rw[Vp.G,Vp.G])).R⟩
theorem aqw{l:List Vp}{a:fC}{p q:Int}:(XB l a p q).2=l.any (xW a p q):=by
 unfold XB yX;cases h:l.findIdx? (xW a p q)with
 | none=>
   simp only;symm;rw[qj];exact fun x hx=>by simpa using wC.1 h x hx
 | some i=>
   simp only;symm;obtain⟨h1,h2,_⟩:=gV.1 h;exact tq.2 ⟨_,eU h1,h2⟩
def WG(A:Option aT)(n c:Nat):Cn:=⟨A,n,c,0,0,bG 6 0,0,0,bG 6 0,mX,mX,0,0,0⟩
@[go_sem]theorem awp(W:ak)(A:Option aT)(n c:Nat):(uH 29 #[(0,.a A n c)]).I ah W = .Z (.d (WG A n c).ay) W:=
 Vw.bd W _ _ _ _ mW (atL W _ mW) (by
  unfold Ql Cn.ay;rw[oJ 0 0 _ _ _ _ rfl rfl (by simp)];simp[fE,WG])
theorem iJ.azb{α:Type}{f:α->Array aB}{s:Nat}(hs:∀x,(f x).j=s){w:ak}{B n:Nat}{A:Option aT}{l:List α}(h:iJ f s w B A n l){i:Nat}(hi:i<=n):iJ f s w B A i (l.d i):=by
 obtain⟨h1,h2,h3⟩:=h;refine⟨by simp;omega,⟨?_,fun hp=>?_⟩,fun a ha h0=>h3 a ha (by omega)⟩
 ·rw[akG f s hs,bK,h1,Nat.min_eq_left hi]
 ·obtain⟨a,ha,hb,hc⟩:=h2.2 (by omega)
  refine⟨a,ha,hb,fun j v hv=>hc j v ?_⟩;rw[<-iF i l,wJ];rw[List.getElem?_append_left (by
   rcases aY j ((l.d i).h fun x=>(f x).a).a with h|h
   ·exact h
   ·rw[aS h]at hv;cases hv)]
  exact hv
theorem ajY{x:Vp}{W:ak}{b:Nat}(h:dK W b x.ay):(rE (.c (some ⟨b,0,none⟩))).I ah W = .Z (.d x.h.ay) W:=by
 have hs:dY x.ay=20:=Vp.G x;rw[Mh W b 0 (of_eq_true (h.K.2.2.1 0 17 (by omega))),h.K.2.2.2 0 17 (by omega),Vp.Dc]
theorem Zf(l:List Vp)(n:Nat)(hl:l.a=n):(yL l=true↔n<=64/\∀i,i<n->DI l i=true):=by
 unfold yL;subst hl;simp
theorem ana(l:List Vp)(A:Option aT)(n c:Nat)(w:ak)(hR:RdV w w.a.j A n l)(hnc:n<=c)(hn:n<=100000):
 aP ah 108 #[.a A n c] w (gD w (.e (yL l))):=by
 have HR:=ab hR;have HN:=ab hR.1;have HS:=ab (Zf l n hR.1);clear hR;go_enter Tryz.func108,Tryz.ntmps108;by_cases h64:64<n
 ·have q:decide ((64:Int)<n)=true:=by simp;omega
  have HF:=ab (show yL l=false by cases h:yL l;rfl;have:=(HS.i.1 h).1;omega);go_wp2;go_ret;exact⟨by rw[HF.i];rfl,aG _ _⟩
 have q:decide ((64:Int)<n)=false:=by simp;omega
 go_wp2;go_loopw [12] (fun s12 wr=>∃i:Nat,i<=n/\s12=.b .a i/\(∀k,k<i->DI l k=true)/\aL w.a.j w wr) (fun s12 _=>n-(intOf s12).e)
 case atStart=>exact⟨0,by omega,rfl,fun k hk=>by omega,aG _ _⟩
 case round=>
  obtain⟨i,hin,rfl,hok,hb⟩:=hrel;have Fh:=ab hok;have HB:=ab hb;clear hok hb;by_cases hlt:i<n
  ·have hi:(i:Int)<n:=by omega
   have hic:(i:Int)<=c:=by omega
   obtain⟨b,o,hA,hbb,hh,hcl⟩:=iJ.fI Vp.G oq ((HR.i.O HB.i).lF HB.i.j) hlt;subst hA;obtain⟨x,hx⟩:=cB (l.c i oq);rw[<-hx]at hcl;have HX:=ab (show DI l i=(adf x && !(XB (l.d i) x.h x.aQ x.mR).2)by unfold DI;rw[<-hx,aqw]);clear hx;have Z1:=ab ((Bx.start wr).new x.ay 98);have HPC:=ab (HR.i.go HB.i);go_upto_region 6 with fail
   clear hh hcl;generalize wr.alloc (.D x.ay 98)=w2 at Z1 ⊢;obtain⟨y1,y2,y3,y4⟩:=Z1.i.S.K;have CS:=ab (KQ x.h w2);have ZG:=ab (fun w' (hb:aL w2.a.j w2 w')=>Z1.i.go hb);have HV:=ab (show adf x=(qF x.h&&(x.aQ==6||x.aQ==17)&&Jh x.mR 1 65535)from rfl);cases hv:adf x
   ·
    have ER:=ab (show yL l=false by
     cases h:yL l;rfl;have:=(HS.i.1 h).2 i hlt;rw[HX.i,hv]at this;simp at this)
    rw[hv]at HV;have HZ:=ab HV.i.symm;clear hv HV HX;cases h1:qF x.h
    ·rw[h1]at CS
     go_upto_if 36 with(first|(go_at_call 110;(with_reducible refine CS.i.g ?_);rintro e w3 ⟨rfl,hb⟩;have Z3:=ab (ZG.i _ hb);clear y1 y2 y3 y4;obtain⟨y1,y2,y3,y4⟩:=Z3.i.S.K;clear hb)|(go_at_call 109;(with_reducible refine(yh _ _ _ _).g ?_);rintro e w4 ⟨rfl,rfl⟩))
     go_wp2;go_ret;exact⟨by rw[ER.i];rfl,iX HB.i Z3.i.R⟩
    ·rw[h1]at CS HZ
     have HZ2:=ab (show((x.aQ==6||x.aQ==17)&&Jh x.mR 1 65535)=false by have:=HZ.i;simpa using this);cases h2:(x.aQ==6)<;>cases h3:(x.aQ==17)<;>cases h4:Jh x.mR 1 65535
     all_goals
      rw[h2,h3,h4]at HZ2
      first
       | (exact absurd HZ2.i (by decide))
       | (have h2':(x.aQ != 6) = !(x.aQ==6):=rfl
          have h3':(x.aQ != 17) = !(x.aQ==17):=rfl;rw[h2]at h2';rw[h3]at h3';have CW:=ab (fun W=>yh x.mR 1 65535 W);rw[h4]at CW;go_wp2_with (first|(go_at_call 110;(with_reducible refine CS.i.g ?_);rintro e w3 ⟨rfl,hb⟩;have Z3:=ab (ZG.i _ hb);clear y1 y2 y3 y4;obtain⟨y1,y2,y3,y4⟩:=Z3.i.S.K;clear hb)|(go_at_call 109;(with_reducible refine(CW.i _).g ?_);rintro e w4 ⟨rfl,rfl⟩));go_ret;exact⟨by rw[ER.i];rfl,iX HB.i Z3.i.R⟩)
   ·rw[hv]at HV HX
    have HZ:=ab HV.i.symm;have HXX:=ab HX.i;clear hv HV HX;have h1:qF x.h=true:=by have:=HZ.i;simp at this;exact this.1.1
    have h4:Jh x.mR 1 65535=true:=by have:=HZ.i;simp at this;exact this.2
    have h23:(x.aQ==6||x.aQ==17)=true:=by have:=HZ.i;simp at this;simpa using this.1.2
    have CW:=ab (fun W=>yh x.mR 1 65535 W);rw[h4]at CW;rw[h1]at CS;clear h1 h4;cases h2:(x.aQ==6)<;>cases h3:(x.aQ==17)
    all_goals
     rw[h2,h3]at h23
     first
      | (exact absurd h23 (by decide))
      | skip
    all_goals
     clear h23;have h2':(x.aQ != 6) = !(x.aQ==6):=rfl;have h3':(x.aQ != 17) = !(x.aQ==17):=rfl;rw[h2]at h2';rw[h3]at h3';go_upto_region 8 with(first|(go_at_call 110;(with_reducible refine CS.i.g ?_);rintro e w3 ⟨rfl,hb⟩;have Z3:=ab (ZG.i _ hb);clear y1 y2 y3 y4;obtain⟨y1,y2,y3,y4⟩:=Z3.i.S.K;clear hb)|(go_at_call 109;(with_reducible refine(CW.i _).g ?_);rintro e w4 ⟨rfl,rfl⟩))
     clear h2 h3 h2' h3' y1 y2 y3 y4;have F4:=ab (fun(w':ak) (h:Bx [(wr.a.j,x.ay)] wr w')=>show w'.b ⟨wr.a.j,17,none⟩=some (.b .a x.aQ)/\w'.b ⟨wr.a.j,18,none⟩=some (.b .a x.mR)/\(rE (.c (some ⟨wr.a.j,0,none⟩))).I ah w' = .Z (.d x.h.ay) w' from⟨(h.S.K.1 17).trans (Vp.Bv _),(h.S.K.1 18).trans (Vp.JM _),ajY h.S⟩);have CV:=ab (fun(w':ak) (h:Bx [(wr.a.j,x.ay)] wr w')=>Rm (WG (some ⟨b,o,none⟩) i c) (l.d i) x.h x.aQ x.mR w' ((HPC.i.go h.R).azb Vp.G (by show i<=n;omega)) (by show i<=100000;omega));obtain⟨r,hr⟩:=cB (XB (l.d i) x.h x.aQ x.mR);rw[<-hr]at CV HXX;clear hr;refine wV (Bx.aa3 ([(wr.a.j,x.ay)]) wr) 14 15 13 5 50 98 oq.ay (by kernel_rfl) rfl rfl rfl rfl rfl (by kernel_rfl) (by kernel_rfl) (by kernel_rfl) (by kernel_rfl) (by kernel_rfl) rfl rfl rfl (fun a w=>by simp[go_sem]) (tJ rfl) Z3.i.drew ?_;apply rJ;refine⟨fun T f hT es ew=>?_,?_⟩
     ·have EW:=ab ew
      have ES:=ab es;have k1:=fun m=>(F4.i _ (ES.i m)).1
      have k2:=fun m=>(F4.i _ (ES.i m)).2.1
      have k3:=fun m=>(F4.i _ (ES.i m)).2.2
      have CF:=ab (fun m=>CV.i _ (ES.i m));clear es ew;simp only[mK,xZ,kX,bH,bP,jP,j4]
      repeat(go_big_quiet_step ((first|(go_at_call 135;(with_reducible refine(CF.i _).g ?_);rintro e w2 ⟨rfl,hb⟩;exact⟨rfl,EW.i _ _ hb⟩))))
      exact gK rfl
     ·intro w9 w8 zK _ hb
      have ZN:=ab ((zK.new oq.ay 98).go hb);have hyy:=ab zK;have hy:=zK.R.j;have hyv:=ab (fun p (hp:p∈[(wr.a.j,x.ay)])=>((zK.2 p hp).2.lt:p.1<w9.a.j));generalize w9.a.j=y at *;clear hb zK;have yE:=ZN.i.S.M 0 20 (aX (Vp.G oq).symm);refine⟨gT w8 y 0 r.1.ay,?_,?_⟩
      ·simp[go_sem,yE]
      simp only[Act.put,bI,bH,bP,jQ,kY];have Z5:=ab (ZN.i.put (fun p hp=>jL (hyv.i p hp)) r.1.ay (by rw[Vp.G,Vp.G]));clear yE ZN hyy hyv;generalize gT w8 y 0 r.1.ay=w9 at Z5 ⊢;go_step;go_step;go_step;cases hq:r.2
      ·rw[hq]at HXX
       have HYY:=ab (show DI l i=true by rw[HXX.i];rfl);go_wp2;go_roundw
       case rel=>exact⟨i+1,by omega,by go_num,fun k hk=>by
   by_cases hki:k=i
   ·rw[hki];exact HYY.i
   ·exact Fh.i k (by omega),iX HB.i Z5.i.R⟩
       case measure=>simp[intOf]<;>omega
      ·rw[hq]at HXX
       have ER:=ab (show yL l=false by
   cases h:yL l;rfl;have:=(HS.i.1 h).2 i hlt;rw[HXX.i]at this;simp at this)
       go_wp2;go_ret;exact⟨by rw[ER.i];rfl,iX HB.i Z5.i.R⟩
  ·obtain rfl:i=n:=by omega
   have hd:decide ((i:Int)<i)=false:=by simp
   have HF:=ab (HS.i.2 ⟨by omega,Fh.i⟩);go_wp2;go_ret;exact⟨by rw[HF.i];rfl,HB.i⟩
end
def BI(v:Vector Int 6)(k:Nat):Bool:=Jh (v.a.c k 0) 0 1000000 && !(k==0&&v.a.c k 0 != 0)
theorem WH(v:Vector Int 6):Bw v=true↔∀k,k<6->BI v k=true:=by
 unfold Bw BI Jh;simp only[bl,List.all_eq_true,eO,beq_iff_eq,decide_eq_true_eq,Bool.not_eq_true',Bool.and_eq_false_imp,bne_eq_false_iff_eq];constructor
 ·intro h k hk
  exact⟨h.2 k hk,fun e=>by rw[e];exact h.1⟩
 ·intro h
  exact⟨(h 0 (by omega)).2 rfl,fun k hk=>(h k hk).1⟩
def WI(v:aB):Sem aB:=bZ 24 v
@[go_sem ↓]theorem awr(v:aB):bZ 24 v=WI v:=rfl
@[go_sem]theorem aqx(W:ak)(b o:Nat)(h:vw W b o 6):(WI (.c (some ⟨b,o,none⟩))).I ah W = .Z (.d (dM W b o 6)) W:=
 jV W b o 6 _ _ Tryz.underlying24 rfl (by kernel_rfl) h
def au1(v i:aB):Sem aB:=Instr.index 24 v i
@[go_sem ↓]theorem aA5(v i:aB):Instr.index 24 v i=au1 v i:=rfl
theorem WJ(v:Vector Int 6)(i:Nat)(hi:i<6)(W:ak):(au1 (.d (J8 v)) (.b .a (i:Nat))).I ah W = .Z (.b .a (v.a.c i 0)) W:=by
 have hp:=pE (P:=ah) (e:=3) (by simp only[gQ]) (aag v i hi) W;obtain⟨i0,hi0,hs⟩:∃i0,ah.l 3=some i0/\i0.j=1:=by
  cases h:ah.l 3 with
  | none=>exact absurd h (by have:(ah.l 3).isSome=true:=by kernel_rfl
                             intro e;rw[e]at this;cases this)
  | some i0=>
    have h1:(ah.l 3).map (·.j)=some 1:=by kernel_rfl
    rw[h]at h1;exact⟨i0,rfl,by simpa using h1⟩
 have h1:(0:Int)<=(i:Int)/\(i:Int)<((6:Nat):Int):=by omega
 have hsz:=run_sizeOf (P:=ah) W hi0;have hc1:ah.a 3=1:=by simp[zX,hi0,hs]
 rw[hc1]at hsz;simp only[au1,Instr.index,asIntOf,jK,oh,gM,dJ Tryz.underlying24,h1,and_self,if_true,hsz,dS,gH,hp]
theorem anb{n:Int}{i:Nat}(h:n<0\/1000000<n\/(i=0/\n≠0)):(Jh n 0 1000000 && !(i==0&&n != 0))=false:=by
 rcases h with h|h|⟨rfl,h⟩
 ·have:Jh n 0 1000000=false:=by unfold Jh;rw[decide_eq_false (by omega)];rfl
  rw[this];rfl
 ·have:Jh n 0 1000000=false:=by unfold Jh;rw[decide_eq_false (p:=n<=1000000) (by omega)];simp
  rw[this];rfl
 ·simp[h]
theorem ahJ(x:Cn)(l:List Vp):xX x l=(Bw x.kF&&yL l&&(Jh x.j 2 65537&&lH x.j.e)&&Jh x.dU 1 4096&&Jh x.kC 1 100&&Jh x.X 1 100&&(!x.Ck.h&&qF x.Ck)&&x.h.h&&Jh x.afC 1000 1048576&&Jh x.keep 1 100&&Jh x.Vv 1 1000):=by
 unfold xX Jh;rfl
@[go_sem]theorem Cn.aG4(x:Cn):x.ay[17]? = some (.e x.Ck.h):=by simp[Cn.ay,aD,fC.G,gI,jJ];rfl
@[go_sem]theorem Cn.aG5(x:Cn):x.ay[34]? = some (.e x.h.h):=by simp[Cn.ay,aD,fC.G,gI,jJ];rfl
theorem XC(x:Cn)(l:List Vp)(w:ak)(hR:RdV w w.a.j x.qH x.iK l)(hnc:x.iK<=x.qI)(hn:x.iK<=100000):
 aP ah 44 #[.d x.ay] w (gD w (.e (xX x l))):=by
 have Z:=ab ((Bx.start w).new x.ay 29);have HR:=ab (Z.i.rdR hR);have HO:=ab (ahJ x l);have HI:=ab (WH x.kF);have RI:=ab (WJ x.kF);clear hR;go_enter Tryz.func44,Tryz.ntmps44;go_upto_region 1 with fail
 generalize w.alloc (.D x.ay 29)=w2 at *;obtain⟨y1,y2,y3,y4⟩:=Z.i.S.K;go_wp2;go_loop [7] (fun s7=>∃i:Nat,i<=6/\s7=.b .a i/\(∀k,k<i->BI x.kF k=true)) (fun s7=>6-(intOf s7).e)
 case atStart=>exact⟨0,by omega,rfl,fun k hk=>by omega⟩
 case round=>
  obtain⟨i,hi,rfl,hok⟩:=hrel;have Fh:=ab hok;clear hok;by_cases hlt:i<6
  ·have hi2:(i:Int)<6:=by omega
   have ri:=RI.i i hlt;obtain⟨n,hnn⟩:=cB (x.kF.a.c i 0);have HA:=ab (show BI x.kF i=(Jh n 0 1000000 && !(i==0&&n != 0))by unfold BI;rw[<-hnn]);rw[<-hnn]at ri;clear hnn;have NOI:=ab (show BI x.kF i=false->xX x l=false from fun h=>by
    have h2:Bw x.kF=false:=by
     cases hh:Bw x.kF;rfl;have:=HI.i.1 hh i hlt;rw[h]at this;cases this
    rw[HO.i,h2];rfl)
   clear y1 y2 y3 y4 HI RI HO HR;go_wp2
   all_goals
    first
    | (go_ret
       refine⟨?_,Z.i.R⟩;rw[NOI.i (HA.i.trans (anb ?_))]
       ·rfl
       ·by_cases g1:n<0
        ·exact .a g1
        ·by_cases g2:1000000<n
         ·exact .b (.a g2)
         ·refine .b (.b ⟨by omega,?_⟩)
          intro e;simp_all)
    | (go_round
       case rel=>exact⟨i+1,by omega,by go_num,fun k hk=>by
        by_cases hki:k=i
        ·rw[hki,HA.i];simp[Jh];simp_all
        ·exact Fh.i k (by omega)⟩
       case measure=>simp[intOf]<;>omega)
  ·obtain rfl:i=6:=by omega
   have HID:=ab (show Bw x.kF=true from HI.i.2 Fh.i);rw[HID.i,zZ]at HO;have VP:=ab (ana l x.qH x.iK x.qI w2 HR.i hnc hn);have ZG:=ab (fun w' (hb:aL w2.a.j w2 w')=>Z.i.go hb);have CW:=ab yh;have CS:=ab (fun W=>KQ x.Ck W);obtain⟨vl,hvl⟩:∃b,yL l=b:=⟨_,rfl⟩
   obtain⟨sf,hsf⟩:∃b,qF x.Ck=b:=⟨_,rfl⟩
   rw[hvl]at VP HO;rw[hsf]at CS HO;clear hvl hsf hi hlt HI RI Fh HID HR;cases hsz:Jh x.j 2 65537
   ·rw[hsz,Dl,Bool.and_false]at HO
    simp only[Dl]at HO;go_wp2_with (first|(go_at_call 108;(with_reducible refine VP.i.g ?_);rintro e w3 ⟨rfl,hb⟩;have Z3:=ab (ZG.i _ hb);clear y1 y2 y3 y4;obtain⟨y1,y2,y3,y4⟩:=Z3.i.S.K;clear hb)|(go_at_call 109;(with_reducible refine(CW.i _ _ _ _).g ?_);rintro e w4 ⟨rfl,rfl⟩))
    all_goals
     go_ret;exact⟨by rw[HO.i];rfl,Z3.i.R⟩
   ·have PR:=ab (show∀W,aP ah 81 #[.b .a x.j] W fun e W'=>e=.a (.e (lH x.j.e))/\W=W' from fun W=>by
     have h1:2<=x.j/\x.j<=65537:=by unfold Jh at hsz;simpa using hsz
     have:=Yd (W:=W) x.j.e (by omega)
     rwa [lG (by omega)]at this)
    obtain⟨pn,hpn⟩:∃b,lH x.j.e=b:=⟨_,rfl⟩
    rw[hsz,zZ]at HO;simp only[hpn]at HO PR;clear hpn;go_wp2_with (first|(go_at_call 108;(with_reducible refine VP.i.g ?_);rintro e w3 ⟨rfl,hb⟩;have Z3:=ab (ZG.i _ hb);clear y1 y2 y3 y4;obtain⟨y1,y2,y3,y4⟩:=Z3.i.S.K;clear hb)|(go_at_call 109;(with_reducible refine(CW.i _ _ _ _).g ?_);rintro e w4 ⟨rfl,rfl⟩)|(go_at_call 81;(with_reducible refine(PR.i _).g ?_);rintro e w5 ⟨rfl,rfl⟩)|(go_at_call 110;(with_reducible refine(CS.i _).g ?_);rintro e w6 ⟨rfl,hb⟩;have Z4:=ab (Z3.i.go hb);clear y1 y2 y3 y4;obtain⟨y1,y2,y3,y4⟩:=Z4.i.S.K;clear hb))
    all_goals
     go_ret;refine⟨?_,by first|exact Z4.i.R|exact Z3.i.R⟩;rw[HO.i];clear HO VP PR CW CS ZG y1 y2 y3 y4;simp_all
section
open Go.RowKit Go.Shelf
attribute [local go_sem] qo
variable {W W':ak} {q g:Nat} {key:Vector UInt8 16} {dU:Int} {s:List (Option Fw)} {l:List Fw}
def DL(now:Int)(kF:Vector Int 6)(l:List Fw):List Fw:=l.filter fun x=>DC x.xk x.seen now kF
def Gh(l:List Fw)(o:List Fw):List Fw:=o.foldl (fun l x=>yD l x.key) l
theorem Zg:∀(o l:List Fw),Gh l o=l.filter fun x=>!(o.any fun y=>tO y.key x)
 | [],l=>by show l=_;exact(wI.2 (fun _ _=>rfl)).symm
 | y::o,l=>by
   have h:Gh l (y::o)=Gh (yD l y.key) o:=rfl;rw[h,Zg o,yD,List.filter_filter];apply EM;intro x _;simp[List.any_cons,Bool.and_comm]
theorem abv{now:Int}{kF:Vector Int 6}{l o:List Fw}(hl:wo dU l)(ho:o.Perm (DL now kF l)):Gh l o=Ll now kF l:=by
 rw[Zg];unfold Ll;apply EM;intro x hx;congr 1;have hm:∀y,y∈o↔y∈l/\DC y.xk y.seen now kF=true:=fun y=>by rw[ho.mem_iff];unfold DL;exact mh
 cases hc:DC x.xk x.seen now kF with
 | true=>rw[tq];exact⟨x,(hm x).2 ⟨hx,hc⟩,by simp[tO]⟩
 | false=>
   rw[qj];intro y hy hk;obtain⟨h1,h2⟩:=(hm y).1 hy;have hk:x.key=y.key:=by simpa[tO]using hk
   have e1:=hl.Vr h1;have e2:=hl.Vr hx;rw[hk]at e2;rw[e1]at e2;injection e2 with e2
   rw[e2,hc]at h2;cases h2
theorem Ar{F:List Nat}{base n size:Nat}{e:bF}{v:aB}{xs:List aB}(h:W.c base e size v n xs)(hf:jC F W W')(hn:∀k,v.f=some k->k∉F):W'.c base e size v n xs:=by
 refine⟨h.1,?_⟩;rcases h.2 with h0|⟨g,cap,cur,hv,hb,hg,hr⟩
 ·exact .a h0
 ·exact .b ⟨g,cap,cur,hv,hb,by rw[hf.block g (bW.1 hg).1 (hn g (by rw[hv];rfl))];exact hg,hr⟩
theorem anc{W:ak}{b:Nat}{v:Vector Int 6}(h:dK W b (J8 v)):(WI (.c (some ⟨b,0,none⟩))).I ah W = .Z (.d (J8 v)) W:=by
 have hs:dY (J8 v)=6:=jJ v;rw[aqx W b 0 (of_eq_true (h.K.2.2.1 0 6 (by omega))),h.K.2.2.2 0 6 (by omega)];have:(J8 v).m 0 6=J8 v:=by have:=jJ v;rw[<-this];simp
 rw[bB,this]
def Zh(now:Int)(kF:Vector Int 6)(pre:List OkF):List Fw:=DL now kF (pre.map (·.1))
theorem adT(T:Ke W q g key dU s l)(now:Int)(kF:Vector Int 6):
 aP ah 75 #[.c (some ⟨q,0,none⟩),.b .a now,.d (J8 kF)] W fun e w'=>(∃A c,e=.a (.a A (DL now kF l).a c))/\(∃s',Ke w' q g key dU s' (Ll now kF l)/\s'.a=s.a)/\jC [q,g] W w':=by
 refine(mU (n:=8)).1 ?_;have hs:=T.w.sz;have hlt:=T.w.lt;obtain⟨i0,hi,hz0,hz1,hzb⟩:=afs;have HT:=ab T;clear T;refine qX Tryz.func75 rfl trivial ?_ rfl;have hfn:∀f,nG.fn f:=fun _=>trivial
 simp only[Tryz.ntmps75,dI,bC,gL,kN,kP,gy,gB,iN,gP,dF,gZ];gi_wp2_with (gi_at_call 132;refine(mU.2 (QA q _)).g ?_;rintro e w' ⟨rfl,rfl⟩);have hw1:(W.alloc (.D #[.b .a now] 3)).a.j=W.a.j+1:=by simp
 have hw2:((W.alloc (.D #[.b .a now] 3)).alloc (.D (J8 kF) 24)).a.j=W.a.j+1+1:=by simp
 have hw3:(((W.alloc (.D #[.b .a now] 3)).alloc (.D (J8 kF) 24)).alloc (.D #[.a none 0 0] 34)).a.j=W.a.j+1+1+1:=by simp
 have Z4:=ab (((((Bx.start W).new #[.b .a now] 3).new (J8 kF) 24).new #[.a none 0 0] 34).new #[.c (some ⟨q,0,none⟩)] 121);have bO:=(Boxed.new ((W.alloc (.D #[.b .a now] 3)).alloc (.D (J8 kF) 24)) 34 (.a none 0 0)).alloc (.D #[.c (some ⟨q,0,none⟩)] 121);rw[hw3,hw2,hw1]at Z4;rw[hw2]at bO;have hs4:((((W.alloc (.D #[.b .a now] 3)).alloc (.D (J8 kF) 24)).alloc (.D #[.a none 0 0] 34)).alloc (.D #[.c (some ⟨q,0,none⟩)] 121)).a.j=W.a.j+1+1+1+1:=by simp
 generalize(((W.alloc (.D #[.b .a now] 3)).alloc (.D (J8 kF) 24)).alloc (.D #[.a none 0 0] 34)).alloc (.D #[.c (some ⟨q,0,none⟩)] 121)=W4 at Z4 hs4 bO ⊢;clear hw1 hw2 hw3;refine yw rfl (by omega) (gf:=202) (lb:=#[.c (some ⟨W.a.j+1+1+1,0,none⟩)]) rfl trivial (fun args w=>rfl)
  (KO nG 7 trivial rfl (by omega) (W.a.j+1+1+1) W.a.j W4 (by omega) (by omega) (Z4.i.S.K.1 0) (HT.i.go Z4.i.R) hlt) (fun h k=>Below.trans h k) (vJ (by omega)) (aG _ _) (fun _=>rfl)
  (fun(pre:List OkF) X=>((∃v,Boxed X (W.a.j+1+1) 34 v/\X.c (W.a.j+1+1) 86 41 v (Zh now kF pre).a ((Zh now kF pre).h fun x=>x.ay.a)/\True)/\dK X W.a.j #[.b .a now]/\dK X (W.a.j+1) (J8 kF))/\aL W.a.j W X)
  (fun _ _ _=>False)
  (OwnFrom.and (OwnFrom.and (Own.from (holdsRow_own (W.a.j+1+1) (W.a.j+1+1) 34 86 41 (fun pre:List OkF=>(Zh now kF pre).a) (fun pre:List OkF=>(Zh now kF pre).h fun x=>x.ay.a) (fun _ _=>True)) _) (fun s X Y row hs hg hr=>⟨zm _ _ () X Y row hs.1 hg (fun r e=>(hr r e).2),zm _ _ () X Y row hs.2 hg (fun r e=>(hr r e).2)⟩)) (yJ (av _) (by omega)))
  (fun _ _ _ _ _ hs _ _=>hs)
  ⟨⟨⟨_,bO,fu _ _ _ _,trivial⟩,Z4.i.b3,Z4.i.b2⟩,Z4.i.R⟩
  (fun x a' X=>∃Bq,W.a.j+1+1<Bq/\dK X Bq x.1.ay/\a'={tmps:=#[.c (some ⟨q,0,none⟩),.b .a now,.d (J8 kF),undef,.c (some ⟨W.a.j,0,none⟩),.c (some ⟨W.a.j+1,0,none⟩),.a none 0 0,.c (some ⟨W.a.j+1+1,0,none⟩),.c (some ⟨Bq,0,none⟩),undef,undef,.c (some ⟨q,0,none⟩),.func (.func 202) #[] #[.c (some ⟨W.a.j+1+1+1,0,none⟩)],.d x.1.ay,undef,undef,undef,undef,undef,undef,undef,undef,undef,undef,undef,undef,undef,undef,undef,undef,undef,undef,undef,undef,undef,undef,undef,undef,undef],defers:=[]})
  (fun x a' _ X Y row hs hg hr=>by obtain⟨Bq,h1,h2,h3⟩:=hs;exact⟨Bq,h1,zm Bq x.1.ay () X Y row h2 hg (fun r e=>(hr r e).2),h3⟩)
  ?assign ?body ?done ?stop
 case assign=>
  rintro q' pre x X K ⟨⟨⟨v,hv,hrow,_⟩,h1,h2⟩,hB⟩ hK;gi_wp2;refine hK _ _ ((KeepsOthers.alloc _ _).from _) ((aG _ X).alloc hB.j _) ⟨⟨⟨v,hv.alloc _,hrow.alloc _,trivial⟩,h1.alloc _,h2.alloc _⟩,hB.alloc hB.j _⟩ ⟨X.a.j,hv.lt,dK.new X _ _,rfl⟩
 case body=>
  rintro q' pre x a' X hq ⟨r,hr⟩ ⟨⟨⟨v,hv,hrow,_⟩,h1,h2⟩,hB⟩ ⟨Bq,hBq,bX,rfl⟩ hlt';have HSL:=ab (show(Zh now kF pre).a<=100000 by
   have e1:(Zh now kF pre).a<=pre.a:=by unfold Zh DL;exact aO (oM _ _) (by simp)
   omega)
  have Dx:=ab (show Zh now kF (pre++[x])=if DC x.1.xk x.1.seen now kF then Zh now kF pre++[x.1]else Zh now kF pre by
   unfold Zh DL;rw[iU,List.filter_append];simp only[kL,pI,List.filter_cons,List.filter_nil];split<;>simp)
  obtain⟨st,hst⟩:=cB (DC x.1.xk x.1.seen now kF);have CS:=ab (aiy (s:=x.1.xk) (seen:=x.1.seen) (now:=now) (v:=kF) (W:=X));rw[<-hst]at CS Dx;have f38:=(bX.K.1 38).trans (Fw.afq x.1);have f39:=(bX.K.1 39).trans (Fw.afr x.1);have f0:=h1.K.1 0;have l6:=anc h2;have HB:=ab hB;have H1:=ab h1;have H2:=ab h2;have HX:=ab bX;have HV:=ab hv;have HR:=ab hrow;clear hst hB h1 h2 bX hv hrow;cases st
  ·gi_wp2_with (gi_at_call 150;refine(GQ q' (mU.2 CS.i)).g ?_;rintro e w1 ⟨rfl,hb⟩;have GU:=ab hb;clear hb)
   refine⟨EC (jC.jw (F:=[]) GU.i) (by intro k hk;cases hk),(GU.i.g HB.i.j),⟨⟨v,Boxed.alV HV.i GU.i HV.i.lt,?_,trivial⟩,H1.i.go GU.i,H2.i.go GU.i⟩,HB.i.trans (GU.i.g HB.i.j)⟩;rw[show Zh now kF (pre++[x])=Zh now kF pre from Dx.i];exact jA HR.i GU.i
  ·have hby:((Zh now kF pre).a+1)*i0.bytes<=140737488355328:=aO (gU (show(Zh now kF pre).a+1<=100002 by have:=HSL.i;omega) hzb) (by omega)
   have HN1:=ab (show x.1.ay.a.a=1*41 by simp[Fw.G]);have HNC:=ab (fun(W:ak) (j:Nat) (u:aB) (hu:x.1.ay.a[j]? = some u)=>show(W.alloc (.D x.1.ay 86)).b ((⟨W.a.j,0,none⟩:aT).add j)=some u by
    rw[Addr.add_mid,bB,mQ,<-Array.getElem?_toList];exact hu)
   have Fh:=ab (show∀u∈x.1.ay.a,u.h=true from fun u hu=>by have:=Fw.cO x.1;rw[Array.all_eq_true']at this;exact this u (by simpa using hu));gi_wp2_with (first
    | (gi_at_call 150;refine(GQ q' (mU.2 CS.i)).g ?_;rintro e w1 ⟨rfl,hb⟩;have GU:=ab hb;have HV1:=ab (Boxed.alV HV.i hb HV.i.lt);have HR1:=ab (jA HR.i hb);have l1:=kK (HX.i.go hb);have c1:=HV1.i.cell;clear hb l6 f0 f38 f39)
    | (gi_at_builtin;go_loud (refine wpListIn_append_own _ rfl _ _ 34 rfl (W.a.j+1+1) 86 i0 (.d kD.ay) 41 i0.bytes Tryz.underlying34 hi hz0 hz1 rfl (by simp[cK,Fw.G]) (by decide) _ _ _ rfl (HR1.i.alloc _) ⟨w1.a.j,0,none⟩ 1 1 x.1.ay.a rfl HN1.i (HNC.i w1) Fh.i (by have:=HSL.i;unfold maxLen;omega) hby (by have:=HV1.i.lt;simp;omega) ?_;intro v' w2 hown' hgrow _;obtain⟨g',cap',rfl⟩:=ownsRow_succ hown';obtain⟨hv1,hv2,hr2,hk2,hb2⟩:=HV1.i.appended (by decide) HR1.i (by have:=HV1.i.lt;omega) (av _) hown' hgrow;have hc1:=hv1.cell;have hf1:=hv1.frozen)))
   refine⟨(EC (jC.jw (F:=[]) GU.i) (by intro k hk;cases hk)).trans (hk2.from _),(GU.i.g HB.i.j).trans (hb2.g (by omega)),⟨⟨_,hv2,?_,trivial⟩,(H1.i.go GU.i).O hb2 (by omega),(H2.i.go GU.i).O hb2 (by omega)⟩,(HB.i.trans (GU.i.g HB.i.j)).trans (hb2.g (by omega))⟩;rw[show Zh now kF (pre++[x])=Zh now kF pre++[x.1]from Dx.i,aR,wJ];simpa using hr2
 case done=>
  rintro D ys X hD hS ⟨⟨⟨v,hv,hrow,_⟩,h1,h2⟩,hB⟩ hK;rename_i K0 KA TT;refine KA _ _ (wpIn_wide.2 ?_);have hO:(Zh now kF ys).Perm (DL now kF l):=by
   unfold Zh;rw[hS];exact HT.i.r.Pf.filter _
  obtain⟨o,ho⟩:=cB (Zh now kF ys);rw[<-ho]at hO hrow;obtain⟨A,c,rfl,_⟩:=jE hrow;have hB2:=hB;have T0:=ab (HT.i.go hB);have cV:=hv.cell;have HO:=ab hO;have HB:=ab hB;have HD:=ab hD;have HK:=ab hK;have HV:=ab hv;have RJ:=ab hrow;have HLO:=ab (show o.a<=100000 by
   have e1:=hO.t;have e2:(DL now kF l).a<=l.a:=oM _ _;have e3:=HT.i.r.Pf.t;have e4:=EA s;omega)
  obtain⟨m,hm⟩:=cB o.a;rw[<-hm]at RJ HV cV HLO;have HM:=ab hm;clear hO ho hD hK hv hrow hB hB2 h1 h2 hS hm KA K0 TT;have HOF:=ab (fun w2 (hf:jC [q,g] X w2)=>Ar RJ.i hf (fun b e=>by have:=(RJ.i.lt b e).1;simp;omega));have HVF:=ab (fun w2 (hf:jC [q,g] X w2)=>show Boxed w2 (W.a.j+1+1) 34 (.a A m c)from(hf.block _ HV.i.lt (by simp;omega)).trans HV.i);go_wp2_with fail;go_loopw [27] (fun v wr=>∃k:Nat,k<=m/\v=.b .a k/\(∃s',Ke wr q g key dU s' (Gh l (o.d k))/\s'.a=s.a)/\jC [q,g] X wr) (fun v _=>m-(intOf v).e)
  case atStart=>exact⟨0,je _,rfl,⟨s,T0.i,rfl⟩,jC.refl _ _⟩
  case round=>
   obtain⟨k,hk,rfl,⟨s',hT,hsl⟩,hfr⟩:=hrel;by_cases hlt3:k<m
   ·have hki:(k:Int)<m:=by omega
    have i1:=jS ((k:Int)+1) (by have:=HLO.i;omega);have hR:=iJ.iQ (f:=Fw.ay) HM.i.symm (HOF.i wr hfr);obtain⟨b,o0,rfl,hbl,a1,a2⟩:=hR.fI Fw.G kD hlt3;obtain⟨y,hy⟩:=cB (o.c k kD);rw[<-hy]at a2;have hcut:Gh l (o.d (k+1))=yD (Gh l (o.d k)) y.key:=by
     rw[dR (by rw[<-HM.i];exact hlt3)];unfold Gh;rw[yQ,hy,au,aC (by rw[<-HM.i];exact hlt3)];rfl
    have aD1:=ab hcut;have BY:=dK.new wr y.ay 86;have lk:=oP BY;have hba:=(aG wr.a.j wr).alloc (av _) (.D y.ay 86);have CD:=ab (WE (hT.go hba) y.key);have HFR:=ab (hfr.O hba hfr.j);have HSL:=ab hsl;clear hy hcut BY hba hT hfr hsl hR hbl;go_wp2_with (go_at_call 128;(with_reducible refine CD.i.g ?_);rintro e w2 ⟨rfl,⟨s2,T2,hs2⟩,F2⟩;have T3:=ab T2;have S3:=ab hs2;have F3:=ab F2;clear T2 hs2 F2 lk a1 a2);go_roundw
    case rel=>exact⟨k+1,by omega,by simp,⟨s2,by rw[aD1.i];exact T3.i,by rw[S3.i,HSL.i]⟩,HFR.i.pV F3.i⟩
    case measure=>simp[intOf];omega
   ·obtain rfl:k=m:=by omega
    have hd:decide ((k:Int)<k)=false:=by simp
    have hfull:Gh l (o.d k)=Ll now kF l:=by
     rw[aK (by rw[<-HM.i];exact av _)];exact abv HT.i.Z HO.i
    rw[hfull]at hT;have cV2:=(HVF.i wr hfr).cell;have HBX:=ab (HVF.i wr hfr);have HOW:=ab (HOF.i wr hfr);have SF:=ab (KL (DL now kF l) o dU (HT.i.Z.sub List.filter_sublist) HO.i (by have:=HLO.i;have:=HM.i;omega) wr (W.a.j+1+1) A c (by rw[<-HM.i];exact HOW.i));rw[<-HM.i]at SF;have HTT:=ab hT;have HSS:=ab hsl;have HFR:=ab hfr;have HLS:=ab (show k=(DL now kF l).a by rw[HM.i];exact HO.i.t);clear hT hsl hfr hfull cV;go_wp2_with (go_at_call 151;(with_reducible refine SF.i.g ?_);rintro e w2 ⟨rfl,ho2,hg2⟩;have HG2:=ab hg2;have cV3:=(HBX.i.kept hg2 (HBX.i.not_row (by decide) HOW.i)).cell;clear ho2 hg2 cV2);have HDB:some D≠(bD A k c).f:=fun e=>by
     rcases RJ.i.2 with⟨h0,_⟩|⟨g',cap,cur,hv,_,hg,_⟩
     ·rw[h0]at e;cases e
     ·rw[hv]at e
      have e2:D=g':=by simpa[jY]using e
      rw[<-e2,HK.i]at hg;cases hg
    have hDX:D<X.a.j:=(bW.1 HK.i).1;have hXW:=HB.i.j;have hfs:=HFR.i.j;have hDq:D≠q/\D≠g:=by have:=HD.i;omega
    have HDK:=ab (show w2.a[D]? = some (.deferred (some []))from(HG2.i.block D (by omega) HDB).trans ((HFR.i.block D hDX (by simp;omega)).trans HK.i));have hbx:∀b c',dK wr b c'->b<W.a.j->dK w2 b c':=fun b c' h hb=>by
     obtain⟨t,ht⟩:=h;exact⟨t,(HG2.i.block b (by omega) (fun e=>by have:=(RJ.i.lt b e.symm).1;omega)).trans ht⟩
    have hPB:=vJ (w:=W) (av _) w2 D;refine⟨by simp,.a ⟨_,_,rfl,uw HDK.i,?_⟩⟩;refine⟨_,results_tmp rfl _ _ _,⟨A,c,by rw[<-HLS.i];rfl⟩,⟨s',⟨⟨WA (hbx _ _ HTT.i.w.h hlt.1) HDK.i _,WA (hbx _ _ HTT.i.w.sl hlt.2) HDK.i _,HTT.i.w.ne,HTT.i.w.sz⟩,HTT.i.r,HTT.i.Z⟩,HSS.i⟩,?_⟩;have F1:jC [q,g] W wr:=(jC.jw HB.i).pV HFR.i;have F2:jC [q,g] W w2:=F1.grown HG2.i (fun b e=>.b (by have:=(RJ.i.lt b e).1;omega));exact F2.O (hPB _ _ (by have:=HD.i;omega) HDK.i rfl rfl) (av _)
 case stop=>
  rintro D c pre X _ _ h _;exact h.elim
end
theorem abw{g n:Nat}{q:List Nat}{ch ch':Nat->Nat->Nat}{m:Mg}{i:Nat}(h:ch i=ch' i):sF g n q ch m i=sF g n q ch' m i:=by
 unfold sF;rw[h]
theorem adU{n:Nat}{q:List Nat}{ch ch':Nat->Nat->Nat}(hq:q≠[])(h:∀i,i<q.a->ch i=ch' i):Ej n q ch=Ej n q ch':=by
 have:∀j,vS (lQ q) n q ch j=vS (lQ q) n q ch' j:=by
  intro j
  induction j with
  | zero=>rfl
  | succ j ih=>
    unfold vS;rw[ih,abw (h _ (fH _ (List.length_pos_iff.2 hq)))]
 unfold Ej;rw[this]
def ajZ(key:Vector UInt8 16)(n:Nat)(x:oU):Tr:=⟨x.q,0,(C8 key x.E n:Nat),(Ag key x.E n:Nat),0⟩
theorem pQ{α β:Type}(f:α->β)(l:List α)(i:Nat)(d:β)(e:α)(hi:i<l.a):(l.map f).c i d=f (l.c i e):=by
 rw[au,au,List.getElem?_map,aC hi];rfl
theorem aj0(key:Vector UInt8 16)(n:Nat)(r:List oU)(hr:r≠[])(h0:∀x∈r,0<x.q):
 FiL (lQ (r.map fun x=>x.q.e)) n (r.map fun x=>x.q.e) (r.map fun x=>C8 key x.E n) (r.map fun x=>Ag key x.E n) ⟨(r.map fun x=>x.q.e).map fun _=>0,dX n (-1),n⟩ (r.map (ajZ key n)):=by
 refine⟨by simp,by simp,fun i hi=>?_⟩;rw[bU]at hi;have hm:r.c i lg∈r:=by rw[au,aC hi];exact eU _
 have hx:=h0 _ hm;rw[pQ (ajZ key n) r i zf lg hi,pQ _ r i 0 lg hi,pQ _ r i 0 lg hi,pQ _ r i 0 lg hi];have hz:((r.map fun x=>x.q.e).map fun _=>0).c i 0=0:=by
  rw[pQ _ _ i 0 0 (by simpa using hi)]
 refine⟨?_,rfl,rfl,?_,?_,0,rfl,je _,fun t ht=>absurd ht (Nat.not_lt_zero _)⟩
 ·show(r.c i lg).q=_
  omega
 ·show(0:Int)=_
  rw[hz];rfl
 ·show((r.map fun x=>x.q.e).map fun _=>0).c i 0<_
  rw[hz];obtain⟨j,hj,e⟩:=C9 (q:=r.map fun x=>x.q.e) (by simpa using hr) (by
   intro y hy;obtain⟨x,hx2,rfl⟩:=iV.1 hy;have:=h0 x hx2;omega)
  rw[<-e];rw[bU]at hj;rw[pQ _ r j 0 lg hj];have hm2:r.c j lg∈r:=by rw[au,aC hj];exact eU _
  have:=h0 _ hm2;omega
def yj(l:List oU):List oU:=l.filter fun x=>decide (x.q≠0)
theorem agj{l:List oU}{k:Nat}{x:oU}(hx:x=l.c k lg)(hk:k<l.a):yj (l.d (k+1))=yj (l.d k)++(if x.q=0 then []else [x]):=by
 have e:l.d (k+1)=l.d k++[x]:=by rw[hx];exact(lN lg l k hk).symm
 rw[e];unfold yj;rw[List.filter_append];congr 1;by_cases h:x.q=0
 ·rw[if_pos h,List.filter_cons_of_neg (by simp[h])];rfl
 ·rw[if_neg h,List.filter_cons_of_pos (by simp[h])];rfl
theorem adV(key:Vector UInt8 16)(n:Nat)(l:List oU)(h:yj l≠[]):uj key n l=⟨(yj l).map (·.E),Ej n ((yj l).map fun x=>x.q.e) (He ((yj l).map fun x=>C8 key x.E n) ((yj l).map fun x=>Ag key x.E n) n)⟩:=by
 unfold uj;simp only;rw[if_neg (show¬(l.filter fun x=>decide (x.q≠0))=[]from h)];congr 1;refine adU (fun e=>h (List.map_eq_nil_iff.1 e)) fun i hi=>?_
 rw[bU]at hi;funext t;have hi2:i<(yj l).a:=hi;unfold chF He;rw[pQ (fun x=>C8 key x.E n) _ i 0 lg hi2,pQ (fun x=>Ag key x.E n) _ i 0 lg hi2];have e:((l.filter fun x=>decide (x.q≠0)).map (·.E)).c i []=((yj l).c i lg).E:=pQ _ _ i _ lg hi2;rw[e]
theorem Rn(key:Vector UInt8 16)(n:Nat)(l:List oU)(h:yj l=[]):uj key n l=⟨[],[]⟩:=by
 unfold uj;simp only;rw[if_pos (show(l.filter fun x=>decide (x.q≠0))=[]from h)]
def nmC(s:List UInt8):Array aB:=#[.g (bT s)]
theorem NW(s:List UInt8):(nmC s).j=1:=rfl
theorem ane:∃i:nI,ah.l 9=some i/\i.zero=some (.g {data:=#[]})/\i.j=1/\i.bytes<=400:=by
 cases h:ah.l 9 with
 | none=>exact absurd h (by have:(ah.l 9).isSome=true:=by kernel_rfl
                            intro e;rw[e]at this;cases this)
 | some i=>
   have h1:(ah.l 9).map (·.j)=some 1:=by kernel_rfl
   have h2:(ah.l 9).map (fun i=>decide (i.bytes<=400))=some true:=by kernel_rfl
   have h3:(ah.l 9).map (·.zero)=some (some (.g {data:=#[]})):=by kernel_rfl
   rw[h]at h1 h2 h3;simp at h1 h2 h3;exact⟨i,rfl,h3,h1,h2⟩
theorem ahK:aaN 69 9 nmC 1:=by
 obtain⟨i0,hi0,hz0,hz1,hzb⟩:=ane;exact⟨i0,_,lJ,hi0,hz0,hz1,rfl,by omega,by omega,NW,fun s=>by simp[nmC,cZ]⟩
theorem anf:∃i:nI,ah.l 155=some i/\i.zero=some (.d zf.ay)/\i.j=5/\i.bytes<=400:=by
 cases h:ah.l 155 with
 | none=>exact absurd h (by have:(ah.l 155).isSome=true:=by kernel_rfl
                            intro e;rw[e]at this;cases this)
 | some i=>
   have h1:(ah.l 155).map (·.j)=some 5:=by kernel_rfl
   have h2:(ah.l 155).map (fun i=>decide (i.bytes<=400))=some true:=by kernel_rfl
   have h3:(ah.l 155).map (·.zero)=some (some (.d zf.ay)):=by kernel_rfl
   rw[h]at h1 h2 h3;simp at h1 h2 h3;exact⟨i,rfl,h3,h1,h2⟩
theorem aqy:aaN 149 155 Tr.ay 5:=by
 obtain⟨i0,hi0,hz0,hz1,hzb⟩:=anf;exact⟨i0,_,Tryz.underlying149,hi0,hz0,hz1,Tr.G zf,by omega,by omega,Tr.G,Tr.cO⟩
def adW(n:Nat)(ps:Array (Nat×aB)):Sem aB:=bJ 69 n ps
@[go_sem ↓]theorem azf(n:Nat)(ps:Array (Nat×aB)):bJ 69 n ps=adW n ps:=rfl
@[go_sem]theorem au2(w:ak)(s:List UInt8):(adW 1 #[(0,.g (bT s))]).I ah w = .Z (.a (some ⟨w.a.j,0,none⟩) 1 1) (w.alloc (.D (nmC s) 9)):=by
 obtain⟨i0,hi0,hz0,hz1,hzb⟩:=ane;simp[adW,bJ,dJ lJ,zeroValue,sizeOf,typeInfo,hi0,hz0,hz1,fE,newRow,cK,afu,nmC]
def ar8(n:Nat)(ps:Array (Nat×aB)):Sem aB:=bJ 149 n ps
@[go_sem ↓]theorem azg(n:Nat)(ps:Array (Nat×aB)):bJ 149 n ps=ar8 n ps:=rfl
@[go_sem]theorem au3(w:ak)(x:Tr):(ar8 1 #[(0,.d x.ay)]).I ah w = .Z (.a (some ⟨w.a.j,0,none⟩) 1 1) (w.alloc (.D x.ay 155)):=by
 obtain⟨i0,hi0,hz0,hz1,hzb⟩:=anf;exact rP w _ _ i0 _ 5 Tryz.underlying149 hi0 hz0 hz1 (Tr.G _) (by omega) (by omega) _ (Tr.G x)
@[go_sem]theorem azh(W:ak)(uK offset skip:Int):(uH 155 #[(0,.b .a uK),(2,.b .a offset),(3,.b .a skip)]).I ah W = .Z (.d (Tr.mk uK 0 offset skip 0).ay) W:=
 kTr.bd W _ _ _ _ Du (aDJ W _ Du) (by
  show fE _ (#[aI .a 0,.b .a 0,.b .a 0,.b .a 0,.b .a 0] ++ #[]) [(0,.b .a uK),(2,.b .a offset),(3,.b .a skip)]=_;rw[oJ 0 0 _ _ _ _ rfl rfl (by simp),oJ 2 2 _ _ _ _ rfl rfl (by simp),oJ 3 3 _ _ _ _ rfl rfl (by simp)];simp[fE,Tr.ay])
theorem WK{α:Type}{f:α->Array aB}{sz:Nat}{e t:bF}{L:List (Nat×Array aB)}{w0 W:ak}{v:aB}{l ys:List α}(T:aaN t e f sz){ops:Array iZ}{rest:List iZ}{o:iZ}{a:Act}{Q:Exit->Act->ak->Prop}(hgd:o.guard=none)(s x:Operand)
 (ho:o.op=.call {callee:=.builtin .append,args:=#[s,x],argTypes:=#[t,t]}) (hs:a.eval s=v) (H:Rz f sz e L w0 W v l) {C:Nat} {A:Option aT} {m c:Nat} (hx:a.eval x=.a A m c) (hr:iJ f sz W C A m ys)
 (hlen:l.a+m<=1000000)
 (h:∀A' n' c' w',Rz f sz e L w0 w' (.a A' n' c') (l++ys)->W.d w' v.f->((bD A' n' c').f=v.f\/(bD A' n' c').f=some W.a.j)->wpList ah ops Q rest (a.put o.X (.a A' n' c')) w'):wpList ah ops Q (o::rest) a W:=by
 refine wpList_plain hgd fun K hK=>?_
 obtain⟨i,z,ht,hi,hz,h1,h2,h3,h4,h5,h6⟩:=T;have hm:=hr.1;refine Jy W s x t ho w0.a.j e i z sz i.bytes ht hi hz h1 rfl h2 h3 v l.a _ hs H.vB C A m c _ hx hr.2.1 (D6 f h6 ys) (by unfold maxLen;omega) (aO (gU hlen h4) (by omega)) H.R.j ?_;intro v1 w1 k1 k2 k3;rw[abU,<-hm,<-aR]at k1;have hk:=H.grown k2 k1 k3;obtain⟨A',c',rfl⟩:=hk.Cj;exact hK _ _ (h A' _ c' w1 hk k2 k3)
def Ji(v1 v2:aB):Prop:=∀g,v1.f=some g->v2.f≠some g
theorem Ji.symm{v1 v2:aB}(h:Ji v1 v2):Ji v2 v1:=fun g h1 h2=>h g h2 h1
theorem Ro{w w':ak}{base size n:Nat}{e:bF}{v1 v1' v2:aB}{xs:List aB}(h2:w.c base e size v2 n xs)(ha:Ji v1 v2)(hg:w.d w' v1.f)(hat:v1'.f=v1.f\/v1'.f=some w.a.j):
 w'.c base e size v2 n xs/\Ji v1' v2:=by
 refine⟨h2.kept hg ?_,fun g h1 hh=>?_⟩
 ·cases hv:v2.f with
  | none=>exact .a rfl
  | some g=>exact .b (fun e'=>ha g e'.symm hv)
 ·rcases hat with h|h
  ·exact ha g (h ▸ h1) hh
  ·rw[h]at h1
   injection h1 with h1
   have:=(h2.lt g hh).2;omega
theorem Rz.ang{α:Type}{f:α->Array aB}{sz:Nat}{e:bF}{L:List (Nat×Array aB)}{w0 W W':ak}{v v1 v1':aB}{l:List α}(h:Rz f sz e L w0 W v l)(ha:Ji v1 v)(hg:W.d W' v1.f)(hat:v1'.f=v1.f\/v1'.f=some W.a.j)
 (hb:aL w0.a.j w0 W') (hL:∀p∈L,dK W' p.1 p.2):Rz f sz e L w0 W' v l/\Ji v1' v:=
 ⟨⟨(Ro h.vB ha hg hat).1,hb,fun p hp=>⟨hL p hp,(h.G p hp).2⟩⟩,(Ro h.vB ha hg hat).2⟩
structure Tc where
 sJ:Option aT
 ru:Nat
 BJ:Nat
 qM:Option aT
 pX:Nat
 yc:Nat
def Tc.ay(x:Tc):Array aB:=#[.a x.sJ x.ru x.BJ,.a x.qM x.pX x.yc]
theorem Tc.G(x:Tc):x.ay.j=2:=by simp[Tc.ay]
theorem Tc.cO(x:Tc):x.ay.all (·.h)=true:=by simp[Tc.ay,cZ]
@[go_sem]theorem Tc.ED(x:Tc):x.ay[0]? = some (.a x.sJ x.ru x.BJ):=by simp[Tc.ay,aD]
@[go_sem]theorem Tc.yg(x:Tc):x.ay[1]? = some (.a x.qM x.pX x.yc):=by simp[Tc.ay,aD]
def Cr:Tc:=⟨none,0,0,none,0,0⟩
@[go_sem]theorem azi:bY #[bD none 0 0,bD none 0 0]=bY Cr.ay:=rfl
@[go_sem]theorem au5:eB #[bD none 0 0,bD none 0 0] 72=eB Cr.ay 72:=rfl
theorem kTc:oO 72 2 Cr.ay:=⟨⟨_,EO,rfl⟩,by kernel_rfl,by kernel_rfl,Tc.G _⟩
@[go_sem ↓]theorem aKi(v:aB):bZ 72 v=xI 72 v:=rfl
@[go_sem ↓]theorem aKj(v x:aB):eD 72 v x=yU 72 v x:=rfl
@[go_sem]theorem aG7(W:ak)(b o:Nat)(x:Tc)(h:W.M b o 2):(yU 72 (.c (some ⟨b,o,none⟩)) (.d x.ay)).I ah W = .Z () (gT W b o x.ay):=kTc.st W b o x.ay h (Tc.G x) (Tc.cO x)
@[go_sem ↓]theorem aKk(ps:Array (Nat×aB)):fM 72 ps=uH 72 ps:=rfl
theorem aD2(w:ak)(fs:Array nS)(h:ah.underlying 72=some (.struct fs)):(iy (fun f=>Prod.mk f.Y <$> sizeOf f.type) fs:Sem (Array (Nat×Nat))).I ah w = .Z #[(0,1),(1,1)] w:=by
 have e:=EO;rw[h]at e;cases e;show _=_
 kernel_rfl
@[go_sem]theorem azj(W:ak)(sJ:Option aT)(ru:Nat)(BJ:Nat)(qM:Option aT)(pX:Nat)(yc:Nat):(uH 72 #[(0,.a sJ ru BJ),(1,.a qM pX yc)]).I ah W = .Z (.d (Tc.mk sJ ru BJ qM pX yc).ay) W:=kTc.bd W _ _ _ _ EO (aD2 W _ EO) (by
 refine uQ (Tc.G _) ?_ ?_
 ·simp[rF,cK]
 ·simp[qP,cK,Tc.ay]<;>(simp only[<-fV];rfl))
def TlR(W:ak)(A1:Option aT)(n1:Nat)(A2:Option aT)(n2:Nat)(t:Tl):Prop:=
 iJ nmC 1 W W.a.j A1 n1 t.h/\n2=t.uy.a/\((n2=0/\A2=none)\/∃g d,A2=some ⟨g,0,none⟩/\dK W g d/\SlA d t.uy)
def TlP(w:ak)(t:Tl)(e:lq)(w':ak):Prop:=
 ∃A1 n1 c1 A2 n2 c2,e=.a (.J #[.d #[.a A1 n1 c1,.a A2 n2 c2],.b .a 0])/\TlR w' A1 n1 A2 n2 t/\aL w.a.j w w'/\(∀a,A1=some a->w.a.j<=a.block/\a.block<w'.a.j)/\∀a,A2=some a->w.a.j<=a.block/\a.block<w'.a.j
structure BuS(key:Vector UInt8 16)(n k8:Nat)(w4:ak)(r:List oU)(AN:Option aT)(nN cN:Nat)(AT:Option aT)(nT cT:Nat)(W:ak):Prop where
 zn:Rz nmC 1 9 [(k8,(Tc.mk AN nN cN none 0 0).ay)] w4 W (.a AN nN cN) (r.map (·.E))
 zt:Rz Tr.ay 5 155 [(k8,(Tc.mk AN nN cN none 0 0).ay)] w4 W (.a AT nT cT) (r.map (ajZ key n))
 ap:Ji (.a AN nN cN) (.a AT nT cT)
theorem BuS.start(key:Vector UInt8 16)(n:Nat)(w4:ak):BuS key n w4.a.j w4 [] none 0 0 none 0 0 (w4.alloc (.D Cr.ay 72)):=
 ⟨(Rz.nil w4).new Cr.ay _,(Rz.nil w4).new Cr.ay _,fun g h=>by cases h⟩
theorem BuS.alloc{key:Vector UInt8 16}{n k8:Nat}{w4:ak}{r:List oU}{AN:Option aT}{nN cN:Nat}{AT:Option aT}{nT cT:Nat}{W:ak}(h:BuS key n k8 w4 r AN nN cN AT nT cT W)(o:Obj):BuS key n k8 w4 r AN nN cN AT nT cT (W.alloc o):=⟨h.zn.alloc o,h.zt.alloc o,h.ap⟩
theorem BuS.go{key:Vector UInt8 16}{n k8:Nat}{w4:ak}{r:List oU}{AN:Option aT}{nN cN:Nat}{AT:Option aT}{nT cT:Nat}{W W':ak}(h:BuS key n k8 w4 r AN nN cN AT nT cT W)(hb:aL W.a.j W W'):BuS key n k8 w4 r AN nN cN AT nT cT W':=⟨h.zn.go hb,h.zt.go hb,h.ap⟩
theorem iJ.azk{α:Type}{f:α->Array aB}{s:Nat}(x:α)(hs:∀x,(f x).j=s)(w:ak)(t:bF)(k:Nat)(hk:w.a.j=k):iJ f s (w.alloc (.D (f x) t)) (w.alloc (.D (f x) t)).a.j (some ⟨k,0,none⟩) 1 [x]:=by
 subst hk;exact iJ.one x hs w t
theorem adX{F:List Nat}{W W':ak}{base size n:Nat}{e:bF}{v:aB}{xs:List aB}(h:W.c base e size v n xs)(hf:jC F W W')(hn:∀g,v.f=some g->g∉F):W'.c base e size v n xs:=by
 refine⟨h.1,?_⟩;rcases h.2 with h0|⟨g,cap,cur,rfl,h2,h3,h4⟩
 ·exact .a h0
 ·exact .b ⟨g,cap,cur,rfl,h2,(hf.block g (bW.1 h3).1 (hn g rfl)).trans h3,h4⟩
theorem Tc.aD3(AN:Option aT)(nN cN:Nat)(A9:Option aT)(n9 c9:Nat):(Tc.mk AN nN cN none 0 0).ay.b 1 (.a A9 n9 c9)=(Tc.mk AN nN cN A9 n9 c9).ay:=by simp[Tc.ay]
theorem au6{W:ak}{base n c:Nat}{e:bF}{A:Option aT}{l:List Tr}(h:W.c base e 5 (.a A n c) n (l.h fun x=>x.ay.a))(hl:l.a=n)(hn:0<n):∃gt cur,A=some ⟨gt,0,none⟩/\dK W gt cur/\TrA cur l/\n<=c/\base<=gt:=by
 have hr:=iJ.iQ hl h;rcases h.2 with⟨hv,h0⟩|⟨g,cap,cur,hv,h2,h3,h4,h5,h6,h7⟩
 ·omega
 ·injection hv with e1 e2 e3
  subst e1 e3;refine⟨g,cur,rfl,⟨_,h3⟩,fun i hi j hj=>?_,h4,h2⟩;obtain⟨b,o,hA,_,hc⟩:=iJ.cell Tr.G zf hr (show i<n by omega);cases hA;have h8:=hc j hj;rw[bB]at h8;rw[<-h8];exact((show dK W g cur from⟨_,h3⟩).K.1 (i*5+j)).symm
theorem adY(key:Vector UInt8 16)(n:Nat)(r:List oU)(h:lH n=true):acu n r.a (He (r.map fun x=>C8 key x.E n) (r.map fun x=>Ag key x.E n) n):=by
 intro i hi;have h2:=wO h;unfold He;rw[pQ _ r i 0 lg hi,pQ _ r i 0 lg hi];obtain⟨s1,s2⟩:=UZ key (r.c i lg).E h2;exact⟨fun t=>OX (by omega),fun j hj=>UA h s1 s2 hj⟩
theorem Tc.azl(AN:Option aT)(nN cN:Nat)(A9:Option aT)(n9 c9:Nat):(Tc.mk AN nN cN none 0 0).ay.b 0 (.a A9 n9 c9)=(Tc.mk A9 n9 c9 none 0 0).ay:=by simp[Tc.ay]
theorem BuS.aD4{k8:Nat}{w4 w9:ak}{l:List (List UInt8)}{AN:Option aT}{nN cN:Nat}{A9:Option aT}{n9 c9:Nat}(hk:k8=w4.a.j)(h:Rz nmC 1 9 [(k8,(Tc.mk AN nN cN none 0 0).ay)] w4 w9 (.a A9 n9 c9) l):
 Rz nmC 1 9 [(k8,(Tc.mk A9 n9 c9 none 0 0).ay)] w4 (w9.F ⟨k8,0,none⟩ (.a A9 n9 c9)) (.a A9 n9 c9) l:=by
 have:=h.amj (aX hk.symm) (fun p hp=>by cases hp) 0 (.a A9 n9 c9);rw[Tc.azl]at this;exact this
theorem BuS.aD5{k8:Nat}{w4 w9:ak}{l:List Tr}{AN:Option aT}{nN cN:Nat}{AT:Option aT}{nT cT:Nat}(hk:k8=w4.a.j)(h:Rz Tr.ay 5 155 [(k8,(Tc.mk AN nN cN none 0 0).ay)] w4 w9 (.a AT nT cT) l)(A9:Option aT)(n9 c9:Nat):
 Rz Tr.ay 5 155 [(k8,(Tc.mk A9 n9 c9 none 0 0).ay)] w4 (w9.F ⟨k8,0,none⟩ (.a A9 n9 c9)) (.a AT nT cT) l:=by
 have:=h.amj (aX hk.symm) (fun p hp=>by cases hp) 0 (.a A9 n9 c9);rw[Tc.azl]at this;exact this
theorem adZ(key:Vector UInt8 16)(n:Nat)(hp:lH n=true)(hn:n<=65537)(l:List oU)(hk:aqk l)(hnm:∀x∈l,x.E.a<=1000000)(A:Option aT)(m c:Nat)(w:ak)(hR:iJ oU.ay 2 w w.a.j A m l):
 aP ah 27 #[.d (jd key),.b .a n,.a A m c] w (TlP w (uj key n l)):=by
 have hl:=hR.1;have hm:m<=1024:=by have:=hk.2.2;omega
 have Z0:=ab (((Bx.start w).new (jd key) 22).new Cr.ay 72);have hs1:(w.alloc (.D (jd key) 22)).a.j=w.a.j+1:=by simp
 rw[hs1]at Z0;obtain⟨k1,hk1⟩:=cB (w.a.j+1);have SO:=ab (fun(W:ak) (h:iJ oU.ay 2 W W.a.j A m l)=>abq l hk.1 A m c W h (by omega));have MA:=ab (fun(W:ak) (A':Option aT) (c':Nat) (h:iJ oU.ay 2 W W.a.j A' m l)=>ajL l hk A' m c' W h);have PR:=ab (fun(W:ak)=>Yd (W:=W) n hn);rw[hp]at PR;have R0:=ab ((hR.up (.D (jd key) 22)).up (.D Cr.ay 72));have t1:decide ((n:Int)>65537)=false:=by simp;omega
 have t2:decide ((65537:Int)<n)=false:=by simp;omega
 have t3:decide (65537<n)=false:=by simp;omega
 have HK:=ab hk;have HNM:=ab hnm;have HP:=ab hp;have HL:=ab hl;clear hk hnm hp hl hR hs1;rw[<-hk1]at Z0;have HK1:=ab hk1;go_enter Tryz.func27,Tryz.ntmps27;go_upto_region 1 with fail
 rw[<-HK1.i];generalize(w.alloc (.D (jd key) 22)).alloc (.D Cr.ay 72)=w1 at Z0 R0 ⊢;clear hk1;go_upto_region 4 with(first|(go_at_call 80;(with_reducible refine(SO.i _ R0.i).g ?_);rintro e w2 ⟨A2,c2,rfl,hr2,hb2⟩;have R2:=ab hr2;have Z2:=ab (Z0.i.go hb2);clear hr2 hb2)|(go_at_call 81;(with_reducible refine(PR.i _).g ?_);rintro e w3 ⟨rfl,rfl⟩)|(go_at_call 82;(with_reducible refine(MA.i _ A2 c2 R2.i).g ?_);rintro e w4 ⟨rfl,hb4⟩;have R4:=ab (R2.i.go hb4);have Z4:=ab (Z2.i.go hb4);clear hb4))
 obtain⟨k8,hk8⟩:=cB w4.a.j;have BS:=ab (BuS.start key n w4);rw[<-hk8]at BS;have HK8:=ab hk8;go_upto_region 6 with fail
 rw[<-HK8.i];generalize w4.alloc (.D Cr.ay 72)=w5 at BS ⊢;clear hk8;go_wp2_with fail;go_loopw [31,9] (fun i v wr=>∃(k:Nat)(AN:Option aT)(nN cN:Nat)(AT:Option aT) (nT cT:Nat),k<=m/\i=.b .a k/\v=.a AT nT cT/\BuS key n k8 w4 (yj (l.d k)) AN nN cN AT nT cT wr)
  (fun i _ _=>m-(intOf i).e)
 case atStart=>exact⟨0,none,0,0,none,0,0,je _,rfl,rfl,BS.i⟩
 case round=>
  obtain⟨k,AN,nN,cN,AT,nT,cT,hkm,rfl,rfl,hbs⟩:=hrel;have B0:=ab hbs;clear hbs;by_cases hlt:k<m
  ·have hki:(k:Int)<m:=by omega
   have RW:=ab (R4.i.O B0.i.zn.R);obtain⟨b,o,hA,hbb,hh,hc⟩:=iJ.fI oU.AQ lg RW.i hlt;subst hA;obtain⟨x,hx⟩:=cB (l.c k lg);rw[<-hx]at hc;have hxm:x∈l:=by rw[hx,au,aC (by rw[HL.i];omega),jB];exact eU _
   have hq1:=(HK.i.2.1 x hxm).1;have HXN:=ab (HNM.i x hxm);have Dx:=ab (agj hx (show k<l.a by rw[HL.i];exact hlt));have B1:=ab (B0.i.alloc (.D x.ay 151));have X1:=ab (dK.new wr x.ay 151);have f0:∀i,(wr.alloc (.D x.ay 151)).b ⟨wr.a.j,i,none⟩=x.ay[i]?:=X1.i.K.1;have s0:=(f0 0).trans (oU.zu x);have s1:=(f0 1).trans (oU.aqc x);clear hx hbb hxm f0;by_cases hq:x.q=0
   ·have t1:decide (x.q>0)=false:=by simp[hq]
    have t2:decide (0<x.q)=false:=by simp[hq]
    have HQ:=ab hq;clear hq;go_wp2_with fail;go_roundw
    case rel=>
     have e:=Dx.i;rw[if_pos HQ.i,List.append_nil]at e;exact⟨k+1,_,_,_,_,_,_,by omega,by simp,rfl,by rw[e];exact B1.i⟩
    case measure=>simp[intOf];omega
   ·have t1:decide (x.q>0)=true:=by simp;omega
    have t2:decide (0<x.q)=true:=by simp;omega
    have HQ:=ab hq;clear hq;obtain⟨r,hr⟩:=cB (yj (l.d k));rw[<-hr]at B0 B1 Dx;have HR:=ab hr;have HRL:=ab (show r.a+1<=1000000 by
     rw[hr];have h1:=oM (fun x:oU=>decide (x.q≠0)) (l.d k);have h2:=List.length_take_le k l;have h3:(yj (l.d k)).a<=(l.d k).a:=h1;omega)
    clear hr;obtain⟨po,hpo⟩:=cB (C8 key x.E n);obtain⟨ps,hps⟩:=cB (Ag key x.E n);have PO:=ab (af6 key x.E n (wO HP.i) (by omega) HXN.i);rw[<-hpo,<-hps]at PO;have HTR:=ab (show ajZ key n x=Tr.mk x.q 0 (po:Nat) (ps:Nat) 0 by unfold ajZ;rw[hpo,hps]);clear hpo hps;have l1:=Wq.nC (Z4.i.b1.go B1.i.zn.R) (dL _);have HKX:=ab (show k8≠wr.a.j from fun e=>by have:=B0.i.zn.S.lt;omega);have HNX:=ab (show∀g,(bD AN nN cN).f=some g->g≠wr.a.j from fun g e=>by have:=(B0.i.zn.lt e).2;omega);have HTX:=ab (show∀g,(bD AT nT cT).f=some g->g≠wr.a.j from fun g e=>by have:=(B0.i.zt.lt e).2;omega);obtain⟨kx,hkx⟩:=cB wr.a.j;rw[<-hkx]at HKX HNX HTX X1;have aD7:=ab hkx;clear hkx;go_upto_region 10 with fail
    rw[<-aD7.i]at s0 s1 ⊢;generalize wr.alloc (.D x.ay 151)=w6 at s0 s1 l1 B1 X1 ⊢;go_wp2_with (first
     | (go_at_call 83;(with_reducible refine(PO.i _).g ?_);rintro e w7 ⟨rfl,hb7⟩;have B7:=ab (B1.i.go hb7);have X7:=ab (X1.i.go hb7);clear s0 s1 l1 hb7;have s0:=(X7.i.K.1 0).trans (oU.zu x);have s1:=(X7.i.K.1 1).trans (oU.aqc x);have s2:=(B7.i.zn.S.K.1 0).trans (Tc.ED _))
     | (refine WK ahK rfl (.a 47) (.a 50) rfl rfl (B7.i.alloc (.D (nmC x.E) 9)).zn rfl (iJ.one x.E NW w7 9) (by rw[bU];exact HRL.i) ?_;intro A9 n9 c9 w9 h9 g9 a9;have N9:=ab h9;have T9:=ab ((B7.i.alloc (.D (nmC x.E) 9)).zt.ang B7.i.ap g9 a9 h9.R (fun p hp=>(h9.G p hp).1));have X9:=ab ((X7.i.alloc (.D (nmC x.E) 9)).grown g9 (fun e=>HNX.i kx e.symm rfl));clear s0 s1 s2 h9 g9 a9;have s3:=N9.i.S.K.1 0;have s4:=N9.i.S.K.2.1 0;rw[Tc.ED]at s3;have N10:=ab (BuS.aD4 HK8.i N9.i);have T10:=ab (BuS.aD5 HK8.i T9.i.1 A9 n9 c9);have X10:=ab (X9.i.dN ⟨k8,0,none⟩ (.a A9 n9 c9) HKX.i);have s1:=(X10.i.K.1 1).trans (oU.aqc x))
     | (refine WK aqy rfl (.a 53) (.a 59) rfl rfl (T10.i.alloc (.D (Tr.mk x.q 0 (po:Nat) (ps:Nat) 0).ay 155)) rfl (iJ.azk (Tr.mk x.q 0 (po:Nat) (ps:Nat) 0) Tr.G (w9.F ⟨k8,0,none⟩ (.a A9 n9 c9)) 155 w9.a.j (by simp)) (by rw[bU];exact HRL.i) ?_;intro A11 n11 c11 w11 h11 g11 a11;have T11:=ab h11;have N11:=ab ((N10.i.alloc (.D (Tr.mk x.q 0 (po:Nat) (ps:Nat) 0).ay 155)).ang T9.i.2.symm g11 a11 h11.R (fun p hp=>(h11.G p hp).1));clear h11 g11 a11))
    go_roundw
    case rel=>
     have e:=Dx.i;rw[if_neg HQ.i]at e;refine⟨k+1,A9,n9,c9,A11,n11,c11,by omega,by simp,rfl,?_⟩;rw[e];refine⟨?_,?_,N11.i.2.symm⟩
     ·rw[iU];exact N11.i.1
     ·rw[iU,kL,pI,HTR.i];exact T11.i
    case measure=>simp[intOf];omega
  ·obtain rfl:k=m:=by omega
   have hd:decide ((k:Int)<k)=false:=by simp
   have HRW:yj (l.d k)=yj l:=by rw[aK (by rw[HL.i];omega)]
   rw[HRW]at B0;obtain⟨r,hr⟩:=cB (yj l);rw[<-hr]at B0;have hnT:=B0.i.zt.len;rw[bU]at hnT;have BX1:=ab (Z4.i.S.go B0.i.zn.R);have HKS:=ab (show w.a.j<=k1/\k1<w4.a.j/\w4.a.j=k8/\k8<wr.a.j from⟨by rw[HK1.i];omega,Z4.i.S.lt,HK8.i.symm,B0.i.zn.S.lt⟩);have TH1:=BX1.i.M 0 2 (aX (Tc.G _).symm);have HR:=ab hr;have HNB:=ab (show∀g,(bD AN nN cN).f=some g->w4.a.j<=g/\g≠k8 from fun g e=>⟨(B0.i.zn.lt e).1,fun e2=>by
    have:=(B0.i.zn.G _ (mg ..)).2;exact this (by rw[e,e2])⟩)
   by_cases h0:r=[]
   ·have z1:decide ((nT:Int)=0)=true:=by simp[hnT,h0]
    have z2:((nT:Int)==0)=true:=by simp[hnT,h0]
    have z3:decide (nT=0)=true:=by simp[hnT,h0]
    have z4:(nT==0)=true:=by simp[hnT,h0]
    have ld:=kTc.nC B0.i.zn.S (Tc.G _);have H0:=ab h0;clear hnT h0 hr HRW;obtain⟨X,hX⟩:=cB (Tc.mk AN nN cN none 0 0);rw[<-hX]at ld;have HX:=ab hX;clear hX;go_wp2_with fail;refine aN (kTc.qC rfl _ rfl (BX1.i.put X.ay (by rw[Tc.G,Tc.G])) (Tc.G _)) rfl ?_;have F:=jC.U0 (F:=[k1]) (lS (dO wr (some k1)) 0 X.ay) (fun g e=>.a (by injection e with e;simp[e]));refine⟨AN,nN,cN,none,0,0,by rw[HX.i];rfl,⟨?_,?_,?_⟩,?_,(fun a e=>by have h1:=(HNB.i a.block (by rw[e];rfl)).1;have h2:=Z4.i.R.j;have h3:=(B0.i.zn.lt (k:=a.block) (by rw[e];rfl)).2;have h4:=F.j;omega),fun a e=>by cases e⟩
    ·have:=adX B0.i.zn.vB F (fun g e hm=>by
      have h1:=(HNB.i g e).1;have h2:=HKS.i;simp at hm;omega)
     rw[Rn _ _ _ (by rw[<-HR.i,H0.i])];have h2:=B0.i.zn.len;rw[<-h2]at this;have h3:=iJ.iQ (by rw[h2]) this;rw[H0.i]at h3;exact h3
    ·rw[Rn _ _ _ (by rw[<-HR.i,H0.i])];rfl
    ·exact .a ⟨rfl,rfl⟩
    ·refine(iX Z4.i.R B0.i.zn.R).trans ?_
     exact F.qG (fun g hg=>by simp at hg;have:=HKS.i;omega) (aO Z4.i.R.j B0.i.zn.R.j)
   ·have hpos:0<r.a:=List.length_pos_iff.2 h0
    have hz:¬(nT:Int)=0:=by omega
    have z1:decide ((nT:Int)=0)=false:=by simpa using hz
    have z2:((nT:Int)==0)=false:=by simpa using hz
    have z3:decide (nT=0)=false:=by simp;omega
    have z4:(nT==0)=false:=by simp;omega
    obtain⟨gt,cur,hAT,hbt,htr,hcap,hgt⟩:=au6 (by have:=B0.i.zt.vB;rwa [bU,<-hnT]at this) (by rw[bU,hnT]) (by omega);subst hAT;have HGK:=ab (show gt≠k8 from fun e=>(B0.i.zt.G _ (mg ..)).2 (by rw[<-e];rfl));have HGN:=ab (show∀g,(bD AN nN cN).f=some g->g≠gt from fun g e e2=>B0.i.ap g e (by rw[e2];rfl));have HGT:=ab (show gt<wr.a.j/\w4.a.j<=gt from⟨hbt.lt,hgt⟩);have hn1:1<=n:=by have:=wO HP.i;omega
    have RE:=ab (aga n hn1 (by omega) wr.a.j 1 (-1) (wr.alloc (.D (sH [-1]) 3)) (dK.new wr _ _));have hq0:∀x∈r,0<x.q:=by
     intro x hx;rw[hr]at hx;obtain⟨h1,h2⟩:=mh.1 hx;have:=(HK.i.2.1 x h1).1;simp at h2;omega
    have hrl:r.a<=1024:=by rw[hr];have:(yj l).a<=l.a:=oM _ _;have:=HK.i.2.2;omega
    have hgr:lQ (r.map fun x=>x.q.e)<=100000000:=by
     obtain⟨i,hi,e⟩:=C9 (q:=r.map fun x=>x.q.e) (by simpa using h0) (by
      intro y hy;obtain⟨x,hx,rfl⟩:=iV.1 hy;have:=hq0 x hx;omega)
     rw[<-e];rw[bU]at hi;rw[pQ _ r i 0 lg hi];have hm2:r.c i lg∈yj l:=by rw[<-hr,au,aC hi];exact eU _
     have:=(HK.i.2.1 _ (mh.1 hm2).1).2;omega
    have FI:=ab (fun(W:ak) (sb:Nat) (d:Array aB) (hc:dK W gt cur) (hd:dK W sb d) (hne:gt≠sb) (hS:SlA d (dX n (-1)))=>
     af8 gt sb nT cT n n (lQ (r.map fun x=>x.q.e)) (r.map fun x=>x.q.e) (r.map fun x=>C8 key x.E n) (r.map fun x=>Ag key x.E n) cur d (r.map (ajZ key n)) W rfl hc hd hne (by rw[bU,hnT]) htr hS (aj0 key n r h0 hq0) (by omega) (by omega) hcap hn1 (by omega) (av _)
      (by intro y hy;obtain⟨x,hx,rfl⟩:=iV.1 hy;have:=hq0 x hx;omega) hgr
      (by intro i hi;rw[pQ _ r i 0 lg (by omega)];have:=alH key (r.c i lg).E (wO HP.i);omega)
      (by intro i hi;rw[pQ _ r i 0 lg (by omega)];have:=(UZ key (r.c i lg).E (wO HP.i)).2;omega)
      (by rw[hnT];exact adY key n r HP.i))
    have HFV:=ab (acS (n:=n) (q:=r.map fun x=>x.q.e) (ch:=He (r.map fun x=>C8 key x.E n) (r.map fun x=>Ag key x.E n) n) (by simpa using h0) (by intro y hy;obtain⟨x,hx,rfl⟩:=iV.1 hy;have:=hq0 x hx;omega) (by rw[bU];exact adY key n r HP.i)).1;have HT:=ab (show uj key n l=⟨r.map (·.E),Ej n (r.map fun x=>x.q.e) (He (r.map fun x=>C8 key x.E n) (r.map fun x=>Ag key x.E n) n)⟩by rw[adV key n l (by rw[<-hr];exact h0),<-hr]);generalize Ej n (r.map fun x=>x.q.e) (He (r.map fun x=>C8 key x.E n) (r.map fun x=>Ag key x.E n) n)=fv at FI HFV HT;have BT0:=ab hbt;have hw1:(wr.alloc (.D (sH [-1]) 3)).a.j=wr.a.j+1:=by simp
    have HW1:=ab hw1;clear hnT h0 hpos hz hbt htr hcap hgt hq0 hrl hgr hr HRW hw1;go_wp2_with (first
     | (go_at_call 84;go_loud ((with_reducible refine RE.i.g ?_);rintro e w2 ⟨g,d,hg1,rfl,hb2,hds,hsl,hbel⟩;have HG:=ab (show wr.a.j<g by rw[HW1.i]at hg1;omega);have K2:=ab ((B0.i.zn.S.alloc (.D (sH [-1]) 3)).go hbel);have X2:=ab ((BX1.i.alloc (.D (sH [-1]) 3)).go hbel);have T2:=ab ((BT0.i.alloc (.D (sH [-1]) 3)).go hbel);have F2:=ab (((jC.refl [k8,gt,k1] wr).alloc (.D (sH [-1]) 3)).O hbel (by rw[HW1.i];omega));have HSL:=ab hsl;have K3:=ab (show dK (w2.F ⟨k8,1,none⟩ (.a (some ⟨g,0,none⟩) n n)) k8 (Tc.mk AN nN cN (some ⟨g,0,none⟩) n n).ay by have:=K2.i.eF 1 (.a (some ⟨g,0,none⟩) n n);rwa [Tc.aD3]at this);have s1:=K2.i.K.1 1;rw[Tc.yg]at s1;have s2:=K2.i.K.2.1 1;have s3:=K3.i.K.1 1;rw[Tc.yg]at s3;have FX:=ab (FI.i (w2.F ⟨k8,1,none⟩ (.a (some ⟨g,0,none⟩) n n)) g d (T2.i.dN ⟨k8,1,none⟩ _ HGK.i.symm) (hb2.dN ⟨k8,1,none⟩ _ (by have:=HG.i;have:=HKS.i;show k8≠g;omega)) (by have:=HG.i;have:=HGT.i;omega) hsl);clear hg1 hb2 hds hsl hbel))
     | (go_at_call 85;(with_reducible refine FX.i.g ?_);rintro e w5 ⟨rfl,⟨d5,hd5,azm⟩,hfr⟩;have K5:=ab (hfr.box K3.i (by have:=HGK.i;have:=HG.i;have:=HKS.i;simp;omega));have X5:=ab (hfr.box (X2.i.dN ⟨k8,1,none⟩ (.a (some ⟨g,0,none⟩) n n) (by have:=HKS.i;show k8≠k1;omega)) (by have:=HG.i;have:=HGT.i;have:=HKS.i;simp;omega));have F5:=ab ((F2.i.set ⟨k8,1,none⟩ (.a (some ⟨g,0,none⟩) n n) (.a (by simp))).trans hfr (fun x hx=>by have:=HG.i;simp at hx⊢;omega));have D5:=ab hd5;have SD5:=ab azm;clear s1 s2 s3 hd5 azm hfr;have ld:=kTc.nC K5.i (Tc.G _);have th:=X5.i.M 0 2 (aX (Tc.G _).symm)))
    refine aN (kTc.qC rfl _ rfl (X5.i.put (Tc.mk AN nN cN (some ⟨g,0,none⟩) n n).ay (by rw[Tc.G,Tc.G])) (Tc.G _)) rfl ?_;have F:=F5.i.grown (lS (dO w5 (some k1)) 0 (Tc.mk AN nN cN (some ⟨g,0,none⟩) n n).ay) (fun j e=>.a (by injection e with e;simp[e]));refine⟨AN,nN,cN,some ⟨g,0,none⟩,n,n,rfl,⟨?_,by rw[HT.i];exact HFV.i.symm,.b ⟨g,d5,rfl,D5.i.gG (by have:=HG.i;have:=HKS.i;omega),by rw[HT.i];exact SD5.i⟩⟩,?_,(fun a e=>by have h1:=(HNB.i a.block (by rw[e];rfl)).1;have h2:=Z4.i.R.j;have h3:=(B0.i.zn.lt (k:=a.block) (by rw[e];rfl)).2;have h4:=F.j;omega),fun a e=>by injection e with e;subst e;have h1:=HG.i;have h2:=Z4.i.R.j;have h3:=B0.i.zn.R.j;have h4:=(D5.i.gG (b2:=k1) (o:=0) (x:=(Tc.mk AN nN cN (some ⟨g,0,none⟩) n n).ay) (by have:=HG.i;have:=HKS.i;omega)).lt;exact⟨by show _<=g;omega,h4⟩⟩
    ·have:=adX B0.i.zn.vB F (fun g e hm=>by
       have h1:=HNB.i g e;have h2:=HKS.i;have h3:=HGN.i g e;simp at hm;omega)
     rw[HT.i];have h2:=B0.i.zn.len;rw[<-h2]at this;exact iJ.iQ (by rw[h2]) this
    ·refine(iX Z4.i.R B0.i.zn.R).trans ?_
     exact F.qG (fun g hg=>by simp at hg;have:=HKS.i;have:=HGT.i;omega) (aO Z4.i.R.j B0.i.zn.R.j)
def ar':Option (List UInt8)->aB
 | none=>.J #[.g (bT []),.e false]
 | some s=>.J #[.g (bT s),.e true]
def azn(t:Tl):Prop:=∀j,j<t.uy.a->∃i,i<t.h.a/\t.uy.c j 0=(i:Int)
theorem agk(t:Tl)(ok:azn t)(h:Nat)(hh:h<18446744073709551616)(A1:Option aT)(n1 c1:Nat)(A2:Option aT)(n2 c2:Nat)(w:ak)(hT:TlR w A1 n1 A2 n2 t)(hn2:n2<=100000)(hn1:n1<=100000):
 aP ah 35 #[.d (Tc.mk A1 n1 c1 A2 n2 c2).ay,.b .u64 h] w (gD w (ar' (Gw t h))):=by
 obtain⟨hN,hs,hS⟩:=hT;have X0:=ab (dK.new w (Tc.mk A1 n1 c1 A2 n2 c2).ay 72);have B0:=ab ((aG w.a.j w).alloc (av _) (.D (Tc.mk A1 n1 c1 A2 n2 c2).ay 72));have N0:=ab (hN.up (.D (Tc.mk A1 n1 c1 A2 n2 c2).ay 72));have f0:=(X0.i.K.1 0).trans (Tc.ED _);have f1:=(X0.i.K.1 1).trans (Tc.yg _);by_cases h0:n2=0
 ·have z1:decide ((n2:Int)=0)=true:=by simp[h0]
  have z2:((n2:Int)==0)=true:=by simp[h0]
  have z3:decide (n2=0)=true:=by simp[h0]
  have z4:(n2==0)=true:=by simp[h0]
  have HP:=ab (show Gw t h=none by unfold Gw;rw[<-hs,if_pos h0]);clear h0 hs hS hN;go_enter Tryz.func35,Tryz.ntmps35;go_wp2;go_ret2;exact⟨by rw[HP.i];rfl,B0.i⟩
 ·have hz:¬(n2:Int)=0:=by omega
  have z1:decide ((n2:Int)=0)=false:=by simpa using hz
  have z2:((n2:Int)==0)=false:=by simpa using hz
  have z3:decide (n2=0)=false:=by simpa using h0
  have z4:(n2==0)=false:=by simpa using h0
  obtain⟨g,d,hA,hd,hsl⟩:∃g d,A2=some ⟨g,0,none⟩/\dK w g d/\SlA d t.uy:=by
   rcases hS with⟨e,_⟩|hS
   ·exact absurd e h0
   ·exact hS
  subst hA;obtain⟨j,hj⟩:=cB (h%n2);have hjl:j<n2:=by rw[hj];exact fH _ (by omega)
  have hji:(j:Int)<n2:=by omega
  obtain⟨i,hi,hv⟩:=ok j (by rw[<-hs];exact hjl);obtain⟨b,o,hA1,_,hc⟩:=iJ.cell NW [] N0.i (show i<n1 by rw[<-hN.1];exact hi);have hii:(i:Int)<n1:=by rw[<-hN.1];omega
  subst hA1;obtain⟨s,hsn⟩:=cB (t.h.c i []);have f3:=hc 0 (by omega);rw[<-hsn,Nat.add_zero,gH]at f3
  replace f3:(w.alloc (.D (Tc.mk (some ⟨b,o,none⟩) n1 c1 (some ⟨g,0,none⟩) n2 c2).ay 72)).b ⟨b,o+i,none⟩=some (.g (bT s)):=f3
  have f2:=(hd.alloc (.D (Tc.mk (some ⟨b,o,none⟩) n1 c1 (some ⟨g,0,none⟩) n2 c2).ay 72)).K.1 j;rw[hsl j (by rw[<-hs];exact hjl),hv]at f2;have HP:=ab (show Gw t h=some s by unfold Gw;rw[<-hs,if_neg h0,<-hj,hv,dS,hsn]);have e1:(h:Int)%(n2:Int)=(j:Int):=by rw[hj];omega
  have e2:LV (h:Int) (n2:Int)=(j:Int):=by rw[mo (by omega)];exact e1
  have u1:=am3 n2 (by omega);have u2:=am3 j (by omega);have i1:=jS (n2:Int) (by omega);have h0':¬n2=0:=h0;clear hj hs hS hN hc hsn hv hi hd hsl h0;go_enter Tryz.func35,Tryz.ntmps35;go_wp2_with fail;go_quiet (fail);go_wp2;go_ret2;exact⟨by rw[HP.i];rfl,eH B0.i _⟩
abbrev ad1(o:Option Nat):aB:=.c (o.map fun b=>⟨b,0,none⟩)
structure Pc where
 kT:Int
 rA:Option aT
 rN:Nat
 rC:Nat
def Pc.ay(x:Pc):Array aB:=#[.b .a x.kT,.a x.rA x.rN x.rC]
theorem Pc.G(x:Pc):x.ay.j=2:=by simp[Pc.ay]
theorem Pc.cO(x:Pc):x.ay.all (·.h)=true:=by simp[Pc.ay,cZ]
@[go_sem]theorem Pc.dY(x:Pc):dY x.ay=2:=Pc.G x
@[go_sem]theorem Pc.all(x:Pc):x.ay.m 0 2=x.ay:=by have:=Pc.G x;rw[<-this];simp
@[go_sem]theorem Pc.WL(x:Pc):x.ay[0]? = some (.b .a x.kT):=by simp[Pc.ay,aD]
@[go_sem]theorem Pc.ani(x:Pc):x.ay[1]? = some (.a x.rA x.rN x.rC):=by simp[Pc.ay,aD]
theorem Pc.ahN(x:Pc)(A:Option aT)(n c:Nat):x.ay.b 1 (.a A n c)=({x with rA:=A,rN:=n,rC:=c}:Pc).ay:=by simp[Pc.ay,aM]
def XD:Pc:=⟨0,none,0,0⟩
@[go_sem]theorem azo:bY #[aI bR 0,bD none 0 0]=bY XD.ay:=rfl
@[go_sem]theorem au7:eB #[aI bR 0,bD none 0 0] 32=eB XD.ay 32:=rfl
theorem kPc:oO 32 2 XD.ay:=⟨⟨_,Tryz.underlying32,rfl⟩,by kernel_rfl,by kernel_rfl,Pc.G _⟩
@[go_sem ↓]theorem aqA(v:aB):bZ 32 v=xI 32 v:=rfl
@[go_sem ↓]theorem aKv(v x:aB):eD 32 v x=yU 32 v x:=rfl
@[go_sem]theorem aHd(W:ak)(b o:Nat)(h:vw W b o 2):(xI 32 (.c (some ⟨b,o,none⟩))).I ah W = .Z (.d (dM W b o 2)) W:=kPc.ld W b o h
@[go_sem]theorem aD'(W:ak)(c:Array aB)(x:Pc)(b:Nat)(hb:b=W.a.j)(hc:dY c=2):(yU 32 (.c (some ⟨b,0,none⟩)) (.d x.ay)).I ah (W.alloc (.D c 32)) = .Z () (W.alloc (.D x.ay 32)):=kPc.stN W c x.ay b hb hc (Pc.G x) (Pc.cO x)
@[go_sem]theorem aHe(W:ak)(b o:Nat)(x:Pc)(h:W.M b o 2):(yU 32 (.c (some ⟨b,o,none⟩)) (.d x.ay)).I ah W = .Z () (gT W b o x.ay):=kPc.st W b o x.ay h (Pc.G x) (Pc.cO x)
@[go_sem ↓]theorem aKw(ps:Array (Nat×aB)):fM 32 ps=uH 32 ps:=rfl
structure Eg where
 key:Vector UInt8 16
 cf:Cn
 pl:Pc
 Ot:Option aT
 DN:Nat
 Sz:Nat
 dnA:Option aT
 dnN:Nat
 dnC:Nat
 fl:Option Nat
 h:Tc
 fQ:Int
 no:Int
 ji:Vector Int 11
def Eg.ay(x:Eg):Array aB:=jd x.key++(x.cf.ay++(x.pl.ay++(#[.a x.Ot x.DN x.Sz,.a x.dnA x.dnN x.dnC,ad1 x.fl]++(x.h.ay++(#[.b .a x.fQ,.b .a x.no]++yB x.ji)))))
theorem Eg.G(x:Eg):x.ay.j=90:=by simp[Eg.ay,Cn.G,Pc.G,Tc.G,dL,j5]
@[go_sem]theorem Eg.abk(x:Eg):x.ay.m 0 16=jd x.key:=by simp[Eg.ay,dA,Cn.G,Pc.G,Tc.G,dL,j5,pW,tQ]
@[go_sem]theorem Eg.asa(x:Eg):x.ay.m 16 70=x.cf.ay:=by simp[Eg.ay,dA,Cn.G,Pc.G,Tc.G,dL,j5,pW,tQ]
@[go_sem]theorem Eg.ahO(x:Eg):x.ay.m 70 72=x.pl.ay:=by simp[Eg.ay,dA,Cn.G,Pc.G,Tc.G,dL,j5,pW,tQ]
@[go_sem]theorem Eg.Zi(x:Eg):x.ay[72]? = some (.a x.Ot x.DN x.Sz):=by simp[Eg.ay,aD,Cn.G,Pc.G,Tc.G,dL,j5]
@[go_sem]theorem Eg.anj(x:Eg):x.ay[73]? = some (.a x.dnA x.dnN x.dnC):=by simp[Eg.ay,aD,Cn.G,Pc.G,Tc.G,dL,j5]
@[go_sem]theorem Eg.Zj(x:Eg):x.ay[74]? = some (ad1 x.fl):=by simp[Eg.ay,aD,Cn.G,Pc.G,Tc.G,dL,j5]
@[go_sem]theorem Eg.ank(x:Eg):x.ay.m 75 77=x.h.ay:=by simp[Eg.ay,dA,Cn.G,Pc.G,Tc.G,dL,j5,pW,tQ]
@[go_sem]theorem Eg.TS(x:Eg):x.ay[77]? = some (.b .a x.fQ):=by simp[Eg.ay,aD,Cn.G,Pc.G,Tc.G,dL,j5]
@[go_sem]theorem Eg.anl(x:Eg):x.ay[78]? = some (.b .a x.no):=by simp[Eg.ay,aD,Cn.G,Pc.G,Tc.G,dL,j5]
@[go_sem]theorem Eg.anm(x:Eg):x.ay.m 79 90=yB x.ji:=by simp[Eg.ay,dA,Cn.G,Pc.G,Tc.G,dL,j5,pW,tQ]
theorem Eg.agm(x:Eg)(A:Option aT)(n c:Nat):x.ay.b 72 (.a A n c)=({x with Ot:=A,DN:=n,Sz:=c}:Eg).ay:=by simp[Eg.ay,aM,Cn.G,Pc.G,Tc.G,dL,j5]
theorem Eg.au8(x:Eg)(A:Option aT)(n c:Nat):x.ay.b 73 (.a A n c)=({x with dnA:=A,dnN:=n,dnC:=c}:Eg).ay:=by simp[Eg.ay,aM,Cn.G,Pc.G,Tc.G,dL,j5]
theorem Eg.au9(x:Eg)(v:Option Nat):x.ay.b 74 (ad1 v)=({x with fl:=v}:Eg).ay:=by simp[Eg.ay,aM,Cn.G,Pc.G,Tc.G,dL,j5]
theorem Eg.ad2(x:Eg)(v:Int):x.ay.b 77 (.b .a v)=({x with fQ:=v}:Eg).ay:=by simp[Eg.ay,aM,Cn.G,Pc.G,Tc.G,dL,j5]
theorem Eg.ano(x:Eg)(v:Int):x.ay.b 78 (.b .a v)=({x with no:=v}:Eg).ay:=by simp[Eg.ay,aM,Cn.G,Pc.G,Tc.G,dL,j5]
def aEa:Eg:=⟨(bG 16 0),Ql,XD,none,0,0,none,0,0,none,Cr,0,0,(bG 11 0)⟩
theorem kEg:oO 123 90 aEa.ay:=⟨⟨_,Dv,rfl⟩,by kernel_rfl,by kernel_rfl,Eg.G _⟩
@[go_sem ↓]theorem aKy(v:aB):bZ 123 v=xI 123 v:=rfl
@[go_sem ↓]theorem aKz(v x:aB):eD 123 v x=yU 123 v x:=rfl
@[go_sem ↓]theorem aKA(ps:Array (Nat×aB)):fM 123 ps=uH 123 ps:=rfl
theorem aEb(w:ak)(fs:Array nS)(h:ah.underlying 123=some (.struct fs)):(iy (fun f=>Prod.mk f.Y <$> sizeOf f.type) fs:Sem (Array (Nat×Nat))).I ah w = .Z #[(0,16),(16,54),(70,2),(72,1),(73,1),(74,1),(75,2),(77,1),(78,1),(79,11)] w:=by
 have e:=Dv;rw[h]at e;cases e;show _=_
 kernel_rfl
theorem Eg.aqB(x:Eg)(v:Vector UInt8 16):sw x.ay 0 (jd v)=({x with key:=v}:Eg).ay:=by
 unfold Eg.ay;exact FV (by rw[dL,dL])
theorem Eg.au'(x:Eg)(v:Cn):sw x.ay 16 v.ay=({x with cf:=v}:Eg).ay:=by
 unfold Eg.ay;exact qL (by rw[Cn.G,Cn.G]) 16 (dL _)
theorem Eg.anp(x:Eg)(v:Pc):sw x.ay 70 v.ay=({x with pl:=v}:Eg).ay:=by
 unfold Eg.ay;have:=qL (p:=jd x.key++x.cf.ay) (q:=x.pl.ay) (r:=#[.a x.Ot x.DN x.Sz,.a x.dnA x.dnN x.dnC,ad1 x.fl]++(x.h.ay++(#[.b .a x.fQ,.b .a x.no]++yB x.ji))) (v:=v.ay) (by rw[Pc.G,Pc.G]) 70 (by simp[Cn.G,dL]);simpa[fV]using this
theorem Eg.ava(x:Eg)(v:Tc):sw x.ay 75 v.ay=({x with h:=v}:Eg).ay:=by
 unfold Eg.ay;have:=qL (p:=jd x.key++x.cf.ay++x.pl.ay ++ #[.a x.Ot x.DN x.Sz,.a x.dnA x.dnN x.dnC,ad1 x.fl]) (q:=x.h.ay) (r:=#[.b .a x.fQ,.b .a x.no]++yB x.ji) (v:=v.ay) (by rw[Tc.G,Tc.G]) 75 (by simp[Cn.G,dL,Pc.G]);simpa[fV]using this
theorem Eg.aqC(x:Eg)(v:Vector Int 11):sw x.ay 79 (yB v)=({x with ji:=v}:Eg).ay:=by
 unfold Eg.ay;have:=qL (p:=jd x.key++x.cf.ay++x.pl.ay ++ #[.a x.Ot x.DN x.Sz,.a x.dnA x.dnN x.dnC,ad1 x.fl]++x.h.ay ++ #[.b .a x.fQ,.b .a x.no]) (q:=yB x.ji) (r:=#[]) (v:=yB v) (by rw[j5,j5]) 79 (by simp[Cn.G,dL,Pc.G,Tc.G]);simpa[fV]using this
@[go_sem]theorem anq(W:ak)(key:Vector UInt8 16)(cf:Cn)(pl:Pc)(A:Option aT)(n c:Nat)(ti no:Int)(ct:Vector Int 11):(uH 123 #[(0,.d (jd key)),(1,.d cf.ay),(2,.d pl.ay),(3,.a A n c),(7,.b .a ti),(8,.b .a no),(9,.d (yB ct))]).I ah W = .Z (.d (Eg.mk key cf pl A n c none 0 0 none Cr ti no ct).ay) W:=kEg.bd W _ _ _ _ Dv (aEb W _ Dv) (by
 refine(sI rfl (dL _) (by rw[Eg.G];omega) (Eg.aqB _ _)).trans ?_;refine(sI rfl (Cn.G _) (by rw[Eg.G];omega) (Eg.au' _ _)).trans ?_;refine(sI rfl (Pc.G _) (by rw[Eg.G];omega) (Eg.anp _ _)).trans ?_;refine(iq rfl rfl (by rw[Eg.G];omega) (Eg.agm _ _ _ _)).trans ?_;refine(iq rfl rfl (by rw[Eg.G];omega) (Eg.ad2 _ _)).trans ?_;refine(iq rfl rfl (by rw[Eg.G];omega) (Eg.ano _ _)).trans ?_;refine(sI rfl (j5 _) (by rw[Eg.G];omega) (Eg.aqC _ _)).trans ?_;rfl)
theorem Eg.NZ(x:Eg)(j:Nat)(hj:j<54):x.ay[16+j]? = x.cf.ay[j]?:=by
 have h:=Eg.asa x;have h2:(x.ay.m 16 70)[j]? = x.cf.ay[j]?:=by rw[h]
 rw[dx,if_pos (by rw[Eg.G];omega)]at h2;exact h2
theorem Eg.N7(x:Eg)(a b:Nat)(hb:a<=b/\b<=54):x.ay.m (16+a) (16+b)=x.cf.ay.m a b:=by
 apply dZ;intro j;rw[dx,dx,Eg.G,Cn.G];by_cases h:j<b-a
 ·rw[if_pos (by omega),if_pos (by omega),Nat.add_assoc];exact Eg.NZ x (a+j) (by omega)
 ·rw[if_neg (by omega),if_neg (by omega)]
theorem Eg.anr(x:Eg)(j:Nat)(hj:j<11):x.ay[79+j]? = some (.b .a (x.ji.a.c j 0)):=by
 have h:=Eg.anm x;have h2:(x.ay.m 79 90)[j]? = (yB x.ji)[j]?:=by rw[h]
 rw[dx,if_pos (by rw[Eg.G];omega),Vl _ _ hj]at h2;exact h2
theorem Eg.WL(x:Eg):x.ay[70]? = some (.b .a x.pl.kT):=by
 have h2:(x.ay.m 70 72)[0]? = x.pl.ay[0]?:=by rw[Eg.ahO]
 rwa [dx,if_pos (by rw[Eg.G];omega),Pc.WL]at h2
theorem Eg.ED(x:Eg):x.ay[75]? = some (.a x.h.sJ x.h.ru x.h.BJ):=by
 have h2:(x.ay.m 75 77)[0]? = x.h.ay[0]?:=by rw[Eg.ank]
 rwa [dx,if_pos (by rw[Eg.G];omega),Tc.ED]at h2
theorem Eg.yg(x:Eg):x.ay[76]? = some (.a x.h.qM x.h.pX x.h.yc):=by
 have h2:(x.ay.m 75 77)[1]? = x.h.ay[1]?:=by rw[Eg.ank]
 rwa [dx,if_pos (by rw[Eg.G];omega),Tc.yg]at h2
theorem Eg.JN(x:Eg):x.ay[16]? = some (.a x.cf.qH x.cf.iK x.cf.qI):=(Eg.NZ x 0 (by omega)).trans (Cn.JN x.cf)
theorem Eg.FT(x:Eg):x.ay[17]? = some (.b .a x.cf.j):=(Eg.NZ x 1 (by omega)).trans (Cn.FT x.cf)
theorem Eg.Tw(x:Eg):x.ay[25]? = some (.b .a x.cf.kC):=(Eg.NZ x 9 (by omega)).trans (Cn.Tw x.cf)
theorem Eg.Tx(x:Eg):x.ay[26]? = some (.b .a x.cf.X):=(Eg.NZ x 10 (by omega)).trans (Cn.Tx x.cf)
theorem Eg.Tv(x:Eg):x.ay.m 19 25=J8 x.cf.kF:=(Eg.N7 x 3 9 (by omega)).trans (Cn.Tv x.cf)
theorem Eg.afD(x:Eg):x.ay.m 27 33=Ap x.cf.AJ:=(Eg.N7 x 11 17 (by omega)).trans (Cn.afD x.cf)
theorem Eg.aaR(x:Eg):x.ay.m 33 50=x.cf.Ck.ay:=(Eg.N7 x 17 34 (by omega)).trans (Cn.aaR x.cf)
theorem Eg.afE(x:Eg):x.ay.m 50 67=x.cf.h.ay:=(Eg.N7 x 34 51 (by omega)).trans (Cn.afE x.cf)
section
def tF(A:Option aT):List Nat:=match A with|some a=>[a.block]|none=>[]
theorem Di{A:Option aT}{b:Nat}:b∈tF A↔∃a,A=some a/\a.block=b:=by
 unfold tF;cases A with
 | none=>simp
 | some a=>simp[eq_comm]
def oz(x:Eg):List Nat:=tF x.cf.qH++(tF x.pl.rA++(tF x.Ot++(tF x.dnA++(tF x.h.sJ++tF x.h.qM))))
theorem dW{x:Eg}{b:Nat}:b∈oz x↔b∈tF x.cf.qH\/b∈tF x.pl.rA\/b∈tF x.Ot\/b∈tF x.dnA\/b∈tF x.h.sJ\/b∈tF x.h.qM:=by simp[oz]
theorem iH{W:ak}{base sz n k c:Nat}{T:bF}{A:Option aT}{xs:List aB}(h:W.c base T sz (.a A n c) k xs):∀b∈tF A,base<=b/\b<W.a.j:=fun b hb=>by
 obtain⟨a,rfl,rfl⟩:=Di.1 hb;exact h.lt a.block rfl
theorem Od{W W':ak}{B sz n:Nat}{A:Option aT}{xs:List aB}{F:List Nat}(h:Rd W B sz A n xs)(hB:B<=W.a.j)(hf:jC F W W')(hn:∀b∈tF A,b∉F):Rd W' W'.a.j sz A n xs:=by
 refine⟨h.1,fun h0=>?_⟩;obtain⟨a,hA,hb,hc⟩:=h.2 h0;have hs:=hf.j;refine⟨a,hA,by omega,fun j u hu=>?_⟩;have h1:=hc j u hu;have h2:=hf.block a.block (by omega) (hn _ (Di.2 ⟨a,hA,rfl⟩));unfold World.cell? at h1 ⊢;rw[AB]at h1 ⊢;rw[h2];exact h1
theorem iJ.keep{α:Type}{f:α->Array aB}{sz:Nat}{W W':ak}{n:Nat}{A:Option aT}{l:List α}{F:List Nat}(h:iJ f sz W W.a.j A n l)(hf:jC F W W')(hn:∀b∈tF A,b∉F):iJ f sz W' W'.a.j A n l:=⟨h.1,Od h.2.1 (av _) hf hn,h.2.2⟩
theorem Ke.keep{W W':ak}{q g:Nat}{key:Vector UInt8 16}{dU:Int}{s:List (Option Fw)}{l:List Fw}{F:List Nat}(h:Ke W q g key dU s l)(hf:jC F W W')(h1:q∉F)(h2:g∉F):Ke W' q g key dU s l:=⟨⟨hf.box h.w.h h1,hf.box h.w.sl h2,h.w.ne,h.w.sz⟩,h.r,h.Z⟩
theorem TlR.keep{W W':ak}{A1 A2:Option aT}{n1 n2:Nat}{t:Tl}{F:List Nat}(h:TlR W A1 n1 A2 n2 t)(hf:jC F W W')(h1:∀b∈tF A1,b∉F)(h2:∀b∈tF A2,b∉F):TlR W' A1 n1 A2 n2 t:=by
 obtain⟨k1,k2,k3⟩:=h;refine⟨k1.keep hf h1,k2,?_⟩;rcases k3 with k3|⟨g,d,rfl,k4,k5⟩
 ·exact .a k3
 ·exact .b ⟨g,d,rfl,hf.box k4 (h2 g (by simp[tF])),k5⟩
theorem TlR.go{W W':ak}{A1 A2:Option aT}{n1 n2:Nat}{t:Tl}(h:TlR W A1 n1 A2 n2 t)(hb:aL W.a.j W W'):TlR W' A1 n1 A2 n2 t:=h.keep (F:=[]) (jC.jw hb) (fun _ _ h=>by cases h) (fun _ _ h=>by cases h)
structure LM(W:ak)(q:Nat)(e:En)(s:pY)(x:Eg)(q2 g:Nat)(sl:List (Option Fw)):Prop where
 eg:dK W q x.ay
 key:x.key=e.key
 cf:x.cf={e.c with qH:=x.cf.qH,iK:=x.cf.iK,qI:=x.cf.qI}
 kT:x.pl.kT=s.kT
 vs:iJ Vp.ay 20 W W.a.j x.cf.qH x.cf.iK e.vs
 X:iJ Bk.ay 27 W W.a.j x.pl.rA x.pl.rN s.X
 hl:iJ Hl.ay 3 W W.a.j x.Ot x.DN s.h
 fl:x.fl=some q2
 h:Ke W q2 g e.key e.c.dU sl s.G
 rm:e.c.dU*2<=sl.a
 nq:q≠q2/\q≠g
 EF:∀b∈oz x,b<W.a.j/\b≠q/\b≠q2/\b≠g
 fQ:x.fQ=s.fQ
 no:x.no=s.no
 ji:x.ji=s.ji
structure yN(W:ak)(q:Nat)(e:En)(s:pY)(x:Eg)(q2 g:Nat)(sl:List (Option Fw)):Prop where
 b:LM W q e s x q2 g sl
 dn:iJ txA 1 W W.a.j x.dnA x.dnN (nX s.h)
 tt:TlR W x.h.sJ x.h.ru x.h.qM x.h.pX (zM e s)
variable {W W':ak} {q:Nat} {e:En} {s:pY} {x:Eg} {q2 g:Nat} {sl:List (Option Fw)}
theorem LM.go(h:LM W q e s x q2 g sl)(hb:aL W.a.j W W'):LM W' q e s x q2 g sl:=
 ⟨h.eg.go hb,h.key,h.cf,h.kT,h.vs.go hb,h.X.go hb,h.hl.go hb,h.fl,h.h.go hb,h.rm,h.nq,fun b hm=>by have:=h.EF b hm;have:=hb.j;omega,h.fQ,h.no,h.ji⟩
theorem yN.go(h:yN W q e s x q2 g sl)(hb:aL W.a.j W W'):yN W' q e s x q2 g sl:=⟨h.b.go hb,h.dn.go hb,h.tt.go hb⟩
theorem LM.lt(h:LM W q e s x q2 g sl):q<W.a.j/\q2<W.a.j/\g<W.a.j:=⟨h.eg.lt,h.h.w.lt⟩
theorem LM.i(h:LM W q e s x q2 g sl){b:Nat}(hb:b∈oz x):b∉[q]:=by have:=h.EF b hb;simp;omega
theorem LM.RG(h:LM W q e s x q2 g sl){A:Option aT}{n c:Nat}{t:Tc}(hf:jC [q] W W')(hb:dK W' q ({x with dnA:=A,dnN:=n,dnC:=c,h:=t}:Eg).ay)(hr:∀b,b∈tF A\/b∈tF t.sJ\/b∈tF t.qM->b∈oz x\/W.a.j<=b/\b<W'.a.j):LM W' q e s ({x with dnA:=A,dnN:=n,dnC:=c,h:=t}:Eg) q2 g sl:=by
 have hs:=hf.j;have hlt:=h.lt;refine⟨hb,h.key,h.cf,h.kT,h.vs.keep hf (fun b hm=>h.i (dW.2 (.a hm))),h.X.keep hf (fun b hm=>h.i (dW.2 (.b (.a hm)))),h.hl.keep hf (fun b hm=>h.i (dW.2 (.b (.b (.a hm))))),h.fl,h.h.keep hf (by have:=h.nq;simp;omega) (by have:=h.nq;simp;omega),h.rm,h.nq,fun b hm=>?_,h.fQ,h.no,h.ji⟩;have key:b∈oz x\/W.a.j<=b/\b<W'.a.j:=by
  rcases dW.1 hm with hm|hm|hm|hm|hm|hm
  ·exact .a (dW.2 (.a hm))
  ·exact .a (dW.2 (.b (.a hm)))
  ·exact .a (dW.2 (.b (.b (.a hm))))
  ·exact hr b (.a hm)
  ·exact hr b (.b (.a hm))
  ·exact hr b (.b (.b hm))
 rcases key with hm|hm
 ·have:=h.EF b hm;omega
 ·omega
theorem nR.few{M:Int}(h:nR M e s):s.X.a<=1024/\s.h.a<=1024/\∀y∈s.X,y.E.a<=24:=by
 have h1:=(uO.1 h.pl)
 have h2:s.h.a=s.X.a:=by have:=congrArg List.length h.nm;simpa using this
 refine⟨h1.2.2.1,by have:=h1.2.2.1;omega,fun y hy=>?_⟩;have h3:=(h1.2.2.2.1 y hy).1;unfold Bk.Ci vQ at h3;simp only[bl,decide_eq_true_eq]at h3;exact h3.1.1.1.2.2
theorem Zk{M:Int}(h:nR M e s)(ls:List (List UInt8)):aqk (kW ls s.X)/\∀y∈kW ls s.X,y.E.a<=1000000:=by
 have hf:=h.few;refine⟨⟨?_,?_,?_⟩,?_⟩
 ·unfold Wt kW
  rw[yP];exact h.srt.imp (fun{a b} hab=>by first|exact hab|exact YO hab)
 ·intro y hy
  unfold kW at hy;obtain⟨z,_,rfl⟩:=iV.1 hy;have:=arj z.w;unfold FL;simp only;split<;>omega
 ·unfold kW;rw[bU];exact hf.1
 ·intro y hy
  unfold kW at hy;obtain⟨z,hz,rfl⟩:=iV.1 hy;have:=hf.2.2 z hz;unfold FL;simp only;omega
theorem aqD(l:List (List UInt8)):(l.h fun x=>(txA x).a)=l.map fun s=>iB (bT s):=by
 induction l with
 | nil=>rfl
 | cons a l ih=>rw[iM,kL,ih];rfl
theorem iJ.st{B n:Nat}{A:Option aT}{l:List (List UInt8)}(h:iJ txA 1 W B A n l):aam W B A n l:=by
 have:=h.2.1;rw[aqD]at this;exact this
theorem Zl(l:List Hl):(nX l).a<=l.a:=by unfold nX;rw[bU];exact oM _ _
theorem oO.Dj{T:bF}{n b:Nat}{z c d:Array aB}(K:oO T n z)(h:dK W b c)(o:Nat)(hc:c.m o (o+n)=d)(hs:o+n<=c.j):(xI T (.c (some ⟨b,o,none⟩))).I ah W = .Z (.d d) W:=by
 obtain⟨_,_,h3,h4⟩:=h.K;rw[K.ld W b o (by rw[h3 o n (by unfold dY;omega)];trivial),h4 o n (by unfold dY;omega),hc]
theorem Eg.aj1{x:Eg}(h:dK W q x.ay):W.rangeAt q 0 (x.key.a.map bv):=by
 intro j v hj;have hj6:j<16:=by
  rcases aY j 16 with h1|h1
  ·exact h1
  ·rw[aS (by simpa using h1)]at hj;cases hj
 have h2:(x.ay.m 0 16)[j]? = (jd x.key)[j]?:=by rw[Eg.abk]
 rw[dx,if_pos (by rw[Eg.G];omega)]at h2;rw[h.K.1,h2];unfold jd;rw[List.getElem?_toArray];exact hj
theorem agn(key:Vector UInt8 16)(n:Nat)(hp:lH n=true)(hn:n<=65537)(l:List oU)(hk:aqk l)(hnm:∀x∈l,x.E.a<=1000000)(A:Option aT)(m c:Nat)(w:ak)(hR:iJ oU.ay 2 w w.a.j A m l):
 aP ah 27 #[.d (key.a.map bv).toArray,.b .a n,.a A m c] w fun e w'=>∃t:Tc,e=.a (.J #[.d t.ay,.b .a 0])/\TlR w' t.sJ t.ru t.qM t.pX (uj key n l)/\aL w.a.j w w'/\∀b,b∈tF t.sJ\/b∈tF t.qM->w.a.j<=b/\b<w'.a.j:=by
 refine(adZ key n hp hn l hk hnm A m c w hR).g ?_;rintro e w' ⟨A1,n1,c1,A2,n2,c2,rfl,h1,h2,h3,h4⟩;refine⟨⟨A1,n1,c1,A2,n2,c2⟩,rfl,h1,h2,fun b hb=>?_⟩;rcases hb with hb|hb
 ·obtain⟨a,ha,rfl⟩:=Di.1 hb;exact h3 a ha
 ·obtain⟨a,ha,rfl⟩:=Di.1 hb;exact h4 a ha
def abx(W:ak)(q:Nat)(e:En)(s:pY)(x:Eg)(q2 g:Nat)(sl:List (Option Fw))(r:lq)(W':ak):Prop:=
 r=.a (.J #[])/\(∃x',yN W' q e s x' q2 g sl/\∀b∈oz x',b∈oz x\/W.a.j<=b)/\jC [q] W W'
theorem Jj{M:Int}(h:LM W q e s x q2 g sl)(hi:nR M e s):aP ah 64 #[.c (some ⟨q,0,none⟩)] W (abx W q e s x q2 g sl):=by
 have aj2:=hi.few;obtain⟨⟨sz2,szb,szp⟩,_⟩:=rz hi.cn;have hhn:=h.hl.1;have hbn:=h.X.1;have CD:=ab (alk s.h x.Ot x.DN x.Sz W h.hl (by omega));unfold TxP at CD;have f72:=(h.eg.K.1 72).trans (Eg.Zi x);have H:=ab h;have HI:=ab hi;have HSH:=ab (Zk hi (nX s.h));have HDN:=ab (Zl s.h);have azp:=ab aj2;have HSZ:=ab (show(0<=e.c.j/\e.c.j<=65537)/\lH e.c.j.e=true from⟨⟨by omega,szb⟩,szp⟩);have HHN:=ab hhn;have HBN:=ab hbn;clear hi h aj2 sz2 szb szp hhn hbn;go_enter Tryz.func64,Tryz.ntmps64;go_upto_region 1 with(go_at_call 130;(with_reducible refine CD.i.g ?_);rintro r w1 ⟨A,n,c,rfl,hn,ho,hb⟩;have aEd:=(H.i.eg.go hb).K.2.1 73;have f73:=((H.i.eg.go hb).K.1 73).trans (Eg.anj x);have H1:=ab (H.i.go hb);have O1:=ab ho;have N1:=ab hn;have F1:=ab (jC.jw (F:=[q]) hb);clear hb ho hn f72)
 obtain⟨x1,hx1⟩:∃x1:Eg,x1={x with dnA:=A,dnN:=n,dnC:=c}:=⟨_,rfl⟩
 have hb1:dK (w1.F ⟨q,73,none⟩ (.a A n c)) q x1.ay:=by
  have:=H1.i.eg.eF 73 (.a A n c);rw[Eg.au8]at this;rw[hx1];exact this
 have hf1:jC [q] W (w1.F ⟨q,73,none⟩ (.a A n c)):=F1.i.set ⟨q,73,none⟩ _ (.a (by simp));have HF1:=ab hf1;have HFR:=ab (iH O1.i);have RDN:=ab (show iJ txA 1 (w1.F ⟨q,73,none⟩ (.a A n c)) (w1.F ⟨q,73,none⟩ (.a A n c)).a.j A n (nX s.h)from(iJ.iQ N1.i O1.i).keep ((jC.refl [q] w1).set ⟨q,73,none⟩ _ (.a (by simp))) (fun b hb=>by have:=iH O1.i b hb;have:=H.i.lt;simp;omega));have RBK:=ab (H.i.X.keep hf1 (fun b hm=>H.i.i (dW.2 (.b (.a hm)))));have HSW:=ab (show W.a.j<=w1.a.j from F1.i.j);have HWS:(w1.F ⟨q,73,none⟩ (.a A n c)).a.j=w1.a.j:=by simp[gX]
 have HWZ:=ab HWS;have HB1:=ab hb1;generalize w1.F ⟨q,73,none⟩ (.a A n c)=w2 at HF1 RDN RBK HWZ HB1 ⊢;clear hb1 hf1 HWS O1 H1 f73 aEd CD F1;have K1:=ab (fun(w':ak) (t:Tc) (h:dK w' q ({x1 with h:=t}:Eg).ay)=>show w'.rangeAt q 0 (e.key.a.map bv)/\w'.b ⟨q,17,none⟩=some (.b .a e.c.j)/\(xI 32 (.c (some ⟨q,70,none⟩))).I ah w' = .Z (.d x.pl.ay) w'/\w'.b ⟨q,73,none⟩=some (.a A n c)by
  subst hx1;have hk:x.key=e.key:=H.i.key;have hs:x.cf.j=e.c.j:=by rw[H.i.cf]
  refine⟨?_,?_,kPc.Dj h 70 (Eg.ahO _) (by rw[Eg.G];omega),(h.K.1 73).trans (Eg.anj _)⟩
  ·have hr:=Eg.aj1 h;rw[<-hk];exact hr
  ·rw[<-hs];exact(h.K.1 17).trans (Eg.FT _))
 have HBX:=ab (show dK w2.drew q ({x1 with h:=x.h}:Eg).ay by have:=HB1.i.drew;rw[hx1]at this⊢;exact this);obtain⟨k1,k2,k3,k4⟩:=K1.i _ _ HBX.i;have hxb:=HBN.i;have hdl:=N1.i;have CS:=ab (afe s.X (fun y hy=>HI.i.fi y hy) x.pl.kT x.pl.rA x.pl.rC (nX s.h) A c w2.drew (by rw[hxb];exact RBK.i.arf) (by rw[hdl];exact RDN.i.arf.st) (by have:=azp.i;omega) (by have:=azp.i;have:=HDN.i;omega));rw[hxb,hdl]at CS;unfold aay at CS
 replace CS:=ab (show aP ah 28 #[.d x.pl.ay,.a A n c] w2.drew _ from CS.i)
 have CM:=ab (fun w (A:Option aT) (m c:Nat) (hR:iJ oU.ay 2 w w.a.j A m (kW (nX s.h) s.X))=>agn e.key e.c.j.e HSZ.i.2 (by have:=HSZ.i.1;omega) _ HSH.i.1 HSH.i.2 A m c w hR);rw[show((e.c.j.e:Nat):Int)=e.c.j from lG HSZ.i.1.1]at CM;have HX1:=ab hx1;clear hx1 hxb hdl;have hU:=qh;have hI:(ah.l 22).map (·.j)=some (e.key.a.map bv).a:=by rw[bU,nH];kernel_rfl
 go_region_held_law (fun w'=>w'.rangeAt q 0 (e.key.a.map bv)/\w'.b ⟨q,17,none⟩=some (.b .a e.c.j)/\(xI 32 (.c (some ⟨q,70,none⟩))).I ah w' = .Z (.d x.pl.ay) w'/\w'.b ⟨q,73,none⟩=some (.a A n c))
  (first|exact K1.i _ _ HBX.i|exact K1.i _ _ HB3.i|exact K1.i _ _ HB4.i|exact K1.i _ _ HB5.i|go_keep)
  (first
  | (go_at_call 28;(with_reducible refine CS.i.g ?_);rintro r w3 ⟨A3,c3,rfl,ho3,hb3⟩;have HB3:=ab (HBX.i.go hb3);have CM3:=ab (CM.i w3 A3 _ c3 (iJ.iQ rfl ho3));have BL3:=ab hb3;clear ho3 hb3)
  | (go_at_call 27;(with_reducible refine CM3.i.g ?_);rintro r w4 ⟨t,rfl,ht,hb4,hf4⟩;have HB4:=ab (HB3.i.go hb4);have HT4:=ab ht;have BL4:=ab (iX BL3.i hb4);have HF4:=ab hf4;have th:=HB4.i.M 75 2 (by rw[Eg.G];omega);have HB5:=ab (show dK (gT w4 q 75 t.ay) q ({x1 with h:=t}:Eg).ay by have:=HB4.i.setCells 75 t.ay.a;rw[show t.ay.a.toArray=t.ay by simp,Eg.ava]at this;exact this);clear ht hb4 hf4))
 have BW:=ab (iX ((aG w2.a.j w2).drew) BL4.i);have F4:jC [q] W w4:=HF1.i.O BW.i HF1.i.j;have F5:jC [q] W (gT w4 q 75 t.ay):=F4.grown (lS (dO w4 (some q)) 75 t.ay) (fun k e=>.a (by injection e with e;simp[e]));have FS:jC [q] w4 (gT w4 q 75 t.ay):=(jC.refl [q] w4).grown (lS (dO w4 (some q)) 75 t.ay) (fun k e=>.a (by injection e with e;simp[e]));have hsz:=BW.i.j;have aKH:=BL3.i.j;have hw1:=HSW.i;have hwz:=HWZ.i;have hs5:=FS.j;have hq:=H.i.lt;have hnew:∀b,b∈tF A\/b∈tF t.sJ\/b∈tF t.qM->W.a.j<=b/\b<(gT w4 q 75 t.ay).a.j:=fun b hm=>by
  rcases hm with hm|hm
  ·have:=HFR.i b hm;omega
  ·have:=HF4.i b hm
   have h3:w2.drew.a.j=w2.a.j:=rfl;omega
 go_end0;refine⟨rfl,⟨{x with dnA:=A,dnN:=n,dnC:=c,h:=t},⟨H.i.RG F5 (by have:=HB5.i;rw[HX1.i]at this;exact this) (fun b hm=>.b (hnew b hm)),?_,?_⟩,fun b hm=>?_⟩,F5⟩
 ·have h1:=(RDN.i.go BW.i)
  exact h1.keep FS (fun b hm=>by have:=(hnew b (.a hm)).1;simp;omega)
 ·exact HT4.i.keep FS (fun b hm=>by have:=(hnew b (.b (.a hm))).1;simp;omega) (fun b hm=>by have:=(hnew b (.b (.b hm))).1;simp;omega)
 ·rcases dW.1 hm with hm|hm|hm|hm|hm|hm
  ·exact .a (dW.2 (.a hm))
  ·exact .a (dW.2 (.b (.a hm)))
  ·exact .a (dW.2 (.b (.b (.a hm))))
  ·exact .b (hnew b (.a hm)).1
  ·exact .b (hnew b (.b (.a hm))).1
  ·exact .b (hnew b (.b (.b hm))).1
end
theorem ad3(l:List Bk)(v:Int)(A:Option aT)(n c:Nat)(w:ak)(hR:iJ Bk.ay 27 w w.a.j A n l)(hn:n<=100000):
 aP ah 73 #[.d (Pc.mk v A n c).ay] w fun e w'=>∃A' n' c',e=.a (.a A' n' c')/\iJ txA 1 w' w'.a.j A' n' (l.map (·.E))/\aL w.a.j w w':=by
 have Z0:=ab ((Rz.nil (f:=nmC) (sz:=1) (e:=9) w).new (Pc.mk v A n c).ay 32);have HL:=ab hR.1;have HR:=ab hR;have f1:=(Z0.i.S.K.1 1).trans (Pc.ani _);clear hR;go_enter Tryz.func73,Tryz.ntmps73;go_upto_region 1 with fail
 generalize w.alloc (.D (Pc.mk v A n c).ay 32)=w1 at Z0 f1 ⊢;go_wp2_with fail;go_loopw [3,9] (fun v3 v9 wr=>∃k A' n' c',k<=n/\v9=.b .a (k:Nat)/\v3=.a A' n' c'/\Rz nmC 1 9 [(w.a.j,(Pc.mk v A n c).ay)] w wr (.a A' n' c') ((l.d k).map (·.E))) (fun _ v9 _=>n-(intOf v9).e)
 case atStart=>exact⟨0,none,0,0,je _,rfl,rfl,Z0.i⟩
 case round=>
  obtain⟨k,A1,n1,c1,hk,rfl,rfl,hz⟩:=hrel;by_cases hlt:k<n
  ·have hki:(k:Int)<n:=by omega
   have i1:=jS ((k:Int)+1) (by omega);have hr:=(HR.i.O hz.R).lF (B':=wr.a.j) hz.R.j;obtain⟨b,o,rfl,hbl,a1,a2⟩:=hr.fI Bk.G jg hlt;obtain⟨x,hx⟩:=cB (l.c k jg);rw[<-hx]at a2;have HS:=ab (show(l.d (k+1)).map (·.E)=(l.d k).map (·.E)++[x.E]by
    rw[dR (by rw[HL.i];exact hlt),iU,hx,au,aC (by rw[HL.i];exact hlt)];rfl)
   have HZ:=ab hz;have Z2:=ab (hz.alloc (.D x.ay 62));have Z3:=ab (Z2.i.alloc (.D (nmC x.E) 9));have RO:=ab (iJ.one (f:=nmC) x.E NW (wr.alloc (.D x.ay 62)) 9);simp only[sU]at RO;have HGL:=ab (show((l.d k).map (·.E)).a+1<=1000000 by rw[bU,bK];omega);have BX:=dK.new wr x.ay 62;have f0:=(BX.K.1 0).trans (Bk.qw x);clear hx hz hr BX hbl;go_wp2_with (at_builtin;refine Qk ahK rfl (.a 13) (.a 16) rfl rfl Z3.i rfl RO.i HGL.i ?_;intro A5 n5 c5 w5 h5 h6;have Z5:=ab h5;clear h5 h6);go_roundw
   case rel=>exact⟨k+1,A5,n5,c5,by omega,by simp,rfl,by rw[HS.i];exact Z5.i⟩
   case measure=>simp[intOf];omega
  ·obtain rfl:k=n:=by omega
   have hd:decide ((k:Int)<k)=false:=by simp
   have HZ:=ab hz;clear hz;go_wp2;go_ret;have h1:=HZ.i;rw[aK (by rw[HL.i];exact av _)]at h1;exact⟨A1,n1,c1,rfl,h1.rd,h1.R⟩
section
variable {W W':ak} {q:Nat} {e:En} {s:pY} {x:Eg} {q2 g:Nat} {sl:List (Option Fw)}
def Rp(k:Int):aB:=.iface 219 (.b .a k)
def azr(r:Option (Bk×Bool)):lq:=match r with
 | some (b,h)=>.a (.J #[.d b.ay,.e h])
 | none=>.panicked [{v:=Rp 8,recovered:=false}]
theorem dK.aby{W:ak}{b o:Nat}{c:Array aB}{t:Tu}(h:dK W b c)(hc:c.m o (o+37)=t.ay)(hs:o+37<=c.j):(wS (.c (some ⟨b,o,none⟩))).I ah W = .Z (.d t.ay) W:=by
 obtain⟨_,_,h3,h4⟩:=h.K;rw[Ti W b o (by rw[h3 o 37 (by unfold dY;omega)];trivial),h4 o 37 (by unfold dY;omega),hc]
theorem LM.ant(h:LM W q e s x q2 g sl){W':ak}(hb:aL W.a.j W W'):W'.b ⟨q,74,none⟩=some (.c (some ⟨q2,0,none⟩)):=by
 rw[(h.eg.go hb).K.1 74,Eg.Zj];show some (rZ (x.fl.map fun b=>⟨b,0,none⟩))=_;rw[h.fl];rfl
theorem LM.agp(h:LM W q e s x q2 g sl){W':ak}(hb:aL W.a.j W W'):(xI 32 (.c (some ⟨q,70,none⟩))).I ah W' = .Z (.d x.pl.ay) W':=kPc.Dj (h.eg.go hb) 70 (Eg.ahO _) (by rw[Eg.G];omega)
theorem yN.Vr(h:yN W q e s x q2 g sl){M:Int}(hi:nR M e s){W':ak}(hb:aL W.a.j W W')(n:List UInt8)(K:Bool)(b:Bk)(h1:sM s.X n=K)(h2:qc s.X n=b):aP ah 33 #[.d x.pl.ay,.g (bT n)] W' fun e w'=>e=.a (.J #[.d b.ay,.e K])/\aL W'.a.j W' w':=
 aiV s.X hi.srt n x.pl.kT x.pl.rA x.pl.rN x.pl.rC W' (h.b.X.go hb) (by have:=hi.few;have:=h.b.X.1;omega) K b h1 h2
theorem anu(k:Vector UInt8 16)(l:List UInt8):xQ k l<18446744073709551616:=by
 have key:∀(ws:List Nat)(st:S4),st.Z->(∀n∈ws,n<18446744073709551616)->(ws.foldl UF st).Z:=by
  intro ws
  induction ws with
  | nil=>intro st h _;exact h
  | cons n ws ih=>intro st h hw;exact ih _ (aal h (hw n (by simp))) (fun m hm=>hw m (jZ _ hm))
 unfold xQ alf;exact aoU (Mw 4 _ (aak (key _ _ (ag0 k) (Yf _ l _ rfl (fH _ (by decide)))) (by decide)))
theorem anv(r:Option (List UInt8)):ar' r = .J #[.g (bT (r.c [])),.e r.isSome]:=by cases r<;>rfl
theorem avc{M:Int}(hi:nR M e s):azn (zM e s)/\(zM e s).uy.a<=65537/\(zM e s).h.a<=1024:=by
 obtain⟨⟨_,szb,szp⟩,_⟩:=rz hi.cn;have h0:∀y∈kW (nX s.h) s.X,0<=y.q:=fun y hy=>((Zk hi (nX s.h)).1.2.1 y hy).1
 have hnl:(zM e s).h.a<=1024:=by
  have h1:=hi.few.1;unfold zM uj;simp only;split
  ·simp
  ·simp only[bU]
   refine aO (oM _ _) ?_;unfold kW;rw[bU];exact h1
 rcases Yo (key:=e.key) szp h0 with⟨h1,h2⟩|⟨h1,h2⟩
 ·refine⟨fun j hj=>?_,?_,hnl⟩
  ·have:(zM e s).uy.a=0:=by unfold zM;rw[h1];rfl
   omega
  ·have:(zM e s).uy.a=0:=by unfold zM;rw[h1];rfl
   omega
 ·refine⟨fun j hj=>h2 j (by unfold zM at hj;rwa [h1]at hj),?_,hnl⟩
  have:(zM e s).uy.a=e.c.j.e:=h1;omega
theorem kBk:oO 62 27 jg.ay:=⟨⟨_,Tryz.underlying62,rfl⟩,by kernel_rfl,by kernel_rfl,Bk.G _⟩
theorem dK.avd{W:ak}{b:Nat}{y:Bk}(h:dK W b y.ay):(KY (.c (some ⟨b,0,none⟩))).I ah W = .Z (.d y.ay) W:=by
 have:=kBk.Dj h 0 (d:=y.ay) (by have:=Bk.G y;rw[<-this];simp) (by rw[Bk.G];omega);exact this
theorem XE{M:Int}(h:yN W q e s x q2 g sl)(hi:nR M e s)(t:Tu)(ht:wT t):aP ah 136 #[.c (some ⟨q,0,none⟩),.d t.ay] W fun r W'=>r=azr (I9 e s t)/\aL W.a.j W W':=by
 have Z0:=ab (((Bx.start W).new t.ay 81).new jg.ay 62);rw[show(W.alloc (.D t.ay 81)).a.j=W.a.j+1 by simp]at Z0;have H:=ab h;have HI:=ab hi;have HT:=ab ht;obtain⟨o,ho⟩:=cB (pO s.G t);have HO:=ab ho;have CG:=ab (fun(w:ak) (hb:aL W.a.j W w)=>JW (H.i.b.h.go hb) t);rw[<-ho]at CG;have hcg:∀o,am4 o = .J #[.d (vV o).qU.ay,.e o.isSome]:=fun _=>rfl
 simp only[hcg]at CG;clear h hi ht ho hcg;go_enter Tryz.func136,Tryz.ntmps136;go_upto_region 1 with fail
 generalize(W.alloc (.D t.ay 81)).alloc (.D jg.ay 62)=w1 at Z0 ⊢;refine wV (Bx.aa3 ([(W.a.j+1,jg.ay),(W.a.j,t.ay)]) W) 9 10 8 6 22 86 kD.ay (by kernel_rfl) rfl rfl rfl rfl rfl (by kernel_rfl) (by kernel_rfl) (by kernel_rfl) (by kernel_rfl) (by kernel_rfl) rfl rfl rfl (fun a w=>by simp[go_sem]) (tJ rfl) Z0.i.drew ?_;apply rJ;refine⟨fun T f hT es ew=>?_,?_⟩
 ·have EW:=ab ew
  have ES:=ab es;have l1:=fun m=>pF (ES.i m).b1
  have l2:=fun m=>H.i.b.ant (ES.i m).R
  have CF:=ab (fun m=>CG.i _ (ES.i m).R);clear es ew;simp only[mK,xZ,kX,bH,bP,jP,j4]
  repeat(go_big_quiet_step ((first|(go_at_call 126;(with_reducible refine(CF.i _).g ?_);rintro e w2 ⟨rfl,hb⟩;exact⟨rfl,EW.i _ _ hb⟩))))
  exact gK rfl
 ·intro w9 w8 zK _ hb
  have ZN:=ab ((zK.new kD.ay 86).go hb);have hyy:=ab zK;have hy:=zK.R.j;have hyv:=ab (fun p (hp:p∈[(W.a.j+1,jg.ay),(W.a.j,t.ay)])=>((zK.2 p hp).2.lt:p.1<w9.a.j));generalize w9.a.j=y at *;clear hb zK;have yE:=ZN.i.S.M 0 41 (aX (Fw.G kD).symm);refine⟨gT w8 y 0 (vV o).qU.ay,?_,?_⟩
  ·simp[go_sem,yE];rfl
  simp only[Act.put,bI,bH,bP,jQ,kY];have Z5:=ab (ZN.i.put (fun p hp=>jL (hyv.i p hp)) (vV o).qU.ay (by rw[Fw.G,Fw.G]));have HYB:=ab (fun p hp=>hyv.i p hp);clear yE ZN hyy hyv;generalize gT w8 y 0 (vV o).qU.ay=w9 at Z5 ⊢;go_step;go_step;go_step;have hlt:=H.i.b.lt;have hyW:W.a.j<=y:=by have:=HYB.i (W.a.j,t.ay) (by simp);simp at this;omega
  obtain⟨z,hz⟩:=cB ((match o with|some f=>!xq (nX s.h) f.E|none=>false));go_upto_region 2 with fail
  go_cut [33]from 23 to 32 (fun s33 wx=>s33=.e z/\Bx [(y,(vV o).qU.ay),(W.a.j+1,jg.ay),(W.a.j,t.ay)] W wx)
  case first=>
   cases o with
   | none=>
     go_wp2_with fail;go_quiet (fail);go_wp2_with fail;go_meet
     case rel=>exact⟨by rw[hz],Z5.i.go (eH (aG _ _) nq)⟩
   | some f=>
     have CC:=ab (fun n=>Mx (nX s.h) f.E x.dnA x.dnC (w9.drewN n) (by rw[H.i.dn.1];exact(H.i.dn.go (Z5.i.R.trans ((eH (aG W.a.j _) n).g (av _)))).st) (by have:=Zl s.h;have:=HI.i.few;omega));rw[H.i.dn.1]at CC;have f73:=((H.i.b.eg.go Z5.i.R).K.1 73).trans (Eg.anj x);have f37:=(Z5.i.S.K.1 37).trans (Fw.afp f);go_wp2_with fail;go_quiet ((go_at_call 87;(with_reducible refine(CC.i _).g ?_);rintro e w2 ⟨rfl,rfl⟩;exact⟨rfl,_,rfl⟩));go_wp2_with fail;go_meet
     case rel=>exact⟨by rw[hz],Z5.i.go (eH (aG _ _) nq)⟩
  obtain⟨rfl,Z6⟩:=hcut;have Z6:=ab Z6;generalize wc=w10 at Z6 ⊢;clear Z5 CG;go_upto_if 33 with fail
  go_cut []from 34 to 45 (fun wx=>NH s t=none/\Bx [(W.a.j+1,jg.ay),(W.a.j,t.ay)] W wx)
  case first=>
   cases z with
   | false=>
     have HN:NH s t=none:=by
      unfold NH;rw[<-HO.i];cases o with
      | none=>rfl
      | some f=>simp only at hz⊢;rw[<-hz];simp
     go_wp2_with fail;go_meet
     case rel=>exact⟨HN,Z6.i.sub (L':=[(W.a.j+1,jg.ay),(W.a.j,t.ay)]) (by simp)⟩
   | true=>
     cases o with
     | none=>cases hz
     | some fl=>
       have HD:=ab (show xq (nX s.h) fl.E=false by simpa using hz.symm);obtain⟨K,hK⟩:=tN (sM s.X fl.E);obtain⟨b,hb⟩:=tN (qc s.X fl.E);have CP:=ab (fun w (hb':aL W.a.j W w)=>H.i.Vr HI.i hb' fl.E K b hK hb);have HK:=ab hK;have GU:=ab hb;have HO2:=ab HO.i;have Z6:=ab (show Bx [(y,fl.ay),(W.a.j+1,jg.ay),(W.a.j,t.ay)] W w10 from Z6.i);clear hK hb hz;go_upto_region 3 with fail
       refine wV (Bx.aa3 ([(y,fl.ay),(W.a.j+1,jg.ay),(W.a.j,t.ay)]) W) 10 11 9 8 43 62 jg.ay (by kernel_rfl) rfl rfl rfl rfl rfl (by kernel_rfl) (by kernel_rfl) (by kernel_rfl) (by kernel_rfl) (by kernel_rfl) rfl rfl rfl (fun a w=>by simp[go_sem]) (tJ rfl) Z6.i.drew ?_;apply rJ;refine⟨fun T f hT es ew=>?_,?_⟩
       ·have EW:=ab ew
        have ES:=ab es;have l1:=fun m=>H.i.b.agp (ES.i m).R
        have l2:=fun m=>((ES.i m).S.K.1 37).trans (Fw.afp fl)
        have CF:=ab (fun m=>CP.i _ (ES.i m).R);clear es ew;simp only[mK,xZ,kX,bH,bP,jP,j4]
        repeat(go_big_quiet_step ((first|(go_at_call 33;(with_reducible refine(CF.i _).g ?_);rintro e w2 ⟨rfl,hb⟩;exact⟨rfl,EW.i _ _ hb⟩))))
        exact gK rfl
       ·intro w9 w8 zK _ hb
        have ZN:=ab ((zK.new jg.ay 62).go hb);have hyy:=ab zK;have hy:=zK.R.j;have hyv:=ab (fun p (hp:p∈[(y,fl.ay),(W.a.j+1,jg.ay),(W.a.j,t.ay)])=>((zK.2 p hp).2.lt:p.1<w9.a.j));generalize w9.a.j=y_1 at *;clear hb zK;have yE:=ZN.i.S.M 0 27 (aX (Bk.G jg).symm);refine⟨gT w8 y_1 0 b.ay,?_,?_⟩
        ·simp[go_sem,yE];rfl
        simp only[Act.put,bI,bH,bP,jQ,kY];have Z7:=ab (ZN.i.put (fun p hp=>jL (hyv.i p hp)) b.ay (by rw[Bk.G,Bk.G]));have HYC:=ab (fun p hp=>hyv.i p hp);clear yE ZN hyy hyv CP;generalize gT w8 y_1 0 b.ay=w11 at Z7 ⊢;go_step;go_step;go_step;cases K with
        | false=>
          have HN:=ab (show NH s t=none by unfold NH;rw[<-HO2.i];simp only;rw[HK.i];rfl);go_wp2_with fail;go_meet
          case rel=>exact⟨HN.i,Z7.i.sub (L':=[(W.a.j+1,jg.ay),(W.a.j,t.ay)]) (by simp)⟩
        | true=>
          have HN:=ab (show I9 e s t=some (b,true)by
           have:NH s t=some fl.E:=auF HO2.i.symm HK.i HD.i;unfold I9;rw[this];simp only;rw[GU.i])
          have lb:=Z7.i.S.avd;have th:=Z7.i.b2.M 0 27 (aX (Bk.G jg).symm);have Z8:=ab ((Z7.i.sub (L':=[(W.a.j+1,jg.ay),(W.a.j,t.ay)]) (by simp)).put (fun p hp=>by simp at hp;subst hp;simp) b.ay (by rw[Bk.G,Bk.G]));go_wp2;refine aN (kBk.qC rfl _ rfl Z8.i.S (Bk.G _)) rfl ?_;rw[HN.i];exact⟨rfl,Z8.i.R⟩
  obtain⟨hn,Zc⟩:=hcut;have HN:=ab hn;have Zc:=ab Zc;have hok:=avc HI.i;obtain⟨hh,hhe⟩:∃v,v=xQ e.key (LW t):=⟨_,rfl⟩
  have hhl:hh<18446744073709551616:=by rw[hhe];exact anu _ _
  have CH:=ab (fun w=>Rj e.key t HT.i w);rw[<-hhe]at CH;obtain⟨r,hr⟩:=cB (Gw (zM e s) hh);have CK:=ab (fun w (hb:aL W.a.j W w)=>show aP ah 35 #[.d x.h.ay,.b .u64 (hh:Nat)] w fun e w'=>e=.a (.J #[.g (bT (r.c [])),.e r.isSome])/\aL w.a.j w w' by
   rw[<-anv,hr];exact agk (zM e s) hok.1 hh hhl x.h.sJ x.h.ru x.h.BJ x.h.qM x.h.pX x.h.yc w (H.i.tt.go hb) (by have:=H.i.tt.2.1;omega) (by have:=H.i.tt.1.1;omega))
  have HRR:=ab (show Gw (zM e s) (aht e t)=r by rw[hr,hhe];rfl);clear hn hok hhe hhl hr Z6 hz hyW;generalize wc=w12 at Zc ⊢;go_wp2_with fail;obtain⟨T,f,n0,E0,es,ew⟩:=xC (w12);have hT:Nonempty T:=⟨n0⟩
  have ES:=ab es;have EW:=ab ew;have l1:=fun m=>pF (Zc.i.go (es m)).b1
  have l2:=fun m=>kTc.Dj (H.i.b.eg.go (Zc.i.go (es m)).R) 75 (Eg.ank _) (by rw[Eg.G];omega)
  have l3:∀m,(xI 22 (.c (some ⟨q,0,none⟩))).I ah (f m) = .Z (.d (jd e.key)) (f m):=fun m=>by have:=Wq.Dj (H.i.b.eg.go (Zc.i.go (es m)).R) 0 (Eg.abk _) (by rw[Eg.G];omega);rw[H.i.b.key]at this;exact this
  have CK2:=ab (fun m=>CK.i (f m) (Zc.i.go (es m)).R);clear es ew;refine nL f (by kernel_rfl) (by kernel_rfl) n0 E0 ?_
  repeat(go_big_quiet_step ((first|(go_at_call 36;(with_reducible refine(CH.i _).g ?_);rintro e w2 ⟨rfl,hb⟩;exact⟨rfl,EW.i _ ((ES.i _).trans (hb.g (ES.i _).j))⟩)|(go_at_call 35;(with_reducible refine(CK2.i _).g ?_);rintro e w2 ⟨rfl,hb⟩;exact⟨rfl,EW.i _ ((ES.i _).trans (hb.g (ES.i _).j))⟩))))
  refine gK ?_;rintro _ ⟨m',rfl⟩;have HB:=ab (ES.i m');generalize f m'=wN at *;clear ES EW E0 hT n0;clear l1 l2 l3 CK2;have Z9:=ab (Zc.i.go HB.i);clear Zc HB CK CH;cases r with
  | none=>
    have HE:=ab (show I9 e s t=none by unfold I9;rw[HN.i];simp only;rw[HRR.i];rfl);go_wp2;rw[HE.i];exact⟨rfl,rfl,Z9.i.R⟩
  | some n=>
    obtain⟨K,hK⟩:=tN (sM s.X n);obtain⟨b,hb⟩:=tN (qc s.X n);have HE:=ab (show I9 e s t=some (b,false)by unfold I9;rw[HN.i];simp only;rw[HRR.i,Option.map_some,hb]);have CP:=ab (H.i.Vr HI.i Z9.i.R n K b hK hb);have l1:=H.i.b.agp Z9.i.R;clear hK hb;go_wp2_with (go_at_call 33;(with_reducible refine CP.i.g ?_);rintro r w13 ⟨rfl,azs⟩;have Z10:=ab ((Z9.i.go azs).new b.ay 62);have lb:=Z10.i.S.avd;have th:=Z10.i.b1.M 0 27 (aX (Bk.G jg).symm);clear azs l1);have Z8:=ab ((Z10.i.sub (L':=[(W.a.j+1,jg.ay),(W.a.j,t.ay)]) (by simp)).put (fun p hp=>by simp at hp;subst hp;simp) b.ay (by rw[Bk.G,Bk.G]));refine aN (kBk.qC rfl _ rfl Z8.i.S (Bk.G _)) rfl ?_;rw[HE.i];exact⟨rfl,Z8.i.R⟩
end
section
attribute [local go_sem high] iY jH
theorem azt:ai8 351:=⟨fun c w=>by
 go_enter Tryz.func351,Tryz.ntmps351;go_wp2;go_ret;exact⟨rfl,rfl⟩,fun args w=>by kernel_rfl⟩
theorem aj3(s:Bool)(a:fC)(w:ak):aP ah 307 #[.e s,.d a.ay] w (gD w (.e (a.h==s&&(s||a.mJ)))):=by
 have HB:=ab ((aG w.a.j w).alloc (av _) (.D a.ay 27));have x0:=dK.new w a.ay 27;have C:=ab (ahl _ azt _ 12 12 _ _ _ (by omega) (fU.tail (B:=w.a.j+1) (mF _) x0));have HS:=ab (JR a);obtain⟨z,hz⟩:=cB (nzB (a.b.a.f 4));rw[<-hz]at C HS;clear hz;have HZ:=ab (show a.mJ = !z by rw[HS.i];simp);rw[HZ.i];obtain⟨x1,x2,x3,x4⟩:=x0.K;have a0:=fC.qw a;cases s<;>cases h6:a.h
 all_goals
  rw[h6]at a0;go_enter Tryz.func307,Tryz.ntmps307
  first
   | (go_wp2
      go_ret;exact⟨rfl,HB.i⟩)
   | (go_wp2_with fail
      refine C.i.g ?_;rintro e w' ⟨rfl,rfl⟩;cases z
      all_goals
       go_wp2;go_ret;exact⟨rfl,HB.i⟩)
theorem WM(W:ak)(A:Option aT)(n c:Nat)(l:List UInt8)(k:Nat)(hk:k+1<n)(hnc:n<=c)(hc:c<=9223372036854775807/\n<=1000000)(hr:fU W W.a.j A n l):aP ah 312 #[.a A n c,.b .a k] W (gD W (.b .u16 (eZ l k:Nat))):=by
 have hl:=hr.len;have h0:=ab (vE l k);have h1:(k:Int)+2<=c:=by omega
 have h2:(k:Int)<=(k:Int)+2:=by omega
 obtain⟨m,hm⟩:∃m:Nat,m=k+2:=⟨_,rfl⟩
 have h3:(k:Int)+2=m:=by omega
 have w1:=jS ((k:Int)+2) (by omega);have h4:(k:Int)<=m:=by omega
 have h5:(m:Int)<=c:=by omega
 have P:=hr.adi (z:=k) (b:=m) (c:=c) (by omega) (by omega) hnc;have e2:(l.d m).f k=(l.f k).d 2:=by rw[rb,hm,jN]
 rw[e2]at P;have C:=ab (Md _ (m-k) (c-k) _ W (by omega) (by omega) P);rw[IX l k (by omega)]at C;have h6:Dm.wrap (eZ l k:Nat)=(eZ l k:Nat):=by have:=h0.i;simp[vI,nP,lT];omega
 generalize eZ l k=x at *;clear P hr e2 hm;go_enter Tryz.func312,Tryz.ntmps312;go_wp2_with (go_at_call 180;with_reducible refine C.i.g ?_;rintro e w' ⟨rfl,hb⟩);go_ret
 first
 | exact⟨rfl,hb⟩
 | exact⟨congrArg (fun z=>Ending.returned (.b .u16 z)) h6,hb⟩
theorem Gi{B:Nat}{L:List (Nat×Array aB)}{w0 W:ak}{A:Option aT}{c:Nat}{bs:List UInt8}(h:Ly B L w0 W (.a A bs.a c) bs)(k z:Nat)(hz:z<=65535)(hk:k+2<=bs.a)(hl:bs.a<=1000000):aP ah 310 #[.a A bs.a c,.b .a k,.b .u16 z] W fun e W'=>e=.a (.J #[])/\Ly B L w0 W' (.a A bs.a c) (rX bs k (qg z)):=by
 obtain⟨g,hg1,hg2,hg3,hg4,hg5⟩:=h.h (by omega);subst hg1;have LD:=ab h.drew;have q7:jy.wrap (z:Int)=(z:Int):=by rw[jU];omega
 have PZ:=ab (fun W=>wm z hz W);rw[uU z hz]at PZ;obtain⟨n,hn⟩:=cB bs.a;have HN:=ab hn;rw[<-hn]at LD hg3 hk hl ⊢;have k1:(k:Int)<=n:=by omega
 have HP:=ab (show 0<2->∃g',(some ⟨g,0,none⟩:Option aT)=some ⟨g',0,none⟩/\vF (some ⟨g,0,none⟩) k c 1=some ⟨g',k,none⟩from fun _=>⟨g,rfl,Qt (n:=0) (by omega)⟩);have HZ:=ab (show k+2<=bs.a by omega);have HM:=ab (show 2=ql 2 (n-k)by show 2=min 2 (n-k);omega);clear hn hg2 h;go_enter Tryz.func310,Tryz.ntmps310;go_wp2_with fail;go_region_held_law (fun _=>True) (trivial)
  (first
  | (go_at_call 184;(with_reducible refine(PZ.i _).g ?_);rintro e w9 ⟨A9,rfl,ho,hb⟩;have R9:=ab (Db ho (aG _ _));have L9:=ab (LD.i.go hb);clear ho hb)
  | (refine NG (o:=⟨some 12,_,_,_,_,_⟩) rfl (.a 8) (.a 11) rfl (some ⟨g,0,none⟩) n c L9.i k 2 (vF (some ⟨g,0,none⟩) k c 1) (n-k) (c-k) rfl A9 2 2 rfl R9.i HM.i HP.i HZ.i ?_;intro w10 h10 h11;have L10:=ab h10;clear h10 h11))
 go_wp2;go_end0;exact⟨rfl,L10.i⟩
end
structure Pz where
 h:Int
 j:Int
 mR:Int
def Pz.ay(x:Pz):Array aB:=#[.b .a x.h,.b .a x.j,.b .a x.mR]
theorem Pz.G(x:Pz):x.ay.j=3:=by simp[Pz.ay]
theorem Pz.cO(x:Pz):x.ay.all (·.h)=true:=by simp[Pz.ay,cZ]
@[go_sem]theorem Pz.dY(x:Pz):dY x.ay=3:=Pz.G x
@[go_sem]theorem Pz.Dc(x:Pz):x.ay[0]? = some (.b .a x.h):=by simp[Pz.ay,aD]
@[go_sem]theorem Pz.FT(x:Pz):x.ay[1]? = some (.b .a x.j):=by simp[Pz.ay,aD]
@[go_sem]theorem Pz.JM(x:Pz):x.ay[2]? = some (.b .a x.mR):=by simp[Pz.ay,aD]
theorem Pz.ad4(x:Pz)(v:Int):x.ay.b 0 (.b .a v)=({x with h:=v}:Pz).ay:=by simp[Pz.ay,aM]
theorem Pz.ad5(x:Pz)(v:Int):x.ay.b 2 (.b .a v)=({x with mR:=v}:Pz).ay:=by simp[Pz.ay,aM]
def abz:Pz:=⟨0,0,0⟩
@[go_sem]theorem azu:bY #[aI bR 0,aI bR 0,aI bR 0]=bY abz.ay:=rfl
@[go_sem]theorem ave:eB #[aI bR 0,aI bR 0,aI bR 0] 376=eB abz.ay 376:=rfl
theorem kPz:oO 376 3 abz.ay:=⟨⟨_,Dw,rfl⟩,by kernel_rfl,by kernel_rfl,Pz.G _⟩
@[go_sem ↓]theorem aKK(v:aB):bZ 376 v=xI 376 v:=rfl
@[go_sem ↓]theorem aKL(v x:aB):eD 376 v x=yU 376 v x:=rfl
@[go_sem]theorem aEg(W:ak)(c:Array aB)(x:Pz)(b:Nat)(hb:b=W.a.j)(hc:dY c=3):(yU 376 (.c (some ⟨b,0,none⟩)) (.d x.ay)).I ah (W.alloc (.D c 376)) = .Z () (W.alloc (.D x.ay 376)):=kPz.stN W c x.ay b hb hc (Pz.G x) (Pz.cO x)
@[go_sem]theorem aHk(W:ak)(b o:Nat)(x:Pz)(h:W.M b o 3):(yU 376 (.c (some ⟨b,o,none⟩)) (.d x.ay)).I ah W = .Z () (gT W b o x.ay):=kPz.st W b o x.ay h (Pz.G x) (Pz.cO x)
@[go_sem ↓]theorem aKM(ps:Array (Nat×aB)):fM 376 ps=uH 376 ps:=rfl
theorem aEh(w:ak)(fs:Array nS)(h:ah.underlying 376=some (.struct fs)):(iy (fun f=>Prod.mk f.Y <$> sizeOf f.type) fs:Sem (Array (Nat×Nat))).I ah w = .Z #[(0,1),(1,1),(2,1)] w:=by
 have e:=Dw;rw[h]at e;cases e;show _=_
 kernel_rfl
@[go_sem]theorem azv(W:ak)(iT:Int)(size:Int)(mR:Int):(uH 376 #[(0,.b .a iT),(1,.b .a size),(2,.b .a mR)]).I ah W = .Z (.d (Pz.mk iT size mR).ay) W:=kPz.bd W _ _ _ _ Dw (aEh W _ Dw) (by
 refine uQ (Pz.G _) ?_ ?_
 ·simp[rF,cK]
 ·simp[qP,cK,Pz.ay]<;>(simp only[<-fV];rfl))
def Au(p:Pk)(dst:Bool):Pz:=⟨(p.Cm+if p.J.h.h then 8 else 12)+(if dst then(if p.J.h.h then 16 else 4)else 0),if p.J.h.h then 16 else 4,p.sV+if dst then 2 else 0⟩
theorem ad6(p:Pk)(dst:Bool)(h1:0<=p.Cm/\p.Cm<=10000000)(h2:0<=p.sV/\p.sV<=10000000)(w:ak):aP ah 309 #[.d p.ay,.e dst] w (gD w (.d (Au p dst).ay)):=by
 have h0:=((Bx.start w).new p.ay 83).new abz.ay 376;rw[show(w.alloc (.D p.ay 83)).a.j=w.a.j+1 by simp]at h0;have Z0:=ab h0;have HV:=ab (show Au p dst=⟨(p.Cm+if p.J.h.h then 8 else 12)+(if dst then(if p.J.h.h then 16 else 4)else 0),if p.J.h.h then 16 else 4,p.sV+if dst then 2 else 0⟩from rfl);clear h0;have KS:=ab (fun(w':ak) (h:dK w' w.a.j p.ay)=>show w'.b ⟨w.a.j,1,none⟩=some (.e p.J.h.h)/\w'.b ⟨w.a.j,39,none⟩=some (.b .a p.Cm)/\w'.b ⟨w.a.j,40,none⟩=some (.b .a p.sV)from⟨(h.K.1 1).trans (by simp[Pk.ay,Tu.ay,aD,fC.G,Tu.G];rfl),(h.K.1 39).trans (Pk.amd p),(h.K.1 40).trans (Pk.ame p)⟩);go_enter Tryz.func309,Tryz.ntmps309;go_upto_region 1 with fail
 generalize(w.alloc (.D p.ay 83)).alloc (.D abz.ay 376)=w0 at Z0 ⊢;obtain⟨f1,f2,f3⟩:=KS.i _ Z0.i.b1;have q1:=jS (p.Cm+12) (by omega);have q2:=jS (p.Cm+8) (by omega);have P0:=ab (Z0.i.new (Pz.mk (p.Cm+12) 4 p.sV).ay 376);have hy:=Z0.i.S.lt;go_upto_region 2 with fail
 generalize w0.alloc (.D (Pz.mk (p.Cm+12) 4 p.sV).ay 376)=w1 at P0 ⊢;generalize w0.a.j=y at P0 hy ⊢;clear f1 f2 f3;obtain⟨f1,f2,f3⟩:=KS.i _ P0.i.b2;cases hs:p.J.h.h
 case false=>
  rw[hs]at f1;cases hd:dst
  case false=>
   go_upto_region 7 with fail
   have l5:=kPz.nC P0.i.S (Pz.G _);have yE:=P0.i.b1.M 0 3 (aX (Pz.G abz).symm);have ZF:=ab ((P0.i.swap).put (fun r hr=>by
    simp only[bg,fO,or_false]at hr;rcases hr with rfl|rfl<;>simp only[]<;>omega) (Pz.mk (p.Cm+12) 4 p.sV:Pz).ay (by rw[Pz.G,Pz.G]))
   go_wp2;refine aN (kPz.yV rfl _ rfl ZF.i.S (Pz.G _)) rfl ?_;refine⟨?_,ZF.i.R⟩;simp[Au,hs,hd]
  case true=>
   have c0:=(P0.i.S.K.1 0).trans (Pz.Dc _);have c1:=(P0.i.S.K.1 1).trans (Pz.FT _);have z0:=P0.i.S.K.2.1 0;have q5:=jS (p.Cm+12+4) (by omega);have P1:=P0.i.set (fun r hr=>by
    simp only[bg,fO,or_false]at hr;rcases hr with rfl|rfl<;>simp only[]<;>omega) 0 (.b .a (p.Cm+12+4))
   rw[Pz.ad4]at P1;have P1:=ab P1;go_upto_region 6 with fail
   clear c0 c1 z0;generalize w1.F ⟨y,0,none⟩ (.b .a (p.Cm+12+4))=w8 at P1 ⊢;have c2:=(P1.i.S.K.1 2).trans (Pz.JM _);have z2:=P1.i.S.K.2.1 2;have q6:=jS (p.sV+2) (by omega);have P2:=P1.i.set (fun r hr=>by
    simp only[bg,fO,or_false]at hr;rcases hr with rfl|rfl<;>simp only[]<;>omega) 2 (.b .a (p.sV+2))
   rw[Pz.ad5]at P2;have P2:=ab P2;go_upto_region 7 with fail
   clear c2 z2;generalize w8.F ⟨y,2,none⟩ (.b .a (p.sV+2))=w9 at P2 ⊢;have l5:=kPz.nC P2.i.S (Pz.G _);have yE:=P2.i.b1.M 0 3 (aX (Pz.G abz).symm);have ZF:=ab ((P2.i.swap).put (fun r hr=>by
    simp only[bg,fO,or_false]at hr;rcases hr with rfl|rfl<;>simp only[]<;>omega) (Pz.mk (p.Cm+12+4) 4 (p.sV+2):Pz).ay (by rw[Pz.G,Pz.G]))
   go_wp2;refine aN (kPz.yV rfl _ rfl ZF.i.S (Pz.G _)) rfl ?_;refine⟨?_,ZF.i.R⟩;simp[Au,hs,hd]
 case true=>
  rw[hs]at f1;have aEi:=P0.i.S.M 0 3 (aX (Pz.G _).symm);have Q0:=ab (P0.i.put (fun r hr=>by
   simp only[bg,fO,or_false]at hr;rcases hr with rfl|rfl<;>simp only[]<;>omega) (Pz.mk (p.Cm+8) 16 p.sV).ay (by rw[Pz.G,Pz.G]))
  go_upto_region 4 with fail
  clear f1 f2 f3 aEi;generalize gT w1 y 0 (Pz.mk (p.Cm+8) 16 p.sV).ay=w2 at Q0 ⊢;cases hd:dst
  case false=>
   go_upto_region 7 with fail
   have l5:=kPz.nC Q0.i.S (Pz.G _);have yE:=Q0.i.b1.M 0 3 (aX (Pz.G abz).symm);have ZF:=ab ((Q0.i.swap).put (fun r hr=>by
    simp only[bg,fO,or_false]at hr;rcases hr with rfl|rfl<;>simp only[]<;>omega) (Pz.mk (p.Cm+8) 16 p.sV:Pz).ay (by rw[Pz.G,Pz.G]))
   go_wp2;refine aN (kPz.yV rfl _ rfl ZF.i.S (Pz.G _)) rfl ?_;refine⟨?_,ZF.i.R⟩;simp[Au,hs,hd]
  case true=>
   have c0:=(Q0.i.S.K.1 0).trans (Pz.Dc _);have c1:=(Q0.i.S.K.1 1).trans (Pz.FT _);have z0:=Q0.i.S.K.2.1 0;have q5:=jS (p.Cm+8+16) (by omega);have P1:=Q0.i.set (fun r hr=>by
    simp only[bg,fO,or_false]at hr;rcases hr with rfl|rfl<;>simp only[]<;>omega) 0 (.b .a (p.Cm+8+16))
   rw[Pz.ad4]at P1;have P1:=ab P1;go_upto_region 6 with fail
   clear c0 c1 z0;generalize w2.F ⟨y,0,none⟩ (.b .a (p.Cm+8+16))=w8 at P1 ⊢;have c2:=(P1.i.S.K.1 2).trans (Pz.JM _);have z2:=P1.i.S.K.2.1 2;have q6:=jS (p.sV+2) (by omega);have P2:=P1.i.set (fun r hr=>by
    simp only[bg,fO,or_false]at hr;rcases hr with rfl|rfl<;>simp only[]<;>omega) 2 (.b .a (p.sV+2))
   rw[Pz.ad5]at P2;have P2:=ab P2;go_upto_region 7 with fail
   clear c2 z2;generalize w8.F ⟨y,2,none⟩ (.b .a (p.sV+2))=w9 at P2 ⊢;have l5:=kPz.nC P2.i.S (Pz.G _);have yE:=P2.i.b1.M 0 3 (aX (Pz.G abz).symm);have ZF:=ab ((P2.i.swap).put (fun r hr=>by
    simp only[bg,fO,or_false]at hr;rcases hr with rfl|rfl<;>simp only[]<;>omega) (Pz.mk (p.Cm+8+16) 16 (p.sV+2):Pz).ay (by rw[Pz.G,Pz.G]))
   go_wp2;refine aN (kPz.yV rfl _ rfl ZF.i.S (Pz.G _)) rfl ?_;refine⟨?_,ZF.i.R⟩;simp[Au,hs,hd]
section
attribute [local go_sem high] iY jH
@[go_sem]theorem Pk.avf(x:Pk):x.ay[1]? = some (.e x.J.h.h):=by simp[Pk.ay,Tu.ay,aD,fC.G,Tu.G];rfl
@[go_sem]theorem Pk.azw(x:Pk):x.ay[35]? = some (.b .a x.J.aQ):=by simp[Pk.ay,Tu.ay,tuT,aD,fC.G,Tu.G]
theorem WO(l:List UInt8)(A:Option aT)(n c:Nat)(w:ak)(hR:fU w w.a.j A n l)(hn:n<=1073741824):
 aP ah 308 #[.a A n c] w (ClY w n l):=by
 have hll:=hR.len;cases A with
 | some a=>
   have hnil:∀W:ak,(binOp .eql 56 (.a (some a) n c) (.a none 0 0)).I ah W = .Z (.e false) W:=fun W=>by
    simp only[binOp];simp[jc,cu]
   obtain⟨i0,hi0,hz0,hz1,hzb⟩:=zi Ia;have hz2:(aI .u8 0).D.j=1:=rfl;have O1:=ab (show(w.alloc (.D #[] 5)).c w.a.j 5 1 (.a (some ⟨w.a.j,0,none⟩) 0 0) 0 []from nU w #[] 0 (av _) (by unfold maxLen;omega) rfl);have O2:=ab (hR.alloc (av _) (.D #[] 5));have S9:=ab (show 0+n<=maxLen by unfold maxLen;omega);have OQ:=ab (show(0+n)*1<=140737488355328 by omega);have O3:=ab (show w.a.j<=(w.alloc (.D #[] 5)).a.j by simp);have ON:=ab (EZ l);clear hR hll;go_enter Tryz.func308,Tryz.ntmps308;go_wp2_with (at_builtin;refine jv _ rfl (.a 5) (.a 6) _ rfl w.a.j 5 i0 (.b .u8 0) 1 1 cu hi0 hz0 hz1 hzb hz2 (mH _) (.a (some ⟨w.a.j,0,none⟩) 0 0) 0 [] rfl O1.i w.a.j (some a) n c (l.map bv) rfl O2.i ON.i S9.i OQ.i O3.i ?_;intro v1 w1 hown1 hg1 wM);obtain⟨A',c',hv,_,_⟩:=jE hown1;subst hv;simp only[bB,dF]at hown1;have hb:=sj ((aG w.a.j w).alloc (av _) (.D #[] 5)) hg1 (av _) O3.i;go_wp2;go_ret;exact⟨A',c',by simp,hown1,hb⟩
 | none=>
   have h0:n=0:=by
    rcases eu n with h0|h0
    ·exact h0
    ·obtain⟨a,ha,_⟩:=hR.2 h0;cases ha
   subst h0;have hl:l=[]:=bE hll;subst hl;have hnil:∀W:ak,(binOp .eql 56 (.a none 0 c) (.a none 0 0)).I ah W = .Z (.e true) W:=fun W=>by
    simp only[binOp];simp[jc,cu]
   have FIN:=ab (show ClY w 0 [] (.a (.a none 0 0)) w from⟨none,0,rfl,fu _ _ _ _,aG _ _⟩);clear hR hll;go_enter Tryz.func308,Tryz.ntmps308;go_wp2;go_ret;exact FIN.i
theorem agq{l:List UInt8}{p:Pk}(h:amy l p)(dst:Bool):Au p dst=⟨(adt p dst:Nat),(vU p:Nat),(Gc p dst:Nat)⟩/\adt p dst+vU p<=p.FU.e/\Gc p dst+2<=p.FU.e/\vU p<=16/\4<=vU p:=by
 obtain⟨_,h1,h2,h3,h4,_⟩:=h;unfold Au adt vU Gc;rcases h3 with h3|h3
 ·rw[if_pos h3]at h4
  cases hs:p.J.h.h<;>cases dst<;>rw[hs]at h2<;>simp at h2⊢<;> omega
 ·rw[if_neg (by rw[h3];decide)]at h4
  cases hs:p.J.h.h<;>cases dst<;>rw[hs]at h2<;>simp at h2⊢<;> omega
def aj4(l:List UInt8)(a:fC)(q:Int)(dst:Bool):List UInt8×Int:=(aa9 l a q dst,if Rf l a q then 0 else 1)
theorem WQ(w:ak)(A:Option aT)(n c:Nat)(l:List UInt8)(a:fC)(q:Int)(dst:Bool)(hnc:n<=c)(hc:c<=9223372036854775807/\n<=1000000)(hr:fU w w.a.j A n l):aP ah 267 #[.a A n c,.d a.ay,.b .a q,.e dst] w (ajl w (aj4 l a q dst)):=by
 have Z0:=ab ((Bx.start w).new a.ay 27);have HR:=ab hr;have hl:=ab hr.len;have CR:=ab (I8 _ A n c l hnc (by omega) (Z0.i.Lv hr));have HV:=ab (show aa9 l a q dst=if Rf l a q then rw3 l (vT l) a q.e dst else []from rfl);have HK:=ab (show Rf l a q=((vT l).kind==0&&(a.h==(vT l).J.h.h&&((vT l).J.h.h||a.mJ))&&(decide (0<=q)&&decide (q<=65535)))from rfl);have HF:=ab (NC (l:=l));clear hr;go_enter Tryz.func267,Tryz.ntmps267;go_upto_region 1 with fail
 generalize w.alloc (.D a.ay 27)=w1 at Z0 CR ⊢;obtain⟨p,hp⟩:=cB (vT l);have HP:=ab hp;unfold PkP at CR;rw[<-hp]at CR HV HK HF;clear hp;go_upto_region 2 with(go_at_call 32;(with_reducible refine CR.i.g ?_);rintro e w2 ⟨rfl,hb⟩;have Z2:=ab ((Z0.i.go hb).new p.ay 83);have HY:=ab (Z0.i.go hb).S.lt;clear hb)
 generalize w2.alloc (.D p.ay 83)=w3 at Z2 ⊢;generalize w2.a.j=y at *;have KS:=ab (fun(w':ak) (h:Bx [(y,p.ay),(w.a.j,a.ay)] w w')=>show w'.b ⟨y,0,none⟩=some (.b .a p.kind)/\w'.b ⟨y,1,none⟩=some (.e p.J.h.h)/\(rE (.c (some ⟨w.a.j,0,none⟩))).I ah w' = .Z (.d a.ay) w' from⟨(h.S.K.1 0).trans (Pk.zq p),(h.S.K.1 1).trans (Pk.avf p),h.b1.ahw⟩);obtain⟨f1,f2,f3⟩:=KS.i _ Z2.i;have CO:=ab (aj3 p.J.h.h a w3);have ZG:=ab (fun w' (hb:aL w3.a.j w3 w')=>Z2.i.go hb);have NO:=ab (show Rf l a q=false->aj4 l a q dst=([],1)from fun h=>by unfold aj4;rw[HV.i,h];rfl);cases hk0:(p.kind==0)
 ·have k1:(p.kind != 0)=true:=by rw[bne,hk0];rfl
  have HN:=ab (NO.i (by rw[HK.i,hk0];rfl));clear hk0;go_wp2;go_ret2;rw[HN.i];exact⟨none,0,0,rfl,Jb _,Z2.i.R⟩
 have k1:(p.kind != 0)=false:=by rw[bne,hk0];rfl
 cases ho:(a.h==p.J.h.h&&(p.J.h.h||a.mJ))
 ·rw[ho]at CO
  have HN:=ab (NO.i (by rw[HK.i,hk0,ho];rfl));clear hk0 ho;go_wp2_with (go_at_call 307;(with_reducible refine CO.i.g ?_);rintro e w4 ⟨rfl,hb⟩;have Z4:=ab (ZG.i _ hb);clear hb);go_ret2;rw[HN.i];exact⟨none,0,0,rfl,Jb _,Z4.i.R⟩
 rw[ho]at CO;by_cases hq:0<=q/\q<=65535
 ·obtain⟨hq0,hq1⟩:=hq
  have JA:=ab (show Rf l a q=true by rw[HK.i,hk0,ho,decide_eq_true hq0,decide_eq_true hq1];rfl);have HVO:=ab (show aj4 l a q dst=(rw3 l p a q.e dst,0)by unfold aj4;rw[HV.i,JA.i];rfl);have q1:decide (q<0)=false:=by simp;omega
  have q2:decide ((65535:Int)<q)=false:=by simp;omega
  have FN:=HF.i (by simpa using hk0);have HFN:=ab FN;obtain⟨g0,g1,g2,gp,g3,g4⟩:=FN;have g5:0<=p.FU/\p.FU<=n:=by have:=hl.i;split at g2<;>split at g3<;>omega
  obtain⟨en,hen⟩:∃m:Nat,p.FU=(m:Int):=⟨p.FU.e,by omega⟩
  have HEN:=ab hen;have en1:en<=n:=by omega
  have avg:=ab (show a.h=p.J.h.h by have:=ho;simp only[bl,beq_iff_eq]at this;exact this.1);clear hk0 ho g0 gp g1 g2 g3 g4 g5;go_upto_region 4 with(go_at_call 307;(with_reducible refine CO.i.g ?_);rintro e w4 ⟨rfl,hb⟩;have Z4:=ab (ZG.i _ hb);clear hb)
  have K2:=ab (fun(w':ak) (h:dK w' y p.ay)=>show w'.b ⟨y,41,none⟩=some (.b .a (en:Nat))/\w'.b ⟨y,35,none⟩=some (.b .a p.J.aQ)/\w'.b ⟨y,39,none⟩=some (.b .a p.Cm)/\w'.b ⟨y,40,none⟩=some (.b .a p.sV)from⟨(h.K.1 41).trans ((Pk.apF p).trans (by rw[HEN.i])),(h.K.1 35).trans (Pk.azw p),(h.K.1 39).trans (Pk.amd p),(h.K.1 40).trans (Pk.ame p)⟩);obtain⟨e1,_,_,_⟩:=K2.i _ Z4.i.S;have en2:(en:Int)<=c:=by omega
  have CB:=ab (WO (l.d en) A en c w4 ((Z4.i.Lv HR.i).upN en1) (by omega));go_upto_region 5 with(go_at_call 308;(with_reducible refine CB.i.g ?_);rintro e w5 ⟨A5,c5,rfl,TN,hb5⟩;have L5:=ab (Ly.amE (w0:=w) (L:=[(y,p.ay),(w.a.j,a.ay)]) TN Z4.i.R.j (Z4.i.R.trans (hb5.g Z4.i.R.j)) (fun r hr=>⟨((Z4.i.go hb5).2 r hr).2,(Z4.i.2 r hr).2.lt⟩));clear TN hb5)
  clear e1 f1 f2 f3;have l10:=kPk.nC L5.i.S (Pk.G _);have ER:=HFN.i;have CF:=ab (ad6 p dst ⟨by have:=ER.Cm;omega,by have h1:=ER.sV;have h2:=ER.FU;have h3:=ER.len;have:=hl.i;split at h1<;>split at h2<;>omega⟩ ⟨by have h1:=ER.sV;have h2:=ER.Cm;split at h1<;>omega,by have h2:=ER.FU;have h3:=ER.len;have:=hl.i;split at h2<;>omega⟩ w5);clear ER;go_upto_region 6 with(go_at_call 309;(with_reducible refine CF.i.g ?_);rintro e w6 ⟨rfl,hb⟩;have HW6:=ab (L5.i.go hb).S.lt;have L6:=ab ((L5.i.go hb).new (Au p dst).ay 376);clear hb)
  clear l10;obtain⟨pv,p1,p2,p3,p4⟩:=agq HFN.i dst;rw[HEN.i,dS]at p1 p2;rw[pv]at L6;obtain⟨pa,hpa⟩:∃v,v=adt p dst:=⟨_,rfl⟩
  obtain⟨ps,hps⟩:∃v,v=vU p:=⟨_,rfl⟩
  obtain⟨pp,hpp⟩:∃v,v=Gc p dst:=⟨_,rfl⟩
  have HPA:=ab hpa;have HPS:=ab hps;have HPP:=ab hpp;rw[<-hpa,<-hps,<-hpp]at L6;rw[<-hpa,<-hps]at p1;rw[<-hpp]at p2;rw[<-hps]at p3 p4;have PV:=ab (pv.trans (by rw[<-hpa,<-hps,<-hpp]:_=(⟨(pa:Nat),(ps:Nat),(pp:Nat)⟩:Pz)));rw[PV.i];clear hpa hps hpp pv;have hy6:y<w6.a.j:=HW6.i;clear HW6;generalize w6.alloc (.D (Pz.mk (pa:Nat) (ps:Nat) (pp:Nat)).ay 376)=w7 at L6 ⊢;generalize w6.a.j=y7 at L6 ⊢;have a0:=(L6.i.S.K.1 0).trans (Pz.Dc _);have a1:=(L6.i.S.K.1 1).trans (Pz.FT _);obtain⟨m1,hm1⟩:∃m:Nat,m=pa+ps:=⟨_,rfl⟩
  have s1:=jS ((pa:Int)+(ps:Int)) (by omega);have s2:(pa:Int)+(ps:Int)=m1:=by omega
  rw[s2]at s1;have s3:(pa:Int)<=m1:=by omega
  have s4:(m1:Int)<=c:=by omega
  have s5:(ps:Int)<=16:=by omega
  have HM1:=ab hm1;clear hm1;go_quiet (fail);obtain⟨wz,hwz⟩:=cB (w7.drewN nq);have L7:=ab (show Ly w.a.j [(y7,(Pz.mk (pa:Nat) (ps:Nat) (pp:Nat)).ay),(y,p.ay),(w.a.j,a.ay)] w wz (.a A5 en c5) (l.d en)by rw[hwz];exact L6.i.go (eH (aG _ _) nq));rw[<-hwz];clear hwz a0 a1 L6;have HLE:=ab (show(l.d en).a=en by rw[bK,hl.i];omega);obtain⟨g,hg1,hg2,hg3,hg4,hg5⟩:=L7.i.h (by rw[HLE.i];omega);subst hg1;clear hg2;have RTo:=ab ((LJ (o:=0) L7.i.b2 a (by have:=fC.G a;rw[<-this];simp)).upN p3);have s6:(pa:Int)<=en:=by omega
  have HP:=ab (show 0<ps->∃g',(some ⟨g,0,none⟩:Option aT)=some ⟨g',0,none⟩/\vF (some ⟨g,0,none⟩) pa c5 1=some ⟨g',pa,none⟩from fun _=>⟨g,rfl,Qt (n:=0) (by omega)⟩);have HM:=ab (show ps=ql ps (en-pa)by show ps=min ps (en-pa);omega);have HZ:=ab (show pa+ps<=(l.d en).a by rw[HLE.i];exact p1);have a0:=(L7.i.S.K.1 0).trans (Pz.Dc _);go_upto_region 8 with(refine LK rfl (.a 65) (.a 66) rfl L7.i pa ps rfl rfl RTo.i HM.i HP.i HZ.i ?_;intro w8 h8 h9;have L8:=ab h8;clear h8 h9)
  clear a0 HP HM HZ s6 RTo L7;obtain⟨o1,ho1⟩:∃o,o=rX (l.d en) pa ((a.b.a.d ps).d ps):=⟨_,rfl⟩
  have HO1:=ab ho1;have HL1:=ab (show o1.a=en by rw[ho1,Ev (by simp;rw[hl.i];omega),HLE.i]);rw[<-ho1]at L8;clear ho1;obtain⟨qn,hqn⟩:∃v:Nat,q=(v:Int):=⟨q.e,by omega⟩
  have HQN:=ab hqn;subst hqn;have q7:jy.wrap (qn:Int)=(qn:Int):=by rw[jU];omega
  have PZ:=ab (fun W=>wm qn (by omega) W);rw[uU qn (by omega)]at PZ;have s6:(pp:Int)<=en:=by omega
  have HP:=ab (show 0<2->∃g',(some ⟨g,0,none⟩:Option aT)=some ⟨g',0,none⟩/\vF (some ⟨g,0,none⟩) pp c5 1=some ⟨g',pp,none⟩from fun _=>⟨g,rfl,Qt (n:=0) (by omega)⟩);have HM:=ab (show 2=ql 2 (en-pp)by show 2=min 2 (en-pp);omega);have HZ:=ab (show pp+2<=o1.a by rw[HL1.i];exact p2);have KP:=ab (fun(w':ak) (h:dK w' y7 (Pz.mk (pa:Nat) (ps:Nat) (pp:Nat)).ay)=>show w'.b ⟨y7,2,none⟩=some (.b .a (pp:Nat))from(h.K.1 2).trans (Pz.JM _));have a2:=KP.i _ L8.i.S;go_region_held_law (fun w'=>w'.b ⟨y7,2,none⟩=some (.b .a (pp:Nat)))
   (first|exact KP.i _ L8.i.S.drew|exact KP.i _ L9.i.S|exact KP.i _ L10.i.S|go_keep)
   (first
   | (go_at_call 184;(with_reducible refine(PZ.i _).g ?_);rintro e w9 ⟨A9,rfl,ho,hb⟩;have R9:=ab (Db ho (aG _ _));have L9:=ab (L8.i.drew.go hb);clear ho hb)
   | (refine NG (o:=⟨some 75,_,_,_,_,_⟩) rfl (.a 71) (.a 74) rfl (some ⟨g,0,none⟩) en c5 L9.i pp 2 (vF (some ⟨g,0,none⟩) pp c5 1) (en-pp) (c5-pp) rfl A9 2 2 rfl R9.i HM.i HP.i HZ.i ?_;intro w10 h10 h11;have L10:=ab h10;clear h10 h11))
  clear a2 q7 s6 HP HM HZ KP PZ L8;obtain⟨o2,ho2⟩:∃o,o=rX o1 pp ((qg (qn:Int)).d 2):=⟨_,rfl⟩
  have HO2:=ab ho2;have HL2:=ab (show o2.a=en by rw[ho2,Ev (by rw[HL1.i];exact p2),HL1.i]);rw[<-ho2]at L10;clear ho2;have a6:=(L10.i.b2.K.1 0).trans (fC.qw a);have ER:=HFN.i;obtain⟨N,hN⟩:∃N:Nat,p.Cm=(N:Int):=⟨p.Cm.e,by have:=ER.Cm;omega⟩
  obtain⟨S,hS⟩:∃S:Nat,p.sV=(S:Int):=⟨p.sV.e,by have:=ER.Cm;have:=ER.sV;split at this<;>omega⟩
  have hNS:N+20<=S:=by have:=ER.sV;split at this<;>omega
  have aKO:14<=N:=by have:=ER.Cm;omega
  obtain⟨pl,hpl⟩:∃v,v=Dg p.J.aQ:=⟨_,rfl⟩
  have aKP:S+pl+2<=en/\6<=pl/\pl<=16:=by
   have h1:=ER.FU;have h2:=HEN.i;rw[hpl];unfold Dg;rcases ER.pro with h|h<;>rw[h]at h1⊢<;> simp at h1⊢<;> omega
  have HP6:=ab (show(if p.J.aQ=6 then(16:Int)else if p.J.aQ=17 then 6 else 0)=(pl:Int)by rw[hpl];unfold Dg;split;rfl;split<;>rfl);have HPL:=ab hpl;have HNN:=ab hN;have HSS:=ab hS;clear ER hpl;obtain⟨o3,ho3⟩:∃o,o=if a.h then o2 else rX o2 (N+10) (qg ((om (eZ l (N+10)) ((l.d (pa+ps)).f pa) (a.b.a.d ps):Nat):Int)):=⟨_,rfl⟩
  have HO3:=ab ho3;have HL3:=ab (show o3.a=en by rw[ho3];split;exact HL2.i;rw[Ev (by rw[HL2.i];show N+10+2<=en;omega),HL2.i]);clear ho3;rw[show m1-pa=ps by omega];go_upto_if 78 with fail
  go_cut []from 76 to 91 (fun wx=>Ly w.a.j [(y7,(Pz.mk (pa:Nat) (ps:Nat) (pp:Nat)).ay),(y,p.ay),(w.a.j,a.ay)] w wx (.a (some ⟨g,0,none⟩) en c5) o3)
  case first=>
   cases h6:a.h
   case true=>
    rw[h6]at HO3;have L12:=ab L10;go_wp2;go_meet
    case rel=>rw[HO3.i];exact L12.i.i
   case false=>
    rw[h6]at HO3;have hpe:ps%2=0:=by rw[HPS.i];unfold vU;split<;>rfl
    obtain⟨nk,hnk⟩:∃v,v=N+10:=⟨_,rfl⟩
    have e10:(N:Int)+10=(nk:Int):=by omega
    have i10:=jS (nk:Int) (by omega);have RI:=ab (fun(w':ak) (h:Ly w.a.j [(y7,(Pz.mk (pa:Nat) (ps:Nat) (pp:Nat)).ay),(y,p.ay),(w.a.j,a.ay)] w w' (.a (some ⟨g,0,none⟩) en c5) o2)=>show fU w' w'.a.j A n l from HR.i.upon h.o.R);have CS:=ab (WM _ A n c l nk (by omega) hnc hc (RI.i _ L10.i.drew));have CC:=ab (fun(w':ak) (h:Ly w.a.j [(y7,(Pz.mk (pa:Nat) (ps:Nat) (pp:Nat)).ay),(y,p.ay),(w.a.j,a.ay)] w w' (.a (some ⟨g,0,none⟩) en c5) o2)=>Iw w' (vF A pa c 1) (some ⟨w.a.j,1,none⟩) (m1-pa) (c-pa) 16 w'.a.j w'.a.j (eZ l nk) ((l.d m1).f pa) (a.b.a.d ps) (vE l nk) (by omega) (by omega) ((RI.i w' h).adi (by omega) (by omega) hnc) (by rw[show m1-pa=ps by omega];exact(LJ (o:=0) h.b2 a (by have:=fC.G a;rw[<-this];simp)).upN p3));rw[show m1-pa=ps by omega]at CC;rw[HM1.i]at CC;obtain⟨cn,hcn⟩:∃v,v=om (eZ l nk) ((l.d (pa+ps)).f pa) (a.b.a.d ps):=⟨_,rfl⟩
    have aEm:cn<=65535:=by rw[hcn];exact Cz _ _ _ (vE l nk)
    rw[<-hcn]at CC;have HO4:=ab (show o3=rX o2 nk (qg (cn:Int))by rw[HO3.i,hcn,hnk];rfl);obtain⟨n2,hn2⟩:∃v,v=o2.a:=⟨_,rfl⟩
    have CT:=ab (fun(w':ak) (h:Ly w.a.j [(y7,(Pz.mk (pa:Nat) (ps:Nat) (pp:Nat)).ay),(y,p.ay),(w.a.j,a.ay)] w w' (.a (some ⟨g,0,none⟩) en c5) o2)=>Gi (bs:=o2) (by rw[HL2.i];exact h) nk cn aEm (by rw[HL2.i];omega) (by rw[HL2.i];omega));rw[HL2.i,<-HO4.i]at CT;have K39:=ab (fun(w':ak) (bs:List UInt8) (h:Ly w.a.j [(y7,(Pz.mk (pa:Nat) (ps:Nat) (pp:Nat)).ay),(y,p.ay),(w.a.j,a.ay)] w w' (.a (some ⟨g,0,none⟩) en c5) bs)=>show w'.b ⟨y,39,none⟩=some (.b .a (N:Nat))by rw[(K2.i _ h.b1).2.2.1,HNN.i]);have f39:=K39.i _ _ L10.i;clear hcn hnk hn2 a6;go_upto_region 10 with fail
    go_region_held_law (fun w'=>w'.b ⟨y,39,none⟩=some (.b .a (N:Nat)))
     (first|exact K39.i _ _ L10.i.drew|exact K39.i _ _ L11.i|exact K39.i _ _ L13.i|go_keep)
     (first
     | (go_at_call 312;(with_reducible refine CS.i.g ?_);rintro e w11 ⟨rfl,hb⟩;have L11:=ab (L10.i.drew.go hb);clear hb)
     | (go_at_call 311;(with_reducible refine(CC.i _ L11.i).g ?_);rintro e w12 ⟨rfl,rfl⟩)
     | (go_at_call 310;(with_reducible refine(CT.i _ L11.i).g ?_);rintro e w13 ⟨rfl,h13⟩;have L13:=ab h13;clear h13))
    go_wp2;go_meet
    case rel=>exact L13.i
  have L3:=ab hcut;have aEo:ps%2=0:=by rw[HPS.i];unfold vU;split<;>rfl
  clear hcut L10 a6;have K4:=ab (fun(w':ak) (h:Ly w.a.j [(y7,(Pz.mk (pa:Nat) (ps:Nat) (pp:Nat)).ay),(y,p.ay),(w.a.j,a.ay)] w w' (.a (some ⟨g,0,none⟩) en c5) o3)=>show w'.b ⟨y,40,none⟩=some (.b .a (S:Nat))/\w'.b ⟨y,35,none⟩=some (.b .a p.J.aQ)/\w'.b ⟨y7,2,none⟩=some (.b .a (pp:Nat))/\fU w' w'.a.j A n l from⟨by rw[(K2.i _ h.b1).2.2.2,HSS.i],(K2.i _ h.b1).2.1,(h.S.K.1 2).trans (Pz.JM _),HR.i.upon h.o.R⟩);obtain⟨sa,hsa⟩:∃v,v=S+pl:=⟨_,rfl⟩
  have eS:(S:Int)+(pl:Int)=(sa:Int):=by omega
  have iS:=jS (sa:Int) (by omega);have SH:=ab hsa;clear hsa;have CP:=ab (fun w=>ai' p.J.aQ w);rw[HP6.i]at CP;go_wp2_with fail;obtain⟨T,f,n0,E0,es,ew⟩:=xC (wc);have hT:Nonempty T:=⟨n0⟩
  have ES:=ab es;have EW:=ab ew;have l1:=fun m=>(K4.i _ (L3.i.go (es m))).1
  have l2:=fun m=>(K4.i _ (L3.i.go (es m))).2.1
  clear es ew;refine nL f (by kernel_rfl) (by kernel_rfl) n0 E0 ?_
  repeat(go_big_quiet_step ((first|(go_at_call 313;(with_reducible refine(CP.i _).g ?_);rintro e w2 ⟨rfl,hb⟩;exact⟨rfl,EW.i _ ((ES.i _).trans (hb.g (ES.i _).j))⟩))))
  refine gK ?_;rintro _ ⟨m',rfl⟩;have HB:=ab (ES.i m');generalize f m'=wN at *;clear ES EW E0 hT n0;clear l1 l2;have L4:=ab (L3.i.go HB.i);clear L3 HB CP;obtain⟨z2,e35,f2,RA⟩:=K4.i _ L4.i;clear z2;have CS:=ab (WM _ A n c l sa (by omega) hnc hc RA);obtain⟨was,aqE⟩:∃v,v=eZ l sa:=⟨_,rfl⟩
  have anA:was<=65535:=by rw[aqE];exact vE l sa
  rw[<-aqE]at CS;have azx:=ab aqE;obtain⟨u,hu⟩:=cB ((p.J.aQ==17));have HU:=ab hu;obtain⟨z,hz⟩:=cB (decide (was=0));have HZ0:=ab hz;have u1:(p.J.aQ==17)=u:=hu.symm;have u2:decide (p.J.aQ=17)=u:=by rw[hu];rfl
  have z1:((was:Int)==0)=z:=by rw[hz,bV,beq_iff_eq,decide_eq_true_iff];omega
  have z2:decide ((was:Int)=0)=z:=by rw[hz,bV,decide_eq_true_iff,decide_eq_true_iff];omega
  have z3:(was==0)=z:=by rw[hz,bV,beq_iff_eq,decide_eq_true_iff]
  clear hu hz aqE RA;go_upto_region 14 with(go_at_call 312;(with_reducible refine CS.i.g ?_);rintro e w11 ⟨rfl,hb⟩;have L5:=ab (L4.i.go hb);clear hb e35 f2;obtain⟨_,e35,f2,RA⟩:=K4.i _ L5.i)
  clear CS L4;obtain⟨fr,hfr⟩:∃v,v=(l.d (pa+ps)).f pa:=⟨_,rfl⟩
  obtain⟨tw,htw⟩:∃v,v=a.b.a.d ps:=⟨_,rfl⟩
  obtain⟨pq,hpq⟩:∃v,v=pp+2:=⟨_,rfl⟩
  obtain⟨cs,hcs⟩:∃v,v=om (om was fr tw) ((l.d pq).f pp) ((o3.d pq).f pp):=⟨_,rfl⟩
  have hc1:=Cz fr tw was anA;have hcs2:cs<=65535:=by rw[hcs];exact Cz _ _ _ hc1
  have eP:(pp:Int)+2=(pq:Int):=by omega
  have iP:=jS (pq:Int) (by omega);have b1:(pp:Int)<=pq:=by omega
  have b2:(pq:Int)<=c:=by omega
  have b3:(pq:Int)<=c5:=by omega
  have CC1:=ab (fun(w':ak) (h:Ly w.a.j [(y7,(Pz.mk (pa:Nat) (ps:Nat) (pp:Nat)).ay),(y,p.ay),(w.a.j,a.ay)] w w' (.a (some ⟨g,0,none⟩) en c5) o3)=>Iw w' (vF A pa c 1) (some ⟨w.a.j,1,none⟩) ps (c-pa) 16 w'.a.j w'.a.j was fr tw anA aEo (by omega) (by have:=((K4.i _ h).2.2.2).adi (z:=pa) (b:=m1) (by omega) (by omega) hnc;rw[show m1-pa=ps by omega,HM1.i]at this;rw[hfr];exact this) (by rw[htw];exact(LJ (o:=0) h.b2 a (by have:=fC.G a;rw[<-this];simp)).upN p3));have CC2:=ab (fun(w':ak) (h:Ly w.a.j [(y7,(Pz.mk (pa:Nat) (ps:Nat) (pp:Nat)).ay),(y,p.ay),(w.a.j,a.ay)] w w' (.a (some ⟨g,0,none⟩) en c5) o3)=>Iw w' (vF A pp c 1) (vF (some ⟨g,0,none⟩) pp c5 1) (pq-pp) (c-pp) (c5-pp) w'.a.j w'.a.j (om was fr tw) ((l.d pq).f pp) ((o3.d pq).f pp) hc1 (by omega) (by omega) (((K4.i _ h).2.2.2).adi (by omega) (by omega) hnc) (h.rd.adi (by omega) (by omega) hg3));rw[<-hcs]at CC2;have HE3:=ab (show rw2 l p a qn dst=o3 by
   have e1:rw1 l p a qn dst=o2:=by
    have e0:NA qn=(qg (qn:Int)).d 2:=by simp[NA,qg]
    unfold rw1;rw[<-HPA.i,<-HPS.i,<-HPP.i,e0,HO2.i,HO1.i,HEN.i,dS,List.take_take,Nat.min_self]
   unfold rw2;rw[e1,HO3.i,HNN.i,dS];have h6:p.J.h.h=a.h:=by have:=avg.i;exact this.symm
   rw[h6];split
   ·rfl
   ·have e2:YM l p dst=(l.d (pa+ps)).f pa:=by unfold YM;rw[<-HPA.i,<-HPS.i,rb,jN]
    rw[e2,<-HPS.i];rfl)
  have HRS:=ab (show ahp l p a qn dst=cs by
   have e2:YM l p dst=fr:=by unfold YM;rw[<-HPA.i,<-HPS.i,hfr,rb,jN]
   have e3:(o3.d pq).f pp=NA qn:=by
    have e0:(qg (qn:Int)).d 2=NA qn:=by simp[NA,qg]
    have k2:(o2.d pq).f pp=NA qn:=by
     have:=ajk (l:=o1) (k:=pp) (b:=(qg (qn:Int)).d 2) (by rw[HL1.i];exact p2);rw[rb,show pq-pp=2 by omega,HO2.i,<-e0];exact this
    rw[HO3.i];split
    ·exact k2
    ·rw[rb,amx (by rw[HL2.i];show N+10+2<=en;omega) (.b (by show N+10+2<=pp;have h1:=HPP.i;unfold Gc at h1;rw[HSS.i]at h1;omega)),<-rb];exact k2
   unfold ahp;rw[e2,<-HPS.i,<-HPP.i,HSS.i,dS,<-HPL.i,<-SH.i,<-azx.i,<-htw,hcs,e3];congr 1;rw[rb,show pq-pp=2 by omega])
  have HC2:=ab hcs2;have CC1:=ab (fun n=>CC1.i (w11.drewN n) (L5.i.go (eH (aG _ _) n)));have CC2:=ab (fun n=>CC2.i (w11.drewN n) (L5.i.go (eH (aG _ _) n)));have HR3:=ab (show rw3 l p a qn dst=if p.J.aQ=17/\was=0 then o3 else rX o3 sa (NA (if p.J.aQ=17/\cs=0 then 65535 else cs))by
   unfold rw3;rw[HE3.i,HRS.i,HSS.i,dS,<-HPL.i,<-SH.i,<-azx.i])
  clear hfr htw hpq hcs anA hcs2;cases u
  case false=>
   have hp:p.J.aQ≠17:=by have:=HU.i;intro e;rw[e]at this;cases this
   have HRW:=ab (show rw3 l p a qn dst=rX o3 sa (qg (cs:Int))by rw[HR3.i,if_neg (fun h=>hp h.1),if_neg (fun h=>hp h.1)];simp[NA,qg]);clear hp;go_upto_region 16 with fail
   go_quiet ((first|(go_at_call 311;(with_reducible refine(CC1.i _).g ?_);rintro e w2 ⟨rfl,rfl⟩;exact⟨rfl,_,rfl⟩)|(go_at_call 311;(with_reducible refine(CC2.i _).g ?_);rintro e w2 ⟨rfl,rfl⟩;exact⟨rfl,_,rfl⟩)));have L7:=ab (L5.i.go (eH (aG _ _) nq));generalize w11.drewN nq=wN at L7 ⊢;have CT:=ab (Gi (bs:=o3) (by rw[HL3.i];exact L7.i) sa cs (by exact HC2.i) (by rw[HL3.i];omega) (by rw[HL3.i];omega));rw[HL3.i]at CT;clear CC1 CC2 L5;go_wp2_with (go_at_call 310;(with_reducible refine CT.i.g ?_);rintro e w13 ⟨rfl,h13⟩;have L13:=ab h13;clear h13);go_ret2;exact⟨some ⟨g,0,none⟩,en,c5,by rw[HVO.i];rfl,by rw[HVO.i];show fU _ _ _ _ (rw3 l p a qn dst);rw[HRW.i];exact L13.i.rd,L13.i.o.R⟩
  case true=>
   have hp:p.J.aQ=17:=by have:=HU.i;simpa using this.symm
   cases z
   case true=>
    have hw:was=0:=by have:=HZ0.i;simpa using this.symm
    have HRW:=ab (show rw3 l p a qn dst=o3 by rw[HR3.i,if_pos ⟨hp,hw⟩]);clear hp hw CC1 CC2;go_wp2;go_ret2;exact⟨some ⟨g,0,none⟩,en,c5,by rw[HVO.i];rfl,by rw[HVO.i];show fU _ _ _ _ (rw3 l p a qn dst);rw[HRW.i];exact L5.i.rd,L5.i.o.R⟩
   case false=>
    have hw:was≠0:=by have:=HZ0.i;intro e;rw[e]at this;cases this
    by_cases hc0:cs=0
    ·have HRW:=ab (show rw3 l p a qn dst=rX o3 sa (qg ((65535:Nat):Int))by rw[HR3.i,if_neg (fun h=>hw h.2),if_pos ⟨hp,hc0⟩];rfl)
     have q1:((cs:Int)==0)=true:=by rw[hc0];rfl
     have q2:decide ((cs:Int)=0)=true:=by rw[hc0];rfl
     clear hp hw hc0;go_upto_region 16 with fail
     go_quiet ((first|(go_at_call 311;(with_reducible refine(CC1.i _).g ?_);rintro e w2 ⟨rfl,rfl⟩;exact⟨rfl,_,rfl⟩)|(go_at_call 311;(with_reducible refine(CC2.i _).g ?_);rintro e w2 ⟨rfl,rfl⟩;exact⟨rfl,_,rfl⟩)));have L7:=ab (L5.i.go (eH (aG _ _) nq));generalize w11.drewN nq=wN at L7 ⊢;have CT:=ab (Gi (bs:=o3) (by rw[HL3.i];exact L7.i) sa 65535 (by exact av _) (by rw[HL3.i];omega) (by rw[HL3.i];omega));rw[HL3.i,show((65535:Nat):Int)=65535 from rfl]at CT;clear CC1 CC2 L5;go_wp2_with (go_at_call 310;(with_reducible refine CT.i.g ?_);rintro e w13 ⟨rfl,h13⟩;have L13:=ab h13;clear h13);go_ret2;exact⟨some ⟨g,0,none⟩,en,c5,by rw[HVO.i];rfl,by rw[HVO.i];show fU _ _ _ _ (rw3 l p a qn dst);rw[HRW.i];exact L13.i.rd,L13.i.o.R⟩
    ·have HRW:=ab (show rw3 l p a qn dst=rX o3 sa (qg (cs:Int))by rw[HR3.i,if_neg (fun h=>hw h.2),if_neg (fun h=>hc0 h.2)];simp[NA,qg])
     have q1:((cs:Int)==0)=false:=by rw[beq_eq_false_iff_ne];omega
     have q2:decide ((cs:Int)=0)=false:=by rw[decide_eq_false_iff_not];omega
     clear hp hw hc0;go_upto_region 16 with fail
     go_quiet ((first|(go_at_call 311;(with_reducible refine(CC1.i _).g ?_);rintro e w2 ⟨rfl,rfl⟩;exact⟨rfl,_,rfl⟩)|(go_at_call 311;(with_reducible refine(CC2.i _).g ?_);rintro e w2 ⟨rfl,rfl⟩;exact⟨rfl,_,rfl⟩)));have L7:=ab (L5.i.go (eH (aG _ _) nq));generalize w11.drewN nq=wN at L7 ⊢;have CT:=ab (Gi (bs:=o3) (by rw[HL3.i];exact L7.i) sa cs (by exact HC2.i) (by rw[HL3.i];omega) (by rw[HL3.i];omega));rw[HL3.i]at CT;clear CC1 CC2 L5;go_wp2_with (go_at_call 310;(with_reducible refine CT.i.g ?_);rintro e w13 ⟨rfl,h13⟩;have L13:=ab h13;clear h13);go_ret2;exact⟨some ⟨g,0,none⟩,en,c5,by rw[HVO.i];rfl,by rw[HVO.i];show fU _ _ _ _ (rw3 l p a qn dst);rw[HRW.i];exact L13.i.rd,L13.i.o.R⟩
 ·have HN:=ab (NO.i (by rw[HK.i];simp;intro _ _ _;omega))
  clear hk0 ho;go_wp2_with (go_at_call 307;(with_reducible refine CO.i.g ?_);rintro e w4 ⟨rfl,hb⟩;have Z4:=ab (ZG.i _ hb);clear hb)
  all_goals
   first
   | (go_ret2
      rw[HN.i];exact⟨none,0,0,rfl,Jb _,Z4.i.R⟩)
   | (exfalso;omega)
theorem aj5(w:ak)(A:Option aT)(n c:Nat)(l:List UInt8)(a:fC)(q:Int)(hnc:n<=c)(hc:c<=9223372036854775807/\n<=1000000)(hr:fU w w.a.j A n l):aP ah 205 #[.a A n c,.d a.ay,.b .a q] w (ajl w (aj4 l a q true)):=by
 have X0:=ab (dK.new w a.ay 27);have B0:=ab ((aG w.a.j w).alloc (av _) (.D a.ay 27));have CR:=ab (WQ (w.alloc (.D a.ay 27)) A n c l a q true hnc hc (hr.upon B0.i));have la:=X0.i.ahw;unfold ajl at CR;clear hr;go_enter Tryz.func205,Tryz.ntmps205;go_wp2_with (go_at_call 267;(with_reducible refine CR.i.g ?_);rintro e w2 ⟨A2,n2,c2,rfl,hr2,hb2⟩;have R2:=ab hr2;have B2:=ab hb2;clear hr2 hb2 la)
 trace_state
 go_ret2;exact⟨A2,n2,c2,rfl,R2.i,iX B0.i B2.i⟩
end
section
variable {W W':ak} {q:Nat} {e:En} {s:pY} {x:Eg} {q2 g:Nat} {sl:List (Option Fw)}
def aEq(W:ak)(r:Int×List UInt8)(e':lq)(W':ak):Prop:=(r.1=0/\Kc W r.2 e' W')\/(r.1≠0/\e'=.panicked [{v:=Rp r.1,recovered:=false}]/\aL W.a.j W W')
theorem aEr:oO 25 6 (Ap (bG 6 0)):=⟨⟨_,Tryz.underlying25,rfl⟩,by kernel_rfl,by kernel_rfl,gI _⟩
theorem dK.ase{W:ak}{b o:Nat}{c:Array aB}{m:Vector UInt8 6}(h:dK W b c)(hc:c.m o (o+6)=Ap m)(hs:o+6<=c.j):(Ak (.c (some ⟨b,o,none⟩))).I ah W = .Z (.d (Ap m)) W:=aEr.Dj h o hc hs
theorem dK.Rq{W:ak}{b o:Nat}{c:Array aB}{a:fC}(h:dK W b c)(hc:c.m o (o+17)=a.ay)(hs:o+17<=c.j):(rE (.c (some ⟨b,o,none⟩))).I ah W = .Z (.d a.ay) W:=aaQ.Dj h o hc hs
theorem Bk.aqG(b:Bk):b.ay.m 19 (19+6)=Ap b.AJ:=Bk.agQ b
theorem TU{l:List UInt8}{k E:Nat}{b:List UInt8}(h:l.a<=E)(hk:k+b.a<=E):(rX l k b).a<=E:=by unfold rX;simp;omega
theorem aqH{l:List UInt8}{a:fC}{n:Int}:(aa9 l a n true).a<=l.a:=by
 cases h:Rf l a n with
 | false=>unfold aa9;rw[h];simp
 | true=>
   have hk:(vT l).kind=0:=by unfold Rf at h;simp only[bl,beq_iff_eq]at h;exact h.1.1
   have F:=NC hk;unfold aa9;rw[if_pos h];generalize vT l=p at F;have hl:=F.len;have f2:=F.Cm;have f3:=F.sV;have f5:=F.FU;have f4:=F.pro;obtain⟨E,hE⟩:=cB p.FU.e
   suffices (rw3 l p a n.e true).a<=E by omega
   have hS:p.sV.e+8<=E:=by split at f5<;>omega
   have hb:(a.b.a.d (vU p)).a<=vU p:=by rw[bK];omega
   have ha:adt p true+vU p<=E:=by
    unfold adt vU;cases hs:p.J.h.h<;>simp[hs]at f3⊢<;> omega
   have hp:Gc p true+2<=E:=by unfold Gc;simp;omega
   have hn:p.Cm.e+12<=E:=by split at f3<;>omega
   have hq:p.sV.e+Dg p.J.aQ+2<=E:=by
    unfold Dg;rcases f4 with e|e<;>simp[e]at f5⊢<;> omega
   have l1:(rw1 l p a n.e true).a<=E:=TU (TU (by rw[bK];omega) (by omega)) (by rw[VU];omega);have l2:(rw2 l p a n.e true).a<=E:=by
    unfold rw2;split
    ·exact l1
    ·exact TU l1 (by rw[VU];omega)
   unfold rw3;split
   ·exact l2
   ·exact TU l2 (by rw[VU];omega)
theorem aj6(ts:List Tg):(ts.h zS).a=4*ts.a:=by
 induction ts with
 | nil=>rfl
 | cons t ts ih=>rw[iM,aR,ih,bC];show 4+_=_;omega
theorem anB(l:List UInt8)(a b:fC):(GD l a b).1.a<=200000:=by
 have ht:=(V5 l).2;have hp:∀k,(qv (mq l).1.X (mq l).1.h (mq l).1.fK k).a<=22:=fun k=>by
  unfold qv;rw[aR,aR,aR,aj6];simp only[nH,qg,bC,gL];omega
 have h40:∀y:Sx,(wG y).a=40:=fun y=>by simp[wG]
 have h20:∀y:Fo,(tK y).a=20:=fun y=>by simp[tK,adu,Dh]
 unfold GD;by_cases h1:(mq l).2≠0
 ·rw[if_pos h1];simp
 rw[if_neg h1];by_cases h2:(zT (mq l).1.ou (l.f (mq l).1.fI)).Z=false
 ·rw[if_pos h2];simp
 rw[if_neg h2];by_cases h3:amC a b=false
 ·rw[if_pos h3];simp
 rw[if_neg h3];have hk:∀k:Nat,((l.f (mq l).1.fI).d k).a<=k:=fun k=>by simp;omega
 by_cases h4:a.h=true
 ·rw[if_pos h4]
  by_cases h5:(zT (mq l).1.ou (l.f (mq l).1.fI)).dz>65535
  ·rw[if_pos h5];simp
  ·rw[if_neg h5]
   have:=hp 34525;have:=hk (zT (mq l).1.ou (l.f (mq l).1.fI)).dz.e;simp only[aR,h40];omega
 ·rw[if_neg h4]
  by_cases h5:20+(zT (mq l).1.ou (l.f (mq l).1.fI)).dz>65535
  ·rw[if_pos h5];simp
  ·rw[if_neg h5]
   have:=hp 2048;have:=hk (zT (mq l).1.ou (l.f (mq l).1.fI)).dz.e;simp only[aR,h20];omega
def ad7(e:En)(b:Bk):fC:=if b.h.h then e.c.h else e.c.Ck
theorem aj7(h:yN W q e s x q2 g sl)(v:Vp)(b:Bk)(t:Tu)(A:Option aT)(n c:Nat)(l:List UInt8)(hnc:n<=c)(hc:c<=9223372036854775807/\n<=1000000)(hr:fU W W.a.j A n l):
 aP ah 137 #[.c (some ⟨q,0,none⟩),.d v.ay,.d b.ay,.d t.ay,.a A n c] W (aEq W (NI e v b t l)):=by
 have Z0:=ab ((((Bx.start W).new v.ay 98).new b.ay 62).new t.ay 81);have e1:(W.alloc (.D v.ay 98)).a.j=W.a.j+1:=by simp
 have e2:((W.alloc (.D v.ay 98)).alloc (.D b.ay 62)).a.j=W.a.j+1+1:=by simp
 rw[e2,e1]at Z0;clear e1 e2;have H:=ab h;have HR:=ab hr;have hl:=ab hr.len;have HOE:=ab (show NI e v b t l=if v.Vu then(if(GD l (ad7 e b) b.h).2=0 then(0,Ey (GD l (ad7 e b) b.h).1 b.AJ e.c.AJ)else(10,[]))else if b.h.h=t.X.h then(0,Ey (aa9 l b.h b.mR true) b.AJ e.c.AJ)else(9,[])from rfl);have hcf:=h.b.cf;have aEs:=ab (show x.cf.AJ=e.c.AJ by rw[hcf]);have azy:=ab (show x.cf.Ck=e.c.Ck by rw[hcf]);have avg:=ab (show x.cf.h=e.c.h by rw[hcf]);clear h hr hcf;have CT:=ab (fun(w:ak) (B:Option aT) (m d:Nat) (bs:List UInt8) (hm:m<=1000000) (hR:fU w w.a.j B m bs)=>abd w B m d bs b.AJ e.c.AJ hm hR);have K1:=ab (fun(w:ak) (hb:aL (W.a.j+1+1+1) w w)=>True.intro);have KM:=ab (fun(w:ak) (h1:dK w (W.a.j+1) b.ay) (h2:aL W.a.j W w)=>show(Ak (.c (some ⟨W.a.j+1,19,none⟩))).I ah w = .Z (.d (Ap b.AJ)) w/\(Ak (.c (some ⟨q,27,none⟩))).I ah w = .Z (.d (Ap e.c.AJ)) w from⟨h1.ase (Bk.aqG b) (by rw[Bk.G];omega),by have:=(H.i.b.eg.go h2).ase (o:=27) (Eg.afD x) (by rw[Eg.G];omega);rw[aEs.i]at this;exact this⟩);have f19:=(Z0.i.b2.K.1 19).trans (Vp.ai3 v);go_enter Tryz.func137,Tryz.ntmps137;go_upto_region 1 with fail
 generalize((W.alloc (.D v.ay 98)).alloc (.D b.ay 62)).alloc (.D t.ay 81)=w1 at Z0 f19 ⊢;cases hv:v.Vu
 ·rw[hv]at f19 HOE
  have f1:=(Z0.i.b1.K.1 1).trans (Bk.Gu b);have f17:=(Z0.i.S.K.1 17).trans (Tu.atf t);by_cases h6:b.h.h=t.X.h
  ·have HE:=ab (show NI e v b t l=(0,Ey (aa9 l b.h b.mR true) b.AJ e.c.AJ)by rw[HOE.i,if_neg (by simp),if_pos h6])
   have q1:(b.h.h != t.X.h)=false:=by rw[h6];simp
   have q2:(b.h.h==t.X.h)=true:=by rw[h6];simp
   have la:=Z0.i.b1.Rq (o:=1) (a:=b.h) (Bk.FH b) (by rw[Bk.G];omega);have lp:=(Z0.i.b1.K.1 18).trans (Bk.akK b);have CN:=ab (aj5 w1 A n c l b.h b.mR hnc hc (Z0.i.Lv HR.i));unfold ajl at CN;clear h6 hv;go_upto_region 5 with(go_at_call 205;(with_reducible refine CN.i.g ?_);rintro r w2 ⟨A2,n2,c2,rfl,hr2,hb2⟩;have Z2:=ab (Z0.i.go hb2);have R2:=ab hr2;clear hr2 hb2 la lp f1 f17 f19)
   have CTT:=ab (CT.i w2.drew A2 n2 c2 _ (by have h1:=R2.i.len;have h2:(aa9 l b.h b.mR true).a=n2:=h1;have:=aqH (l:=l) (a:=b.h) (n:=b.mR);have:=hl.i;omega) R2.i);obtain⟨k1,k2⟩:=KM.i _ Z2.i.drew.b1 Z2.i.drew.R;go_region_held_law (fun w'=>(Ak (.c (some ⟨W.a.j+1,19,none⟩))).I ah w' = .Z (.d (Ap b.AJ)) w'/\(Ak (.c (some ⟨q,27,none⟩))).I ah w' = .Z (.d (Ap e.c.AJ)) w')
    (first|exact KM.i _ Z2.i.drew.b1 Z2.i.drew.R|exact KM.i _ Z3.i.b1 Z3.i.R|go_keep)
    (first|(go_at_call 206;(with_reducible refine CTT.i.g ?_);rintro r w3 ⟨A3,n3,c3,rfl,hn3,ho3,hb3⟩;have Z3:=ab (Z2.i.drew.go hb3);have N3:=ab hn3;have O3:=ab ho3;clear hn3 ho3 hb3))
   go_wp2;go_ret;rw[HE.i];exact .a ⟨rfl,A3,n3,c3,rfl,N3.i,iI O3.i Z2.i.R.j,Z3.i.R⟩
  ·have HE:=ab (show NI e v b t l=(9,[])by rw[HOE.i,if_neg (by simp),if_neg h6])
   have q1:(b.h.h != t.X.h)=true:=by simpa using h6
   have q2:(b.h.h==t.X.h)=false:=by simpa using h6
   clear h6 hv;go_wp2;rw[HE.i];exact⟨rfl,.b ⟨by decide,rfl,Z0.i.R⟩⟩
 ·rw[hv]at f19 HOE
  have f1:=(Z0.i.b1.K.1 1).trans (Bk.Gu b);have la:=Z0.i.b1.Rq (o:=1) (a:=b.h) (Bk.FH b) (by rw[Bk.G];omega);have l4:(rE (.c (some ⟨q,33,none⟩))).I ah w1 = .Z (.d e.c.Ck.ay) w1:=by have:=(H.i.b.eg.go Z0.i.R).Rq (o:=33) (Eg.aaR x) (by rw[Eg.G];omega);rw[azy.i]at this;exact this
  have l6:∀w',aL W.a.j W w'->(rE (.c (some ⟨q,50,none⟩))).I ah w' = .Z (.d e.c.h.ay) w':=fun w' hb=>by have:=(H.i.b.eg.go hb).Rq (o:=50) (Eg.afE x) (by rw[Eg.G];omega);rw[avg.i]at this;exact this
  have L6:=ab l6;clear hv l6;obtain⟨vB,how⟩:∃o,o=ad7 e b:=⟨_,rfl⟩
  rw[<-how]at HOE;have HOW:=ab how;clear how;have Z1:=ab (Z0.i.new e.c.Ck.ay 27);have HY:=ab (fun p hp=>(Z0.i.2 p hp).2.lt);go_upto_region 7 with fail
  generalize w1.alloc (.D e.c.Ck.ay 27)=w2 at Z1 ⊢;generalize w1.a.j=y at *;have HYW:=ab (show W.a.j+1+1<y from HY.i (W.a.j+1+1,t.ay) (by simp));have f1:=(Z1.i.b2.K.1 1).trans (Bk.Gu b);go_upto_if 52 with fail
  go_cut []from 52 to 57 (fun wx=>Bx [(y,vB.ay),(W.a.j+1+1,t.ay),(W.a.j+1,b.ay),(W.a.j,v.ay)] W wx)
  case first=>
   cases h6:b.h.h
   ·have HO2:=ab (show vB=e.c.Ck by rw[HOW.i];unfold ad7;rw[h6];rfl)
    rw[h6]at f1;clear h6;go_wp2_with fail;go_meet
    case rel=>rw[HO2.i];exact Z1.i
   ·have HO2:=ab (show vB=e.c.h by rw[HOW.i];unfold ad7;rw[h6];rfl)
    rw[h6]at f1;have l6:=L6.i _ Z1.i.R;have th:=Z1.i.S.M 0 17 (aX (fC.G _).symm);clear h6;go_wp2_with fail;go_meet
    case rel=>
     have:=Z1.i.put (fun p hp=>by have:=HYW.i;simp at hp;rcases hp with rfl|rfl|rfl<;>simp<;>omega) e.c.h.ay (by rw[fC.G,fC.G]);rw[HO2.i];exact this
  have Z3:=ab hcut;clear hcut Z1 f1 la l4;generalize wc=w3 at Z3 ⊢;have la:=Z3.i.b2.Rq (o:=1) (a:=b.h) (Bk.FH b) (by rw[Bk.G];omega);have lo:=Z3.i.S.Rq (o:=0) (a:=vB) (by have:=fC.G vB;rw[bB,<-this];simp) (by rw[fC.G];omega);have CW:=ab (afW w3 A n c l vB b.h hnc hc (Z3.i.Lv HR.i));unfold ajl at CW;obtain⟨wy,Om⟩:∃z,z=(GD l vB b.h).2:=⟨_,rfl⟩
  have MO:=ab Om;rw[<-Om]at CW HOE;have HWL:=ab (anB l vB b.h);by_cases h0:wy=0
  ·have HE:=ab (show NI e v b t l=(0,Ey (GD l vB b.h).1 b.AJ e.c.AJ)by rw[HOE.i,if_pos rfl,if_pos h0])
   have q1:(wy != 0)=false:=by simp[h0]
   clear h0 Om;go_upto_region 12 with(go_at_call 207;(with_reducible refine CW.i.g ?_);rintro r w4 ⟨A2,n2,c2,rfl,hr2,hb2⟩;have Z4:=ab (Z3.i.go hb2);have R2:=ab hr2;clear hr2 hb2 la lo f19)
   have CTT:=ab (CT.i w4.drew A2 n2 c2 _ (by have h1:=R2.i.len;have:=HWL.i;omega) R2.i);obtain⟨k1,k2⟩:=KM.i _ Z4.i.drew.b2 Z4.i.drew.R;go_region_held_law (fun w'=>(Ak (.c (some ⟨W.a.j+1,19,none⟩))).I ah w' = .Z (.d (Ap b.AJ)) w'/\(Ak (.c (some ⟨q,27,none⟩))).I ah w' = .Z (.d (Ap e.c.AJ)) w')
    (first|exact KM.i _ Z4.i.drew.b2 Z4.i.drew.R|exact KM.i _ Z5.i.b2 Z5.i.R|go_keep)
    (first|(go_at_call 206;(with_reducible refine CTT.i.g ?_);rintro r w5 ⟨A3,n3,c3,rfl,hn3,ho3,hb3⟩;have Z5:=ab (Z4.i.drew.go hb3);have N3:=ab hn3;have O3:=ab ho3;clear hn3 ho3 hb3))
   go_wp2;go_ret;rw[HE.i];exact .a ⟨rfl,A3,n3,c3,rfl,N3.i,iI O3.i Z4.i.R.j,Z5.i.R⟩
  ·have HE:=ab (show NI e v b t l=(10,[])by rw[HOE.i,if_pos rfl,if_neg h0])
   have q1:(wy != 0)=true:=by simpa using h0
   clear h0 Om;go_wp2_with (go_at_call 207;(with_reducible refine CW.i.g ?_);rintro r w4 ⟨A2,n2,c2,rfl,hr2,hb2⟩;have Z4:=ab (Z3.i.go hb2);clear hr2 hb2 la lo f19);rw[HE.i];exact⟨rfl,.b ⟨by decide,rfl,Z4.i.R⟩⟩
end
structure Oc where
 err:Int
 h:Int
 xE:Bool
 kT:Int
 E:List UInt8
 Oe:Option aT
 WR:Nat
 ags:Nat
def Oc.ay(x:Oc):Array aB:=#[.b .a x.err,.b .a x.h,.e x.xE,.b .a x.kT,.g (bT x.E),.a x.Oe x.WR x.ags]
theorem Oc.G(x:Oc):x.ay.j=6:=by simp[Oc.ay]
theorem Oc.cO(x:Oc):x.ay.all (·.h)=true:=by simp[Oc.ay,cZ]
@[go_sem]theorem Oc.dY(x:Oc):dY x.ay=6:=Oc.G x
@[go_sem]theorem Oc.agt(x:Oc):x.ay[0]? = some (.b .a x.err):=by simp[Oc.ay,aD]
@[go_sem]theorem Oc.JZ(x:Oc):x.ay[1]? = some (.b .a x.h):=by simp[Oc.ay,aD]
@[go_sem]theorem Oc.aEt(x:Oc):x.ay[2]? = some (.e x.xE):=by simp[Oc.ay,aD]
@[go_sem]theorem Oc.WL(x:Oc):x.ay[3]? = some (.b .a x.kT):=by simp[Oc.ay,aD]
@[go_sem]theorem Oc.zu(x:Oc):x.ay[4]? = some (.g (bT x.E)):=by simp[Oc.ay,aD]
@[go_sem]theorem Oc.aEu(x:Oc):x.ay[5]? = some (.a x.Oe x.WR x.ags):=by simp[Oc.ay,aD]
def uo:Oc:=⟨0,0,false,0,[],none,0,0⟩
@[go_sem]theorem azz:bY #[aI bR 0,aI bR 0,bM false,aI bR 0,iB {data:=#[]},bD none 0 0]=bY uo.ay:=rfl
@[go_sem]theorem avi:eB #[aI bR 0,aI bR 0,bM false,aI bR 0,iB {data:=#[]},bD none 0 0] 58=eB uo.ay 58:=rfl
theorem Zm:oO 58 6 uo.ay:=⟨⟨_,kM,rfl⟩,by kernel_rfl,by kernel_rfl,Oc.G _⟩
@[go_sem ↓]theorem aKV(v:aB):bZ 58 v=xI 58 v:=rfl
@[go_sem ↓]theorem aKW(v x:aB):eD 58 v x=yU 58 v x:=rfl
@[go_sem]theorem aEv(W:ak)(c:Array aB)(x:Oc)(b:Nat)(hb:b=W.a.j)(hc:dY c=6):(yU 58 (.c (some ⟨b,0,none⟩)) (.d x.ay)).I ah (W.alloc (.D c 58)) = .Z () (W.alloc (.D x.ay 58)):=Zm.stN W c x.ay b hb hc (Oc.G x) (Oc.cO x)
@[go_sem]theorem aHq(W:ak)(b o:Nat)(x:Oc)(h:W.M b o 6):(yU 58 (.c (some ⟨b,o,none⟩)) (.d x.ay)).I ah W = .Z () (gT W b o x.ay):=Zm.st W b o x.ay h (Oc.G x) (Oc.cO x)
@[go_sem ↓]theorem aKX(ps:Array (Nat×aB)):fM 58 ps=uH 58 ps:=rfl
theorem anC(w:ak)(fs:Array nS)(h:ah.underlying 58=some (.struct fs)):(iy (fun f=>Prod.mk f.Y <$> sizeOf f.type) fs:Sem (Array (Nat×Nat))).I ah w = .Z #[(0,1),(1,1),(2,1),(3,1),(4,1),(5,1)] w:=by
 have e:=kM;rw[h]at e;cases e;show _=_
 kernel_rfl
@[go_sem]theorem aEw(W:ak):(uH 58 #[]).I ah W = .Z (.d uo.ay) W:=Zm.bd0 W _ kM ⟨_,anC W _ kM⟩
theorem Oc.azA(x:Oc)(v:Int):x.ay.b 0 (.b .a v)=({x with err:=v}:Oc).ay:=by simp[Oc.ay]
theorem Oc.anD(x:Oc)(v:Int):x.ay.b 1 (.b .a v)=({x with h:=v}:Oc).ay:=by simp[Oc.ay]
theorem Oc.azB(x:Oc)(v:Bool):x.ay.b 2 (.e v)=({x with xE:=v}:Oc).ay:=by simp[Oc.ay]
theorem Oc.asg(x:Oc)(v:Int):x.ay.b 3 (.b .a v)=({x with kT:=v}:Oc).ay:=by simp[Oc.ay]
theorem Oc.avj(x:Oc)(v:List UInt8):x.ay.b 4 (.g (bT v))=({x with E:=v}:Oc).ay:=by simp[Oc.ay]
theorem Oc.azC(x:Oc)(A:Option aT)(n c:Nat):x.ay.b 5 (.a A n c)=({x with Oe:=A,WR:=n,ags:=c}:Oc).ay:=by simp[Oc.ay]
@[go_sem]theorem aBe(W:ak)(h:Bool)(v:Int)(n:List UInt8)(A:Option aT)(m c:Nat):(uH 58 #[(2,.e h),(3,.b .a v),(4,.g (bT n)),(5,.a A m c)]).I ah W = .Z (.d (Oc.mk 0 0 h v n A m c).ay) W:=Zm.bd W _ _ _ _ kM (anC W _ kM) (by
 refine(iq rfl rfl (by rw[Oc.G];omega) (Oc.azB _ _)).trans ?_;refine(iq rfl rfl (by rw[Oc.G];omega) (Oc.asg _ _)).trans ?_;refine(iq rfl rfl (by rw[Oc.G];omega) (Oc.avj _ _)).trans ?_;refine(iq rfl rfl (by rw[Oc.G];omega) (Oc.azC _ _ _ _)).trans ?_;rfl)
@[go_sem]theorem azD(W:ak)(k:Int):(uH 58 #[(1,.b .a k)]).I ah W = .Z (.d (Oc.mk 0 k false 0 [] none 0 0).ay) W:=Zm.bd W _ _ _ _ kM (anC W _ kM) (by
 refine(iq rfl rfl (by rw[Oc.G];omega) (Oc.anD _ _)).trans ?_;rfl)
@[go_sem]theorem azE(W:ak)(k:Int):(uH 58 #[(0,.b .a k)]).I ah W = .Z (.d (Oc.mk k 0 false 0 [] none 0 0).ay) W:=Zm.bd W _ _ _ _ kM (anC W _ kM) (by
 refine(iq rfl rfl (by rw[Oc.G];omega) (Oc.azA _ _)).trans ?_;rfl)
theorem ad8(v:Vector Int 11)(k:Nat)(hk:k<11)(n:Int):(yB v).b k (.b .a n)=yB (v.set k n):=by
 unfold yB;rw[bI,<-List.map_set];congr 2
 try grind
theorem ahQ(v:Vector Int 11)(k:Nat)(hk:k<11):Oq v k=v.set k (v.a.c k 0+1):=by
 apply Vector.ext;intro i hi;have:v.a.c k 0=v[k]:=by simp[au,hk]
 rw[this];unfold Oq;rw[Vector.getElem_ofFn,Vector.getElem_set];simp only[Fin.getElem_fin];by_cases h:k=i
 ·subst h;simp
 ·have h2:¬((i:Int)=(k:Int)):=by omega
  rw[if_neg h2,if_neg h]
theorem Eg.aqI(x:Eg)(k:Nat)(hk:k<11):x.ay.b (79+k) (.b .a (x.ji.a.c k 0+1))=({x with ji:=Oq x.ji k}:Eg).ay:=by
 obtain⟨P,hP,h⟩:∃P:Array aB,P.j=79/\∀v,({x with ji:=v}:Eg).ay=P++yB v:=⟨jd x.key++x.cf.ay++x.pl.ay ++ #[.a x.Ot x.DN x.Sz,.a x.dnA x.dnN x.dnC,ad1 x.fl]++x.h.ay ++ #[.b .a x.fQ,.b .a x.no],by simp[dL,Cn.G,Pc.G,Tc.G],fun v=>by simp[Eg.ay,fV]⟩
 have h0:x.ay=P++yB x.ji:=h x.ji;rw[h0,h,aM,if_neg (by omega),hP,jN,ad8 _ _ hk,ahQ _ _ hk]
def Oc.why(k:Int):Oc:=⟨0,k,false,0,[],none,0,0⟩
theorem abA(v:aB)(xT:bF)(w:ak):(Gm (.iface 219 v) xT 219 true).I ah w = .Z (.J #[v,.e true]) w:=by
 have h:=Tryz.underlying219;simp[Gm,dJ h]
theorem agu{w:ak}{q0 qb q:Nat}{o:Oc}{x:Eg}{k:Nat}(hk:k<11)(hr:o.h=k)(hO:dK w q0 o.ay)(hB:dK w qb #[.c (some ⟨q,0,none⟩)])(hE:dK w q x.ay)(hc:0<=x.ji.a.c k 0/\x.ji.a.c k 0+1<=9223372036854775807):
 CallsD ah 134 #[.c (some ⟨q0,0,none⟩),.c (some ⟨qb,0,none⟩)] .returning w fun e u' w'=>e=.a (.J #[])/\u'=.returning/\w'=(w.F ⟨q,79+k,none⟩ (.b .a (x.ji.a.c k 0+1))).drew:=by
 have o1:=(hO.K.1 1).trans (Oc.JZ o);rw[hr]at o1;have b0:=hB.K.1 0;have b1:=hE.K.1 (79+k);rw[Eg.anr x k hk]at b1;have b2:=hE.K.2.1 (79+k);have hw:=jS (x.ji.a.c k 0+1) (by omega);generalize x.ji.a.c k 0=n at *;refine callsD_of_wpS Tryz.func134 rfl fun c₀ cs hu=>?_
 simp only[Af,dI,bC,gL,kN,kP,gy,gB,iN,gP,dF,gZ];apply Hy;apply Hy;apply BU;simp[wpOpsS,go_sem,recoverD,hu,Af,vO];apply Hy;apply BU;simp[wpOpsS,go_sem,recoverD,hu,Af,vO];refine wpS_cond (t:=false) (by simp[Act.eval,ng]) ?_;simp only[Bool.false_eq_true,if_false];refine wpS_of_wp (wp_skip ?_);simp only[vO];refine wpS_of_wp ?_;have hk0:(0:Int)<=(k:Int):=by omega
 have hk1:(k:Int)<11:=by omega
 go_upto_region 6 with fail
 go_region;cases c₀;simp_all[bodyPostS,results,Tryz.results134]
theorem abB{w:ak}{q0 qb q:Nat}{c:Array aB}{x:Eg}{k:Nat}(lI:List PanicEntry)(hk:k<11)(hcs:c.j=6)(hO:dK w q0 c)(hB:dK w qb #[.c (some ⟨q,0,none⟩)])(hE:dK w q x.ay)(hn1:qb≠q0)(hn2:q≠q0)(hc:0<=x.ji.a.c k 0/\x.ji.a.c k 0+1<=9223372036854775807):
 CallsD ah 134 #[.c (some ⟨q0,0,none⟩),.c (some ⟨qb,0,none⟩)] (.panicking ({v:=Rp k,recovered:=false}::lI)) w fun e u' w'=>e=.a (.J #[])/\u'=.panicking ({v:=Rp k,recovered:=true}::lI)/\w'=((gT w q0 0 (Oc.why k).ay).F ⟨q,79+k,none⟩ (.b .a (x.ji.a.c k 0+1))).drew:=by
 have hth:w.M q0 0 6:=hO.M 0 6 (by omega);have hO2:=hO.put (Oc.why k).ay (by rw[Oc.G,hcs]);have o1:=(hO2.K.1 1).trans (Oc.JZ _);rw[show(Oc.why (k:Int)).h=k from rfl]at o1;have b0:=(hB.gG (o:=0) (x:=(Oc.why k).ay) hn1).K.1 0;have b1:=(hE.gG (o:=0) (x:=(Oc.why k).ay) hn2).K.1 (79+k);rw[Eg.anr x k hk]at b1;have b2:=(hE.gG (o:=0) (x:=(Oc.why k).ay) hn2).K.2.1 (79+k);have hw:=jS (x.ji.a.c k 0+1) (by omega);generalize x.ji.a.c k 0=n at *;refine callsD_of_wpS Tryz.func134 rfl fun c₀ cs hu=>?_
 simp only[Af,dI,bC,gL,kN,kP,gy,gB,iN,gP,dF,gZ];apply Hy;apply Hy;apply BU;simp[wpOpsS,go_sem,recoverD,hu,Af,vO];apply Hy;apply BU;simp[wpOpsS,go_sem,recoverD,hu,Af,vO,Rp];refine wpS_cond (t:=true) (by simp[Act.eval,ng]) ?_;simp only[if_true];refine wpS_of_wp ?_;have hty:=fun v xT w=>abA v xT w
 have Bn:(Oc.mk 0 (k:Int) false 0 [] none 0 0).ay=(Oc.why k).ay:=rfl;go_wp2;simp only[vO,Bn];refine wpS_of_wp ?_;have hk0:(0:Int)<=(k:Int):=by omega
 have hk1:(k:Int)<11:=by omega
 generalize gT w q0 0 (Oc.why k).ay=w2 at *;go_upto_region 6 with fail
 go_region;exact⟨rfl,_,rfl,_,vk rfl _ _ _,rfl,rfl,rfl⟩
section
variable {W W':ak} {q:Nat} {e:En} {s:pY} {x:Eg} {q2 g:Nat} {sl:List (Option Fw)}
theorem anF(p:Int)(l:List UInt8):0<=(I5 p l).1.uR/\(I5 p l).1.uR<64:=by
 unfold I5 qp
 repeat' split
 all_goals simp[qJ]
 all_goals omega
theorem anG(l:List UInt8):0<=(vT l).uR/\(vT l).uR<64:=by
 have h:=anF;unfold vT xA LA
 repeat' split
 all_goals first|exact h _ _|simp[Nk]
theorem anH{v:Vector Int 11}{M:Int}(h:∀n∈v.a,0<=n/\n<=M){k:Nat}(hk:k<11):0<=v.a.c k 0/\v.a.c k 0<=M:=by
 refine h _ ?_;rw[au,aC (by simpa using hk),jB];exact eU _
theorem yN.num(h:yN W q e s x q2 g sl)(hf:jC [q] W W')(ti n:Int)(v:Vector Int 11)(hb:dK W' q ({x with fQ:=ti,no:=n,ji:=v}:Eg).ay):yN W' q e {s with fQ:=ti,no:=n,ji:=v} ({x with fQ:=ti,no:=n,ji:=v}:Eg) q2 g sl:=by
 have o:∀b,b∈oz x->b∉[q]:=fun b hm=>h.b.i hm
 have hs:=hf.j;have hq:=h.b.nq;refine⟨⟨hb,h.b.key,h.b.cf,h.b.kT,h.b.vs.keep hf (fun b hm=>o b (dW.2 (.a hm))),h.b.X.keep hf (fun b hm=>o b (dW.2 (.b (.a hm)))),h.b.hl.keep hf (fun b hm=>o b (dW.2 (.b (.b (.a hm))))),h.b.fl,h.b.h.keep hf (by simp;omega) (by simp;omega),h.b.rm,h.b.nq,fun b hm=>by have:=h.b.EF b hm;omega,rfl,rfl,rfl⟩,h.dn.keep hf (fun b hm=>o b (dW.2 (.b (.b (.b (.a hm)))))),h.tt.keep hf (fun b hm=>o b (dW.2 (.b (.b (.b (.b (.a hm))))))) (fun b hm=>o b (dW.2 (.b (.b (.b (.b (.b hm)))))))⟩
theorem yN.qU{sl':List (Option Fw)}{l':List Fw}(h:yN W q e s x q2 g sl)(hf:jC [q2,g] W W')(ht:Ke W' q2 g e.key e.c.dU sl' l')(hl:sl'.a=sl.a):yN W' q e {s with G:=l'} x q2 g sl':=by
 have o:∀b,b∈oz x->b∉[q2,g]:=fun b hm=>by have:=h.b.EF b hm;simp;omega
 have hs:=hf.j;have hq:=h.b.nq;refine⟨⟨hf.box h.b.eg (by simp;omega),h.b.key,h.b.cf,h.b.kT,h.b.vs.keep hf (fun b hm=>o b (dW.2 (.a hm))),h.b.X.keep hf (fun b hm=>o b (dW.2 (.b (.a hm)))),h.b.hl.keep hf (fun b hm=>o b (dW.2 (.b (.b (.a hm))))),h.b.fl,ht,by rw[hl];exact h.b.rm,h.b.nq,fun b hm=>by have:=h.b.EF b hm;omega,h.b.fQ,h.b.no,h.b.ji⟩,h.dn.keep hf (fun b hm=>o b (dW.2 (.b (.b (.b (.a hm)))))),h.tt.keep hf (fun b hm=>o b (dW.2 (.b (.b (.b (.b (.a hm))))))) (fun b hm=>o b (dW.2 (.b (.b (.b (.b (.b hm)))))))⟩
structure OuR(B:Nat)(W:ak)(o:Oc)(u:Ou):Prop where
 err:o.err=u.err
 h:o.h=u.h
 xE:o.xE=u.xE
 kT:o.kT=u.kT
 E:o.E=u.E
 n:o.WR=u.i.a
 vB:W.c B 5 1 (.a o.Oe o.WR o.ags) o.WR (u.i.map bv)
def XG(W:ak)(q:Nat)(e:En)(x:Eg)(q2 g:Nat)(sl:List (Option Fw))(u:pY×Ou)(r:lq)(W':ak):Prop:=
 ∃o x' sl',r=.a (.d (Oc.ay o))/\OuR W.a.j W' o u.2/\yN W' q e u.1 x' q2 g sl'/\sl'.a=sl.a/\(∀b∈oz x',b∈oz x\/W.a.j<=b)/\jC [q,q2,g] W W'
theorem OuR.keep{B:Nat}{o:Oc}{u:Ou}{F:List Nat}(h:OuR B W o u)(hf:jC F W W')(hF:∀b∈F,b<B):OuR B W' o u:=
 ⟨h.err,h.h,h.xE,h.kT,h.E,h.n,Ar h.vB hf (fun k hk hm=>by
  have h2:k∈tF o.Oe:=by
   cases hA:o.Oe with
   | none=>rw[hA]at hk;cases hk
   | some a=>rw[hA]at hk;exact Di.2 ⟨a,rfl,by simpa[jY]using hk⟩
  have h3:=(iH h.vB k h2).1;have:=hF k hm;omega)⟩
theorem yN.count(h:yN W q e s x q2 g sl){k:Nat}(hk:k<11):yN (W.F ⟨q,79+k,none⟩ (.b .a (x.ji.a.c k 0+1))).drew q e {s with ji:=Oq s.ji k} ({x with ji:=Oq x.ji k}:Eg) q2 g sl:=by
 have hb:=h.b.eg.eF (79+k) (.b .a (x.ji.a.c k 0+1));rw[Eg.aqI x k hk]at hb;have hf:jC [q] W (W.F ⟨q,79+k,none⟩ (.b .a (x.ji.a.c k 0+1))).drew:=((jC.refl [q] W).set ⟨q,79+k,none⟩ _ (.a (by simp))).drewN 1;have:=h.num hf x.fQ x.no (Oq x.ji k) (hb.go (eH (aG _ _) 1));rw[h.b.fQ,h.b.no,h.b.ji]at this;rw[h.b.ji];rw[<-h.b.fQ,<-h.b.no]at this ⊢;exact this
theorem TV{M:Int}{w:ak}{c:Array aB}{l:List UInt8}(tmps:Array aB)(r:Int)(ht:tmps.c 4 undef=.c (some ⟨W.a.j+1,0,none⟩))(hO:dK w (W.a.j+1) c)(hc:c.j=6)(hB:dK w W.a.j #[.c (some ⟨q,0,none⟩)])(h:yN W q e s x q2 g sl)(hi:nR M e s)(hM:M<1152921504606846976)(hr:(Cq e s l).h=r)(h0:r≠0)(hl:aL W.a.j W w):
 bodyPostD ah Tryz.f70 (XG W q e x q2 g sl (BD e s l)) (Exit.panic [{v:=Rp r,recovered:=false}]) {tmps:=tmps,defers:=[{target:=Target.fn (Fn.func 134) #[rZ (some ⟨W.a.j+1,0,none⟩),rZ (some ⟨W.a.j,0,none⟩)],args:=#[]}]} w:=by
 have h1:=Wd e s l;rw[hr]at h1;obtain⟨k,rfl⟩:∃k:Nat,r=k:=⟨r.e,by omega⟩
 have hk:k<11:=by omega
 have hu:BD e s l=({s with ji:=Oq s.ji k},{uV with h:=k}):=by unfold BD;rw[hr,if_neg h0]
 have hlt:=h.b.lt;have hcn:=anH hi.ct hk;rw[<-h.b.ji]at hcn;have hE:=h.b.eg.go hl;refine leaves_cons (f:=134) (args:=#[.c (some ⟨W.a.j+1,0,none⟩),.c (some ⟨W.a.j,0,none⟩)]) (by simp) (by simp[go_sem]) ?_;refine(abB [] hk hc hO hB hE (by omega) (by omega) (by omega)).g ?_;have hl2:=kZ hl (W.a.j+1) 0 (Oc.why k).ay (by omega);have hO2:=hO.put (Oc.why k).ay (by rw[Oc.G,hc]);generalize gT w (W.a.j+1) 0 (Oc.why k).ay=w2 at *;rintro r u' w'' ⟨rfl,rfl,rfl⟩;have hE2:=(h.go hl2).count (k:=k) hk;have hf:jC [q] w2 (w2.F ⟨q,79+k,none⟩ (.b .a (x.ji.a.c k 0+1))).drew:=((jC.refl [q] w2).set ⟨q,79+k,none⟩ _ (.a (by simp))).drewN 1;refine⟨_,Zm.yV (fn:=Tryz.f70) (p:=4) (by kernel_rfl) tmps ht (hf.box hO2 (by simp;omega)) (Oc.G _),?_⟩;rw[hu];exact⟨_,_,sl,rfl,⟨rfl,rfl,rfl,rfl,rfl,rfl,fu _ _ _ _⟩,hE2,rfl,fun b hb=>.a hb,(jC.jw hl2).trans (hf.lF (by simp)) (fun g hg=>.a hg)⟩
theorem aqJ{M:Int}{w:ak}{s':pY}{x':Eg}{sl':List (Option Fw)}{o:Oc}{u:pY×Ou}(tmps:Array aB)(ht:tmps.c 4 undef=.c (some ⟨W.a.j+1,0,none⟩))(hO:dK w (W.a.j+1) o.ay)(hB:dK w W.a.j #[.c (some ⟨q,0,none⟩)])(h:yN w q e s' x' q2 g sl')(hct:∀n∈s'.ji.a,0<=n/\n<=M)(hM:M<1152921504606846976)(hr:o.h=0)(hu:u.1={s' with ji:=Oq s'.ji 0})(hou:OuR W.a.j w o u.2)(hsl:sl'.a=sl.a)(hrw:oz x'=oz x)(hq:q<W.a.j)(hl:jC [q,q2,g] W w):
 bodyPostD ah Tryz.f70 (XG W q e x q2 g sl u) Exit.ret {tmps:=tmps,defers:=[{target:=Target.fn (Fn.func 134) #[rZ (some ⟨W.a.j+1,0,none⟩),rZ (some ⟨W.a.j,0,none⟩)],args:=#[]}]} w:=by
 have hcn:=anH hct (k:=0) (by omega);rw[<-h.b.ji]at hcn;refine leaves_cons (f:=134) (args:=#[.c (some ⟨W.a.j+1,0,none⟩),.c (some ⟨W.a.j,0,none⟩)]) (by simp) (by simp[go_sem]) ?_;refine(agu (k:=0) (by omega) hr hO hB h.b.eg (by omega)).g ?_;rintro r u' w'' ⟨rfl,rfl,rfl⟩;have hE2:yN _ q e {s' with ji:=Oq s'.ji 0} ({x' with ji:=Oq x'.ji 0}:Eg) q2 g sl':=h.count (k:=0) (by omega);have hf:jC [q] w (w.F ⟨q,79+0,none⟩ (.b .a (x'.ji.a.c 0 0+1))).drew:=((jC.refl [q] w).set ⟨q,79+0,none⟩ _ (.a (by simp))).drewN 1;refine⟨_,Zm.yV (fn:=Tryz.f70) (p:=4) (by kernel_rfl) tmps ht (hf.box hO (by simp;omega)) (Oc.G _),?_⟩;refine⟨_,({x' with ji:=Oq x'.ji 0}:Eg),sl',rfl,hou.keep hf (by simp;omega),?_,hsl,fun b hb=>.a (by rw[<-hrw];exact hb),hl.trans hf (fun g hg=>.a (by simp at hg;simp[hg]))⟩;rw[hu];exact hE2
end
section
variable {W W':ak} {q:Nat} {e:En} {s:pY} {x:Eg} {q2 g:Nat} {sl:List (Option Fw)}
theorem LM.avk(h:LM W q e s x q2 g sl){W':ak}(hb:aL W.a.j W W'):(xI 29 (.c (some ⟨q,16,none⟩))).I ah W' = .Z (.d x.cf.ay) W':=Vw.Dj (h.eg.go hb) 16 (Eg.asa _) (by rw[Eg.G];omega)
theorem Bx.b4{a1 a2 a3 a4 p:Nat×Array aB}{L:List (Nat×Array aB)}{W0 W:ak}(h:Bx (a1::a2::a3::a4::p::L) W0 W):dK W p.1 p.2:=(h.2 p (by simp)).2
theorem Bx.b5{a1 a2 a3 a4 a5 p:Nat×Array aB}{L:List (Nat×Array aB)}{W0 W:ak}(h:Bx (a1::a2::a3::a4::a5::p::L) W0 W):dK W p.1 p.2:=(h.2 p (by simp)).2
theorem Pk.ahR(p:Pk)(j:Nat)(hj:j<37):p.ay[1+j]? = p.J.ay[j]?:=by
 have h:=Pk.IW p;rw[<-h,dx,if_pos (by rw[Pk.G];omega)]
theorem Pk.aqK(p:Pk):p.ay.m 18 (18+17)=p.J.X.ay:=by
 apply dZ;intro j;rcases aY j 17 with hj|hj
 ·rw[nW p.ay 18 17 j hj (by rw[Pk.G];omega),show 18+j=1+(j+17)by omega,Pk.ahR p (j+17) (by omega),Tu.KD _ j hj]
 ·rw[aU (by rw[Array.size_extract,Pk.G];omega),aU (by rw[fC.G];exact hj)]
def nxO(o:Option Fw)(pr:Int)(fl:Nat):Int:=match o with|some y=>agR y.xk fl|none=>aac pr fl
theorem aqL(s:pY)(p:Pk)(fl:Nat)(h:p.uR=fl):ahu s p=nxO (pO s.G p.J) p.J.aQ fl:=by
 unfold ahu nxO;rw[h,dS];cases pO s.G p.J<;>rfl
theorem yN.azF(h:yN W q e s x q2 g sl)(n:Int):yN (W.F ⟨q,78,none⟩ (.b .a n)) q e {s with no:=n} ({x with no:=n}:Eg) q2 g sl:=by
 have hb:=h.b.eg.eF 78 (.b .a n);rw[Eg.ano]at hb;have:=h.num ((jC.refl [q] W).set ⟨q,78,none⟩ (.b .a n) (.a (by simp))) x.fQ n x.ji hb;rw[h.b.fQ,h.b.ji]at this;have e1:({x with fQ:=s.fQ,no:=n,ji:=s.ji}:Eg)={x with no:=n}:=by rw[<-h.b.fQ,<-h.b.ji]
 rw[e1]at this;exact this
@[go_sem]theorem aww(W:ak)(t:Tu)(n:List UInt8)(st se no:Int):(ati #[(0,.d t.ay),(1,.g (bT n)),(2,.b .a st),(3,.b .a se),(4,.b .a no)]).I ah W = .Z (.d (Fw.mk t n st se no).ay) W:=kFw.bd W _ _ _ _ mV (ayZ W _ mV) (by
 refine uQ (Fw.G _) ?_ ?_
 ·simp[rF,cK,Tu.G]
 ·simp[qP,cK,Fw.ay,fwT])
theorem iA(w:ak):aL w.a.j w w.drew:=eH (aG _ _) 1
theorem yN.frm{F:List Nat}(h:yN W q e s x q2 g sl)(hf:jC F W W')(h1:q∉F)(h2:q2∉F)(h3:g∉F)(o:∀b∈oz x,b∉F):yN W' q e s x q2 g sl:=by
 have hs:=hf.j;refine⟨⟨hf.box h.b.eg h1,h.b.key,h.b.cf,h.b.kT,h.b.vs.keep hf (fun b hm=>o b (dW.2 (.a hm))),h.b.X.keep hf (fun b hm=>o b (dW.2 (.b (.a hm)))),h.b.hl.keep hf (fun b hm=>o b (dW.2 (.b (.b (.a hm))))),h.b.fl,h.b.h.keep hf h2 h3,h.b.rm,h.b.nq,fun b hm=>by have:=h.b.EF b hm;omega,h.b.fQ,h.b.no,h.b.ji⟩,h.dn.keep hf (fun b hm=>o b (dW.2 (.b (.b (.b (.a hm)))))),h.tt.keep hf (fun b hm=>o b (dW.2 (.b (.b (.b (.b (.a hm))))))) (fun b hm=>o b (dW.2 (.b (.b (.b (.b (.b hm)))))))⟩
theorem yt(w:ak)(b o:Nat)(c:Array aB):jC [b] w (gT w b o c):=(jC.refl [b] w).grown (lS (dO w (some b)) o c) (fun k e=>.a (by injection e with e;simp[e]))
theorem Og{F:List Nat}{B n c:Nat}{A:Option aT}{xs:List aB}(h:W.c B 5 1 (.a A n c) n xs)(hf:jC F W W')(hF:∀b∈F,b<B):W'.c B 5 1 (.a A n c) n xs:=Ar h hf (fun k hk hm=>by
 have h2:k∈tF A:=by
  cases hA:A with
  | none=>rw[hA]at hk;cases hk
  | some a=>rw[hA]at hk;exact Di.2 ⟨a,rfl,by simpa[jY]using hk⟩
 have h3:=(iH h k h2).1;have:=hF k hm;omega)
theorem aj8{c:Cn}{l:List Vp}(h:xX c l=true):l.a<=64:=by
 unfold xX yL at h;simp only[bl,decide_eq_true_eq]at h;obtain⟨⟨⟨⟨⟨⟨⟨⟨⟨⟨_,h0⟩,_⟩,_⟩,_⟩,_⟩,_⟩,_⟩,_⟩,_⟩,_⟩:=h;exact h0.1
theorem ad9{M:Int}(h:yN W q e s x q2 g sl)(hi:nR M e s)(hM:M<1152921504606846976)(A:Option aT)(n c:Nat)(l:List UInt8)(hnc:n<=c)(hc:c<=9223372036854775807/\n<=1000000)(hr:fU W W.a.j A n l):
 aP ah 70 #[.c (some ⟨q,0,none⟩),.a A n c] W (XG W q e x q2 g sl (BD e s l)):=by
 have Z0:=ab (((Bx.start W).new #[.c (some ⟨q,0,none⟩)] 43).new uo.ay 58);rw[show(W.alloc (.D #[.c (some ⟨q,0,none⟩)] 43)).a.j=W.a.j+1 by simp]at Z0;have H:=ab h;have HI:=ab hi;have HM:=ab hM;have HR:=ab hr;have CP:=ab (fun(w:ak) (hb:aL W.a.j W w)=>I8 w A n c l hnc (by omega) (hr.upon hb));have KB:=ab (fun(w:ak) (h:dK w W.a.j #[.c (some ⟨q,0,none⟩)])=>show w.b ⟨W.a.j,0,none⟩=some (.c (some ⟨q,0,none⟩))from h.K.1 0);have HK:=ab (ahz l);have HFL:=ab (anG l);have JA:=ab (fun h=>ayI (l:=l) h);have hmf:∀(fn:Fn)(first cap:Array aB)(w:ak),(Instr.makeFunc fn first cap).I ah w = .Z (.func fn first cap) w:=fun _ _ _ _=>rfl
 obtain⟨p,hp⟩:=cB (vT l);have HP:=ab hp;unfold PkP at CP;rw[<-hp]at CP HK HFL JA;clear h hi hM hr hp;go_enter_defers Tryz.func70,Tryz.ntmps70;go_upto_region 2 with fail
 generalize(W.alloc (.D #[.c (some ⟨q,0,none⟩)] 43)).alloc (.D uo.ay 58)=w1 at Z0 ⊢;go_upto_region 3 with(go_at_call 32;(with_reducible refine(CP.i _ Z0.i.R).g ?_);rintro r w2 ⟨rfl,hb2⟩;have Z1:=ab ((Z0.i.go hb2).new p.ay 83);have hy:=ab (Z0.i.go hb2).S.lt;clear hb2)
 generalize w2.alloc (.D p.ay 83)=w3 at Z1 ⊢;generalize w2.a.j=y at *;have f0:=(Z1.i.S.K.1 0).trans (Pk.zq p);by_cases hk:p.kind=0
 case neg=>
  have q1:(p.kind != 0)=true:=by simpa using hk
  have HW:=ab (show(Cq e s l).h=p.kind by unfold Cq;rw[<-HP.i,if_neg hk]);have HK0:=ab hk;clear hk;go_wp2_with fail;exact TV _ p.kind rfl Z1.i.b1 (Oc.G _) Z1.i.b2 H.i HI.i HM.i HW.i HK0.i Z1.i.R
 have q1:(p.kind != 0)=false:=by simpa using hk
 obtain⟨hpt,hpp⟩:=JA.i hk;have HT:=ab (AU hpt);have HTK:=ab hpt;have HK0:=ab hk;clear hpt hpp hk JA HK;obtain⟨v,hv⟩:=cB (XB e.vs p.J.X p.J.aQ p.J.j6);have CV:=ab (fun(w:ak) (hb:aL W.a.j W w)=>Rm x.cf e.vs p.J.X p.J.aQ p.J.j6 w (H.i.b.vs.go hb) (by have h1:=H.i.b.vs.1;have h2:=aj8 HI.i.cn;omega));rw[<-hv]at CV;have HV:=ab hv;clear hv;obtain⟨vp,vok⟩:=v;simp only at CV;go_upto_region 5 with fail
 refine wV (Bx.aa3 ([(y,p.ay),(W.a.j+1,uo.ay),(W.a.j,#[.c (some ⟨q,0,none⟩)])]) W) 17 18 16 6 39 98 oq.ay (by kernel_rfl) rfl rfl rfl rfl rfl (by kernel_rfl) (by kernel_rfl) (by kernel_rfl) (by kernel_rfl) (by kernel_rfl) rfl rfl rfl (fun a w=>by simp[go_sem]) (tJ rfl) Z1.i.drew ?_;apply rJ;refine⟨fun T f hT es ew=>?_,?_⟩
 ·have EW:=ab ew
  have ES:=ab es;have l1:=fun m=>KB.i _ (ES.i m).b2
  have l2:=fun m=>H.i.b.avk (ES.i m).R
  have l3:=fun m=>(ES.i m).S.Rq (o:=18) (a:=p.J.X) (Pk.aqK p) (by rw[Pk.G];omega)
  have l4:=fun m=>((ES.i m).S.K.1 35).trans ((Pk.ahR p 34 (by omega)).trans (Tu.Vi _))
  have l5:=fun m=>((ES.i m).S.K.1 37).trans ((Pk.ahR p 36 (by omega)).trans (Tu.aaE _))
  have CF:=ab (fun m=>CV.i _ (ES.i m).R);clear es ew;simp only[mK,xZ,kX,bH,bP,jP,j4]
  repeat(go_big_quiet_step ((first|(go_at_call 135;(with_reducible refine(CF.i _).g ?_);rintro e w2 ⟨rfl,hb⟩;exact⟨rfl,EW.i _ _ hb⟩))))
  exact gK rfl
 intro w9 w8 zK _ hb;have ZN:=ab ((zK.new oq.ay 98).go hb);have hyv:=ab (fun z (hz:z∈[(y,p.ay),(W.a.j+1,uo.ay),(W.a.j,#[.c (some ⟨q,0,none⟩)])])=>((zK.2 z hz).2.lt:z.1<w9.a.j));generalize w9.a.j=y2 at *;clear hb zK;have yE:=ZN.i.S.M 0 20 (aX (Vp.G oq).symm);refine⟨gT w8 y2 0 vp.ay,?_,?_⟩
 ·simp[go_sem,yE]
 simp only[Act.put,bI,bH,bP,jQ,kY];have Z2:=ab (ZN.i.put (fun p hp=>jL (hyv.i p hp)) vp.ay (by rw[Vp.G,Vp.G]));clear yE ZN;generalize gT w8 y2 0 vp.ay=w4 at Z2 ⊢;go_step;go_step;go_step;cases vok with
 | false=>
   have HW:=ab (show(Cq e s l).h=7 by
    have h1:=HV.i;unfold XB at h1;unfold Cq;rw[<-HP.i,if_pos HK0.i];cases hf:yX e.vs p.J.X p.J.aQ p.J.j6 with
    | none=>rfl
    | some i=>rw[hf]at h1;cases h1)
   go_wp2_with fail;exact TV _ 7 rfl Z2.i.b2 (Oc.G _) Z2.i.b3 H.i HI.i HM.i HW.i (by decide) Z2.i.R
 | true=>
   obtain⟨i,hi1,hi2⟩:∃i,yX e.vs p.J.X p.J.aQ p.J.j6=some i/\vp=e.vs.c i oq:=by
    have h1:=HV.i;unfold XB at h1;cases hf:yX e.vs p.J.X p.J.aQ p.J.j6 with
    | none=>rw[hf]at h1;cases h1
    | some i=>rw[hf]at h1;injection h1 with h1 _;exact⟨i,rfl,h1⟩
   have HI1:=ab hi1;have HI2:=ab hi2;clear hi1 hi2 HV CV;obtain⟨bb,hbb⟩:=cB (I9 e s p.J);have CB:=ab (fun(w:ak) (hb:aL W.a.j W w)=>XE (H.i.go hb) HI.i p.J HT.i);rw[<-hbb]at CB;have GU:=ab hbb;clear hbb;have lt1:=Z2.i.b1.aby (o:=1) (Pk.IW p) (by rw[Pk.G];omega);have le1:=KB.i _ Z2.i.b3;cases bb with
   | none=>
     have CB2:=ab (show∀(w:ak),aL W.a.j W w->aP ah 136 #[.c (some ⟨q,0,none⟩),.d p.J.ay] w (fun r w'=>r=.panicked [{v:=Rp 8,recovered:=false}]/\aL w.a.j w w')from CB.i);have HW:=ab (show(Cq e s l).h=8 by
      unfold Cq;rw[<-HP.i,if_pos HK0.i,HI1.i];simp only;rw[<-GU.i])
     go_wp2_with (go_at_call 136;(with_reducible refine(CB2.i _ Z2.i.R).g ?_);rintro r w5 ⟨rfl,hb5⟩;have Z3:=ab (Z2.i.go hb5);clear hb5);exact TV _ 8 rfl Z3.i.b2 (Oc.G _) Z3.i.b3 H.i HI.i HM.i HW.i (by decide) Z3.i.R
   | some bh=>
     obtain⟨b,xE⟩:=bh;have CB2:=ab (show∀(w:ak),aL W.a.j W w->aP ah 136 #[.c (some ⟨q,0,none⟩),.d p.J.ay] w (fun r w'=>r=.a (.J #[.d b.ay,.e xE])/\aL w.a.j w w')from CB.i);go_upto_region 9 with(go_at_call 136;(with_reducible refine(CB2.i _ Z2.i.R).g ?_);rintro r w5 ⟨rfl,hb5⟩;have Z3:=ab ((Z2.i.go hb5).new b.ay 62);have azH:=ab (fun p hp=>((Z2.i.go hb5).2 p hp).2.lt);clear hb5)
     generalize w5.alloc (.D b.ay 62)=w6 at Z3 ⊢;generalize w5.a.j=y3 at *;clear lt1 le1 CB CB2;have HY3:=ab (fun z (hz:z∈[(y2,vp.ay),(y,p.ay),(W.a.j+1,uo.ay),(W.a.j,#[.c (some ⟨q,0,none⟩)])])=>(azH.i z hz:z.1<y3));clear azH;obtain⟨ot,hot⟩:=cB (NI e vp b p.J l);have CO:=ab (fun(w:ak) (hb:aL W.a.j W w)=>aj7 (H.i.go hb) vp b p.J A n c l hnc hc (HR.i.upon hb));rw[<-hot]at CO;have HOT:=ab hot;clear hot;have lt1:=Z3.i.b2.aby (o:=1) (Pk.IW p) (by rw[Pk.G];omega);have le1:=KB.i _ Z3.i.b4;have lv1:=kVp.Dj Z3.i.b1 0 (d:=vp.ay) (by have:=Vp.G vp;rw[<-this];simp) (by rw[Vp.G];omega);have lb1:=Z3.i.S.avd;by_cases ho:ot.1=0
     case neg=>
      have HW:=ab (show(Cq e s l).h=ot.1 by
       unfold Cq;rw[<-HP.i,if_pos HK0.i,HI1.i];simp only;rw[<-GU.i];simp only;rw[<-HI2.i,<-HOT.i,if_neg ho])
      have HO:=ab ho;have CO2:=ab (fun(w:ak) (hb:aL W.a.j W w)=>(CO.i w hb).g (R':=fun r w'=>r=.panicked [{v:=Rp ot.1,recovered:=false}]/\aL w.a.j w w') (fun r w' h=>h.elim (fun h=>absurd h.1 ho) (fun h=>h.2)));clear ho CO;go_wp2_with (go_at_call 137;(with_reducible refine(CO2.i _ Z3.i.R).g ?_);rintro r w7 ⟨rfl,hb5⟩;have Z4:=ab (Z3.i.go hb5);clear hb5);exact TV _ ot.1 rfl Z4.i.b3 (Oc.G _) Z4.i.b4 H.i HI.i HM.i HW.i HO.i Z4.i.R
     obtain⟨ok,ob⟩:=ot;obtain rfl:ok=0:=ho;have CO2:=ab (fun(w:ak) (hb:aL W.a.j W w)=>(CO.i w hb).g (R':=Kc w ob) (fun r w' h=>h.elim (fun h=>h.2) (fun h=>absurd rfl h.1)));clear CO;have MO:=ab (show Cq e s l=⟨0,ob,b,xE⟩by
      unfold Cq;rw[<-HP.i,if_pos HK0.i,HI1.i];simp only;rw[<-GU.i];simp only;rw[<-HI2.i,<-HOT.i,if_pos rfl])
     have HNL:=ab (show b.E.a<=1000000 by
      have h1:=HI.i.few.2.2 b (ap7 HI.i GU.i.symm).1;omega)
     clear GU HOT HI1 HI2;obtain⟨fl,hfl⟩:∃k:Nat,p.uR=k:=⟨p.uR.e,by have:=HFL.i;omega⟩
     have anJ:fl<64:=by have:=HFL.i;omega
     have HFN:=ab hfl;have CG:=ab (fun(w:ak)=>aix fl p.J.aQ w anJ);have CX:=ab (fun(st:Int) (w:ak)=>ak' fl st w anJ);clear anJ hfl HFL;go_upto_region 10 with(go_at_call 137;(with_reducible refine(CO2.i _ Z3.i.R).g ?_);rintro r w7 ⟨A3,n3,c3,rfl,hn3,ho3,hb5⟩;have Z4:=ab (Z3.i.go hb5);have N3:=ab hn3;have O3:=ab (iI ho3 (Nat.le_of_lt Z3.i.S.lt));clear hb5 hn3 ho3)
     clear lt1 le1 lv1 lb1 CO2;have lp1:=(Z4.i.b2.K.1 35).trans ((Pk.ahR p 34 (by omega)).trans (Tu.Vi _));have lf1:=(Z4.i.b2.K.1 38).trans (Pk.Nj p);rw[HFN.i]at lf1;go_upto_region 11 with(go_at_call 138;(with_reducible refine(CG.i _).g ?_);rintro r w8 ⟨rfl,rfl⟩)
     clear CG lp1 lf1;obtain⟨o,ho⟩:=cB (pO s.G p.J);have HO:=ab ho;have CF0:=ab (fun(w:ak) (hb:aL W.a.j W w)=>JW (H.i.b.h.go hb) p.J);rw[<-ho]at CF0;have hcg:∀o,am4 o = .J #[.d (vV o).qU.ay,.e o.isSome]:=fun _=>rfl
     simp only[hcg]at CF0;clear hcg ho;refine wV (S:=fun w=>Bx [(y3,b.ay),(y2,vp.ay),(y,p.ay),(W.a.j+1,uo.ay),(W.a.j,#[.c (some ⟨q,0,none⟩)])] W w/\aL w7.a.j w7 w) (fun a b h hb=>⟨h.1.go hb,h.2.trans (hb.g h.2.j)⟩) 10 11 9 12 72 86 kD.ay (by kernel_rfl) rfl rfl rfl rfl rfl (by kernel_rfl) (by kernel_rfl) (by kernel_rfl) (by kernel_rfl) (by kernel_rfl) rfl rfl rfl (fun a w=>by simp[go_sem]) (tJ rfl) ⟨Z4.i.drew,eH (aG _ _) 1⟩ ?_;apply rJ;refine⟨fun T f hT es ew=>?_,?_⟩
     ·have EW:=ab ew
      have ES:=ab es;have l1:=fun m=>KB.i _ (ES.i m).1.b4
      have l2:=fun m=>H.i.b.ant (ES.i m).1.R
      have l3:=fun m=>(ES.i m).1.b2.aby (o:=1) (Pk.IW p) (by rw[Pk.G];omega)
      have CF:=ab (fun m=>CF0.i _ (ES.i m).1.R);clear es ew;simp only[mK,xZ,kX,bH,bP,jP,j4]
      repeat(go_big_quiet_step ((first|(go_at_call 126;(with_reducible refine(CF.i _).g ?_);rintro e w2 ⟨rfl,hb⟩;exact⟨rfl,EW.i _ _ hb⟩))))
      exact gK rfl
     intro w9 w8 zK avl hb;have O4:=ab (Ar O3.i (jC.jw (F:=[]) avl.2) (fun k hk hm=>by cases hm));have ZN:=ab ((zK.1.new kD.ay 86).go hb);have hyv:=ab (fun z (hz:z∈[(y3,b.ay),(y2,vp.ay),(y,p.ay),(W.a.j+1,uo.ay),(W.a.j,#[.c (some ⟨q,0,none⟩)])])=>((zK.1.2 z hz).2.lt:z.1<w9.a.j));have hy7:=zK.2.j;generalize w9.a.j=y4 at *;have XJ:=avl.2;have yE:=ZN.i.S.M 0 41 (aX (Fw.G kD).symm);refine⟨gT w8 y4 0 (vV o).qU.ay,?_,?_⟩
     ·simp[go_sem,yE];rfl
     simp only[Act.put,bI,bH,bP,jQ,kY];have Z5:=ab (ZN.i.put (fun p hp=>jL (hyv.i p hp)) (vV o).qU.ay (by rw[Fw.G,Fw.G]));have O5:=ab (Ar O3.i (jC.jw (F:=[]) (kZ XJ y4 0 (vV o).qU.ay hy7)) (fun k hk hm=>by cases hm));have HYW:=ab (show W.a.j+1<y/\y<y3 from⟨hy.i,HY3.i (y,p.ay) (by simp)⟩);clear yE ZN hyv zK avl hb XJ hy7 O4 O3 Z4 CF0;generalize gT w8 y4 0 (vV o).qU.ay=w10 at Z5 O5 ⊢;go_step;go_step;go_step;obtain⟨nx,hnx⟩:=cB (ahu s p);have HNX:=ab (hnx.trans (aqL s p fl HFN.i));rw[<-HO.i]at HNX;have HNE:=ab hnx;clear hnx;go_upto_if 73 with fail
     go_cut [11]from 74 to 78 (fun s11 wx=>s11=.b .a nx/\wx=w10)
     case first=>
      cases o with
      | none=>
        go_wp2_with fail;go_meet
        case rel=>exact⟨by rw[HNX.i];rfl,rfl⟩
      | some f1=>
        have ls:=(Z5.i.S.K.1 38).trans (Fw.afq f1);have lf:=(Z5.i.b3.K.1 38).trans (Pk.Nj p);rw[HFN.i]at lf;go_wp2_with (go_at_call 139;(with_reducible refine(CX.i _ _).g ?_);rintro r w8 ⟨rfl,rfl⟩);go_meet
        case rel=>exact⟨by rw[HNX.i];rfl,rfl⟩
     obtain⟨rfl,hcut⟩:=hcut;rw[hcut];clear hcut CX HNX;have le1:=KB.i _ Z5.i.b5;have g78:=(H.i.b.eg.go Z5.i.R).K.2.1 78;have c78:=((H.i.b.eg.go Z5.i.R).K.1 78).trans (Eg.anl x);have hwr:=jS (x.no+1) (by have h1:=HI.i.no;have h2:=H.i.b.no;have h3:=HM.i;omega);go_upto_region 15 with fail
     have E1:=ab ((H.i.go Z5.i.R).azF (x.no+1));have hf1:jC [q] w10 (w10.F ⟨q,78,none⟩ (.b .a (x.no+1))):=(jC.refl [q] w10).set ⟨q,78,none⟩ _ (.a (by simp));have hqW:=H.i.b.lt;have hyw:=HYW.i;have BE:=ab (hf1.box Z5.i.b5 (by simp;omega));have BO:=ab (hf1.box Z5.i.b4 (by simp;omega));have BP:=ab (hf1.box Z5.i.b3 (by simp;omega));have BB:=ab (hf1.box Z5.i.b1 (by simp;omega));have F1:=ab ((jC.jw (F:=[q]) Z5.i.R).pV hf1);have O6:=ab (Og O5.i hf1 (by simp;omega));have HX:=ab (show x.no=s.no/\x.fQ=s.fQ/\x.pl.kT=s.kT from⟨H.i.b.no,H.i.b.fQ,H.i.b.kT⟩);clear hf1 hqW hyw le1 g78 c78 hwr O5 Z5;generalize w10.F ⟨q,78,none⟩ (.b .a (x.no+1))=w11 at E1 BE BO BP BB F1 O6 ⊢;have KS:=ab (fun(w':ak) (h1:dK w' W.a.j #[.c (some ⟨q,0,none⟩)]) (h2:dK w' y p.ay) (h3:dK w' y3 b.ay) (h4:dK w' q ({x with no:=x.no+1}:Eg).ay)=>show w'.b ⟨W.a.j,0,none⟩=some (.c (some ⟨q,0,none⟩))/\w'.b ⟨q,74,none⟩=some (.c (some ⟨q2,0,none⟩))/\(wS (.c (some ⟨y,1,none⟩))).I ah w' = .Z (.d p.J.ay) w'/\w'.b ⟨y3,0,none⟩=some (.g (bT b.E))/\w'.b ⟨q,77,none⟩=some (.b .a x.fQ)/\w'.b ⟨q,78,none⟩=some (.b .a (x.no+1))from
      ⟨KB.i w' h1,by
       rw[h4.K.1 74,Eg.Zj];show some (rZ (x.fl.map fun b=>⟨b,0,none⟩))=_;rw[H.i.b.fl];rfl,h2.aby (o:=1) (Pk.IW p) (by rw[Pk.G];omega),(h3.K.1 0).trans (Bk.qw b),(h4.K.1 77).trans (Eg.TS _),(h4.K.1 78).trans (Eg.anl _)⟩)
     have HN:=ab (rz HI.i.cn);have CU:=ab (Ze (E1.i.go (iA _)).b.h (by have:=HN.i;omega) E1.i.b.rm ⟨p.J,b.E,nx,x.fQ,x.no+1⟩ HNL.i);unfold agf at CU;refine wp_region_noPanic ?_;go_region_held_law (fun w'=>w'.b ⟨W.a.j,0,none⟩=some (.c (some ⟨q,0,none⟩))/\w'.b ⟨q,74,none⟩=some (.c (some ⟨q2,0,none⟩))/\(wS (.c (some ⟨y,1,none⟩))).I ah w' = .Z (.d p.J.ay) w'/\w'.b ⟨y3,0,none⟩=some (.g (bT b.E))/\w'.b ⟨q,77,none⟩=some (.b .a x.fQ)/\w'.b ⟨q,78,none⟩=some (.b .a (x.no+1)))
      (first|exact KS.i _ (BE.i.go (iA _)) (BP.i.go (iA _)) (BB.i.go (iA _)) (E1.i.b.eg.go (iA _))|exact KS.i _ BE2.i BP2.i BB2.i BQ2.i|go_keep)
      (first|(go_at_call 63;(with_reducible refine CU.i.g ?_);rintro r w12 ⟨rfl,⟨sl',ht,hsl⟩,hf⟩;have HTB:=ab ht;have HSL:=ab hsl;have HF:=ab hf;have BE2:=ab (jC.box hf (BE.i.go (iA _)) (by have h1:=H.i.b.lt;have h2:=HYW.i;simp;omega));have BO2:=ab (jC.box hf (BO.i.go (iA _)) (by have h1:=H.i.b.lt;have h2:=HYW.i;simp;omega));have BP2:=ab (jC.box hf (BP.i.go (iA _)) (by have h1:=H.i.b.lt;have h2:=HYW.i;simp;omega));have BB2:=ab (jC.box hf (BB.i.go (iA _)) (by have h1:=H.i.b.lt;have h2:=HYW.i;simp;omega));have BQ2:=ab (jC.box hf (E1.i.b.eg.go (iA _)) (by have h1:=H.i.b.nq;simp;omega));clear hf ht hsl))
     refine NoPanic.normal ?_;have E2:=ab (yN.qU (E1.i.go (iA _)) HF.i HTB.i HSL.i);have le2:=KB.i _ BE2.i;have lv2:=(BQ2.i.K.1 70).trans (Eg.WL _);have ln2:=(BB2.i.K.1 0).trans (Bk.qw b);have th2:=BO2.i.M 0 6 (aX (Oc.G uo).symm);go_upto_region 16 with fail
     go_region;have hqW:=H.i.b.lt;have hyw:=HYW.i;have hrw:=H.i.b.EF;have G1:=ab (show jC [W.a.j+1] w12 (gT w12.drew (W.a.j+1) 0 (Oc.mk 0 0 xE x.pl.kT b.E A3 n3 c3).ay)from(jC.jw (F:=[W.a.j+1]) (iA w12)).pV (yt w12.drew (W.a.j+1) 0 _));have BO3:=ab ((BO2.i.go (iA _)).put (Oc.mk 0 0 xE x.pl.kT b.E A3 n3 c3).ay (by rw[Oc.G,Oc.G]));have BE3:=ab (G1.i.box BE2.i (by simp));have E3:=ab (E2.i.frm G1.i (by simp;omega) (by simp;omega) (by simp;omega) (fun b hb=>by have:=hrw b hb;simp;omega));have O7:=ab (iI (Og (Og (Og O6.i (jC.jw (F:=[]) (iA _)) (by simp)) HF.i (by simp;omega)) G1.i (by simp;omega)) (show W.a.j<=y3 by omega));have FF:=ab (show jC [q,q2,g] W (gT w12.drew (W.a.j+1) 0 (Oc.mk 0 0 xE x.pl.kT b.E A3 n3 c3).ay)from(((F1.i.lF (F':=[q,q2,g]) (by simp)).pV (jC.jw (iA _))).pV (HF.i.lF (by simp))).trans G1.i (fun j hj=>.b (by simp at hj;omega)));generalize gT w12.drew (W.a.j+1) 0 (Oc.mk 0 0 xE x.pl.kT b.E A3 n3 c3).ay=w13 at BO3 BE3 E3 O7 FF ⊢;have HFE:=ab (show BD e s l=({s with ji:=Oq s.ji 0,no:=s.no+1,G:=DF e.c.dU s.G ⟨p.J,b.E,nx,s.fQ,s.no+1⟩},⟨0,0,xE,s.kT,b.E,ob⟩)by
      unfold BD;rw[MO.i,if_pos rfl,<-HP.i];simp only[amF];rw[<-HNE.i])
     obtain⟨x1,x2,x3⟩:=HX.i;rw[x1,x2]at E3;rw[x3]at BO3;go_wp2;rw[HFE.i];exact aqJ _ rfl BO3.i BE3.i E3.i HI.i.ct HM.i rfl rfl ⟨rfl,rfl,rfl,rfl,rfl,N3.i,O7.i⟩ HSL.i rfl hqW.1 FF.i
end
section
variable {W W':ak} {q:Nat} {e:En} {s:pY} {x:Eg} {q2 g:Nat} {sl:List (Option Fw)}
theorem kI6:oO 24 6 (J8 (bG 6 0)):=⟨⟨_,Tryz.underlying24,rfl⟩,by kernel_rfl,by kernel_rfl,jJ _⟩
structure At where
 kind:Int
 XH:Option aT
 Ov:Nat
 LZ:Nat
 op:qO
 E:List UInt8
 h:Bool
def At.ay(x:At):Array aB:=#[.b .a x.kind,.a x.XH x.Ov x.LZ]++(x.op.ay ++ #[.g (bT x.E),.e x.h])
theorem At.G(x:At):x.ay.j=34:=by simp[At.ay,qO.G]
@[go_sem]theorem At.dY(x:At):dY x.ay=34:=At.G x
theorem At.zq(x:At):x.ay[0]? = some (.b .a x.kind):=by simp[At.ay,aD]
theorem At.ash(x:At):x.ay[1]? = some (.a x.XH x.Ov x.LZ):=by simp[At.ay,aD]
theorem At.asi(x:At):x.ay.m 2 32=x.op.ay:=by simp[At.ay,dA,qO.G,pW,tQ]
theorem At.zu(x:At):x.ay[32]? = some (.g (bT x.E)):=by simp[At.ay,aD,qO.G]
theorem At.aqM(x:At):x.ay[33]? = some (.e x.h):=by simp[At.ay,aD,qO.G]
structure AtR(W:ak)(a:At)(u:Ac):Prop where
 kind:a.kind=u.kind
 fr:fU W W.a.j a.XH a.Ov u.frame
 LZ:a.Ov<=a.LZ/\a.LZ<=9223372036854775807/\a.Ov<=1000000
 op:a.op=u.op
 E:a.E=u.E
 h:a.h=u.h
theorem Av{w1 w2:ak}{o:Oc}{x':Eg}{sl':List (Option Fw)}{u:pY×Ou}(h:yN W q e s x q2 g sl)(hb:aL W.a.j W w1)(hl:W.a.j+1<w1.a.j)(hou:OuR w1.a.j w2 o u.2)(hE:yN w2 q e u.1 x' q2 g sl')(hsl:sl'.a=sl.a)(hr:∀b∈oz x',b∈oz x\/w1.a.j<=b)(hf:jC [q,q2,g] w1 w2):
 XG W q e x q2 g sl u (.a (.d o.ay)) (gT w2 (W.a.j+1) 0 o.ay):=by
 have hq:=h.b.lt;have hrw:=h.b.EF;have hs:=hb.j;have hf2:=yt w2 (W.a.j+1) 0 o.ay;have hx:∀b∈oz x',b∉[W.a.j+1]:=by
  intro b hm;rcases hr b hm with h1|h1
  ·have:=hrw b h1;simp;omega
  ·simp;omega
 refine⟨o,x',sl',rfl,?_,hE.frm hf2 (by simp;omega) (by simp;omega) (by simp;omega) hx,hsl,fun b hm=>(hr b hm).imp id (fun h1=>by omega),((jC.jw (F:=[q,q2,g]) hb).pV hf).trans hf2 (fun k hk=>.b (by simp at hk;omega))⟩;have h2:=hou.keep hf2 (by simp;omega);exact⟨h2.err,h2.h,h2.xE,h2.kT,h2.E,h2.n,iI h2.vB hs⟩
def Oc.bad(k:Int):Oc:=⟨k,0,false,0,[],none,0,0⟩
theorem abC(B:Nat)(W:ak)(k:Int):OuR B W (Oc.bad k) {uV with err:=k}:=⟨rfl,rfl,rfl,rfl,rfl,rfl,fu _ _ _ _⟩
theorem anK(B:Nat)(W:ak):OuR B W uo uV:=⟨rfl,rfl,rfl,rfl,rfl,rfl,fu _ _ _ _⟩
theorem yN.aqN(h:yN W q e s x q2 g sl)(n:Int):yN (W.F ⟨q,77,none⟩ (.b .a n)) q e {s with fQ:=n} ({x with fQ:=n}:Eg) q2 g sl:=by
 have hb:=h.b.eg.eF 77 (.b .a n);rw[Eg.ad2]at hb;have:=h.num ((jC.refl [q] W).set ⟨q,77,none⟩ (.b .a n) (.a (by simp))) n x.no x.ji hb;rw[h.b.no,h.b.ji]at this;have e1:({x with fQ:=n,no:=s.no,ji:=s.ji}:Eg)={x with fQ:=n}:=by rw[<-h.b.no,<-h.b.ji]
 rw[e1]at this;exact this
theorem agv{M:Int}(h:yN W q e s x q2 g sl)(hi:nR M e s)(hM:M<1152921504606846976)(a:At)(u:Ac)(ha:AtR W a u)(hk:u.kind=1):
 aP ah 25 #[.c (some ⟨q,0,none⟩),.d a.ay] W (XG W q e x q2 g sl (BD e s u.frame)):=by
 have Z0:=ab (((Bx.start W).new a.ay 66).new uo.ay 58);rw[show(W.alloc (.D a.ay 66)).a.j=W.a.j+1 by simp]at Z0;have f0:=(Z0.i.b1.K.1 0).trans (At.zq a);rw[ha.kind,hk]at f0;have f1:=(Z0.i.b1.K.1 1).trans (At.ash a);have th:=Z0.i.S.M 0 6 (aX (Oc.G uo).symm);have CF:=ab (ad9 (h.go Z0.i.R) hi hM a.XH a.Ov a.LZ u.frame ha.LZ.1 ha.LZ.2 (ha.fr.upon Z0.i.R));have hlt:=Z0.i.S.lt;have hqs:=h.b.lt;have H:=ab h;clear h;go_enter KX,Hz;go_upto_region 1 with fail
 generalize(W.alloc (.D a.ay 66)).alloc (.D uo.ay 58)=w1 at Z0 f0 f1 th CF hlt ⊢;have HQ:=ab hqs;have HL:=ab hlt;clear hqs hlt;go_wp2_with (go_at_call 70;(with_reducible refine CF.i.g ?_);rintro r w2 ⟨o,x',sl',rfl,ho,hE,hsl,hrw,hf⟩;have HO:=ab ho;have HE:=ab hE;have HSL:=ab hsl;have HR:=ab hrw;have HF:=ab hf;have BO:=ab (hf.box Z0.i.S (by have:=HQ.i;simp;omega));have th2:=BO.i.M 0 6 (aX (Oc.G uo).symm);clear ho hE hsl hrw hf);refine aN (Zm.yV rfl _ rfl (BO.i.put o.ay (by rw[Oc.G,Oc.G])) (Oc.G _)) rfl ?_;exact Av H.i Z0.i.R HL.i HO.i HE.i HSL.i HR.i HF.i
theorem aqO(h:yN W q e s x q2 g sl)(a:At)(u:Ac)(ha:AtR W a u)(hk:u.kind≠1/\u.kind≠2/\u.kind≠3/\u.kind≠4):
 aP ah 25 #[.c (some ⟨q,0,none⟩),.d a.ay] W (XG W q e x q2 g sl (s,{uV with err:=1})):=by
 have Z0:=ab (((Bx.start W).new a.ay 66).new uo.ay 58);rw[show(W.alloc (.D a.ay 66)).a.j=W.a.j+1 by simp]at Z0;have f0:=(Z0.i.b1.K.1 0).trans (At.zq a);rw[ha.kind]at f0;have th:=Z0.i.S.M 0 6 (aX (Oc.G uo).symm);have hlt:=ab Z0.i.S.lt;have H:=ab h;have k1:(u.kind==1)=false:=by simpa using hk.1
 have k2:(u.kind==2)=false:=by simpa using hk.2.1
 have k3:(u.kind==3)=false:=by simpa using hk.2.2.1
 have k4:(u.kind==4)=false:=by simpa using hk.2.2.2
 clear h hk;go_enter KX,Hz;go_upto_region 1 with fail
 generalize(W.alloc (.D a.ay 66)).alloc (.D uo.ay 58)=w1 at Z0 f0 th hlt ⊢;go_wp2_with fail;refine aN (Zm.yV rfl _ rfl (Z0.i.S.put (Oc.bad 1).ay (by rw[Oc.G,Oc.G])) (Oc.G _)) rfl ?_;exact Av H.i Z0.i.R hlt.i (abC _ _ 1) (H.i.go Z0.i.R) rfl (fun b hb=>.a hb) (jC.refl _ _)
theorem aj9{M:Int}(h:yN W q e s x q2 g sl)(hi:nR M e s)(a:At)(u:Ac)(ha:AtR W a u)(hk:u.kind=4):
 aP ah 25 #[.c (some ⟨q,0,none⟩),.d a.ay] W (XG W q e x q2 g sl (NK e s)):=by
 have Z0:=ab (((Bx.start W).new a.ay 66).new uo.ay 58);rw[show(W.alloc (.D a.ay 66)).a.j=W.a.j+1 by simp]at Z0;have f0:=(Z0.i.b1.K.1 0).trans (At.zq a);rw[ha.kind,hk]at f0;have th:=Z0.i.S.M 0 6 (aX (Oc.G uo).symm);have hlt:=ab Z0.i.S.lt;have f77:=((h.b.eg.go Z0.i.R).K.1 77).trans (Eg.TS x);have g77:=(h.b.eg.go Z0.i.R).K.2.1 77;have H:=ab h;have HI:=ab hi;have hti:=hi.ti;have hxt:=h.b.fQ;clear h hi;go_enter KX,Hz;go_upto_region 1 with fail
 generalize(W.alloc (.D a.ay 66)).alloc (.D uo.ay 58)=w1 at Z0 f0 th hlt f77 g77 ⊢;by_cases hT:1099511627776<=s.fQ
 ·have q1:decide (x.fQ>=1099511627776)=true:=by simp;omega
  have HU:=ab (show NK e s=(s,{uV with err:=7})by unfold NK;rw[if_pos hT]);clear hT hti hxt g77;go_wp2_with fail;refine aN (Zm.yV rfl _ rfl (Z0.i.S.put (Oc.bad 7).ay (by rw[Oc.G,Oc.G])) (Oc.G _)) rfl ?_;rw[HU.i];exact Av H.i Z0.i.R hlt.i (abC _ _ 7) (H.i.go Z0.i.R) rfl (fun b hb=>.a hb) (jC.refl _ _)
 ·have q1:decide (x.fQ>=1099511627776)=false:=by simp;omega
  have HU:=ab (show NK e s=({s with fQ:=x.fQ+1,G:=Ll (x.fQ+1) x.cf.kF s.G},uV)by unfold NK;rw[if_neg hT,hxt,H.i.b.cf]);have hw:=jS (x.fQ+1) (by omega);have E1:=ab ((H.i.go Z0.i.R).aqN (x.fQ+1));have hf1:jC [q] w1 (w1.F ⟨q,77,none⟩ (.b .a (x.fQ+1))):=(jC.refl [q] w1).set ⟨q,77,none⟩ _ (.a (by simp));have HF1:=ab hf1;have B0:=ab (hf1.box Z0.i.S (by have:=H.i.b.lt;simp;omega));clear hT hti hxt hf1;go_upto_region 24 with fail
  clear th f0 f77 g77;generalize w1.F ⟨q,77,none⟩ (.b .a (x.fQ+1))=w2 at E1 HF1 B0 ⊢;have KS:=ab (fun(w':ak) (h4:dK w' q ({x with fQ:=x.fQ+1}:Eg).ay)=>show w'.b ⟨q,74,none⟩=some (.c (some ⟨q2,0,none⟩))/\w'.b ⟨q,77,none⟩=some (.b .a (x.fQ+1))/\(WI (.c (some ⟨q,19,none⟩))).I ah w' = .Z (.d (J8 x.cf.kF)) w' from
   ⟨by
    rw[h4.K.1 74,Eg.Zj];show some (rZ (x.fl.map fun b=>⟨b,0,none⟩))=_;rw[H.i.b.fl];rfl,(h4.K.1 77).trans (Eg.TS _),kI6.Dj h4 19 (Eg.Tv _) (by rw[Eg.G];omega)⟩)
  have CU:=ab (adT (E1.i.go (iA _)).b.h (x.fQ+1) x.cf.kF);obtain⟨k1,k2,k3⟩:=KS.i _ (E1.i.b.eg.go (iA _));go_region_held_law (fun w'=>w'.b ⟨q,74,none⟩=some (.c (some ⟨q2,0,none⟩))/\w'.b ⟨q,77,none⟩=some (.b .a (x.fQ+1))/\(WI (.c (some ⟨q,19,none⟩))).I ah w' = .Z (.d (J8 x.cf.kF)) w')
   (first|exact KS.i _ (E1.i.b.eg.go (iA _))|exact KS.i _ BQ.i|go_keep)
   (first|(go_at_call 75;(with_reducible refine CU.i.g ?_);rintro r w3 ⟨⟨A5,c5,rfl⟩,⟨sl',ht,hsl⟩,hf⟩;have HTB:=ab ht;have HSL:=ab hsl;have HF:=ab hf;have BQ:=ab (jC.box hf (E1.i.b.eg.go (iA _)) (by have h1:=H.i.b.nq;simp;omega));have B2:=ab (jC.box hf (B0.i.go (iA _)) (by have h1:=H.i.b.lt;simp;omega));clear hf ht hsl))
  have th:=B2.i.M 0 6 (aX (Oc.G uo).symm);have E2:=ab (yN.qU (E1.i.go (iA _)) HF.i HTB.i HSL.i);go_wp2_with fail;refine aN (Zm.yV rfl _ rfl (B2.i.put uo.ay rfl) (Oc.G _)) rfl ?_;rw[HU.i];exact Av H.i Z0.i.R hlt.i (anK _ _) E2.i HSL.i (fun b hb=>.a hb) (((HF1.i.lF (F':=[q,q2,g]) (by simp)).pV (jC.jw (iA _))).pV (HF.i.lF (by simp)))
end
section
variable {W W':ak} {q:Nat} {e:En} {s:pY} {x:Eg} {q2 g:Nat} {sl:List (Option Fw)}
theorem agw{x:Hl}{well:Bool}{r f:Int}:(uN x well r f).1.E=x.E/\((uN x well r f).2=false->(uN x well r f).1.down=x.down):=by
 unfold uN
 repeat' split
 all_goals simp
theorem Zn:∀(l:List Hl)(k:Nat)(y:Hl),k<l.a->y.E=(l.c k kS).E->y.down=(l.c k kS).down->nX (l.set k y)=nX l
 | [],_,_,h,_,_=>by cases h
 | a::l,0,y,_,h1,h2=>by
   unfold nX;simp only[List.getD_cons_zero]at h1 h2;simp only[bP,List.filter_cons,h2];split<;>simp[h1]
 | a::l,k+1,y,h,h1,h2=>by
   have ih:=Zn l k y (by simpa using h) (by simpa using h1) (by simpa using h2);unfold nX at ih ⊢;simp only[bH,List.filter_cons];split<;>simp[ih]
theorem agx{l:List Hl}{n:List UInt8}{well:Bool}{r f:Int}(h:(Iy l n well r f).2.1=false):nX (Iy l n well r f).1=nX l:=by
 unfold Iy at h ⊢;split
 ·rfl
 ·rename_i hp
  rw[if_neg hp]at h;have hk:=agw (x:=l.c (zB l n).e kS) (well:=well) (r:=r) (f:=f);by_cases hl:(zB l n).e<l.a
  ·exact Zn l _ _ hl hk.1 (hk.2 h)
  ·simp only
   rw[List.set_eq_of_length_le (by omega)]
theorem aj'(l:List Hl)(s:List UInt8)(a:Bool)(b c:Int):(Iy l s a b c).1.a=l.a:=by
 unfold Iy;split
 ·rfl
 ·simp
theorem QB{A:Option aT}{n c:Nat}{b:Nat}(h:b∈oz ({x with Ot:=A,DN:=n,Sz:=c}:Eg)):b∈oz x\/b∈tF A:=by
 rcases dW.1 h with h|h|h|h|h|h
 ·exact .a (dW.2 (.a h))
 ·exact .a (dW.2 (.b (.a h)))
 ·exact .b h
 ·exact .a (dW.2 (.b (.b (.b (.a h)))))
 ·exact .a (dW.2 (.b (.b (.b (.b (.a h))))))
 ·exact .a (dW.2 (.b (.b (.b (.b (.b h))))))
theorem LM.aqP{A:Option aT}{n c:Nat}{Jk:List Hl}(h:LM W q e s x q2 g sl)(hR:iJ Hl.ay 3 W' W'.a.j A n Jk)(hf:jC [q] W W')(hb:dK W' q ({x with Ot:=A,DN:=n,Sz:=c}:Eg).ay)(hA:∀b∈tF A,W.a.j<=b/\b<W'.a.j):LM W' q e {s with h:=Jk} ({x with Ot:=A,DN:=n,Sz:=c}:Eg) q2 g sl:=by
 have o:∀b,b∈oz x->b∉[q]:=fun b hm=>h.i hm
 have hs:=hf.j;have hq:=h.nq;have hlt:=h.lt;refine⟨hb,h.key,h.cf,h.kT,h.vs.keep hf (fun b hm=>o b (dW.2 (.a hm))),h.X.keep hf (fun b hm=>o b (dW.2 (.b (.a hm)))),hR,h.fl,h.h.keep hf (by simp;omega) (by simp;omega),h.rm,h.nq,fun b hm=>?_,h.fQ,h.no,h.ji⟩;rcases QB hm with hm|hm
 ·have:=h.EF b hm;omega
 ·have:=hA b hm;omega
theorem yN.aqP{A:Option aT}{n c:Nat}{Jk:List Hl}(h:yN W q e s x q2 g sl)(hR:iJ Hl.ay 3 W' W'.a.j A n Jk)(hf:jC [q] W W')(hb:dK W' q ({x with Ot:=A,DN:=n,Sz:=c}:Eg).ay)(hA:∀b∈tF A,W.a.j<=b/\b<W'.a.j)(hd:nX Jk=nX s.h):yN W' q e {s with h:=Jk} ({x with Ot:=A,DN:=n,Sz:=c}:Eg) q2 g sl:=by
 have o:∀b,b∈oz x->b∉[q]:=fun b hm=>h.b.i hm
 refine⟨h.b.aqP hR hf hb hA,?_,?_⟩
 ·have:=h.dn.keep hf (fun b hm=>o b (dW.2 (.b (.b (.b (.a hm))))))
  rw[<-hd]at this;exact this
 ·have:=h.tt.keep hf (fun b hm=>o b (dW.2 (.b (.b (.b (.b (.a hm))))))) (fun b hm=>o b (dW.2 (.b (.b (.b (.b (.b hm)))))))
  have he:zM e {s with h:=Jk}=zM e s:=by unfold zM;simp only;rw[hd]
  rw[<-he]at this;exact this
theorem akb{M:Int}(h:yN W q e s x q2 g sl)(hi:nR M e s)(a:At)(u:Ac)(ha:AtR W a u)(hk:u.kind=3):
 aP ah 25 #[.c (some ⟨q,0,none⟩),.d a.ay] W (XG W q e x q2 g sl (NJ e s u.E u.h)):=by
 have Z0:=ab (((Bx.start W).new a.ay 66).new uo.ay 58);rw[show(W.alloc (.D a.ay 66)).a.j=W.a.j+1 by simp]at Z0;have f0:=(Z0.i.b1.K.1 0).trans (At.zq a);rw[ha.kind,hk]at f0;have hlt:=ab Z0.i.S.lt;have H:=ab h;have HI:=ab hi;have HA:=ab (show a.E=u.E/\a.h=u.h from⟨ha.E,ha.h⟩);have hnn:=rz hi.cn;obtain⟨st,hst⟩:=cB (Iy s.h u.E u.h x.cf.kC x.cf.X);have hcr:x.cf.kC=e.c.kC/\x.cf.X=e.c.X:=by rw[h.b.cf];exact⟨rfl,rfl⟩
 have HST:=ab (show st=Iy s.h u.E u.h e.c.kC e.c.X by rw[hst,hcr.1,hcr.2]);have CS:=ab (fun(w:ak) (hb:aL W.a.j W w)=>aoX s.h u.E u.h x.cf.kC x.cf.X x.Ot x.DN x.Sz w (h.b.hl.go hb) (fun y hy=>by have h1:=hi.hl y hy;unfold arz;split at h1<;>omega) (by have h1:=h.b.hl.1;have h2:=hi.few;omega));rw[<-hst]at CS;unfold axi at CS;clear h hi hst hcr hnn;obtain⟨Jk,turned,er⟩:=st;simp only at CS;go_enter KX,Hz;go_upto_region 1 with fail
 generalize(W.alloc (.D a.ay 66)).alloc (.D uo.ay 58)=w1 at Z0 f0 hlt ⊢;go_upto_region 13 with fail
 have KS:=ab (fun(w':ak) (h1:dK w' W.a.j a.ay) (h4:dK w' q x.ay)=>show w'.b ⟨q,72,none⟩=some (.a x.Ot x.DN x.Sz)/\w'.b ⟨W.a.j,32,none⟩=some (.g (bT u.E))/\w'.b ⟨W.a.j,33,none⟩=some (.e u.h)/\w'.b ⟨q,25,none⟩=some (.b .a x.cf.kC)/\w'.b ⟨q,26,none⟩=some (.b .a x.cf.X)from
  ⟨(h4.K.1 72).trans (Eg.Zi _),by rw[h1.K.1 32,At.zu,HA.i.1],by rw[h1.K.1 33,At.aqM,HA.i.2],(h4.K.1 25).trans (Eg.Tw _),(h4.K.1 26).trans (Eg.Tx _)⟩)
 go_region_held_law (fun w'=>w'.b ⟨q,72,none⟩=some (.a x.Ot x.DN x.Sz)/\w'.b ⟨W.a.j,32,none⟩=some (.g (bT u.E))/\w'.b ⟨W.a.j,33,none⟩=some (.e u.h)/\w'.b ⟨q,25,none⟩=some (.b .a x.cf.kC)/\w'.b ⟨q,26,none⟩=some (.b .a x.cf.X))
  (first|exact KS.i _ Z0.i.drew.b1 (H.i.b.eg.go Z0.i.drew.R)|exact KS.i _ Z1.i.b1 (H.i.b.eg.go Z1.i.R)|go_keep)
  (first|(go_at_call 74;(with_reducible refine(CS.i _ Z0.i.drew.R).g ?_);rintro r w2 ⟨A5,c5,rfl,ho,hb⟩;have HO:=ab ho;have Z1:=ab (Z0.i.drew.go hb);have HSZ:=ab (show w1.a.j<=w2.a.j from hb.j);have HB2:=ab (show aL w1.a.j w1 w2 from(iA w1).trans hb);clear hb ho))
 have HO:=ab (show w2.c w1.a.j 100 3 (.a A5 x.DN c5) x.DN (wR Jk)from HO.i);have th:=Z1.i.S.M 0 6 (aX (Oc.G uo).symm);by_cases her:er=0
 case neg=>
  have q1:(er != 0)=true:=by simpa using her
  have HU:=ab (show NJ e s u.E u.h=(s,{uV with err:=er})by unfold NJ;rw[<-HST.i];simp only;rw[if_neg her]);clear her;go_wp2_with fail;refine aN (Zm.yV rfl _ rfl (Z1.i.S.put (Oc.bad er).ay (by rw[Oc.G,Oc.G])) (Oc.G _)) rfl ?_;rw[HU.i];exact Av H.i Z1.i.R (eY hlt.i HSZ.i) (abC _ _ er) (H.i.go Z1.i.R) rfl (fun b hb=>.a hb) (jC.refl _ _)
 obtain rfl:=her;have HU:=ab (show NJ e s u.E u.h=({s with h:=Jk},uV)by unfold NJ;rw[<-HST.i];simp);have HIV:=ab (show nR M e {s with h:=Jk}by have:=adC HI.i u.E u.h;rw[HU.i]at this;exact this);have g72:=(H.i.b.eg.go Z1.i.R).K.2.1 72;have hb3:=(H.i.b.eg.go Z1.i.R).eF 72 (.a A5 x.DN c5);rw[Eg.agm]at hb3;have hf3:jC [q] w2 (w2.F ⟨q,72,none⟩ (.a A5 x.DN c5)):=(jC.refl [q] w2).set ⟨q,72,none⟩ _ (.a (by simp));have HHB:=ab hb3;have HHF:=ab hf3;have B3:=ab (hf3.box Z1.i.S (by have:=H.i.b.lt;simp;omega));have HFR:=ab (iH HO.i);have HLN:=ab (show Jk.a=x.DN by
  have h1:=congrArg (fun r=>r.1.a) HST.i;simp only[aj']at h1;rw[h1];exact H.i.b.hl.1)
 have RH:=ab (show iJ Hl.ay 3 (w2.F ⟨q,72,none⟩ (.a A5 x.DN c5)) (w2.F ⟨q,72,none⟩ (.a A5 x.DN c5)).a.j A5 x.DN Jk from(iJ.iQ HLN.i HO.i).keep hf3 (fun b hb=>by have:=HFR.i b hb;have:=H.i.b.lt;have:=Z1.i.R.j;have:=HSZ.i;have:=Z0.i.R.j;simp;omega));have HWS:(w2.F ⟨q,72,none⟩ (.a A5 x.DN c5)).a.j=w2.a.j:=by simp[gX]
 have HWZ:=ab HWS;have HFA:=ab ((jC.jw (F:=[q]) Z1.i.R).pV hf3);have Gb:=ab (show W.a.j<=w1.a.j from Z0.i.R.j);have agy:=ab ((jC.jw (F:=[q]) HB2.i).pV hf3);have HBA:=ab (show∀b∈tF A5,w1.a.j<=b/\b<(w2.F ⟨q,72,none⟩ (.a A5 x.DN c5)).a.j from fun b hb=>by rw[HWS];exact HFR.i b hb);cases turned with
 | false=>
   have HD:=ab (show nX Jk=nX s.h by have:=agx (l:=s.h) (n:=u.E) (well:=u.h) (r:=e.c.kC) (f:=e.c.X) (by rw[<-HST.i]);rw[<-HST.i]at this;exact this);have E3:=ab ((H.i.go Z0.i.R).aqP RH.i agy.i hb3 HBA.i HD.i);clear hf3 hb3 th HWS;have th3:=B3.i.M 0 6 (aX (Oc.G uo).symm);go_upto_region 17 with fail
   generalize w2.F ⟨q,72,none⟩ (.a A5 x.DN c5)=w3 at E3 HHF HFA agy HBA B3 th3 HWZ RH HHB ⊢;go_wp2_with fail;refine aN (Zm.yV rfl _ rfl (B3.i.put uo.ay rfl) (Oc.G _)) rfl ?_;rw[HU.i];exact Av H.i Z0.i.R hlt.i (anK _ _) E3.i rfl (fun b hb=>(QB hb).imp id (fun h=>(HBA.i b h).1)) (agy.i.lF (by simp))
 | true=>
   have E3:=ab ((H.i.go Z0.i.R).b.aqP RH.i agy.i hb3 HBA.i);clear hf3 hb3 th HWS;go_upto_region 17 with fail
   generalize w2.F ⟨q,72,none⟩ (.a A5 x.DN c5)=w3 at E3 HHF HFA agy HBA B3 HWZ RH HHB ⊢;have CB:=ab (Jj E3.i HIV.i);unfold abx at CB;go_upto_region 19 with(go_at_call 64;(with_reducible refine CB.i.g ?_);rintro r w4 ⟨rfl,⟨x',hE,hrw⟩,hf⟩;have HE:=ab hE;have HRW:=ab hrw;have HF:=ab hf;have B4:=ab (hf.box B3.i (by have:=H.i.b.lt;simp;omega));have th4:=B4.i.M 0 6 (aX (Oc.G uo).symm);clear hE hrw hf)
   go_wp2_with fail;refine aN (Zm.yV rfl _ rfl (B4.i.put uo.ay rfl) (Oc.G _)) rfl ?_;rw[HU.i];refine Av H.i Z0.i.R hlt.i (anK _ _) HE.i rfl (fun b hb=>?_) ((agy.i.pV HF.i).lF (by simp));rcases HRW.i b hb with h1|h1
   ·exact(QB h1).imp id (fun h=>(HBA.i b h).1)
   ·exact .b (aO agy.i.j h1)
end
section
variable {W W':ak} {q:Nat} {e:En} {s:pY} {x:Eg} {q2 g:Nat} {sl:List (Option Fw)}
@[go_sem]theorem azJ(W:ak)(k:Int):(uH 58 #[(3,.b .a k)]).I ah W = .Z (.d (Oc.mk 0 0 false k [] none 0 0).ay) W:=Zm.bd W _ _ _ _ kM (anC W _ kM) (by
 refine(iq rfl rfl (by rw[Oc.G];omega) (Oc.asg _ _)).trans ?_;rfl)
theorem dK.avn{W:ak}{b o:Nat}{c:Array aB}{t:qO}(h:dK W b c)(hc:c.m o (o+30)=t.ay)(hs:o+30<=c.j):(MH (.c (some ⟨b,o,none⟩))).I ah W = .Z (.d t.ay) W:=by
 obtain⟨_,_,h3,h4⟩:=h.K;rw[alB W b o (by rw[h3 o 30 (by unfold dY;omega)];trivial),h4 o 30 (by unfold dY;omega),hc]
theorem aea{F:List Nat}{B n c sz:Nat}{T:bF}{A:Option aT}{xs:List aB}(h:W.c B T sz (.a A n c) n xs)(hf:jC F W W')(hF:∀b∈F,b<B):W'.c B T sz (.a A n c) n xs:=Ar h hf (fun k hk hm=>by
 have h2:k∈tF A:=by
  cases hA:A with
  | none=>rw[hA]at hk;cases hk
  | some a=>rw[hA]at hk;exact Di.2 ⟨a,rfl,by simpa[jY]using hk⟩
 have h3:=(iH h k h2).1;have:=hF k hm;omega)
theorem Eg.azK(h:dK W q x.ay)(pc:Pc):dK (gT W q 70 pc.ay) q ({x with pl:=pc}:Eg).ay:=by
 have:=h.setCells 70 pc.ay.a;rw[show pc.ay.a.toArray=pc.ay by simp,Eg.anp]at this;exact this
theorem dK.aqA{b:Nat}{pc:Pc}(h:dK W b pc.ay):(xI 32 (.c (some ⟨b,0,none⟩))).I ah W = .Z (.d pc.ay) W:=by
 have:=kPc.Dj h 0 (d:=pc.ay) (by have:=Pc.G pc;rw[<-this];simp) (by rw[Pc.G];omega);exact this
theorem nR.aqQ{M:Int}(h:nR M e s):∀y∈s.h,y.E.a<=100000:=fun y hy=>by
 have h1:y.E∈s.X.map (·.E):=by rw[<-h.nm];exact iV.2 ⟨y,hy,rfl⟩
 obtain⟨z,hz,h2⟩:=iV.1 h1;have h3:=h.few.2.2 z hz;rw[<-h2];omega
theorem anL{w4 w5 w6:ak}{mY:List Hl}{A:Option aT}{c:Nat}(h1:aL w4.drew.a.j w4.drew w5)(h2:aL w5.a.j w5 w6)(hq:q<w4.a.j)(Q:dK w6 q x.ay)(O:w6.c w5.a.j 100 3 (.a A mY.a c) mY.a (wR mY)):
 ∃A2 n2 c2,dK (w6.F ⟨q,72,none⟩ (.a A mY.a c)) q ({x with Ot:=A2,DN:=n2,Sz:=c2}:Eg).ay/\iJ Hl.ay 3 (w6.F ⟨q,72,none⟩ (.a A mY.a c)) (w6.F ⟨q,72,none⟩ (.a A mY.a c)).a.j A2 n2 mY/\(∀b∈tF A2,w4.a.j<=b/\b<(w6.F ⟨q,72,none⟩ (.a A mY.a c)).a.j)/\jC [q] w4 (w6.F ⟨q,72,none⟩ (.a A mY.a c)):=by
 have s1:w4.a.j<=w5.a.j:=h1.j;have hf:jC [q] w6 (w6.F ⟨q,72,none⟩ (.a A mY.a c)):=(jC.refl [q] w6).set ⟨q,72,none⟩ _ (.a (by simp));have hb:=Q.eF 72 (.a A mY.a c);rw[Eg.agm]at hb;have hfr:=iH O;refine⟨A,mY.a,c,hb,(iJ.iQ rfl O).keep hf (fun b hm=>by have:=hfr b hm;simp;omega),fun b hm=>?_,(((jC.jw (F:=[q]) (iA w4)).pV (jC.jw h1)).pV (jC.jw h2)).pV hf⟩;have:=hfr b hm;have e1:(w6.F ⟨q,72,none⟩ (.a A mY.a c)).a.j=w6.a.j:=by simp[gX]
 rw[e1];omega
theorem Zo{p:Pc}{A:Option aT}{n c:Nat}{b:Nat}(h:b∈oz ({x with pl:=p,Ot:=A,DN:=n,Sz:=c}:Eg)):b∈oz x\/b∈tF p.rA\/b∈tF A:=by
 rcases dW.1 h with h|h|h|h|h|h
 ·exact .a (dW.2 (.a h))
 ·exact .b (.a h)
 ·exact .b (.b h)
 ·exact .a (dW.2 (.b (.b (.b (.a h)))))
 ·exact .a (dW.2 (.b (.b (.b (.b (.a h))))))
 ·exact .a (dW.2 (.b (.b (.b (.b (.b h))))))
theorem LM.aEE{p:Pc}{A:Option aT}{n c:Nat}{l:List Bk}{Jk:List Hl}(h:LM W q e s x q2 g sl)(hP:iJ Bk.ay 27 W' W'.a.j p.rA p.rN l)(hR:iJ Hl.ay 3 W' W'.a.j A n Jk)(hf:jC [q] W W')(hb:dK W' q ({x with pl:=p,Ot:=A,DN:=n,Sz:=c}:Eg).ay)(hA:∀b,b∈tF p.rA\/b∈tF A->W.a.j<=b/\b<W'.a.j):LM W' q e {s with kT:=p.kT,X:=l,h:=Jk} ({x with pl:=p,Ot:=A,DN:=n,Sz:=c}:Eg) q2 g sl:=by
 have o:∀b,b∈oz x->b∉[q]:=fun b hm=>h.i hm
 have hs:=hf.j;have hq:=h.nq;have hlt:=h.lt;refine⟨hb,h.key,h.cf,rfl,h.vs.keep hf (fun b hm=>o b (dW.2 (.a hm))),hP,hR,h.fl,h.h.keep hf (by simp;omega) (by simp;omega),h.rm,h.nq,fun b hm=>?_,h.fQ,h.no,h.ji⟩;rcases Zo hm with hm|hm
 ·have:=h.EF b hm;omega
 ·have:=hA b hm;omega
def DoP(w:ak)(v:Int)(l:List Bk)(er:Int)(r:lq)(w':ak):Prop:=
 ∃A c,r=.a (.J #[.d (Pc.mk v A l.a c).ay,.b .a er])/\w'.c w.a.j 62 27 (.a A l.a c) l.a (dH l)/\aL w.a.j w w'
theorem azL{M:Int}(h:yN W q e s x q2 g sl)(hi:nR M e s)(hv:s.kT<9223372036854775807/\-9223372036854775808<=s.kT)(o:qO)(hf:o.X.pJ)(hw:o.w<18446744073709551616){w:ak}(hb:aL W.a.j W w):
 aP ah 71 #[.d x.pl.ay,.d o.ay] w (DoP w (doV s.kT s.X o) (doL s.kT s.X o) (pU s.kT s.X o)):=by
 have h1:=h.b.X.go hb;have hn:=h.b.X.1;have aj2:=hi.few;have:=ata s.X hi.srt s.kT ⟨hv.2,hv.1⟩ o hf hw x.pl.rA x.pl.rC w (by rw[hn];exact h1) (by omega);rw[hn]at this;have e1:x.pl.ay = #[.b .a s.kT,.a x.pl.rA x.pl.rN x.pl.rC]:=by unfold Pc.ay;rw[h.b.kT]
 rw[e1];exact this
theorem aqR{M:Int}(h:yN W q e s x q2 g sl)(hi:nR M e s)(a:At)(u:Ac)(ha:AtR W a u)(hk:u.kind=2)(hof:u.op.X.pJ)(how:u.op.w<18446744073709551616):
 aP ah 25 #[.c (some ⟨q,0,none⟩),.d a.ay] W (XG W q e x q2 g sl (opE s u.op)):=by
 have Z0:=ab (((Bx.start W).new a.ay 66).new uo.ay 58);rw[show(W.alloc (.D a.ay 66)).a.j=W.a.j+1 by simp]at Z0;have f0:=(Z0.i.b1.K.1 0).trans (At.zq a);rw[ha.kind,hk]at f0;have hlt:=ab Z0.i.S.lt;have H:=ab h;have HI:=ab hi;have HA:=ab ha.op;have CD:=ab (fun(w:ak) (hb:aL W.a.j W w)=>azL h hi (by obtain⟨p1,p2,_⟩:=uO.1 hi.pl;omega) u.op hof how hb);unfold DoP at CD;obtain⟨v,hv⟩:=cB (doV s.kT s.X u.op);obtain⟨l,hl⟩:=cB (doL s.kT s.X u.op);obtain⟨er,her⟩:=cB (pU s.kT s.X u.op);rw[<-hv,<-hl,<-her]at CD;have HV:=ab hv;have HL:=ab hl;have HE:=ab her;clear h hi hv hl her;go_enter KX,Hz;go_upto_region 1 with fail
 generalize(W.alloc (.D a.ay 66)).alloc (.D uo.ay 58)=w1 at Z0 f0 hlt ⊢;go_upto_region 5 with fail
 have KS:=ab (fun(w':ak) (h1:dK w' W.a.j a.ay) (h2:aL W.a.j W w')=>show(xI 32 (.c (some ⟨q,70,none⟩))).I ah w' = .Z (.d x.pl.ay) w'/\(MH (.c (some ⟨W.a.j,2,none⟩))).I ah w' = .Z (.d u.op.ay) w' from
  ⟨H.i.b.agp h2,h1.avn (o:=2) (by rw[<-HA.i];exact At.asi a) (by rw[At.G];omega)⟩)
 go_cut [5,6]from 21 to 29 (fun s5 s6 wx=>∃y A c,s5=.c (some ⟨y,0,none⟩)/\s6=.b .a er/\w1.a.j<=y/\Bx [(y,(Pc.mk v A l.a c).ay),(W.a.j+1,uo.ay),(W.a.j,a.ay)] W wx/\wx.c w1.a.j 62 27 (.a A l.a c) l.a (dH l)/\aL w1.a.j w1 wx)
 case first=>
  have ZP:=ab ((Z0.i.new XD.ay 32).drew);go_region_held_law (fun w'=>(xI 32 (.c (some ⟨q,70,none⟩))).I ah w' = .Z (.d x.pl.ay) w'/\(MH (.c (some ⟨W.a.j,2,none⟩))).I ah w' = .Z (.d u.op.ay) w')
   (first|exact KS.i _ ZP.i.b2 ZP.i.R|exact KS.i _ Z0.i.b1 Z0.i.R|exact KS.i _ Z0.i.drew.b1 Z0.i.drew.R|exact KS.i _ (Z0.i.new XD.ay 32).b2 (Z0.i.new XD.ay 32).R|exact KS.i _ Z1.i.b2 Z1.i.R|exact KS.i _ Z2.i.b1 Z2.i.R|exact KS.i _ (Z2.i.new XD.ay 32).b2 (Z2.i.new XD.ay 32).R|exact KS.i _ ZQ.i.b2 ZQ.i.R|exact KS.i _ ZN.i.b2 ZN.i.R|go_keep)
   (first|(go_at_call 71;(with_reducible refine(CD.i _ ZP.i.R).g ?_);rintro r w2 ⟨A5,c5,rfl,ho,hb⟩;have HO:=ab ho;have Z1:=ab (ZP.i.go hb);have HB2:=ab hb;have thp:=Z1.i.S.M 0 2 (aX (Pc.G XD).symm);have ZQ:=ab (Z1.i.put (fun p hp=>jL (Z0.i.2 p hp).2.lt) (Pc.mk v A5 l.a c5).ay (by rw[Pc.G,Pc.G]));clear hb ho)|(go_at_call 71;(with_reducible refine(CD.i _ Z0.i.drew.R).g ?_);rintro r w2 ⟨A5,c5,rfl,ho,hb⟩;have HO:=ab ho;have Z2:=ab (Z0.i.drew.go hb);have ZN:=ab (Z2.i.new (Pc.mk v A5 l.a c5).ay 32);have HB2:=ab hb;clear hb ho))
  ·go_wp2_with fail
   go_meet
   case rel=>exact⟨w2.a.j,A5,c5,rfl,rfl,HB2.i.j,ZN.i,Ar HO.i (jC.jw (F:=[]) ((aG _ _).alloc (av _) _)) (fun k hk hm=>by cases hm),((iA w1).trans HB2.i).alloc HB2.i.j _⟩
  ·go_wp2_with fail
   go_meet
   case rel=>exact⟨w1.a.j,A5,c5,rfl,rfl,av _,ZQ.i,iI (aea HO.i (yt w2 w1.a.j 0 _) (by simp)) (by simp),kZ (((aG w1.a.j w1).alloc (av _) _).trans (((iA _).trans HB2.i).g (by simp))) w1.a.j 0 _ (av _)⟩
 obtain⟨y,A,c,rfl,rfl,hy,Z3,hO,hB⟩:=hcut;have Z3:=ab Z3;have HO:=ab hO;have HB:=ab hB;have HY:=ab hy;clear hO hB hy CD;generalize wc=w3 at Z3 HO HB ⊢;have th:=Z3.i.b1.M 0 6 (aX (Oc.G uo).symm);by_cases h0:er=0
 case neg=>
  have q1:(er != 0)=true:=by simpa using h0
  have HU:=ab (show opE s u.op=(s,{uV with err:=er})by unfold opE;rw[<-HE.i,if_neg h0]);clear h0;go_wp2_with fail;refine aN (Zm.yV rfl _ rfl (Z3.i.b1.put (Oc.bad er).ay (by rw[Oc.G,Oc.G])) (Oc.G _)) rfl ?_;rw[HU.i];exact Av H.i Z3.i.R (eY hlt.i HB.i.j) (abC _ _ er) (H.i.go Z3.i.R) rfl (fun b hb=>.a hb) (jC.refl _ _)
 obtain rfl:=h0;have HU:=ab (show opE s u.op=({s with kT:=v,X:=l,h:=El s.h (l.map (·.E))},{uV with kT:=v})by unfold opE;rw[<-HE.i,if_pos rfl,<-HV.i,<-HL.i]);have HIV:=ab (show nR M e {s with kT:=v,X:=l,h:=El s.h (l.map (·.E))}by have:=amG HI.i u.op hof how;rw[HU.i]at this;exact this);have hq:=H.i.b.lt;have hyw:W.a.j+1<y:=eY hlt.i HY.i;have EB:=H.i.b.eg.go Z3.i.R;have th2:=EB.M 70 2 (by rw[Eg.G];omega);have lp:=Z3.i.S.aqA;have HB4:=ab (Eg.azK EB (Pc.mk v A l.a c));go_upto_region 9 with fail
 have hrw:=H.i.b.EF;have F4:=ab (yt w3 q 70 (Pc.mk v A l.a c).ay);have BY:=ab (F4.i.box Z3.i.S (by simp;omega));have B4:=ab (F4.i.box Z3.i.b1 (by simp;omega));have O4:=ab (aea HO.i F4.i (by have:=Z0.i.R.j;simp;omega));have HR4:=ab ((H.i.b.hl.go Z3.i.R).keep F4.i (fun b hb=>by have:=hrw b (dW.2 (.b (.b (.a hb))));simp;omega));have HF:=ab HIV.i.few;have HNN:=ab HI.i.aqQ;have HNM:=ab (show∀z∈l.map (·.E),z.a<=100000 from fun z hz=>by
  obtain⟨b,hb,rfl⟩:=iV.1 hz;have:=HF.i.2.2 b hb;omega)
 have HLE:=ab (show x.DN<=100000 by have h1:=H.i.b.hl.1;have h2:=HI.i.few;omega);have HQ3:=ab (show q<w3.a.j by have:=Z3.i.R.j;omega);clear hq hyw EB th2 lp hrw th f0;generalize gT w3 q 70 (Pc.mk v A l.a c).ay=w4 at HB4 F4 BY B4 O4 HR4 ⊢;have HQ4:=ab (show q<w4.a.j from eY HQ3.i F4.i.j);have CN:=ab (ad3 l v A l.a c w4.drew ((iJ.iQ rfl O4.i).go (iA _)) (by have:=HF.i.1;simp at this;omega));have f72:=((HB4.i.go (iA _)).K.1 72).trans (Eg.Zi _);have lp:=(BY.i.go (iA _)).aqA;go_cut []from 38 to 47 (fun wx=>∃A2 n2 c2,dK wx q ({x with pl:=Pc.mk v A l.a c,Ot:=A2,DN:=n2,Sz:=c2}:Eg).ay/\iJ Hl.ay 3 wx wx.a.j A2 n2 (El s.h (l.map (·.E)))/\(∀b∈tF A2,w4.a.j<=b/\b<wx.a.j)/\jC [q] w4 wx)
 case first=>
  go_region_with (first
   | (go_at_call 73;(with_reducible refine CN.i.g ?_);rintro r w5 ⟨A2,n2,c2,rfl,hR,hb⟩;have HN5:=ab hR;have B5:=ab hb;have Y5:=ab ((BY.i.go (iA _)).go hb);have Q5:=ab ((HB4.i.go (iA _)).go hb);have aLb:=(Q5.i.K.1 72).trans (Eg.Zi _);have lp5:=Y5.i.aqA;have CY:=ab (alW s.h (l.map (·.E)) x.Ot x.DN x.Sz A2 n2 c2 w5 ((HR4.i.go (iA _)).go hb) hR HLE.i (by have h1:=hR.1;have h2:=HF.i.1;simp at h1 h2;omega) HNN.i HNM.i);clear hR hb)
   | (go_at_call 72;(with_reducible refine CY.i.g ?_);rintro r w6 ⟨A6,c6,rfl,ho,hb⟩;have O6:=ab ho;have B6:=ab hb;have Y6:=ab (Y5.i.go hb);have Q6:=ab (Q5.i.go hb);have g72:=Q6.i.K.2.1 72;have aLc:=(Q6.i.K.1 72).trans (Eg.Zi _);have Y7:=ab (((jC.refl [q] w6).set ⟨q,72,none⟩ (.a A6 (El s.h (l.map (·.E))).a c6) (.a (by simp))).box Y6.i (by have h1:=H.i.b.lt;have h2:=hlt.i;have h3:=HY.i;simp;omega));clear ho hb))
  all_goals go_wp2_with fail
  all_goals go_meet
  all_goals(have hs:=anL (x:=({x with pl:=Pc.mk v A l.a c}:Eg)) B5.i B6.i HQ4.i Q6.i O6.i;exact hs)
 obtain⟨A2,n2,c2,hb5,hr5,avo,hf5⟩:=hcut;have s1:=HB.i.j;have F34:jC [q] w1 wc:=((jC.jw (F:=[q]) HB.i).pV F4.i).pV hf5;have hq1:=H.i.b.lt;have s0:=Z0.i.R.j;have hOf:=iH O4.i;have E5:=ab ((H.i.go Z0.i.R).b.aEE (p:=Pc.mk v A l.a c) (((iJ.iQ rfl O4.i)).keep hf5 (fun b hb=>by have:=hOf b hb;simp;omega)) hr5 F34 hb5 (fun b hb=>by
  rcases hb with hb|hb
  ·have h1:=hOf b hb;have h2:=hf5.j;omega
  ·have h1:=avo b hb;have h2:=F4.i.j;omega))
 have aEG:=ab avo;have HOF:=ab hOf;have azM:=ab F34;have hyw:W.a.j+1<y:=eY hlt.i HY.i;have Y5:=ab (hf5.box BY.i (by simp;omega));have U5:=ab (hf5.box B4.i (by simp;omega));have CB:=ab (Jj (show LM wc q e {s with kT:=v,X:=l,h:=El s.h (l.map (·.E))} _ q2 g sl from E5.i) HIV.i);unfold abx at CB;have HS4:=ab (show w1.a.j<=w4.a.j from aO HB.i.j F4.i.j);have HYW:=ab hyw;clear avo hOf F34 hyw hf5 hb5 hr5 s1 s0 hq1 CN f72 lp;go_upto_region 11 with(go_at_call 64;(with_reducible refine CB.i.g ?_);rintro r w7 ⟨rfl,⟨x',hE,hrw⟩,hf⟩;have HEE:=ab hE;have HRW:=ab hrw;have HF7:=ab hf;have Y7:=ab (hf.box Y5.i (by have h1:=H.i.b.lt;have h2:=HYW.i;simp;omega));have U7:=ab (hf.box U5.i (by have h1:=H.i.b.lt;simp;omega));clear hE hrw hf)
 have fv:=(Y7.i.K.1 0).trans (Pc.WL _);have th:=U7.i.M 0 6 (aX (Oc.G uo).symm);go_wp2_with fail;refine aN (Zm.yV rfl _ rfl (U7.i.put (Oc.mk 0 0 false v [] none 0 0).ay (by rw[Oc.G,Oc.G])) (Oc.G _)) rfl ?_;rw[HU.i];refine Av H.i Z0.i.R hlt.i ⟨rfl,rfl,rfl,rfl,rfl,rfl,fu _ _ _ _⟩ HEE.i rfl (fun b hb=>?_) ((azM.i.pV HF7.i).lF (by simp));rcases HRW.i b hb with h1|h1
 ·rcases Zo h1 with h2|h2|h2
  ·exact .a h2
  ·exact .b (HOF.i b h2).1
  ·exact .b (aO HS4.i (aEG.i b h2).1)
 ·exact .b (aO azM.i.j h1)
end
theorem WS{W:ak}{q:Nat}{e:En}{s:pY}{x:Eg}{q2 g:Nat}{sl:List (Option Fw)}{M:Int}(h:yN W q e s x q2 g sl)(hi:nR M e s)(hM:M<1152921504606846976)(a:At)(u:Ac)(ha:AtR W a u)(hof:u.op.X.pJ)(how:u.op.w<18446744073709551616):
 aP ah 25 #[.c (some ⟨q,0,none⟩),.d a.ay] W (XG W q e x q2 g sl (nO e s u)):=by
 unfold nO;by_cases h1:u.kind=1
 ·rw[if_pos h1];exact agv h hi hM a u ha h1
 rw[if_neg h1];by_cases h2:u.kind=2
 ·rw[if_pos h2];exact aqR h hi a u ha h2 hof how
 rw[if_neg h2];by_cases h3:u.kind=3
 ·rw[if_pos h3];exact akb h hi a u ha h3
 rw[if_neg h3];by_cases h4:u.kind=4
 ·rw[if_pos h4];exact aj9 h hi a u ha h4
 rw[if_neg h4];exact aqO h a u ha ⟨h1,h2,h3,h4⟩
def anM(w:ak)(n:Nat)(l:List (List UInt8))(e:lq)(w':ak):Prop:=
 ∃A c,e=.a (.a A n c)/\w'.c w.a.j 9 1 (.a A n c) n (l.h fun x=>(txA x).a)/\aL w.a.j w w'
@[go_sem]theorem avp(w:ak):(adW 0 #[]).I ah w = .Z (.a (some ⟨w.a.j,0,none⟩) 0 0) (w.alloc (.D #[] 9)):=by
 obtain⟨i0,hi0,hz0,hz1,_⟩:=Zv;simp[adW,bJ,dJ lJ,zeroValue,sizeOf,typeInfo,hi0,hz0,hz1,fE,newRow,cK];rw[show(lW 0) = #[]by decide];simp
theorem aeb(l:List (List UInt8))(A:Option aT)(n c:Nat)(w:ak)(hR:RdT w w.a.j A n l)(hn:n<=100000):
 aP ah 88 #[.a A n c] w (anM w n l):=by
 have hll:=hR.1;cases A with
 | some a=>
   have hnil:∀W:ak,(binOp .eql 69 (.a (some a) n c) (.a none 0 0)).I ah W = .Z (.e false) W:=fun W=>by
    simp only[binOp];simp[jc,lJ]
   obtain⟨i0,hi0,hz0,hz1,hzb⟩:=Zv;have hz2:(iB ⟨#[]⟩).D.j=1:=rfl;have O1:=ab (show(w.alloc (.D #[] 9)).c w.a.j 9 1 (.a (some ⟨w.a.j,0,none⟩) 0 0) 0 []from nU w #[] 0 (av _) (by unfold maxLen;omega) rfl);have O2:=ab (hR.alloc (av _) (.D #[] 9)).2.1;have S9:=ab (show 0+n<=maxLen by unfold maxLen;omega);have OQ:=ab (show(0+n)*i0.bytes<=140737488355328 from aO (gU (show 0+n<=100000 by omega) hzb) (by omega));have O3:=ab (show w.a.j<=(w.alloc (.D #[] 9)).a.j by simp);have ON:=ab (D6 txA (fun x=>by simp[txA,cZ]) l);clear hR hll;go_enter Tryz.func88,Tryz.ntmps88;go_wp2_with (at_builtin;refine jv _ rfl (.a 5) (.a 6) _ rfl w.a.j 9 i0 (.g ⟨#[]⟩) 1 i0.bytes lJ hi0 hz0 hz1 rfl hz2 (mH _) (.a (some ⟨w.a.j,0,none⟩) 0 0) 0 [] rfl O1.i w.a.j (some a) n c ((l.h fun x=>(txA x).a)) rfl O2.i ON.i S9.i OQ.i O3.i ?_;intro v1 w1 hown1 hg1 wM);obtain⟨A',c',hv,_,_⟩:=jE hown1;subst hv;simp only[bB,dF]at hown1;have hb:=sj ((aG w.a.j w).alloc (av _) (.D #[] 9)) hg1 (av _) O3.i;go_wp2;go_ret;exact⟨A',c',by simp,hown1,hb⟩
 | none=>
   have h0:n=0:=by
    rcases eu n with h0|h0
    ·exact h0
    ·obtain⟨a,ha,_⟩:=hR.2.1.2 h0;cases ha
   subst h0;have hl:l=[]:=bE hll;subst hl;have hnil:∀W:ak,(binOp .eql 69 (.a none 0 c) (.a none 0 0)).I ah W = .Z (.e true) W:=fun W=>by
    simp only[binOp];simp[jc,lJ]
   have FIN:=ab (show anM w 0 [] (.a (.a none 0 0)) w from⟨none,0,rfl,fu _ _ _ _,aG _ _⟩);clear hR hll;go_enter Tryz.func88,Tryz.ntmps88;go_wp2;go_ret;exact FIN.i
theorem asj:∃i:nI,ah.l 3=some i/\i.zero=some (.b .a 0)/\i.j=1/\i.bytes<=400:=by
 obtain⟨i,h1,h2,h3,h4⟩:=zi (P:=ah) (e:=3) (z:=.b .a 0) (size:=1) (bytes:=8) (by kernel_rfl);exact⟨i,h1,h2,h3,by omega⟩
theorem anN:∃i:nI,ah.l 98=some i/\i.zero=some (.d oq.ay)/\i.j=20/\i.bytes<=400:=by
 obtain⟨i,h1,h2,h3⟩:=kVp.afB;refine⟨i,h1,h3,h2,?_⟩;have h4:(ah.l 98).map (fun i=>decide (i.bytes<=400))=some true:=by kernel_rfl
 rw[h1]at h4;simpa using h4
@[go_sem]theorem asl(w:ak):(Lj 0 #[]).I ah w = .Z (.a (some ⟨w.a.j,0,none⟩) 0 0) (w.alloc (.D #[] 3)):=by
 obtain⟨i0,hi0,hz0,hz1,_⟩:=asj;simp[Lj,bJ,dJ og,zeroValue,sizeOf,typeInfo,hi0,hz0,hz1,fE,newRow,cK];rw[show(lW 0) = #[]by decide];simp
def avq(w:ak)(n:Nat)(l:List Int)(e:lq)(w':ak):Prop:=
 ∃A c,e=.a (.a A n c)/\w'.c w.a.j 3 1 (.a A n c) n (l.h fun x=>(FP x).a)/\aL w.a.j w w'
theorem agz(l:List Int)(A:Option aT)(n c:Nat)(w:ak)(hR:iJ FP 1 w w.a.j A n l)(hn:n<=100000):
 aP ah 89 #[.a A n c] w (avq w n l):=by
 have hll:=hR.1;cases A with
 | some a=>
   have hnil:∀W:ak,(binOp .eql 70 (.a (some a) n c) (.a none 0 0)).I ah W = .Z (.e false) W:=fun W=>by
    simp only[binOp];simp[jc,og]
   obtain⟨i0,hi0,hz0,hz1,hzb⟩:=asj;have hz2:(aI .a 0).D.j=1:=rfl;have O1:=ab (show(w.alloc (.D #[] 3)).c w.a.j 3 1 (.a (some ⟨w.a.j,0,none⟩) 0 0) 0 []from nU w #[] 0 (av _) (by unfold maxLen;omega) rfl);have O2:=ab (hR.alloc (av _) (.D #[] 3)).2.1;have S9:=ab (show 0+n<=maxLen by unfold maxLen;omega);have OQ:=ab (show(0+n)*i0.bytes<=140737488355328 from aO (gU (show 0+n<=100000 by omega) hzb) (by omega));have O3:=ab (show w.a.j<=(w.alloc (.D #[] 3)).a.j by simp);have ON:=ab (D6 FP (fun x=>by simp[FP,cZ]) l);clear hR hll;go_enter Tryz.func89,Tryz.ntmps89;go_wp2_with (at_builtin;refine jv _ rfl (.a 5) (.a 6) _ rfl w.a.j 3 i0 (.b .a 0) 1 i0.bytes og hi0 hz0 hz1 rfl hz2 (mH _) (.a (some ⟨w.a.j,0,none⟩) 0 0) 0 [] rfl O1.i w.a.j (some a) n c ((l.h fun x=>(FP x).a)) rfl O2.i ON.i S9.i OQ.i O3.i ?_;intro v1 w1 hown1 hg1 wM);obtain⟨A',c',hv,_,_⟩:=jE hown1;subst hv;simp only[bB,dF]at hown1;have hb:=sj ((aG w.a.j w).alloc (av _) (.D #[] 3)) hg1 (av _) O3.i;go_wp2;go_ret;exact⟨A',c',by simp,hown1,hb⟩
 | none=>
   have h0:n=0:=by
    rcases eu n with h0|h0
    ·exact h0
    ·obtain⟨a,ha,_⟩:=hR.2.1.2 h0;cases ha
   subst h0;have hl:l=[]:=bE hll;subst hl;have hnil:∀W:ak,(binOp .eql 70 (.a none 0 c) (.a none 0 0)).I ah W = .Z (.e true) W:=fun W=>by
    simp only[binOp];simp[jc,og]
   have FIN:=ab (show avq w 0 [] (.a (.a none 0 0)) w from⟨none,0,rfl,fu _ _ _ _,aG _ _⟩);clear hR hll;go_enter Tryz.func89,Tryz.ntmps89;go_wp2;go_ret;exact FIN.i
def avr(w:ak)(n:Nat)(l:List Vp)(e:lq)(w':ak):Prop:=
 ∃A c,e=.a (.a A n c)/\w'.c w.a.j 98 20 (.a A n c) n (l.h fun x=>(Vp.ay x).a)/\aL w.a.j w w'
theorem aec(l:List Vp)(A:Option aT)(n c:Nat)(w:ak)(hR:iJ Vp.ay 20 w w.a.j A n l)(hn:n<=100000):
 aP ah 60 #[.a A n c] w (avr w n l):=by
 have hll:=hR.1;cases A with
 | some a=>
   have hnil:∀W:ak,(binOp .eql 23 (.a (some a) n c) (.a none 0 0)).I ah W = .Z (.e false) W:=fun W=>by
    simp only[binOp];simp[jc,EP]
   obtain⟨i0,hi0,hz0,hz1,hzb⟩:=anN;have hz2:(bY oq.ay).D.j=20:=by simp[cK,Vp.G]
   have O1:=ab (show(w.alloc (.D #[] 98)).c w.a.j 98 20 (.a (some ⟨w.a.j,0,none⟩) 0 0) 0 []from nU w #[] 0 (av _) (by unfold maxLen;omega) rfl);have O2:=ab (hR.alloc (av _) (.D #[] 98)).2.1;have S9:=ab (show 0+n<=maxLen by unfold maxLen;omega);have OQ:=ab (show(0+n)*i0.bytes<=140737488355328 from aO (gU (show 0+n<=100000 by omega) hzb) (by omega));have O3:=ab (show w.a.j<=(w.alloc (.D #[] 98)).a.j by simp);have ON:=ab (D6 Vp.ay Vp.cO l);clear hR hll;go_enter Tryz.func60,Tryz.ntmps60;go_wp2_with (at_builtin;refine jv _ rfl (.a 5) (.a 6) _ rfl w.a.j 98 i0 (.d oq.ay) 20 i0.bytes EP hi0 hz0 hz1 rfl hz2 (mH _) (.a (some ⟨w.a.j,0,none⟩) 0 0) 0 [] rfl O1.i w.a.j (some a) n c ((l.h fun x=>(Vp.ay x).a)) rfl O2.i ON.i S9.i OQ.i O3.i ?_;intro v1 w1 hown1 hg1 wM);obtain⟨A',c',hv,_,_⟩:=jE hown1;subst hv;simp only[bB,dF]at hown1;have hb:=sj ((aG w.a.j w).alloc (av _) (.D #[] 98)) hg1 (av _) O3.i;go_wp2;go_ret;exact⟨A',c',by simp,hown1,hb⟩
 | none=>
   have h0:n=0:=by
    rcases eu n with h0|h0
    ·exact h0
    ·obtain⟨a,ha,_⟩:=hR.2.1.2 h0;cases ha
   subst h0;have hl:l=[]:=bE hll;subst hl;have hnil:∀W:ak,(binOp .eql 23 (.a none 0 c) (.a none 0 0)).I ah W = .Z (.e true) W:=fun W=>by
    simp only[binOp];simp[jc,EP]
   have FIN:=ab (show avr w 0 [] (.a (.a none 0 0)) w from⟨none,0,rfl,fu _ _ _ _,aG _ _⟩);clear hR hll;go_enter Tryz.func60,Tryz.ntmps60;go_wp2;go_ret;exact FIN.i
theorem asn:(81:bF)<ah.types.j:=of_decide_eq_true (by kernel_rfl)
theorem abD:Maps.Keyed ah 81:=Maps.Keyed.of_law (deep_law_laid agI (m:=4) (by omega) asn (by kernel_rfl) (by kernel_rfl))
theorem J3{α β:Type}{f:α->Option β}:∀l:List α,(∀x∈l,∃y,f x=some y)->∃ys,l.mapM f=some ys
 | [],_=>⟨[],rfl⟩
 | x::l,h=>by
   obtain⟨y,hy⟩:=h x (by simp);obtain⟨ys,hys⟩:=J3 l (fun z hz=>h z (by simp[hz]));exact⟨y::ys,by simp[List.mapM_cons,hy,hys]⟩
theorem agA(d:Nat)(z:Int)(h : -9223372036854775808<=z/\z<=9223372036854775807):∃ls,ah.keyLits (d+1) 3 [.b .a z]=some ls:=by
 have hw:(Lit.int .a z).wf=true:=by simp[Lit.wf,Jm,Jo,lT,nP];omega
 unfold wK;simp only[gQ];rw[if_pos ⟨trivial,hw⟩];exact⟨_,rfl⟩
theorem aqS(d:Nat)(b:Bool):∃ls,ah.keyLits (d+1) 4 [.e b]=some ls:=by
 unfold wK;simp only[Tryz.underlying4];exact⟨_,rfl⟩
theorem azN(d:Nat)(b:UInt8):∃ls,ah.keyLits (d+1) 5 [bv b]=some ls:=by
 have hb:=b.toNat_lt;have hw:(Lit.int .u8 (b.e:Int)).wf=true:=by simp[Lit.wf,Jm,Jo,lT,nP];omega
 unfold wK bv;simp only[Tryz.underlying5];rw[if_pos ⟨trivial,hw⟩];exact⟨_,rfl⟩
theorem avs(d:Nat)(v:Vector UInt8 16):∃ls,ah.keyLits (d+2) 22 (v.a.map bv)=some ls:=by
 have hc:ah.a 22=16:=by kernel_rfl
 have h1:ah.a 5=1:=by kernel_rfl
 unfold wK;simp only[qh];rw[if_pos (by rw[hc];simp),h1];obtain⟨ys,hys⟩:=J3 (f:=fun i=>ah.keyLits (d+1) 5 (((v.a.map bv).f (i*1)).d 1)) (List.range 16) (fun i hi=>by
  have hi:=eO.1 hi;have e:((v.a.map bv).f (i*1)).d 1=[bv v[i]]:=by
   rw[gH,List.drop_eq_getElem_cons (by simpa using hi)];simp
  rw[e];exact azN d _)
 rw[hys];exact⟨_,rfl⟩
theorem anO(d:Nat)(a:fC):∃ls,ah.keyLits (d+3) 27 a.ay.a=some ls:=by
 obtain⟨f1,h1⟩:=aqS (d+1) a.h;obtain⟨f2,h2⟩:=avs d a.b;have hc:ah.a 27=17:=by kernel_rfl
 have c1:ah.a 4=1:=by kernel_rfl
 have c2:ah.a 22=16:=by kernel_rfl
 have e:a.ay.a=bM a.h::a.b.a.map bv:=by simp[fC.ay]
 unfold wK;simp only[fB];rw[if_pos ⟨by rw[hc,e];simp,by simp⟩];obtain⟨ys,hys⟩:=J3 (f:=fun f:nS=>ah.keyLits (d+2) f.type ((a.ay.a.f f.Y).d (ah.a f.type))) (ah.fieldsOf 27).a (fun f hf=>by
  simp only[jT,fB]at hf;simp only[bg,fO,or_false]at hf;rcases hf with rfl|rfl
  ·simp only[c1,e];exact⟨f1,h1⟩
  ·simp only[c2,e]
   rw[jQ,kY,aK (by simp)];exact⟨f2,h2⟩)
 simp only[jT,fB]at hys;rw[hys];exact⟨_,rfl⟩
theorem Tu.WT(t:Tu):t.ay.a=t.h.ay.a++(t.X.ay.a++[.b .a t.aQ,.b .a t.kV,.b .a t.j6]):=by
 simp[Tu.ay,tuT]
theorem azO(d:Nat)(t:Tu)(h:Fq t=true):∃ls,ah.keyLits (d+4) 81 t.ay.a=some ls:=by
 have hh:=h;unfold Fq XT at hh;simp only[bl,decide_eq_true_eq]at hh;obtain⟨f1,h1⟩:=anO d t.h;obtain⟨f2,h2⟩:=anO d t.X;obtain⟨f3,h3⟩:=agA (d+2) t.aQ (by omega);obtain⟨f4,h4⟩:=agA (d+2) t.kV (by omega);obtain⟨f5,h5⟩:=agA (d+2) t.j6 (by omega);have hc:ah.a 81=37:=by kernel_rfl
 have c1:ah.a 27=17:=by kernel_rfl
 have c2:ah.a 3=1:=by kernel_rfl
 have e:=Tu.WT t;have l1:t.h.ay.a.a=17:=by simp[fC.G]
 have l2:t.X.ay.a.a=17:=by simp[fC.G]
 unfold wK;simp only[j3];rw[if_pos ⟨by rw[hc,e];simp[fC.G],by simp⟩];obtain⟨ys,hys⟩:=J3 (f:=fun f:nS=>ah.keyLits (d+3) f.type ((t.ay.a.f f.Y).d (ah.a f.type))) (ah.fieldsOf 81).a (fun f hf=>by
  simp only[jT,j3]at hf;simp only[bg,fO,or_false]at hf;rcases hf with rfl|rfl|rfl|rfl|rfl
  ·simp only[c1,e,kY];rw[Jw l1];exact⟨f1,h1⟩
  ·simp only[c1,e];rw[List.drop_left' l1,Jw l2];exact⟨f2,h2⟩
  ·simp only[c2,e];rw[<-dB,List.drop_left' (by rw[aR,l1,l2])];exact⟨f3,h3⟩
  ·simp only[c2,e];rw[<-dB,show(35:Nat)=(t.h.ay.a++t.X.ay.a).a+1 by rw[aR,l1,l2],List.drop_length_add_append];exact⟨f4,h4⟩
  ·simp only[c2,e];rw[<-dB,show(36:Nat)=(t.h.ay.a++t.X.ay.a).a+2 by rw[aR,l1,l2],List.drop_length_add_append];exact⟨f5,h5⟩)
 simp only[jT,j3]at hys;rw[hys];exact⟨_,rfl⟩
theorem ahS(t:Tu)(h:Fq t=true):∃l,keyOf ah 81 (.d t.ay)=some l:=by
 obtain⟨d,hd⟩:∃d,ah.types.j+1=d+4:=⟨ah.types.j-3,by have:=asn;have h3:(3:Nat)<ah.types.j:=of_decide_eq_true (by kernel_rfl);omega⟩
 obtain⟨ls,mY⟩:=azO d t h;have hc:ah.a 81=37:=by kernel_rfl
 have hk:ah.keyType 81=true:=by kernel_rfl
 have hf:(bY t.ay).formed ah 81=true:=by
  simp[Value.formed,j3,hc,Tu.G]
 unfold keyOf;simp only[j3];rw[if_pos (by rw[hk,hf];rfl),hd,show(bY t.ay).D.a=t.ay.a from rfl,mY];exact⟨_,rfl⟩
theorem fC.TY{a b:fC}(h:a.ay=b.ay):a=b:=by
 have h1:=congrArg Array.toList h;simp only[fC.ay,List.cons.injEq,Value.bool.injEq]at h1;cases a;cases b;simp only at h1;obtain⟨rfl,h2⟩:=h1;congr;apply Vector.toList_inj.1;exact(List.map_inj_right (fun x y hxy=>by unfold bv at hxy;injection hxy with _ e;exact UInt8.toNat_inj.1 (by omega))).1 h2
theorem Tu.TY{a b:Tu}(h:a.ay=b.ay):a=b:=by
 have h1:=Tu.WT a;rw[h,Tu.WT b]at h1;obtain⟨e1,h2⟩:=List.append_inj h1 (by simp[fC.G]);obtain⟨e2,h3⟩:=List.append_inj h2 (by simp[fC.G]);have g1:=fC.TY (Gn.1 e1);have g2:=fC.TY (Gn.1 e2);simp only[List.cons.injEq,Value.int.injEq,true_and,and_true]at h3;cases a;cases b;simp only at g1 g2 h3 ⊢;obtain⟨rfl,rfl,rfl⟩:=h3;rw[g1,g2]
theorem anP{a b:Tu}{l:Lit}(h1:keyOf ah 81 (.d a.ay)=some l)(h2:keyOf ah 81 (.d b.ay)=some l):a=b:=by
 have:=abD.inj h1 h2;injection this with this
 exact Tu.TY this
def boD:aB->Option (DataW Unit×List MemPlace)
 | .e b=>some (.lit (.e b),[])
 | _=>none
theorem avt{v:aB}{b:Bool}{ps:List MemPlace}(h:boD v=some (.lit (.e b),ps)):v=.e b:=by
 unfold boD at h;split at h
 ·simp at h;rw[h.1]
 ·cases h
def Kh(W:ak)(M n:Nat)(ks:List Tu):Prop:=
 ∃D:DataW Unit,W.ownsMap ah 81 boD M n D/\Maps.IsMap D/\∀t l,keyOf ah 81 (.d t.ay)=some l->D.atKey l (.lit (.e false))=.lit (.e (decide (t∈ks)))
theorem Kh.new(w:ak):Kh (w.alloc (.map #[] 0)) w.a.j 0 []:=⟨_,World.ownsMap_made w _ _ _,⟨[],rfl⟩,fun t l _=>rfl⟩
theorem Kh.azP{W W':ak}{M n:Nat}{ks:List Tu}(h:Kh W M n ks)(ha:W'.a[M]? = W.a[M]?):Kh W' M n ks:=by
 obtain⟨D,⟨es,ck,h1,h2⟩,h3⟩:=h;exact⟨D,⟨es,ck,ha.trans h1,h2⟩,h3⟩
theorem Kh.lt{W:ak}{M n:Nat}{ks:List Tu}(h:Kh W M n ks):M<W.a.j:=by
 obtain⟨D,h1,_⟩:=h;exact h1.lt
theorem Kh.go{W W':ak}{M n:Nat}{ks:List Tu}(h:Kh W M n ks)(hb:aL W.a.j W W'):Kh W' M n ks:=h.azP (hb.block M h.lt)
theorem akc{w:ak}{M n:Nat}{ks:List Tu}(h:Kh w M n ks)(t:Tu)(ht:Fq t=true):
 (Instr.lookup 114 (.map (some M)) (.d t.ay) false).I ah w = .Z (.e (decide (t∈ks))) w:=by
 obtain⟨D,h1,h2,h3⟩:=h;obtain⟨l,hl⟩:=ahS t ht;obtain⟨v,ps,hrun,hv⟩:=h1.lookup abD Tryz.underlying114 (by kernel_rfl:(zeroValue 4).I ah w = .Z (.e false) w) (show boD (.e false)=some (.lit (.e false),[])from rfl) hl;rw[h3 t l hl]at hv;rw[hrun,avt hv]
theorem Rs{ops:Array iZ}{rest:List iZ}{o:iZ}{a:Act}{Q:Exit->Act->ak->Prop}{w:ak}(hg:o.guard=none)(m x v:Operand)(GY:o.op=Op.mapUpdate 114 m x v)
 (M n:Nat) (ks:List Tu) (hm:a.eval m=.map (some M)) (hown:Kh w M n ks) (hn:n<=1000000) (t:Tu) (ht:Fq t=true) (hx:a.eval x=.d t.ay) (hv:a.eval v=.e true)
 (hK:∀w',Kh w' M (n+1) (t::ks)->w.d w' (some M)->wpList ah ops Q rest (a.put o.X undef) w'):wpList ah ops Q (o::rest) a w:=by
 obtain⟨D,h1,h2,h3⟩:=hown;obtain⟨l,hl⟩:=ahS t ht;refine wpList_mapUpdate_own w hg m x v _ GY 81 4 abD Tryz.underlying114 boD M n D hm h1 (by unfold maxLen;omega) _ _ l hx hv hl _ [] (show boD (.e true)=some (.lit (.e true),[])from rfl) ?_;intro w' k1 k2;refine hK w' ⟨_,k1,h2.put _ _,fun u m hu=>?_⟩ k2;by_cases e:u=t
 ·subst e
  rw[hl]at hu;injection hu with hu
  subst hu;rw[Maps.atKey_put_same h2 (abD.key hl)];simp
 ·rw[Maps.atKey_put_other (fun h=>e (anP hu (by rw[h];exact hl))),h3 u m hu]
  simp[e]
end Go.Proofs.YtkjojjopamaoiaaGreat
