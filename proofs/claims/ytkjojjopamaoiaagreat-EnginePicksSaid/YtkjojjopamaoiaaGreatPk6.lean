/- Parts. -/
import Derived.Test.YtkjojjopamaoiaaGreatPk5
set_option linter.all false
set_option maxRecDepth 100000
set_option maxHeartbeats 8000000
open Array renaming replicate_succ->fV,replicate_zero->fZ,getElem?_eq_some_iff->bV,getElem?_append->aD,mapM->iB,append_assoc->fP,setIfInBounds_append->aM,extract_append->bW,getElem?_extract->cu,ext_getElem?->dW,replicate->ng,getElem?_eq_none->aU,range->lU,toList_inj->GD,size->Array.j,toList->Array.a,getD->Array.b,setIfInBounds->Array.c,extract->Array.m
open Bool renaming and_eq_true->bf,true_and->Am,false_and->Dx,eq_iff_iff->dA
open ByteArray renaming size->ByteArray.j,extract->ByteArray.m
open Exists renaming intro->rP
open Go renaming World->ak,bodyPost_ret->aN,results_none->vE,Value->aB,Calls->aQ,callsIn_wide->mU,callsIn_of_wp_marks->qY,wpIn_rangeFunc_ownH->yE,belowK_b->vQ,ownFrom_below->yQ,run_takeDeferred->uH,TypeId->bM,Ending->lq,wpQuiet_nil->gK,Addr->aS,run_underlying->dL,TypeInfo->nJ,Oper->iU,Field->nS,run_equal_slice_nil->iV,info_parts->Ci,wpS_seq->Ij,wpS_region->Cj
open Go.BoundsCode renaming toNat->Go.BoundsCode.e
open Go.Calls renaming mono->Go.Calls.g
open Go.CallsD renaming mono->Go.CallsD.g
open Go.CallsIn renaming inRound->Ho,mono->Go.CallsIn.g
open Go.Ending renaming returned->Go.Ending.a
open Go.Exit renaming thenS->vZ
open Go.Field renaming name->Go.Field.E,offset->Go.Field.Z
open Go.FrameMode renaming run->Go.FrameMode.I
open Go.Instr renaming loadAt->bZ,fill->fB,buildSlice->bI,storeAt->eF,build->fI,typeAssert->Gz,slice->Go.Instr.a,extract->Go.Instr.m
open Go.IntKind renaming i64->bU,u16->Dy,wrap->vP,bits->nQ,signed->lN,u64->jm,wrap_u64->jQ,min->Jv,max->Jw,i64->Go.IntKind.a
open Go.Lib renaming hid->ab
open Go.Lit renaming int->Go.Lit.b,bool->Go.Lit.e,string->Go.Lit.g
open Go.Obj renaming cells->eD,cells->Go.Obj.D
open Go.Op renaming slice->Go.Op.a,extract->Go.Op.m
open Go.Oper renaming dst->Go.Oper.Y
open Go.Operand renaming tmp->Go.Operand.a
open Go.Program renaming cellsOf->Ak,keyLits->wY,fieldsOf->jP,cellsOf->Go.Program.a
open Go.Proofs.Tryz renaming prog->ah,underlying29->mW,underlying3->gQ,underlying69->kM,underlying155->DK,underlying72->Fq,underlying123->DL,underlying22->nX,underlying376->DN,underlying56->dx,underlying58->kN,ntmps134->Ar,underlying86->mV,func25->Lg,ntmps25->Ik,underlying70->nZ,underlying23->Fu,underlying27->eZ,underlying81->jW
open Go.Result renaming andThen->iD,andThen_ok->gJ
open Go.ResultVar renaming tmp->Go.ResultVar.a
open Go.RoundIn renaming mono->Go.RoundIn.g
open Go.RowKit renaming Below->aL
open Go.RowKit.Below renaming refl->aH,size->Go.RowKit.Below.j,mono->Go.RowKit.Below.g
open Go.RowKit.Hid renaming out->Go.RowKit.Hid.i
open Go.Sem renaming run_bind->jI,run_pure->og,run->Go.Sem.I
open Go.Shut renaming out->Go.Shut.i
open Go.Tables renaming info?->Go.Tables.l
open Go.TypeDesc renaming slice->Go.TypeDesc.a,int->Go.TypeDesc.b,bool->Go.TypeDesc.e
open Go.TypeInfo renaming size->Go.TypeInfo.j
open Go.Value renaming agg->bY,int->aI,cells->cO,slice->bC,ownBlock->jV,oneCell'->cB,string->ig,pointer->su,bool->bL,cells->Go.Value.D,slice->Go.Value.a,int->Go.Value.b,pointer->Go.Value.c,agg->Go.Value.d,tuple->Go.Value.J,bool->Go.Value.e,ownBlock->Go.Value.f,oneCell'->Go.Value.h,string->Go.Value.g
open Go.World renaming size_alloc->sZ,ownsRow_nil->eY,setCell->gY,ownsRow_lit->pV,heap->Go.World.a,cell?->Go.World.b,setCell->Go.World.F,ownsRow->Go.World.c,there->Go.World.O
open Go.World.grownBy renaming refl->dN
open Int renaming tmod->Mj,tmod_eq_emod_of_nonneg->mo,toNat_natCast->dQ,toNat_of_nonneg->kH,toNat->Int.e
open List renaming size_toArray->dK,length_cons->bD,length_nil->gH,push_toArray->iL,append_toArray->gP,nil_append->dG,cons_append->iq,length_map->bQ,length_take->bJ,map_append->je,mem_cons_of_mem->jy,mem_cons_self->lZ,mem_map->iQ,foldl_append->yY,getD_eq_getElem?_getD->au,getElem?_eq_getElem->aC,getElem?_eq_none->aT,length_set->aV,filter_eq_self->wW,findIdx?_eq_some_iff_getElem->gT,findIdx?_eq_none_iff->wO,mem_cons->bB,not_mem_nil->fJ,any_eq_false->qd,any_eq_true->qR,getElem_mem->dR,flatMap_append->wX,set_cons_succ->bG,set_cons_zero->bP,take_succ_cons->jM,take_zero->jX,setIfInBounds_toArray->bH,drop_succ_cons->jN,drop_zero->kX,mem_range->dU,filter_congr->Fp,mem_filter->mh,length_filter_le->oK,map_cons->kL,map_nil->pJ,length_append->aR,take_succ_eq_append_getElem->dP,take_of_length_le->aK,replicate->dV,flatMap_cons->iK,drop_take->rD,eq_nil_of_length_eq_zero->bE,take_left'->JF,append_assoc->dB,length->List.a,getD->List.b,take->List.d,drop->List.f,flatMap->List.h,below->List.S,extract->List.m
open List.Perm renaming length_eq->List.Perm.t
open Nat renaming reduceAdd->kP,reduceSub->kQ,zero_le->iX,le_trans->aO,le_refl->av,le_of_eq->aW,mod_lt->fE,mul_le_mul_right->cZ,lt_or_ge->aZ,zero_add->bl,lt_succ_self->mG,ne_of_lt->jJ,mul_one->gB,mul_le_mul->gG,add_sub_cancel_left->kJ,min->qg,succ_pos->lH,eq_zero_or_pos->dY,lt_of_lt_of_le->eO
open Ne renaming symm->jh
open Option renaming getD_some->jr,toList->Option.a,getD->Option.b
open Or renaming inl->Or.a,inr->Or.b
open UInt8 renaming toNat->UInt8.e
open Vector renaming replicate->bF,length_toList->lT,toList->Vector.a
namespace Go.Proofs.YtkjojjopamaoiaaGreat
open Go.RowKit
section
open Go.RowKit Go.Shelf
attribute [local go_sem] Oper.semAt_some
variable {W W':ak} {q g:Nat} {key:Vector UInt8 16} {room:Int} {s:List (Option Fw)} {l:List Fw}
theorem agK{β:Type}(val:β->Fw)(F:Fence)(n:Nat)(hf:F.fn 202)(hro:F.round=none)(hn:1<=n)(l Bs n₀ B0:Nat)(q g:Nat)(key:Vector UInt8 16)(room:Int)(s:List (Option Fw))(hval:∀x∈iw s,∃z,val z=x)(J Jx:List β->ak->Prop)(hJ:AbidesFrom B0 J)
 (hY:∀pre x W,J pre W->pre.a<s.a->YieldAt F (n-1) ah l #[.d (val x).ay] W fun e W'=>
  (e=.a (.e true)/\J (pre++[x]) W'/\aL n₀ W W')\/(e=.a (.e false)/\Jx (pre++[x]) W'))
 (W:ak) (hn₀:n₀<=W.a.j) (hB0:B0<=W.a.j) (Pp:W.b ⟨Bs,0,none⟩=some (.c (some ⟨q,0,none⟩))) (T:Fv W q g key room s) (hqg:q<n₀/\g<n₀) (h0:J [] W) :
 CallsIn F n ah 202 #[.func (.yield l) #[] #[],.c (some ⟨Bs,0,none⟩)] W fun e W'=>(∃v,e=.a v) /\
  ((∃ys:List β,ys.map val=iw s/\J ys W')\/(∃pre:List β,pre.map val <+: iw s/\Jx pre W')):=by
 have hsz:=T.sz;obtain⟨N,hN⟩:=dw s.a;have l2:W.b ⟨q,18,none⟩=some (.a (some ⟨g,0,none⟩) N N):=by rw[hN];exact T.K.1
 have HT:=ab T;have HN:=ab hN;rw[<-hN]at hsz;clear hN T;refine callsIn_of_wp Tryz.func202 rfl hf ?_ hro;simp only[Tryz.ntmps202,dK,bD,gH,kP,kQ,fV,fZ,iL,gP,dG,iq];gi_wp2;gi_loopw [10] (fun i wr=>∃(k:Nat)(zs:List β),k<=N/\i=.b .a k/\zs.map val=iw (s.d k)/\J zs wr/\aL n₀ W wr)
  (fun i _=>N-(intOf i).e)
 case atStart=>exact⟨0,[],iX _,rfl,rfl,h0,aH _ _⟩
 case round=>
  obtain⟨k,zs,hk,rfl,hzs,hJs,hnx⟩:=hrel;have HZ:=ab hzs;clear hzs;by_cases hlt:k<N
  ·have hki:(k:Int)<N:=by omega
   have TR:=ab (HT.i.anz hnx hqg);have hks:k<s.a:=by rw[<-HN.i];exact hlt
   obtain⟨_,a2,_,_,a5,_,_⟩:=TR.i.WG hks;have hET:=WT s k hks;have bx:=dJ.new wr (wD (at_ s k)).ay 213;have f1:=(bx.K.1 0).trans (Sl.NW _);rw[Jk]at f1;have f2:xJ (wr.alloc (.D (wD (at_ s k)).ay 213)) wr.a.j 1 41:=of_eq_true (bx.K.2.2.1 1 41 (by rw[Sl.dZ];omega));have f3:eu (wr.alloc (.D (wD (at_ s k)).ay 213)) wr.a.j 1 41=(wD (at_ s k)).qW.ay:=by rw[bx.K.2.2.2 1 41 (by rw[Sl.dZ];omega)];exact Sl.TL _
   have hsz2:=hnx.j;have Qf:=ab (hnx.alloc (by omega) (.D (wD (at_ s k)).ay 213));have HJA:=ab (Gt hJ hJs (.D (wD (at_ s k)).ay 213));clear bx hsz2;cases hat:at_ s k with
   | none=>
     rw[hat]at a2 f1 f2 f3 Qf HJA hET
     replace f1:(wr.alloc (.D (wD none).ay 213)).b ⟨wr.a.j,0,none⟩=some (.e false):=f1
     have DR:=ab (show iw (s.d (k+1))=iw (s.d k)by rw[hET];simp);clear hET hat f2 f3;gi_wp2;refine⟨fun f h=>(by cases h),?_⟩;gi_wp2;go_roundw
     case rel=>exact⟨k+1,zs,by omega,by simp,by rw[DR.i];exact HZ.i,HJA.i,Qf.i⟩
     case measure=>simp[intOf];omega
   | some x=>
     rw[hat]at a2 f1 f2 f3 Qf HJA hET
     replace f1:(wr.alloc (.D (wD (some x)).ay 213)).b ⟨wr.a.j,0,none⟩=some (.e true):=f1
     replace f3:eu (wr.alloc (.D (wD (some x)).ay 213)) wr.a.j 1 41=x.ay:=f3
     have hxm:x∈iw s:=OZ.2 ⟨k,hks,hat⟩;have hZL:zs.a<=k:=by have h1:=ET (s.d k);rw[<-HZ.i,bQ,bJ]at h1;omega
     have aze:=show iw (s.d k)++[x]=iw (s.d (k+1))by rw[hET];simp
     clear hET hat;obtain⟨z,rfl⟩:=hval x hxm;have DR:=ab (show(zs++[z]).map val=iw (s.d (k+1))by rw[<-aze,je,HZ.i];rfl);clear aze hxm;obtain⟨fn,tmps,assign,body,hy,hRd⟩:=hY zs z _ HJA.i (by omega);gi_wp2;refine hRd.g ?_;rintro e W3 (⟨rfl,hJ3,hk3⟩|⟨rfl,hJx3⟩)
     ·gi_wp2
      go_roundw
      case rel=>exact⟨k+1,zs++[z],by omega,by simp,DR.i,hJ3,Qf.i.trans hk3⟩
      case measure=>simp[intOf];omega
     ·gi_wp2
      refine aN (vE rfl _ _ _) rfl ?_;exact⟨⟨_,rfl⟩,.b ⟨zs++[z],by rw[DR.i];exact ZO _ _,hJx3⟩⟩
  ·obtain rfl:k=N:=by omega
   have hd:decide ((k:Int)<k)=false:=by simp
   gi_wp2;go_end0;exact⟨⟨_,rfl⟩,.a ⟨zs,by rw[HZ.i,HN.i,List.take_length],hJs⟩⟩
theorem K7(F:Fence)(n:Nat)(hf:F.fn 202)(hro:F.round=none)(hn:1<=n)(Bs n₀:Nat)(w:ak)(Pp:Bs<w.a.j)(hn₀:n₀<=w.a.j)
 (hc:w.b ⟨Bs,0,none⟩=some (.c (some ⟨q,0,none⟩))) (T:Ky w q g key room s l) (hqg:q<n₀/\g<n₀) :
 SeqStopsK F n ah 202 #[.c (some ⟨Bs,0,none⟩)] (fun x:OkF=>#[bY x.1.ay]) (aL n₀) (fun ys=>ys.map (·.1)=iw s) (fun pre=>pre.map (·.1) <+: iw s) s.a w:=fun l' J Jx W hW hJ _ hY h0=>by
 have hc':=(hW.cell (p:=⟨Bs,0,none⟩) Pp).trans hc;exact agK (fun x:OkF=>x.1) F n hf hro hn l' Bs n₀ W.a.j q g key room s (fun x hx=>⟨⟨x,T.ok.ok x (T.r.Pb.mem_iff.1 hx)⟩,rfl⟩) J Jx hJ hY W (aO hn₀ hW.j) (av _) hc' (T.w.go hW) hqg h0
def aqQ(pre:List Fw):Option Fw:=pre.foldl (least kS) none
def N7(pre:List OkF):Option Fw:=aqQ (pre.map (·.1))
theorem akh{l:List Fw}:∀(b:Option Fw)(y:Fw),l.foldl (least kS) b=some y->y∈l\/b=some y:=by
 induction l with
 | nil=>intro b y h;exact .b h
 | cons x l ih=>
   intro b y h;rw[List.foldl_cons]at h;rcases ih _ _ h with h1|h1
   ·exact .a (jy _ h1)
   ·unfold least at h1
    split at h1
    ·injection h1 with h1;subst h1;exact .a (lZ ..)
    ·split at h1
     ·injection h1 with h1;subst h1;exact .a (lZ ..)
     ·exact .b h1
theorem aqR(pre:List OkF)(y:Fw)(h:aqQ (pre.map (·.1))=some y):zU y=true:=by
 rcases akh _ _ h with h1|h1
 ·obtain⟨z,_,rfl⟩:=iQ.1 h1
  exact z.2
 ·cases h1
theorem WU{W:ak}{b D:Nat}{c:Array aB}{x:Option (List Deferred)}(h:dJ W b c)(hD:W.a[D]? = some (.deferred x))(o:Obj):dJ (W.putObj D o) b c:=by
 obtain⟨t,ht⟩:=h;refine⟨t,(World.putObj_heap_other (fun e=>?_)).trans ht⟩;rw[e,hD]at ht;cases ht
theorem EU{F:List Nat}{B:Nat}{W W':ak}(h:jD F W W')(hF:∀k∈F,k<B):KeepsFrom B W W':=
 ⟨h.j,fun k o hB hk _=>(h.block k (bV.1 hk).1 (fun hm=>by have:=hF k hm;omega)).trans hk⟩
theorem abR(w:ak)(T:Ky w q g key room s l):
 aQ ah 127 #[.c (some ⟨q,0,none⟩)] w (gM w (.d (l.head?.b jq).ay)):=by
 refine(mU (n:=8)).1 ?_;have hs:=T.w.sz;have hlt:=T.w.lt;have hold:=ajo T.r T.ok;have HT:=ab T;clear T;refine qY Tryz.func127 rfl trivial ?_ rfl;have hfn:∀f,Fence.wide.fn f:=fun _=>trivial
 simp only[Tryz.ntmps127,dK,bD,gH,kP,kQ,fV,fZ,iL,gP,dG,iq];gi_wp2_with (gi_at_call 132;refine(mU.2 (Qg q _)).g ?_;rintro e w' ⟨rfl,rfl⟩);have Z4:=ab (((((Bx.start w).new jq.ay 86).new jq.ay 86).new #[.e true] 4).new #[.c (some ⟨q,0,none⟩)] 121);have e1:(w.alloc (.D jq.ay 86)).a.j=w.a.j+1:=by simp
 have e2:((w.alloc (.D jq.ay 86)).alloc (.D jq.ay 86)).a.j=w.a.j+1+1:=by simp
 have e3:(((w.alloc (.D jq.ay 86)).alloc (.D jq.ay 86)).alloc (.D #[.e true] 4)).a.j=w.a.j+1+1+1:=by simp
 rw[e3,e2,e1]at Z4;have hs4:((((w.alloc (.D jq.ay 86)).alloc (.D jq.ay 86)).alloc (.D #[.e true] 4)).alloc (.D #[.c (some ⟨q,0,none⟩)] 121)).a.j=w.a.j+1+1+1+1:=by simp
 generalize(((w.alloc (.D jq.ay 86)).alloc (.D jq.ay 86)).alloc (.D #[.e true] 4)).alloc (.D #[.c (some ⟨q,0,none⟩)] 121)=W4 at Z4 hs4 ⊢;clear e1 e2 e3;refine yE rfl (by omega) (gf:=202) (lb:=#[.c (some ⟨w.a.j+1+1+1,0,none⟩)]) rfl trivial (fun args w=>rfl)
  (K7 Fence.wide 7 trivial rfl (by omega) (w.a.j+1+1+1) w.a.j W4 (by omega) (by omega) (Z4.i.X.K.1 0) (HT.i.go Z4.i.R) hlt) (fun h k=>Below.trans h k) (vQ (by omega)) (aH _ _) (fun _=>rfl)
  (fun(pre:List OkF) W=>(dJ W (w.a.j+1) ((N7 pre).b jq).ay/\dJ W (w.a.j+1+1) #[.e (N7 pre).isNone]/\dJ W w.a.j jq.ay)/\aL w.a.j w W)
  (fun _ _ _=>False)
  (OwnFrom.and (fun s X Y row hs hg hr=>⟨zy _ _ () X Y row hs.1 hg (fun r e=>(hr r e).2),zy _ _ () X Y row hs.2.1 hg (fun r e=>(hr r e).2),zy _ _ () X Y row hs.2.2 hg (fun r e=>(hr r e).2)⟩) (yQ (av _) (by omega)))
  (fun _ _ _ _ _ hs _ _=>hs)
  ⟨⟨Z4.i.b2,Z4.i.b1,Z4.i.b3⟩,Z4.i.R⟩
  (fun x a' W=>∃Bq,w.a.j+1+1<Bq/\dJ W Bq x.1.ay/\a'={tmps:=#[.c (some ⟨q,0,none⟩),undef,.c (some ⟨w.a.j,0,none⟩),.c (some ⟨w.a.j+1,0,none⟩),.c (some ⟨w.a.j+1+1,0,none⟩),.c (some ⟨Bq,0,none⟩),.c (some ⟨q,0,none⟩),.func (.func 202) #[] #[.c (some ⟨w.a.j+1+1+1,0,none⟩)],.d x.1.ay,undef,undef,undef,undef,undef,undef,undef,undef],defers:=[]})
  (fun x a' _ X Y row hs hg hr=>by obtain⟨Bq,h1,h2,h3⟩:=hs;exact⟨Bq,h1,zy Bq x.1.ay () X Y row h2 hg (fun r e=>(hr r e).2),h3⟩)
  ?assign ?body ?done ?stop
 case assign=>
  rintro q' pre x W K ⟨⟨h1,h2,h3⟩,hB⟩ hK;gi_wp2;refine hK _ _ ((KeepsOthers.alloc _ _).from _) ((aH _ W).alloc hB.j _) ⟨⟨h1.alloc _,h2.alloc _,h3.alloc _⟩,hB.alloc hB.j _⟩ ⟨W.a.j,h2.lt,dJ.new W _ _,rfl⟩
 case body=>
  rintro q' pre x a' W hq ⟨r,hr⟩ ⟨⟨h1,h2,h3⟩,hB⟩ ⟨Bq,hBq,bX,rfl⟩ hlt';have hd1:(1:Nat)<=8-1-1:=by omega
  have l1:=kK bX;have f1:=h2.K.1 0;have f2:=h2.K.2.1 0;have th:=h1.O 0 41 (aW (Fw.G _).symm);have HB:=ab hB;have H1:=ab h1;have H2:=ab h2;have H3:=ab h3;have HX:=ab bX;have HA:=ab (show N7 (pre++[x])=least kS (N7 pre) x.1 by unfold N7 aqQ;rw[je,yY];rfl);have HM:=ab (show∀y,N7 pre=some y->zU y=true from fun y e=>aqR pre y e);clear hB h1 h2 h3 bX;cases ha:N7 pre with
  | none=>
    rw[ha]at HA H1 H2 f1;have f3:(Av W (w.a.j+1) 0 x.1).b ⟨w.a.j+1+1,0,none⟩=some (.e true):=((H2.i.gy (by simp)).K.1 0:_)
    have f4:(Av W (w.a.j+1) 0 x.1).frozen? ⟨w.a.j+1+1,0,none⟩=false:=((H2.i.gy (by simp)).K.2.1 0:_)
    clear ha;gi_wp2;have F:=(jD.Vl (F:=[w.a.j+1,w.a.j+1+1]) (lM (dN W (some (w.a.j+1))) 0 x.1.ay) (fun g e=>.a (by injection e with e;simp[e]))).set ⟨w.a.j+1+1,0,none⟩ (.e false) (.a (by simp));refine⟨EU F (by intro k hk;simp at hk;omega),F.rM (by intro k hk;simp at hk;omega) HB.i.j,⟨?_,?_,?_⟩,HB.i.trans (F.rM (by intro k hk;simp at hk;omega) HB.i.j)⟩
    ·rw[HA.i];exact(H1.i.put x.1.ay (by rw[Fw.G,Fw.G])).dM _ _ (by simp)
    ·rw[HA.i];exact(H2.i.gy (by simp)).eH 0 (.e false)
    ·exact(H3.i.gy (by omega)).dM _ _ (by simp;omega)
  | some y=>
    rw[ha]at HA H1 H2 f1;have hy:=HM.i y ha;obtain⟨y1,y2⟩:=Ka hy;obtain⟨x1,x2⟩:=Ka x.2
    replace H1:Hid (dJ W (w.a.j+1) y.ay):=H1
    replace f1:W.b ⟨w.a.j+1+1,0,none⟩=some (.e false):=f1
    have l2:=kK H1.i;have OC:=ab (QW x.1 y x1 y1 x2 y2 W);obtain⟨o,ho⟩:=dw (kS x.1 y);rw[<-ho]at OC;have HE:=ab (show N7 (pre++[x])=if o=true then some x.1 else some y by rw[HA.i,ho];rfl);clear ha hy y1 y2 x1 x2 ho f2 th;cases o
    ·gi_wp2_with (gi_at_call 49;refine(Ho q' (mU.2 OC.i)).g ?_;rintro e w1 ⟨rfl,hb⟩;have Hq:=ab hb;clear hb)
     have F:=jD.jl (F:=[w.a.j+1,w.a.j+1+1]) Hq.i;refine⟨EU F (by intro k hk;simp at hk;omega),F.rM (by intro k hk;simp at hk;omega) HB.i.j,⟨?_,?_,?_⟩,HB.i.trans (F.rM (by intro k hk;simp at hk;omega) HB.i.j)⟩
     ·rw[show N7 (pre++[x])=some y from HE.i];exact H1.i.go Hq.i
     ·rw[show N7 (pre++[x])=some y from HE.i];exact H2.i.go Hq.i
     ·exact H3.i.go Hq.i
    ·gi_wp2_with (gi_at_call 49;refine(Ho q' (mU.2 OC.i)).g ?_;rintro e w1 ⟨rfl,hb⟩;have Hq:=ab hb;have G1:=ab (H1.i.go hb);have G2:=ab (H2.i.go hb);have G3:=ab (H3.i.go hb);have l3:=kK (HX.i.go hb);clear hb l1 l2 f1;have th:=G1.i.O 0 41 (aW (Fw.G _).symm);have f3:(Av w1 (w.a.j+1) 0 x.1).b ⟨w.a.j+1+1,0,none⟩=some (.e false):=((G2.i.gy (by simp)).K.1 0:_);have f4:(Av w1 (w.a.j+1) 0 x.1).frozen? ⟨w.a.j+1+1,0,none⟩=false:=((G2.i.gy (by simp)).K.2.1 0:_))
     have F:=((jD.jl (F:=[w.a.j+1,w.a.j+1+1]) Hq.i).grown (lM (dN w1 (some (w.a.j+1))) 0 x.1.ay) (fun g e=>.a (by injection e with e;simp[e]))).set ⟨w.a.j+1+1,0,none⟩ (.e false) (.a (by simp));refine⟨EU F (by intro k hk;simp at hk;omega),F.rM (by intro k hk;simp at hk;omega) HB.i.j,⟨?_,?_,?_⟩,HB.i.trans (F.rM (by intro k hk;simp at hk;omega) HB.i.j)⟩
     ·rw[show N7 (pre++[x])=some x.1 from HE.i];exact(G1.i.put x.1.ay (by rw[Fw.G,Fw.G])).dM _ _ (by simp)
     ·rw[show N7 (pre++[x])=some x.1 from HE.i];exact(G2.i.gy (by simp)).eH 0 (.e false)
     ·exact(G3.i.gy (by omega)).dM _ _ (by simp;omega)
 case done=>
  rintro D ys W hD hS ⟨⟨h1,h2,h3⟩,hB⟩ hK;have hacc:N7 ys=l.head?:=by unfold N7 aqQ;rw[hS];exact hold
  rw[hacc]at h1;have ld:=kK h1;have th:=h3.O 0 41 (aW (Fw.G _).symm);obtain⟨y,hy⟩:=dw (l.head?.b jq);rw[<-hy]at ld h1;have HY:=ab hy;have H3:=ab h3;have HB:=ab hB;clear hy h3 hB h1 h2 hacc hS;gi_wp2;have hG:=lM (dN W (some w.a.j)) 0 y.ay;have hDW:D<W.a.j:=(bV.1 hK).1;have hK2:(Av W w.a.j 0 y).a[D]? = some (.deferred (some [])):=(hG.block D hDW (fun e=>by injection e with e;omega)).trans hK;refine⟨by simp,.a ⟨_,_,rfl,uH hK2,?_⟩⟩;refine⟨_,kFw.zh rfl _ rfl (WU (H3.i.put y.ay (by rw[Fw.G,Fw.G])) hK2 _) (Fw.G _),by rw[HY.i],?_⟩;exact((kR HB.i w.a.j 0 y.ay (av _)).trans (vQ (w:=w) (av _) _ D _ _ (by omega) hK2 rfl rfl))
 case stop=>
  rintro D c pre W _ _ h _;exact h.elim
end
section
theorem aki{α:Type}(s:List (Option α))(i:Nat)(x:α)(h:at_ s i=some x):s.set i (some x)=s:=by
 apply List.ext_getElem?;intro j;rw[List.getElem?_set];split
 ·rename_i e
  subst e;unfold at_ at h;rw[au]at h;split
  ·rename_i hl
   rw[aC hl]at h ⊢;rw[jr]at h;rw[h]
  ·rename_i hl
   rw[aT (by omega)]
 ·rfl
theorem Kc{α:Type}(s:List (Option α))(i:Nat)(x:α)(hi:i<s.a)(h:at_ s i=some x):(iw s).Perm (x::iw (s.set i none)):=by
 have:=ze s i x hi
 rwa [aki s i x h]at this
theorem ZV{N z c:Nat}(hz:z<N)(h1:1<=c)(h2:c<=N):yG N ((z+1)%N) (yF N z c)=c-1:=by
 have e1:yF N z c=(z+c)%N:=rfl;rw[e1,wP (N:=N) (a:=z+1) (by omega),wP (N:=N) (a:=z+c) (by omega)];unfold yG
 repeat' split
 all_goals omega
variable {W W':ak} {q g:Nat} {key:Vector UInt8 16} {room:Int} {s:List (Option Fw)} {l:List Fw}
theorem Fv.ah9(h:Fv W q g key room s){i:Nat}(hi:i<s.a)(o:Option Fw)(n:Nat)(hn:(iw (s.set i o)).a=n)(hc:n=(iw s).a):Fv (gI W g (i*42) (slC o)) q g key room (s.set i o):=by
 have hb:=h.sl.setCells (i*42) (slC o).a;refine⟨?_,?_,h.ne,by rw[aV];exact h.sz⟩
 ·rw[hn,hc,aV]
  exact h.tb.gy h.ne
 ·rw[<-TM s i o hi]
  simpa[gI]using hb
theorem WV{l:List Fw}{k:Tu}(h:lX l k=none):yJ l k=l:=by
 unfold yJ;refine wW.2 fun x hx=>?_
 have:=zf h x hx;simp[qF,this]
theorem WX(T:Ky W q g key room s l)(k:Tu):
 aQ ah 128 #[.c (some ⟨q,0,none⟩),.d k.ay] W fun e w'=>e=.a (.e (lX l k).isSome)/\(∃s',Ky w' q g key room s' (yJ l k)/\s'.a=s.a)/\jD [q,g] W w':=by
 have X0:=ab (dJ.new W k.ay 81);have B0:=ab ((aH W.a.j W).alloc (av _) (.D k.ay 81));have T0:=ab (T.go B0.i);have HT:=ab T;have HLT:=ab T.w.lt;have CG:=ab (fun(w:ak) (T:Ky w q g key room s l)=>J9 T k);obtain⟨o,ho⟩:=dw (lX l k);rw[<-ho]at CG ⊢;have HO:=ab ho.symm;have hcg:∀o,anv o = .J #[.d (wD o).qW.ay,.e o.isSome]:=fun _=>rfl
 simp only[hcg]at CG;clear T ho hcg;go_enter Tryz.func128,Tryz.ntmps128;go_upto_region 1 with fail
 generalize W.alloc (.D k.ay 81)=w1 at X0 B0 T0 ⊢;have l1:=pF X0.i;cases o with
 | none=>
   go_wp2_with (go_at_call 126;(with_reducible refine(CG.i _ T0.i).g ?_);rintro e w2 ⟨rfl,hb⟩;have B2:=ab (gV B0.i hb);clear hb l1);go_ret;have HB:=(B2.i.alloc B2.i.j (.D (wD none).qW.ay 86))
   refine⟨rfl,⟨s,?_,rfl⟩,jD.jl HB⟩;rw[WV HO.i];exact HT.i.go HB
 | some x=>
   obtain⟨hxl,hxk⟩:=vJ HO.i;have hok:=HT.i.ok.ok x hxl;have hkn:xq k:=by rw[<-hxk];exact zq (wT hok)
   obtain⟨d,hd,hat⟩:=HT.i.VI k;rw[HO.i]at hat;have hsz:=HT.i.w.sz;obtain⟨j,hj⟩:=dw ((hmK key s.a k+d)%s.a);have hjl:j<s.a:=by rw[hj];exact fE _ (by omega)
   have CF:=ab (fun(w:ak) (T:Fv w q g key room s)=>Ce T k hkn d hd);rw[<-hj]at CF hat;obtain⟨z,a0,ZW,aqS⟩:=HT.i.r.tab.aCg hjl hat;obtain⟨N,hN⟩:=dw s.a;rw[<-hN]at aqS hjl hsz;have hz:z<N:=by rw[hN];exact ZW.hz
   have ha0:1<=a0/\a0+1<=N:=⟨ZW.a0,by rw[hN];exact ZW.cN⟩
   have HL:=ab (Kc s j x (by rw[<-hN];exact hjl) hat);obtain⟨L,hL⟩:=dw (iw (s.set j none));rw[<-hL]at ZW HL;have H0:=ab ZW;have HN:=ab hN;have HJ:=ab aqS;have HAT:=ab hat;have HX:=ab (show x.key=k from hxk);obtain⟨j1,hj1⟩:=dw (j+1);have e1:(j:Int)+1=(j1:Int):=by omega
   have i1:=jS (j1:Int) (by omega);obtain⟨j2,hj2⟩:=dw (j1%N);have aKl:j2<N:=by rw[hj2];exact fE _ (by omega)
   have e2:(j1:Int)%(N:Int)=(j2:Int):=by rw[hj2];omega
   have e3:Mj (j1:Int) (N:Int)=(j2:Int):=by rw[mo (by omega)];exact e2
   have i2:=jS (j2:Int) (by omega);have z1:¬(N:Int)=0:=by omega
   have z2:¬N=0:=by omega
   have HJ2:=ab (show j2=yF N z (a0+1)by rw[hj2,hj1,<-aqS];exact ac5 hz (by omega));clear hxl hxk hok hkn hd hat hj ZW aqS hN hL hj1 hj2;go_wp2_with (first|(go_at_call 126;(with_reducible refine(CG.i _ T0.i).g ?_);rintro e w2 ⟨rfl,hb⟩;have T2:=ab ((T0.i.go hb).go ((aH _ _).alloc (av _) (.D (wD (some x)).qW.ay 86)));have B2:=ab ((gV B0.i hb).alloc ((gV B0.i hb).j) (.D (wD (some x)).qW.ay 86));have l2:=pF ((X0.i.go hb).alloc (.D (wD (some x)).qW.ay 86));have f2:(w2.alloc (.D (wD (some x)).qW.ay 86)).b ⟨q,18,none⟩=some (.a (some ⟨g,0,none⟩) N N):=(by rw[HN.i];exact T2.i.w.K.1);clear hb l1)|(go_at_call 129;(with_reducible refine(CF.i _ T2.i.w).g ?_);rintro e w3 ⟨rfl,hb⟩;have T3:=ab (T2.i.go hb);have B3:=ab (gV B2.i hb);clear hb l2 f2));go_loopw [8,9] (fun v8 v9 wr=>∃(s':List (Option Fw))(a c:Nat)(y:Fw),s'.a=N/\XQ Fw.key (hmK key N) z s' a c L/\at_ s' (yF N z a)=some y/\Fv wr q g key room s'/\v8=.b .a (yF N z a:Nat)/\v9=.b .a (yF N z c:Nat)/\jD [g] w3 wr)
    (fun _ v9 wr=>N-yG N ((z+1)%N) (intOf v9).e)
   case atStart=>exact⟨s,a0,a0+1,x,HN.i.symm,by rw[HN.i];exact H0.i,by rw[HJ.i];exact HAT.i,T3.i.w,by rw[HJ.i],by rw[<-HJ2.i],jD.refl _ _⟩
   case round=>
    obtain⟨s',a,c,y,hlen,hol,hay,hTb,rfl,rfl,hfr⟩:=hrel;have hcN:c<=N:=by rw[<-hlen];exact hol.cN
    have hac:=hol.ac;have ha1:=hol.a0;obtain⟨i,hi⟩:=dw (yF N z c);obtain⟨b,hb⟩:=dw (yF N z a);have hil:i<N:=by rw[hi];exact Bt (by omega)
    have hbl:b<N:=by rw[hb];exact Bt (by omega)
    have HOL:=ab hol;have HLEN:=ab hlen;have HTB:=ab hTb;have HFR:=ab hfr;have f18:wr.b ⟨q,18,none⟩=some (.a (some ⟨g,0,none⟩) N N):=by rw[<-hlen];exact hTb.K.1
    have hai:=(hTb.WG (show i<s'.a by rw[hlen];exact hil))
    rw[<-hi,<-hb];rw[<-hb]at hay;have HI:=ab hi;have Hq:=ab hb;have HAY:=ab hay;have hii:(i:Int)<N:=by omega
    have hbi:(b:Int)<N:=by omega
    have HCT:=ab (show(iw s').a=L.a+1 by
     have h1:=(Kc s' b y (by rw[hlen];exact hbl) hay).t;rw[bD]at h1;have h2:=hol.Pb;rw[hlen,<-hb]at h2;rw[h1,h2.t])
    have thb:=hTb.sl.O (b*42) 42 (by rw[vw,hlen];have:=cZ 42 (show b+1<=N from hbl);omega);clear hol hlen hTb hfr hi hb hay;cases hat:at_ s' i with
    | none=>
      rw[hat]at hai;have a1:wr.b ⟨g,i*42,none⟩=some (.e false):=hai.1;have aEc:=ab hat;have PQ:=ab (HTB.i.tb.gy (b2:=g) (o:=b*42) (x:=Gs.ay) HTB.i.ne);have f17:=(PQ.i.K.1 17).trans (Tk.aea _);have g17:=PQ.i.K.2.1 17;have aKn:=(PQ.i.K.1 18).trans (Tk.yx _);rw[HCT.i]at f17;obtain⟨m,hm⟩:=dw L.a;rw[<-hm]at f17;obtain⟨m1,hm1⟩:=dw (m+1);rw[<-hm1]at f17;have e5:(m1:Int)-1=(m:Int):=by omega
      have hmb:m1<=100000:=by have h1:=ET s';have h2:=HTB.i.sz;have h3:=HCT.i;omega
      have i5:=jS (m:Int) (by omega);have HM:=ab hm;clear hai hat hm hm1 hmb;go_wp2;go_ret;obtain⟨hd1,hd2⟩:=HOL.i.done (by rw[HLEN.i,<-HI.i];exact aEc.i);rw[HLEN.i,<-Hq.i]at hd1 hd2;have hxl:=vJ HO.i;have hlp:l.Perm (x::L):=(HT.i.r.Pb.symm).trans HL.i;have hcut:=VJ HT.i.ok hxl.1 hlp;rw[hxl.2]at hcut;have hbs:b<s'.a:=by rw[HLEN.i];exact hbl
      have hel:(iw (s'.set b none)).a=m:=by rw[hd2.t,HM.i]
      have hW:Fv ((gI wr g (b*42) Gs.ay).F ⟨q,17,none⟩ (.b .a m)) q g key room (s'.set b none):=by
       refine⟨?_,?_,HTB.i.ne,by rw[aV];exact HTB.i.sz⟩
       ·have:=PQ.i.eH 17 (.b .a m)
        rw[Tk.P9]at this;rw[hel,aV];exact this
       ·have h1:=HTB.i.sl.setCells (b*42) Gs.ay.a
        have h2:=TM s' b none hbs;refine dJ.dM ?_ _ _ HTB.i.ne;rw[<-h2];simpa[gI,slC,wD]using h1
      refine⟨rfl,⟨s'.set b none,⟨hW,⟨?_,?_⟩,HT.i.ok.sub (Nn l k)⟩,by rw[aV,HLEN.i,HN.i]⟩,?_⟩
      ·rw[aV,HLEN.i];exact hd1
      ·exact hd2.trans hcut
      ·refine jD.set ?_ _ _ (.a (by simp))
       refine jD.grown ?_ (lM (dN wr (some g)) (b*42) Gs.ay) (fun j e=>.a (by injection e with e;simp[e]));exact(jD.jl B3.i).trans HFR.i (fun j hj=>.a (by simp at hj;simp[hj]))
    | some v=>
      rw[hat]at hai;obtain⟨a1,a2,_,a4,a5,_,a7⟩:=hai
      replace a1:wr.b ⟨g,i*42,none⟩=some (.e true):=a1
      replace a4:eu wr g (i*42+1) 37=v.key.ay:=a4
      have hcl:c<N:=by
       rcases aZ c N with h1|h1
       ·exact h1
       ·exfalso
        have h2:c=N:=by omega
        have h3:=HOL.i.free;have h4:i=z:=by rw[HI.i,h2];show(z+N)%N=z;rw[Nat.add_mod_right,Nat.mod_eq_of_lt hz]
        rw[h4,h3]at hat;cases hat
      have hib:i≠b:=fun e=>by
       have:=JQ hz hcl (show a<N by omega) (by rw[<-HI.i,<-Hq.i];exact e);omega
      have hvl:v∈l:=by
       have h1:v∈iw (s'.set b none):=OZ.2 ⟨i,by rw[aV,HLEN.i];exact hil,by rw[FT _ _ _ _ (by rw[HLEN.i];exact hbl),if_neg (jh hib)];exact hat⟩;have h2:=HOL.i.Pb;rw[HLEN.i,<-Hq.i]at h2;exact HT.i.r.Pb.mem_iff.1 (HL.i.mem_iff.2 (jy _ (h2.mem_iff.1 h1)))
      have hvn:=zq (wT (HT.i.ok.ok v hvl));obtain⟨hv,hhv⟩:=dw (hmK key N v.key);have hvN:hv<N:=by rw[hhv];exact fE _ (by omega)
      have CH:=ab (fun(w:ak) (T:Fv w q g key room s')=>WS T v.key hvn);rw[HLEN.i,<-hhv]at CH;have hat':at_ s' (yF s'.a z c)=some v:=by rw[HLEN.i,<-HI.i];exact hat
      have hlin:=(HOL.i.lin c v (by rw[HLEN.i];exact hcl) (by omega) hat').1;rw[HLEN.i,<-hhv]at hlin;have azh:=ab (show hmK key N v.key=hv from hhv.symm);obtain⟨p1,hp1⟩:=dw (i+N-hv);obtain⟨p2,hp2⟩:=dw (i+N-b);obtain⟨d1,hd1⟩:=dw (p1%N);obtain⟨d2,hd2⟩:=dw (p2%N);have aKp:d1<N:=by rw[hd1];exact fE _ (by omega)
      have aKq:d2<N:=by rw[hd2];exact fE _ (by omega)
      have g1:=jS ((i:Int)-(hv:Int)) (by omega);have g2:=jS ((i:Int)-(b:Int)) (by omega);have g3:(i:Int)-(hv:Int)+(N:Int)=(p1:Int):=by omega
      have g4:(i:Int)-(b:Int)+(N:Int)=(p2:Int):=by omega
      have g5:=jS (p1:Int) (by omega);have g6:=jS (p2:Int) (by omega);have g7:(p1:Int)%(N:Int)=(d1:Int):=by rw[hd1];omega
      have g8:(p2:Int)%(N:Int)=(d2:Int):=by rw[hd2];omega
      have g9:Mj (p1:Int) (N:Int)=(d1:Int):=by rw[mo (by omega)];exact g7
      have g10:Mj (p2:Int) (N:Int)=(d2:Int):=by rw[mo (by omega)];exact g8
      have g11:=jS (d1:Int) (by omega);have g12:=jS (d2:Int) (by omega);have D1:=ab (show d1=c-yG N z hv by rw[hd1,hp1,HI.i];exact aiW hz hvN hlin hcl);have D2:=ab (show d2=c-a by rw[hd2,hp2,HI.i,Hq.i];exact ac4 hz (by omega) hcl);obtain⟨n1,hn1⟩:=dw (i+1);have k1:(i:Int)+1=(n1:Int):=by omega
      have k2:=jS (n1:Int) (by omega);obtain⟨n2,hn2⟩:=dw (n1%N);have aKr:n2<N:=by rw[hn2];exact fE _ (by omega)
      have k3:(n1:Int)%(N:Int)=(n2:Int):=by rw[hn2];omega
      have k4:Mj (n1:Int) (N:Int)=(n2:Int):=by rw[mo (by omega)];exact k3
      have k5:=jS (n2:Int) (by omega);have Qf:=ab (show n2=yF N z (c+1)by rw[hn2,hn1,HI.i];exact ac5 hz hcl);have aqT:=ab hat';have azi:=ab hlin;have HIB:=ab hib;have asB:=ab (show N-yG N ((z+1)%N) n2<N-yG N ((z+1)%N) i by
       rw[Qf.i,HI.i,ZV hz (by omega) (by omega),ZV hz (by omega) (by omega)];omega)
      have HC:=ab (show c<N/\a<c/\0<a from⟨hcl,hac,ha1⟩);clear hvl hvn hhv hat' hlin hp1 hp2 hd1 hd2 hn1 hn2 hib hat a2 a5 hcl;by_cases hle:d2<=d1
      ·have t1:decide ((d1:Int)>=(d2:Int))=true:=by simp;omega
       have t2:decide ((d2:Int)<=(d1:Int))=true:=by simp;omega
       have t3:decide (d2<=d1)=true:=by simp;omega
       have HLE:=ab hle;clear hle thb;go_wp2_with (go_at_call 200;(with_reducible refine(CH.i _ HTB.i).g ?_);rintro e w5 ⟨rfl,hb5⟩;have HB5:=ab hb5;have T5:=ab (HTB.i.go hb5);clear hb5 a1 a4 a7 f18;have f18:w5.b ⟨q,18,none⟩=some (.a (some ⟨g,0,none⟩) N N):=(by rw[<-HLEN.i];exact T5.i.K.1);have a5:xJ w5 g (i*42) 42:=(T5.i.WG (by rw[HLEN.i];exact hil)).2.2.2.2.1;have a2:eu w5 g (i*42) 42=(wD (some v)).ay:=(by rw[(T5.i.WG (by rw[HLEN.i];exact hil)).2.1,show at_ s' i=some v from(by have:=aqT.i;rw[HLEN.i,<-HI.i]at this;exact this)]);have thb:w5.O g (b*42) 42:=T5.i.sl.O (b*42) 42 (by rw[vw,HLEN.i];have:=cZ 42 (show b+1<=N from hbl);omega));go_region;go_wp2;go_roundw
       case rel=>
        have h1:=HC.i;have h2:=HLE.i;rw[D1.i,D2.i]at h2;have h3:=azi.i;have hmv:=HOL.i.move (by rw[HLEN.i];exact h1.1) aqT.i (by rw[HLEN.i,azh.i];omega);rw[HLEN.i,<-Hq.i]at hmv;have hbs:b<s'.a:=by rw[HLEN.i];exact hbl
        have hai2:at_ (s'.set b (some v)) i=some v:=by
         rw[FT _ _ _ _ hbs,if_neg (jh HIB.i)];have:=aqT.i;rw[HLEN.i,<-HI.i]at this;exact this
        have hel:(iw (s'.set b (some v))).a=L.a+1:=by
         have h4:=(Kc (s'.set b (some v)) i v (by rw[aV,HLEN.i];exact hil) hai2).t;rw[bD]at h4;have h5:=hmv.Pb;rw[aV,HLEN.i,<-HI.i]at h5;rw[h4,h5.t]
        refine⟨s'.set b (some v),c,c+1,v,by rw[aV,HLEN.i],hmv,by rw[<-HI.i];exact hai2,?_,by rw[HI.i],by rw[Qf.i],?_⟩
        ·exact T5.i.drew.ah9 hbs (some v) (L.a+1) hel (HCT.i.symm)
        ·exact jD.grown (HFR.i.S HB5.i.drew HFR.i.j) (lM (dN w5.drew (some g)) (b*42) (wD (some v)).ay) (fun j e=>.a (by injection e with e;simp[e]))
       case measure=>
        simp only[intOf,dQ];exact asB.i
      ·have t1:decide ((d1:Int)>=(d2:Int))=false:=by simp;omega
       have t2:decide ((d2:Int)<=(d1:Int))=false:=by simp;omega
       have t3:decide (d2<=d1)=false:=by simp;omega
       have HLE:=ab hle;clear hle thb;go_wp2_with (go_at_call 200;(with_reducible refine(CH.i _ HTB.i).g ?_);rintro e w5 ⟨rfl,hb5⟩;have HB5:=ab hb5;clear hb5 a1 a4 a7 f18);go_roundw
       case rel=>
        have h1:=HC.i;have h2:=HLE.i;rw[D1.i,D2.i]at h2;have h3:=azi.i;refine⟨s',a,c+1,y,HLEN.i,HOL.i.aCh (by rw[HLEN.i];exact h1.1) aqT.i (by rw[HLEN.i,azh.i];omega),by rw[<-Hq.i];exact HAY.i,HTB.i.go HB5.i,by rw[Hq.i],by rw[Qf.i],HFR.i.S HB5.i HFR.i.j⟩
       case measure=>
        simp only[intOf,dQ];exact asB.i
end
section
variable {W W':ak} {q g:Nat} {key:Vector UInt8 16} {room:Int} {s:List (Option Fw)} {l:List Fw}
theorem TbR.BM{hm:Tu->Nat}(h:TbR hm s l)(ho:vI room l){f x:Fw}{d:Nat}(hd:Found hm Fw.key s f.key d)(hf:lX l f.key=some x)(hl:l.a<s.a)(m:List Fw)(hm':m.Perm (f::yJ l f.key)):TbR hm (s.set ((hm f.key+d)%s.a) (some f)) m:=by
 have hN:0<s.a:=by omega
 have hj:(hm f.key+d)%s.a<s.a:=fE _ hN;have hst:=h.stop ho hd;have hel:=h.Pb.t;rw[hf]at hst;obtain⟨h1,h2⟩:=vJ hf;obtain⟨z,hz1,hz2⟩:=(Lr s).1 (by omega);refine⟨h.tab.put hd hz1 hz2 (fun e=>by rw[e,hst]at hz2;cases hz2),?_⟩;have e1:=ze s _ f hj;have e2:=OY s _ x hj hst;have e3:=VJ ho h1 (h.Pb.symm.trans e2);rw[h2]at e3;exact e1.trans ((e3.cons f).trans hm'.symm)
theorem Od{fn:Func}{p u v:Tmp}{ty:bM}(h:fn.results = #[.cell p ty,.a u,.a v])(tmps:Array aB)(P:Program)(w:ak):
 (results fn tmps).I P w=((asAddr (tmps.b p undef)).I P w).andThen fun a w₁=>((loadVar ty a).I P w₁).andThen fun x w₂=>.ok (.J #[x,tmps.b u undef,tmps.b v undef]) w₂:=by
 simp only[results,h];simp[jI,iD]
theorem oO.aqU{T:bM}{n:Nat}{z:Array aB}{fn:Func}{p u v b:Nat}{W:ak}{c:Array aB}(K:oO T n z)(h:fn.results = #[.cell p T,.a u,.a v])(tmps:Array aB)(hp:tmps.b p undef=.c (some ⟨b,0,none⟩))(hb:dJ W b c)(hc:c.j=n):(results fn tmps).I ah W=.ok (.J #[.d c,tmps.b u undef,tmps.b v undef]) W:=by
 obtain⟨_,_,h3,h4⟩:=hb.K;have hl:=K.ld W b 0 (by rw[h3 0 n (by unfold dZ;omega)];trivial);rw[h4 0 n (by unfold dZ;omega),bl,<-hc,Array.extract_size]at hl;unfold xu at hl;simp only[bZ,Instr.sureAddr,jI,og,gJ]at hl;rw[Od h,hp];simp[asAddr,iD,hl]
def akj(room:Int)(l:List Fw)(f:Fw):aB:=
 if zU f then(if(lX l f.key).isNone&&decide (room<=l.a)then .J #[.d (l.head?.b jq).ay,.e true,.b .a 0]else .J #[.d jq.ay,.e false,.b .a 0])else .J #[.d jq.ay,.e false,.b .a 1]
def agL(W:ak)(q g:Nat)(key:Vector UInt8 16)(room:Int)(s:List (Option Fw))(l:List Fw)(f:Fw)(e:lq)(w':ak):Prop:=
 e=.a (akj room l f)/\(∃s',Ky w' q g key room s' (BM room l f)/\s'.a=s.a)/\jD [q,g] W w'
theorem aac(T:Ky W q g key room s l)(h1:1<=room)(h2:room*2<=s.a)(f:Fw)(hfn:f.E.a<=1000000):
 aQ ah 63 #[.c (some ⟨q,0,none⟩),.d f.ay] W (agL W q g key room s l f):=by
 have Z0:=ab (((Bx.start W).new f.ay 86).new jq.ay 86);rw[show(W.alloc (.D f.ay 86)).a.j=W.a.j+1 by simp]at Z0;have CR:=ab (fun w=>KY f w (by omega));have HT:=ab T;have HLT:=ab T.w.lt;obtain⟨ok,hok⟩:=dw (zU f);rw[<-hok]at CR;have JJ:=ab hok;clear hok T;go_enter Tryz.func63,Tryz.ntmps63;go_upto_region 1 with fail
 generalize(W.alloc (.D f.ay 86)).alloc (.D jq.ay 86)=w1 at Z0 ⊢;have l1:=kK Z0.i.b1;cases ok
 ·go_wp2_with (go_at_call 48;(with_reducible refine(CR.i _).g ?_);rintro e w2 ⟨rfl,hb⟩;have Z2:=ab (Z0.i.go hb);clear hb l1;have yK:=Z2.i.X.O 0 41 (aW (Fw.G _).symm))
  have k2:=Z2.i.put (fun p hp=>by rw[List.mem_singleton.1 hp];simp) jq.ay rfl;refine aN (kFw.aqU rfl _ rfl (show dJ (Av w2 (W.a.j+1) 0 jq) (W.a.j+1) jq.ay from k2.X) (Fw.G _)) rfl ?_;refine⟨by unfold akj;rw[if_neg (by rw[<-JJ.i];simp)];rfl,⟨s,?_,rfl⟩,jD.jl k2.R⟩;unfold BM;rw[if_neg (by rw[<-JJ.i];simp)];exact HT.i.go k2.R
 ·have hkn:xq f.key:=zq (wT JJ.i.symm)
  have CG:=ab (fun(w:ak) (T:Ky w q g key room s l)=>J9 T f.key);obtain⟨o,ho⟩:=dw (lX l f.key);rw[<-ho]at CG;have HO:=ab ho.symm;have hcg:∀o,anv o = .J #[.d (wD o).qW.ay,.e o.isSome]:=fun _=>rfl
  simp only[hcg]at CG;clear ho hcg;have hcnt:(iw s).a=l.a:=HT.i.r.Pb.t;have hsz:=HT.i.w.sz;obtain⟨n,hn⟩:=dw l.a;have UO:=ab hn;have HF:=ab (fun(w':ak) (T:Ky w' q g key room s l)=>show w'.b ⟨q,17,none⟩=some (.b .a n)/\w'.b ⟨q,16,none⟩=some (.b .a room)from⟨by rw[T.w.K.2.1,T.r.Pb.t,hn],T.w.K.2.2.1⟩);clear hcnt hn;go_upto_region 6 with(first|(go_at_call 48;(with_reducible refine(CR.i _).g ?_);rintro e w2 ⟨rfl,hb⟩;have HW3:=ab (show W.a.j+1<w2.a.j from(Z0.i.go hb).X.lt);have Z2:=ab ((Z0.i.go hb).new jq.ay 86);clear hb l1;have l2:=oP Z2.i.b2)|(go_at_call 126;(with_reducible refine(CG.i _ (HT.i.go Z2.i.R)).g ?_);rintro e w3 ⟨rfl,hb⟩;have Z3:=ab ((Z2.i.go hb).new (wD o).qW.ay 86);clear hb l2))
  have TA:=ab (HT.i.go Z3.i.R);obtain⟨f17,f16⟩:=HF.i _ TA.i;cases o with
  | some x=>
    go_wp2_with fail;go_quiet (fail);have T1:=ab (show Ky ((w3.alloc (.D (wD (some x)).qW.ay 86)).drewN nq) q g key room s l from⟨TA.i.w.drewN nq,TA.i.r,TA.i.ok⟩);have XF:=ab (Z3.i.b3.drewN nq);have XR:=ab (Z3.i.b2.drewN nq);have XY:=ab (Z3.i.b1.drewN nq);have FR:=ab (jD.jl (F:=[q,g]) (fO Z3.i.R nq));have HF1:=ab HO.i;generalize(w3.alloc (.D (wD (some x)).qW.ay 86)).drewN nq=wA at T1 XF XR XY FR ⊢;clear f17 f16;go_wp2_with fail;obtain⟨d,hd,hat⟩:=T1.i.VI f.key;rw[HF1.i]at hat;have hsz1:=T1.i.w.sz;obtain⟨j,hj⟩:=dw ((hmK key s.a f.key+d)%s.a);have hjl:j<s.a:=by rw[hj];exact fE _ (by omega)
    have CF:=ab (fun(w:ak) (T:Fv w q g key room s)=>Ce T f.key hkn d hd);rw[<-hj]at CF hat;have HD:=ab hd;have HJ:=ab hj;have HAT:=ab hat;obtain⟨N,hN⟩:=dw s.a;have HN:=ab hN;have hji:(j:Int)<N:=by omega
    have HJL:=ab hjl;clear hd hj hat hN hjl hsz1;obtain⟨T,ff,n0,E0,es,ew⟩:=vM (wA);have hT:Nonempty T:=⟨n0⟩
    have ES:=ab es;have EW:=ab ew;have l18:∀m,(ff m).b ⟨q,18,none⟩=some (.a (some ⟨g,0,none⟩) N N):=fun m=>by rw[HN.i];exact(T1.i.w.go (es m)).K.1
    have lk:=fun m=>oP (XF.i.go (es m))
    have CG2:=ab (fun m=>CF.i _ (T1.i.w.go (es m)));clear es ew;refine oh ff (by kernel_rfl) (by kernel_rfl) n0 E0 ?_
    repeat(go_big_quiet_step ((first|(go_at_call 129;(with_reducible refine(CG2.i _).g ?_);rintro e w2 ⟨rfl,hb⟩;exact⟨rfl,EW.i _ ((ES.i _).trans (hb.g (ES.i _).j))⟩))))
    refine gK ?_;rintro _ ⟨m',rfl⟩;have HB:=ab (ES.i m');generalize ff m'=wN at *;clear ES EW E0 hT n0;clear l18 lk;have T2:=ab (T1.i.go HB.i);have F2:=ab (XF.i.go HB.i);have R2:=ab (XR.i.go HB.i);have Y2:=ab (XY.i.go HB.i);have FR2:=ab (FR.i.S HB.i FR.i.j);obtain⟨a1,_,_,_,a5,_,_⟩:=T2.i.w.WG HJL.i;rw[HAT.i]at a1
    replace a1:wN.b ⟨g,j*42,none⟩=some (.e true):=a1
    have lf:=kK F2.i;have thj:=T2.i.w.sl.O (j*42) 42 (by rw[vw];have:=cZ 42 (show j+1<=s.a from HJL.i);omega);have ZI:=ab (show q≠W.a.j+1/\g≠W.a.j+1/\g≠w2.a.j/\w2.a.j≠W.a.j+1 from⟨by have:=HLT.i;omega,by have:=HLT.i;omega,by have:=HLT.i;have:=HW3.i;omega,by have:=HW3.i;omega⟩);have Y3:=ab (Y2.i.gy (o:=j*42) (x:=(Sl.mk true f).ay) (jh ZI.i.2.2.1));have R3:=ab (R2.i.gy (o:=j*42) (x:=(Sl.mk true f).ay) (jh ZI.i.2.1));have ly:=kK Y3.i;have yK:=R3.i.O 0 41 (aW (Fw.G _).symm);clear a5;go_wp2;refine aN (kFw.aqU rfl _ rfl (R3.i.put jq.ay rfl) (Fw.G _)) rfl ?_;have hpf:BM room l f=ins kS f (yJ l f.key):=by unfold BM;rw[if_pos JJ.i.symm,if_pos (by rw[HO.i];rfl)]
    have e1:=Kc s j x HJL.i HAT.i;have e2:=ze s j f HJL.i;have hW:=T2.i.w.ah9 HJL.i (some f) (iw s).a (by rw[e2.t,e1.t,bD,bD]) rfl;have hR:=T2.i.r.BM T2.i.ok HD.i HO.i (by have:=T2.i.ok.len;omega) (ins kS f (yJ l f.key)) (Bv _ _);rw[<-HJ.i]at hR;refine⟨by unfold akj;rw[if_pos JJ.i.symm,HO.i];rfl,⟨s.set j (some f),⟨⟨hW.tb.gy ZI.i.1,hW.sl.gy ZI.i.2.1,hW.ne,hW.sz⟩,?_,T2.i.ok.put h1 f⟩,by rw[aV]⟩,?_⟩
    ·rw[aV,hpf];exact hR
    ·refine jD.grown ?_ (lM (dN _ (some (W.a.j+1))) 0 jq.ay) (fun k e=>.b (by injection e with e;omega))
     exact jD.grown FR2.i (lM (dN _ (some g)) (j*42) (Sl.mk true f).ay) (fun k e=>.a (by injection e with e;simp[e]))
  | none=>
   by_cases hfull:room<=(n:Int)
   ·have t1:decide ((n:Int)>=room)=true:=by simp;omega
    have t2:decide (room<=(n:Int))=true:=by simp;omega
    obtain⟨x0,tl,hl0⟩:∃x0 tl,l=x0::tl:=by
     have:=UO.i;cases l with
     | nil=>simp at this;omega
     | cons x t=>exact⟨x,t,rfl⟩
    have hhd:l.head?.b jq=x0:=by rw[hl0];rfl
    have hct:yJ l x0.key=tl:=by have:=HT.i.ok;rw[hl0]at this⊢;exact amA this
    have CO:=ab (fun w (T:Ky w q g key room s l)=>abR w T);rw[hhd]at CO;have CD:=ab (fun w (T:Ky w q g key room s l)=>WX T x0.key);rw[hct]at CD;have hfl:room<=(l.a:Int):=by rw[<-UO.i];exact hfull
    have HPF:=ab (show BM room l f=ins kS f tl by unfold BM;rw[if_pos JJ.i.symm,if_neg (by rw[HO.i];simp),if_pos hfl,hl0];rfl);have HPC:=ab (show akj room l f = .J #[.d x0.ay,.e true,.b .a 0]by unfold akj;rw[if_pos JJ.i.symm,HO.i,if_pos (by simpa using hfl),hhd]);have HFT:=ab (show lX tl f.key=none by
     unfold lX;rw[List.find?_eq_none];intro z hz;have:=zf HO.i z (by rw[hl0];exact jy _ hz);simp[qF,this])
    have HPT:=ab (show BM room tl f=ins kS f tl by
     unfold BM;rw[if_pos JJ.i.symm,if_neg (by rw[HFT.i];simp),if_neg (by have:=HT.i.ok.len;rw[hl0,bD]at this;omega)])
    have HBD:=ab (show((tl.a:Nat):Int)+1<=room by have:=HT.i.ok.len;rw[hl0,bD]at this;omega);clear hfull hl0 hhd hct hfl;go_wp2_with fail;go_quiet (fail);have TB:=ab (show Ky ((w3.alloc (.D (wD none).qW.ay 86)).drewN nq) q g key room s l from⟨TA.i.w.drewN nq,TA.i.r,TA.i.ok⟩);have XF0:=ab (Z3.i.b3.drewN nq);have XR0:=ab (Z3.i.b2.drewN nq);have XY0:=ab (Z3.i.b1.drewN nq);have FR0:=ab (jD.jl (F:=[q,g]) (fO Z3.i.R nq));generalize(w3.alloc (.D (wD none).qW.ay 86)).drewN nq=wB at TB XF0 XR0 XY0 FR0 ⊢;clear f17 f16;have HQK:=ab (show w2.a.j≠q/\w2.a.j≠g/\w2.a.j≠W.a.j/\w2.a.j≠W.a.j+1/\W.a.j≠q/\W.a.j≠g/\W.a.j+1≠q/\W.a.j+1≠g by have:=HLT.i;have:=HW3.i;omega);go_upto_region 9 with(first
     | (go_at_call 127;(with_reducible refine(CO.i _ TB.i).g ?_);rintro e w4 ⟨rfl,hb4⟩;have Y4:=ab (XY0.i.go hb4);have th4:=Y4.i.O 0 41 (aW (Fw.G _).symm);have T5:=ab (show Ky (Av w4 w2.a.j 0 x0) q g key room s l from⟨⟨(TB.i.w.go hb4).tb.gy (jh HQK.i.1),(TB.i.w.go hb4).sl.gy (jh HQK.i.2.1),TB.i.w.ne,TB.i.w.sz⟩,TB.i.r,TB.i.ok⟩);have Y5:=ab (show dJ (Av w4 w2.a.j 0 x0) w2.a.j x0.ay from Y4.i.put x0.ay (by rw[Fw.G,Fw.G]));have F5:=ab (show dJ (Av w4 w2.a.j 0 x0) W.a.j f.ay from(XF0.i.go hb4).gy (b2:=w2.a.j) (o:=0) (x:=x0.ay) (jh HQK.i.2.2.1));have R5:=ab (show dJ (Av w4 w2.a.j 0 x0) (W.a.j+1) jq.ay from(XR0.i.go hb4).gy (b2:=w2.a.j) (o:=0) (x:=x0.ay) (jh HQK.i.2.2.2.1));have lk5:=oP Y5.i;have FR5:=ab (show jD [q,g] W (Av w4 w2.a.j 0 x0)from(FR0.i.S hb4 FR0.i.j).grown (lM (dN w4 (some w2.a.j)) 0 x0.ay) (fun k e=>.b (by injection e with e;have:=HW3.i;omega)));clear hb4)
     | (go_at_call 128;(with_reducible refine(CD.i _ T5.i).g ?_);rintro e wA ⟨rfl,⟨s',T6,hs6⟩,F6⟩;have T1:=ab T6;have HS6:=ab hs6;have XF:=ab (F6.box F5.i (by have:=HQK.i;simp;omega));have XR:=ab (F6.box R5.i (by have:=HQK.i;simp;omega));have XY:=ab (F6.box Y5.i (by have:=HQK.i;simp;omega));have FR:=ab (FR5.i.pQ F6);clear lk5 th4 T6 hs6 F6))
    have HF1:=ab HFT.i;obtain⟨n',hn'⟩:=dw tl.a;have HNP:=ab hn';clear hn';obtain⟨d,hd,hat⟩:=T1.i.VI f.key;rw[HF1.i]at hat;have hsz1:=T1.i.w.sz;obtain⟨j,hj⟩:=dw ((hmK key s'.a f.key+d)%s'.a);have hjl:j<s'.a:=by rw[hj];exact fE _ (by omega)
    have CF:=ab (fun(w:ak) (T:Fv w q g key room s')=>Ce T f.key hkn d hd);rw[<-hj]at CF hat;have HD:=ab hd;have HJ:=ab hj;have HAT:=ab hat;obtain⟨N,hN⟩:=dw s'.a;have HN:=ab hN;have hji:(j:Int)<N:=by omega
    have HJL:=ab hjl;clear hd hj hat hN hjl hsz1;obtain⟨T,ff,n0,E0,es,ew⟩:=vM (wA);have hT:Nonempty T:=⟨n0⟩
    have ES:=ab es;have EW:=ab ew;have l18:∀m,(ff m).b ⟨q,18,none⟩=some (.a (some ⟨g,0,none⟩) N N):=fun m=>by rw[HN.i];exact(T1.i.w.go (es m)).K.1
    have lk:=fun m=>oP (XF.i.go (es m))
    have CG2:=ab (fun m=>CF.i _ (T1.i.w.go (es m)));clear es ew;refine oh ff (by kernel_rfl) (by kernel_rfl) n0 E0 ?_
    repeat(go_big_quiet_step ((first|(go_at_call 129;(with_reducible refine(CG2.i _).g ?_);rintro e w2 ⟨rfl,hb⟩;exact⟨rfl,EW.i _ ((ES.i _).trans (hb.g (ES.i _).j))⟩))))
    refine gK ?_;rintro _ ⟨m',rfl⟩;have HB:=ab (ES.i m');generalize ff m'=wN at *;clear ES EW E0 hT n0;clear l18 lk;have T2:=ab (T1.i.go HB.i);have F2:=ab (XF.i.go HB.i);have R2:=ab (XR.i.go HB.i);have Y2:=ab (XY.i.go HB.i);have FR2:=ab (FR.i.S HB.i FR.i.j);obtain⟨a1,_,_,_,a5,_,_⟩:=T2.i.w.WG HJL.i;rw[HAT.i]at a1
    replace a1:wN.b ⟨g,j*42,none⟩=some (.e false):=a1
    have c17:wN.b ⟨q,17,none⟩=some (.b .a n'):=by rw[T2.i.w.K.2.1,T2.i.r.Pb.t,HNP.i]
    have g17:=T2.i.w.K.2.2.2.1 17;obtain⟨n1,hn1⟩:=dw (n'+1);have e5:(n':Int)+1=(n1:Int):=by omega
    have hnb:=T2.i.ok.len;have hnl:=HNP.i;have i5:=jS (n1:Int) (by omega);have HN1:=ab hn1;have F3:=ab (F2.i.dM ⟨q,17,none⟩ (.b .a n1) (by have:=HLT.i;show q≠W.a.j;omega));have lf:=kK F3.i;have SL:=ab (T2.i.w.sl.dM ⟨q,17,none⟩ (.b .a n1) T2.i.w.ne);have thj:=SL.i.O (j*42) 42 (by rw[vw];have:=cZ 42 (show j+1<=s'.a from HJL.i);omega);have ZI:=ab (show q≠W.a.j+1/\g≠W.a.j+1/\g≠w2.a.j/\w2.a.j≠W.a.j+1/\q≠w2.a.j from⟨by have:=HLT.i;omega,by have:=HLT.i;omega,by have:=HLT.i;have:=HW3.i;omega,by have:=HW3.i;omega,by have:=HLT.i;have:=HW3.i;omega⟩);have Y3:=ab ((Y2.i.dM ⟨q,17,none⟩ (.b .a n1) ZI.i.2.2.2.2).gy (o:=j*42) (x:=(Sl.mk true f).ay) (jh ZI.i.2.2.1));have R3:=ab ((R2.i.dM ⟨q,17,none⟩ (.b .a n1) ZI.i.1).gy (o:=j*42) (x:=(Sl.mk true f).ay) (jh ZI.i.2.1));have ly:=kK Y3.i;have yK:=R3.i.O 0 41 (aW (Fw.G _).symm);clear a5 hn1 hnb hnl;go_wp2;refine aN (kFw.aqU rfl _ rfl (R3.i.put x0.ay (by rw[Fw.G,Fw.G])) (Fw.G _)) rfl ?_;have hnl:=HNP.i;have hhs:=HS6.i;have hbd:=HBD.i;have hpf:BM room l f=ins kS f tl:=HPF.i;have hcu:=WV HF1.i;have e2:=Lp s' j f HJL.i HAT.i;have hel:(iw (s'.set j (some f))).a=n1:=by rw[e2.t,bD,T2.i.r.Pb.t,HN1.i,hnl]
    have hR:=T2.i.r.put T2.i.ok HD.i (by omega) (ins kS f tl) (by rw[hcu];exact Bv _ _);rw[<-HJ.i]at hR;have hT1:dJ (wN.F ⟨q,17,none⟩ (.b .a n1)) q (Tk.mk key room (iw (s'.set j (some f))).a (some ⟨g,0,none⟩) s'.a s'.a).ay:=by
     have:=T2.i.w.tb.eH 17 (.b .a n1);rw[Tk.P9]at this;rw[hel];exact this
    have hT2:dJ (gI (wN.F ⟨q,17,none⟩ (.b .a n1)) g (j*42) (Sl.mk true f).ay) g (WC (s'.set j (some f))):=by
     have h5:=SL.i.setCells (j*42) (Sl.mk true f).ay.a;rw[<-TM s' j (some f) HJL.i];simpa[gI,slC,wD]using h5
    refine⟨by rw[HPC.i];rfl,⟨s'.set j (some f),⟨⟨?_,hT2.gy ZI.i.2.1,T2.i.w.ne,by rw[aV];exact T2.i.w.sz⟩,?_,by rw[hpf,<-HPT.i];exact T2.i.ok.put h1 f⟩,by rw[aV,HS6.i]⟩,?_⟩
    ·rw[aV];exact(hT1.gy T2.i.w.ne).gy ZI.i.1
    ·rw[aV,hpf];exact hR
    ·refine jD.grown ?_ (lM (dN _ (some (W.a.j+1))) 0 x0.ay) (fun k e=>.b (by injection e with e;omega))
     refine jD.grown ?_ (lM (dN _ (some g)) (j*42) (Sl.mk true f).ay) (fun k e=>.a (by injection e with e;simp[e]));exact FR2.i.set ⟨q,17,none⟩ (.b .a n1) (.a (by simp))
   ·have t1:decide ((n:Int)>=room)=false:=by simp;omega
    have t2:decide (room<=(n:Int))=false:=by simp;omega
    have azm:=ab hfull;clear hfull;go_wp2_with fail;go_quiet (fail);have T1:=ab (show Ky ((w3.alloc (.D (wD none).qW.ay 86)).drewN nq) q g key room s l from⟨TA.i.w.drewN nq,TA.i.r,TA.i.ok⟩);have XF:=ab (Z3.i.b3.drewN nq);have XR:=ab (Z3.i.b2.drewN nq);have XY:=ab (Z3.i.b1.drewN nq);have FR:=ab (jD.jl (F:=[q,g]) (fO Z3.i.R nq));have HF1:=ab HO.i;generalize(w3.alloc (.D (wD none).qW.ay 86)).drewN nq=wA at T1 XF XR XY FR ⊢;clear f17 f16;go_wp2_with fail;obtain⟨d,hd,hat⟩:=T1.i.VI f.key;rw[HF1.i]at hat;have hsz1:=T1.i.w.sz;obtain⟨j,hj⟩:=dw ((hmK key s.a f.key+d)%s.a);have hjl:j<s.a:=by rw[hj];exact fE _ (by omega)
    have CF:=ab (fun(w:ak) (T:Fv w q g key room s)=>Ce T f.key hkn d hd);rw[<-hj]at CF hat;have HD:=ab hd;have HJ:=ab hj;have HAT:=ab hat;obtain⟨N,hN⟩:=dw s.a;have HN:=ab hN;have hji:(j:Int)<N:=by omega
    have HJL:=ab hjl;clear hd hj hat hN hjl hsz1;obtain⟨T,ff,n0,E0,es,ew⟩:=vM (wA);have hT:Nonempty T:=⟨n0⟩
    have ES:=ab es;have EW:=ab ew;have l18:∀m,(ff m).b ⟨q,18,none⟩=some (.a (some ⟨g,0,none⟩) N N):=fun m=>by rw[HN.i];exact(T1.i.w.go (es m)).K.1
    have lk:=fun m=>oP (XF.i.go (es m))
    have CG2:=ab (fun m=>CF.i _ (T1.i.w.go (es m)));clear es ew;refine oh ff (by kernel_rfl) (by kernel_rfl) n0 E0 ?_
    repeat(go_big_quiet_step ((first|(go_at_call 129;(with_reducible refine(CG2.i _).g ?_);rintro e w2 ⟨rfl,hb⟩;exact⟨rfl,EW.i _ ((ES.i _).trans (hb.g (ES.i _).j))⟩))))
    refine gK ?_;rintro _ ⟨m',rfl⟩;have HB:=ab (ES.i m');generalize ff m'=wN at *;clear ES EW E0 hT n0;clear l18 lk;have T2:=ab (T1.i.go HB.i);have F2:=ab (XF.i.go HB.i);have R2:=ab (XR.i.go HB.i);have Y2:=ab (XY.i.go HB.i);have FR2:=ab (FR.i.S HB.i FR.i.j);obtain⟨a1,_,_,_,a5,_,_⟩:=T2.i.w.WG HJL.i;rw[HAT.i]at a1
    replace a1:wN.b ⟨g,j*42,none⟩=some (.e false):=a1
    have c17:=(HF.i _ T2.i).1;have g17:=T2.i.w.K.2.2.2.1 17;obtain⟨n1,hn1⟩:=dw (n+1);have e5:(n:Int)+1=(n1:Int):=by omega
    have hnb:=T2.i.ok.len;have hnl:=UO.i;have i5:=jS (n1:Int) (by omega);have HN1:=ab hn1;have F3:=ab (F2.i.dM ⟨q,17,none⟩ (.b .a n1) (by have:=HLT.i;show q≠W.a.j;omega));have lf:=kK F3.i;have SL:=ab (T2.i.w.sl.dM ⟨q,17,none⟩ (.b .a n1) T2.i.w.ne);have thj:=SL.i.O (j*42) 42 (by rw[vw];have:=cZ 42 (show j+1<=s.a from HJL.i);omega);have ZI:=ab (show q≠W.a.j+1/\g≠W.a.j+1/\g≠w2.a.j/\w2.a.j≠W.a.j+1/\q≠w2.a.j from⟨by have:=HLT.i;omega,by have:=HLT.i;omega,by have:=HLT.i;have:=HW3.i;omega,by have:=HW3.i;omega,by have:=HLT.i;have:=HW3.i;omega⟩);have Y3:=ab ((Y2.i.dM ⟨q,17,none⟩ (.b .a n1) ZI.i.2.2.2.2).gy (o:=j*42) (x:=(Sl.mk true f).ay) (jh ZI.i.2.2.1));have R3:=ab ((R2.i.dM ⟨q,17,none⟩ (.b .a n1) ZI.i.1).gy (o:=j*42) (x:=(Sl.mk true f).ay) (jh ZI.i.2.1));have ly:=kK Y3.i;have yK:=R3.i.O 0 41 (aW (Fw.G _).symm);clear a5 hn1 hnb hnl;go_wp2;refine aN (kFw.aqU rfl _ rfl (R3.i.put jq.ay rfl) (Fw.G _)) rfl ?_;have hnl:=UO.i;have hfu:=azm.i;have hrl:¬room<=(l.a:Int):=by omega
    have hpf:BM room l f=ins kS f l:=by unfold BM;rw[if_pos JJ.i.symm,if_neg (by rw[HO.i];simp),if_neg hrl]
    have hcu:=WV HO.i;have e2:=Lp s j f HJL.i HAT.i;have hel:(iw (s.set j (some f))).a=n1:=by rw[e2.t,bD,T2.i.r.Pb.t,HN1.i,hnl]
    have hR:=T2.i.r.put T2.i.ok HD.i (by omega) (ins kS f l) (by rw[hcu];exact Bv _ _);rw[<-HJ.i]at hR;have hT1:dJ (wN.F ⟨q,17,none⟩ (.b .a n1)) q (Tk.mk key room (iw (s.set j (some f))).a (some ⟨g,0,none⟩) s.a s.a).ay:=by
     have:=T2.i.w.tb.eH 17 (.b .a n1);rw[Tk.P9]at this;rw[hel];exact this
    have hT2:dJ (gI (wN.F ⟨q,17,none⟩ (.b .a n1)) g (j*42) (Sl.mk true f).ay) g (WC (s.set j (some f))):=by
     have h5:=SL.i.setCells (j*42) (Sl.mk true f).ay.a;rw[<-TM s j (some f) HJL.i];simpa[gI,slC,wD]using h5
    refine⟨by unfold akj;rw[if_pos JJ.i.symm,HO.i,if_neg (by simp;omega)];rfl,⟨s.set j (some f),⟨⟨?_,hT2.gy ZI.i.2.1,T2.i.w.ne,by rw[aV];exact T2.i.w.sz⟩,?_,T2.i.ok.put h1 f⟩,by rw[aV]⟩,?_⟩
    ·rw[aV];exact(hT1.gy T2.i.w.ne).gy ZI.i.1
    ·rw[aV,hpf];exact hR
    ·refine jD.grown ?_ (lM (dN _ (some (W.a.j+1))) 0 jq.ay) (fun k e=>.b (by injection e with e;omega))
     refine jD.grown ?_ (lM (dN _ (some g)) (j*42) (Sl.mk true f).ay) (fun k e=>.a (by injection e with e;simp[e]));exact FR2.i.set ⟨q,17,none⟩ (.b .a n1) (.a (by simp))
end
section
attribute [local go_sem high] iT jF
theorem au9:aju 190:=⟨fun c w=>by
 go_enter Tryz.func190,Tryz.ntmps190;go_wp2;go_ret;exact⟨rfl,rfl⟩,fun args w=>by kernel_rfl⟩
theorem anC(a:fu):qE a=(a.h || !nzB (a.b.a.f 4)):=by rw[J6];cases h:a.h<;>simp[qE,fu.mJ,h]
theorem K8(a:fu)(w:ak):aQ ah 110 #[.d a.ay] w (gM w (.e (qE a))):=by
 have HB:=ab ((aH w.a.j w).alloc (av _) (.D a.ay 27));have x0:=dJ.new w a.ay 27;have C:=ab (ahO _ au9 _ 12 12 _ _ _ (by omega) (gq.tail (B:=w.a.j+1) (mG _) x0));have HS:=ab (anC a);obtain⟨z,hz⟩:=dw (nzB (a.b.a.f 4));rw[<-hz]at C HS;clear hz;cases h6:a.h
 ·rw[h6]at HS
  go_enter Tryz.func110,Tryz.ntmps110;go_wp2_with fail;refine C.i.g ?_;rintro e w' ⟨rfl,rfl⟩;cases z
  all_goals
   go_wp2;go_ret;exact⟨by rw[HS.i];rfl,HB.i⟩
 ·rw[h6]at HS
  go_enter Tryz.func110,Tryz.ntmps110;go_wp2;go_ret;exact⟨by rw[HS.i];rfl,HB.i⟩
def Jp(n a b:Int):Bool:=decide (a<=n)&&decide (n<=b)
theorem yA(n a b:Int)(w:ak):aQ ah 109 #[.b .a n,.b .a a,.b .a b] w fun e w'=>e=.a (.e (Jp n a b))/\w=w':=by
 go_enter Tryz.func109,Tryz.ntmps109;by_cases h1:a<=n<;>by_cases h2:n<=b
 all_goals
  go_wp2;go_ret;exact⟨by simp[Jp,h1,h2],rfl⟩
theorem akk(args:Array aB)(w:ak):(callFunc 204 args).I ah w=.ok (.enter 204 args) w:=by kernel_rfl
theorem agN(x:Vp)(a:fu)(p q:Int)(ba bp bq:Nat)(w:ak)(ha:dJ w ba a.ay)(hp:dJ w bp #[.b .a p])(hq:dJ w bq #[.b .a q]):
 aQ ah 204 #[.d x.ay,.c (some ⟨ba,0,none⟩),.c (some ⟨bp,0,none⟩),.c (some ⟨bq,0,none⟩)] w (gM w (.e (yg a p q x))):=by
 have HB:=ab (fun ob=>(aH w.a.j w).alloc (av _) ob);have na:=ha.lt;have np:=hp.lt;have nq:=hq.lt;obtain⟨a1,a2,a3,a4⟩:=ha.K;obtain⟨p1,p2,p3,p4⟩:=hp.K;obtain⟨q1,q2,q3,q4⟩:=hq.K;clear ha hp hq;go_enter Tryz.func204,Tryz.ntmps204;go_wp2
 all_goals
  go_ret;refine⟨?_,HB.i _⟩;clear HB;simp_all[yg]
def ah'(l:List Vp)(a:fu)(p q:Int):Int:=match xw l a p q with|some i=>(i:Nat)|none=>-1
theorem akl(l:List Vp)(a:fu)(p q:Int)(ba bp bq:Nat)(A:Option aS)(n c:Nat)(w:ak)(hR:RdV w w.a.j A n l)(hn:n<=100000)(ha:dJ w ba a.ay)(hp:dJ w bp #[.b .a p])(hq:dJ w bq #[.b .a q]):
 aQ ah 203 #[.a A n c,.func (.func 204) #[] #[.c (some ⟨ba,0,none⟩),.c (some ⟨bp,0,none⟩),.c (some ⟨bq,0,none⟩)]] w (gM w (.b .a (ah' l a p q))):=by
 have hen:=akk;have HR:=ab hR;have HN:=ab hR.1;have PR:=ab (fun x W (h:aL w.a.j w W)=>agN x a p q ba bp bq W (ha.go h) (hp.go h) (hq.go h));clear hR ha hp hq;go_enter Tryz.func203,Tryz.ntmps203;go_wp2;go_loopw [8] (fun s8 wr=>∃i:Nat,i<=n/\s8=.b .a i/\(∀k,k<i->yg a p q (l.b k nM)=false)/\aL w.a.j w wr) (fun s8 _=>n-(intOf s8).e)
 case atStart=>exact⟨0,by omega,rfl,fun k hk=>by omega,aH _ _⟩
 case round=>
  obtain⟨i,hin,rfl,hno,hb⟩:=hrel;have Ea:=ab hno;have HB:=ab hb;clear hno hb;by_cases hlt:i<n
  ·have hi:(i:Int)<n:=by omega
   obtain⟨b,o,rfl,hbb,hh,hcl⟩:=gX.at_ Vp.G nM ((HR.i.S HB.i).lD HB.i.j) hlt;obtain⟨x,hx⟩:=dw (l.b i nM);rw[<-hx]at hcl;have HX:=ab hx;have CP:=ab (PR.i x _ HB.i);clear hx hbb;cases hq:yg a p q x
   ·have HQ:=ab hq
    rw[hq]at CP;clear hq;go_wp2_with (go_at_call 204;(with_reducible refine CP.i.g ?_);rintro e w1 ⟨rfl,hb1⟩;clear hh hcl;have HB1:=ab hb1;clear hb1);go_roundw
    case rel=>exact⟨i+1,by omega,by go_num,fun k hk=>by
     by_cases hki:k=i
     ·rw[hki,<-HX.i];exact HQ.i
     ·exact Ea.i k (by omega),gV HB.i HB1.i⟩
    case measure=>simp[intOf]<;>omega
   ·have Pg:=ab (show xw l a p q=some i from gT.2 ⟨by rw[HN.i];exact hlt,by
      have:=hq;rw[HX.i,au,aC (by rw[HN.i];exact hlt)]at this;exact this,fun j hj=>by
      have:=Ea.i j hj;rw[au,aC (by rw[HN.i];omega)]at this;simpa using this⟩)
    rw[hq]at CP;clear hq;go_wp2_with (go_at_call 204;(with_reducible refine CP.i.g ?_);rintro e w1 ⟨rfl,hb1⟩;clear hh hcl;have HB1:=ab hb1;clear hb1);go_ret;exact⟨by unfold ah';rw[Pg.i];rfl,gV HB.i HB1.i⟩
  ·obtain rfl:i=n:=by omega
   have Pg:=ab (show xw l a p q=none from wO.2 fun x hx=>by
    obtain⟨j,hj,rfl⟩:=List.getElem_of_mem hx;have:=Ea.i j (by rw[<-HN.i];exact hj);rw[au,aC hj]at this;exact this)
   have hd:decide ((i:Int)<i)=false:=by simp
   go_wp2;go_ret;exact⟨by unfold ah';rw[Pg.i];rfl,HB.i⟩
def Yk(l:List Vp)(a:fu)(p q:Int):Vp×Bool:=match xw l a p q with|some i=>(l.b i nM,true)|none=>(nM,false)
theorem akm{l:List Vp}{a:fu}{p q:Int}{i:Nat}(h:xw l a p q=some i):i<l.a:=(gT.1 h).1
theorem QX(x:Cn)(l:List Vp)(a:fu)(p q:Int)(w:ak)(hR:RdV w w.a.j x.qG x.iI l)(hn:x.iI<=100000):
 aQ ah 135 #[.d x.ay,.d a.ay,.b .a p,.b .a q] w (gM w (.J #[.d (Yk l a p q).1.ay,.e (Yk l a p q).2])):=by
 have h0:=((((Bx.start w).new x.ay 29).new a.ay 27).new #[.b .a p] 3).new #[.b .a q] 3;have h1:=h0.new nM.ay 98;simp only[sZ]at h1;have Z:=ab h1;have HR:=ab (h1.rdR hR);have HN:=ab hR.1;clear h0 h1 hR;go_enter Tryz.func135,Tryz.ntmps135;go_upto_region 1 with fail
 generalize(((((w.alloc (.D x.ay 29)).alloc (.D a.ay 27)).alloc (.D #[.b .a p] 3)).alloc (.D #[.b .a q] 3)).alloc (.D nM.ay 98))=w5 at Z HR ⊢;obtain⟨y1,y2,y3,y4⟩:=Z.i.VH.b3.K;have CI:=ab (akl l a p q _ _ _ x.qG x.iI x.qH w5 HR.i hn Z.i.b3 Z.i.b2 Z.i.b1);have Mk:=ab (show∀r∈[(w.a.j+1+1+1,#[aI .a q]),(w.a.j+1+1,#[aI .a p]),(w.a.j+1,a.ay),(w.a.j,x.ay)],r.1≠w.a.j+1+1+1+1 from fun r hr=>by
  simp only[bB,fJ,or_false]at hr;rcases hr with rfl|rfl|rfl|rfl<;>simp only[]<;>omega)
 have HP:=ab (show ah' l a p q=match xw l a p q with|some i=>(i:Nat)|none=>-1 from rfl);have HV:=ab (show Yk l a p q=match xw l a p q with|some i=>(l.b i nM,true)|none=>(nM,false)from rfl);cases hf:xw l a p q with
 | none=>
   rw[hf]at HP HV;rw[HP.i]at CI;simp only at CI;clear hf;go_wp2_with (go_at_call 203;(with_reducible refine CI.i.g ?_);rintro e w6 ⟨rfl,hb⟩;have Z6:=ab (Z.i.go hb);have yK:=Z6.i.X.O 0 20 (aW (Vp.G nM).symm);clear hb);refine aN (kVp.qB rfl _ rfl (b:=w.a.j+1+1+1+1) (c:=nM.ay) (Z6.i.put Mk.i nM.ay rfl).X (Vp.G _)) rfl ?_;rw[HV.i];exact⟨rfl,(Z6.i.put Mk.i nM.ay rfl).R⟩
 | some i=>
   have hi:=akm hf;rw[HN.i]at hi;rw[hf]at HP HV;rw[HP.i]at CI;simp only at CI;clear hf;have hi2:(i:Int)<x.iI:=by omega
   obtain⟨b,o,hA,hbb,hh,hcl⟩:=gX.at_ Vp.G nM HR.i hi;rw[hA]at HR CI;go_wp2_with (go_at_call 203;(with_reducible refine CI.i.g ?_);rintro e w6 ⟨rfl,hb⟩;have Z6:=ab (Z.i.go hb);have yK:=Z6.i.X.O 0 20 (aW (Vp.G nM).symm);have HR6:=ab (HR.i.go hb);clear hb;clear y1 y2 y3 y4 hh hcl;obtain⟨y1,y2,y3,y4⟩:=Z6.i.VH.b3.K;obtain⟨b',o',hA',aKw,hh,hcl⟩:=gX.at_ Vp.G nM HR6.i hi;cases hA');refine aN (kVp.qB rfl _ rfl (b:=w.a.j+1+1+1+1) (c:=(l.b i nM).ay) (Z6.i.put Mk.i (l.b i nM).ay (by rw[Vp.G,Vp.G])).X (Vp.G _)) rfl ?_;rw[HV.i];exact⟨rfl,(Z6.i.put Mk.i (l.b i nM).ay (by rw[Vp.G,Vp.G])).R⟩
theorem aqV{l:List Vp}{a:fu}{p q:Int}:(Yk l a p q).2=l.any (yg a p q):=by
 unfold Yk xw;cases h:l.findIdx? (yg a p q)with
 | none=>
   simp only;symm;rw[qd];exact fun x hx=>by simpa using wO.1 h x hx
 | some i=>
   simp only;symm;obtain⟨h1,h2,_⟩:=gT.1 h;exact qR.2 ⟨_,dR h1,h2⟩
def WY(A:Option aS)(n c:Nat):Cn:=⟨A,n,c,0,0,bF 6 0,0,0,bF 6 0,mX,mX,0,0,0⟩
@[go_sem]theorem awG(W:ak)(A:Option aS)(n c:Nat):(uN 29 #[(0,.a A n c)]).I ah W=.ok (.d (WY A n c).ay) W:=
 Xy.bd W _ _ _ _ mW (atV W _ mW) (by
  unfold Py Cn.ay;rw[oH 0 0 _ _ _ _ rfl rfl (by simp)];simp[fB,WY])
theorem gX.azn{α:Type}{f:α->Array aB}{s:Nat}(hs:∀x,(f x).j=s){w:ak}{B n:Nat}{A:Option aS}{l:List α}(h:gX f s w B A n l){i:Nat}(hi:i<=n):gX f s w B A i (l.d i):=by
 obtain⟨h1,h2,h3⟩:=h;refine⟨by simp;omega,⟨?_,fun hp=>?_⟩,fun a ha h0=>h3 a ha (by omega)⟩
 ·rw[ak8 f s hs,bJ,h1,Nat.min_eq_left hi]
 ·obtain⟨a,ha,hb,hc⟩:=h2.2 (by omega)
  refine⟨a,ha,hb,fun j v hv=>hc j v ?_⟩;rw[<-List.take_append_drop i l,wX];rw[List.getElem?_append_left (by
   rcases aZ j ((l.d i).h fun x=>(f x).a).a with h|h
   ·exact h
   ·rw[aT h]at hv;cases hv)]
  exact hv
theorem akn{x:Vp}{W:ak}{b:Nat}(h:dJ W b x.ay):(rJ (.c (some ⟨b,0,none⟩))).I ah W=.ok (.d x.h.ay) W:=by
 have hs:dZ x.ay=20:=Vp.G x;rw[Mt W b 0 (of_eq_true (h.K.2.2.1 0 17 (by omega))),h.K.2.2.2 0 17 (by omega),Vp.Dp]
theorem aad(l:List Vp)(n:Nat)(hl:l.a=n):(yT l=true↔n<=64/\∀i,i<n->DV l i=true):=by
 unfold yT;subst hl;simp
theorem anD(l:List Vp)(A:Option aS)(n c:Nat)(w:ak)(hR:RdV w w.a.j A n l)(hnc:n<=c)(hn:n<=100000):
 aQ ah 108 #[.a A n c] w (gM w (.e (yT l))):=by
 have HR:=ab hR;have HN:=ab hR.1;have HS:=ab (aad l n hR.1);clear hR;go_enter Tryz.func108,Tryz.ntmps108;by_cases h64:64<n
 ·have q:decide ((64:Int)<n)=true:=by simp;omega
  have HF:=ab (show yT l=false by cases h:yT l;rfl;have:=(HS.i.1 h).1;omega);go_wp2;go_ret;exact⟨by rw[HF.i];rfl,aH _ _⟩
 have q:decide ((64:Int)<n)=false:=by simp;omega
 go_wp2;go_loopw [12] (fun s12 wr=>∃i:Nat,i<=n/\s12=.b .a i/\(∀k,k<i->DV l k=true)/\aL w.a.j w wr) (fun s12 _=>n-(intOf s12).e)
 case atStart=>exact⟨0,by omega,rfl,fun k hk=>by omega,aH _ _⟩
 case round=>
  obtain⟨i,hin,rfl,hok,hb⟩:=hrel;have Ea:=ab hok;have HB:=ab hb;clear hok hb;by_cases hlt:i<n
  ·have hi:(i:Int)<n:=by omega
   have hic:(i:Int)<=c:=by omega
   obtain⟨b,o,hA,hbb,hh,hcl⟩:=gX.at_ Vp.G nM ((HR.i.S HB.i).lD HB.i.j) hlt;subst hA;obtain⟨x,hx⟩:=dw (l.b i nM);rw[<-hx]at hcl;have HX:=ab (show DV l i=(adH x && !(Yk (l.d i) x.h x.aP x.nH).2)by unfold DV;rw[<-hx,aqV]);clear hx;have Z1:=ab ((Bx.start wr).new x.ay 98);have HPC:=ab (HR.i.go HB.i);go_upto_region 6 with fail
   clear hh hcl;generalize wr.alloc (.D x.ay 98)=w2 at Z1 ⊢;obtain⟨y1,y2,y3,y4⟩:=Z1.i.X.K;have CS:=ab (K8 x.h w2);have ZG:=ab (fun w' (hb:aL w2.a.j w2 w')=>Z1.i.go hb);have HV:=ab (show adH x=(qE x.h&&(x.aP==6||x.aP==17)&&Jp x.nH 1 65535)from rfl);cases hv:adH x
   ·
    have Ke:=ab (show yT l=false by
     cases h:yT l;rfl;have:=(HS.i.1 h).2 i hlt;rw[HX.i,hv]at this;simp at this)
    rw[hv]at HV;have HZ:=ab HV.i.symm;clear hv HV HX;cases h1:qE x.h
    ·rw[h1]at CS
     go_upto_if 36 with(first|(go_at_call 110;(with_reducible refine CS.i.g ?_);rintro e w3 ⟨rfl,hb⟩;have Z3:=ab (ZG.i _ hb);clear y1 y2 y3 y4;obtain⟨y1,y2,y3,y4⟩:=Z3.i.X.K;clear hb)|(go_at_call 109;(with_reducible refine(yA _ _ _ _).g ?_);rintro e w4 ⟨rfl,rfl⟩))
     go_wp2;go_ret;exact⟨by rw[Ke.i];rfl,gV HB.i Z3.i.R⟩
    ·rw[h1]at CS HZ
     have HZ2:=ab (show((x.aP==6||x.aP==17)&&Jp x.nH 1 65535)=false by have:=HZ.i;simpa using this);cases h2:(x.aP==6)<;>cases h3:(x.aP==17)<;>cases h4:Jp x.nH 1 65535
     all_goals
      rw[h2,h3,h4]at HZ2
      first
       | (exact absurd HZ2.i (by decide))
       | (have h2':(x.aP != 6) = !(x.aP==6):=rfl
          have h3':(x.aP != 17) = !(x.aP==17):=rfl;rw[h2]at h2';rw[h3]at h3';have CW:=ab (fun W=>yA x.nH 1 65535 W);rw[h4]at CW;go_wp2_with (first|(go_at_call 110;(with_reducible refine CS.i.g ?_);rintro e w3 ⟨rfl,hb⟩;have Z3:=ab (ZG.i _ hb);clear y1 y2 y3 y4;obtain⟨y1,y2,y3,y4⟩:=Z3.i.X.K;clear hb)|(go_at_call 109;(with_reducible refine(CW.i _).g ?_);rintro e w4 ⟨rfl,rfl⟩));go_ret;exact⟨by rw[Ke.i];rfl,gV HB.i Z3.i.R⟩)
   ·rw[hv]at HV HX
    have HZ:=ab HV.i.symm;have HXX:=ab HX.i;clear hv HV HX;have h1:qE x.h=true:=by have:=HZ.i;simp at this;exact this.1.1
    have h4:Jp x.nH 1 65535=true:=by have:=HZ.i;simp at this;exact this.2
    have h23:(x.aP==6||x.aP==17)=true:=by have:=HZ.i;simp at this;simpa using this.1.2
    have CW:=ab (fun W=>yA x.nH 1 65535 W);rw[h4]at CW;rw[h1]at CS;clear h1 h4;cases h2:(x.aP==6)<;>cases h3:(x.aP==17)
    all_goals
     rw[h2,h3]at h23
     first
      | (exact absurd h23 (by decide))
      | skip
    all_goals
     clear h23;have h2':(x.aP != 6) = !(x.aP==6):=rfl;have h3':(x.aP != 17) = !(x.aP==17):=rfl;rw[h2]at h2';rw[h3]at h3';go_upto_region 8 with(first|(go_at_call 110;(with_reducible refine CS.i.g ?_);rintro e w3 ⟨rfl,hb⟩;have Z3:=ab (ZG.i _ hb);clear y1 y2 y3 y4;obtain⟨y1,y2,y3,y4⟩:=Z3.i.X.K;clear hb)|(go_at_call 109;(with_reducible refine(CW.i _).g ?_);rintro e w4 ⟨rfl,rfl⟩))
     clear h2 h3 h2' h3' y1 y2 y3 y4;have F4:=ab (fun(w':ak) (h:Bx [(wr.a.j,x.ay)] wr w')=>show w'.b ⟨wr.a.j,17,none⟩=some (.b .a x.aP)/\w'.b ⟨wr.a.j,18,none⟩=some (.b .a x.nH)/\(rJ (.c (some ⟨wr.a.j,0,none⟩))).I ah w'=.ok (.d x.h.ay) w' from⟨(h.X.K.1 17).trans (Vp.BR _),(h.X.K.1 18).trans (Vp.JZ _),akn h.X⟩);have CV:=ab (fun(w':ak) (h:Bx [(wr.a.j,x.ay)] wr w')=>QX (WY (some ⟨b,o,none⟩) i c) (l.d i) x.h x.aP x.nH w' ((HPC.i.go h.R).azn Vp.G (by show i<=n;omega)) (by show i<=100000;omega));obtain⟨r,hr⟩:=dw (Yk (l.d i) x.h x.aP x.nH);rw[<-hr]at CV HXX;clear hr;refine xB (Bx.abt ([(wr.a.j,x.ay)]) wr) 14 15 13 5 50 98 nM.ay (by kernel_rfl) rfl rfl rfl rfl rfl (by kernel_rfl) (by kernel_rfl) (by kernel_rfl) (by kernel_rfl) (by kernel_rfl) rfl rfl rfl (fun a w=>by simp[go_sem]) (tO rfl) Z3.i.drew ?_;apply rP;refine⟨fun T f hT es ew=>?_,?_⟩
     ·have EW:=ab ew
      have ES:=ab es;have k1:=fun m=>(F4.i _ (ES.i m)).1
      have k2:=fun m=>(F4.i _ (ES.i m)).2.1
      have k3:=fun m=>(F4.i _ (ES.i m)).2.2
      have CF:=ab (fun m=>CV.i _ (ES.i m));clear es ew;simp only[mK,yu,kW,bG,bP,jM,jX]
      repeat(go_big_quiet_step ((first|(go_at_call 135;(with_reducible refine(CF.i _).g ?_);rintro e w2 ⟨rfl,hb⟩;exact⟨rfl,EW.i _ _ hb⟩))))
      exact gK rfl
     ·intro w9 w8 zO _ hb
      have ZN:=ab ((zO.new nM.ay 98).go hb);have hyy:=ab zO;have hy:=zO.R.j;have hyv:=ab (fun p (hp:p∈[(wr.a.j,x.ay)])=>((zO.2 p hp).2.lt:p.1<w9.a.j));generalize w9.a.j=y at *;clear hb zO;have yK:=ZN.i.X.O 0 20 (aW (Vp.G nM).symm);refine⟨gI w8 y 0 r.1.ay,?_,?_⟩
      ·simp[go_sem,yK]
      simp only[Act.put,bH,bG,bP,jN,kX];have Z5:=ab (ZN.i.put (fun p hp=>jJ (hyv.i p hp)) r.1.ay (by rw[Vp.G,Vp.G]));clear yK ZN hyy hyv;generalize gI w8 y 0 r.1.ay=w9 at Z5 ⊢;go_step;go_step;go_step;cases hq:r.2
      ·rw[hq]at HXX
       have HYY:=ab (show DV l i=true by rw[HXX.i];rfl);go_wp2;go_roundw
       case rel=>exact⟨i+1,by omega,by go_num,fun k hk=>by
   by_cases hki:k=i
   ·rw[hki];exact HYY.i
   ·exact Ea.i k (by omega),gV HB.i Z5.i.R⟩
       case measure=>simp[intOf]<;>omega
      ·rw[hq]at HXX
       have Ke:=ab (show yT l=false by
   cases h:yT l;rfl;have:=(HS.i.1 h).2 i hlt;rw[HXX.i]at this;simp at this)
       go_wp2;go_ret;exact⟨by rw[Ke.i];rfl,gV HB.i Z5.i.R⟩
  ·obtain rfl:i=n:=by omega
   have hd:decide ((i:Int)<i)=false:=by simp
   have HF:=ab (HS.i.2 ⟨by omega,Ea.i⟩);go_wp2;go_ret;exact⟨by rw[HF.i];rfl,HB.i⟩
end
def Cg(v:Vector Int 6)(k:Nat):Bool:=Jp (v.a.b k 0) 0 1000000 && !(k==0&&v.a.b k 0 != 0)
theorem WZ(v:Vector Int 6):BU v=true↔∀k,k<6->Cg v k=true:=by
 unfold BU Cg Jp;simp only[bf,List.all_eq_true,dU,beq_iff_eq,decide_eq_true_eq,Bool.not_eq_true',Bool.and_eq_false_imp,bne_eq_false_iff_eq];constructor
 ·intro h k hk
  exact⟨h.2 k hk,fun e=>by rw[e];exact h.1⟩
 ·intro h
  exact⟨(h 0 (by omega)).2 rfl,fun k hk=>(h k hk).1⟩
def W9(v:aB):Sem aB:=bZ 24 v
@[go_sem ↓]theorem awI(v:aB):bZ 24 v=W9 v:=rfl
@[go_sem]theorem aqW(W:ak)(b o:Nat)(h:xJ W b o 6):(W9 (.c (some ⟨b,o,none⟩))).I ah W=.ok (.d (eu W b o 6)) W:=
 kg W b o 6 _ _ Tryz.underlying24 rfl (by kernel_rfl) h
def au'(v i:aB):Sem aB:=Instr.index 24 v i
@[go_sem ↓]theorem aBf(v i:aB):Instr.index 24 v i=au' v i:=rfl
theorem Xa(v:Vector Int 6)(i:Nat)(hi:i<6)(W:ak):(au' (.d (Kr v)) (.b .a (i:Nat))).I ah W=.ok (.b .a (v.a.b i 0)) W:=by
 have hp:=o9 (P:=ah) (e:=3) (by simp only[gQ]) (aaE v i hi) W;obtain⟨i0,hi0,hs⟩:∃i0,ah.l 3=some i0/\i0.j=1:=by
  cases h:ah.l 3 with
  | none=>exact absurd h (by have:(ah.l 3).isSome=true:=by kernel_rfl
                             intro e;rw[e]at this;cases this)
  | some i0=>
    have h1:(ah.l 3).map (·.j)=some 1:=by kernel_rfl
    rw[h]at h1;exact⟨i0,rfl,by simpa using h1⟩
 have h1:(0:Int)<=(i:Int)/\(i:Int)<((6:Nat):Int):=by omega
 have hsz:=run_sizeOf (P:=ah) W hi0;have hc1:ah.a 3=1:=by simp[Ak,hi0,hs]
 rw[hc1]at hsz;simp only[au',Instr.index,asIntOf,jI,og,gJ,dL Tryz.underlying24,h1,and_self,if_true,hsz,dQ,gB,hp]
theorem anE{n:Int}{i:Nat}(h:n<0\/1000000<n\/(i=0/\n≠0)):(Jp n 0 1000000 && !(i==0&&n != 0))=false:=by
 rcases h with h|h|⟨rfl,h⟩
 ·have:Jp n 0 1000000=false:=by unfold Jp;rw[decide_eq_false (by omega)];rfl
  rw[this];rfl
 ·have:Jp n 0 1000000=false:=by unfold Jp;rw[decide_eq_false (p:=n<=1000000) (by omega)];simp
  rw[this];rfl
 ·simp[h]
theorem aia(x:Cn)(l:List Vp):yh x l=(BU x.kD&&yT l&&(Jp x.j 2 65537&&kZ x.j.e)&&Jp x.Y 1 4096&&Jp x.ko 1 100&&Jp x.fall 1 100&&(!x.Cv.h&&qE x.Cv)&&x.h.h&&Jp x.af5 1000 1048576&&Jp x.keep 1 100&&Jp x.VO 1 1000):=by
 unfold yh Jp;rfl
@[go_sem]theorem Cn.aHi(x:Cn):x.ay[17]? = some (.e x.Cv.h):=by simp[Cn.ay,aD,fu.G,gD,jH];rfl
@[go_sem]theorem Cn.aHj(x:Cn):x.ay[34]? = some (.e x.h.h):=by simp[Cn.ay,aD,fu.G,gD,jH];rfl
theorem Yl(x:Cn)(l:List Vp)(w:ak)(hR:RdV w w.a.j x.qG x.iI l)(hnc:x.iI<=x.qH)(hn:x.iI<=100000):
 aQ ah 44 #[.d x.ay] w (gM w (.e (yh x l))):=by
 have Z:=ab ((Bx.start w).new x.ay 29);have HR:=ab (Z.i.rdR hR);have HO:=ab (aia x l);have HI:=ab (WZ x.kD);have RI:=ab (Xa x.kD);clear hR;go_enter Tryz.func44,Tryz.ntmps44;go_upto_region 1 with fail
 generalize w.alloc (.D x.ay 29)=w2 at *;obtain⟨y1,y2,y3,y4⟩:=Z.i.X.K;go_wp2;go_loop [7] (fun s7=>∃i:Nat,i<=6/\s7=.b .a i/\(∀k,k<i->Cg x.kD k=true)) (fun s7=>6-(intOf s7).e)
 case atStart=>exact⟨0,by omega,rfl,fun k hk=>by omega⟩
 case round=>
  obtain⟨i,hi,rfl,hok⟩:=hrel;have Ea:=ab hok;clear hok;by_cases hlt:i<6
  ·have hi2:(i:Int)<6:=by omega
   have ri:=RI.i i hlt;obtain⟨n,hnn⟩:=dw (x.kD.a.b i 0);have HA:=ab (show Cg x.kD i=(Jp n 0 1000000 && !(i==0&&n != 0))by unfold Cg;rw[<-hnn]);rw[<-hnn]at ri;clear hnn;have NOI:=ab (show Cg x.kD i=false->yh x l=false from fun h=>by
    have h2:BU x.kD=false:=by
     cases hh:BU x.kD;rfl;have:=HI.i.1 hh i hlt;rw[h]at this;cases this
    rw[HO.i,h2];rfl)
   clear y1 y2 y3 y4 HI RI HO HR;go_wp2
   all_goals
    first
    | (go_ret
       refine⟨?_,Z.i.R⟩;rw[NOI.i (HA.i.trans (anE ?_))]
       ·rfl
       ·by_cases g1:n<0
        ·exact .a g1
        ·by_cases g2:1000000<n
         ·exact .b (.a g2)
         ·refine .b (.b ⟨by omega,?_⟩)
          intro e;simp_all)
    | (go_round
       case rel=>exact⟨i+1,by omega,by go_num,fun k hk=>by
        by_cases hki:k=i
        ·rw[hki,HA.i];simp[Jp];simp_all
        ·exact Ea.i k (by omega)⟩
       case measure=>simp[intOf]<;>omega)
  ·obtain rfl:i=6:=by omega
   have HID:=ab (show BU x.kD=true from HI.i.2 Ea.i);rw[HID.i,Am]at HO;have VP:=ab (anD l x.qG x.iI x.qH w2 HR.i hnc hn);have ZG:=ab (fun w' (hb:aL w2.a.j w2 w')=>Z.i.go hb);have CW:=ab yA;have CS:=ab (fun W=>K8 x.Cv W);obtain⟨vl,hvl⟩:∃b,yT l=b:=⟨_,rfl⟩
   obtain⟨sf,hsf⟩:∃b,qE x.Cv=b:=⟨_,rfl⟩
   rw[hvl]at VP HO;rw[hsf]at CS HO;clear hvl hsf hi hlt HI RI Ea HID HR;cases hsz:Jp x.j 2 65537
   ·rw[hsz,Dx,Bool.and_false]at HO
    simp only[Dx]at HO;go_wp2_with (first|(go_at_call 108;(with_reducible refine VP.i.g ?_);rintro e w3 ⟨rfl,hb⟩;have Z3:=ab (ZG.i _ hb);clear y1 y2 y3 y4;obtain⟨y1,y2,y3,y4⟩:=Z3.i.X.K;clear hb)|(go_at_call 109;(with_reducible refine(CW.i _ _ _ _).g ?_);rintro e w4 ⟨rfl,rfl⟩))
    all_goals
     go_ret;exact⟨by rw[HO.i];rfl,Z3.i.R⟩
   ·have PR:=ab (show∀W,aQ ah 81 #[.b .a x.j] W fun e W'=>e=.a (.e (kZ x.j.e))/\W=W' from fun W=>by
     have h1:2<=x.j/\x.j<=65537:=by unfold Jp at hsz;simpa using hsz
     have:=YF (W:=W) x.j.e (by omega)
     rwa [kH (by omega)]at this)
    obtain⟨pn,hpn⟩:∃b,kZ x.j.e=b:=⟨_,rfl⟩
    rw[hsz,Am]at HO;simp only[hpn]at HO PR;clear hpn;go_wp2_with (first|(go_at_call 108;(with_reducible refine VP.i.g ?_);rintro e w3 ⟨rfl,hb⟩;have Z3:=ab (ZG.i _ hb);clear y1 y2 y3 y4;obtain⟨y1,y2,y3,y4⟩:=Z3.i.X.K;clear hb)|(go_at_call 109;(with_reducible refine(CW.i _ _ _ _).g ?_);rintro e w4 ⟨rfl,rfl⟩)|(go_at_call 81;(with_reducible refine(PR.i _).g ?_);rintro e w5 ⟨rfl,rfl⟩)|(go_at_call 110;(with_reducible refine(CS.i _).g ?_);rintro e w6 ⟨rfl,hb⟩;have Z4:=ab (Z3.i.go hb);clear y1 y2 y3 y4;obtain⟨y1,y2,y3,y4⟩:=Z4.i.X.K;clear hb))
    all_goals
     go_ret;refine⟨?_,by first|exact Z4.i.R|exact Z3.i.R⟩;rw[HO.i];clear HO VP PR CW CS ZG y1 y2 y3 y4;simp_all
section
open Go.RowKit Go.Shelf
attribute [local go_sem] Oper.semAt_some
variable {W W':ak} {q g:Nat} {key:Vector UInt8 16} {room:Int} {s:List (Option Fw)} {l:List Fw}
def DY(now:Int)(kD:Vector Int 6)(l:List Fw):List Fw:=l.filter fun x=>DU x.vT x.seen now kD
def Gu(l:List Fw)(o:List Fw):List Fw:=o.foldl (fun l x=>yJ l x.key) l
theorem aae:∀(o l:List Fw),Gu l o=l.filter fun x=>!(o.any fun y=>qF y.key x)
 | [],l=>by show l=_;exact(wW.2 (fun _ _=>rfl)).symm
 | y::o,l=>by
   have h:Gu l (y::o)=Gu (yJ l y.key) o:=rfl;rw[h,aae o,yJ,List.filter_filter];apply Fp;intro x _;simp[List.any_cons,Bool.and_comm]
theorem abS{now:Int}{kD:Vector Int 6}{l o:List Fw}(hl:vI room l)(ho:o.Perm (DY now kD l)):Gu l o=LH now kD l:=by
 rw[aae];unfold LH;apply Fp;intro x hx;congr 1;have hm:∀y,y∈o↔y∈l/\DU y.vT y.seen now kD=true:=fun y=>by rw[ho.mem_iff];unfold DY;exact mh
 cases hc:DU x.vT x.seen now kD with
 | true=>rw[qR];exact⟨x,(hm x).2 ⟨hx,hc⟩,by simp[qF]⟩
 | false=>
   rw[qd];intro y hy hk;obtain⟨h1,h2⟩:=(hm y).1 hy;have hk:x.key=y.key:=by simpa[qF]using hk
   have e1:=hl.VI h1;have e2:=hl.VI hx;rw[hk]at e2;rw[e1]at e2;injection e2 with e2
   rw[e2,hc]at h2;cases h2
theorem AU{F:List Nat}{base n size:Nat}{e:bM}{v:aB}{xs:List aB}(h:W.c base e size v n xs)(hf:jD F W W')(hn:∀k,v.f=some k->k∉F):W'.c base e size v n xs:=by
 refine⟨h.1,?_⟩;rcases h.2 with h0|⟨g,cap,cur,hv,hb,hg,hr⟩
 ·exact .a h0
 ·exact .b ⟨g,cap,cur,hv,hb,by rw[hf.block g (bV.1 hg).1 (hn g (by rw[hv];rfl))];exact hg,hr⟩
theorem anF{W:ak}{b:Nat}{v:Vector Int 6}(h:dJ W b (Kr v)):(W9 (.c (some ⟨b,0,none⟩))).I ah W=.ok (.d (Kr v)) W:=by
 have hs:dZ (Kr v)=6:=jH v;rw[aqW W b 0 (of_eq_true (h.K.2.2.1 0 6 (by omega))),h.K.2.2.2 0 6 (by omega)];have:(Kr v).m 0 6=Kr v:=by have:=jH v;rw[<-this];simp
 rw[bl,this]
def stV(now:Int)(kD:Vector Int 6)(pre:List OkF):List Fw:=DY now kD (pre.map (·.1))
theorem ael(T:Ky W q g key room s l)(now:Int)(kD:Vector Int 6):
 aQ ah 75 #[.c (some ⟨q,0,none⟩),.b .a now,.d (Kr kD)] W fun e w'=>(∃A c,e=.a (.a A (DY now kD l).a c))/\(∃s',Ky w' q g key room s' (LH now kD l)/\s'.a=s.a)/\jD [q,g] W w':=by
 refine(mU (n:=8)).1 ?_;have hs:=T.w.sz;have hlt:=T.w.lt;obtain⟨i0,hi,hz0,hz1,hzb⟩:=afS;have HT:=ab T;clear T;refine qY Tryz.func75 rfl trivial ?_ rfl;have hfn:∀f,Fence.wide.fn f:=fun _=>trivial
 simp only[Tryz.ntmps75,dK,bD,gH,kP,kQ,fV,fZ,iL,gP,dG,iq];gi_wp2_with (gi_at_call 132;refine(mU.2 (Qg q _)).g ?_;rintro e w' ⟨rfl,rfl⟩);have hw1:(W.alloc (.D #[.b .a now] 3)).a.j=W.a.j+1:=by simp
 have hw2:((W.alloc (.D #[.b .a now] 3)).alloc (.D (Kr kD) 24)).a.j=W.a.j+1+1:=by simp
 have hw3:(((W.alloc (.D #[.b .a now] 3)).alloc (.D (Kr kD) 24)).alloc (.D #[.a none 0 0] 34)).a.j=W.a.j+1+1+1:=by simp
 have Z4:=ab (((((Bx.start W).new #[.b .a now] 3).new (Kr kD) 24).new #[.a none 0 0] 34).new #[.c (some ⟨q,0,none⟩)] 121);have bO:=(Boxed.new ((W.alloc (.D #[.b .a now] 3)).alloc (.D (Kr kD) 24)) 34 (.a none 0 0)).alloc (.D #[.c (some ⟨q,0,none⟩)] 121);rw[hw3,hw2,hw1]at Z4;rw[hw2]at bO;have hs4:((((W.alloc (.D #[.b .a now] 3)).alloc (.D (Kr kD) 24)).alloc (.D #[.a none 0 0] 34)).alloc (.D #[.c (some ⟨q,0,none⟩)] 121)).a.j=W.a.j+1+1+1+1:=by simp
 generalize(((W.alloc (.D #[.b .a now] 3)).alloc (.D (Kr kD) 24)).alloc (.D #[.a none 0 0] 34)).alloc (.D #[.c (some ⟨q,0,none⟩)] 121)=W4 at Z4 hs4 bO ⊢;clear hw1 hw2 hw3;refine yE rfl (by omega) (gf:=202) (lb:=#[.c (some ⟨W.a.j+1+1+1,0,none⟩)]) rfl trivial (fun args w=>rfl)
  (K7 Fence.wide 7 trivial rfl (by omega) (W.a.j+1+1+1) W.a.j W4 (by omega) (by omega) (Z4.i.X.K.1 0) (HT.i.go Z4.i.R) hlt) (fun h k=>Below.trans h k) (vQ (by omega)) (aH _ _) (fun _=>rfl)
  (fun(pre:List OkF) X=>((∃v,Boxed X (W.a.j+1+1) 34 v/\X.c (W.a.j+1+1) 86 41 v (stV now kD pre).a ((stV now kD pre).h fun x=>x.ay.a)/\True)/\dJ X W.a.j #[.b .a now]/\dJ X (W.a.j+1) (Kr kD))/\aL W.a.j W X)
  (fun _ _ _=>False)
  (OwnFrom.and (OwnFrom.and (Own.from (holdsRow_own (W.a.j+1+1) (W.a.j+1+1) 34 86 41 (fun pre:List OkF=>(stV now kD pre).a) (fun pre:List OkF=>(stV now kD pre).h fun x=>x.ay.a) (fun _ _=>True)) _) (fun s X Y row hs hg hr=>⟨zy _ _ () X Y row hs.1 hg (fun r e=>(hr r e).2),zy _ _ () X Y row hs.2 hg (fun r e=>(hr r e).2)⟩)) (yQ (av _) (by omega)))
  (fun _ _ _ _ _ hs _ _=>hs)
  ⟨⟨⟨_,bO,eY _ _ _ _,trivial⟩,Z4.i.b3,Z4.i.b2⟩,Z4.i.R⟩
  (fun x a' X=>∃Bq,W.a.j+1+1<Bq/\dJ X Bq x.1.ay/\a'={tmps:=#[.c (some ⟨q,0,none⟩),.b .a now,.d (Kr kD),undef,.c (some ⟨W.a.j,0,none⟩),.c (some ⟨W.a.j+1,0,none⟩),.a none 0 0,.c (some ⟨W.a.j+1+1,0,none⟩),.c (some ⟨Bq,0,none⟩),undef,undef,.c (some ⟨q,0,none⟩),.func (.func 202) #[] #[.c (some ⟨W.a.j+1+1+1,0,none⟩)],.d x.1.ay,undef,undef,undef,undef,undef,undef,undef,undef,undef,undef,undef,undef,undef,undef,undef,undef,undef,undef,undef,undef,undef,undef,undef,undef,undef],defers:=[]})
  (fun x a' _ X Y row hs hg hr=>by obtain⟨Bq,h1,h2,h3⟩:=hs;exact⟨Bq,h1,zy Bq x.1.ay () X Y row h2 hg (fun r e=>(hr r e).2),h3⟩)
  ?assign ?body ?done ?stop
 case assign=>
  rintro q' pre x X K ⟨⟨⟨v,hv,hrow,_⟩,h1,h2⟩,hB⟩ hK;gi_wp2;refine hK _ _ ((KeepsOthers.alloc _ _).from _) ((aH _ X).alloc hB.j _) ⟨⟨⟨v,hv.alloc _,hrow.alloc _,trivial⟩,h1.alloc _,h2.alloc _⟩,hB.alloc hB.j _⟩ ⟨X.a.j,hv.lt,dJ.new X _ _,rfl⟩
 case body=>
  rintro q' pre x a' X hq ⟨r,hr⟩ ⟨⟨⟨v,hv,hrow,_⟩,h1,h2⟩,hB⟩ ⟨Bq,hBq,bX,rfl⟩ hlt';have HSL:=ab (show(stV now kD pre).a<=100000 by
   have e1:(stV now kD pre).a<=pre.a:=by unfold stV DY;exact aO (oK _ _) (by simp)
   omega)
  have DR:=ab (show stV now kD (pre++[x])=if DU x.1.vT x.1.seen now kD then stV now kD pre++[x.1]else stV now kD pre by
   unfold stV DY;rw[je,List.filter_append];simp only[kL,pJ,List.filter_cons,List.filter_nil];split<;>simp)
  obtain⟨st,hst⟩:=dw (DU x.1.vT x.1.seen now kD);have CS:=ab (aiV (s:=x.1.vT) (seen:=x.1.seen) (now:=now) (v:=kD) (W:=X));rw[<-hst]at CS DR;have f38:=(bX.K.1 38).trans (Fw.afR x.1);have f39:=(bX.K.1 39).trans (Fw.aa3 x.1);have f0:=h1.K.1 0;have l6:=anF h2;have HB:=ab hB;have H1:=ab h1;have H2:=ab h2;have HX:=ab bX;have HV:=ab hv;have HR:=ab hrow;clear hst hB h1 h2 bX hv hrow;cases st
  ·gi_wp2_with (gi_at_call 150;refine(Ho q' (mU.2 CS.i)).g ?_;rintro e w1 ⟨rfl,hb⟩;have Hq:=ab hb;clear hb)
   refine⟨EU (jD.jl (F:=[]) Hq.i) (by intro k hk;cases hk),(Hq.i.g HB.i.j),⟨⟨v,Boxed.amj HV.i Hq.i HV.i.lt,?_,trivial⟩,H1.i.go Hq.i,H2.i.go Hq.i⟩,HB.i.trans (Hq.i.g HB.i.j)⟩;rw[show stV now kD (pre++[x])=stV now kD pre from DR.i];exact jo HR.i Hq.i
  ·have hby:((stV now kD pre).a+1)*i0.bytes<=140737488355328:=aO (gG (show(stV now kD pre).a+1<=100002 by have:=HSL.i;omega) hzb) (by omega)
   have HN1:=ab (show x.1.ay.a.a=1*41 by simp[Fw.G]);have HNC:=ab (fun(W:ak) (j:Nat) (u:aB) (hu:x.1.ay.a[j]? = some u)=>show(W.alloc (.D x.1.ay 86)).b ((⟨W.a.j,0,none⟩:aS).add j)=some u by
    rw[Addr.add_mid,bl,mQ,<-Array.getElem?_toList];exact hu)
   have Ea:=ab (show∀u∈x.1.ay.a,u.h=true from fun u hu=>by have:=Fw.cK x.1;rw[Array.all_eq_true']at this;exact this u (by simpa using hu));gi_wp2_with (first
    | (gi_at_call 150;refine(Ho q' (mU.2 CS.i)).g ?_;rintro e w1 ⟨rfl,hb⟩;have Hq:=ab hb;have HV1:=ab (Boxed.amj HV.i hb HV.i.lt);have HR1:=ab (jo HR.i hb);have l1:=kK (HX.i.go hb);have c1:=HV1.i.cell;clear hb l6 f0 f38 f39)
    | (gi_at_builtin;go_loud (refine wpListIn_append_own _ rfl _ _ 34 rfl (W.a.j+1+1) 86 i0 (.d jq.ay) 41 i0.bytes Tryz.underlying34 hi hz0 hz1 rfl (by simp[cO,Fw.G]) (by decide) _ _ _ rfl (HR1.i.alloc _) ⟨w1.a.j,0,none⟩ 1 1 x.1.ay.a rfl HN1.i (HNC.i w1) Ea.i (by have:=HSL.i;unfold maxLen;omega) hby (by have:=HV1.i.lt;simp;omega) ?_;intro v' w2 hown' hgrow _;obtain⟨g',cap',rfl⟩:=ownsRow_succ hown';obtain⟨hv1,hv2,hr2,hk2,hb2⟩:=HV1.i.appended (by decide) HR1.i (by have:=HV1.i.lt;omega) (av _) hown' hgrow;have hc1:=hv1.cell;have hf1:=hv1.frozen)))
   refine⟨(EU (jD.jl (F:=[]) Hq.i) (by intro k hk;cases hk)).trans (hk2.from _),(Hq.i.g HB.i.j).trans (hb2.g (by omega)),⟨⟨_,hv2,?_,trivial⟩,(H1.i.go Hq.i).S hb2 (by omega),(H2.i.go Hq.i).S hb2 (by omega)⟩,(HB.i.trans (Hq.i.g HB.i.j)).trans (hb2.g (by omega))⟩;rw[show stV now kD (pre++[x])=stV now kD pre++[x.1]from DR.i,aR,wX];simpa using hr2
 case done=>
  rintro D ys X hD hS ⟨⟨⟨v,hv,hrow,_⟩,h1,h2⟩,hB⟩ hK;rename_i K0 KA TT;refine KA _ _ (wpIn_wide.2 ?_);have hO:(stV now kD ys).Perm (DY now kD l):=by
   unfold stV;rw[hS];exact HT.i.r.Pb.filter _
  obtain⟨o,ho⟩:=dw (stV now kD ys);rw[<-ho]at hO hrow;obtain⟨A,c,rfl,_⟩:=jG hrow;have hB2:=hB;have T0:=ab (HT.i.go hB);have cV:=hv.cell;have HO:=ab hO;have HB:=ab hB;have HD:=ab hD;have HK:=ab hK;have HV:=ab hv;have MO:=ab hrow;have HLO:=ab (show o.a<=100000 by
   have e1:=hO.t;have e2:(DY now kD l).a<=l.a:=oK _ _;have e3:=HT.i.r.Pb.t;have e4:=ET s;omega)
  obtain⟨m,hm⟩:=dw o.a;rw[<-hm]at MO HV cV HLO;have HM:=ab hm;clear hO ho hD hK hv hrow hB hB2 h1 h2 hS hm KA K0 TT;have HOF:=ab (fun w2 (hf:jD [q,g] X w2)=>AU MO.i hf (fun b e=>by have:=(MO.i.lt b e).1;simp;omega));have HVF:=ab (fun w2 (hf:jD [q,g] X w2)=>show Boxed w2 (W.a.j+1+1) 34 (.a A m c)from(hf.block _ HV.i.lt (by simp;omega)).trans HV.i);go_wp2_with fail;go_loopw [27] (fun v wr=>∃k:Nat,k<=m/\v=.b .a k/\(∃s',Ky wr q g key room s' (Gu l (o.d k))/\s'.a=s.a)/\jD [q,g] X wr) (fun v _=>m-(intOf v).e)
  case atStart=>exact⟨0,iX _,rfl,⟨s,T0.i,rfl⟩,jD.refl _ _⟩
  case round=>
   obtain⟨k,hk,rfl,⟨s',hT,hsl⟩,hfr⟩:=hrel;by_cases hlt3:k<m
   ·have hki:(k:Int)<m:=by omega
    have i1:=jS ((k:Int)+1) (by have:=HLO.i;omega);have hR:=gX.gU (f:=Fw.ay) HM.i.symm (HOF.i wr hfr);obtain⟨b,o0,rfl,hbl,a1,a2⟩:=hR.at_ Fw.G jq hlt3;obtain⟨y,hy⟩:=dw (o.b k jq);rw[<-hy]at a2;have hcut:Gu l (o.d (k+1))=yJ (Gu l (o.d k)) y.key:=by
     rw[dP (by rw[<-HM.i];exact hlt3)];unfold Gu;rw[yY,hy,au,aC (by rw[<-HM.i];exact hlt3)];rfl
    have aEh:=ab hcut;have BY:=dJ.new wr y.ay 86;have lk:=oP BY;have hba:=(aH wr.a.j wr).alloc (av _) (.D y.ay 86);have CD:=ab (WX (hT.go hba) y.key);have HFR:=ab (hfr.S hba hfr.j);have HSL:=ab hsl;clear hy hcut BY hba hT hfr hsl hR hbl;go_wp2_with (go_at_call 128;(with_reducible refine CD.i.g ?_);rintro e w2 ⟨rfl,⟨s2,T2,hs2⟩,F2⟩;have T3:=ab T2;have S3:=ab hs2;have F3:=ab F2;clear T2 hs2 F2 lk a1 a2);go_roundw
    case rel=>exact⟨k+1,by omega,by simp,⟨s2,by rw[aEh.i];exact T3.i,by rw[S3.i,HSL.i]⟩,HFR.i.pQ F3.i⟩
    case measure=>simp[intOf];omega
   ·obtain rfl:k=m:=by omega
    have hd:decide ((k:Int)<k)=false:=by simp
    have hfull:Gu l (o.d k)=LH now kD l:=by
     rw[aK (by rw[<-HM.i];exact av _)];exact abS HT.i.ok HO.i
    rw[hfull]at hT;have cV2:=(HVF.i wr hfr).cell;have HBX:=ab (HVF.i wr hfr);have HOW:=ab (HOF.i wr hfr);have SF:=ab (K6 (DY now kD l) o room (HT.i.ok.sub List.filter_sublist) HO.i (by have:=HLO.i;have:=HM.i;omega) wr (W.a.j+1+1) A c (by rw[<-HM.i];exact HOW.i));rw[<-HM.i]at SF;have HTT:=ab hT;have HSS:=ab hsl;have HFR:=ab hfr;have HLS:=ab (show k=(DY now kD l).a by rw[HM.i];exact HO.i.t);clear hT hsl hfr hfull cV;go_wp2_with (go_at_call 151;(with_reducible refine SF.i.g ?_);rintro e w2 ⟨rfl,ho2,hg2⟩;have HG2:=ab hg2;have cV3:=(HBX.i.kept hg2 (HBX.i.not_row (by decide) HOW.i)).cell;clear ho2 hg2 cV2);have HDB:some D≠(bC A k c).f:=fun e=>by
     rcases MO.i.2 with⟨h0,_⟩|⟨g',cap,cur,hv,_,hg,_⟩
     ·rw[h0]at e;cases e
     ·rw[hv]at e
      have e2:D=g':=by simpa[jV]using e
      rw[<-e2,HK.i]at hg;cases hg
    have hDX:D<X.a.j:=(bV.1 HK.i).1;have hXW:=HB.i.j;have hfs:=HFR.i.j;have hDq:D≠q/\D≠g:=by have:=HD.i;omega
    have HDK:=ab (show w2.a[D]? = some (.deferred (some []))from(HG2.i.block D (by omega) HDB).trans ((HFR.i.block D hDX (by simp;omega)).trans HK.i));have hbx:∀b c',dJ wr b c'->b<W.a.j->dJ w2 b c':=fun b c' h hb=>by
     obtain⟨t,ht⟩:=h;exact⟨t,(HG2.i.block b (by omega) (fun e=>by have:=(MO.i.lt b e.symm).1;omega)).trans ht⟩
    have hPB:=vQ (w:=W) (av _) w2 D;refine⟨by simp,.a ⟨_,_,rfl,uH HDK.i,?_⟩⟩;refine⟨_,results_tmp rfl _ _ _,⟨A,c,by rw[<-HLS.i];rfl⟩,⟨s',⟨⟨WU (hbx _ _ HTT.i.w.tb hlt.1) HDK.i _,WU (hbx _ _ HTT.i.w.sl hlt.2) HDK.i _,HTT.i.w.ne,HTT.i.w.sz⟩,HTT.i.r,HTT.i.ok⟩,HSS.i⟩,?_⟩;have F1:jD [q,g] W wr:=(jD.jl HB.i).pQ HFR.i;have F2:jD [q,g] W w2:=F1.grown HG2.i (fun b e=>.b (by have:=(MO.i.lt b e).1;omega));exact F2.S (hPB _ _ (by have:=HD.i;omega) HDK.i rfl rfl) (av _)
 case stop=>
  rintro D c pre X _ _ h _;exact h.elim
end
theorem abT{g n:Nat}{q:List Nat}{ch ch':Nat->Nat->Nat}{m:Mg}{i:Nat}(h:ch i=ch' i):sJ g n q ch m i=sJ g n q ch' m i:=by
 unfold sJ;rw[h]
theorem aem{n:Nat}{q:List Nat}{ch ch':Nat->Nat->Nat}(hq:q≠[])(h:∀i,i<q.a->ch i=ch' i):EA n q ch=EA n q ch':=by
 have:∀j,wu (lK q) n q ch j=wu (lK q) n q ch' j:=by
  intro j
  induction j with
  | zero=>rfl
  | succ j ih=>
    unfold wu;rw[ih,abT (h _ (fE _ (List.length_pos_iff.2 hq)))]
 unfold EA;rw[this]
def ako(key:Vector UInt8 16)(n:Nat)(x:oN):Tr:=⟨x.q,0,(Di key x.E n:Nat),(Au key x.E n:Nat),0⟩
theorem pO{α β:Type}(f:α->β)(l:List α)(i:Nat)(d:β)(e:α)(hi:i<l.a):(l.map f).b i d=f (l.b i e):=by
 rw[au,au,List.getElem?_map,aC hi];rfl
theorem akp(key:Vector UInt8 16)(n:Nat)(r:List oN)(hr:r≠[])(h0:∀x∈r,0<x.q):
 FiL (lK (r.map fun x=>x.q.e)) n (r.map fun x=>x.q.e) (r.map fun x=>Di key x.E n) (r.map fun x=>Au key x.E n) ⟨(r.map fun x=>x.q.e).map fun _=>0,dV n (-1),n⟩ (r.map (ako key n)):=by
 refine⟨by simp,by simp,fun i hi=>?_⟩;rw[bQ]at hi;have hm:r.b i lg∈r:=by rw[au,aC hi];exact dR _
 have hx:=h0 _ hm;rw[pO (ako key n) r i zo lg hi,pO _ r i 0 lg hi,pO _ r i 0 lg hi,pO _ r i 0 lg hi];have hz:((r.map fun x=>x.q.e).map fun _=>0).b i 0=0:=by
  rw[pO _ _ i 0 0 (by simpa using hi)]
 refine⟨?_,rfl,rfl,?_,?_,0,rfl,iX _,fun t ht=>absurd ht (Nat.not_lt_zero _)⟩
 ·show(r.b i lg).q=_
  omega
 ·show(0:Int)=_
  rw[hz];rfl
 ·show((r.map fun x=>x.q.e).map fun _=>0).b i 0<_
  rw[hz];obtain⟨j,hj,e⟩:=Dj (q:=r.map fun x=>x.q.e) (by simpa using hr) (by
   intro y hy;obtain⟨x,hx2,rfl⟩:=iQ.1 hy;have:=h0 x hx2;omega)
  rw[<-e];rw[bQ]at hj;rw[pO _ r j 0 lg hj];have hm2:r.b j lg∈r:=by rw[au,aC hj];exact dR _
  have:=h0 _ hm2;omega
def yB(l:List oN):List oN:=l.filter fun x=>decide (x.q≠0)
theorem agO{l:List oN}{k:Nat}{x:oN}(hx:x=l.b k lg)(hk:k<l.a):yB (l.d (k+1))=yB (l.d k)++(if x.q=0 then []else [x]):=by
 have e:l.d (k+1)=l.d k++[x]:=by rw[hx];exact(oD lg l k hk).symm
 rw[e];unfold yB;rw[List.filter_append];congr 1;by_cases h:x.q=0
 ·rw[if_pos h,List.filter_cons_of_neg (by simp[h])];rfl
 ·rw[if_neg h,List.filter_cons_of_pos (by simp[h])];rfl
theorem aen(key:Vector UInt8 16)(n:Nat)(l:List oN)(h:yB l≠[]):uz key n l=⟨(yB l).map (·.E),EA n ((yB l).map fun x=>x.q.e) (Hy ((yB l).map fun x=>Di key x.E n) ((yB l).map fun x=>Au key x.E n) n)⟩:=by
 unfold uz;simp only;rw[if_neg (show¬(l.filter fun x=>decide (x.q≠0))=[]from h)];congr 1;refine aem (fun e=>h (List.map_eq_nil_iff.1 e)) fun i hi=>?_
 rw[bQ]at hi;funext t;have hi2:i<(yB l).a:=hi;unfold chF Hy;rw[pO (fun x=>Di key x.E n) _ i 0 lg hi2,pO (fun x=>Au key x.E n) _ i 0 lg hi2];have e:((l.filter fun x=>decide (x.q≠0)).map (·.E)).b i []=((yB l).b i lg).E:=pO _ _ i _ lg hi2;rw[e]
theorem QY(key:Vector UInt8 16)(n:Nat)(l:List oN)(h:yB l=[]):uz key n l=⟨[],[]⟩:=by
 unfold uz;simp only;rw[if_pos (show(l.filter fun x=>decide (x.q≠0))=[]from h)]
def nmC(s:List UInt8):Array aB:=#[.g (bK s)]
theorem Oe(s:List UInt8):(nmC s).j=1:=rfl
theorem anG:∃i:nJ,ah.l 9=some i/\i.zero=some (.g {data:=#[]})/\i.j=1/\i.bytes<=400:=by
 cases h:ah.l 9 with
 | none=>exact absurd h (by have:(ah.l 9).isSome=true:=by kernel_rfl
                            intro e;rw[e]at this;cases this)
 | some i=>
   have h1:(ah.l 9).map (·.j)=some 1:=by kernel_rfl
   have h2:(ah.l 9).map (fun i=>decide (i.bytes<=400))=some true:=by kernel_rfl
   have h3:(ah.l 9).map (·.zero)=some (some (.g {data:=#[]})):=by kernel_rfl
   rw[h]at h1 h2 h3;simp at h1 h2 h3;exact⟨i,rfl,h3,h1,h2⟩
theorem aib:abb 69 9 nmC 1:=by
 obtain⟨i0,hi0,hz0,hz1,hzb⟩:=anG;exact⟨i0,_,kM,hi0,hz0,hz1,rfl,by omega,by omega,Oe,fun s=>by simp[nmC,cB]⟩
theorem anH:∃i:nJ,ah.l 155=some i/\i.zero=some (.d zo.ay)/\i.j=5/\i.bytes<=400:=by
 cases h:ah.l 155 with
 | none=>exact absurd h (by have:(ah.l 155).isSome=true:=by kernel_rfl
                            intro e;rw[e]at this;cases this)
 | some i=>
   have h1:(ah.l 155).map (·.j)=some 5:=by kernel_rfl
   have h2:(ah.l 155).map (fun i=>decide (i.bytes<=400))=some true:=by kernel_rfl
   have h3:(ah.l 155).map (·.zero)=some (some (.d zo.ay)):=by kernel_rfl
   rw[h]at h1 h2 h3;simp at h1 h2 h3;exact⟨i,rfl,h3,h1,h2⟩
theorem aqX:abb 149 155 Tr.ay 5:=by
 obtain⟨i0,hi0,hz0,hz1,hzb⟩:=anH;exact⟨i0,_,Tryz.underlying149,hi0,hz0,hz1,Tr.G zo,by omega,by omega,Tr.G,Tr.cK⟩
def aeo(n:Nat)(ps:Array (Nat×aB)):Sem aB:=bI 69 n ps
@[go_sem ↓]theorem azr(n:Nat)(ps:Array (Nat×aB)):bI 69 n ps=aeo n ps:=rfl
@[go_sem]theorem ava(w:ak)(s:List UInt8):(aeo 1 #[(0,.g (bK s))]).I ah w=.ok (.a (some ⟨w.a.j,0,none⟩) 1 1) (w.alloc (.D (nmC s) 9)):=by
 obtain⟨i0,hi0,hz0,hz1,hzb⟩:=anG;simp[aeo,bI,dL kM,zeroValue,sizeOf,typeInfo,hi0,hz0,hz1,fB,newRow,cO,afV,nmC]
def asC(n:Nat)(ps:Array (Nat×aB)):Sem aB:=bI 149 n ps
@[go_sem ↓]theorem azs(n:Nat)(ps:Array (Nat×aB)):bI 149 n ps=asC n ps:=rfl
@[go_sem]theorem avb(w:ak)(x:Tr):(asC 1 #[(0,.d x.ay)]).I ah w=.ok (.a (some ⟨w.a.j,0,none⟩) 1 1) (w.alloc (.D x.ay 155)):=by
 obtain⟨i0,hi0,hz0,hz1,hzb⟩:=anH;exact rR w _ _ i0 _ 5 Tryz.underlying149 hi0 hz0 hz1 (Tr.G _) (by omega) (by omega) _ (Tr.G x)
@[go_sem]theorem azt(W:ak)(uS offset skip:Int):(uN 155 #[(0,.b .a uS),(2,.b .a offset),(3,.b .a skip)]).I ah W=.ok (.d (Tr.mk uS 0 offset skip 0).ay) W:=
 kTr.bd W _ _ _ _ DK (aD0 W _ DK) (by
  show fB _ (#[aI .a 0,.b .a 0,.b .a 0,.b .a 0,.b .a 0] ++ #[]) [(0,.b .a uS),(2,.b .a offset),(3,.b .a skip)]=_;rw[oH 0 0 _ _ _ _ rfl rfl (by simp),oH 2 2 _ _ _ _ rfl rfl (by simp),oH 3 3 _ _ _ _ rfl rfl (by simp)];simp[fB,Tr.ay])
theorem Xc{α:Type}{f:α->Array aB}{sz:Nat}{e t:bM}{L:List (Nat×Array aB)}{w0 W:ak}{v:aB}{l ys:List α}(T:abb t e f sz){ops:Array iU}{rest:List iU}{o:iU}{a:Act}{Q:Exit->Act->ak->Prop}(hgd:o.guard=none)(s x:Operand)
 (ho:o.op=.call {callee:=.builtin .append,args:=#[s,x],argTypes:=#[t,t]}) (hs:a.eval s=v) (H:Rz f sz e L w0 W v l) {C:Nat} {A:Option aS} {m c:Nat} (hx:a.eval x=.a A m c) (hr:gX f sz W C A m ys)
 (hlen:l.a+m<=1000000)
 (h:∀A' n' c' w',Rz f sz e L w0 w' (.a A' n' c') (l++ys)->W.grownBy w' v.f->((bC A' n' c').f=v.f\/(bC A' n' c').f=some W.a.j)->wpList ah ops Q rest (a.put o.Y (.a A' n' c')) w'):wpList ah ops Q (o::rest) a W:=by
 refine wpList_plain hgd fun K hK=>?_
 obtain⟨i,z,ht,hi,hz,h1,h2,h3,h4,h5,h6⟩:=T;have hm:=hr.1;refine JH W s x t ho w0.a.j e i z sz i.bytes ht hi hz h1 rfl h2 h3 v l.a _ hs H.vS C A m c _ hx hr.2.1 (El f h6 ys) (by unfold maxLen;omega) (aO (gG hlen h4) (by omega)) H.R.j ?_;intro v1 w1 k1 k2 k3;rw[acv,<-hm,<-aR]at k1;have hk:=H.grown k2 k1 k3;obtain⟨A',c',rfl⟩:=hk.Cu;exact hK _ _ (h A' _ c' w1 hk k2 k3)
def Jq(v1 v2:aB):Prop:=∀g,v1.f=some g->v2.f≠some g
theorem Jq.symm{v1 v2:aB}(h:Jq v1 v2):Jq v2 v1:=fun g h1 h2=>h g h2 h1
theorem QZ{w w':ak}{base size n:Nat}{e:bM}{v1 v1' v2:aB}{xs:List aB}(h2:w.c base e size v2 n xs)(ha:Jq v1 v2)(hg:w.grownBy w' v1.f)(hat:v1'.f=v1.f\/v1'.f=some w.a.j):
 w'.c base e size v2 n xs/\Jq v1' v2:=by
 refine⟨h2.kept hg ?_,fun g h1 hh=>?_⟩
 ·cases hv:v2.f with
  | none=>exact .a rfl
  | some g=>exact .b (fun e'=>ha g e'.symm hv)
 ·rcases hat with h|h
  ·exact ha g (h ▸ h1) hh
  ·rw[h]at h1
   injection h1 with h1
   have:=(h2.lt g hh).2;omega
theorem Rz.anI{α:Type}{f:α->Array aB}{sz:Nat}{e:bM}{L:List (Nat×Array aB)}{w0 W W':ak}{v v1 v1':aB}{l:List α}(h:Rz f sz e L w0 W v l)(ha:Jq v1 v)(hg:W.grownBy W' v1.f)(hat:v1'.f=v1.f\/v1'.f=some W.a.j)
 (hb:aL w0.a.j w0 W') (hL:∀p∈L,dJ W' p.1 p.2):Rz f sz e L w0 W' v l/\Jq v1' v:=
 ⟨⟨(QZ h.vS ha hg hat).1,hb,fun p hp=>⟨hL p hp,(h.G p hp).2⟩⟩,(QZ h.vS ha hg hat).2⟩
structure Tc where
 nI:Option aS
 nP:Nat
 yC:Nat
 mE:Option aS
 mR:Nat
 vo:Nat
def Tc.ay(x:Tc):Array aB:=#[.a x.nI x.nP x.yC,.a x.mE x.mR x.vo]
theorem Tc.G(x:Tc):x.ay.j=2:=by simp[Tc.ay]
theorem Tc.cK(x:Tc):x.ay.all (·.h)=true:=by simp[Tc.ay,cB]
@[go_sem]theorem Tc.dZ(x:Tc):dZ x.ay=2:=Tc.G x
@[go_sem]theorem Tc.EX(x:Tc):x.ay[0]? = some (.a x.nI x.nP x.yC):=by simp[Tc.ay,aD]
@[go_sem]theorem Tc.yx(x:Tc):x.ay[1]? = some (.a x.mE x.mR x.vo):=by simp[Tc.ay,aD]
def xC:Tc:=⟨none,0,0,none,0,0⟩
@[go_sem]theorem azu:bY #[bC none 0 0,bC none 0 0]=bY xC.ay:=rfl
@[go_sem]theorem avd:eD #[bC none 0 0,bC none 0 0] 72=eD xC.ay 72:=rfl
theorem kTc:oO 72 2 xC.ay:=⟨⟨_,Fq,rfl⟩,by kernel_rfl,by kernel_rfl,Tc.G _⟩
@[go_sem ↓]theorem aKA(v:aB):bZ 72 v=xu 72 v:=rfl
@[go_sem ↓]theorem aKB(v x:aB):eF 72 v x=yS 72 v x:=rfl
@[go_sem]theorem aEi(W:ak)(c:Array aB)(x:Tc)(b:Nat)(hb:b=W.a.j)(hc:dZ c=2):(yS 72 (.c (some ⟨b,0,none⟩)) (.d x.ay)).I ah (W.alloc (.D c 72))=.ok () (W.alloc (.D x.ay 72)):=kTc.stN W c x.ay b hb hc (Tc.G x) (Tc.cK x)
@[go_sem]theorem aHl(W:ak)(b o:Nat)(x:Tc)(h:W.O b o 2):(yS 72 (.c (some ⟨b,o,none⟩)) (.d x.ay)).I ah W=.ok () (gI W b o x.ay):=kTc.st W b o x.ay h (Tc.G x) (Tc.cK x)
@[go_sem ↓]theorem aKC(ps:Array (Nat×aB)):fI 72 ps=uN 72 ps:=rfl
theorem aEj(w:ak)(fs:Array nS)(h:ah.underlying 72=some (.struct fs)):(iB (fun f=>Prod.mk f.Z <$> sizeOf f.type) fs:Sem (Array (Nat×Nat))).I ah w=.ok #[(0,1),(1,1)] w:=by
 have e:=Fq;rw[h]at e;cases e;show _=_
 kernel_rfl
@[go_sem]theorem azv(W:ak)(nI:Option aS)(nP:Nat)(yC:Nat)(mE:Option aS)(mR:Nat)(vo:Nat):(uN 72 #[(0,.a nI nP yC),(1,.a mE mR vo)]).I ah W=.ok (.d (Tc.mk nI nP yC mE mR vo).ay) W:=kTc.bd W _ _ _ _ Fq (aEj W _ Fq) (by
 refine uW (Tc.G _) ?_ ?_
 ·simp[rO,cO]
 ·simp[qN,cO,Tc.ay]<;>(simp only[<-fP];rfl))
def TlR(W:ak)(A1:Option aS)(n1:Nat)(A2:Option aS)(n2:Nat)(t:Tl):Prop:=
 gX nmC 1 W W.a.j A1 n1 t.h/\n2=t.ra.a/\((n2=0/\A2=none)\/∃g d,A2=some ⟨g,0,none⟩/\dJ W g d/\SlA d t.ra)
def TlP(w:ak)(t:Tl)(e:lq)(w':ak):Prop:=
 ∃A1 n1 c1 A2 n2 c2,e=.a (.J #[.d #[.a A1 n1 c1,.a A2 n2 c2],.b .a 0])/\TlR w' A1 n1 A2 n2 t/\aL w.a.j w w'/\(∀a,A1=some a->w.a.j<=a.block/\a.block<w'.a.j)/\∀a,A2=some a->w.a.j<=a.block/\a.block<w'.a.j
structure BuS(key:Vector UInt8 16)(n k8:Nat)(w4:ak)(r:List oN)(AN:Option aS)(nN cN:Nat)(AT:Option aS)(nT cT:Nat)(W:ak):Prop where
 zn:Rz nmC 1 9 [(k8,(Tc.mk AN nN cN none 0 0).ay)] w4 W (.a AN nN cN) (r.map (·.E))
 zt:Rz Tr.ay 5 155 [(k8,(Tc.mk AN nN cN none 0 0).ay)] w4 W (.a AT nT cT) (r.map (ako key n))
 ap:Jq (.a AN nN cN) (.a AT nT cT)
theorem BuS.start(key:Vector UInt8 16)(n:Nat)(w4:ak):BuS key n w4.a.j w4 [] none 0 0 none 0 0 (w4.alloc (.D xC.ay 72)):=
 ⟨(Rz.nil w4).new xC.ay _,(Rz.nil w4).new xC.ay _,fun g h=>by cases h⟩
theorem BuS.alloc{key:Vector UInt8 16}{n k8:Nat}{w4:ak}{r:List oN}{AN:Option aS}{nN cN:Nat}{AT:Option aS}{nT cT:Nat}{W:ak}(h:BuS key n k8 w4 r AN nN cN AT nT cT W)(o:Obj):BuS key n k8 w4 r AN nN cN AT nT cT (W.alloc o):=⟨h.zn.alloc o,h.zt.alloc o,h.ap⟩
theorem BuS.go{key:Vector UInt8 16}{n k8:Nat}{w4:ak}{r:List oN}{AN:Option aS}{nN cN:Nat}{AT:Option aS}{nT cT:Nat}{W W':ak}(h:BuS key n k8 w4 r AN nN cN AT nT cT W)(hb:aL W.a.j W W'):BuS key n k8 w4 r AN nN cN AT nT cT W':=⟨h.zn.go hb,h.zt.go hb,h.ap⟩
theorem gX.azw{α:Type}{f:α->Array aB}{s:Nat}(x:α)(hs:∀x,(f x).j=s)(w:ak)(t:bM)(k:Nat)(hk:w.a.j=k):gX f s (w.alloc (.D (f x) t)) (w.alloc (.D (f x) t)).a.j (some ⟨k,0,none⟩) 1 [x]:=by
 subst hk;exact gX.one x hs w t
theorem aer{F:List Nat}{W W':ak}{base size n:Nat}{e:bM}{v:aB}{xs:List aB}(h:W.c base e size v n xs)(hf:jD F W W')(hn:∀g,v.f=some g->g∉F):W'.c base e size v n xs:=by
 refine⟨h.1,?_⟩;rcases h.2 with h0|⟨g,cap,cur,rfl,h2,h3,h4⟩
 ·exact .a h0
 ·exact .b ⟨g,cap,cur,rfl,h2,(hf.block g (bV.1 h3).1 (hn g rfl)).trans h3,h4⟩
theorem Tc.aEk(AN:Option aS)(nN cN:Nat)(A9:Option aS)(n9 c9:Nat):(Tc.mk AN nN cN none 0 0).ay.c 1 (.a A9 n9 c9)=(Tc.mk AN nN cN A9 n9 c9).ay:=by simp[Tc.ay]
theorem ave{W:ak}{base n c:Nat}{e:bM}{A:Option aS}{l:List Tr}(h:W.c base e 5 (.a A n c) n (l.h fun x=>x.ay.a))(hl:l.a=n)(hn:0<n):∃gt cur,A=some ⟨gt,0,none⟩/\dJ W gt cur/\TrA cur l/\n<=c/\base<=gt:=by
 have hr:=gX.gU hl h;rcases h.2 with⟨hv,h0⟩|⟨g,cap,cur,hv,h2,h3,h4,h5,h6,h7⟩
 ·omega
 ·injection hv with e1 e2 e3
  subst e1 e3;refine⟨g,cur,rfl,⟨_,h3⟩,fun i hi j hj=>?_,h4,h2⟩;obtain⟨b,o,hA,_,hc⟩:=gX.cell Tr.G zo hr (show i<n by omega);cases hA;have h8:=hc j hj;rw[bl]at h8;rw[<-h8];exact((show dJ W g cur from⟨_,h3⟩).K.1 (i*5+j)).symm
theorem aes(key:Vector UInt8 16)(n:Nat)(r:List oN)(h:kZ n=true):acZ n r.a (Hy (r.map fun x=>Di key x.E n) (r.map fun x=>Au key x.E n) n):=by
 intro i hi;have h2:=wZ h;unfold Hy;rw[pO _ r i 0 lg hi,pO _ r i 0 lg hi];obtain⟨s1,s2⟩:=Vj key (r.b i lg).E h2;exact⟨fun t=>OU (by omega),fun j hj=>UF h s1 s2 hj⟩
theorem Tc.azx(AN:Option aS)(nN cN:Nat)(A9:Option aS)(n9 c9:Nat):(Tc.mk AN nN cN none 0 0).ay.c 0 (.a A9 n9 c9)=(Tc.mk A9 n9 c9 none 0 0).ay:=by simp[Tc.ay]
theorem BuS.aEl{k8:Nat}{w4 w9:ak}{l:List (List UInt8)}{AN:Option aS}{nN cN:Nat}{A9:Option aS}{n9 c9:Nat}(hk:k8=w4.a.j)(h:Rz nmC 1 9 [(k8,(Tc.mk AN nN cN none 0 0).ay)] w4 w9 (.a A9 n9 c9) l):
 Rz nmC 1 9 [(k8,(Tc.mk A9 n9 c9 none 0 0).ay)] w4 (w9.F ⟨k8,0,none⟩ (.a A9 n9 c9)) (.a A9 n9 c9) l:=by
 have:=h.amJ (aW hk.symm) (fun p hp=>by cases hp) 0 (.a A9 n9 c9);rw[Tc.azx]at this;exact this
theorem BuS.aEm{k8:Nat}{w4 w9:ak}{l:List Tr}{AN:Option aS}{nN cN:Nat}{AT:Option aS}{nT cT:Nat}(hk:k8=w4.a.j)(h:Rz Tr.ay 5 155 [(k8,(Tc.mk AN nN cN none 0 0).ay)] w4 w9 (.a AT nT cT) l)(A9:Option aS)(n9 c9:Nat):
 Rz Tr.ay 5 155 [(k8,(Tc.mk A9 n9 c9 none 0 0).ay)] w4 (w9.F ⟨k8,0,none⟩ (.a A9 n9 c9)) (.a AT nT cT) l:=by
 have:=h.amJ (aW hk.symm) (fun p hp=>by cases hp) 0 (.a A9 n9 c9);rw[Tc.azx]at this;exact this
theorem aeu(key:Vector UInt8 16)(n:Nat)(hp:kZ n=true)(hn:n<=65537)(l:List oN)(hk:aqK l)(hnm:∀x∈l,x.E.a<=1000000)(A:Option aS)(m c:Nat)(w:ak)(hR:gX oN.ay 2 w w.a.j A m l):
 aQ ah 27 #[.d (iH key),.b .a n,.a A m c] w (TlP w (uz key n l)):=by
 have hl:=hR.1;have hm:m<=1024:=by have:=hk.2.2;omega
 have Z0:=ab (((Bx.start w).new (iH key) 22).new xC.ay 72);have hs1:(w.alloc (.D (iH key) 22)).a.j=w.a.j+1:=by simp
 rw[hs1]at Z0;obtain⟨k1,hk1⟩:=dw (w.a.j+1);have SO:=ab (fun(W:ak) (h:gX oN.ay 2 W W.a.j A m l)=>abO l hk.1 A m c W h (by omega));have MA:=ab (fun(W:ak) (A':Option aS) (c':Nat) (h:gX oN.ay 2 W W.a.j A' m l)=>aj9 l hk A' m c' W h);have PR:=ab (fun(W:ak)=>YF (W:=W) n hn);rw[hp]at PR;have R0:=ab ((hR.up (.D (iH key) 22)).up (.D xC.ay 72));have t1:decide ((n:Int)>65537)=false:=by simp;omega
 have t2:decide ((65537:Int)<n)=false:=by simp;omega
 have t3:decide (65537<n)=false:=by simp;omega
 have HK:=ab hk;have HNM:=ab hnm;have HP:=ab hp;have HL:=ab hl;clear hk hnm hp hl hR hs1;rw[<-hk1]at Z0;have HK1:=ab hk1;go_enter Tryz.func27,Tryz.ntmps27;go_upto_region 1 with fail
 rw[<-HK1.i];generalize(w.alloc (.D (iH key) 22)).alloc (.D xC.ay 72)=w1 at Z0 R0 ⊢;clear hk1;go_upto_region 4 with(first|(go_at_call 80;(with_reducible refine(SO.i _ R0.i).g ?_);rintro e w2 ⟨A2,c2,rfl,hr2,hb2⟩;have R2:=ab hr2;have Z2:=ab (Z0.i.go hb2);clear hr2 hb2)|(go_at_call 81;(with_reducible refine(PR.i _).g ?_);rintro e w3 ⟨rfl,rfl⟩)|(go_at_call 82;(with_reducible refine(MA.i _ A2 c2 R2.i).g ?_);rintro e w4 ⟨rfl,hb4⟩;have R4:=ab (R2.i.go hb4);have Z4:=ab (Z2.i.go hb4);clear hb4))
 obtain⟨k8,hk8⟩:=dw w4.a.j;have BS:=ab (BuS.start key n w4);rw[<-hk8]at BS;have HK8:=ab hk8;go_upto_region 6 with fail
 rw[<-HK8.i];generalize w4.alloc (.D xC.ay 72)=w5 at BS ⊢;clear hk8;go_wp2_with fail;go_loopw [31,9] (fun i v wr=>∃(k:Nat)(AN:Option aS)(nN cN:Nat)(AT:Option aS) (nT cT:Nat),k<=m/\i=.b .a k/\v=.a AT nT cT/\BuS key n k8 w4 (yB (l.d k)) AN nN cN AT nT cT wr)
  (fun i _ _=>m-(intOf i).e)
 case atStart=>exact⟨0,none,0,0,none,0,0,iX _,rfl,rfl,BS.i⟩
 case round=>
  obtain⟨k,AN,nN,cN,AT,nT,cT,hkm,rfl,rfl,hbs⟩:=hrel;have B0:=ab hbs;clear hbs;by_cases hlt:k<m
  ·have hki:(k:Int)<m:=by omega
   have RW:=ab (R4.i.S B0.i.zn.R);obtain⟨b,o,hA,hbb,hh,hc⟩:=gX.at_ oN.Bo lg RW.i hlt;subst hA;obtain⟨x,hx⟩:=dw (l.b k lg);rw[<-hx]at hc;have hxm:x∈l:=by rw[hx,au,aC (by rw[HL.i];omega),jr];exact dR _
   have hq1:=(HK.i.2.1 x hxm).1;have HXN:=ab (HNM.i x hxm);have DR:=ab (agO hx (show k<l.a by rw[HL.i];exact hlt));have B1:=ab (B0.i.alloc (.D x.ay 151));have X1:=ab (dJ.new wr x.ay 151);have f0:∀i,(wr.alloc (.D x.ay 151)).b ⟨wr.a.j,i,none⟩=x.ay[i]?:=X1.i.K.1;have s0:=(f0 0).trans (oN.uK x);have s1:=(f0 1).trans (oN.aqC x);clear hx hbb hxm f0;by_cases hq:x.q=0
   ·have t1:decide (x.q>0)=false:=by simp[hq]
    have t2:decide (0<x.q)=false:=by simp[hq]
    have HQ:=ab hq;clear hq;go_wp2_with fail;go_roundw
    case rel=>
     have e:=DR.i;rw[if_pos HQ.i,List.append_nil]at e;exact⟨k+1,_,_,_,_,_,_,by omega,by simp,rfl,by rw[e];exact B1.i⟩
    case measure=>simp[intOf];omega
   ·have t1:decide (x.q>0)=true:=by simp;omega
    have t2:decide (0<x.q)=true:=by simp;omega
    have HQ:=ab hq;clear hq;obtain⟨r,hr⟩:=dw (yB (l.d k));rw[<-hr]at B0 B1 DR;have HR:=ab hr;have HRL:=ab (show r.a+1<=1000000 by
     rw[hr];have h1:=oK (fun x:oN=>decide (x.q≠0)) (l.d k);have h2:=List.length_take_le k l;have h3:(yB (l.d k)).a<=(l.d k).a:=h1;omega)
    clear hr;obtain⟨po,hpo⟩:=dw (Di key x.E n);obtain⟨ps,hps⟩:=dw (Au key x.E n);have PO:=ab (agC key x.E n (wZ HP.i) (by omega) HXN.i);rw[<-hpo,<-hps]at PO;have HTR:=ab (show ako key n x=Tr.mk x.q 0 (po:Nat) (ps:Nat) 0 by unfold ako;rw[hpo,hps]);clear hpo hps;have l1:=Sn.nC (Z4.i.b1.go B1.i.zn.R) (dH _);have HKX:=ab (show k8≠wr.a.j from fun e=>by have:=B0.i.zn.X.lt;omega);have HNX:=ab (show∀g,(bC AN nN cN).f=some g->g≠wr.a.j from fun g e=>by have:=(B0.i.zn.lt e).2;omega);have HTX:=ab (show∀g,(bC AT nT cT).f=some g->g≠wr.a.j from fun g e=>by have:=(B0.i.zt.lt e).2;omega);obtain⟨kx,hkx⟩:=dw wr.a.j;rw[<-hkx]at HKX HNX HTX X1;have aEo:=ab hkx;clear hkx;go_upto_region 10 with fail
    rw[<-aEo.i]at s0 s1 ⊢;generalize wr.alloc (.D x.ay 151)=w6 at s0 s1 l1 B1 X1 ⊢;go_wp2_with (first
     | (go_at_call 83;(with_reducible refine(PO.i _).g ?_);rintro e w7 ⟨rfl,hb7⟩;have B7:=ab (B1.i.go hb7);have X7:=ab (X1.i.go hb7);clear s0 s1 l1 hb7;have s0:=(X7.i.K.1 0).trans (oN.uK x);have s1:=(X7.i.K.1 1).trans (oN.aqC x);have s2:=(B7.i.zn.X.K.1 0).trans (Tc.EX _))
     | (refine Xc aib rfl (.a 47) (.a 50) rfl rfl (B7.i.alloc (.D (nmC x.E) 9)).zn rfl (gX.one x.E Oe w7 9) (by rw[bQ];exact HRL.i) ?_;intro A9 n9 c9 w9 h9 g9 a9;have N9:=ab h9;have T9:=ab ((B7.i.alloc (.D (nmC x.E) 9)).zt.anI B7.i.ap g9 a9 h9.R (fun p hp=>(h9.G p hp).1));have X9:=ab ((X7.i.alloc (.D (nmC x.E) 9)).grown g9 (fun e=>HNX.i kx e.symm rfl));clear s0 s1 s2 h9 g9 a9;have s3:=N9.i.X.K.1 0;have s4:=N9.i.X.K.2.1 0;rw[Tc.EX]at s3;have N10:=ab (BuS.aEl HK8.i N9.i);have T10:=ab (BuS.aEm HK8.i T9.i.1 A9 n9 c9);have X10:=ab (X9.i.dM ⟨k8,0,none⟩ (.a A9 n9 c9) HKX.i);have s1:=(X10.i.K.1 1).trans (oN.aqC x))
     | (refine Xc aqX rfl (.a 53) (.a 59) rfl rfl (T10.i.alloc (.D (Tr.mk x.q 0 (po:Nat) (ps:Nat) 0).ay 155)) rfl (gX.azw (Tr.mk x.q 0 (po:Nat) (ps:Nat) 0) Tr.G (w9.F ⟨k8,0,none⟩ (.a A9 n9 c9)) 155 w9.a.j (by simp)) (by rw[bQ];exact HRL.i) ?_;intro A11 n11 c11 w11 h11 g11 a11;have T11:=ab h11;have N11:=ab ((N10.i.alloc (.D (Tr.mk x.q 0 (po:Nat) (ps:Nat) 0).ay 155)).anI T9.i.2.symm g11 a11 h11.R (fun p hp=>(h11.G p hp).1));clear h11 g11 a11))
    go_roundw
    case rel=>
     have e:=DR.i;rw[if_neg HQ.i]at e;refine⟨k+1,A9,n9,c9,A11,n11,c11,by omega,by simp,rfl,?_⟩;rw[e];refine⟨?_,?_,N11.i.2.symm⟩
     ·rw[je];exact N11.i.1
     ·rw[je,kL,pJ,HTR.i];exact T11.i
    case measure=>simp[intOf];omega
  ·obtain rfl:k=m:=by omega
   have hd:decide ((k:Int)<k)=false:=by simp
   have HRW:yB (l.d k)=yB l:=by rw[aK (by rw[HL.i];omega)]
   rw[HRW]at B0;obtain⟨r,hr⟩:=dw (yB l);rw[<-hr]at B0;have hnT:=B0.i.zt.len;rw[bQ]at hnT;have BX1:=ab (Z4.i.X.go B0.i.zn.R);have HKS:=ab (show w.a.j<=k1/\k1<w4.a.j/\w4.a.j=k8/\k8<wr.a.j from⟨by rw[HK1.i];omega,Z4.i.X.lt,HK8.i.symm,B0.i.zn.X.lt⟩);have TH1:=BX1.i.O 0 2 (aW (Tc.G _).symm);have HR:=ab hr;have HNB:=ab (show∀g,(bC AN nN cN).f=some g->w4.a.j<=g/\g≠k8 from fun g e=>⟨(B0.i.zn.lt e).1,fun e2=>by
    have:=(B0.i.zn.G _ (lZ ..)).2;exact this (by rw[e,e2])⟩)
   by_cases h0:r=[]
   ·have z1:decide ((nT:Int)=0)=true:=by simp[hnT,h0]
    have z2:((nT:Int)==0)=true:=by simp[hnT,h0]
    have z3:decide (nT=0)=true:=by simp[hnT,h0]
    have z4:(nT==0)=true:=by simp[hnT,h0]
    have ld:=kTc.nC B0.i.zn.X (Tc.G _);have H0:=ab h0;clear hnT h0 hr HRW;obtain⟨X,hX⟩:=dw (Tc.mk AN nN cN none 0 0);rw[<-hX]at ld;have HX:=ab hX;clear hX;go_wp2_with fail;refine aN (kTc.qB rfl _ rfl (BX1.i.put X.ay (by rw[Tc.G,Tc.G])) (Tc.G _)) rfl ?_;have F:=jD.Vl (F:=[k1]) (lM (dN wr (some k1)) 0 X.ay) (fun g e=>.a (by injection e with e;simp[e]));refine⟨AN,nN,cN,none,0,0,by rw[HX.i];rfl,⟨?_,?_,?_⟩,?_,(fun a e=>by have h1:=(HNB.i a.block (by rw[e];rfl)).1;have h2:=Z4.i.R.j;have h3:=(B0.i.zn.lt (k:=a.block) (by rw[e];rfl)).2;have h4:=F.j;omega),fun a e=>by cases e⟩
    ·have:=aer B0.i.zn.vS F (fun g e hm=>by
      have h1:=(HNB.i g e).1;have h2:=HKS.i;simp at hm;omega)
     rw[QY _ _ _ (by rw[<-HR.i,H0.i])];have h2:=B0.i.zn.len;rw[<-h2]at this;have h3:=gX.gU (by rw[h2]) this;rw[H0.i]at h3;exact h3
    ·rw[QY _ _ _ (by rw[<-HR.i,H0.i])];rfl
    ·exact .a ⟨rfl,rfl⟩
    ·refine(gV Z4.i.R B0.i.zn.R).trans ?_
     exact F.rM (fun g hg=>by simp at hg;have:=HKS.i;omega) (aO Z4.i.R.j B0.i.zn.R.j)
   ·have hpos:0<r.a:=List.length_pos_iff.2 h0
    have hz:¬(nT:Int)=0:=by omega
    have z1:decide ((nT:Int)=0)=false:=by simpa using hz
    have z2:((nT:Int)==0)=false:=by simpa using hz
    have z3:decide (nT=0)=false:=by simp;omega
    have z4:(nT==0)=false:=by simp;omega
    obtain⟨gt,cur,hAT,hbt,htr,hcap,hgt⟩:=ave (by have:=B0.i.zt.vS;rwa [bQ,<-hnT]at this) (by rw[bQ,hnT]) (by omega);subst hAT;have HGK:=ab (show gt≠k8 from fun e=>(B0.i.zt.G _ (lZ ..)).2 (by rw[<-e];rfl));have HGN:=ab (show∀g,(bC AN nN cN).f=some g->g≠gt from fun g e e2=>B0.i.ap g e (by rw[e2];rfl));have HGT:=ab (show gt<wr.a.j/\w4.a.j<=gt from⟨hbt.lt,hgt⟩);have hn1:1<=n:=by have:=wZ HP.i;omega
    have RE:=ab (agH n hn1 (by omega) wr.a.j 1 (-1) (wr.alloc (.D (sM [-1]) 3)) (dJ.new wr _ _));have hq0:∀x∈r,0<x.q:=by
     intro x hx;rw[hr]at hx;obtain⟨h1,h2⟩:=mh.1 hx;have:=(HK.i.2.1 x h1).1;simp at h2;omega
    have hrl:r.a<=1024:=by rw[hr];have:(yB l).a<=l.a:=oK _ _;have:=HK.i.2.2;omega
    have hgr:lK (r.map fun x=>x.q.e)<=100000000:=by
     obtain⟨i,hi,e⟩:=Dj (q:=r.map fun x=>x.q.e) (by simpa using h0) (by
      intro y hy;obtain⟨x,hx,rfl⟩:=iQ.1 hy;have:=hq0 x hx;omega)
     rw[<-e];rw[bQ]at hi;rw[pO _ r i 0 lg hi];have hm2:r.b i lg∈yB l:=by rw[<-hr,au,aC hi];exact dR _
     have:=(HK.i.2.1 _ (mh.1 hm2).1).2;omega
    have FI:=ab (fun(W:ak) (sb:Nat) (d:Array aB) (hc:dJ W gt cur) (hd:dJ W sb d) (hne:gt≠sb) (hS:SlA d (dV n (-1)))=>
     agE gt sb nT cT n n (lK (r.map fun x=>x.q.e)) (r.map fun x=>x.q.e) (r.map fun x=>Di key x.E n) (r.map fun x=>Au key x.E n) cur d (r.map (ako key n)) W rfl hc hd hne (by rw[bQ,hnT]) htr hS (akp key n r h0 hq0) (by omega) (by omega) hcap hn1 (by omega) (av _)
      (by intro y hy;obtain⟨x,hx,rfl⟩:=iQ.1 hy;have:=hq0 x hx;omega) hgr
      (by intro i hi;rw[pO _ r i 0 lg (by omega)];have:=al7 key (r.b i lg).E (wZ HP.i);omega)
      (by intro i hi;rw[pO _ r i 0 lg (by omega)];have:=(Vj key (r.b i lg).E (wZ HP.i)).2;omega)
      (by rw[hnT];exact aes key n r HP.i))
    have HFV:=ab (adj (n:=n) (q:=r.map fun x=>x.q.e) (ch:=Hy (r.map fun x=>Di key x.E n) (r.map fun x=>Au key x.E n) n) (by simpa using h0) (by intro y hy;obtain⟨x,hx,rfl⟩:=iQ.1 hy;have:=hq0 x hx;omega) (by rw[bQ];exact aes key n r HP.i)).1;have HT:=ab (show uz key n l=⟨r.map (·.E),EA n (r.map fun x=>x.q.e) (Hy (r.map fun x=>Di key x.E n) (r.map fun x=>Au key x.E n) n)⟩by rw[aen key n l (by rw[<-hr];exact h0),<-hr]);generalize EA n (r.map fun x=>x.q.e) (Hy (r.map fun x=>Di key x.E n) (r.map fun x=>Au key x.E n) n)=fv at FI HFV HT;have BT0:=ab hbt;have hw1:(wr.alloc (.D (sM [-1]) 3)).a.j=wr.a.j+1:=by simp
    have HW1:=ab hw1;clear hnT h0 hpos hz hbt htr hcap hgt hq0 hrl hgr hr HRW hw1;go_wp2_with (first
     | (go_at_call 84;go_loud ((with_reducible refine RE.i.g ?_);rintro e w2 ⟨g,d,hg1,rfl,hb2,hds,hsl,hbel⟩;have HG:=ab (show wr.a.j<g by rw[HW1.i]at hg1;omega);have K2:=ab ((B0.i.zn.X.alloc (.D (sM [-1]) 3)).go hbel);have X2:=ab ((BX1.i.alloc (.D (sM [-1]) 3)).go hbel);have T2:=ab ((BT0.i.alloc (.D (sM [-1]) 3)).go hbel);have F2:=ab (((jD.refl [k8,gt,k1] wr).alloc (.D (sM [-1]) 3)).S hbel (by rw[HW1.i];omega));have HSL:=ab hsl;have K3:=ab (show dJ (w2.F ⟨k8,1,none⟩ (.a (some ⟨g,0,none⟩) n n)) k8 (Tc.mk AN nN cN (some ⟨g,0,none⟩) n n).ay by have:=K2.i.eH 1 (.a (some ⟨g,0,none⟩) n n);rwa [Tc.aEk]at this);have s1:=K2.i.K.1 1;rw[Tc.yx]at s1;have s2:=K2.i.K.2.1 1;have s3:=K3.i.K.1 1;rw[Tc.yx]at s3;have FX:=ab (FI.i (w2.F ⟨k8,1,none⟩ (.a (some ⟨g,0,none⟩) n n)) g d (T2.i.dM ⟨k8,1,none⟩ _ HGK.i.symm) (hb2.dM ⟨k8,1,none⟩ _ (by have:=HG.i;have:=HKS.i;show k8≠g;omega)) (by have:=HG.i;have:=HGT.i;omega) hsl);clear hg1 hb2 hds hsl hbel))
     | (go_at_call 85;(with_reducible refine FX.i.g ?_);rintro e w5 ⟨rfl,⟨d5,hd5,azy⟩,hfr⟩;have K5:=ab (hfr.box K3.i (by have:=HGK.i;have:=HG.i;have:=HKS.i;simp;omega));have X5:=ab (hfr.box (X2.i.dM ⟨k8,1,none⟩ (.a (some ⟨g,0,none⟩) n n) (by have:=HKS.i;show k8≠k1;omega)) (by have:=HG.i;have:=HGT.i;have:=HKS.i;simp;omega));have F5:=ab ((F2.i.set ⟨k8,1,none⟩ (.a (some ⟨g,0,none⟩) n n) (.a (by simp))).trans hfr (fun x hx=>by have:=HG.i;simp at hx⊢;omega));have D5:=ab hd5;have SD5:=ab azy;clear s1 s2 s3 hd5 azy hfr;have ld:=kTc.nC K5.i (Tc.G _);have th:=X5.i.O 0 2 (aW (Tc.G _).symm)))
    refine aN (kTc.qB rfl _ rfl (X5.i.put (Tc.mk AN nN cN (some ⟨g,0,none⟩) n n).ay (by rw[Tc.G,Tc.G])) (Tc.G _)) rfl ?_;have F:=F5.i.grown (lM (dN w5 (some k1)) 0 (Tc.mk AN nN cN (some ⟨g,0,none⟩) n n).ay) (fun j e=>.a (by injection e with e;simp[e]));refine⟨AN,nN,cN,some ⟨g,0,none⟩,n,n,rfl,⟨?_,by rw[HT.i];exact HFV.i.symm,.b ⟨g,d5,rfl,D5.i.gy (by have:=HG.i;have:=HKS.i;omega),by rw[HT.i];exact SD5.i⟩⟩,?_,(fun a e=>by have h1:=(HNB.i a.block (by rw[e];rfl)).1;have h2:=Z4.i.R.j;have h3:=(B0.i.zn.lt (k:=a.block) (by rw[e];rfl)).2;have h4:=F.j;omega),fun a e=>by injection e with e;subst e;have h1:=HG.i;have h2:=Z4.i.R.j;have h3:=B0.i.zn.R.j;have h4:=(D5.i.gy (b2:=k1) (o:=0) (x:=(Tc.mk AN nN cN (some ⟨g,0,none⟩) n n).ay) (by have:=HG.i;have:=HKS.i;omega)).lt;exact⟨by show _<=g;omega,h4⟩⟩
    ·have:=aer B0.i.zn.vS F (fun g e hm=>by
       have h1:=HNB.i g e;have h2:=HKS.i;have h3:=HGN.i g e;simp at hm;omega)
     rw[HT.i];have h2:=B0.i.zn.len;rw[<-h2]at this;exact gX.gU (by rw[h2]) this
    ·refine(gV Z4.i.R B0.i.zn.R).trans ?_
     exact F.rM (fun g hg=>by simp at hg;have:=HKS.i;have:=HGT.i;omega) (aO Z4.i.R.j B0.i.zn.R.j)
def asD:Option (List UInt8)->aB
 | none=>.J #[.g (bK []),.e false]
 | some s=>.J #[.g (bK s),.e true]
def azz(t:Tl):Prop:=∀j,j<t.ra.a->∃i,i<t.h.a/\t.ra.b j 0=(i:Int)
theorem Xf(t:Tl)(ok:azz t)(h:Nat)(hh:h<18446744073709551616)(A1:Option aS)(n1 c1:Nat)(A2:Option aS)(n2 c2:Nat)(w:ak)(hT:TlR w A1 n1 A2 n2 t)(hn2:n2<=100000)(hn1:n1<=100000):
 aQ ah 35 #[.d (Tc.mk A1 n1 c1 A2 n2 c2).ay,.b .u64 h] w (gM w (asD (Dk t h))):=by
 obtain⟨hN,hs,hS⟩:=hT;have X0:=ab (dJ.new w (Tc.mk A1 n1 c1 A2 n2 c2).ay 72);have B0:=ab ((aH w.a.j w).alloc (av _) (.D (Tc.mk A1 n1 c1 A2 n2 c2).ay 72));have N0:=ab (hN.up (.D (Tc.mk A1 n1 c1 A2 n2 c2).ay 72));have f0:=(X0.i.K.1 0).trans (Tc.EX _);have f1:=(X0.i.K.1 1).trans (Tc.yx _);by_cases h0:n2=0
 ·have z1:decide ((n2:Int)=0)=true:=by simp[h0]
  have z2:((n2:Int)==0)=true:=by simp[h0]
  have z3:decide (n2=0)=true:=by simp[h0]
  have z4:(n2==0)=true:=by simp[h0]
  have HP:=ab (show Dk t h=none by unfold Dk;rw[<-hs,if_pos h0]);clear h0 hs hS hN;go_enter Tryz.func35,Tryz.ntmps35;go_wp2;go_ret2;exact⟨by rw[HP.i];rfl,B0.i⟩
 ·have hz:¬(n2:Int)=0:=by omega
  have z1:decide ((n2:Int)=0)=false:=by simpa using hz
  have z2:((n2:Int)==0)=false:=by simpa using hz
  have z3:decide (n2=0)=false:=by simpa using h0
  have z4:(n2==0)=false:=by simpa using h0
  obtain⟨g,d,hA,hd,hsl⟩:∃g d,A2=some ⟨g,0,none⟩/\dJ w g d/\SlA d t.ra:=by
   rcases hS with⟨e,_⟩|hS
   ·exact absurd e h0
   ·exact hS
  subst hA;obtain⟨j,hj⟩:=dw (h%n2);have hjl:j<n2:=by rw[hj];exact fE _ (by omega)
  have hji:(j:Int)<n2:=by omega
  obtain⟨i,hi,hv⟩:=ok j (by rw[<-hs];exact hjl);obtain⟨b,o,hA1,_,hc⟩:=gX.cell Oe [] N0.i (show i<n1 by rw[<-hN.1];exact hi);have hii:(i:Int)<n1:=by rw[<-hN.1];omega
  subst hA1;obtain⟨s,hsn⟩:=dw (t.h.b i []);have f3:=hc 0 (by omega);rw[<-hsn,Nat.add_zero,gB]at f3
  replace f3:(w.alloc (.D (Tc.mk (some ⟨b,o,none⟩) n1 c1 (some ⟨g,0,none⟩) n2 c2).ay 72)).b ⟨b,o+i,none⟩=some (.g (bK s)):=f3
  have f2:=(hd.alloc (.D (Tc.mk (some ⟨b,o,none⟩) n1 c1 (some ⟨g,0,none⟩) n2 c2).ay 72)).K.1 j;rw[hsl j (by rw[<-hs];exact hjl),hv]at f2;have HP:=ab (show Dk t h=some s by unfold Dk;rw[<-hs,if_neg h0,<-hj,hv,dQ,hsn]);have e1:(h:Int)%(n2:Int)=(j:Int):=by rw[hj];omega
  have e2:Mj (h:Int) (n2:Int)=(j:Int):=by rw[mo (by omega)];exact e1
  have u1:=anu n2 (by omega);have u2:=anu j (by omega);have i1:=jS (n2:Int) (by omega);have h0':¬n2=0:=h0;clear hj hs hS hN hc hsn hv hi hd hsl h0;go_enter Tryz.func35,Tryz.ntmps35;go_wp2_with fail;go_quiet (fail);go_wp2;go_ret2;exact⟨by rw[HP.i];rfl,fO B0.i _⟩
abbrev aev(o:Option Nat):aB:=.c (o.map fun b=>⟨b,0,none⟩)
structure Pc where
 Y:Int
 rA:Option aS
 rN:Nat
 rC:Nat
def Pc.ay(x:Pc):Array aB:=#[.b .a x.Y,.a x.rA x.rN x.rC]
theorem Pc.G(x:Pc):x.ay.j=2:=by simp[Pc.ay]
theorem Pc.cK(x:Pc):x.ay.all (·.h)=true:=by simp[Pc.ay,cB]
@[go_sem]theorem Pc.dZ(x:Pc):dZ x.ay=2:=Pc.G x
@[go_sem]theorem Pc.all(x:Pc):x.ay.m 0 2=x.ay:=by have:=Pc.G x;rw[<-this];simp
@[go_sem]theorem Pc.Qh(x:Pc):x.ay[0]? = some (.b .a x.Y):=by simp[Pc.ay,aD]
@[go_sem]theorem Pc.anL(x:Pc):x.ay[1]? = some (.a x.rA x.rN x.rC):=by simp[Pc.ay,aD]
theorem Pc.aie(x:Pc)(A:Option aS)(n c:Nat):x.ay.c 1 (.a A n c)=({x with rA:=A,rN:=n,rC:=c}:Pc).ay:=by simp[Pc.ay,aM]
def Ym:Pc:=⟨0,none,0,0⟩
@[go_sem]theorem azA:bY #[aI bU 0,bC none 0 0]=bY Ym.ay:=rfl
@[go_sem]theorem avf:eD #[aI bU 0,bC none 0 0] 32=eD Ym.ay 32:=rfl
theorem kPc:oO 32 2 Ym.ay:=⟨⟨_,Tryz.underlying32,rfl⟩,by kernel_rfl,by kernel_rfl,Pc.G _⟩
@[go_sem ↓]theorem aqY(v:aB):bZ 32 v=xu 32 v:=rfl
@[go_sem ↓]theorem aKN(v x:aB):eF 32 v x=yS 32 v x:=rfl
@[go_sem]theorem aHs(W:ak)(b o:Nat)(h:xJ W b o 2):(xu 32 (.c (some ⟨b,o,none⟩))).I ah W=.ok (.d (eu W b o 2)) W:=kPc.ld W b o h
@[go_sem]theorem aEr(W:ak)(c:Array aB)(x:Pc)(b:Nat)(hb:b=W.a.j)(hc:dZ c=2):(yS 32 (.c (some ⟨b,0,none⟩)) (.d x.ay)).I ah (W.alloc (.D c 32))=.ok () (W.alloc (.D x.ay 32)):=kPc.stN W c x.ay b hb hc (Pc.G x) (Pc.cK x)
@[go_sem]theorem aHt(W:ak)(b o:Nat)(x:Pc)(h:W.O b o 2):(yS 32 (.c (some ⟨b,o,none⟩)) (.d x.ay)).I ah W=.ok () (gI W b o x.ay):=kPc.st W b o x.ay h (Pc.G x) (Pc.cK x)
@[go_sem ↓]theorem aKO(ps:Array (Nat×aB)):fI 32 ps=uN 32 ps:=rfl
structure Eg where
 key:Vector UInt8 16
 cf:Cn
 pl:Pc
 Ov:Option aS
 DZ:Nat
 Sw:Nat
 dnA:Option aS
 dnN:Nat
 dnC:Nat
 fl:Option Nat
 tb:Tc
 gF:Int
 no:Int
 lW:Vector Int 11
def Eg.ay(x:Eg):Array aB:=iH x.key++(x.cf.ay++(x.pl.ay++(#[.a x.Ov x.DZ x.Sw,.a x.dnA x.dnN x.dnC,aev x.fl]++(x.tb.ay++(#[.b .a x.gF,.b .a x.no]++yH x.lW)))))
theorem Eg.G(x:Eg):x.ay.j=90:=by simp[Eg.ay,Cn.G,Pc.G,Tc.G,dH,jY]
@[go_sem]theorem Eg.abI(x:Eg):x.ay.m 0 16=iH x.key:=by simp[Eg.ay,bW,Cn.G,Pc.G,Tc.G,dH,jY,pR,tY]
@[go_sem]theorem Eg.asE(x:Eg):x.ay.m 16 70=x.cf.ay:=by simp[Eg.ay,bW,Cn.G,Pc.G,Tc.G,dH,jY,pR,tY]
@[go_sem]theorem Eg.aif(x:Eg):x.ay.m 70 72=x.pl.ay:=by simp[Eg.ay,bW,Cn.G,Pc.G,Tc.G,dH,jY,pR,tY]
@[go_sem]theorem Eg.aag(x:Eg):x.ay[72]? = some (.a x.Ov x.DZ x.Sw):=by simp[Eg.ay,aD,Cn.G,Pc.G,Tc.G,dH,jY]
@[go_sem]theorem Eg.anN(x:Eg):x.ay[73]? = some (.a x.dnA x.dnN x.dnC):=by simp[Eg.ay,aD,Cn.G,Pc.G,Tc.G,dH,jY]
@[go_sem]theorem Eg.aah(x:Eg):x.ay[74]? = some (aev x.fl):=by simp[Eg.ay,aD,Cn.G,Pc.G,Tc.G,dH,jY]
@[go_sem]theorem Eg.anO(x:Eg):x.ay.m 75 77=x.tb.ay:=by simp[Eg.ay,bW,Cn.G,Pc.G,Tc.G,dH,jY,pR,tY]
@[go_sem]theorem Eg.TP(x:Eg):x.ay[77]? = some (.b .a x.gF):=by simp[Eg.ay,aD,Cn.G,Pc.G,Tc.G,dH,jY]
@[go_sem]theorem Eg.anP(x:Eg):x.ay[78]? = some (.b .a x.no):=by simp[Eg.ay,aD,Cn.G,Pc.G,Tc.G,dH,jY]
@[go_sem]theorem Eg.anQ(x:Eg):x.ay.m 79 90=yH x.lW:=by simp[Eg.ay,bW,Cn.G,Pc.G,Tc.G,dH,jY,pR,tY]
theorem Eg.agQ(x:Eg)(A:Option aS)(n c:Nat):x.ay.c 72 (.a A n c)=({x with Ov:=A,DZ:=n,Sw:=c}:Eg).ay:=by simp[Eg.ay,aM,Cn.G,Pc.G,Tc.G,dH,jY]
theorem Eg.avg(x:Eg)(A:Option aS)(n c:Nat):x.ay.c 73 (.a A n c)=({x with dnA:=A,dnN:=n,dnC:=c}:Eg).ay:=by simp[Eg.ay,aM,Cn.G,Pc.G,Tc.G,dH,jY]
theorem Eg.avh(x:Eg)(v:Option Nat):x.ay.c 74 (aev v)=({x with fl:=v}:Eg).ay:=by simp[Eg.ay,aM,Cn.G,Pc.G,Tc.G,dH,jY]
theorem Eg.aew(x:Eg)(v:Int):x.ay.c 77 (.b .a v)=({x with gF:=v}:Eg).ay:=by simp[Eg.ay,aM,Cn.G,Pc.G,Tc.G,dH,jY]
theorem Eg.anR(x:Eg)(v:Int):x.ay.c 78 (.b .a v)=({x with no:=v}:Eg).ay:=by simp[Eg.ay,aM,Cn.G,Pc.G,Tc.G,dH,jY]
def aEs:Eg:=⟨(bF 16 0),Py,Ym,none,0,0,none,0,0,none,xC,0,0,(bF 11 0)⟩
theorem kEg:oO 123 90 aEs.ay:=⟨⟨_,DL,rfl⟩,by kernel_rfl,by kernel_rfl,Eg.G _⟩
@[go_sem ↓]theorem aKQ(v:aB):bZ 123 v=xu 123 v:=rfl
@[go_sem ↓]theorem aKR(v x:aB):eF 123 v x=yS 123 v x:=rfl
@[go_sem ↓]theorem aKS(ps:Array (Nat×aB)):fI 123 ps=uN 123 ps:=rfl
theorem aEt(w:ak)(fs:Array nS)(h:ah.underlying 123=some (.struct fs)):(iB (fun f=>Prod.mk f.Z <$> sizeOf f.type) fs:Sem (Array (Nat×Nat))).I ah w=.ok #[(0,16),(16,54),(70,2),(72,1),(73,1),(74,1),(75,2),(77,1),(78,1),(79,11)] w:=by
 have e:=DL;rw[h]at e;cases e;show _=_
 kernel_rfl
theorem Eg.aqZ(x:Eg)(v:Vector UInt8 16):sF x.ay 0 (iH v)=({x with key:=v}:Eg).ay:=by
 unfold Eg.ay;exact Gi (by rw[dH,dH])
theorem Eg.avi(x:Eg)(v:Cn):sF x.ay 16 v.ay=({x with cf:=v}:Eg).ay:=by
 unfold Eg.ay;exact qK (by rw[Cn.G,Cn.G]) 16 (dH _)
theorem Eg.anS(x:Eg)(v:Pc):sF x.ay 70 v.ay=({x with pl:=v}:Eg).ay:=by
 unfold Eg.ay;have:=qK (p:=iH x.key++x.cf.ay) (q:=x.pl.ay) (r:=#[.a x.Ov x.DZ x.Sw,.a x.dnA x.dnN x.dnC,aev x.fl]++(x.tb.ay++(#[.b .a x.gF,.b .a x.no]++yH x.lW))) (v:=v.ay) (by rw[Pc.G,Pc.G]) 70 (by simp[Cn.G,dH]);simpa[fP]using this
theorem Eg.avj(x:Eg)(v:Tc):sF x.ay 75 v.ay=({x with tb:=v}:Eg).ay:=by
 unfold Eg.ay;have:=qK (p:=iH x.key++x.cf.ay++x.pl.ay ++ #[.a x.Ov x.DZ x.Sw,.a x.dnA x.dnN x.dnC,aev x.fl]) (q:=x.tb.ay) (r:=#[.b .a x.gF,.b .a x.no]++yH x.lW) (v:=v.ay) (by rw[Tc.G,Tc.G]) 75 (by simp[Cn.G,dH,Pc.G]);simpa[fP]using this
theorem Eg.aq0(x:Eg)(v:Vector Int 11):sF x.ay 79 (yH v)=({x with lW:=v}:Eg).ay:=by
 unfold Eg.ay;have:=qK (p:=iH x.key++x.cf.ay++x.pl.ay ++ #[.a x.Ov x.DZ x.Sw,.a x.dnA x.dnN x.dnC,aev x.fl]++x.tb.ay ++ #[.b .a x.gF,.b .a x.no]) (q:=yH x.lW) (r:=#[]) (v:=yH v) (by rw[jY,jY]) 79 (by simp[Cn.G,dH,Pc.G,Tc.G]);simpa[fP]using this
@[go_sem]theorem anT(W:ak)(key:Vector UInt8 16)(cf:Cn)(pl:Pc)(A:Option aS)(n c:Nat)(ti no:Int)(ct:Vector Int 11):(uN 123 #[(0,.d (iH key)),(1,.d cf.ay),(2,.d pl.ay),(3,.a A n c),(7,.b .a ti),(8,.b .a no),(9,.d (yH ct))]).I ah W=.ok (.d (Eg.mk key cf pl A n c none 0 0 none xC ti no ct).ay) W:=kEg.bd W _ _ _ _ DL (aEt W _ DL) (by
 refine(sN rfl (dH _) (by rw[Eg.G];omega) (Eg.aqZ _ _)).trans ?_;refine(sN rfl (Cn.G _) (by rw[Eg.G];omega) (Eg.avi _ _)).trans ?_;refine(sN rfl (Pc.G _) (by rw[Eg.G];omega) (Eg.anS _ _)).trans ?_;refine(iy rfl rfl (by rw[Eg.G];omega) (Eg.agQ _ _ _ _)).trans ?_;refine(iy rfl rfl (by rw[Eg.G];omega) (Eg.aew _ _)).trans ?_;refine(iy rfl rfl (by rw[Eg.G];omega) (Eg.anR _ _)).trans ?_;refine(sN rfl (jY _) (by rw[Eg.G];omega) (Eg.aq0 _ _)).trans ?_;rfl)
theorem Eg.Og(x:Eg)(j:Nat)(hj:j<54):x.ay[16+j]? = x.cf.ay[j]?:=by
 have h:=Eg.asE x;have h2:(x.ay.m 16 70)[j]? = x.cf.ay[j]?:=by rw[h]
 rw[cu,if_pos (by rw[Eg.G];omega)]at h2;exact h2
theorem Eg.Oh(x:Eg)(a b:Nat)(hb:a<=b/\b<=54):x.ay.m (16+a) (16+b)=x.cf.ay.m a b:=by
 apply dW;intro j;rw[cu,cu,Eg.G,Cn.G];by_cases h:j<b-a
 ·rw[if_pos (by omega),if_pos (by omega),Nat.add_assoc];exact Eg.Og x (a+j) (by omega)
 ·rw[if_neg (by omega),if_neg (by omega)]
theorem Eg.anU(x:Eg)(j:Nat)(hj:j<11):x.ay[79+j]? = some (.b .a (x.lW.a.b j 0)):=by
 have h:=Eg.anQ x;have h2:(x.ay.m 79 90)[j]? = (yH x.lW)[j]?:=by rw[h]
 rw[cu,if_pos (by rw[Eg.G];omega),Vz _ _ hj]at h2;exact h2
theorem Eg.Qh(x:Eg):x.ay[70]? = some (.b .a x.pl.Y):=by
 have h2:(x.ay.m 70 72)[0]? = x.pl.ay[0]?:=by rw[Eg.aif]
 rwa [cu,if_pos (by rw[Eg.G];omega),Pc.Qh]at h2
theorem Eg.EX(x:Eg):x.ay[75]? = some (.a x.tb.nI x.tb.nP x.tb.yC):=by
 have h2:(x.ay.m 75 77)[0]? = x.tb.ay[0]?:=by rw[Eg.anO]
 rwa [cu,if_pos (by rw[Eg.G];omega),Tc.EX]at h2
theorem Eg.yx(x:Eg):x.ay[76]? = some (.a x.tb.mE x.tb.mR x.tb.vo):=by
 have h2:(x.ay.m 75 77)[1]? = x.tb.ay[1]?:=by rw[Eg.anO]
 rwa [cu,if_pos (by rw[Eg.G];omega),Tc.yx]at h2
theorem Eg.J3(x:Eg):x.ay[16]? = some (.a x.cf.qG x.cf.iI x.cf.qH):=(Eg.Og x 0 (by omega)).trans (Cn.J3 x.cf)
theorem Eg.Dq(x:Eg):x.ay[17]? = some (.b .a x.cf.j):=(Eg.Og x 1 (by omega)).trans (Cn.Dq x.cf)
theorem Eg.Tq(x:Eg):x.ay[25]? = some (.b .a x.cf.ko):=(Eg.Og x 9 (by omega)).trans (Cn.Tq x.cf)
theorem Eg.Tt(x:Eg):x.ay[26]? = some (.b .a x.cf.fall):=(Eg.Og x 10 (by omega)).trans (Cn.Tt x.cf)
theorem Eg.Tp(x:Eg):x.ay.m 19 25=Kr x.cf.kD:=(Eg.Oh x 3 9 (by omega)).trans (Cn.Tp x.cf)
theorem Eg.af6(x:Eg):x.ay.m 27 33=AO x.cf.FJ:=(Eg.Oh x 11 17 (by omega)).trans (Cn.af6 x.cf)
theorem Eg.abf(x:Eg):x.ay.m 33 50=x.cf.Cv.ay:=(Eg.Oh x 17 34 (by omega)).trans (Cn.abf x.cf)
theorem Eg.af7(x:Eg):x.ay.m 50 67=x.cf.h.ay:=(Eg.Oh x 34 51 (by omega)).trans (Cn.af7 x.cf)
section
def sP(A:Option aS):List Nat:=match A with|some a=>[a.block]|none=>[]
theorem Dw{A:Option aS}{b:Nat}:b∈sP A↔∃a,A=some a/\a.block=b:=by
 unfold sP;cases A with
 | none=>simp
 | some a=>simp[eq_comm]
def qw(x:Eg):List Nat:=sP x.cf.qG++(sP x.pl.rA++(sP x.Ov++(sP x.dnA++(sP x.tb.nI++sP x.tb.mE))))
theorem dS{x:Eg}{b:Nat}:b∈qw x↔b∈sP x.cf.qG\/b∈sP x.pl.rA\/b∈sP x.Ov\/b∈sP x.dnA\/b∈sP x.tb.nI\/b∈sP x.tb.mE:=by simp[qw]
theorem jZ{W:ak}{base sz n k c:Nat}{T:bM}{A:Option aS}{xs:List aB}(h:W.c base T sz (.a A n c) k xs):∀b∈sP A,base<=b/\b<W.a.j:=fun b hb=>by
 obtain⟨a,rfl,rfl⟩:=Dw.1 hb;exact h.lt a.block rfl
theorem TQ{W W':ak}{B sz n:Nat}{A:Option aS}{xs:List aB}{F:List Nat}(h:Rd W B sz A n xs)(hB:B<=W.a.j)(hf:jD F W W')(hn:∀b∈sP A,b∉F):Rd W' W'.a.j sz A n xs:=by
 refine⟨h.1,fun h0=>?_⟩;obtain⟨a,hA,hb,hc⟩:=h.2 h0;have hs:=hf.j;refine⟨a,hA,by omega,fun j u hu=>?_⟩;have h1:=hc j u hu;have h2:=hf.block a.block (by omega) (hn _ (Dw.2 ⟨a,hA,rfl⟩));unfold World.cell? at h1 ⊢;rw[Bl]at h1 ⊢;rw[h2];exact h1
theorem gX.keep{α:Type}{f:α->Array aB}{sz:Nat}{W W':ak}{n:Nat}{A:Option aS}{l:List α}{F:List Nat}(h:gX f sz W W.a.j A n l)(hf:jD F W W')(hn:∀b∈sP A,b∉F):gX f sz W' W'.a.j A n l:=⟨h.1,TQ h.2.1 (av _) hf hn,h.2.2⟩
theorem Ky.keep{W W':ak}{q g:Nat}{key:Vector UInt8 16}{room:Int}{s:List (Option Fw)}{l:List Fw}{F:List Nat}(h:Ky W q g key room s l)(hf:jD F W W')(h1:q∉F)(h2:g∉F):Ky W' q g key room s l:=⟨⟨hf.box h.w.tb h1,hf.box h.w.sl h2,h.w.ne,h.w.sz⟩,h.r,h.ok⟩
theorem TlR.keep{W W':ak}{A1 A2:Option aS}{n1 n2:Nat}{t:Tl}{F:List Nat}(h:TlR W A1 n1 A2 n2 t)(hf:jD F W W')(h1:∀b∈sP A1,b∉F)(h2:∀b∈sP A2,b∉F):TlR W' A1 n1 A2 n2 t:=by
 obtain⟨k1,k2,k3⟩:=h;refine⟨k1.keep hf h1,k2,?_⟩;rcases k3 with k3|⟨g,d,rfl,k4,k5⟩
 ·exact .a k3
 ·exact .b ⟨g,d,rfl,hf.box k4 (h2 g (by simp[sP])),k5⟩
theorem TlR.go{W W':ak}{A1 A2:Option aS}{n1 n2:Nat}{t:Tl}(h:TlR W A1 n1 A2 n2 t)(hb:aL W.a.j W W'):TlR W' A1 n1 A2 n2 t:=h.keep (F:=[]) (jD.jl hb) (fun _ _ h=>by cases h) (fun _ _ h=>by cases h)
structure Md(W:ak)(q:Nat)(e:En)(s:pG)(x:Eg)(q2 g:Nat)(sl:List (Option Fw)):Prop where
 eg:dJ W q x.ay
 key:x.key=e.key
 cf:x.cf={e.c with qG:=x.cf.qG,iI:=x.cf.iI,qH:=x.cf.qH}
 Y:x.pl.Y=s.Y
 vs:gX Vp.ay 20 W W.a.j x.cf.qG x.cf.iI e.vs
 h:gX Bk.ay 27 W W.a.j x.pl.rA x.pl.rN s.qU
 hl:gX Hl.ay 3 W W.a.j x.Ov x.DZ s.G
 fl:x.fl=some q2
 tb:Ky W q2 g e.key e.c.Y sl s.h
 rm:e.c.Y*2<=sl.a
 nq:q≠q2/\q≠g
 Hz:∀b∈qw x,b<W.a.j/\b≠q/\b≠q2/\b≠g
 gF:x.gF=s.gF
 no:x.no=s.no
 lW:x.lW=s.lW
structure yM(W:ak)(q:Nat)(e:En)(s:pG)(x:Eg)(q2 g:Nat)(sl:List (Option Fw)):Prop where
 b:Md W q e s x q2 g sl
 dn:gX txA 1 W W.a.j x.dnA x.dnN (j6 s.G)
 tt:TlR W x.tb.nI x.tb.nP x.tb.mE x.tb.mR (uf e s)
variable {W W':ak} {q:Nat} {e:En} {s:pG} {x:Eg} {q2 g:Nat} {sl:List (Option Fw)}
theorem Md.go(h:Md W q e s x q2 g sl)(hb:aL W.a.j W W'):Md W' q e s x q2 g sl:=
 ⟨h.eg.go hb,h.key,h.cf,h.Y,h.vs.go hb,h.h.go hb,h.hl.go hb,h.fl,h.tb.go hb,h.rm,h.nq,fun b hm=>by have:=h.Hz b hm;have:=hb.j;omega,h.gF,h.no,h.lW⟩
theorem yM.go(h:yM W q e s x q2 g sl)(hb:aL W.a.j W W'):yM W' q e s x q2 g sl:=⟨h.b.go hb,h.dn.go hb,h.tt.go hb⟩
theorem Md.lt(h:Md W q e s x q2 g sl):q<W.a.j/\q2<W.a.j/\g<W.a.j:=⟨h.eg.lt,h.tb.w.lt⟩
theorem Md.i(h:Md W q e s x q2 g sl){b:Nat}(hb:b∈qw x):b∉[q]:=by have:=h.Hz b hb;simp;omega
theorem Md.XP(h:Md W q e s x q2 g sl){A:Option aS}{n c:Nat}{t:Tc}(hf:jD [q] W W')(hb:dJ W' q ({x with dnA:=A,dnN:=n,dnC:=c,tb:=t}:Eg).ay)(hr:∀b,b∈sP A\/b∈sP t.nI\/b∈sP t.mE->b∈qw x\/W.a.j<=b/\b<W'.a.j):Md W' q e s ({x with dnA:=A,dnN:=n,dnC:=c,tb:=t}:Eg) q2 g sl:=by
 have hs:=hf.j;have hlt:=h.lt;refine⟨hb,h.key,h.cf,h.Y,h.vs.keep hf (fun b hm=>h.i (dS.2 (.a hm))),h.h.keep hf (fun b hm=>h.i (dS.2 (.b (.a hm)))),h.hl.keep hf (fun b hm=>h.i (dS.2 (.b (.b (.a hm))))),h.fl,h.tb.keep hf (by have:=h.nq;simp;omega) (by have:=h.nq;simp;omega),h.rm,h.nq,fun b hm=>?_,h.gF,h.no,h.lW⟩;have key:b∈qw x\/W.a.j<=b/\b<W'.a.j:=by
  rcases dS.1 hm with hm|hm|hm|hm|hm|hm
  ·exact .a (dS.2 (.a hm))
  ·exact .a (dS.2 (.b (.a hm)))
  ·exact .a (dS.2 (.b (.b (.a hm))))
  ·exact hr b (.a hm)
  ·exact hr b (.b (.a hm))
  ·exact hr b (.b (.b hm))
 rcases key with hm|hm
 ·have:=h.Hz b hm;omega
 ·omega
theorem mP.few{M:Int}(h:mP M e s):s.qU.a<=1024/\s.G.a<=1024/\∀y∈s.qU,y.E.a<=24:=by
 have h1:=(tK.1 h.pl)
 have h2:s.G.a=s.qU.a:=by have:=congrArg List.length h.nm;simpa using this
 refine⟨h1.2.2.1,by have:=h1.2.2.1;omega,fun y hy=>?_⟩;have h3:=(h1.2.2.2.1 y hy).1;unfold Bk.Br uR at h3;simp only[bf,decide_eq_true_eq]at h3;exact h3.1.1.1.2.2
theorem Qi{M:Int}(h:mP M e s)(ls:List (List UInt8)):aqK (kr ls s.qU)/\∀y∈kr ls s.qU,y.E.a<=1000000:=by
 have hf:=h.few;refine⟨⟨?_,?_,?_⟩,?_⟩
 ·unfold WM kr
  rw[List.pairwise_map];exact h.srt.imp (fun{a b} hab=>by first|exact hab|exact Zo hab)
 ·intro y hy
  unfold kr at hy;obtain⟨z,_,rfl⟩:=iQ.1 hy;have:=arM z.w;unfold Gb;simp only;split<;>omega
 ·unfold kr;rw[bQ];exact hf.1
 ·intro y hy
  unfold kr at hy;obtain⟨z,hz,rfl⟩:=iQ.1 hy;have:=hf.2.2 z hz;unfold Gb;simp only;omega
theorem aq1(l:List (List UInt8)):(l.h fun x=>(txA x).a)=l.map fun s=>ig (bK s):=by
 induction l with
 | nil=>rfl
 | cons a l ih=>rw[iK,kL,ih];rfl
theorem gX.st{B n:Nat}{A:Option aS}{l:List (List UInt8)}(h:gX txA 1 W B A n l):aaK W B A n l:=by
 have:=h.2.1;rw[aq1]at this;exact this
theorem Kj(l:List Hl):(j6 l).a<=l.a:=by unfold j6;rw[bQ];exact oK _ _
theorem oO.Ay{T:bM}{n b:Nat}{z c d:Array aB}(K:oO T n z)(h:dJ W b c)(o:Nat)(hc:c.m o (o+n)=d)(hs:o+n<=c.j):(xu T (.c (some ⟨b,o,none⟩))).I ah W=.ok (.d d) W:=by
 obtain⟨_,_,h3,h4⟩:=h.K;rw[K.ld W b o (by rw[h3 o n (by unfold dZ;omega)];trivial),h4 o n (by unfold dZ;omega),hc]
theorem Eg.akr{x:Eg}(h:dJ W q x.ay):W.rangeAt q 0 (x.key.a.map bv):=by
 intro j v hj;have hj6:j<16:=by
  rcases aZ j 16 with h1|h1
  ·exact h1
  ·rw[aT (by simpa using h1)]at hj;cases hj
 have h2:(x.ay.m 0 16)[j]? = (iH x.key)[j]?:=by rw[Eg.abI]
 rw[cu,if_pos (by rw[Eg.G];omega)]at h2;rw[h.K.1,h2];unfold iH;rw[List.getElem?_toArray];exact hj
theorem Xj(key:Vector UInt8 16)(n:Nat)(hp:kZ n=true)(hn:n<=65537)(l:List oN)(hk:aqK l)(hnm:∀x∈l,x.E.a<=1000000)(A:Option aS)(m c:Nat)(w:ak)(hR:gX oN.ay 2 w w.a.j A m l):
 aQ ah 27 #[.d (key.a.map bv).toArray,.b .a n,.a A m c] w fun e w'=>∃t:Tc,e=.a (.J #[.d t.ay,.b .a 0])/\TlR w' t.nI t.nP t.mE t.mR (uz key n l)/\aL w.a.j w w'/\∀b,b∈sP t.nI\/b∈sP t.mE->w.a.j<=b/\b<w'.a.j:=by
 refine(aeu key n hp hn l hk hnm A m c w hR).g ?_;rintro e w' ⟨A1,n1,c1,A2,n2,c2,rfl,h1,h2,h3,h4⟩;refine⟨⟨A1,n1,c1,A2,n2,c2⟩,rfl,h1,h2,fun b hb=>?_⟩;rcases hb with hb|hb
 ·obtain⟨a,ha,rfl⟩:=Dw.1 hb;exact h3 a ha
 ·obtain⟨a,ha,rfl⟩:=Dw.1 hb;exact h4 a ha
def abU(W:ak)(q:Nat)(e:En)(s:pG)(x:Eg)(q2 g:Nat)(sl:List (Option Fw))(r:lq)(W':ak):Prop:=
 r=.a (.J #[])/\(∃x',yM W' q e s x' q2 g sl/\∀b∈qw x',b∈qw x\/W.a.j<=b)/\jD [q] W W'
theorem Jr{M:Int}(h:Md W q e s x q2 g sl)(hi:mP M e s):aQ ah 64 #[.c (some ⟨q,0,none⟩)] W (abU W q e s x q2 g sl):=by
 have aks:=hi.few;obtain⟨⟨sz2,szb,szp⟩,_⟩:=qD hi.cn;have hhn:=h.hl.1;have hbn:=h.h.1;have CD:=ab (alO s.G x.Ov x.DZ x.Sw W h.hl (by omega));unfold TxP at CD;have f72:=(h.eg.K.1 72).trans (Eg.aag x);have H:=ab h;have HI:=ab hi;have HSH:=ab (Qi hi (j6 s.G));have HDN:=ab (Kj s.G);have azC:=ab aks;have HSZ:=ab (show(0<=e.c.j/\e.c.j<=65537)/\kZ e.c.j.e=true from⟨⟨by omega,szb⟩,szp⟩);have HHN:=ab hhn;have HBN:=ab hbn;clear hi h aks sz2 szb szp hhn hbn;go_enter Tryz.func64,Tryz.ntmps64;go_upto_region 1 with(go_at_call 130;(with_reducible refine CD.i.g ?_);rintro r w1 ⟨A,n,c,rfl,hn,ho,hb⟩;have aEv:=(H.i.eg.go hb).K.2.1 73;have f73:=((H.i.eg.go hb).K.1 73).trans (Eg.anN x);have H1:=ab (H.i.go hb);have O1:=ab ho;have N1:=ab hn;have F1:=ab (jD.jl (F:=[q]) hb);clear hb ho hn f72)
 obtain⟨x1,hx1⟩:∃x1:Eg,x1={x with dnA:=A,dnN:=n,dnC:=c}:=⟨_,rfl⟩
 have hb1:dJ (w1.F ⟨q,73,none⟩ (.a A n c)) q x1.ay:=by
  have:=H1.i.eg.eH 73 (.a A n c);rw[Eg.avg]at this;rw[hx1];exact this
 have hf1:jD [q] W (w1.F ⟨q,73,none⟩ (.a A n c)):=F1.i.set ⟨q,73,none⟩ _ (.a (by simp));have HF1:=ab hf1;have HFR:=ab (jZ O1.i);have RDN:=ab (show gX txA 1 (w1.F ⟨q,73,none⟩ (.a A n c)) (w1.F ⟨q,73,none⟩ (.a A n c)).a.j A n (j6 s.G)from(gX.gU N1.i O1.i).keep ((jD.refl [q] w1).set ⟨q,73,none⟩ _ (.a (by simp))) (fun b hb=>by have:=jZ O1.i b hb;have:=H.i.lt;simp;omega));have RBK:=ab (H.i.h.keep hf1 (fun b hm=>H.i.i (dS.2 (.b (.a hm)))));have HSW:=ab (show W.a.j<=w1.a.j from F1.i.j);have HWS:(w1.F ⟨q,73,none⟩ (.a A n c)).a.j=w1.a.j:=by simp[gY]
 have HWZ:=ab HWS;have HB1:=ab hb1;generalize w1.F ⟨q,73,none⟩ (.a A n c)=w2 at HF1 RDN RBK HWZ HB1 ⊢;clear hb1 hf1 HWS O1 H1 f73 aEv CD F1;have K1:=ab (fun(w':ak) (t:Tc) (h:dJ w' q ({x1 with tb:=t}:Eg).ay)=>show w'.rangeAt q 0 (e.key.a.map bv)/\w'.b ⟨q,17,none⟩=some (.b .a e.c.j)/\(xu 32 (.c (some ⟨q,70,none⟩))).I ah w'=.ok (.d x.pl.ay) w'/\w'.b ⟨q,73,none⟩=some (.a A n c)by
  subst hx1;have hk:x.key=e.key:=H.i.key;have hs:x.cf.j=e.c.j:=by rw[H.i.cf]
  refine⟨?_,?_,kPc.Ay h 70 (Eg.aif _) (by rw[Eg.G];omega),(h.K.1 73).trans (Eg.anN _)⟩
  ·have hr:=Eg.akr h;rw[<-hk];exact hr
  ·rw[<-hs];exact(h.K.1 17).trans (Eg.Dq _))
 have HBX:=ab (show dJ w2.drew q ({x1 with tb:=x.tb}:Eg).ay by have:=HB1.i.drew;rw[hx1]at this⊢;exact this);obtain⟨k1,k2,k3,k4⟩:=K1.i _ _ HBX.i;have hxb:=HBN.i;have hdl:=N1.i;have CS:=ab (Vk s.qU (fun y hy=>HI.i.fi y hy) x.pl.Y x.pl.rA x.pl.rC (j6 s.G) A c w2.drew (by rw[hxb];exact RBK.i.arK) (by rw[hdl];exact RDN.i.arK.st) (by have:=azC.i;omega) (by have:=azC.i;have:=HDN.i;omega));rw[hxb,hdl]at CS;unfold M7 at CS
 replace CS:=ab (show aQ ah 28 #[.d x.pl.ay,.a A n c] w2.drew _ from CS.i)
 have CM:=ab (fun w (A:Option aS) (m c:Nat) (hR:gX oN.ay 2 w w.a.j A m (kr (j6 s.G) s.qU))=>Xj e.key e.c.j.e HSZ.i.2 (by have:=HSZ.i.1;omega) _ HSH.i.1 HSH.i.2 A m c w hR);rw[show((e.c.j.e:Nat):Int)=e.c.j from kH HSZ.i.1.1]at CM;have HX1:=ab hx1;clear hx1 hxb hdl;have hU:=nX;have hI:(ah.l 22).map (·.j)=some (e.key.a.map bv).a:=by rw[bQ,lT];kernel_rfl
 go_region_held_law (fun w'=>w'.rangeAt q 0 (e.key.a.map bv)/\w'.b ⟨q,17,none⟩=some (.b .a e.c.j)/\(xu 32 (.c (some ⟨q,70,none⟩))).I ah w'=.ok (.d x.pl.ay) w'/\w'.b ⟨q,73,none⟩=some (.a A n c))
  (first|exact K1.i _ _ HBX.i|exact K1.i _ _ HB3.i|exact K1.i _ _ HB4.i|exact K1.i _ _ HB5.i|go_keep)
  (first
  | (go_at_call 28;(with_reducible refine CS.i.g ?_);rintro r w3 ⟨A3,c3,rfl,ho3,hb3⟩;have HB3:=ab (HBX.i.go hb3);have CM3:=ab (CM.i w3 A3 _ c3 (gX.gU rfl ho3));have BL3:=ab hb3;clear ho3 hb3)
  | (go_at_call 27;(with_reducible refine CM3.i.g ?_);rintro r w4 ⟨t,rfl,ht,hb4,hf4⟩;have HB4:=ab (HB3.i.go hb4);have HT4:=ab ht;have BL4:=ab (gV BL3.i hb4);have HF4:=ab hf4;have th:=HB4.i.O 75 2 (by rw[Eg.G];omega);have HB5:=ab (show dJ (gI w4 q 75 t.ay) q ({x1 with tb:=t}:Eg).ay by have:=HB4.i.setCells 75 t.ay.a;rw[show t.ay.a.toArray=t.ay by simp,Eg.avj]at this;exact this);clear ht hb4 hf4))
 have BW:=ab (gV ((aH w2.a.j w2).drew) BL4.i);have F4:jD [q] W w4:=HF1.i.S BW.i HF1.i.j;have F5:jD [q] W (gI w4 q 75 t.ay):=F4.grown (lM (dN w4 (some q)) 75 t.ay) (fun k e=>.a (by injection e with e;simp[e]));have FS:jD [q] w4 (gI w4 q 75 t.ay):=(jD.refl [q] w4).grown (lM (dN w4 (some q)) 75 t.ay) (fun k e=>.a (by injection e with e;simp[e]));have hsz:=BW.i.j;have aKY:=BL3.i.j;have hw1:=HSW.i;have hwz:=HWZ.i;have hs5:=FS.j;have hq:=H.i.lt;have hnew:∀b,b∈sP A\/b∈sP t.nI\/b∈sP t.mE->W.a.j<=b/\b<(gI w4 q 75 t.ay).a.j:=fun b hm=>by
  rcases hm with hm|hm
  ·have:=HFR.i b hm;omega
  ·have:=HF4.i b hm
   have h3:w2.drew.a.j=w2.a.j:=rfl;omega
 go_end0;refine⟨rfl,⟨{x with dnA:=A,dnN:=n,dnC:=c,tb:=t},⟨H.i.XP F5 (by have:=HB5.i;rw[HX1.i]at this;exact this) (fun b hm=>.b (hnew b hm)),?_,?_⟩,fun b hm=>?_⟩,F5⟩
 ·have h1:=(RDN.i.go BW.i)
  exact h1.keep FS (fun b hm=>by have:=(hnew b (.a hm)).1;simp;omega)
 ·exact HT4.i.keep FS (fun b hm=>by have:=(hnew b (.b (.a hm))).1;simp;omega) (fun b hm=>by have:=(hnew b (.b (.b hm))).1;simp;omega)
 ·rcases dS.1 hm with hm|hm|hm|hm|hm|hm
  ·exact .a (dS.2 (.a hm))
  ·exact .a (dS.2 (.b (.a hm)))
  ·exact .a (dS.2 (.b (.b (.a hm))))
  ·exact .b (hnew b (.a hm)).1
  ·exact .b (hnew b (.b (.a hm))).1
  ·exact .b (hnew b (.b (.b hm))).1
end
theorem aex(l:List Bk)(v:Int)(A:Option aS)(n c:Nat)(w:ak)(hR:gX Bk.ay 27 w w.a.j A n l)(hn:n<=100000):
 aQ ah 73 #[.d (Pc.mk v A n c).ay] w fun e w'=>∃A' n' c',e=.a (.a A' n' c')/\gX txA 1 w' w'.a.j A' n' (l.map (·.E))/\aL w.a.j w w':=by
 have Z0:=ab ((Rz.nil (f:=nmC) (sz:=1) (e:=9) w).new (Pc.mk v A n c).ay 32);have HL:=ab hR.1;have HR:=ab hR;have f1:=(Z0.i.X.K.1 1).trans (Pc.anL _);clear hR;go_enter Tryz.func73,Tryz.ntmps73;go_upto_region 1 with fail
 generalize w.alloc (.D (Pc.mk v A n c).ay 32)=w1 at Z0 f1 ⊢;go_wp2_with fail;go_loopw [3,9] (fun v3 v9 wr=>∃k A' n' c',k<=n/\v9=.b .a (k:Nat)/\v3=.a A' n' c'/\Rz nmC 1 9 [(w.a.j,(Pc.mk v A n c).ay)] w wr (.a A' n' c') ((l.d k).map (·.E))) (fun _ v9 _=>n-(intOf v9).e)
 case atStart=>exact⟨0,none,0,0,iX _,rfl,rfl,Z0.i⟩
 case round=>
  obtain⟨k,A1,n1,c1,hk,rfl,rfl,hz⟩:=hrel;by_cases hlt:k<n
  ·have hki:(k:Int)<n:=by omega
   have i1:=jS ((k:Int)+1) (by omega);have hr:=(HR.i.S hz.R).lD (B':=wr.a.j) hz.R.j;obtain⟨b,o,rfl,hbl,a1,a2⟩:=hr.at_ Bk.G jk hlt;obtain⟨x,hx⟩:=dw (l.b k jk);rw[<-hx]at a2;have HS:=ab (show(l.d (k+1)).map (·.E)=(l.d k).map (·.E)++[x.E]by
    rw[dP (by rw[HL.i];exact hlt),je,hx,au,aC (by rw[HL.i];exact hlt)];rfl)
   have HZ:=ab hz;have Z2:=ab (hz.alloc (.D x.ay 62));have Z3:=ab (Z2.i.alloc (.D (nmC x.E) 9));have RO:=ab (gX.one (f:=nmC) x.E Oe (wr.alloc (.D x.ay 62)) 9);simp only[sZ]at RO;have HGL:=ab (show((l.d k).map (·.E)).a+1<=1000000 by rw[bQ,bJ];omega);have BX:=dJ.new wr x.ay 62;have f0:=(BX.K.1 0).trans (Bk.pW x);clear hx hz hr BX hbl;go_wp2_with (at_builtin;refine Px aib rfl (.a 13) (.a 16) rfl rfl Z3.i rfl RO.i HGL.i ?_;intro A5 n5 c5 w5 h5 h6;have Z5:=ab h5;clear h5 h6);go_roundw
   case rel=>exact⟨k+1,A5,n5,c5,by omega,by simp,rfl,by rw[HS.i];exact Z5.i⟩
   case measure=>simp[intOf];omega
  ·obtain rfl:k=n:=by omega
   have hd:decide ((k:Int)<k)=false:=by simp
   have HZ:=ab hz;clear hz;go_wp2;go_ret;have h1:=HZ.i;rw[aK (by rw[HL.i];exact av _)]at h1;exact⟨A1,n1,c1,rfl,h1.rd,h1.R⟩
section
variable {W W':ak} {q:Nat} {e:En} {s:pG} {x:Eg} {q2 g:Nat} {sl:List (Option Fw)}
def Q7(k:Int):aB:=.iface 219 (.b .a k)
def azE(r:Option (Bk×Bool)):lq:=match r with
 | some (b,h)=>.a (.J #[.d b.ay,.e h])
 | none=>.panicked [{v:=Q7 8,recovered:=false}]
theorem dJ.abV{W:ak}{b o:Nat}{c:Array aB}{t:Tu}(h:dJ W b c)(hc:c.m o (o+37)=t.ay)(hs:o+37<=c.j):(tL (.c (some ⟨b,o,none⟩))).I ah W=.ok (.d t.ay) W:=by
 obtain⟨_,_,h3,h4⟩:=h.K;rw[JX W b o (by rw[h3 o 37 (by unfold dZ;omega)];trivial),h4 o 37 (by unfold dZ;omega),hc]
theorem Md.anV(h:Md W q e s x q2 g sl){W':ak}(hb:aL W.a.j W W'):W'.b ⟨q,74,none⟩=some (.c (some ⟨q2,0,none⟩)):=by
 rw[(h.eg.go hb).K.1 74,Eg.aah];show some (su (x.fl.map fun b=>⟨b,0,none⟩))=_;rw[h.fl];rfl
theorem Md.agR(h:Md W q e s x q2 g sl){W':ak}(hb:aL W.a.j W W'):(xu 32 (.c (some ⟨q,70,none⟩))).I ah W'=.ok (.d x.pl.ay) W':=kPc.Ay (h.eg.go hb) 70 (Eg.aif _) (by rw[Eg.G];omega)
theorem yM.VI(h:yM W q e s x q2 g sl){M:Int}(hi:mP M e s){W':ak}(hb:aL W.a.j W W')(n:List UInt8)(K:Bool)(b:Bk)(h1:rE s.qU n=K)(h2:oM s.qU n=b):aQ ah 33 #[.d x.pl.ay,.g (bK n)] W' fun e w'=>e=.a (.J #[.d b.ay,.e K])/\aL W'.a.j W' w':=
 aji s.qU hi.srt n x.pl.Y x.pl.rA x.pl.rN x.pl.rC W' (h.b.h.go hb) (by have:=hi.few;have:=h.b.h.1;omega) K b h1 h2
theorem aey(k:Vector UInt8 16)(l:List UInt8):xK k l<18446744073709551616:=by
 have key:∀(ws:List Nat)(st:S4),st.ok->(∀n∈ws,n<18446744073709551616)->(ws.foldl UK st).ok:=by
  intro ws
  induction ws with
  | nil=>intro st h _;exact h
  | cons n ws ih=>intro st h hw;exact ih _ (aaJ h (hw n (by simp))) (fun m hm=>hw m (jy _ hm))
 unfold xK alJ;exact apg (MG 4 _ (aaI (key _ _ (ahp k) (YI _ l _ rfl (fE _ (by decide)))) (by decide)))
theorem aez(r:Option (List UInt8)):asD r = .J #[.g (bK (r.b [])),.e r.isSome]:=by cases r<;>rfl
theorem agS{M:Int}(hi:mP M e s):azz (uf e s)/\(uf e s).ra.a<=65537/\(uf e s).h.a<=1024:=by
 obtain⟨⟨_,szb,szp⟩,_⟩:=qD hi.cn;have h0:∀y∈kr (j6 s.G) s.qU,0<=y.q:=fun y hy=>((Qi hi (j6 s.G)).1.2.1 y hy).1
 have hnl:(uf e s).h.a<=1024:=by
  have h1:=hi.few.1;unfold uf uz;simp only;split
  ·simp
  ·simp only[bQ]
   refine aO (oK _ _) ?_;unfold kr;rw[bQ];exact h1
 rcases YR (key:=e.key) szp h0 with⟨h1,h2⟩|⟨h1,h2⟩
 ·refine⟨fun j hj=>?_,?_,hnl⟩
  ·have:(uf e s).ra.a=0:=by unfold uf;rw[h1];rfl
   omega
  ·have:(uf e s).ra.a=0:=by unfold uf;rw[h1];rfl
   omega
 ·refine⟨fun j hj=>h2 j (by unfold uf at hj;rwa [h1]at hj),?_,hnl⟩
  have:(uf e s).ra.a=e.c.j.e:=h1;omega
theorem kBk:oO 62 27 jk.ay:=⟨⟨_,Tryz.underlying62,rfl⟩,by kernel_rfl,by kernel_rfl,Bk.G _⟩
theorem dJ.avl{W:ak}{b:Nat}{y:Bk}(h:dJ W b y.ay):(Un (.c (some ⟨b,0,none⟩))).I ah W=.ok (.d y.ay) W:=by
 have:=kBk.Ay h 0 (d:=y.ay) (by have:=Bk.G y;rw[<-this];simp) (by rw[Bk.G];omega);exact this
theorem Yn{M:Int}(h:yM W q e s x q2 g sl)(hi:mP M e s)(t:Tu)(ht:xq t):aQ ah 136 #[.c (some ⟨q,0,none⟩),.d t.ay] W fun r W'=>r=azE (Dv e s t)/\aL W.a.j W W':=by
 have Z0:=ab (((Bx.start W).new t.ay 81).new jk.ay 62);rw[show(W.alloc (.D t.ay 81)).a.j=W.a.j+1 by simp]at Z0;have H:=ab h;have HI:=ab hi;have HT:=ab ht;obtain⟨o,ho⟩:=dw (lX s.h t);have HO:=ab ho;have CG:=ab (fun(w:ak) (hb:aL W.a.j W w)=>J9 (H.i.b.tb.go hb) t);rw[<-ho]at CG;have hcg:∀o,anv o = .J #[.d (wD o).qW.ay,.e o.isSome]:=fun _=>rfl
 simp only[hcg]at CG;clear h hi ht ho hcg;go_enter Tryz.func136,Tryz.ntmps136;go_upto_region 1 with fail
 generalize(W.alloc (.D t.ay 81)).alloc (.D jk.ay 62)=w1 at Z0 ⊢;refine xB (Bx.abt ([(W.a.j+1,jk.ay),(W.a.j,t.ay)]) W) 9 10 8 6 22 86 jq.ay (by kernel_rfl) rfl rfl rfl rfl rfl (by kernel_rfl) (by kernel_rfl) (by kernel_rfl) (by kernel_rfl) (by kernel_rfl) rfl rfl rfl (fun a w=>by simp[go_sem]) (tO rfl) Z0.i.drew ?_;apply rP;refine⟨fun T f hT es ew=>?_,?_⟩
 ·have EW:=ab ew
  have ES:=ab es;have l1:=fun m=>pF (ES.i m).b1
  have l2:=fun m=>H.i.b.anV (ES.i m).R
  have CF:=ab (fun m=>CG.i _ (ES.i m).R);clear es ew;simp only[mK,yu,kW,bG,bP,jM,jX]
  repeat(go_big_quiet_step ((first|(go_at_call 126;(with_reducible refine(CF.i _).g ?_);rintro e w2 ⟨rfl,hb⟩;exact⟨rfl,EW.i _ _ hb⟩))))
  exact gK rfl
 ·intro w9 w8 zO _ hb
  have ZN:=ab ((zO.new jq.ay 86).go hb);have hyy:=ab zO;have hy:=zO.R.j;have hyv:=ab (fun p (hp:p∈[(W.a.j+1,jk.ay),(W.a.j,t.ay)])=>((zO.2 p hp).2.lt:p.1<w9.a.j));generalize w9.a.j=y at *;clear hb zO;have yK:=ZN.i.X.O 0 41 (aW (Fw.G jq).symm);refine⟨gI w8 y 0 (wD o).qW.ay,?_,?_⟩
  ·simp[go_sem,yK];rfl
  simp only[Act.put,bH,bG,bP,jN,kX];have Z5:=ab (ZN.i.put (fun p hp=>jJ (hyv.i p hp)) (wD o).qW.ay (by rw[Fw.G,Fw.G]));have HYB:=ab (fun p hp=>hyv.i p hp);clear yK ZN hyy hyv;generalize gI w8 y 0 (wD o).qW.ay=w9 at Z5 ⊢;go_step;go_step;go_step;have hlt:=H.i.b.lt;have hyW:W.a.j<=y:=by have:=HYB.i (W.a.j,t.ay) (by simp);simp at this;omega
  obtain⟨z,hz⟩:=dw ((match o with|some f=>!qZ (j6 s.G) f.E|none=>false));go_upto_region 2 with fail
  go_cut [33]from 23 to 32 (fun s33 wx=>s33=.e z/\Bx [(y,(wD o).qW.ay),(W.a.j+1,jk.ay),(W.a.j,t.ay)] W wx)
  case first=>
   cases o with
   | none=>
     go_wp2_with fail;go_quiet (fail);go_wp2_with fail;go_meet
     case rel=>exact⟨by rw[hz],Z5.i.go (fO (aH _ _) nq)⟩
   | some f=>
     have CC:=ab (fun n=>MH (j6 s.G) f.E x.dnA x.dnC (w9.drewN n) (by rw[H.i.dn.1];exact(H.i.dn.go (Z5.i.R.trans ((fO (aH W.a.j _) n).g (av _)))).st) (by have:=Kj s.G;have:=HI.i.few;omega));rw[H.i.dn.1]at CC;have f73:=((H.i.b.eg.go Z5.i.R).K.1 73).trans (Eg.anN x);have f37:=(Z5.i.X.K.1 37).trans (Fw.Vv f);go_wp2_with fail;go_quiet ((go_at_call 87;(with_reducible refine(CC.i _).g ?_);rintro e w2 ⟨rfl,rfl⟩;exact⟨rfl,_,rfl⟩));go_wp2_with fail;go_meet
     case rel=>exact⟨by rw[hz],Z5.i.go (fO (aH _ _) nq)⟩
  obtain⟨rfl,Z6⟩:=hcut;have Z6:=ab Z6;generalize wc=w10 at Z6 ⊢;clear Z5 CG;go_upto_if 33 with fail
  go_cut []from 34 to 45 (fun wx=>NT s t=none/\Bx [(W.a.j+1,jk.ay),(W.a.j,t.ay)] W wx)
  case first=>
   cases z with
   | false=>
     have HN:NT s t=none:=by
      unfold NT;rw[<-HO.i];cases o with
      | none=>rfl
      | some f=>simp only at hz⊢;rw[<-hz];simp
     go_wp2_with fail;go_meet
     case rel=>exact⟨HN,Z6.i.sub (L':=[(W.a.j+1,jk.ay),(W.a.j,t.ay)]) (by simp)⟩
   | true=>
     cases o with
     | none=>cases hz
     | some fl=>
       have HD:=ab (show qZ (j6 s.G) fl.E=false by simpa using hz.symm);obtain⟨K,hK⟩:=sH (rE s.qU fl.E);obtain⟨b,hb⟩:=sH (oM s.qU fl.E);have CP:=ab (fun w (hb':aL W.a.j W w)=>H.i.VI HI.i hb' fl.E K b hK hb);have HK:=ab hK;have Hq:=ab hb;have HO2:=ab HO.i;have Z6:=ab (show Bx [(y,fl.ay),(W.a.j+1,jk.ay),(W.a.j,t.ay)] W w10 from Z6.i);clear hK hb hz;go_upto_region 3 with fail
       refine xB (Bx.abt ([(y,fl.ay),(W.a.j+1,jk.ay),(W.a.j,t.ay)]) W) 10 11 9 8 43 62 jk.ay (by kernel_rfl) rfl rfl rfl rfl rfl (by kernel_rfl) (by kernel_rfl) (by kernel_rfl) (by kernel_rfl) (by kernel_rfl) rfl rfl rfl (fun a w=>by simp[go_sem]) (tO rfl) Z6.i.drew ?_;apply rP;refine⟨fun T f hT es ew=>?_,?_⟩
       ·have EW:=ab ew
        have ES:=ab es;have l1:=fun m=>H.i.b.agR (ES.i m).R
        have l2:=fun m=>((ES.i m).X.K.1 37).trans (Fw.Vv fl)
        have CF:=ab (fun m=>CP.i _ (ES.i m).R);clear es ew;simp only[mK,yu,kW,bG,bP,jM,jX]
        repeat(go_big_quiet_step ((first|(go_at_call 33;(with_reducible refine(CF.i _).g ?_);rintro e w2 ⟨rfl,hb⟩;exact⟨rfl,EW.i _ _ hb⟩))))
        exact gK rfl
       ·intro w9 w8 zO _ hb
        have ZN:=ab ((zO.new jk.ay 62).go hb);have hyy:=ab zO;have hy:=zO.R.j;have hyv:=ab (fun p (hp:p∈[(y,fl.ay),(W.a.j+1,jk.ay),(W.a.j,t.ay)])=>((zO.2 p hp).2.lt:p.1<w9.a.j));generalize w9.a.j=y_1 at *;clear hb zO;have yK:=ZN.i.X.O 0 27 (aW (Bk.G jk).symm);refine⟨gI w8 y_1 0 b.ay,?_,?_⟩
        ·simp[go_sem,yK];rfl
        simp only[Act.put,bH,bG,bP,jN,kX];have Z7:=ab (ZN.i.put (fun p hp=>jJ (hyv.i p hp)) b.ay (by rw[Bk.G,Bk.G]));have HYC:=ab (fun p hp=>hyv.i p hp);clear yK ZN hyy hyv CP;generalize gI w8 y_1 0 b.ay=w11 at Z7 ⊢;go_step;go_step;go_step;cases K with
        | false=>
          have HN:=ab (show NT s t=none by unfold NT;rw[<-HO2.i];simp only;rw[HK.i];rfl);go_wp2_with fail;go_meet
          case rel=>exact⟨HN.i,Z7.i.sub (L':=[(W.a.j+1,jk.ay),(W.a.j,t.ay)]) (by simp)⟩
        | true=>
          have HN:=ab (show Dv e s t=some (b,true)by
           have:NT s t=some fl.E:=anc HO2.i.symm HK.i HD.i;unfold Dv;rw[this];simp only;rw[Hq.i])
          have lb:=Z7.i.X.avl;have th:=Z7.i.b2.O 0 27 (aW (Bk.G jk).symm);have Z8:=ab ((Z7.i.sub (L':=[(W.a.j+1,jk.ay),(W.a.j,t.ay)]) (by simp)).put (fun p hp=>by simp at hp;subst hp;simp) b.ay (by rw[Bk.G,Bk.G]));go_wp2;refine aN (kBk.qB rfl _ rfl Z8.i.X (Bk.G _)) rfl ?_;rw[HN.i];exact⟨rfl,Z8.i.R⟩
  obtain⟨hn,Zc⟩:=hcut;have HN:=ab hn;have Zc:=ab Zc;have hok:=agS HI.i;obtain⟨hh,hhe⟩:∃v,v=xK e.key (Lj t):=⟨_,rfl⟩
  have hhl:hh<18446744073709551616:=by rw[hhe];exact aey _ _
  have CH:=ab (fun w=>Jm e.key t HT.i w);rw[<-hhe]at CH;obtain⟨r,hr⟩:=dw (Dk (uf e s) hh);have CK:=ab (fun w (hb:aL W.a.j W w)=>show aQ ah 35 #[.d x.tb.ay,.b .u64 (hh:Nat)] w fun e w'=>e=.a (.J #[.g (bK (r.b [])),.e r.isSome])/\aL w.a.j w w' by
   rw[<-aez,hr];exact Xf (uf e s) hok.1 hh hhl x.tb.nI x.tb.nP x.tb.yC x.tb.mE x.tb.mR x.tb.vo w (H.i.tt.go hb) (by have:=H.i.tt.2.1;omega) (by have:=H.i.tt.1.1;omega))
  have HRR:=ab (show Dk (uf e s) (ad4 e t)=r by rw[hr,hhe];rfl);clear hn hok hhe hhl hr Z6 hz hyW;generalize wc=w12 at Zc ⊢;go_wp2_with fail;obtain⟨T,f,n0,E0,es,ew⟩:=vM (w12);have hT:Nonempty T:=⟨n0⟩
  have ES:=ab es;have EW:=ab ew;have l1:=fun m=>pF (Zc.i.go (es m)).b1
  have l2:=fun m=>kTc.Ay (H.i.b.eg.go (Zc.i.go (es m)).R) 75 (Eg.anO _) (by rw[Eg.G];omega)
  have l3:∀m,(xu 22 (.c (some ⟨q,0,none⟩))).I ah (f m)=.ok (.d (iH e.key)) (f m):=fun m=>by have:=Sn.Ay (H.i.b.eg.go (Zc.i.go (es m)).R) 0 (Eg.abI _) (by rw[Eg.G];omega);rw[H.i.b.key]at this;exact this
  have CK2:=ab (fun m=>CK.i (f m) (Zc.i.go (es m)).R);clear es ew;refine oh f (by kernel_rfl) (by kernel_rfl) n0 E0 ?_
  repeat(go_big_quiet_step ((first|(go_at_call 36;(with_reducible refine(CH.i _).g ?_);rintro e w2 ⟨rfl,hb⟩;exact⟨rfl,EW.i _ ((ES.i _).trans (hb.g (ES.i _).j))⟩)|(go_at_call 35;(with_reducible refine(CK2.i _).g ?_);rintro e w2 ⟨rfl,hb⟩;exact⟨rfl,EW.i _ ((ES.i _).trans (hb.g (ES.i _).j))⟩))))
  refine gK ?_;rintro _ ⟨m',rfl⟩;have HB:=ab (ES.i m');generalize f m'=wN at *;clear ES EW E0 hT n0;clear l1 l2 l3 CK2;have Z9:=ab (Zc.i.go HB.i);clear Zc HB CK CH;cases r with
  | none=>
    have HE:=ab (show Dv e s t=none by unfold Dv;rw[HN.i];simp only;rw[HRR.i];rfl);go_wp2;rw[HE.i];exact⟨rfl,rfl,Z9.i.R⟩
  | some n=>
    obtain⟨K,hK⟩:=sH (rE s.qU n);obtain⟨b,hb⟩:=sH (oM s.qU n);have HE:=ab (show Dv e s t=some (b,false)by unfold Dv;rw[HN.i];simp only;rw[HRR.i,Option.map_some,hb]);have CP:=ab (H.i.VI HI.i Z9.i.R n K b hK hb);have l1:=H.i.b.agR Z9.i.R;clear hK hb;go_wp2_with (go_at_call 33;(with_reducible refine CP.i.g ?_);rintro r w13 ⟨rfl,azG⟩;have Z10:=ab ((Z9.i.go azG).new b.ay 62);have lb:=Z10.i.X.avl;have th:=Z10.i.b1.O 0 27 (aW (Bk.G jk).symm);clear azG l1);have Z8:=ab ((Z10.i.sub (L':=[(W.a.j+1,jk.ay),(W.a.j,t.ay)]) (by simp)).put (fun p hp=>by simp at hp;subst hp;simp) b.ay (by rw[Bk.G,Bk.G]));refine aN (kBk.qB rfl _ rfl Z8.i.X (Bk.G _)) rfl ?_;rw[HE.i];exact⟨rfl,Z8.i.R⟩
end
section
attribute [local go_sem high] iT jF
theorem azH:aju 351:=⟨fun c w=>by
 go_enter Tryz.func351,Tryz.ntmps351;go_wp2;go_ret;exact⟨rfl,rfl⟩,fun args w=>by kernel_rfl⟩
theorem aku(s:Bool)(a:fu)(w:ak):aQ ah 307 #[.e s,.d a.ay] w (gM w (.e (a.h==s&&(s||a.mJ)))):=by
 have HB:=ab ((aH w.a.j w).alloc (av _) (.D a.ay 27));have x0:=dJ.new w a.ay 27;have C:=ab (ahO _ azH _ 12 12 _ _ _ (by omega) (gq.tail (B:=w.a.j+1) (mG _) x0));have HS:=ab (J6 a);obtain⟨z,hz⟩:=dw (nzB (a.b.a.f 4));rw[<-hz]at C HS;clear hz;have HZ:=ab (show a.mJ = !z by rw[HS.i];simp);rw[HZ.i];obtain⟨x1,x2,x3,x4⟩:=x0.K;have a0:=fu.pW a;cases s<;>cases h6:a.h
 all_goals
  rw[h6]at a0;go_enter Tryz.func307,Tryz.ntmps307
  first
   | (go_wp2
      go_ret;exact⟨rfl,HB.i⟩)
   | (go_wp2_with fail
      refine C.i.g ?_;rintro e w' ⟨rfl,rfl⟩;cases z
      all_goals
       go_wp2;go_ret;exact⟨rfl,HB.i⟩)
theorem Xk(W:ak)(A:Option aS)(n c:Nat)(l:List UInt8)(k:Nat)(hk:k+1<n)(hnc:n<=c)(hc:c<=9223372036854775807/\n<=1000000)(hr:gq W W.a.j A n l):aQ ah 312 #[.a A n c,.b .a k] W (gM W (.b .u16 (eU l k:Nat))):=by
 have hl:=hr.len;have h0:=ab (vK l k);have h1:(k:Int)+2<=c:=by omega
 have h2:(k:Int)<=(k:Int)+2:=by omega
 obtain⟨m,hm⟩:∃m:Nat,m=k+2:=⟨_,rfl⟩
 have h3:(k:Int)+2=m:=by omega
 have w1:=jS ((k:Int)+2) (by omega);have h4:(k:Int)<=m:=by omega
 have h5:(m:Int)<=c:=by omega
 have P:=hr.adK (z:=k) (b:=m) (c:=c) (by omega) (by omega) hnc;have e2:(l.d m).f k=(l.f k).d 2:=by rw[rD,hm,kJ]
 rw[e2]at P;have C:=ab (Mr _ (m-k) (c-k) _ W (by omega) (by omega) P);rw[Ja l k (by omega)]at C;have h6:Dy.wrap (eU l k:Nat)=(eU l k:Nat):=by have:=h0.i;simp[vP,nQ,lN];omega
 generalize eU l k=x at *;clear P hr e2 hm;go_enter Tryz.func312,Tryz.ntmps312;go_wp2_with (go_at_call 180;with_reducible refine C.i.g ?_;rintro e w' ⟨rfl,hb⟩);go_ret
 first
 | exact⟨rfl,hb⟩
 | exact⟨congrArg (fun z=>Ending.returned (.b .u16 z)) h6,hb⟩
theorem Gv{B:Nat}{L:List (Nat×Array aB)}{w0 W:ak}{A:Option aS}{c:Nat}{bs:List UInt8}(h:Ly B L w0 W (.a A bs.a c) bs)(k z:Nat)(hz:z<=65535)(hk:k+2<=bs.a)(hl:bs.a<=1000000):aQ ah 310 #[.a A bs.a c,.b .a k,.b .u16 z] W fun e W'=>e=.a (.J #[])/\Ly B L w0 W' (.a A bs.a c) (r9 bs k (pY z)):=by
 obtain⟨g,hg1,hg2,hg3,hg4,hg5⟩:=h.h (by omega);subst hg1;have LD:=ab h.drew;have q7:jm.wrap (z:Int)=(z:Int):=by rw[jQ];omega
 have PZ:=ab (fun W=>wK z hz W);rw[vg z hz]at PZ;obtain⟨n,hn⟩:=dw bs.a;have HN:=ab hn;rw[<-hn]at LD hg3 hk hl ⊢;have k1:(k:Int)<=n:=by omega
 have HP:=ab (show 0<2->∃g',(some ⟨g,0,none⟩:Option aS)=some ⟨g',0,none⟩/\vL (some ⟨g,0,none⟩) k c 1=some ⟨g',k,none⟩from fun _=>⟨g,rfl,PY (n:=0) (by omega)⟩);have HZ:=ab (show k+2<=bs.a by omega);have HM:=ab (show 2=qg 2 (n-k)by show 2=min 2 (n-k);omega);clear hn hg2 h;go_enter Tryz.func310,Tryz.ntmps310;go_wp2_with fail;go_region_held_law (fun _=>True) (trivial)
  (first
  | (go_at_call 184;(with_reducible refine(PZ.i _).g ?_);rintro e w9 ⟨A9,rfl,ho,hb⟩;have R9:=ab (Dn ho (aH _ _));have L9:=ab (LD.i.go hb);clear ho hb)
  | (refine NR (o:=⟨some 12,_,_,_,_,_⟩) rfl (.a 8) (.a 11) rfl (some ⟨g,0,none⟩) n c L9.i k 2 (vL (some ⟨g,0,none⟩) k c 1) (n-k) (c-k) rfl A9 2 2 rfl R9.i HM.i HP.i HZ.i ?_;intro w10 h10 h11;have L10:=ab h10;clear h10 h11))
 go_wp2;go_end0;exact⟨rfl,L10.i⟩
end
structure Pz where
 h:Int
 j:Int
 nH:Int
def Pz.ay(x:Pz):Array aB:=#[.b .a x.h,.b .a x.j,.b .a x.nH]
theorem Pz.G(x:Pz):x.ay.j=3:=by simp[Pz.ay]
theorem Pz.cK(x:Pz):x.ay.all (·.h)=true:=by simp[Pz.ay,cB]
@[go_sem]theorem Pz.dZ(x:Pz):dZ x.ay=3:=Pz.G x
@[go_sem]theorem Pz.Dp(x:Pz):x.ay[0]? = some (.b .a x.h):=by simp[Pz.ay,aD]
@[go_sem]theorem Pz.Dq(x:Pz):x.ay[1]? = some (.b .a x.j):=by simp[Pz.ay,aD]
@[go_sem]theorem Pz.JZ(x:Pz):x.ay[2]? = some (.b .a x.nH):=by simp[Pz.ay,aD]
theorem Pz.aeA(x:Pz)(v:Int):x.ay.c 0 (.b .a v)=({x with h:=v}:Pz).ay:=by simp[Pz.ay,aM]
theorem Pz.aeB(x:Pz)(v:Int):x.ay.c 2 (.b .a v)=({x with nH:=v}:Pz).ay:=by simp[Pz.ay,aM]
def abW:Pz:=⟨0,0,0⟩
@[go_sem]theorem azI:bY #[aI bU 0,aI bU 0,aI bU 0]=bY abW.ay:=rfl
@[go_sem]theorem avm:eD #[aI bU 0,aI bU 0,aI bU 0] 376=eD abW.ay 376:=rfl
theorem kPz:oO 376 3 abW.ay:=⟨⟨_,DN,rfl⟩,by kernel_rfl,by kernel_rfl,Pz.G _⟩
@[go_sem ↓]theorem aK1(v:aB):bZ 376 v=xu 376 v:=rfl
@[go_sem ↓]theorem aK2(v x:aB):eF 376 v x=yS 376 v x:=rfl
@[go_sem]theorem aEy(W:ak)(c:Array aB)(x:Pz)(b:Nat)(hb:b=W.a.j)(hc:dZ c=3):(yS 376 (.c (some ⟨b,0,none⟩)) (.d x.ay)).I ah (W.alloc (.D c 376))=.ok () (W.alloc (.D x.ay 376)):=kPz.stN W c x.ay b hb hc (Pz.G x) (Pz.cK x)
@[go_sem]theorem aHy(W:ak)(b o:Nat)(x:Pz)(h:W.O b o 3):(yS 376 (.c (some ⟨b,o,none⟩)) (.d x.ay)).I ah W=.ok () (gI W b o x.ay):=kPz.st W b o x.ay h (Pz.G x) (Pz.cK x)
@[go_sem ↓]theorem aK3(ps:Array (Nat×aB)):fI 376 ps=uN 376 ps:=rfl
theorem aEz(w:ak)(fs:Array nS)(h:ah.underlying 376=some (.struct fs)):(iB (fun f=>Prod.mk f.Z <$> sizeOf f.type) fs:Sem (Array (Nat×Nat))).I ah w=.ok #[(0,1),(1,1),(2,1)] w:=by
 have e:=DN;rw[h]at e;cases e;show _=_
 kernel_rfl
@[go_sem]theorem azJ(W:ak)(jf:Int)(size:Int)(nH:Int):(uN 376 #[(0,.b .a jf),(1,.b .a size),(2,.b .a nH)]).I ah W=.ok (.d (Pz.mk jf size nH).ay) W:=kPz.bd W _ _ _ _ DN (aEz W _ DN) (by
 refine uW (Pz.G _) ?_ ?_
 ·simp[rO,cO]
 ·simp[qN,cO,Pz.ay]<;>(simp only[<-fP];rfl))
def AX(p:Pk)(dst:Bool):Pz:=⟨(p.Cw+if p.J.h.h then 8 else 12)+(if dst then(if p.J.h.h then 16 else 4)else 0),if p.J.h.h then 16 else 4,p.tq+if dst then 2 else 0⟩
theorem aeC(p:Pk)(dst:Bool)(h1:0<=p.Cw/\p.Cw<=10000000)(h2:0<=p.tq/\p.tq<=10000000)(w:ak):aQ ah 309 #[.d p.ay,.e dst] w (gM w (.d (AX p dst).ay)):=by
 have h0:=((Bx.start w).new p.ay 83).new abW.ay 376;rw[show(w.alloc (.D p.ay 83)).a.j=w.a.j+1 by simp]at h0;have Z0:=ab h0;have HV:=ab (show AX p dst=⟨(p.Cw+if p.J.h.h then 8 else 12)+(if dst then(if p.J.h.h then 16 else 4)else 0),if p.J.h.h then 16 else 4,p.tq+if dst then 2 else 0⟩from rfl);clear h0;have KS:=ab (fun(w':ak) (h:dJ w' w.a.j p.ay)=>show w'.b ⟨w.a.j,1,none⟩=some (.e p.J.h.h)/\w'.b ⟨w.a.j,39,none⟩=some (.b .a p.Cw)/\w'.b ⟨w.a.j,40,none⟩=some (.b .a p.tq)from⟨(h.K.1 1).trans (by simp[Pk.ay,Tu.ay,aD,fu.G,Tu.G];rfl),(h.K.1 39).trans (Pk.amD p),(h.K.1 40).trans (Pk.amE p)⟩);go_enter Tryz.func309,Tryz.ntmps309;go_upto_region 1 with fail
 generalize(w.alloc (.D p.ay 83)).alloc (.D abW.ay 376)=w0 at Z0 ⊢;obtain⟨f1,f2,f3⟩:=KS.i _ Z0.i.b1;have q1:=jS (p.Cw+12) (by omega);have q2:=jS (p.Cw+8) (by omega);have P0:=ab (Z0.i.new (Pz.mk (p.Cw+12) 4 p.tq).ay 376);have hy:=Z0.i.X.lt;go_upto_region 2 with fail
 generalize w0.alloc (.D (Pz.mk (p.Cw+12) 4 p.tq).ay 376)=w1 at P0 ⊢;generalize w0.a.j=y at P0 hy ⊢;clear f1 f2 f3;obtain⟨f1,f2,f3⟩:=KS.i _ P0.i.b2;cases hs:p.J.h.h
 case false=>
  rw[hs]at f1;cases hd:dst
  case false=>
   go_upto_region 7 with fail
   have l5:=kPz.nC P0.i.X (Pz.G _);have yK:=P0.i.b1.O 0 3 (aW (Pz.G abW).symm);have ZF:=ab ((P0.i.swap).put (fun r hr=>by
    simp only[bB,fJ,or_false]at hr;rcases hr with rfl|rfl<;>simp only[]<;>omega) (Pz.mk (p.Cw+12) 4 p.tq:Pz).ay (by rw[Pz.G,Pz.G]))
   go_wp2;refine aN (kPz.zh rfl _ rfl ZF.i.X (Pz.G _)) rfl ?_;refine⟨?_,ZF.i.R⟩;simp[AX,hs,hd]
  case true=>
   have c0:=(P0.i.X.K.1 0).trans (Pz.Dp _);have c1:=(P0.i.X.K.1 1).trans (Pz.Dq _);have z0:=P0.i.X.K.2.1 0;have q5:=jS (p.Cw+12+4) (by omega);have P1:=P0.i.set (fun r hr=>by
    simp only[bB,fJ,or_false]at hr;rcases hr with rfl|rfl<;>simp only[]<;>omega) 0 (.b .a (p.Cw+12+4))
   rw[Pz.aeA]at P1;have P1:=ab P1;go_upto_region 6 with fail
   clear c0 c1 z0;generalize w1.F ⟨y,0,none⟩ (.b .a (p.Cw+12+4))=w8 at P1 ⊢;have c2:=(P1.i.X.K.1 2).trans (Pz.JZ _);have z2:=P1.i.X.K.2.1 2;have q6:=jS (p.tq+2) (by omega);have P2:=P1.i.set (fun r hr=>by
    simp only[bB,fJ,or_false]at hr;rcases hr with rfl|rfl<;>simp only[]<;>omega) 2 (.b .a (p.tq+2))
   rw[Pz.aeB]at P2;have P2:=ab P2;go_upto_region 7 with fail
   clear c2 z2;generalize w8.F ⟨y,2,none⟩ (.b .a (p.tq+2))=w9 at P2 ⊢;have l5:=kPz.nC P2.i.X (Pz.G _);have yK:=P2.i.b1.O 0 3 (aW (Pz.G abW).symm);have ZF:=ab ((P2.i.swap).put (fun r hr=>by
    simp only[bB,fJ,or_false]at hr;rcases hr with rfl|rfl<;>simp only[]<;>omega) (Pz.mk (p.Cw+12+4) 4 (p.tq+2):Pz).ay (by rw[Pz.G,Pz.G]))
   go_wp2;refine aN (kPz.zh rfl _ rfl ZF.i.X (Pz.G _)) rfl ?_;refine⟨?_,ZF.i.R⟩;simp[AX,hs,hd]
 case true=>
  rw[hs]at f1;have aEA:=P0.i.X.O 0 3 (aW (Pz.G _).symm);have Q0:=ab (P0.i.put (fun r hr=>by
   simp only[bB,fJ,or_false]at hr;rcases hr with rfl|rfl<;>simp only[]<;>omega) (Pz.mk (p.Cw+8) 16 p.tq).ay (by rw[Pz.G,Pz.G]))
  go_upto_region 4 with fail
  clear f1 f2 f3 aEA;generalize gI w1 y 0 (Pz.mk (p.Cw+8) 16 p.tq).ay=w2 at Q0 ⊢;cases hd:dst
  case false=>
   go_upto_region 7 with fail
   have l5:=kPz.nC Q0.i.X (Pz.G _);have yK:=Q0.i.b1.O 0 3 (aW (Pz.G abW).symm);have ZF:=ab ((Q0.i.swap).put (fun r hr=>by
    simp only[bB,fJ,or_false]at hr;rcases hr with rfl|rfl<;>simp only[]<;>omega) (Pz.mk (p.Cw+8) 16 p.tq:Pz).ay (by rw[Pz.G,Pz.G]))
   go_wp2;refine aN (kPz.zh rfl _ rfl ZF.i.X (Pz.G _)) rfl ?_;refine⟨?_,ZF.i.R⟩;simp[AX,hs,hd]
  case true=>
   have c0:=(Q0.i.X.K.1 0).trans (Pz.Dp _);have c1:=(Q0.i.X.K.1 1).trans (Pz.Dq _);have z0:=Q0.i.X.K.2.1 0;have q5:=jS (p.Cw+8+16) (by omega);have P1:=Q0.i.set (fun r hr=>by
    simp only[bB,fJ,or_false]at hr;rcases hr with rfl|rfl<;>simp only[]<;>omega) 0 (.b .a (p.Cw+8+16))
   rw[Pz.aeA]at P1;have P1:=ab P1;go_upto_region 6 with fail
   clear c0 c1 z0;generalize w2.F ⟨y,0,none⟩ (.b .a (p.Cw+8+16))=w8 at P1 ⊢;have c2:=(P1.i.X.K.1 2).trans (Pz.JZ _);have z2:=P1.i.X.K.2.1 2;have q6:=jS (p.tq+2) (by omega);have P2:=P1.i.set (fun r hr=>by
    simp only[bB,fJ,or_false]at hr;rcases hr with rfl|rfl<;>simp only[]<;>omega) 2 (.b .a (p.tq+2))
   rw[Pz.aeB]at P2;have P2:=ab P2;go_upto_region 7 with fail
   clear c2 z2;generalize w8.F ⟨y,2,none⟩ (.b .a (p.tq+2))=w9 at P2 ⊢;have l5:=kPz.nC P2.i.X (Pz.G _);have yK:=P2.i.b1.O 0 3 (aW (Pz.G abW).symm);have ZF:=ab ((P2.i.swap).put (fun r hr=>by
    simp only[bB,fJ,or_false]at hr;rcases hr with rfl|rfl<;>simp only[]<;>omega) (Pz.mk (p.Cw+8+16) 16 (p.tq+2):Pz).ay (by rw[Pz.G,Pz.G]))
   go_wp2;refine aN (kPz.zh rfl _ rfl ZF.i.X (Pz.G _)) rfl ?_;refine⟨?_,ZF.i.R⟩;simp[AX,hs,hd]
section
attribute [local go_sem high] iT jF
@[go_sem]theorem Pk.avn(x:Pk):x.ay[1]? = some (.e x.J.h.h):=by simp[Pk.ay,Tu.ay,aD,fu.G,Tu.G];rfl
@[go_sem]theorem Pk.azK(x:Pk):x.ay[35]? = some (.b .a x.J.aP):=by simp[Pk.ay,Tu.ay,tuT,aD,fu.G,Tu.G]
theorem Xl(l:List UInt8)(A:Option aS)(n c:Nat)(w:ak)(hR:gq w w.a.j A n l)(hn:n<=1073741824):
 aQ ah 308 #[.a A n c] w (ClY w n l):=by
 have hll:=hR.len;cases A with
 | some a=>
   have hnil:∀W:ak,(binOp .eql 56 (.a (some a) n c) (.a none 0 0)).I ah W=.ok (.e false) W:=fun W=>by
    simp only[binOp];simp[iV,dx]
   obtain⟨i0,hi0,hz0,hz1,hzb⟩:=Ci Lh;have hz2:(aI .u8 0).D.j=1:=rfl;have O1:=ab (show(w.alloc (.D #[] 5)).c w.a.j 5 1 (.a (some ⟨w.a.j,0,none⟩) 0 0) 0 []from pV w #[] 0 (av _) (by unfold maxLen;omega) rfl);have O2:=ab (hR.alloc (av _) (.D #[] 5));have Qz:=ab (show 0+n<=maxLen by unfold maxLen;omega);have QA:=ab (show(0+n)*1<=140737488355328 by omega);have O3:=ab (show w.a.j<=(w.alloc (.D #[] 5)).a.j by simp);have ON:=ab (JG l);clear hR hll;go_enter Tryz.func308,Tryz.ntmps308;go_wp2_with (at_builtin;refine ji _ rfl (.a 5) (.a 6) _ rfl w.a.j 5 i0 (.b .u8 0) 1 1 dx hi0 hz0 hz1 hzb hz2 (lH _) (.a (some ⟨w.a.j,0,none⟩) 0 0) 0 [] rfl O1.i w.a.j (some a) n c (l.map bv) rfl O2.i ON.i Qz.i QA.i O3.i ?_;intro v1 w1 hown1 hg1 wJ);obtain⟨A',c',hv,_,_⟩:=jG hown1;subst hv;simp only[bl,dG]at hown1;have hb:=tX ((aH w.a.j w).alloc (av _) (.D #[] 5)) hg1 (av _) O3.i;go_wp2;go_ret;exact⟨A',c',by simp,hown1,hb⟩
 | none=>
   have h0:n=0:=by
    rcases dY n with h0|h0
    ·exact h0
    ·obtain⟨a,ha,_⟩:=hR.2 h0;cases ha
   subst h0;have hl:l=[]:=bE hll;subst hl;have hnil:∀W:ak,(binOp .eql 56 (.a none 0 c) (.a none 0 0)).I ah W=.ok (.e true) W:=fun W=>by
    simp only[binOp];simp[iV,dx]
   have FIN:=ab (show ClY w 0 [] (.a (.a none 0 0)) w from⟨none,0,rfl,eY _ _ _ _,aH _ _⟩);clear hR hll;go_enter Tryz.func308,Tryz.ntmps308;go_wp2;go_ret;exact FIN.i
theorem agT{l:List UInt8}{p:Pk}(h:amX l p)(dst:Bool):AX p dst=⟨(adU p dst:Nat),(wC p:Nat),(Gp p dst:Nat)⟩/\adU p dst+wC p<=p.Gh.e/\Gp p dst+2<=p.Gh.e/\wC p<=16/\4<=wC p:=by
 obtain⟨_,h1,h2,h3,h4,_⟩:=h;unfold AX adU wC Gp;rcases h3 with h3|h3
 ·rw[if_pos h3]at h4
  cases hs:p.J.h.h<;>cases dst<;>rw[hs]at h2<;>simp at h2⊢<;> omega
 ·rw[if_neg (by rw[h3];decide)]at h4
  cases hs:p.J.h.h<;>cases dst<;>rw[hs]at h2<;>simp at h2⊢<;> omega
def akv(l:List UInt8)(a:fu)(q:Int)(dst:Bool):List UInt8×Int:=(abz l a q dst,if QN l a q then 0 else 1)
theorem Xm(w:ak)(A:Option aS)(n c:Nat)(l:List UInt8)(a:fu)(q:Int)(dst:Bool)(hnc:n<=c)(hc:c<=9223372036854775807/\n<=1000000)(hr:gq w w.a.j A n l):aQ ah 267 #[.a A n c,.d a.ay,.b .a q,.e dst] w (ajJ w (akv l a q dst)):=by
 have Z0:=ab ((Bx.start w).new a.ay 27);have HR:=ab hr;have hl:=ab hr.len;have CR:=ab (Cb _ A n c l hnc (by omega) (Z0.i.NA hr));have HV:=ab (show abz l a q dst=if QN l a q then rw3 l (qV l) a q.e dst else []from rfl);have HK:=ab (show QN l a q=((qV l).kind==0&&(a.h==(qV l).J.h.h&&((qV l).J.h.h||a.mJ))&&(decide (0<=q)&&decide (q<=65535)))from rfl);have HF:=ab (NM (l:=l));clear hr;go_enter Tryz.func267,Tryz.ntmps267;go_upto_region 1 with fail
 generalize w.alloc (.D a.ay 27)=w1 at Z0 CR ⊢;obtain⟨p,hp⟩:=dw (qV l);have HP:=ab hp;unfold PkP at CR;rw[<-hp]at CR HV HK HF;clear hp;go_upto_region 2 with(go_at_call 32;(with_reducible refine CR.i.g ?_);rintro e w2 ⟨rfl,hb⟩;have Z2:=ab ((Z0.i.go hb).new p.ay 83);have HY:=ab (Z0.i.go hb).X.lt;clear hb)
 generalize w2.alloc (.D p.ay 83)=w3 at Z2 ⊢;generalize w2.a.j=y at *;have KS:=ab (fun(w':ak) (h:Bx [(y,p.ay),(w.a.j,a.ay)] w w')=>show w'.b ⟨y,0,none⟩=some (.b .a p.kind)/\w'.b ⟨y,1,none⟩=some (.e p.J.h.h)/\(rJ (.c (some ⟨w.a.j,0,none⟩))).I ah w'=.ok (.d a.ay) w' from⟨(h.X.K.1 0).trans (Pk.yt p),(h.X.K.1 1).trans (Pk.avn p),h.b1.ahX⟩);obtain⟨f1,f2,f3⟩:=KS.i _ Z2.i;have CO:=ab (aku p.J.h.h a w3);have ZG:=ab (fun w' (hb:aL w3.a.j w3 w')=>Z2.i.go hb);have NO:=ab (show QN l a q=false->akv l a q dst=([],1)from fun h=>by unfold akv;rw[HV.i,h];rfl);cases hk0:(p.kind==0)
 ·have k1:(p.kind != 0)=true:=by rw[bne,hk0];rfl
  have HN:=ab (NO.i (by rw[HK.i,hk0];rfl));clear hk0;go_wp2;go_ret2;rw[HN.i];exact⟨none,0,0,rfl,Kw _,Z2.i.R⟩
 have k1:(p.kind != 0)=false:=by rw[bne,hk0];rfl
 cases ho:(a.h==p.J.h.h&&(p.J.h.h||a.mJ))
 ·rw[ho]at CO
  have HN:=ab (NO.i (by rw[HK.i,hk0,ho];rfl));clear hk0 ho;go_wp2_with (go_at_call 307;(with_reducible refine CO.i.g ?_);rintro e w4 ⟨rfl,hb⟩;have Z4:=ab (ZG.i _ hb);clear hb);go_ret2;rw[HN.i];exact⟨none,0,0,rfl,Kw _,Z4.i.R⟩
 rw[ho]at CO;by_cases hq:0<=q/\q<=65535
 ·obtain⟨hq0,hq1⟩:=hq
  have JJ:=ab (show QN l a q=true by rw[HK.i,hk0,ho,decide_eq_true hq0,decide_eq_true hq1];rfl);have HVO:=ab (show akv l a q dst=(rw3 l p a q.e dst,0)by unfold akv;rw[HV.i,JJ.i];rfl);have q1:decide (q<0)=false:=by simp;omega
  have q2:decide ((65535:Int)<q)=false:=by simp;omega
  have FN:=HF.i (by simpa using hk0);have HFN:=ab FN;obtain⟨g0,g1,g2,gp,g3,g4⟩:=FN;have g5:0<=p.Gh/\p.Gh<=n:=by have:=hl.i;split at g2<;>split at g3<;>omega
  obtain⟨en,hen⟩:∃m:Nat,p.Gh=(m:Int):=⟨p.Gh.e,by omega⟩
  have HEN:=ab hen;have en1:en<=n:=by omega
  have avo:=ab (show a.h=p.J.h.h by have:=ho;simp only[bf,beq_iff_eq]at this;exact this.1);clear hk0 ho g0 gp g1 g2 g3 g4 g5;go_upto_region 4 with(go_at_call 307;(with_reducible refine CO.i.g ?_);rintro e w4 ⟨rfl,hb⟩;have Z4:=ab (ZG.i _ hb);clear hb)
  have K2:=ab (fun(w':ak) (h:dJ w' y p.ay)=>show w'.b ⟨y,41,none⟩=some (.b .a (en:Nat))/\w'.b ⟨y,35,none⟩=some (.b .a p.J.aP)/\w'.b ⟨y,39,none⟩=some (.b .a p.Cw)/\w'.b ⟨y,40,none⟩=some (.b .a p.tq)from⟨(h.K.1 41).trans ((Pk.ap2 p).trans (by rw[HEN.i])),(h.K.1 35).trans (Pk.azK p),(h.K.1 39).trans (Pk.amD p),(h.K.1 40).trans (Pk.amE p)⟩);obtain⟨e1,_,_,_⟩:=K2.i _ Z4.i.X;have en2:(en:Int)<=c:=by omega
  have CB:=ab (Xl (l.d en) A en c w4 ((Z4.i.NA HR.i).upN en1) (by omega));go_upto_region 5 with(go_at_call 308;(with_reducible refine CB.i.g ?_);rintro e w5 ⟨A5,c5,rfl,TJ,hb5⟩;have L5:=ab (Ly.am2 (w0:=w) (L:=[(y,p.ay),(w.a.j,a.ay)]) TJ Z4.i.R.j (Z4.i.R.trans (hb5.g Z4.i.R.j)) (fun r hr=>⟨((Z4.i.go hb5).2 r hr).2,(Z4.i.2 r hr).2.lt⟩));clear TJ hb5)
  clear e1 f1 f2 f3;have l10:=kPk.nC L5.i.X (Pk.G _);have Ke:=HFN.i;have CF:=ab (aeC p dst ⟨by have:=Ke.Cw;omega,by have h1:=Ke.tq;have h2:=Ke.Gh;have h3:=Ke.len;have:=hl.i;split at h1<;>split at h2<;>omega⟩ ⟨by have h1:=Ke.tq;have h2:=Ke.Cw;split at h1<;>omega,by have h2:=Ke.Gh;have h3:=Ke.len;have:=hl.i;split at h2<;>omega⟩ w5);clear Ke;go_upto_region 6 with(go_at_call 309;(with_reducible refine CF.i.g ?_);rintro e w6 ⟨rfl,hb⟩;have HW6:=ab (L5.i.go hb).X.lt;have L6:=ab ((L5.i.go hb).new (AX p dst).ay 376);clear hb)
  clear l10;obtain⟨pv,p1,p2,p3,p4⟩:=agT HFN.i dst;rw[HEN.i,dQ]at p1 p2;rw[pv]at L6;obtain⟨pa,hpa⟩:∃v,v=adU p dst:=⟨_,rfl⟩
  obtain⟨ps,hps⟩:∃v,v=wC p:=⟨_,rfl⟩
  obtain⟨pp,hpp⟩:∃v,v=Gp p dst:=⟨_,rfl⟩
  have HPA:=ab hpa;have HPS:=ab hps;have HPP:=ab hpp;rw[<-hpa,<-hps,<-hpp]at L6;rw[<-hpa,<-hps]at p1;rw[<-hpp]at p2;rw[<-hps]at p3 p4;have PV:=ab (pv.trans (by rw[<-hpa,<-hps,<-hpp]:_=(⟨(pa:Nat),(ps:Nat),(pp:Nat)⟩:Pz)));rw[PV.i];clear hpa hps hpp pv;have hy6:y<w6.a.j:=HW6.i;clear HW6;generalize w6.alloc (.D (Pz.mk (pa:Nat) (ps:Nat) (pp:Nat)).ay 376)=w7 at L6 ⊢;generalize w6.a.j=y7 at L6 ⊢;have a0:=(L6.i.X.K.1 0).trans (Pz.Dp _);have a1:=(L6.i.X.K.1 1).trans (Pz.Dq _);obtain⟨m1,hm1⟩:∃m:Nat,m=pa+ps:=⟨_,rfl⟩
  have s1:=jS ((pa:Int)+(ps:Int)) (by omega);have s2:(pa:Int)+(ps:Int)=m1:=by omega
  rw[s2]at s1;have s3:(pa:Int)<=m1:=by omega
  have s4:(m1:Int)<=c:=by omega
  have s5:(ps:Int)<=16:=by omega
  have HM1:=ab hm1;clear hm1;go_quiet (fail);obtain⟨wz,hwz⟩:=dw (w7.drewN nq);have L7:=ab (show Ly w.a.j [(y7,(Pz.mk (pa:Nat) (ps:Nat) (pp:Nat)).ay),(y,p.ay),(w.a.j,a.ay)] w wz (.a A5 en c5) (l.d en)by rw[hwz];exact L6.i.go (fO (aH _ _) nq));rw[<-hwz];clear hwz a0 a1 L6;have HLE:=ab (show(l.d en).a=en by rw[bJ,hl.i];omega);obtain⟨g,hg1,hg2,hg3,hg4,hg5⟩:=L7.i.h (by rw[HLE.i];omega);subst hg1;clear hg2;have RTo:=ab ((Ma (o:=0) L7.i.b2 a (by have:=fu.G a;rw[<-this];simp)).upN p3);have s6:(pa:Int)<=en:=by omega
  have HP:=ab (show 0<ps->∃g',(some ⟨g,0,none⟩:Option aS)=some ⟨g',0,none⟩/\vL (some ⟨g,0,none⟩) pa c5 1=some ⟨g',pa,none⟩from fun _=>⟨g,rfl,PY (n:=0) (by omega)⟩);have HM:=ab (show ps=qg ps (en-pa)by show ps=min ps (en-pa);omega);have HZ:=ab (show pa+ps<=(l.d en).a by rw[HLE.i];exact p1);have a0:=(L7.i.X.K.1 0).trans (Pz.Dp _);go_upto_region 8 with(refine Mc rfl (.a 65) (.a 66) rfl L7.i pa ps rfl rfl RTo.i HM.i HP.i HZ.i ?_;intro w8 h8 h9;have L8:=ab h8;clear h8 h9)
  clear a0 HP HM HZ s6 RTo L7;obtain⟨o1,ho1⟩:∃o,o=r9 (l.d en) pa ((a.b.a.d ps).d ps):=⟨_,rfl⟩
  have HO1:=ab ho1;have HL1:=ab (show o1.a=en by rw[ho1,EM (by simp;rw[hl.i];omega),HLE.i]);rw[<-ho1]at L8;clear ho1;obtain⟨qn,hqn⟩:∃v:Nat,q=(v:Int):=⟨q.e,by omega⟩
  have HQN:=ab hqn;subst hqn;have q7:jm.wrap (qn:Int)=(qn:Int):=by rw[jQ];omega
  have PZ:=ab (fun W=>wK qn (by omega) W);rw[vg qn (by omega)]at PZ;have s6:(pp:Int)<=en:=by omega
  have HP:=ab (show 0<2->∃g',(some ⟨g,0,none⟩:Option aS)=some ⟨g',0,none⟩/\vL (some ⟨g,0,none⟩) pp c5 1=some ⟨g',pp,none⟩from fun _=>⟨g,rfl,PY (n:=0) (by omega)⟩);have HM:=ab (show 2=qg 2 (en-pp)by show 2=min 2 (en-pp);omega);have HZ:=ab (show pp+2<=o1.a by rw[HL1.i];exact p2);have KP:=ab (fun(w':ak) (h:dJ w' y7 (Pz.mk (pa:Nat) (ps:Nat) (pp:Nat)).ay)=>show w'.b ⟨y7,2,none⟩=some (.b .a (pp:Nat))from(h.K.1 2).trans (Pz.JZ _));have a2:=KP.i _ L8.i.X;go_region_held_law (fun w'=>w'.b ⟨y7,2,none⟩=some (.b .a (pp:Nat)))
   (first|exact KP.i _ L8.i.X.drew|exact KP.i _ L9.i.X|exact KP.i _ L10.i.X|go_keep)
   (first
   | (go_at_call 184;(with_reducible refine(PZ.i _).g ?_);rintro e w9 ⟨A9,rfl,ho,hb⟩;have R9:=ab (Dn ho (aH _ _));have L9:=ab (L8.i.drew.go hb);clear ho hb)
   | (refine NR (o:=⟨some 75,_,_,_,_,_⟩) rfl (.a 71) (.a 74) rfl (some ⟨g,0,none⟩) en c5 L9.i pp 2 (vL (some ⟨g,0,none⟩) pp c5 1) (en-pp) (c5-pp) rfl A9 2 2 rfl R9.i HM.i HP.i HZ.i ?_;intro w10 h10 h11;have L10:=ab h10;clear h10 h11))
  clear a2 q7 s6 HP HM HZ KP PZ L8;obtain⟨o2,ho2⟩:∃o,o=r9 o1 pp ((pY (qn:Int)).d 2):=⟨_,rfl⟩
  have HO2:=ab ho2;have HL2:=ab (show o2.a=en by rw[ho2,EM (by rw[HL1.i];exact p2),HL1.i]);rw[<-ho2]at L10;clear ho2;have a6:=(L10.i.b2.K.1 0).trans (fu.pW a);have Ke:=HFN.i;obtain⟨N,hN⟩:∃N:Nat,p.Cw=(N:Int):=⟨p.Cw.e,by have:=Ke.Cw;omega⟩
  obtain⟨S,hS⟩:∃S:Nat,p.tq=(S:Int):=⟨p.tq.e,by have:=Ke.Cw;have:=Ke.tq;split at this<;>omega⟩
  have hNS:N+20<=S:=by have:=Ke.tq;split at this<;>omega
  have aK5:14<=N:=by have:=Ke.Cw;omega
  obtain⟨pl,hpl⟩:∃v,v=Dt p.J.aP:=⟨_,rfl⟩
  have aK6:S+pl+2<=en/\6<=pl/\pl<=16:=by
   have h1:=Ke.Gh;have h2:=HEN.i;rw[hpl];unfold Dt;rcases Ke.pro with h|h<;>rw[h]at h1⊢<;> simp at h1⊢<;> omega
  have HP6:=ab (show(if p.J.aP=6 then(16:Int)else if p.J.aP=17 then 6 else 0)=(pl:Int)by rw[hpl];unfold Dt;split;rfl;split<;>rfl);have HPL:=ab hpl;have HNN:=ab hN;have HSS:=ab hS;clear Ke hpl;obtain⟨o3,ho3⟩:∃o,o=if a.h then o2 else r9 o2 (N+10) (pY ((om (eU l (N+10)) ((l.d (pa+ps)).f pa) (a.b.a.d ps):Nat):Int)):=⟨_,rfl⟩
  have HO3:=ab ho3;have HL3:=ab (show o3.a=en by rw[ho3];split;exact HL2.i;rw[EM (by rw[HL2.i];show N+10+2<=en;omega),HL2.i]);clear ho3;rw[show m1-pa=ps by omega];go_upto_if 78 with fail
  go_cut []from 76 to 91 (fun wx=>Ly w.a.j [(y7,(Pz.mk (pa:Nat) (ps:Nat) (pp:Nat)).ay),(y,p.ay),(w.a.j,a.ay)] w wx (.a (some ⟨g,0,none⟩) en c5) o3)
  case first=>
   cases h6:a.h
   case true=>
    rw[h6]at HO3;have L12:=ab L10;go_wp2;go_meet
    case rel=>rw[HO3.i];exact L12.i.i
   case false=>
    rw[h6]at HO3;have hpe:ps%2=0:=by rw[HPS.i];unfold wC;split<;>rfl
    obtain⟨nk,hnk⟩:∃v,v=N+10:=⟨_,rfl⟩
    have e10:(N:Int)+10=(nk:Int):=by omega
    have i10:=jS (nk:Int) (by omega);have RI:=ab (fun(w':ak) (h:Ly w.a.j [(y7,(Pz.mk (pa:Nat) (ps:Nat) (pp:Nat)).ay),(y,p.ay),(w.a.j,a.ay)] w w' (.a (some ⟨g,0,none⟩) en c5) o2)=>show gq w' w'.a.j A n l from HR.i.upon h.o.R);have CS:=ab (Xk _ A n c l nk (by omega) hnc hc (RI.i _ L10.i.drew));have CC:=ab (fun(w':ak) (h:Ly w.a.j [(y7,(Pz.mk (pa:Nat) (ps:Nat) (pp:Nat)).ay),(y,p.ay),(w.a.j,a.ay)] w w' (.a (some ⟨g,0,none⟩) en c5) o2)=>IQ w' (vL A pa c 1) (some ⟨w.a.j,1,none⟩) (m1-pa) (c-pa) 16 w'.a.j w'.a.j (eU l nk) ((l.d m1).f pa) (a.b.a.d ps) (vK l nk) (by omega) (by omega) ((RI.i w' h).adK (by omega) (by omega) hnc) (by rw[show m1-pa=ps by omega];exact(Ma (o:=0) h.b2 a (by have:=fu.G a;rw[<-this];simp)).upN p3));rw[show m1-pa=ps by omega]at CC;rw[HM1.i]at CC;obtain⟨cn,hcn⟩:∃v,v=om (eU l nk) ((l.d (pa+ps)).f pa) (a.b.a.d ps):=⟨_,rfl⟩
    have aEE:cn<=65535:=by rw[hcn];exact Dh _ _ _ (vK l nk)
    rw[<-hcn]at CC;have HO4:=ab (show o3=r9 o2 nk (pY (cn:Int))by rw[HO3.i,hcn,hnk];rfl);obtain⟨n2,hn2⟩:∃v,v=o2.a:=⟨_,rfl⟩
    have CT:=ab (fun(w':ak) (h:Ly w.a.j [(y7,(Pz.mk (pa:Nat) (ps:Nat) (pp:Nat)).ay),(y,p.ay),(w.a.j,a.ay)] w w' (.a (some ⟨g,0,none⟩) en c5) o2)=>Gv (bs:=o2) (by rw[HL2.i];exact h) nk cn aEE (by rw[HL2.i];omega) (by rw[HL2.i];omega));rw[HL2.i,<-HO4.i]at CT;have K39:=ab (fun(w':ak) (bs:List UInt8) (h:Ly w.a.j [(y7,(Pz.mk (pa:Nat) (ps:Nat) (pp:Nat)).ay),(y,p.ay),(w.a.j,a.ay)] w w' (.a (some ⟨g,0,none⟩) en c5) bs)=>show w'.b ⟨y,39,none⟩=some (.b .a (N:Nat))by rw[(K2.i _ h.b1).2.2.1,HNN.i]);have f39:=K39.i _ _ L10.i;clear hcn hnk hn2 a6;go_upto_region 10 with fail
    go_region_held_law (fun w'=>w'.b ⟨y,39,none⟩=some (.b .a (N:Nat)))
     (first|exact K39.i _ _ L10.i.drew|exact K39.i _ _ L11.i|exact K39.i _ _ L13.i|go_keep)
     (first
     | (go_at_call 312;(with_reducible refine CS.i.g ?_);rintro e w11 ⟨rfl,hb⟩;have L11:=ab (L10.i.drew.go hb);clear hb)
     | (go_at_call 311;(with_reducible refine(CC.i _ L11.i).g ?_);rintro e w12 ⟨rfl,rfl⟩)
     | (go_at_call 310;(with_reducible refine(CT.i _ L11.i).g ?_);rintro e w13 ⟨rfl,h13⟩;have L13:=ab h13;clear h13))
    go_wp2;go_meet
    case rel=>exact L13.i
  have L3:=ab hcut;have aEG:ps%2=0:=by rw[HPS.i];unfold wC;split<;>rfl
  clear hcut L10 a6;have K4:=ab (fun(w':ak) (h:Ly w.a.j [(y7,(Pz.mk (pa:Nat) (ps:Nat) (pp:Nat)).ay),(y,p.ay),(w.a.j,a.ay)] w w' (.a (some ⟨g,0,none⟩) en c5) o3)=>show w'.b ⟨y,40,none⟩=some (.b .a (S:Nat))/\w'.b ⟨y,35,none⟩=some (.b .a p.J.aP)/\w'.b ⟨y7,2,none⟩=some (.b .a (pp:Nat))/\gq w' w'.a.j A n l from⟨by rw[(K2.i _ h.b1).2.2.2,HSS.i],(K2.i _ h.b1).2.1,(h.X.K.1 2).trans (Pz.JZ _),HR.i.upon h.o.R⟩);obtain⟨sa,hsa⟩:∃v,v=S+pl:=⟨_,rfl⟩
  have eS:(S:Int)+(pl:Int)=(sa:Int):=by omega
  have iS:=jS (sa:Int) (by omega);have Yy:=ab hsa;clear hsa;have CP:=ab (fun w=>ajw p.J.aP w);rw[HP6.i]at CP;go_wp2_with fail;obtain⟨T,f,n0,E0,es,ew⟩:=vM (wc);have hT:Nonempty T:=⟨n0⟩
  have ES:=ab es;have EW:=ab ew;have l1:=fun m=>(K4.i _ (L3.i.go (es m))).1
  have l2:=fun m=>(K4.i _ (L3.i.go (es m))).2.1
  clear es ew;refine oh f (by kernel_rfl) (by kernel_rfl) n0 E0 ?_
  repeat(go_big_quiet_step ((first|(go_at_call 313;(with_reducible refine(CP.i _).g ?_);rintro e w2 ⟨rfl,hb⟩;exact⟨rfl,EW.i _ ((ES.i _).trans (hb.g (ES.i _).j))⟩))))
  refine gK ?_;rintro _ ⟨m',rfl⟩;have HB:=ab (ES.i m');generalize f m'=wN at *;clear ES EW E0 hT n0;clear l1 l2;have L4:=ab (L3.i.go HB.i);clear L3 HB CP;obtain⟨z2,e35,f2,RA⟩:=K4.i _ L4.i;clear z2;have CS:=ab (Xk _ A n c l sa (by omega) hnc hc RA);obtain⟨was,aq2⟩:∃v,v=eU l sa:=⟨_,rfl⟩
  have anY:was<=65535:=by rw[aq2];exact vK l sa
  rw[<-aq2]at CS;have azL:=ab aq2;obtain⟨u,hu⟩:=dw ((p.J.aP==17));have HU:=ab hu;obtain⟨z,hz⟩:=dw (decide (was=0));have HZ0:=ab hz;have u1:(p.J.aP==17)=u:=hu.symm;have u2:decide (p.J.aP=17)=u:=by rw[hu];rfl
  have z1:((was:Int)==0)=z:=by rw[hz,dA,beq_iff_eq,decide_eq_true_iff];omega
  have z2:decide ((was:Int)=0)=z:=by rw[hz,dA,decide_eq_true_iff,decide_eq_true_iff];omega
  have z3:(was==0)=z:=by rw[hz,dA,beq_iff_eq,decide_eq_true_iff]
  clear hu hz aq2 RA;go_upto_region 14 with(go_at_call 312;(with_reducible refine CS.i.g ?_);rintro e w11 ⟨rfl,hb⟩;have L5:=ab (L4.i.go hb);clear hb e35 f2;obtain⟨_,e35,f2,RA⟩:=K4.i _ L5.i)
  clear CS L4;obtain⟨fr,hfr⟩:∃v,v=(l.d (pa+ps)).f pa:=⟨_,rfl⟩
  obtain⟨tw,htw⟩:∃v,v=a.b.a.d ps:=⟨_,rfl⟩
  obtain⟨pq,hpq⟩:∃v,v=pp+2:=⟨_,rfl⟩
  obtain⟨cs,hcs⟩:∃v,v=om (om was fr tw) ((l.d pq).f pp) ((o3.d pq).f pp):=⟨_,rfl⟩
  have hc1:=Dh fr tw was anY;have hcs2:cs<=65535:=by rw[hcs];exact Dh _ _ _ hc1
  have eP:(pp:Int)+2=(pq:Int):=by omega
  have iP:=jS (pq:Int) (by omega);have b1:(pp:Int)<=pq:=by omega
  have b2:(pq:Int)<=c:=by omega
  have b3:(pq:Int)<=c5:=by omega
  have CC1:=ab (fun(w':ak) (h:Ly w.a.j [(y7,(Pz.mk (pa:Nat) (ps:Nat) (pp:Nat)).ay),(y,p.ay),(w.a.j,a.ay)] w w' (.a (some ⟨g,0,none⟩) en c5) o3)=>IQ w' (vL A pa c 1) (some ⟨w.a.j,1,none⟩) ps (c-pa) 16 w'.a.j w'.a.j was fr tw anY aEG (by omega) (by have:=((K4.i _ h).2.2.2).adK (z:=pa) (b:=m1) (by omega) (by omega) hnc;rw[show m1-pa=ps by omega,HM1.i]at this;rw[hfr];exact this) (by rw[htw];exact(Ma (o:=0) h.b2 a (by have:=fu.G a;rw[<-this];simp)).upN p3));have CC2:=ab (fun(w':ak) (h:Ly w.a.j [(y7,(Pz.mk (pa:Nat) (ps:Nat) (pp:Nat)).ay),(y,p.ay),(w.a.j,a.ay)] w w' (.a (some ⟨g,0,none⟩) en c5) o3)=>IQ w' (vL A pp c 1) (vL (some ⟨g,0,none⟩) pp c5 1) (pq-pp) (c-pp) (c5-pp) w'.a.j w'.a.j (om was fr tw) ((l.d pq).f pp) ((o3.d pq).f pp) hc1 (by omega) (by omega) (((K4.i _ h).2.2.2).adK (by omega) (by omega) hnc) (h.rd.adK (by omega) (by omega) hg3));rw[<-hcs]at CC2;have HE3:=ab (show rw2 l p a qn dst=o3 by
   have e1:rw1 l p a qn dst=o2:=by
    have e0:NK qn=(pY (qn:Int)).d 2:=by simp[NK,pY]
    unfold rw1;rw[<-HPA.i,<-HPS.i,<-HPP.i,e0,HO2.i,HO1.i,HEN.i,dQ,List.take_take,Nat.min_self]
   unfold rw2;rw[e1,HO3.i,HNN.i,dQ];have h6:p.J.h.h=a.h:=by have:=avo.i;exact this.symm
   rw[h6];split
   ·rfl
   ·have e2:Zm l p dst=(l.d (pa+ps)).f pa:=by unfold Zm;rw[<-HPA.i,<-HPS.i,rD,kJ]
    rw[e2,<-HPS.i];rfl)
  have HRS:=ab (show ahS l p a qn dst=cs by
   have e2:Zm l p dst=fr:=by unfold Zm;rw[<-HPA.i,<-HPS.i,hfr,rD,kJ]
   have e3:(o3.d pq).f pp=NK qn:=by
    have e0:(pY (qn:Int)).d 2=NK qn:=by simp[NK,pY]
    have k2:(o2.d pq).f pp=NK qn:=by
     have:=ajI (l:=o1) (k:=pp) (b:=(pY (qn:Int)).d 2) (by rw[HL1.i];exact p2);rw[rD,show pq-pp=2 by omega,HO2.i,<-e0];exact this
    rw[HO3.i];split
    ·exact k2
    ·rw[rD,amW (by rw[HL2.i];show N+10+2<=en;omega) (.b (by show N+10+2<=pp;have h1:=HPP.i;unfold Gp at h1;rw[HSS.i]at h1;omega)),<-rD];exact k2
   unfold ahS;rw[e2,<-HPS.i,<-HPP.i,HSS.i,dQ,<-HPL.i,<-Yy.i,<-azL.i,<-htw,hcs,e3];congr 1;rw[rD,show pq-pp=2 by omega])
  have HC2:=ab hcs2;have CC1:=ab (fun n=>CC1.i (w11.drewN n) (L5.i.go (fO (aH _ _) n)));have CC2:=ab (fun n=>CC2.i (w11.drewN n) (L5.i.go (fO (aH _ _) n)));have HR3:=ab (show rw3 l p a qn dst=if p.J.aP=17/\was=0 then o3 else r9 o3 sa (NK (if p.J.aP=17/\cs=0 then 65535 else cs))by
   unfold rw3;rw[HE3.i,HRS.i,HSS.i,dQ,<-HPL.i,<-Yy.i,<-azL.i])
  clear hfr htw hpq hcs anY hcs2;cases u
  case false=>
   have hp:p.J.aP≠17:=by have:=HU.i;intro e;rw[e]at this;cases this
   have HRW:=ab (show rw3 l p a qn dst=r9 o3 sa (pY (cs:Int))by rw[HR3.i,if_neg (fun h=>hp h.1),if_neg (fun h=>hp h.1)];simp[NK,pY]);clear hp;go_upto_region 16 with fail
   go_quiet ((first|(go_at_call 311;(with_reducible refine(CC1.i _).g ?_);rintro e w2 ⟨rfl,rfl⟩;exact⟨rfl,_,rfl⟩)|(go_at_call 311;(with_reducible refine(CC2.i _).g ?_);rintro e w2 ⟨rfl,rfl⟩;exact⟨rfl,_,rfl⟩)));have L7:=ab (L5.i.go (fO (aH _ _) nq));generalize w11.drewN nq=wN at L7 ⊢;have CT:=ab (Gv (bs:=o3) (by rw[HL3.i];exact L7.i) sa cs (by exact HC2.i) (by rw[HL3.i];omega) (by rw[HL3.i];omega));rw[HL3.i]at CT;clear CC1 CC2 L5;go_wp2_with (go_at_call 310;(with_reducible refine CT.i.g ?_);rintro e w13 ⟨rfl,h13⟩;have L13:=ab h13;clear h13);go_ret2;exact⟨some ⟨g,0,none⟩,en,c5,by rw[HVO.i];rfl,by rw[HVO.i];show gq _ _ _ _ (rw3 l p a qn dst);rw[HRW.i];exact L13.i.rd,L13.i.o.R⟩
  case true=>
   have hp:p.J.aP=17:=by have:=HU.i;simpa using this.symm
   cases z
   case true=>
    have hw:was=0:=by have:=HZ0.i;simpa using this.symm
    have HRW:=ab (show rw3 l p a qn dst=o3 by rw[HR3.i,if_pos ⟨hp,hw⟩]);clear hp hw CC1 CC2;go_wp2;go_ret2;exact⟨some ⟨g,0,none⟩,en,c5,by rw[HVO.i];rfl,by rw[HVO.i];show gq _ _ _ _ (rw3 l p a qn dst);rw[HRW.i];exact L5.i.rd,L5.i.o.R⟩
   case false=>
    have hw:was≠0:=by have:=HZ0.i;intro e;rw[e]at this;cases this
    by_cases hc0:cs=0
    ·have HRW:=ab (show rw3 l p a qn dst=r9 o3 sa (pY ((65535:Nat):Int))by rw[HR3.i,if_neg (fun h=>hw h.2),if_pos ⟨hp,hc0⟩];rfl)
     have q1:((cs:Int)==0)=true:=by rw[hc0];rfl
     have q2:decide ((cs:Int)=0)=true:=by rw[hc0];rfl
     clear hp hw hc0;go_upto_region 16 with fail
     go_quiet ((first|(go_at_call 311;(with_reducible refine(CC1.i _).g ?_);rintro e w2 ⟨rfl,rfl⟩;exact⟨rfl,_,rfl⟩)|(go_at_call 311;(with_reducible refine(CC2.i _).g ?_);rintro e w2 ⟨rfl,rfl⟩;exact⟨rfl,_,rfl⟩)));have L7:=ab (L5.i.go (fO (aH _ _) nq));generalize w11.drewN nq=wN at L7 ⊢;have CT:=ab (Gv (bs:=o3) (by rw[HL3.i];exact L7.i) sa 65535 (by exact av _) (by rw[HL3.i];omega) (by rw[HL3.i];omega));rw[HL3.i,show((65535:Nat):Int)=65535 from rfl]at CT;clear CC1 CC2 L5;go_wp2_with (go_at_call 310;(with_reducible refine CT.i.g ?_);rintro e w13 ⟨rfl,h13⟩;have L13:=ab h13;clear h13);go_ret2;exact⟨some ⟨g,0,none⟩,en,c5,by rw[HVO.i];rfl,by rw[HVO.i];show gq _ _ _ _ (rw3 l p a qn dst);rw[HRW.i];exact L13.i.rd,L13.i.o.R⟩
    ·have HRW:=ab (show rw3 l p a qn dst=r9 o3 sa (pY (cs:Int))by rw[HR3.i,if_neg (fun h=>hw h.2),if_neg (fun h=>hc0 h.2)];simp[NK,pY])
     have q1:((cs:Int)==0)=false:=by rw[beq_eq_false_iff_ne];omega
     have q2:decide ((cs:Int)=0)=false:=by rw[decide_eq_false_iff_not];omega
     clear hp hw hc0;go_upto_region 16 with fail
     go_quiet ((first|(go_at_call 311;(with_reducible refine(CC1.i _).g ?_);rintro e w2 ⟨rfl,rfl⟩;exact⟨rfl,_,rfl⟩)|(go_at_call 311;(with_reducible refine(CC2.i _).g ?_);rintro e w2 ⟨rfl,rfl⟩;exact⟨rfl,_,rfl⟩)));have L7:=ab (L5.i.go (fO (aH _ _) nq));generalize w11.drewN nq=wN at L7 ⊢;have CT:=ab (Gv (bs:=o3) (by rw[HL3.i];exact L7.i) sa cs (by exact HC2.i) (by rw[HL3.i];omega) (by rw[HL3.i];omega));rw[HL3.i]at CT;clear CC1 CC2 L5;go_wp2_with (go_at_call 310;(with_reducible refine CT.i.g ?_);rintro e w13 ⟨rfl,h13⟩;have L13:=ab h13;clear h13);go_ret2;exact⟨some ⟨g,0,none⟩,en,c5,by rw[HVO.i];rfl,by rw[HVO.i];show gq _ _ _ _ (rw3 l p a qn dst);rw[HRW.i];exact L13.i.rd,L13.i.o.R⟩
 ·have HN:=ab (NO.i (by rw[HK.i];simp;intro _ _ _;omega))
  clear hk0 ho;go_wp2_with (go_at_call 307;(with_reducible refine CO.i.g ?_);rintro e w4 ⟨rfl,hb⟩;have Z4:=ab (ZG.i _ hb);clear hb)
  all_goals
   first
   | (go_ret2
      rw[HN.i];exact⟨none,0,0,rfl,Kw _,Z4.i.R⟩)
   | (exfalso;omega)
theorem akw(w:ak)(A:Option aS)(n c:Nat)(l:List UInt8)(a:fu)(q:Int)(hnc:n<=c)(hc:c<=9223372036854775807/\n<=1000000)(hr:gq w w.a.j A n l):aQ ah 205 #[.a A n c,.d a.ay,.b .a q] w (ajJ w (akv l a q true)):=by
 have X0:=ab (dJ.new w a.ay 27);have B0:=ab ((aH w.a.j w).alloc (av _) (.D a.ay 27));have CR:=ab (Xm (w.alloc (.D a.ay 27)) A n c l a q true hnc hc (hr.upon B0.i));have la:=X0.i.ahX;unfold ajJ at CR;clear hr;go_enter Tryz.func205,Tryz.ntmps205;go_wp2_with (go_at_call 267;(with_reducible refine CR.i.g ?_);rintro e w2 ⟨A2,n2,c2,rfl,hr2,hb2⟩;have R2:=ab hr2;have B2:=ab hb2;clear hr2 hb2 la);skip;go_ret2;exact⟨A2,n2,c2,rfl,R2.i,gV B0.i B2.i⟩
end
section
variable {W W':ak} {q:Nat} {e:En} {s:pG} {x:Eg} {q2 g:Nat} {sl:List (Option Fw)}
def aEI(W:ak)(r:Int×List UInt8)(e':lq)(W':ak):Prop:=(r.1=0/\Kv W r.2 e' W')\/(r.1≠0/\e'=.panicked [{v:=Q7 r.1,recovered:=false}]/\aL W.a.j W W')
theorem aEJ:oO 25 6 (AO (bF 6 0)):=⟨⟨_,Tryz.underlying25,rfl⟩,by kernel_rfl,by kernel_rfl,gD _⟩
theorem dJ.asG{W:ak}{b o:Nat}{c:Array aB}{m:Vector UInt8 6}(h:dJ W b c)(hc:c.m o (o+6)=AO m)(hs:o+6<=c.j):(Df (.c (some ⟨b,o,none⟩))).I ah W=.ok (.d (AO m)) W:=aEJ.Ay h o hc hs
theorem dJ.Q8{W:ak}{b o:Nat}{c:Array aB}{a:fu}(h:dJ W b c)(hc:c.m o (o+17)=a.ay)(hs:o+17<=c.j):(rJ (.c (some ⟨b,o,none⟩))).I ah W=.ok (.d a.ay) W:=abe.Ay h o hc hs
theorem Bk.aq4(b:Bk):b.ay.m 19 (19+6)=AO b.FJ:=Bk.ahg b
theorem TS{l:List UInt8}{k E:Nat}{b:List UInt8}(h:l.a<=E)(hk:k+b.a<=E):(r9 l k b).a<=E:=by unfold r9;simp;omega
theorem aq5{l:List UInt8}{a:fu}{n:Int}:(abz l a n true).a<=l.a:=by
 cases h:QN l a n with
 | false=>unfold abz;rw[h];simp
 | true=>
   have hk:(qV l).kind=0:=by unfold QN at h;simp only[bf,beq_iff_eq]at h;exact h.1.1
   have F:=NM hk;unfold abz;rw[if_pos h];generalize qV l=p at F;have hl:=F.len;have f2:=F.Cw;have f3:=F.tq;have f5:=F.Gh;have f4:=F.pro;obtain⟨E,hE⟩:=dw p.Gh.e
   suffices (rw3 l p a n.e true).a<=E by omega
   have hS:p.tq.e+8<=E:=by split at f5<;>omega
   have hb:(a.b.a.d (wC p)).a<=wC p:=by rw[bJ];omega
   have ha:adU p true+wC p<=E:=by
    unfold adU wC;cases hs:p.J.h.h<;>simp[hs]at f3⊢<;> omega
   have hp:Gp p true+2<=E:=by unfold Gp;simp;omega
   have hn:p.Cw.e+12<=E:=by split at f3<;>omega
   have hq:p.tq.e+Dt p.J.aP+2<=E:=by
    unfold Dt;rcases f4 with e|e<;>simp[e]at f5⊢<;> omega
   have l1:(rw1 l p a n.e true).a<=E:=TS (TS (by rw[bJ];omega) (by omega)) (by rw[Wj];omega);have l2:(rw2 l p a n.e true).a<=E:=by
    unfold rw2;split
    ·exact l1
    ·exact TS l1 (by rw[Wj];omega)
   unfold rw3;split
   ·exact l2
   ·exact TS l2 (by rw[Wj];omega)
theorem akx(ts:List Tg):(ts.h zW).a=4*ts.a:=by
 induction ts with
 | nil=>rfl
 | cons t ts ih=>rw[iK,aR,ih,bD];show 4+_=_;omega
theorem anZ(l:List UInt8)(a b:fu):(GV l a b).1.a<=200000:=by
 have ht:=(Wq l).2;have hp:∀k,(qv (mq l).1.Y (mq l).1.h (mq l).1.fG k).a<=22:=fun k=>by
  unfold qv;rw[aR,aR,aR,akx];simp only[lT,pY,bD,gH];omega
 have h40:∀y:Sx,(wU y).a=40:=fun y=>by simp[wU]
 have h20:∀y:Fo,(tQ y).a=20:=fun y=>by simp[tQ,adV,Du]
 unfold GV;by_cases h1:(mq l).2≠0
 ·rw[if_pos h1];simp
 rw[if_neg h1];by_cases h2:(zX (mq l).1.oq (l.f (mq l).1.at_)).ok=false
 ·rw[if_pos h2];simp
 rw[if_neg h2];by_cases h3:am0 a b=false
 ·rw[if_pos h3];simp
 rw[if_neg h3];have hk:∀k:Nat,((l.f (mq l).1.at_).d k).a<=k:=fun k=>by simp;omega
 by_cases h4:a.h=true
 ·rw[if_pos h4]
  by_cases h5:(zX (mq l).1.oq (l.f (mq l).1.at_)).dz>65535
  ·rw[if_pos h5];simp
  ·rw[if_neg h5]
   have:=hp 34525;have:=hk (zX (mq l).1.oq (l.f (mq l).1.at_)).dz.e;simp only[aR,h40];omega
 ·rw[if_neg h4]
  by_cases h5:20+(zX (mq l).1.oq (l.f (mq l).1.at_)).dz>65535
  ·rw[if_pos h5];simp
  ·rw[if_neg h5]
   have:=hp 2048;have:=hk (zX (mq l).1.oq (l.f (mq l).1.at_)).dz.e;simp only[aR,h20];omega
def aeD(e:En)(b:Bk):fu:=if b.h.h then e.c.h else e.c.Cv
theorem aky(h:yM W q e s x q2 g sl)(v:Vp)(b:Bk)(t:Tu)(A:Option aS)(n c:Nat)(l:List UInt8)(hnc:n<=c)(hc:c<=9223372036854775807/\n<=1000000)(hr:gq W W.a.j A n l):
 aQ ah 137 #[.c (some ⟨q,0,none⟩),.d v.ay,.d b.ay,.d t.ay,.a A n c] W (aEI W (Jh e v b t l)):=by
 have Z0:=ab ((((Bx.start W).new v.ay 98).new b.ay 62).new t.ay 81);have e1:(W.alloc (.D v.ay 98)).a.j=W.a.j+1:=by simp
 have e2:((W.alloc (.D v.ay 98)).alloc (.D b.ay 62)).a.j=W.a.j+1+1:=by simp
 rw[e2,e1]at Z0;clear e1 e2;have H:=ab h;have HR:=ab hr;have hl:=ab hr.len;have HOE:=ab (show Jh e v b t l=if v.VL then(if(GV l (aeD e b) b.h).2=0 then(0,EP (GV l (aeD e b) b.h).1 b.FJ e.c.FJ)else(10,[]))else if b.h.h=t.Y.h then(0,EP (abz l b.h b.nH true) b.FJ e.c.FJ)else(9,[])from rfl);have hcf:=h.b.cf;have aEK:=ab (show x.cf.FJ=e.c.FJ by rw[hcf]);have azM:=ab (show x.cf.Cv=e.c.Cv by rw[hcf]);have avo:=ab (show x.cf.h=e.c.h by rw[hcf]);clear h hr hcf;have CT:=ab (fun(w:ak) (B:Option aS) (m d:Nat) (bs:List UInt8) (hm:m<=1000000) (hR:gq w w.a.j B m bs)=>abC w B m d bs b.FJ e.c.FJ hm hR);have K1:=ab (fun(w:ak) (hb:aL (W.a.j+1+1+1) w w)=>True.intro);have KM:=ab (fun(w:ak) (h1:dJ w (W.a.j+1) b.ay) (h2:aL W.a.j W w)=>show(Df (.c (some ⟨W.a.j+1,19,none⟩))).I ah w=.ok (.d (AO b.FJ)) w/\(Df (.c (some ⟨q,27,none⟩))).I ah w=.ok (.d (AO e.c.FJ)) w from⟨h1.asG (Bk.aq4 b) (by rw[Bk.G];omega),by have:=(H.i.b.eg.go h2).asG (o:=27) (Eg.af6 x) (by rw[Eg.G];omega);rw[aEK.i]at this;exact this⟩);have f19:=(Z0.i.b2.K.1 19).trans (Vp.ajp v);go_enter Tryz.func137,Tryz.ntmps137;go_upto_region 1 with fail
 generalize((W.alloc (.D v.ay 98)).alloc (.D b.ay 62)).alloc (.D t.ay 81)=w1 at Z0 f19 ⊢;cases hv:v.VL
 ·rw[hv]at f19 HOE
  have f1:=(Z0.i.b1.K.1 1).trans (Bk.GL b);have f17:=(Z0.i.X.K.1 17).trans (Tu.atA t);by_cases h6:b.h.h=t.Y.h
  ·have HE:=ab (show Jh e v b t l=(0,EP (abz l b.h b.nH true) b.FJ e.c.FJ)by rw[HOE.i,if_neg (by simp),if_pos h6])
   have q1:(b.h.h != t.Y.h)=false:=by rw[h6];simp
   have q2:(b.h.h==t.Y.h)=true:=by rw[h6];simp
   have la:=Z0.i.b1.Q8 (o:=1) (a:=b.h) (Bk.FZ b) (by rw[Bk.G];omega);have lp:=(Z0.i.b1.K.1 18).trans (Bk.alb b);have CN:=ab (akw w1 A n c l b.h b.nH hnc hc (Z0.i.NA HR.i));unfold ajJ at CN;clear h6 hv;go_upto_region 5 with(go_at_call 205;(with_reducible refine CN.i.g ?_);rintro r w2 ⟨A2,n2,c2,rfl,hr2,hb2⟩;have Z2:=ab (Z0.i.go hb2);have R2:=ab hr2;clear hr2 hb2 la lp f1 f17 f19)
   have CTT:=ab (CT.i w2.drew A2 n2 c2 _ (by have h1:=R2.i.len;have h2:(abz l b.h b.nH true).a=n2:=h1;have:=aq5 (l:=l) (a:=b.h) (n:=b.nH);have:=hl.i;omega) R2.i);obtain⟨k1,k2⟩:=KM.i _ Z2.i.drew.b1 Z2.i.drew.R;go_region_held_law (fun w'=>(Df (.c (some ⟨W.a.j+1,19,none⟩))).I ah w'=.ok (.d (AO b.FJ)) w'/\(Df (.c (some ⟨q,27,none⟩))).I ah w'=.ok (.d (AO e.c.FJ)) w')
    (first|exact KM.i _ Z2.i.drew.b1 Z2.i.drew.R|exact KM.i _ Z3.i.b1 Z3.i.R|go_keep)
    (first|(go_at_call 206;(with_reducible refine CTT.i.g ?_);rintro r w3 ⟨A3,n3,c3,rfl,hn3,ho3,hb3⟩;have Z3:=ab (Z2.i.drew.go hb3);have N3:=ab hn3;have O3:=ab ho3;clear hn3 ho3 hb3))
   go_wp2;go_ret;rw[HE.i];exact .a ⟨rfl,A3,n3,c3,rfl,N3.i,iG O3.i Z2.i.R.j,Z3.i.R⟩
  ·have HE:=ab (show Jh e v b t l=(9,[])by rw[HOE.i,if_neg (by simp),if_neg h6])
   have q1:(b.h.h != t.Y.h)=true:=by simpa using h6
   have q2:(b.h.h==t.Y.h)=false:=by simpa using h6
   clear h6 hv;go_wp2;rw[HE.i];exact⟨rfl,.b ⟨by decide,rfl,Z0.i.R⟩⟩
 ·rw[hv]at f19 HOE
  have f1:=(Z0.i.b1.K.1 1).trans (Bk.GL b);have la:=Z0.i.b1.Q8 (o:=1) (a:=b.h) (Bk.FZ b) (by rw[Bk.G];omega);have l4:(rJ (.c (some ⟨q,33,none⟩))).I ah w1=.ok (.d e.c.Cv.ay) w1:=by have:=(H.i.b.eg.go Z0.i.R).Q8 (o:=33) (Eg.abf x) (by rw[Eg.G];omega);rw[azM.i]at this;exact this
  have l6:∀w',aL W.a.j W w'->(rJ (.c (some ⟨q,50,none⟩))).I ah w'=.ok (.d e.c.h.ay) w':=fun w' hb=>by have:=(H.i.b.eg.go hb).Q8 (o:=50) (Eg.af7 x) (by rw[Eg.G];omega);rw[avo.i]at this;exact this
  have L6:=ab l6;clear hv l6;obtain⟨vS,how⟩:∃o,o=aeD e b:=⟨_,rfl⟩
  rw[<-how]at HOE;have HOW:=ab how;clear how;have Z1:=ab (Z0.i.new e.c.Cv.ay 27);have HY:=ab (fun p hp=>(Z0.i.2 p hp).2.lt);go_upto_region 7 with fail
  generalize w1.alloc (.D e.c.Cv.ay 27)=w2 at Z1 ⊢;generalize w1.a.j=y at *;have HYW:=ab (show W.a.j+1+1<y from HY.i (W.a.j+1+1,t.ay) (by simp));have f1:=(Z1.i.b2.K.1 1).trans (Bk.GL b);go_upto_if 52 with fail
  go_cut []from 52 to 57 (fun wx=>Bx [(y,vS.ay),(W.a.j+1+1,t.ay),(W.a.j+1,b.ay),(W.a.j,v.ay)] W wx)
  case first=>
   cases h6:b.h.h
   ·have HO2:=ab (show vS=e.c.Cv by rw[HOW.i];unfold aeD;rw[h6];rfl)
    rw[h6]at f1;clear h6;go_wp2_with fail;go_meet
    case rel=>rw[HO2.i];exact Z1.i
   ·have HO2:=ab (show vS=e.c.h by rw[HOW.i];unfold aeD;rw[h6];rfl)
    rw[h6]at f1;have l6:=L6.i _ Z1.i.R;have th:=Z1.i.X.O 0 17 (aW (fu.G _).symm);clear h6;go_wp2_with fail;go_meet
    case rel=>
     have:=Z1.i.put (fun p hp=>by have:=HYW.i;simp at hp;rcases hp with rfl|rfl|rfl<;>simp<;>omega) e.c.h.ay (by rw[fu.G,fu.G]);rw[HO2.i];exact this
  have Z3:=ab hcut;clear hcut Z1 f1 la l4;generalize wc=w3 at Z3 ⊢;have la:=Z3.i.b2.Q8 (o:=1) (a:=b.h) (Bk.FZ b) (by rw[Bk.G];omega);have lo:=Z3.i.X.Q8 (o:=0) (a:=vS) (by have:=fu.G vS;rw[bl,<-this];simp) (by rw[fu.G];omega);have CW:=ab (ags w3 A n c l vS b.h hnc hc (Z3.i.NA HR.i));unfold ajJ at CW;obtain⟨wy,Oq⟩:∃z,z=(GV l vS b.h).2:=⟨_,rfl⟩
  have MX:=ab Oq;rw[<-Oq]at CW HOE;have HWL:=ab (anZ l vS b.h);by_cases h0:wy=0
  ·have HE:=ab (show Jh e v b t l=(0,EP (GV l vS b.h).1 b.FJ e.c.FJ)by rw[HOE.i,if_pos rfl,if_pos h0])
   have q1:(wy != 0)=false:=by simp[h0]
   clear h0 Oq;go_upto_region 12 with(go_at_call 207;(with_reducible refine CW.i.g ?_);rintro r w4 ⟨A2,n2,c2,rfl,hr2,hb2⟩;have Z4:=ab (Z3.i.go hb2);have R2:=ab hr2;clear hr2 hb2 la lo f19)
   have CTT:=ab (CT.i w4.drew A2 n2 c2 _ (by have h1:=R2.i.len;have:=HWL.i;omega) R2.i);obtain⟨k1,k2⟩:=KM.i _ Z4.i.drew.b2 Z4.i.drew.R;go_region_held_law (fun w'=>(Df (.c (some ⟨W.a.j+1,19,none⟩))).I ah w'=.ok (.d (AO b.FJ)) w'/\(Df (.c (some ⟨q,27,none⟩))).I ah w'=.ok (.d (AO e.c.FJ)) w')
    (first|exact KM.i _ Z4.i.drew.b2 Z4.i.drew.R|exact KM.i _ Z5.i.b2 Z5.i.R|go_keep)
    (first|(go_at_call 206;(with_reducible refine CTT.i.g ?_);rintro r w5 ⟨A3,n3,c3,rfl,hn3,ho3,hb3⟩;have Z5:=ab (Z4.i.drew.go hb3);have N3:=ab hn3;have O3:=ab ho3;clear hn3 ho3 hb3))
   go_wp2;go_ret;rw[HE.i];exact .a ⟨rfl,A3,n3,c3,rfl,N3.i,iG O3.i Z4.i.R.j,Z5.i.R⟩
  ·have HE:=ab (show Jh e v b t l=(10,[])by rw[HOE.i,if_pos rfl,if_neg h0])
   have q1:(wy != 0)=true:=by simpa using h0
   clear h0 Oq;go_wp2_with (go_at_call 207;(with_reducible refine CW.i.g ?_);rintro r w4 ⟨A2,n2,c2,rfl,hr2,hb2⟩;have Z4:=ab (Z3.i.go hb2);clear hr2 hb2 la lo f19);rw[HE.i];exact⟨rfl,.b ⟨by decide,rfl,Z4.i.R⟩⟩
end
structure Oc where
 err:Int
 iW:Int
 uM:Bool
 Y:Int
 E:List UInt8
 Qj:Option aS
 Yo:Nat
 akz:Nat
def Oc.ay(x:Oc):Array aB:=#[.b .a x.err,.b .a x.iW,.e x.uM,.b .a x.Y,.g (bK x.E),.a x.Qj x.Yo x.akz]
theorem Oc.G(x:Oc):x.ay.j=6:=by simp[Oc.ay]
theorem Oc.cK(x:Oc):x.ay.all (·.h)=true:=by simp[Oc.ay,cB]
@[go_sem]theorem Oc.dZ(x:Oc):dZ x.ay=6:=Oc.G x
@[go_sem]theorem Oc.Qk(x:Oc):x.ay[1]? = some (.b .a x.iW):=by simp[Oc.ay,aD]
@[go_sem]theorem Oc.avq(x:Oc):x.ay[2]? = some (.e x.uM):=by simp[Oc.ay,aD]
@[go_sem]theorem Oc.Qh(x:Oc):x.ay[3]? = some (.b .a x.Y):=by simp[Oc.ay,aD]
@[go_sem]theorem Oc.uK(x:Oc):x.ay[4]? = some (.g (bK x.E)):=by simp[Oc.ay,aD]
def uE:Oc:=⟨0,0,false,0,[],none,0,0⟩
@[go_sem]theorem azN:bY #[aI bU 0,aI bU 0,bL false,aI bU 0,ig {data:=#[]},bC none 0 0]=bY uE.ay:=rfl
@[go_sem]theorem avr:eD #[aI bU 0,aI bU 0,bL false,aI bU 0,ig {data:=#[]},bC none 0 0] 58=eD uE.ay 58:=rfl
theorem kOc:oO 58 6 uE.ay:=⟨⟨_,kN,rfl⟩,by kernel_rfl,by kernel_rfl,Oc.G _⟩
@[go_sem ↓]theorem aLb(v:aB):bZ 58 v=xu 58 v:=rfl
@[go_sem ↓]theorem aLc(v x:aB):eF 58 v x=yS 58 v x:=rfl
@[go_sem]theorem aEL(W:ak)(c:Array aB)(x:Oc)(b:Nat)(hb:b=W.a.j)(hc:dZ c=6):(yS 58 (.c (some ⟨b,0,none⟩)) (.d x.ay)).I ah (W.alloc (.D c 58))=.ok () (W.alloc (.D x.ay 58)):=kOc.stN W c x.ay b hb hc (Oc.G x) (Oc.cK x)
@[go_sem]theorem aHE(W:ak)(b o:Nat)(x:Oc)(h:W.O b o 6):(yS 58 (.c (some ⟨b,o,none⟩)) (.d x.ay)).I ah W=.ok () (gI W b o x.ay):=kOc.st W b o x.ay h (Oc.G x) (Oc.cK x)
@[go_sem ↓]theorem aLd(ps:Array (Nat×aB)):fI 58 ps=uN 58 ps:=rfl
theorem an0(w:ak)(fs:Array nS)(h:ah.underlying 58=some (.struct fs)):(iB (fun f=>Prod.mk f.Z <$> sizeOf f.type) fs:Sem (Array (Nat×Nat))).I ah w=.ok #[(0,1),(1,1),(2,1),(3,1),(4,1),(5,1)] w:=by
 have e:=kN;rw[h]at e;cases e;show _=_
 kernel_rfl
@[go_sem]theorem aEM(W:ak):(uN 58 #[]).I ah W=.ok (.d uE.ay) W:=kOc.bd0 W _ kN ⟨_,an0 W _ kN⟩
theorem Oc.azO(x:Oc)(v:Int):x.ay.c 0 (.b .a v)=({x with err:=v}:Oc).ay:=by simp[Oc.ay]
theorem Oc.an1(x:Oc)(v:Int):x.ay.c 1 (.b .a v)=({x with iW:=v}:Oc).ay:=by simp[Oc.ay]
theorem Oc.azP(x:Oc)(v:Bool):x.ay.c 2 (.e v)=({x with uM:=v}:Oc).ay:=by simp[Oc.ay]
theorem Oc.asI(x:Oc)(v:Int):x.ay.c 3 (.b .a v)=({x with Y:=v}:Oc).ay:=by simp[Oc.ay]
theorem Oc.avs(x:Oc)(v:List UInt8):x.ay.c 4 (.g (bK v))=({x with E:=v}:Oc).ay:=by simp[Oc.ay]
theorem Oc.azQ(x:Oc)(A:Option aS)(n c:Nat):x.ay.c 5 (.a A n c)=({x with Qj:=A,Yo:=n,akz:=c}:Oc).ay:=by simp[Oc.ay]
@[go_sem]theorem aBm(W:ak)(h:Bool)(v:Int)(n:List UInt8)(A:Option aS)(m c:Nat):(uN 58 #[(2,.e h),(3,.b .a v),(4,.g (bK n)),(5,.a A m c)]).I ah W=.ok (.d (Oc.mk 0 0 h v n A m c).ay) W:=kOc.bd W _ _ _ _ kN (an0 W _ kN) (by
 refine(iy rfl rfl (by rw[Oc.G];omega) (Oc.azP _ _)).trans ?_;refine(iy rfl rfl (by rw[Oc.G];omega) (Oc.asI _ _)).trans ?_;refine(iy rfl rfl (by rw[Oc.G];omega) (Oc.avs _ _)).trans ?_;refine(iy rfl rfl (by rw[Oc.G];omega) (Oc.azQ _ _ _ _)).trans ?_;rfl)
@[go_sem]theorem azR(W:ak)(k:Int):(uN 58 #[(1,.b .a k)]).I ah W=.ok (.d (Oc.mk 0 k false 0 [] none 0 0).ay) W:=kOc.bd W _ _ _ _ kN (an0 W _ kN) (by
 refine(iy rfl rfl (by rw[Oc.G];omega) (Oc.an1 _ _)).trans ?_;rfl)
@[go_sem]theorem azS(W:ak)(k:Int):(uN 58 #[(0,.b .a k)]).I ah W=.ok (.d (Oc.mk k 0 false 0 [] none 0 0).ay) W:=kOc.bd W _ _ _ _ kN (an0 W _ kN) (by
 refine(iy rfl rfl (by rw[Oc.G];omega) (Oc.azO _ _)).trans ?_;rfl)
theorem an2(v:Vector Int 11)(k:Nat)(hk:k<11)(n:Int):(yH v).c k (.b .a n)=yH (v.set k n):=by
 unfold yH;rw[bH,<-List.map_set];congr 2
 try grind
theorem aq6(v:Vector Int 11)(k:Nat)(hk:k<11):upC v k=v.set k (v.a.b k 0+1):=by
 apply Vector.ext;intro i hi;have:v.a.b k 0=v[k]:=by simp[au,hk]
 rw[this];unfold upC;rw[Vector.getElem_ofFn,Vector.getElem_set];simp only[Fin.getElem_fin];by_cases h:k=i
 ·subst h;simp
 ·have h2:¬((i:Int)=(k:Int)):=by omega
  rw[if_neg h2,if_neg h]
theorem Eg.aq7(x:Eg)(k:Nat)(hk:k<11):x.ay.c (79+k) (.b .a (x.lW.a.b k 0+1))=({x with lW:=upC x.lW k}:Eg).ay:=by
 obtain⟨P,hP,h⟩:∃P:Array aB,P.j=79/\∀v,({x with lW:=v}:Eg).ay=P++yH v:=⟨iH x.key++x.cf.ay++x.pl.ay ++ #[.a x.Ov x.DZ x.Sw,.a x.dnA x.dnN x.dnC,aev x.fl]++x.tb.ay ++ #[.b .a x.gF,.b .a x.no],by simp[dH,Cn.G,Pc.G,Tc.G],fun v=>by simp[Eg.ay,fP]⟩
 have h0:x.ay=P++yH x.lW:=h x.lW;rw[h0,h,aM,if_neg (by omega),hP,kJ,an2 _ _ hk,aq6 _ _ hk]
def Oc.why(k:Int):Oc:=⟨0,k,false,0,[],none,0,0⟩
theorem abY(v:aB)(xT:bM)(w:ak):(Gz (.iface 219 v) xT 219 true).I ah w=.ok (.J #[v,.e true]) w:=by
 have h:=Tryz.underlying219;simp[Gz,dL h]
theorem agU{w:ak}{q0 qb q:Nat}{o:Oc}{x:Eg}{k:Nat}(hk:k<11)(hr:o.iW=k)(hO:dJ w q0 o.ay)(hB:dJ w qb #[.c (some ⟨q,0,none⟩)])(hE:dJ w q x.ay)(hc:0<=x.lW.a.b k 0/\x.lW.a.b k 0+1<=9223372036854775807):
 CallsD ah 134 #[.c (some ⟨q0,0,none⟩),.c (some ⟨qb,0,none⟩)] .returning w fun e u' w'=>e=.a (.J #[])/\u'=.returning/\w'=(w.F ⟨q,79+k,none⟩ (.b .a (x.lW.a.b k 0+1))).drew:=by
 have o1:=(hO.K.1 1).trans (Oc.Qk o);rw[hr]at o1;have b0:=hB.K.1 0;have b1:=hE.K.1 (79+k);rw[Eg.anU x k hk]at b1;have b2:=hE.K.2.1 (79+k);have hw:=jS (x.lW.a.b k 0+1) (by omega);generalize x.lW.a.b k 0=n at *;refine callsD_of_wpS Tryz.func134 rfl fun c₀ cs hu=>?_
 simp only[Ar,dK,bD,gH,kP,kQ,fV,fZ,iL,gP,dG,iq];apply Ij;apply Ij;apply Cj;simp[wpOpsS,go_sem,recoverD,hu,Ar,vZ];apply Ij;apply Cj;simp[wpOpsS,go_sem,recoverD,hu,Ar,vZ];refine wpS_cond (t:=false) (by simp[Act.eval,ng]) ?_;simp only[Bool.false_eq_true,if_false];refine wpS_of_wp (wp_skip ?_);simp only[vZ];refine wpS_of_wp ?_;have hk0:(0:Int)<=(k:Int):=by omega
 have hk1:(k:Int)<11:=by omega
 go_upto_region 6 with fail
 go_region;cases c₀;simp_all[bodyPostS,results,Tryz.results134]
theorem abZ{w:ak}{q0 qb q:Nat}{c:Array aB}{x:Eg}{k:Nat}(kS:List PanicEntry)(hk:k<11)(hcs:c.j=6)(hO:dJ w q0 c)(hB:dJ w qb #[.c (some ⟨q,0,none⟩)])(hE:dJ w q x.ay)(hn1:qb≠q0)(hn2:q≠q0)(hc:0<=x.lW.a.b k 0/\x.lW.a.b k 0+1<=9223372036854775807):
 CallsD ah 134 #[.c (some ⟨q0,0,none⟩),.c (some ⟨qb,0,none⟩)] (.panicking ({v:=Q7 k,recovered:=false}::kS)) w fun e u' w'=>e=.a (.J #[])/\u'=.panicking ({v:=Q7 k,recovered:=true}::kS)/\w'=((gI w q0 0 (Oc.why k).ay).F ⟨q,79+k,none⟩ (.b .a (x.lW.a.b k 0+1))).drew:=by
 have hth:w.O q0 0 6:=hO.O 0 6 (by omega);have hO2:=hO.put (Oc.why k).ay (by rw[Oc.G,hcs]);have o1:=(hO2.K.1 1).trans (Oc.Qk _);rw[show(Oc.why (k:Int)).iW=k from rfl]at o1;have b0:=(hB.gy (o:=0) (x:=(Oc.why k).ay) hn1).K.1 0;have b1:=(hE.gy (o:=0) (x:=(Oc.why k).ay) hn2).K.1 (79+k);rw[Eg.anU x k hk]at b1;have b2:=(hE.gy (o:=0) (x:=(Oc.why k).ay) hn2).K.2.1 (79+k);have hw:=jS (x.lW.a.b k 0+1) (by omega);generalize x.lW.a.b k 0=n at *;refine callsD_of_wpS Tryz.func134 rfl fun c₀ cs hu=>?_
 simp only[Ar,dK,bD,gH,kP,kQ,fV,fZ,iL,gP,dG,iq];apply Ij;apply Ij;apply Cj;simp[wpOpsS,go_sem,recoverD,hu,Ar,vZ];apply Ij;apply Cj;simp[wpOpsS,go_sem,recoverD,hu,Ar,vZ,Q7];refine wpS_cond (t:=true) (by simp[Act.eval,ng]) ?_;simp only[if_true];refine wpS_of_wp ?_;have hty:=fun v xT w=>abY v xT w
 have Bw:(Oc.mk 0 (k:Int) false 0 [] none 0 0).ay=(Oc.why k).ay:=rfl;go_wp2;simp only[vZ,Bw];refine wpS_of_wp ?_;have hk0:(0:Int)<=(k:Int):=by omega
 have hk1:(k:Int)<11:=by omega
 generalize gI w q0 0 (Oc.why k).ay=w2 at *;go_upto_region 6 with fail
 go_region;exact⟨rfl,_,rfl,_,vE rfl _ _ _,rfl,rfl,rfl⟩
section
variable {W W':ak} {q:Nat} {e:En} {s:pG} {x:Eg} {q2 g:Nat} {sl:List (Option Fw)}
theorem an4(p:Int)(l:List UInt8):0<=(Je p l).1.uX/\(Je p l).1.uX<64:=by
 unfold Je qp
 repeat' split
 all_goals simp[qI]
 all_goals omega
theorem an5(l:List UInt8):0<=(qV l).uX/\(qV l).uX<64:=by
 have h:=an4;unfold qV xM LV
 repeat' split
 all_goals first|exact h _ _|simp[Ns]
theorem an6{v:Vector Int 11}{M:Int}(h:∀n∈v.a,0<=n/\n<=M){k:Nat}(hk:k<11):0<=v.a.b k 0/\v.a.b k 0<=M:=by
 refine h _ ?_;rw[au,aC (by simpa using hk),jr];exact dR _
theorem yM.num(h:yM W q e s x q2 g sl)(hf:jD [q] W W')(ti n:Int)(v:Vector Int 11)(hb:dJ W' q ({x with gF:=ti,no:=n,lW:=v}:Eg).ay):yM W' q e {s with gF:=ti,no:=n,lW:=v} ({x with gF:=ti,no:=n,lW:=v}:Eg) q2 g sl:=by
 have o:∀b,b∈qw x->b∉[q]:=fun b hm=>h.b.i hm
 have hs:=hf.j;have hq:=h.b.nq;refine⟨⟨hb,h.b.key,h.b.cf,h.b.Y,h.b.vs.keep hf (fun b hm=>o b (dS.2 (.a hm))),h.b.h.keep hf (fun b hm=>o b (dS.2 (.b (.a hm)))),h.b.hl.keep hf (fun b hm=>o b (dS.2 (.b (.b (.a hm))))),h.b.fl,h.b.tb.keep hf (by simp;omega) (by simp;omega),h.b.rm,h.b.nq,fun b hm=>by have:=h.b.Hz b hm;omega,rfl,rfl,rfl⟩,h.dn.keep hf (fun b hm=>o b (dS.2 (.b (.b (.b (.a hm)))))),h.tt.keep hf (fun b hm=>o b (dS.2 (.b (.b (.b (.b (.a hm))))))) (fun b hm=>o b (dS.2 (.b (.b (.b (.b (.b hm)))))))⟩
theorem yM.qW{sl':List (Option Fw)}{l':List Fw}(h:yM W q e s x q2 g sl)(hf:jD [q2,g] W W')(ht:Ky W' q2 g e.key e.c.Y sl' l')(hl:sl'.a=sl.a):yM W' q e {s with h:=l'} x q2 g sl':=by
 have o:∀b,b∈qw x->b∉[q2,g]:=fun b hm=>by have:=h.b.Hz b hm;simp;omega
 have hs:=hf.j;have hq:=h.b.nq;refine⟨⟨hf.box h.b.eg (by simp;omega),h.b.key,h.b.cf,h.b.Y,h.b.vs.keep hf (fun b hm=>o b (dS.2 (.a hm))),h.b.h.keep hf (fun b hm=>o b (dS.2 (.b (.a hm)))),h.b.hl.keep hf (fun b hm=>o b (dS.2 (.b (.b (.a hm))))),h.b.fl,ht,by rw[hl];exact h.b.rm,h.b.nq,fun b hm=>by have:=h.b.Hz b hm;omega,h.b.gF,h.b.no,h.b.lW⟩,h.dn.keep hf (fun b hm=>o b (dS.2 (.b (.b (.b (.a hm)))))),h.tt.keep hf (fun b hm=>o b (dS.2 (.b (.b (.b (.b (.a hm))))))) (fun b hm=>o b (dS.2 (.b (.b (.b (.b (.b hm)))))))⟩
structure OuR(B:Nat)(W:ak)(o:Oc)(u:Ou):Prop where
 err:o.err=u.err
 iW:o.iW=u.iW
 uM:o.uM=u.uM
 Y:o.Y=u.Y
 E:o.E=u.E
 n:o.Yo=u.i.a
 vS:W.c B 5 1 (.a o.Qj o.Yo o.akz) o.Yo (u.i.map bv)
def Yp(W:ak)(q:Nat)(e:En)(x:Eg)(q2 g:Nat)(sl:List (Option Fw))(u:pG×Ou)(r:lq)(W':ak):Prop:=
 ∃o x' sl',r=.a (.d (Oc.ay o))/\OuR W.a.j W' o u.2/\yM W' q e u.1 x' q2 g sl'/\sl'.a=sl.a/\(∀b∈qw x',b∈qw x\/(W.a.j<=b/\b∉sP o.Qj))/\jD [q,q2,g] W W'
theorem EZ{b:Nat}:b∉sP none:=by simp[sP]
theorem OuR.keep{B:Nat}{o:Oc}{u:Ou}{F:List Nat}(h:OuR B W o u)(hf:jD F W W')(hF:∀b∈F,b<B):OuR B W' o u:=
 ⟨h.err,h.iW,h.uM,h.Y,h.E,h.n,AU h.vS hf (fun k hk hm=>by
  have h2:k∈sP o.Qj:=by
   cases hA:o.Qj with
   | none=>rw[hA]at hk;cases hk
   | some a=>rw[hA]at hk;exact Dw.2 ⟨a,rfl,by simpa[jV]using hk⟩
  have h3:=(jZ h.vS k h2).1;have:=hF k hm;omega)⟩
theorem yM.count(h:yM W q e s x q2 g sl){k:Nat}(hk:k<11):yM (W.F ⟨q,79+k,none⟩ (.b .a (x.lW.a.b k 0+1))).drew q e {s with lW:=upC s.lW k} ({x with lW:=upC x.lW k}:Eg) q2 g sl:=by
 have hb:=h.b.eg.eH (79+k) (.b .a (x.lW.a.b k 0+1));rw[Eg.aq7 x k hk]at hb;have hf:jD [q] W (W.F ⟨q,79+k,none⟩ (.b .a (x.lW.a.b k 0+1))).drew:=((jD.refl [q] W).set ⟨q,79+k,none⟩ _ (.a (by simp))).drewN 1;have:=h.num hf x.gF x.no (upC x.lW k) (hb.go (fO (aH _ _) 1));rw[h.b.gF,h.b.no,h.b.lW]at this;rw[h.b.lW];rw[<-h.b.gF,<-h.b.no]at this ⊢;exact this
theorem TU{M:Int}{w:ak}{c:Array aB}{l:List UInt8}(tmps:Array aB)(r:Int)(ht:tmps.b 4 undef=.c (some ⟨W.a.j+1,0,none⟩))(hO:dJ w (W.a.j+1) c)(hc:c.j=6)(hB:dJ w W.a.j #[.c (some ⟨q,0,none⟩)])(h:yM W q e s x q2 g sl)(hi:mP M e s)(hM:M<1152921504606846976)(hr:(rV e s l).iW=r)(h0:r≠0)(hl:aL W.a.j W w):
 bodyPostD ah Tryz.f70 (Yp W q e x q2 g sl (yw e s l)) (Exit.panic [{v:=Q7 r,recovered:=false}]) {tmps:=tmps,defers:=[{target:=Target.fn (Fn.func 134) #[su (some ⟨W.a.j+1,0,none⟩),su (some ⟨W.a.j,0,none⟩)],args:=#[]}]} w:=by
 have h1:=agu e s l;rw[hr]at h1;obtain⟨k,rfl⟩:∃k:Nat,r=k:=⟨r.e,by omega⟩
 have hk:k<11:=by omega
 have hu:yw e s l=({s with lW:=upC s.lW k},{Gq with iW:=k}):=by unfold yw;rw[hr,if_neg h0]
 have hlt:=h.b.lt;have hcn:=an6 hi.ct hk;rw[<-h.b.lW]at hcn;have hE:=h.b.eg.go hl;refine leaves_cons (f:=134) (args:=#[.c (some ⟨W.a.j+1,0,none⟩),.c (some ⟨W.a.j,0,none⟩)]) (by simp) (by simp[go_sem]) ?_;refine(abZ [] hk hc hO hB hE (by omega) (by omega) (by omega)).g ?_;have hl2:=kR hl (W.a.j+1) 0 (Oc.why k).ay (by omega);have hO2:=hO.put (Oc.why k).ay (by rw[Oc.G,hc]);generalize gI w (W.a.j+1) 0 (Oc.why k).ay=w2 at *;rintro r u' w'' ⟨rfl,rfl,rfl⟩;have hE2:=(h.go hl2).count (k:=k) hk;have hf:jD [q] w2 (w2.F ⟨q,79+k,none⟩ (.b .a (x.lW.a.b k 0+1))).drew:=((jD.refl [q] w2).set ⟨q,79+k,none⟩ _ (.a (by simp))).drewN 1;refine⟨_,kOc.zh (fn:=Tryz.f70) (p:=4) (by kernel_rfl) tmps ht (hf.box hO2 (by simp;omega)) (Oc.G _),?_⟩;rw[hu];exact⟨_,_,sl,rfl,⟨rfl,rfl,rfl,rfl,rfl,rfl,eY _ _ _ _⟩,hE2,rfl,fun b hb=>.a hb,(jD.jl hl2).trans (hf.lD (by simp)) (fun g hg=>.a hg)⟩
theorem aq8{M:Int}{w:ak}{s':pG}{x':Eg}{sl':List (Option Fw)}{o:Oc}{u:pG×Ou}(tmps:Array aB)(ht:tmps.b 4 undef=.c (some ⟨W.a.j+1,0,none⟩))(hO:dJ w (W.a.j+1) o.ay)(hB:dJ w W.a.j #[.c (some ⟨q,0,none⟩)])(h:yM w q e s' x' q2 g sl')(hct:∀n∈s'.lW.a,0<=n/\n<=M)(hM:M<1152921504606846976)(hr:o.iW=0)(hu:u.1={s' with lW:=upC s'.lW 0})(hou:OuR W.a.j w o u.2)(hsl:sl'.a=sl.a)(hrw:qw x'=qw x)(hq:q<W.a.j)(hl:jD [q,q2,g] W w):
 bodyPostD ah Tryz.f70 (Yp W q e x q2 g sl u) Exit.ret {tmps:=tmps,defers:=[{target:=Target.fn (Fn.func 134) #[su (some ⟨W.a.j+1,0,none⟩),su (some ⟨W.a.j,0,none⟩)],args:=#[]}]} w:=by
 have hcn:=an6 hct (k:=0) (by omega);rw[<-h.b.lW]at hcn;refine leaves_cons (f:=134) (args:=#[.c (some ⟨W.a.j+1,0,none⟩),.c (some ⟨W.a.j,0,none⟩)]) (by simp) (by simp[go_sem]) ?_;refine(agU (k:=0) (by omega) hr hO hB h.b.eg (by omega)).g ?_;rintro r u' w'' ⟨rfl,rfl,rfl⟩;have hE2:yM _ q e {s' with lW:=upC s'.lW 0} ({x' with lW:=upC x'.lW 0}:Eg) q2 g sl':=h.count (k:=0) (by omega);have hf:jD [q] w (w.F ⟨q,79+0,none⟩ (.b .a (x'.lW.a.b 0 0+1))).drew:=((jD.refl [q] w).set ⟨q,79+0,none⟩ _ (.a (by simp))).drewN 1;refine⟨_,kOc.zh (fn:=Tryz.f70) (p:=4) (by kernel_rfl) tmps ht (hf.box hO (by simp;omega)) (Oc.G _),?_⟩;refine⟨_,({x' with lW:=upC x'.lW 0}:Eg),sl',rfl,hou.keep hf (by simp;omega),?_,hsl,fun b hb=>.a (by rw[<-hrw];exact hb),hl.trans hf (fun g hg=>.a (by simp at hg;simp[hg]))⟩;rw[hu];exact hE2
end
section
variable {W W':ak} {q:Nat} {e:En} {s:pG} {x:Eg} {q2 g:Nat} {sl:List (Option Fw)}
theorem Md.avt(h:Md W q e s x q2 g sl){W':ak}(hb:aL W.a.j W W'):(xu 29 (.c (some ⟨q,16,none⟩))).I ah W'=.ok (.d x.cf.ay) W':=Xy.Ay (h.eg.go hb) 16 (Eg.asE _) (by rw[Eg.G];omega)
theorem Bx.b4{a1 a2 a3 a4 p:Nat×Array aB}{L:List (Nat×Array aB)}{W0 W:ak}(h:Bx (a1::a2::a3::a4::p::L) W0 W):dJ W p.1 p.2:=(h.2 p (by simp)).2
theorem Bx.b5{a1 a2 a3 a4 a5 p:Nat×Array aB}{L:List (Nat×Array aB)}{W0 W:ak}(h:Bx (a1::a2::a3::a4::a5::p::L) W0 W):dJ W p.1 p.2:=(h.2 p (by simp)).2
theorem Pk.aii(p:Pk)(j:Nat)(hj:j<37):p.ay[1+j]? = p.J.ay[j]?:=by
 have h:=Pk.I9 p;rw[<-h,cu,if_pos (by rw[Pk.G];omega)]
theorem Pk.aq9(p:Pk):p.ay.m 18 (18+17)=p.J.Y.ay:=by
 apply dW;intro j;rcases aZ j 17 with hj|hj
 ·rw[nV p.ay 18 17 j hj (by rw[Pk.G];omega),show 18+j=1+(j+17)by omega,Pk.aii p (j+17) (by omega),Tu.KX _ j hj]
 ·rw[aU (by rw[Array.size_extract,Pk.G];omega),aU (by rw[fu.G];exact hj)]
def nxO(o:Option Fw)(pr:Int)(fl:Nat):Int:=match o with|some y=>acW y.vT fl|none=>UC pr fl
theorem ara(s:pG)(p:Pk)(fl:Nat)(h:p.uX=fl):Ws s p=nxO (lX s.h p.J) p.J.aP fl:=by
 unfold Ws nxO;rw[h,dQ];cases lX s.h p.J<;>rfl
theorem yM.azT(h:yM W q e s x q2 g sl)(n:Int):yM (W.F ⟨q,78,none⟩ (.b .a n)) q e {s with no:=n} ({x with no:=n}:Eg) q2 g sl:=by
 have hb:=h.b.eg.eH 78 (.b .a n);rw[Eg.anR]at hb;have:=h.num ((jD.refl [q] W).set ⟨q,78,none⟩ (.b .a n) (.a (by simp))) x.gF n x.lW hb;rw[h.b.gF,h.b.lW]at this;have e1:({x with gF:=s.gF,no:=n,lW:=s.lW}:Eg)={x with no:=n}:=by rw[<-h.b.gF,<-h.b.lW]
 rw[e1]at this;exact this
@[go_sem]theorem awO(W:ak)(t:Tu)(n:List UInt8)(st se no:Int):(atD #[(0,.d t.ay),(1,.g (bK n)),(2,.b .a st),(3,.b .a se),(4,.b .a no)]).I ah W=.ok (.d (Fw.mk t n st se no).ay) W:=kFw.bd W _ _ _ _ mV (aza W _ mV) (by
 refine uW (Fw.G _) ?_ ?_
 ·simp[rO,cO,Tu.G]
 ·simp[qN,cO,Fw.ay,fwT])
theorem gN(w:ak):aL w.a.j w w.drew:=fO (aH _ _) 1
theorem yM.frm{F:List Nat}(h:yM W q e s x q2 g sl)(hf:jD F W W')(h1:q∉F)(h2:q2∉F)(h3:g∉F)(o:∀b∈qw x,b∉F):yM W' q e s x q2 g sl:=by
 have hs:=hf.j;refine⟨⟨hf.box h.b.eg h1,h.b.key,h.b.cf,h.b.Y,h.b.vs.keep hf (fun b hm=>o b (dS.2 (.a hm))),h.b.h.keep hf (fun b hm=>o b (dS.2 (.b (.a hm)))),h.b.hl.keep hf (fun b hm=>o b (dS.2 (.b (.b (.a hm))))),h.b.fl,h.b.tb.keep hf h2 h3,h.b.rm,h.b.nq,fun b hm=>by have:=h.b.Hz b hm;omega,h.b.gF,h.b.no,h.b.lW⟩,h.dn.keep hf (fun b hm=>o b (dS.2 (.b (.b (.b (.a hm)))))),h.tt.keep hf (fun b hm=>o b (dS.2 (.b (.b (.b (.b (.a hm))))))) (fun b hm=>o b (dS.2 (.b (.b (.b (.b (.b hm)))))))⟩
theorem sO(w:ak)(b o:Nat)(c:Array aB):jD [b] w (gI w b o c):=(jD.refl [b] w).grown (lM (dN w (some b)) o c) (fun k e=>.a (by injection e with e;simp[e]))
theorem Oi{F:List Nat}{B n c:Nat}{A:Option aS}{xs:List aB}(h:W.c B 5 1 (.a A n c) n xs)(hf:jD F W W')(hF:∀b∈F,b<B):W'.c B 5 1 (.a A n c) n xs:=AU h hf (fun k hk hm=>by
 have h2:k∈sP A:=by
  cases hA:A with
  | none=>rw[hA]at hk;cases hk
  | some a=>rw[hA]at hk;exact Dw.2 ⟨a,rfl,by simpa[jV]using hk⟩
 have h3:=(jZ h k h2).1;have:=hF k hm;omega)
theorem akA{c:Cn}{l:List Vp}(h:yh c l=true):l.a<=64:=by
 unfold yh yT at h;simp only[bf,decide_eq_true_eq]at h;obtain⟨⟨⟨⟨⟨⟨⟨⟨⟨⟨_,h0⟩,_⟩,_⟩,_⟩,_⟩,_⟩,_⟩,_⟩,_⟩,_⟩:=h;exact h0.1
theorem aeE{M:Int}(h:yM W q e s x q2 g sl)(hi:mP M e s)(hM:M<1152921504606846976)(A:Option aS)(n c:Nat)(l:List UInt8)(hnc:n<=c)(hc:c<=9223372036854775807/\n<=1000000)(hr:gq W W.a.j A n l):
 aQ ah 70 #[.c (some ⟨q,0,none⟩),.a A n c] W (Yp W q e x q2 g sl (yw e s l)):=by
 have Z0:=ab (((Bx.start W).new #[.c (some ⟨q,0,none⟩)] 43).new uE.ay 58);rw[show(W.alloc (.D #[.c (some ⟨q,0,none⟩)] 43)).a.j=W.a.j+1 by simp]at Z0;have H:=ab h;have HI:=ab hi;have HM:=ab hM;have HR:=ab hr;have CP:=ab (fun(w:ak) (hb:aL W.a.j W w)=>Cb w A n c l hnc (by omega) (hr.upon hb));have KB:=ab (fun(w:ak) (h:dJ w W.a.j #[.c (some ⟨q,0,none⟩)])=>show w.b ⟨W.a.j,0,none⟩=some (.c (some ⟨q,0,none⟩))from h.K.1 0);have HK:=ab (ah0 l);have HFL:=ab (an5 l);have JJ:=ab (fun h=>anf (l:=l) h);have hmf:∀(fn:Fn)(first cap:Array aB)(w:ak),(Instr.makeFunc fn first cap).I ah w=.ok (.func fn first cap) w:=fun _ _ _ _=>rfl
 obtain⟨p,hp⟩:=dw (qV l);have HP:=ab hp;unfold PkP at CP;rw[<-hp]at CP HK HFL JJ;clear h hi hM hr hp;go_enter_defers Tryz.func70,Tryz.ntmps70;go_upto_region 2 with fail
 generalize(W.alloc (.D #[.c (some ⟨q,0,none⟩)] 43)).alloc (.D uE.ay 58)=w1 at Z0 ⊢;go_upto_region 3 with(go_at_call 32;(with_reducible refine(CP.i _ Z0.i.R).g ?_);rintro r w2 ⟨rfl,hb2⟩;have Z1:=ab ((Z0.i.go hb2).new p.ay 83);have hy:=ab (Z0.i.go hb2).X.lt;clear hb2)
 generalize w2.alloc (.D p.ay 83)=w3 at Z1 ⊢;generalize w2.a.j=y at *;have f0:=(Z1.i.X.K.1 0).trans (Pk.yt p);by_cases hk:p.kind=0
 case neg=>
  have q1:(p.kind != 0)=true:=by simpa using hk
  have HW:=ab (show(rV e s l).iW=p.kind by unfold rV;rw[<-HP.i,if_neg hk]);have HK0:=ab hk;clear hk;go_wp2_with fail;exact TU _ p.kind rfl Z1.i.b1 (Oc.G _) Z1.i.b2 H.i HI.i HM.i HW.i HK0.i Z1.i.R
 have q1:(p.kind != 0)=false:=by simpa using hk
 obtain⟨hpt,hpp⟩:=JJ.i hk;have HT:=ab (zq hpt);have HTK:=ab hpt;have HK0:=ab hk;clear hpt hpp hk JJ HK;obtain⟨v,hv⟩:=dw (Yk e.vs p.J.Y p.J.aP p.J.jR);have CV:=ab (fun(w:ak) (hb:aL W.a.j W w)=>QX x.cf e.vs p.J.Y p.J.aP p.J.jR w (H.i.b.vs.go hb) (by have h1:=H.i.b.vs.1;have h2:=akA HI.i.cn;omega));rw[<-hv]at CV;have HV:=ab hv;clear hv;obtain⟨vp,vok⟩:=v;simp only at CV;go_upto_region 5 with fail
 refine xB (Bx.abt ([(y,p.ay),(W.a.j+1,uE.ay),(W.a.j,#[.c (some ⟨q,0,none⟩)])]) W) 17 18 16 6 39 98 nM.ay (by kernel_rfl) rfl rfl rfl rfl rfl (by kernel_rfl) (by kernel_rfl) (by kernel_rfl) (by kernel_rfl) (by kernel_rfl) rfl rfl rfl (fun a w=>by simp[go_sem]) (tO rfl) Z1.i.drew ?_;apply rP;refine⟨fun T f hT es ew=>?_,?_⟩
 ·have EW:=ab ew
  have ES:=ab es;have l1:=fun m=>KB.i _ (ES.i m).b2
  have l2:=fun m=>H.i.b.avt (ES.i m).R
  have l3:=fun m=>(ES.i m).X.Q8 (o:=18) (a:=p.J.Y) (Pk.aq9 p) (by rw[Pk.G];omega)
  have l4:=fun m=>((ES.i m).X.K.1 35).trans ((Pk.aii p 34 (by omega)).trans (Tu.Vu _))
  have l5:=fun m=>((ES.i m).X.K.1 37).trans ((Pk.aii p 36 (by omega)).trans (Tu.aa1 _))
  have CF:=ab (fun m=>CV.i _ (ES.i m).R);clear es ew;simp only[mK,yu,kW,bG,bP,jM,jX]
  repeat(go_big_quiet_step ((first|(go_at_call 135;(with_reducible refine(CF.i _).g ?_);rintro e w2 ⟨rfl,hb⟩;exact⟨rfl,EW.i _ _ hb⟩))))
  exact gK rfl
 intro w9 w8 zO _ hb;have ZN:=ab ((zO.new nM.ay 98).go hb);have hyv:=ab (fun z (hz:z∈[(y,p.ay),(W.a.j+1,uE.ay),(W.a.j,#[.c (some ⟨q,0,none⟩)])])=>((zO.2 z hz).2.lt:z.1<w9.a.j));generalize w9.a.j=y2 at *;clear hb zO;have yK:=ZN.i.X.O 0 20 (aW (Vp.G nM).symm);refine⟨gI w8 y2 0 vp.ay,?_,?_⟩
 ·simp[go_sem,yK]
 simp only[Act.put,bH,bG,bP,jN,kX];have Z2:=ab (ZN.i.put (fun p hp=>jJ (hyv.i p hp)) vp.ay (by rw[Vp.G,Vp.G]));clear yK ZN;generalize gI w8 y2 0 vp.ay=w4 at Z2 ⊢;go_step;go_step;go_step;cases vok with
 | false=>
   have HW:=ab (show(rV e s l).iW=7 by
    have h1:=HV.i;unfold Yk at h1;unfold rV;rw[<-HP.i,if_pos HK0.i];cases hf:xw e.vs p.J.Y p.J.aP p.J.jR with
    | none=>rfl
    | some i=>rw[hf]at h1;cases h1)
   go_wp2_with fail;exact TU _ 7 rfl Z2.i.b2 (Oc.G _) Z2.i.b3 H.i HI.i HM.i HW.i (by decide) Z2.i.R
 | true=>
   obtain⟨i,hi1,hi2⟩:∃i,xw e.vs p.J.Y p.J.aP p.J.jR=some i/\vp=e.vs.b i nM:=by
    have h1:=HV.i;unfold Yk at h1;cases hf:xw e.vs p.J.Y p.J.aP p.J.jR with
    | none=>rw[hf]at h1;cases h1
    | some i=>rw[hf]at h1;injection h1 with h1 _;exact⟨i,rfl,h1⟩
   have HI1:=ab hi1;have HI2:=ab hi2;clear hi1 hi2 HV CV;obtain⟨bb,hbb⟩:=dw (Dv e s p.J);have CB:=ab (fun(w:ak) (hb:aL W.a.j W w)=>Yn (H.i.go hb) HI.i p.J HT.i);rw[<-hbb]at CB;have Hq:=ab hbb;clear hbb;have lt1:=Z2.i.b1.abV (o:=1) (Pk.I9 p) (by rw[Pk.G];omega);have le1:=KB.i _ Z2.i.b3;cases bb with
   | none=>
     have CB2:=ab (show∀(w:ak),aL W.a.j W w->aQ ah 136 #[.c (some ⟨q,0,none⟩),.d p.J.ay] w (fun r w'=>r=.panicked [{v:=Q7 8,recovered:=false}]/\aL w.a.j w w')from CB.i);have HW:=ab (show(rV e s l).iW=8 by
      unfold rV;rw[<-HP.i,if_pos HK0.i,HI1.i];simp only;rw[<-Hq.i])
     go_wp2_with (go_at_call 136;(with_reducible refine(CB2.i _ Z2.i.R).g ?_);rintro r w5 ⟨rfl,hb5⟩;have Z3:=ab (Z2.i.go hb5);clear hb5);exact TU _ 8 rfl Z3.i.b2 (Oc.G _) Z3.i.b3 H.i HI.i HM.i HW.i (by decide) Z3.i.R
   | some bh=>
     obtain⟨b,uM⟩:=bh;have CB2:=ab (show∀(w:ak),aL W.a.j W w->aQ ah 136 #[.c (some ⟨q,0,none⟩),.d p.J.ay] w (fun r w'=>r=.a (.J #[.d b.ay,.e uM])/\aL w.a.j w w')from CB.i);go_upto_region 9 with(go_at_call 136;(with_reducible refine(CB2.i _ Z2.i.R).g ?_);rintro r w5 ⟨rfl,hb5⟩;have Z3:=ab ((Z2.i.go hb5).new b.ay 62);have azV:=ab (fun p hp=>((Z2.i.go hb5).2 p hp).2.lt);clear hb5)
     generalize w5.alloc (.D b.ay 62)=w6 at Z3 ⊢;generalize w5.a.j=y3 at *;clear lt1 le1 CB CB2;have HY3:=ab (fun z (hz:z∈[(y2,vp.ay),(y,p.ay),(W.a.j+1,uE.ay),(W.a.j,#[.c (some ⟨q,0,none⟩)])])=>(azV.i z hz:z.1<y3));clear azV;obtain⟨ot,hot⟩:=dw (Jh e vp b p.J l);have CO:=ab (fun(w:ak) (hb:aL W.a.j W w)=>aky (H.i.go hb) vp b p.J A n c l hnc hc (HR.i.upon hb));rw[<-hot]at CO;have HOT:=ab hot;clear hot;have lt1:=Z3.i.b2.abV (o:=1) (Pk.I9 p) (by rw[Pk.G];omega);have le1:=KB.i _ Z3.i.b4;have lv1:=kVp.Ay Z3.i.b1 0 (d:=vp.ay) (by have:=Vp.G vp;rw[<-this];simp) (by rw[Vp.G];omega);have lb1:=Z3.i.X.avl;by_cases ho:ot.1=0
     case neg=>
      have HW:=ab (show(rV e s l).iW=ot.1 by
       unfold rV;rw[<-HP.i,if_pos HK0.i,HI1.i];simp only;rw[<-Hq.i];simp only;rw[<-HI2.i,<-HOT.i,if_neg ho])
      have HO:=ab ho;have CO2:=ab (fun(w:ak) (hb:aL W.a.j W w)=>(CO.i w hb).g (R':=fun r w'=>r=.panicked [{v:=Q7 ot.1,recovered:=false}]/\aL w.a.j w w') (fun r w' h=>h.elim (fun h=>absurd h.1 ho) (fun h=>h.2)));clear ho CO;go_wp2_with (go_at_call 137;(with_reducible refine(CO2.i _ Z3.i.R).g ?_);rintro r w7 ⟨rfl,hb5⟩;have Z4:=ab (Z3.i.go hb5);clear hb5);exact TU _ ot.1 rfl Z4.i.b3 (Oc.G _) Z4.i.b4 H.i HI.i HM.i HW.i HO.i Z4.i.R
     obtain⟨ok,ob⟩:=ot;obtain rfl:ok=0:=ho;have CO2:=ab (fun(w:ak) (hb:aL W.a.j W w)=>(CO.i w hb).g (R':=Kv w ob) (fun r w' h=>h.elim (fun h=>h.2) (fun h=>absurd rfl h.1)));clear CO;have MX:=ab (show rV e s l=⟨0,ob,b,uM⟩by
      unfold rV;rw[<-HP.i,if_pos HK0.i,HI1.i];simp only;rw[<-Hq.i];simp only;rw[<-HI2.i,<-HOT.i,if_pos rfl])
     have UO:=ab (show b.E.a<=1000000 by
      have h1:=HI.i.few.2.2 b (NV HI.i Hq.i.symm).1;omega)
     clear Hq HOT HI1 HI2;obtain⟨fl,hfl⟩:∃k:Nat,p.uX=k:=⟨p.uX.e,by have:=HFL.i;omega⟩
     have an8:fl<64:=by have:=HFL.i;omega
     have HFN:=ab hfl;have CG:=ab (fun(w:ak)=>aiU fl p.J.aP w an8);have CX:=ab (fun(st:Int) (w:ak)=>alD fl st w an8);clear an8 hfl HFL;go_upto_region 10 with(go_at_call 137;(with_reducible refine(CO2.i _ Z3.i.R).g ?_);rintro r w7 ⟨A3,n3,c3,rfl,hn3,ho3,hb5⟩;have Z4:=ab (Z3.i.go hb5);have N3:=ab hn3;have O3:=ab (iG ho3 (Nat.le_of_lt Z3.i.X.lt));clear hb5 hn3 ho3)
     clear lt1 le1 lv1 lb1 CO2;have lp1:=(Z4.i.b2.K.1 35).trans ((Pk.aii p 34 (by omega)).trans (Tu.Vu _));have lf1:=(Z4.i.b2.K.1 38).trans (Pk.Nr p);rw[HFN.i]at lf1;go_upto_region 11 with(go_at_call 138;(with_reducible refine(CG.i _).g ?_);rintro r w8 ⟨rfl,rfl⟩)
     clear CG lp1 lf1;obtain⟨o,ho⟩:=dw (lX s.h p.J);have HO:=ab ho;have CF0:=ab (fun(w:ak) (hb:aL W.a.j W w)=>J9 (H.i.b.tb.go hb) p.J);rw[<-ho]at CF0;have hcg:∀o,anv o = .J #[.d (wD o).qW.ay,.e o.isSome]:=fun _=>rfl
     simp only[hcg]at CF0;clear hcg ho;refine xB (S:=fun w=>Bx [(y3,b.ay),(y2,vp.ay),(y,p.ay),(W.a.j+1,uE.ay),(W.a.j,#[.c (some ⟨q,0,none⟩)])] W w/\aL w7.a.j w7 w) (fun a b h hb=>⟨h.1.go hb,h.2.trans (hb.g h.2.j)⟩) 10 11 9 12 72 86 jq.ay (by kernel_rfl) rfl rfl rfl rfl rfl (by kernel_rfl) (by kernel_rfl) (by kernel_rfl) (by kernel_rfl) (by kernel_rfl) rfl rfl rfl (fun a w=>by simp[go_sem]) (tO rfl) ⟨Z4.i.drew,fO (aH _ _) 1⟩ ?_;apply rP;refine⟨fun T f hT es ew=>?_,?_⟩
     ·have EW:=ab ew
      have ES:=ab es;have l1:=fun m=>KB.i _ (ES.i m).1.b4
      have l2:=fun m=>H.i.b.anV (ES.i m).1.R
      have l3:=fun m=>(ES.i m).1.b2.abV (o:=1) (Pk.I9 p) (by rw[Pk.G];omega)
      have CF:=ab (fun m=>CF0.i _ (ES.i m).1.R);clear es ew;simp only[mK,yu,kW,bG,bP,jM,jX]
      repeat(go_big_quiet_step ((first|(go_at_call 126;(with_reducible refine(CF.i _).g ?_);rintro e w2 ⟨rfl,hb⟩;exact⟨rfl,EW.i _ _ hb⟩))))
      exact gK rfl
     intro w9 w8 zO avu hb;have O4:=ab (AU O3.i (jD.jl (F:=[]) avu.2) (fun k hk hm=>by cases hm));have ZN:=ab ((zO.1.new jq.ay 86).go hb);have hyv:=ab (fun z (hz:z∈[(y3,b.ay),(y2,vp.ay),(y,p.ay),(W.a.j+1,uE.ay),(W.a.j,#[.c (some ⟨q,0,none⟩)])])=>((zO.1.2 z hz).2.lt:z.1<w9.a.j));have hy7:=zO.2.j;generalize w9.a.j=y4 at *;have Yt:=avu.2;have yK:=ZN.i.X.O 0 41 (aW (Fw.G jq).symm);refine⟨gI w8 y4 0 (wD o).qW.ay,?_,?_⟩
     ·simp[go_sem,yK];rfl
     simp only[Act.put,bH,bG,bP,jN,kX];have Z5:=ab (ZN.i.put (fun p hp=>jJ (hyv.i p hp)) (wD o).qW.ay (by rw[Fw.G,Fw.G]));have O5:=ab (AU O3.i (jD.jl (F:=[]) (kR Yt y4 0 (wD o).qW.ay hy7)) (fun k hk hm=>by cases hm));have HYW:=ab (show W.a.j+1<y/\y<y3 from⟨hy.i,HY3.i (y,p.ay) (by simp)⟩);clear yK ZN hyv zO avu hb Yt hy7 O4 O3 Z4 CF0;generalize gI w8 y4 0 (wD o).qW.ay=w10 at Z5 O5 ⊢;go_step;go_step;go_step;obtain⟨nx,hnx⟩:=dw (Ws s p);have HNX:=ab (hnx.trans (ara s p fl HFN.i));rw[<-HO.i]at HNX;have HNE:=ab hnx;clear hnx;go_upto_if 73 with fail
     go_cut [11]from 74 to 78 (fun s11 wx=>s11=.b .a nx/\wx=w10)
     case first=>
      cases o with
      | none=>
        go_wp2_with fail;go_meet
        case rel=>exact⟨by rw[HNX.i];rfl,rfl⟩
      | some f1=>
        have ls:=(Z5.i.X.K.1 38).trans (Fw.afR f1);have lf:=(Z5.i.b3.K.1 38).trans (Pk.Nr p);rw[HFN.i]at lf;go_wp2_with (go_at_call 139;(with_reducible refine(CX.i _ _).g ?_);rintro r w8 ⟨rfl,rfl⟩);go_meet
        case rel=>exact⟨by rw[HNX.i];rfl,rfl⟩
     obtain⟨rfl,hcut⟩:=hcut;rw[hcut];clear hcut CX HNX;have le1:=KB.i _ Z5.i.b5;have g78:=(H.i.b.eg.go Z5.i.R).K.2.1 78;have c78:=((H.i.b.eg.go Z5.i.R).K.1 78).trans (Eg.anP x);have hwr:=jS (x.no+1) (by have h1:=HI.i.no;have h2:=H.i.b.no;have h3:=HM.i;omega);go_upto_region 15 with fail
     have E1:=ab ((H.i.go Z5.i.R).azT (x.no+1));have hf1:jD [q] w10 (w10.F ⟨q,78,none⟩ (.b .a (x.no+1))):=(jD.refl [q] w10).set ⟨q,78,none⟩ _ (.a (by simp));have hqW:=H.i.b.lt;have hyw:=HYW.i;have BE:=ab (hf1.box Z5.i.b5 (by simp;omega));have BO:=ab (hf1.box Z5.i.b4 (by simp;omega));have BP:=ab (hf1.box Z5.i.b3 (by simp;omega));have BB:=ab (hf1.box Z5.i.b1 (by simp;omega));have F1:=ab ((jD.jl (F:=[q]) Z5.i.R).pQ hf1);have O6:=ab (Oi O5.i hf1 (by simp;omega));have HX:=ab (show x.no=s.no/\x.gF=s.gF/\x.pl.Y=s.Y from⟨H.i.b.no,H.i.b.gF,H.i.b.Y⟩);clear hf1 hqW hyw le1 g78 c78 hwr O5 Z5;generalize w10.F ⟨q,78,none⟩ (.b .a (x.no+1))=w11 at E1 BE BO BP BB F1 O6 ⊢;have KS:=ab (fun(w':ak) (h1:dJ w' W.a.j #[.c (some ⟨q,0,none⟩)]) (h2:dJ w' y p.ay) (h3:dJ w' y3 b.ay) (h4:dJ w' q ({x with no:=x.no+1}:Eg).ay)=>show w'.b ⟨W.a.j,0,none⟩=some (.c (some ⟨q,0,none⟩))/\w'.b ⟨q,74,none⟩=some (.c (some ⟨q2,0,none⟩))/\(tL (.c (some ⟨y,1,none⟩))).I ah w'=.ok (.d p.J.ay) w'/\w'.b ⟨y3,0,none⟩=some (.g (bK b.E))/\w'.b ⟨q,77,none⟩=some (.b .a x.gF)/\w'.b ⟨q,78,none⟩=some (.b .a (x.no+1))from
      ⟨KB.i w' h1,by
       rw[h4.K.1 74,Eg.aah];show some (su (x.fl.map fun b=>⟨b,0,none⟩))=_;rw[H.i.b.fl];rfl,h2.abV (o:=1) (Pk.I9 p) (by rw[Pk.G];omega),(h3.K.1 0).trans (Bk.pW b),(h4.K.1 77).trans (Eg.TP _),(h4.K.1 78).trans (Eg.anP _)⟩)
     have HN:=ab (qD HI.i.cn);have CU:=ab (aac (E1.i.go (gN _)).b.tb (by have:=HN.i;omega) E1.i.b.rm ⟨p.J,b.E,nx,x.gF,x.no+1⟩ UO.i);unfold agL at CU;refine wp_region_noPanic ?_;go_region_held_law (fun w'=>w'.b ⟨W.a.j,0,none⟩=some (.c (some ⟨q,0,none⟩))/\w'.b ⟨q,74,none⟩=some (.c (some ⟨q2,0,none⟩))/\(tL (.c (some ⟨y,1,none⟩))).I ah w'=.ok (.d p.J.ay) w'/\w'.b ⟨y3,0,none⟩=some (.g (bK b.E))/\w'.b ⟨q,77,none⟩=some (.b .a x.gF)/\w'.b ⟨q,78,none⟩=some (.b .a (x.no+1)))
      (first|exact KS.i _ (BE.i.go (gN _)) (BP.i.go (gN _)) (BB.i.go (gN _)) (E1.i.b.eg.go (gN _))|exact KS.i _ BE2.i BP2.i BB2.i BQ2.i|go_keep)
      (first|(go_at_call 63;(with_reducible refine CU.i.g ?_);rintro r w12 ⟨rfl,⟨sl',ht,hsl⟩,hf⟩;have HTB:=ab ht;have HSL:=ab hsl;have HF:=ab hf;have BE2:=ab (jD.box hf (BE.i.go (gN _)) (by have h1:=H.i.b.lt;have h2:=HYW.i;simp;omega));have BO2:=ab (jD.box hf (BO.i.go (gN _)) (by have h1:=H.i.b.lt;have h2:=HYW.i;simp;omega));have BP2:=ab (jD.box hf (BP.i.go (gN _)) (by have h1:=H.i.b.lt;have h2:=HYW.i;simp;omega));have BB2:=ab (jD.box hf (BB.i.go (gN _)) (by have h1:=H.i.b.lt;have h2:=HYW.i;simp;omega));have BQ2:=ab (jD.box hf (E1.i.b.eg.go (gN _)) (by have h1:=H.i.b.nq;simp;omega));clear hf ht hsl))
     refine NoPanic.normal ?_;have E2:=ab (yM.qW (E1.i.go (gN _)) HF.i HTB.i HSL.i);have le2:=KB.i _ BE2.i;have lv2:=(BQ2.i.K.1 70).trans (Eg.Qh _);have ln2:=(BB2.i.K.1 0).trans (Bk.pW b);have th2:=BO2.i.O 0 6 (aW (Oc.G uE).symm);go_upto_region 16 with fail
     go_region;have hqW:=H.i.b.lt;have hyw:=HYW.i;have hrw:=H.i.b.Hz;have G1:=ab (show jD [W.a.j+1] w12 (gI w12.drew (W.a.j+1) 0 (Oc.mk 0 0 uM x.pl.Y b.E A3 n3 c3).ay)from(jD.jl (F:=[W.a.j+1]) (gN w12)).pQ (sO w12.drew (W.a.j+1) 0 _));have BO3:=ab ((BO2.i.go (gN _)).put (Oc.mk 0 0 uM x.pl.Y b.E A3 n3 c3).ay (by rw[Oc.G,Oc.G]));have BE3:=ab (G1.i.box BE2.i (by simp));have E3:=ab (E2.i.frm G1.i (by simp;omega) (by simp;omega) (by simp;omega) (fun b hb=>by have:=hrw b hb;simp;omega));have O7:=ab (iG (Oi (Oi (Oi O6.i (jD.jl (F:=[]) (gN _)) (by simp)) HF.i (by simp;omega)) G1.i (by simp;omega)) (show W.a.j<=y3 by omega));have FF:=ab (show jD [q,q2,g] W (gI w12.drew (W.a.j+1) 0 (Oc.mk 0 0 uM x.pl.Y b.E A3 n3 c3).ay)from(((F1.i.lD (F':=[q,q2,g]) (by simp)).pQ (jD.jl (gN _))).pQ (HF.i.lD (by simp))).trans G1.i (fun j hj=>.b (by simp at hj;omega)));generalize gI w12.drew (W.a.j+1) 0 (Oc.mk 0 0 uM x.pl.Y b.E A3 n3 c3).ay=w13 at BO3 BE3 E3 O7 FF ⊢;have HFE:=ab (show yw e s l=({s with lW:=upC s.lW 0,no:=s.no+1,h:=BM e.c.Y s.h ⟨p.J,b.E,nx,s.gF,s.no+1⟩},⟨0,0,uM,s.Y,b.E,ob⟩)by
      unfold yw;rw[MX.i,if_pos rfl,<-HP.i];simp only[QO];rw[<-HNE.i])
     obtain⟨x1,x2,x3⟩:=HX.i;rw[x1,x2]at E3;rw[x3]at BO3;go_wp2;rw[HFE.i];exact aq8 _ rfl BO3.i BE3.i E3.i HI.i.ct HM.i rfl rfl ⟨rfl,rfl,rfl,rfl,rfl,N3.i,O7.i⟩ HSL.i rfl hqW.1 FF.i
end
section
variable {W W':ak} {q:Nat} {e:En} {s:pG} {x:Eg} {q2 g:Nat} {sl:List (Option Fw)}
theorem kI6:oO 24 6 (Kr (bF 6 0)):=⟨⟨_,Tryz.underlying24,rfl⟩,by kernel_rfl,by kernel_rfl,jH _⟩
structure At where
 kind:Int
 Xn:Option aS
 K9:Nat
 Kk:Nat
 op:qM
 E:List UInt8
 h:Bool
def At.ay(x:At):Array aB:=#[.b .a x.kind,.a x.Xn x.K9 x.Kk]++(x.op.ay ++ #[.g (bK x.E),.e x.h])
theorem At.G(x:At):x.ay.j=34:=by simp[At.ay,qM.G]
@[go_sem]theorem At.dZ(x:At):dZ x.ay=34:=At.G x
theorem At.yt(x:At):x.ay[0]? = some (.b .a x.kind):=by simp[At.ay,aD]
theorem At.an9(x:At):x.ay[1]? = some (.a x.Xn x.K9 x.Kk):=by simp[At.ay,aD]
theorem At.asJ(x:At):x.ay.m 2 32=x.op.ay:=by simp[At.ay,bW,qM.G,pR,tY]
theorem At.uK(x:At):x.ay[32]? = some (.g (bK x.E)):=by simp[At.ay,aD,qM.G]
theorem At.arb(x:At):x.ay[33]? = some (.e x.h):=by simp[At.ay,aD,qM.G]
structure AtR(W:ak)(a:At)(u:Ac):Prop where
 kind:a.kind=u.kind
 fr:gq W W.a.j a.Xn a.K9 u.frame
 Kk:a.K9<=a.Kk/\a.Kk<=9223372036854775807/\a.K9<=1000000
 op:a.op=u.op
 E:a.E=u.E
 h:a.h=u.h
theorem AY{w1 w2:ak}{o:Oc}{x':Eg}{sl':List (Option Fw)}{u:pG×Ou}(h:yM W q e s x q2 g sl)(hb:aL W.a.j W w1)(hl:W.a.j+1<w1.a.j)(hou:OuR w1.a.j w2 o u.2)(hE:yM w2 q e u.1 x' q2 g sl')(hsl:sl'.a=sl.a)(hr:∀b∈qw x',b∈qw x\/(w1.a.j<=b/\b∉sP o.Qj))(hf:jD [q,q2,g] w1 w2):
 Yp W q e x q2 g sl u (.a (.d o.ay)) (gI w2 (W.a.j+1) 0 o.ay):=by
 have hq:=h.b.lt;have hrw:=h.b.Hz;have hs:=hb.j;have hf2:=sO w2 (W.a.j+1) 0 o.ay;have hx:∀b∈qw x',b∉[W.a.j+1]:=by
  intro b hm;rcases hr b hm with h1|h1
  ·have:=hrw b h1;simp;omega
  ·have:=h1.1;simp;omega
 refine⟨o,x',sl',rfl,?_,hE.frm hf2 (by simp;omega) (by simp;omega) (by simp;omega) hx,hsl,fun b hm=>(hr b hm).imp id (fun h1=>⟨by omega,h1.2⟩),((jD.jl (F:=[q,q2,g]) hb).pQ hf).trans hf2 (fun k hk=>.b (by simp at hk;omega))⟩;have h2:=hou.keep hf2 (by simp;omega);exact⟨h2.err,h2.iW,h2.uM,h2.Y,h2.E,h2.n,iG h2.vS hs⟩
def Oc.bad(k:Int):Oc:=⟨k,0,false,0,[],none,0,0⟩
theorem ab0(B:Nat)(W:ak)(k:Int):OuR B W (Oc.bad k) {Gq with err:=k}:=⟨rfl,rfl,rfl,rfl,rfl,rfl,eY _ _ _ _⟩
theorem an'(B:Nat)(W:ak):OuR B W uE Gq:=⟨rfl,rfl,rfl,rfl,rfl,rfl,eY _ _ _ _⟩
theorem yM.ard(h:yM W q e s x q2 g sl)(n:Int):yM (W.F ⟨q,77,none⟩ (.b .a n)) q e {s with gF:=n} ({x with gF:=n}:Eg) q2 g sl:=by
 have hb:=h.b.eg.eH 77 (.b .a n);rw[Eg.aew]at hb;have:=h.num ((jD.refl [q] W).set ⟨q,77,none⟩ (.b .a n) (.a (by simp))) n x.no x.lW hb;rw[h.b.no,h.b.lW]at this;have e1:({x with gF:=n,no:=s.no,lW:=s.lW}:Eg)={x with gF:=n}:=by rw[<-h.b.no,<-h.b.lW]
 rw[e1]at this;exact this
theorem agV{M:Int}(h:yM W q e s x q2 g sl)(hi:mP M e s)(hM:M<1152921504606846976)(a:At)(u:Ac)(ha:AtR W a u)(hk:u.kind=1):
 aQ ah 25 #[.c (some ⟨q,0,none⟩),.d a.ay] W (Yp W q e x q2 g sl (yw e s u.frame)):=by
 have Z0:=ab (((Bx.start W).new a.ay 66).new uE.ay 58);rw[show(W.alloc (.D a.ay 66)).a.j=W.a.j+1 by simp]at Z0;have f0:=(Z0.i.b1.K.1 0).trans (At.yt a);rw[ha.kind,hk]at f0;have f1:=(Z0.i.b1.K.1 1).trans (At.an9 a);have th:=Z0.i.X.O 0 6 (aW (Oc.G uE).symm);have CF:=ab (aeE (h.go Z0.i.R) hi hM a.Xn a.K9 a.Kk u.frame ha.Kk.1 ha.Kk.2 (ha.fr.upon Z0.i.R));have hlt:=Z0.i.X.lt;have hqs:=h.b.lt;have H:=ab h;clear h;go_enter Lg,Ik;go_upto_region 1 with fail
 generalize(W.alloc (.D a.ay 66)).alloc (.D uE.ay 58)=w1 at Z0 f0 f1 th CF hlt ⊢;have HQ:=ab hqs;have HL:=ab hlt;clear hqs hlt;go_wp2_with (go_at_call 70;(with_reducible refine CF.i.g ?_);rintro r w2 ⟨o,x',sl',rfl,ho,hE,hsl,hrw,hf⟩;have HO:=ab ho;have HE:=ab hE;have HSL:=ab hsl;have HR:=ab hrw;have HF:=ab hf;have BO:=ab (hf.box Z0.i.X (by have:=HQ.i;simp;omega));have th2:=BO.i.O 0 6 (aW (Oc.G uE).symm);clear ho hE hsl hrw hf);refine aN (kOc.zh rfl _ rfl (BO.i.put o.ay (by rw[Oc.G,Oc.G])) (Oc.G _)) rfl ?_;exact AY H.i Z0.i.R HL.i HO.i HE.i HSL.i HR.i HF.i
theorem arf(h:yM W q e s x q2 g sl)(a:At)(u:Ac)(ha:AtR W a u)(hk:u.kind≠1/\u.kind≠2/\u.kind≠3/\u.kind≠4):
 aQ ah 25 #[.c (some ⟨q,0,none⟩),.d a.ay] W (Yp W q e x q2 g sl (s,{Gq with err:=1})):=by
 have Z0:=ab (((Bx.start W).new a.ay 66).new uE.ay 58);rw[show(W.alloc (.D a.ay 66)).a.j=W.a.j+1 by simp]at Z0;have f0:=(Z0.i.b1.K.1 0).trans (At.yt a);rw[ha.kind]at f0;have th:=Z0.i.X.O 0 6 (aW (Oc.G uE).symm);have hlt:=ab Z0.i.X.lt;have H:=ab h;have k1:(u.kind==1)=false:=by simpa using hk.1
 have k2:(u.kind==2)=false:=by simpa using hk.2.1
 have k3:(u.kind==3)=false:=by simpa using hk.2.2.1
 have k4:(u.kind==4)=false:=by simpa using hk.2.2.2
 clear h hk;go_enter Lg,Ik;go_upto_region 1 with fail
 generalize(W.alloc (.D a.ay 66)).alloc (.D uE.ay 58)=w1 at Z0 f0 th hlt ⊢;go_wp2_with fail;refine aN (kOc.zh rfl _ rfl (Z0.i.X.put (Oc.bad 1).ay (by rw[Oc.G,Oc.G])) (Oc.G _)) rfl ?_;exact AY H.i Z0.i.R hlt.i (ab0 _ _ 1) (H.i.go Z0.i.R) rfl (fun b hb=>.a hb) (jD.refl _ _)
theorem akB{M:Int}(h:yM W q e s x q2 g sl)(hi:mP M e s)(a:At)(u:Ac)(ha:AtR W a u)(hk:u.kind=4):
 aQ ah 25 #[.c (some ⟨q,0,none⟩),.d a.ay] W (Yp W q e x q2 g sl (QT e s)):=by
 have Z0:=ab (((Bx.start W).new a.ay 66).new uE.ay 58);rw[show(W.alloc (.D a.ay 66)).a.j=W.a.j+1 by simp]at Z0;have f0:=(Z0.i.b1.K.1 0).trans (At.yt a);rw[ha.kind,hk]at f0;have th:=Z0.i.X.O 0 6 (aW (Oc.G uE).symm);have hlt:=ab Z0.i.X.lt;have f77:=((h.b.eg.go Z0.i.R).K.1 77).trans (Eg.TP x);have g77:=(h.b.eg.go Z0.i.R).K.2.1 77;have H:=ab h;have HI:=ab hi;have hti:=hi.ti;have hxt:=h.b.gF;clear h hi;go_enter Lg,Ik;go_upto_region 1 with fail
 generalize(W.alloc (.D a.ay 66)).alloc (.D uE.ay 58)=w1 at Z0 f0 th hlt f77 g77 ⊢;by_cases hT:1099511627776<=s.gF
 ·have q1:decide (x.gF>=1099511627776)=true:=by simp;omega
  have HU:=ab (show QT e s=(s,{Gq with err:=7})by unfold QT;rw[if_pos hT]);clear hT hti hxt g77;go_wp2_with fail;refine aN (kOc.zh rfl _ rfl (Z0.i.X.put (Oc.bad 7).ay (by rw[Oc.G,Oc.G])) (Oc.G _)) rfl ?_;rw[HU.i];exact AY H.i Z0.i.R hlt.i (ab0 _ _ 7) (H.i.go Z0.i.R) rfl (fun b hb=>.a hb) (jD.refl _ _)
 ·have q1:decide (x.gF>=1099511627776)=false:=by simp;omega
  have HU:=ab (show QT e s=({s with gF:=x.gF+1,h:=LH (x.gF+1) x.cf.kD s.h},Gq)by unfold QT;rw[if_neg hT,hxt,H.i.b.cf]);have hw:=jS (x.gF+1) (by omega);have E1:=ab ((H.i.go Z0.i.R).ard (x.gF+1));have hf1:jD [q] w1 (w1.F ⟨q,77,none⟩ (.b .a (x.gF+1))):=(jD.refl [q] w1).set ⟨q,77,none⟩ _ (.a (by simp));have HF1:=ab hf1;have B0:=ab (hf1.box Z0.i.X (by have:=H.i.b.lt;simp;omega));clear hT hti hxt hf1;go_upto_region 24 with fail
  clear th f0 f77 g77;generalize w1.F ⟨q,77,none⟩ (.b .a (x.gF+1))=w2 at E1 HF1 B0 ⊢;have KS:=ab (fun(w':ak) (h4:dJ w' q ({x with gF:=x.gF+1}:Eg).ay)=>show w'.b ⟨q,74,none⟩=some (.c (some ⟨q2,0,none⟩))/\w'.b ⟨q,77,none⟩=some (.b .a (x.gF+1))/\(W9 (.c (some ⟨q,19,none⟩))).I ah w'=.ok (.d (Kr x.cf.kD)) w' from
   ⟨by
    rw[h4.K.1 74,Eg.aah];show some (su (x.fl.map fun b=>⟨b,0,none⟩))=_;rw[H.i.b.fl];rfl,(h4.K.1 77).trans (Eg.TP _),kI6.Ay h4 19 (Eg.Tp _) (by rw[Eg.G];omega)⟩)
  have CU:=ab (ael (E1.i.go (gN _)).b.tb (x.gF+1) x.cf.kD);obtain⟨k1,k2,k3⟩:=KS.i _ (E1.i.b.eg.go (gN _));go_region_held_law (fun w'=>w'.b ⟨q,74,none⟩=some (.c (some ⟨q2,0,none⟩))/\w'.b ⟨q,77,none⟩=some (.b .a (x.gF+1))/\(W9 (.c (some ⟨q,19,none⟩))).I ah w'=.ok (.d (Kr x.cf.kD)) w')
   (first|exact KS.i _ (E1.i.b.eg.go (gN _))|exact KS.i _ BQ.i|go_keep)
   (first|(go_at_call 75;(with_reducible refine CU.i.g ?_);rintro r w3 ⟨⟨A5,c5,rfl⟩,⟨sl',ht,hsl⟩,hf⟩;have HTB:=ab ht;have HSL:=ab hsl;have HF:=ab hf;have BQ:=ab (jD.box hf (E1.i.b.eg.go (gN _)) (by have h1:=H.i.b.nq;simp;omega));have B2:=ab (jD.box hf (B0.i.go (gN _)) (by have h1:=H.i.b.lt;simp;omega));clear hf ht hsl))
  have th:=B2.i.O 0 6 (aW (Oc.G uE).symm);have E2:=ab (yM.qW (E1.i.go (gN _)) HF.i HTB.i HSL.i);go_wp2_with fail;refine aN (kOc.zh rfl _ rfl (B2.i.put uE.ay rfl) (Oc.G _)) rfl ?_;rw[HU.i];exact AY H.i Z0.i.R hlt.i (an' _ _) E2.i HSL.i (fun b hb=>.a hb) (((HF1.i.lD (F':=[q,q2,g]) (by simp)).pQ (jD.jl (gN _))).pQ (HF.i.lD (by simp)))
end
section
variable {W W':ak} {q:Nat} {e:En} {s:pG} {x:Eg} {q2 g:Nat} {sl:List (Option Fw)}
theorem agW{x:Hl}{well:Bool}{r f:Int}:(uU x well r f).1.E=x.E/\((uU x well r f).2=false->(uU x well r f).1.down=x.down):=by
 unfold uU
 repeat' split
 all_goals simp
theorem aai:∀(l:List Hl)(k:Nat)(y:Hl),k<l.a->y.E=(l.b k kY).E->y.down=(l.b k kY).down->j6 (l.set k y)=j6 l
 | [],_,_,h,_,_=>by cases h
 | a::l,0,y,_,h1,h2=>by
   unfold j6;simp only[List.getD_cons_zero]at h1 h2;simp only[bP,List.filter_cons,h2];split<;>simp[h1]
 | a::l,k+1,y,h,h1,h2=>by
   have ih:=aai l k y (by simpa using h) (by simpa using h1) (by simpa using h2);unfold j6 at ih ⊢;simp only[bG,List.filter_cons];split<;>simp[ih]
theorem agX{l:List Hl}{n:List UInt8}{well:Bool}{r f:Int}(h:(Ku l n well r f).2.1=false):j6 (Ku l n well r f).1=j6 l:=by
 unfold Ku at h ⊢;split
 ·rfl
 ·rename_i hp
  rw[if_neg hp]at h;have hk:=agW (x:=l.b (zG l n).e kY) (well:=well) (r:=r) (f:=f);by_cases hl:(zG l n).e<l.a
  ·exact aai l _ _ hl hk.1 (hk.2 h)
  ·simp only
   rw[List.set_eq_of_length_le (by omega)]
theorem akC(l:List Hl)(s:List UInt8)(a:Bool)(b c:Int):(Ku l s a b c).1.a=l.a:=by
 unfold Ku;split
 ·rfl
 ·simp
theorem Ql{A:Option aS}{n c:Nat}{b:Nat}(h:b∈qw ({x with Ov:=A,DZ:=n,Sw:=c}:Eg)):b∈qw x\/b∈sP A:=by
 rcases dS.1 h with h|h|h|h|h|h
 ·exact .a (dS.2 (.a h))
 ·exact .a (dS.2 (.b (.a h)))
 ·exact .b h
 ·exact .a (dS.2 (.b (.b (.b (.a h)))))
 ·exact .a (dS.2 (.b (.b (.b (.b (.a h))))))
 ·exact .a (dS.2 (.b (.b (.b (.b (.b h))))))
theorem Md.arh{A:Option aS}{n c:Nat}{Js:List Hl}(h:Md W q e s x q2 g sl)(hR:gX Hl.ay 3 W' W'.a.j A n Js)(hf:jD [q] W W')(hb:dJ W' q ({x with Ov:=A,DZ:=n,Sw:=c}:Eg).ay)(hA:∀b∈sP A,W.a.j<=b/\b<W'.a.j):Md W' q e {s with G:=Js} ({x with Ov:=A,DZ:=n,Sw:=c}:Eg) q2 g sl:=by
 have o:∀b,b∈qw x->b∉[q]:=fun b hm=>h.i hm
 have hs:=hf.j;have hq:=h.nq;have hlt:=h.lt;refine⟨hb,h.key,h.cf,h.Y,h.vs.keep hf (fun b hm=>o b (dS.2 (.a hm))),h.h.keep hf (fun b hm=>o b (dS.2 (.b (.a hm)))),hR,h.fl,h.tb.keep hf (by simp;omega) (by simp;omega),h.rm,h.nq,fun b hm=>?_,h.gF,h.no,h.lW⟩;rcases Ql hm with hm|hm
 ·have:=h.Hz b hm;omega
 ·have:=hA b hm;omega
theorem yM.arh{A:Option aS}{n c:Nat}{Js:List Hl}(h:yM W q e s x q2 g sl)(hR:gX Hl.ay 3 W' W'.a.j A n Js)(hf:jD [q] W W')(hb:dJ W' q ({x with Ov:=A,DZ:=n,Sw:=c}:Eg).ay)(hA:∀b∈sP A,W.a.j<=b/\b<W'.a.j)(hd:j6 Js=j6 s.G):yM W' q e {s with G:=Js} ({x with Ov:=A,DZ:=n,Sw:=c}:Eg) q2 g sl:=by
 have o:∀b,b∈qw x->b∉[q]:=fun b hm=>h.b.i hm
 refine⟨h.b.arh hR hf hb hA,?_,?_⟩
 ·have:=h.dn.keep hf (fun b hm=>o b (dS.2 (.b (.b (.b (.a hm))))))
  rw[<-hd]at this;exact this
 ·have:=h.tt.keep hf (fun b hm=>o b (dS.2 (.b (.b (.b (.b (.a hm))))))) (fun b hm=>o b (dS.2 (.b (.b (.b (.b (.b hm)))))))
  have he:uf e {s with G:=Js}=uf e s:=by unfold uf;simp only;rw[hd]
  rw[<-he]at this;exact this
theorem akD{M:Int}(h:yM W q e s x q2 g sl)(hi:mP M e s)(a:At)(u:Ac)(ha:AtR W a u)(hk:u.kind=3):
 aQ ah 25 #[.c (some ⟨q,0,none⟩),.d a.ay] W (Yp W q e x q2 g sl (QS e s u.E u.h)):=by
 have Z0:=ab (((Bx.start W).new a.ay 66).new uE.ay 58);rw[show(W.alloc (.D a.ay 66)).a.j=W.a.j+1 by simp]at Z0;have f0:=(Z0.i.b1.K.1 0).trans (At.yt a);rw[ha.kind,hk]at f0;have hlt:=ab Z0.i.X.lt;have H:=ab h;have HI:=ab hi;have HA:=ab (show a.E=u.E/\a.h=u.h from⟨ha.E,ha.h⟩);have hnn:=qD hi.cn;obtain⟨st,hst⟩:=dw (Ku s.G u.E u.h x.cf.ko x.cf.fall);have hcr:x.cf.ko=e.c.ko/\x.cf.fall=e.c.fall:=by rw[h.b.cf];exact⟨rfl,rfl⟩
 have HST:=ab (show st=Ku s.G u.E u.h e.c.ko e.c.fall by rw[hst,hcr.1,hcr.2]);have CS:=ab (fun(w:ak) (hb:aL W.a.j W w)=>apk s.G u.E u.h x.cf.ko x.cf.fall x.Ov x.DZ x.Sw w (h.b.hl.go hb) (fun y hy=>by have h1:=hi.hl y hy;unfold arW;split at h1<;>omega) (by have h1:=h.b.hl.1;have h2:=hi.few;omega));rw[<-hst]at CS;unfold axz at CS;clear h hi hst hcr hnn;obtain⟨Js,turned,er⟩:=st;simp only at CS;go_enter Lg,Ik;go_upto_region 1 with fail
 generalize(W.alloc (.D a.ay 66)).alloc (.D uE.ay 58)=w1 at Z0 f0 hlt ⊢;go_upto_region 13 with fail
 have KS:=ab (fun(w':ak) (h1:dJ w' W.a.j a.ay) (h4:dJ w' q x.ay)=>show w'.b ⟨q,72,none⟩=some (.a x.Ov x.DZ x.Sw)/\w'.b ⟨W.a.j,32,none⟩=some (.g (bK u.E))/\w'.b ⟨W.a.j,33,none⟩=some (.e u.h)/\w'.b ⟨q,25,none⟩=some (.b .a x.cf.ko)/\w'.b ⟨q,26,none⟩=some (.b .a x.cf.fall)from
  ⟨(h4.K.1 72).trans (Eg.aag _),by rw[h1.K.1 32,At.uK,HA.i.1],by rw[h1.K.1 33,At.arb,HA.i.2],(h4.K.1 25).trans (Eg.Tq _),(h4.K.1 26).trans (Eg.Tt _)⟩)
 go_region_held_law (fun w'=>w'.b ⟨q,72,none⟩=some (.a x.Ov x.DZ x.Sw)/\w'.b ⟨W.a.j,32,none⟩=some (.g (bK u.E))/\w'.b ⟨W.a.j,33,none⟩=some (.e u.h)/\w'.b ⟨q,25,none⟩=some (.b .a x.cf.ko)/\w'.b ⟨q,26,none⟩=some (.b .a x.cf.fall))
  (first|exact KS.i _ Z0.i.drew.b1 (H.i.b.eg.go Z0.i.drew.R)|exact KS.i _ Z1.i.b1 (H.i.b.eg.go Z1.i.R)|go_keep)
  (first|(go_at_call 74;(with_reducible refine(CS.i _ Z0.i.drew.R).g ?_);rintro r w2 ⟨A5,c5,rfl,ho,hb⟩;have HO:=ab ho;have Z1:=ab (Z0.i.drew.go hb);have HSZ:=ab (show w1.a.j<=w2.a.j from hb.j);have HB2:=ab (show aL w1.a.j w1 w2 from(gN w1).trans hb);clear hb ho))
 have HO:=ab (show w2.c w1.a.j 100 3 (.a A5 x.DZ c5) x.DZ (xk Js)from HO.i);have th:=Z1.i.X.O 0 6 (aW (Oc.G uE).symm);by_cases her:er=0
 case neg=>
  have q1:(er != 0)=true:=by simpa using her
  have HU:=ab (show QS e s u.E u.h=(s,{Gq with err:=er})by unfold QS;rw[<-HST.i];simp only;rw[if_neg her]);clear her;go_wp2_with fail;refine aN (kOc.zh rfl _ rfl (Z1.i.X.put (Oc.bad er).ay (by rw[Oc.G,Oc.G])) (Oc.G _)) rfl ?_;rw[HU.i];exact AY H.i Z1.i.R (eO hlt.i HSZ.i) (ab0 _ _ er) (H.i.go Z1.i.R) rfl (fun b hb=>.a hb) (jD.refl _ _)
 obtain rfl:=her;have HU:=ab (show QS e s u.E u.h=({s with G:=Js},Gq)by unfold QS;rw[<-HST.i];simp);have HIV:=ab (show mP M e {s with G:=Js}by have:=ad5 HI.i u.E u.h;rw[HU.i]at this;exact this);have g72:=(H.i.b.eg.go Z1.i.R).K.2.1 72;have hb3:=(H.i.b.eg.go Z1.i.R).eH 72 (.a A5 x.DZ c5);rw[Eg.agQ]at hb3;have hf3:jD [q] w2 (w2.F ⟨q,72,none⟩ (.a A5 x.DZ c5)):=(jD.refl [q] w2).set ⟨q,72,none⟩ _ (.a (by simp));have HHB:=ab hb3;have HHF:=ab hf3;have B3:=ab (hf3.box Z1.i.X (by have:=H.i.b.lt;simp;omega));have HFR:=ab (jZ HO.i);have HLN:=ab (show Js.a=x.DZ by
  have h1:=congrArg (fun r=>r.1.a) HST.i;simp only[akC]at h1;rw[h1];exact H.i.b.hl.1)
 have RH:=ab (show gX Hl.ay 3 (w2.F ⟨q,72,none⟩ (.a A5 x.DZ c5)) (w2.F ⟨q,72,none⟩ (.a A5 x.DZ c5)).a.j A5 x.DZ Js from(gX.gU HLN.i HO.i).keep hf3 (fun b hb=>by have:=HFR.i b hb;have:=H.i.b.lt;have:=Z1.i.R.j;have:=HSZ.i;have:=Z0.i.R.j;simp;omega));have HWS:(w2.F ⟨q,72,none⟩ (.a A5 x.DZ c5)).a.j=w2.a.j:=by simp[gY]
 have HWZ:=ab HWS;have HFA:=ab ((jD.jl (F:=[q]) Z1.i.R).pQ hf3);have Gn:=ab (show W.a.j<=w1.a.j from Z0.i.R.j);have agY:=ab ((jD.jl (F:=[q]) HB2.i).pQ hf3);have HBA:=ab (show∀b∈sP A5,w1.a.j<=b/\b<(w2.F ⟨q,72,none⟩ (.a A5 x.DZ c5)).a.j from fun b hb=>by rw[HWS];exact HFR.i b hb);cases turned with
 | false=>
   have HD:=ab (show j6 Js=j6 s.G by have:=agX (l:=s.G) (n:=u.E) (well:=u.h) (r:=e.c.ko) (f:=e.c.fall) (by rw[<-HST.i]);rw[<-HST.i]at this;exact this);have E3:=ab ((H.i.go Z0.i.R).arh RH.i agY.i hb3 HBA.i HD.i);clear hf3 hb3 th HWS;have th3:=B3.i.O 0 6 (aW (Oc.G uE).symm);go_upto_region 17 with fail
   generalize w2.F ⟨q,72,none⟩ (.a A5 x.DZ c5)=w3 at E3 HHF HFA agY HBA B3 th3 HWZ RH HHB ⊢;go_wp2_with fail;refine aN (kOc.zh rfl _ rfl (B3.i.put uE.ay rfl) (Oc.G _)) rfl ?_;rw[HU.i];exact AY H.i Z0.i.R hlt.i (an' _ _) E3.i rfl (fun b hb=>(Ql hb).imp id (fun h=>⟨(HBA.i b h).1,EZ⟩)) (agY.i.lD (by simp))
 | true=>
   have E3:=ab ((H.i.go Z0.i.R).b.arh RH.i agY.i hb3 HBA.i);clear hf3 hb3 th HWS;go_upto_region 17 with fail
   generalize w2.F ⟨q,72,none⟩ (.a A5 x.DZ c5)=w3 at E3 HHF HFA agY HBA B3 HWZ RH HHB ⊢;have CB:=ab (Jr E3.i HIV.i);unfold abU at CB;go_upto_region 19 with(go_at_call 64;(with_reducible refine CB.i.g ?_);rintro r w4 ⟨rfl,⟨x',hE,hrw⟩,hf⟩;have HE:=ab hE;have HRW:=ab hrw;have HF:=ab hf;have B4:=ab (hf.box B3.i (by have:=H.i.b.lt;simp;omega));have th4:=B4.i.O 0 6 (aW (Oc.G uE).symm);clear hE hrw hf)
   go_wp2_with fail;refine aN (kOc.zh rfl _ rfl (B4.i.put uE.ay rfl) (Oc.G _)) rfl ?_;rw[HU.i];refine AY H.i Z0.i.R hlt.i (an' _ _) HE.i rfl (fun b hb=>?_) ((agY.i.pQ HF.i).lD (by simp));rcases HRW.i b hb with h1|h1
   ·exact(Ql h1).imp id (fun h=>⟨(HBA.i b h).1,EZ⟩)
   ·exact .b ⟨aO agY.i.j h1,EZ⟩
end
section
variable {W W':ak} {q:Nat} {e:En} {s:pG} {x:Eg} {q2 g:Nat} {sl:List (Option Fw)}
@[go_sem]theorem azX(W:ak)(k:Int):(uN 58 #[(3,.b .a k)]).I ah W=.ok (.d (Oc.mk 0 0 false k [] none 0 0).ay) W:=kOc.bd W _ _ _ _ kN (an0 W _ kN) (by
 refine(iy rfl rfl (by rw[Oc.G];omega) (Oc.asI _ _)).trans ?_;rfl)
theorem dJ.avw{W:ak}{b o:Nat}{c:Array aB}{t:qM}(h:dJ W b c)(hc:c.m o (o+30)=t.ay)(hs:o+30<=c.j):(MQ (.c (some ⟨b,o,none⟩))).I ah W=.ok (.d t.ay) W:=by
 obtain⟨_,_,h3,h4⟩:=h.K;rw[al1 W b o (by rw[h3 o 30 (by unfold dZ;omega)];trivial),h4 o 30 (by unfold dZ;omega),hc]
theorem aeF{F:List Nat}{B n c sz:Nat}{T:bM}{A:Option aS}{xs:List aB}(h:W.c B T sz (.a A n c) n xs)(hf:jD F W W')(hF:∀b∈F,b<B):W'.c B T sz (.a A n c) n xs:=AU h hf (fun k hk hm=>by
 have h2:k∈sP A:=by
  cases hA:A with
  | none=>rw[hA]at hk;cases hk
  | some a=>rw[hA]at hk;exact Dw.2 ⟨a,rfl,by simpa[jV]using hk⟩
 have h3:=(jZ h k h2).1;have:=hF k hm;omega)
theorem Eg.azY(h:dJ W q x.ay)(pc:Pc):dJ (gI W q 70 pc.ay) q ({x with pl:=pc}:Eg).ay:=by
 have:=h.setCells 70 pc.ay.a;rw[show pc.ay.a.toArray=pc.ay by simp,Eg.anS]at this;exact this
theorem dJ.aqY{b:Nat}{pc:Pc}(h:dJ W b pc.ay):(xu 32 (.c (some ⟨b,0,none⟩))).I ah W=.ok (.d pc.ay) W:=by
 have:=kPc.Ay h 0 (d:=pc.ay) (by have:=Pc.G pc;rw[<-this];simp) (by rw[Pc.G];omega);exact this
theorem mP.ari{M:Int}(h:mP M e s):∀y∈s.G,y.E.a<=100000:=fun y hy=>by
 have h1:y.E∈s.qU.map (·.E):=by rw[<-h.nm];exact iQ.2 ⟨y,hy,rfl⟩
 obtain⟨z,hz,h2⟩:=iQ.1 h1;have h3:=h.few.2.2 z hz;rw[<-h2];omega
theorem aoa{w4 w5 w6:ak}{mg:List Hl}{A:Option aS}{c:Nat}(h1:aL w4.drew.a.j w4.drew w5)(h2:aL w5.a.j w5 w6)(hq:q<w4.a.j)(Q:dJ w6 q x.ay)(O:w6.c w5.a.j 100 3 (.a A mg.a c) mg.a (xk mg)):
 ∃A2 n2 c2,dJ (w6.F ⟨q,72,none⟩ (.a A mg.a c)) q ({x with Ov:=A2,DZ:=n2,Sw:=c2}:Eg).ay/\gX Hl.ay 3 (w6.F ⟨q,72,none⟩ (.a A mg.a c)) (w6.F ⟨q,72,none⟩ (.a A mg.a c)).a.j A2 n2 mg/\(∀b∈sP A2,w4.a.j<=b/\b<(w6.F ⟨q,72,none⟩ (.a A mg.a c)).a.j)/\jD [q] w4 (w6.F ⟨q,72,none⟩ (.a A mg.a c)):=by
 have s1:w4.a.j<=w5.a.j:=h1.j;have hf:jD [q] w6 (w6.F ⟨q,72,none⟩ (.a A mg.a c)):=(jD.refl [q] w6).set ⟨q,72,none⟩ _ (.a (by simp));have hb:=Q.eH 72 (.a A mg.a c);rw[Eg.agQ]at hb;have hfr:=jZ O;refine⟨A,mg.a,c,hb,(gX.gU rfl O).keep hf (fun b hm=>by have:=hfr b hm;simp;omega),fun b hm=>?_,(((jD.jl (F:=[q]) (gN w4)).pQ (jD.jl h1)).pQ (jD.jl h2)).pQ hf⟩;have:=hfr b hm;have e1:(w6.F ⟨q,72,none⟩ (.a A mg.a c)).a.j=w6.a.j:=by simp[gY]
 rw[e1];omega
theorem aaj{p:Pc}{A:Option aS}{n c:Nat}{b:Nat}(h:b∈qw ({x with pl:=p,Ov:=A,DZ:=n,Sw:=c}:Eg)):b∈qw x\/b∈sP p.rA\/b∈sP A:=by
 rcases dS.1 h with h|h|h|h|h|h
 ·exact .a (dS.2 (.a h))
 ·exact .b (.a h)
 ·exact .b (.b h)
 ·exact .a (dS.2 (.b (.b (.b (.a h)))))
 ·exact .a (dS.2 (.b (.b (.b (.b (.a h))))))
 ·exact .a (dS.2 (.b (.b (.b (.b (.b h))))))
theorem Md.aET{p:Pc}{A:Option aS}{n c:Nat}{l:List Bk}{Js:List Hl}(h:Md W q e s x q2 g sl)(hP:gX Bk.ay 27 W' W'.a.j p.rA p.rN l)(hR:gX Hl.ay 3 W' W'.a.j A n Js)(hf:jD [q] W W')(hb:dJ W' q ({x with pl:=p,Ov:=A,DZ:=n,Sw:=c}:Eg).ay)(hA:∀b,b∈sP p.rA\/b∈sP A->W.a.j<=b/\b<W'.a.j):Md W' q e {s with Y:=p.Y,qU:=l,G:=Js} ({x with pl:=p,Ov:=A,DZ:=n,Sw:=c}:Eg) q2 g sl:=by
 have o:∀b,b∈qw x->b∉[q]:=fun b hm=>h.i hm
 have hs:=hf.j;have hq:=h.nq;have hlt:=h.lt;refine⟨hb,h.key,h.cf,rfl,h.vs.keep hf (fun b hm=>o b (dS.2 (.a hm))),hP,hR,h.fl,h.tb.keep hf (by simp;omega) (by simp;omega),h.rm,h.nq,fun b hm=>?_,h.gF,h.no,h.lW⟩;rcases aaj hm with hm|hm
 ·have:=h.Hz b hm;omega
 ·have:=hA b hm;omega
def DoP(w:ak)(v:Int)(l:List Bk)(er:Int)(r:lq)(w':ak):Prop:=
 ∃A c,r=.a (.J #[.d (Pc.mk v A l.a c).ay,.b .a er])/\w'.c w.a.j 62 27 (.a A l.a c) l.a (dI l)/\aL w.a.j w w'
theorem azZ{M:Int}(h:yM W q e s x q2 g sl)(hi:mP M e s)(hv:s.Y<9223372036854775807/\-9223372036854775808<=s.Y)(o:qM)(hf:o.h.rF)(hw:o.w<18446744073709551616){w:ak}(hb:aL W.a.j W w):
 aQ ah 71 #[.d x.pl.ay,.d o.ay] w (DoP w (doV s.Y s.qU o) (doL s.Y s.qU o) (qm s.Y s.qU o)):=by
 have h1:=h.b.h.go hb;have hn:=h.b.h.1;have aks:=hi.few;have:=atv s.qU hi.srt s.Y ⟨hv.2,hv.1⟩ o hf hw x.pl.rA x.pl.rC w (by rw[hn];exact h1) (by omega);rw[hn]at this;have e1:x.pl.ay = #[.b .a s.Y,.a x.pl.rA x.pl.rN x.pl.rC]:=by unfold Pc.ay;rw[h.b.Y]
 rw[e1];exact this
theorem arj{M:Int}(h:yM W q e s x q2 g sl)(hi:mP M e s)(a:At)(u:Ac)(ha:AtR W a u)(hk:u.kind=2)(hof:u.op.h.rF)(how:u.op.w<18446744073709551616):
 aQ ah 25 #[.c (some ⟨q,0,none⟩),.d a.ay] W (Yp W q e x q2 g sl (opE s u.op)):=by
 have Z0:=ab (((Bx.start W).new a.ay 66).new uE.ay 58);rw[show(W.alloc (.D a.ay 66)).a.j=W.a.j+1 by simp]at Z0;have f0:=(Z0.i.b1.K.1 0).trans (At.yt a);rw[ha.kind,hk]at f0;have hlt:=ab Z0.i.X.lt;have H:=ab h;have HI:=ab hi;have HA:=ab ha.op;have CD:=ab (fun(w:ak) (hb:aL W.a.j W w)=>azZ h hi (by obtain⟨p1,p2,_⟩:=tK.1 hi.pl;omega) u.op hof how hb);unfold DoP at CD;obtain⟨v,hv⟩:=dw (doV s.Y s.qU u.op);obtain⟨l,hl⟩:=dw (doL s.Y s.qU u.op);obtain⟨er,her⟩:=dw (qm s.Y s.qU u.op);rw[<-hv,<-hl,<-her]at CD;have HV:=ab hv;have HL:=ab hl;have HE:=ab her;clear h hi hv hl her;go_enter Lg,Ik;go_upto_region 1 with fail
 generalize(W.alloc (.D a.ay 66)).alloc (.D uE.ay 58)=w1 at Z0 f0 hlt ⊢;go_upto_region 5 with fail
 have KS:=ab (fun(w':ak) (h1:dJ w' W.a.j a.ay) (h2:aL W.a.j W w')=>show(xu 32 (.c (some ⟨q,70,none⟩))).I ah w'=.ok (.d x.pl.ay) w'/\(MQ (.c (some ⟨W.a.j,2,none⟩))).I ah w'=.ok (.d u.op.ay) w' from
  ⟨H.i.b.agR h2,h1.avw (o:=2) (by rw[<-HA.i];exact At.asJ a) (by rw[At.G];omega)⟩)
 go_cut [5,6]from 21 to 29 (fun s5 s6 wx=>∃y A c,s5=.c (some ⟨y,0,none⟩)/\s6=.b .a er/\w1.a.j<=y/\Bx [(y,(Pc.mk v A l.a c).ay),(W.a.j+1,uE.ay),(W.a.j,a.ay)] W wx/\wx.c w1.a.j 62 27 (.a A l.a c) l.a (dI l)/\aL w1.a.j w1 wx)
 case first=>
  have ZP:=ab ((Z0.i.new Ym.ay 32).drew);go_region_held_law (fun w'=>(xu 32 (.c (some ⟨q,70,none⟩))).I ah w'=.ok (.d x.pl.ay) w'/\(MQ (.c (some ⟨W.a.j,2,none⟩))).I ah w'=.ok (.d u.op.ay) w')
   (first|exact KS.i _ ZP.i.b2 ZP.i.R|exact KS.i _ Z0.i.b1 Z0.i.R|exact KS.i _ Z0.i.drew.b1 Z0.i.drew.R|exact KS.i _ (Z0.i.new Ym.ay 32).b2 (Z0.i.new Ym.ay 32).R|exact KS.i _ Z1.i.b2 Z1.i.R|exact KS.i _ Z2.i.b1 Z2.i.R|exact KS.i _ (Z2.i.new Ym.ay 32).b2 (Z2.i.new Ym.ay 32).R|exact KS.i _ ZQ.i.b2 ZQ.i.R|exact KS.i _ ZN.i.b2 ZN.i.R|go_keep)
   (first|(go_at_call 71;(with_reducible refine(CD.i _ ZP.i.R).g ?_);rintro r w2 ⟨A5,c5,rfl,ho,hb⟩;have HO:=ab ho;have Z1:=ab (ZP.i.go hb);have HB2:=ab hb;have thp:=Z1.i.X.O 0 2 (aW (Pc.G Ym).symm);have ZQ:=ab (Z1.i.put (fun p hp=>jJ (Z0.i.2 p hp).2.lt) (Pc.mk v A5 l.a c5).ay (by rw[Pc.G,Pc.G]));clear hb ho)|(go_at_call 71;(with_reducible refine(CD.i _ Z0.i.drew.R).g ?_);rintro r w2 ⟨A5,c5,rfl,ho,hb⟩;have HO:=ab ho;have Z2:=ab (Z0.i.drew.go hb);have ZN:=ab (Z2.i.new (Pc.mk v A5 l.a c5).ay 32);have HB2:=ab hb;clear hb ho))
  ·go_wp2_with fail
   go_meet
   case rel=>exact⟨w2.a.j,A5,c5,rfl,rfl,HB2.i.j,ZN.i,AU HO.i (jD.jl (F:=[]) ((aH _ _).alloc (av _) _)) (fun k hk hm=>by cases hm),((gN w1).trans HB2.i).alloc HB2.i.j _⟩
  ·go_wp2_with fail
   go_meet
   case rel=>exact⟨w1.a.j,A5,c5,rfl,rfl,av _,ZQ.i,iG (aeF HO.i (sO w2 w1.a.j 0 _) (by simp)) (by simp),kR (((aH w1.a.j w1).alloc (av _) _).trans (((gN _).trans HB2.i).g (by simp))) w1.a.j 0 _ (av _)⟩
 obtain⟨y,A,c,rfl,rfl,hy,Z3,hO,hB⟩:=hcut;have Z3:=ab Z3;have HO:=ab hO;have HB:=ab hB;have HY:=ab hy;clear hO hB hy CD;generalize wc=w3 at Z3 HO HB ⊢;have th:=Z3.i.b1.O 0 6 (aW (Oc.G uE).symm);by_cases h0:er=0
 case neg=>
  have q1:(er != 0)=true:=by simpa using h0
  have HU:=ab (show opE s u.op=(s,{Gq with err:=er})by unfold opE;rw[<-HE.i,if_neg h0]);clear h0;go_wp2_with fail;refine aN (kOc.zh rfl _ rfl (Z3.i.b1.put (Oc.bad er).ay (by rw[Oc.G,Oc.G])) (Oc.G _)) rfl ?_;rw[HU.i];exact AY H.i Z3.i.R (eO hlt.i HB.i.j) (ab0 _ _ er) (H.i.go Z3.i.R) rfl (fun b hb=>.a hb) (jD.refl _ _)
 obtain rfl:=h0;have HU:=ab (show opE s u.op=({s with Y:=v,qU:=l,G:=EC s.G (l.map (·.E))},{Gq with Y:=v})by unfold opE;rw[<-HE.i,if_pos rfl,<-HV.i,<-HL.i]);have HIV:=ab (show mP M e {s with Y:=v,qU:=l,G:=EC s.G (l.map (·.E))}by have:=am3 HI.i u.op hof how;rw[HU.i]at this;exact this);have hq:=H.i.b.lt;have hyw:W.a.j+1<y:=eO hlt.i HY.i;have EB:=H.i.b.eg.go Z3.i.R;have th2:=EB.O 70 2 (by rw[Eg.G];omega);have lp:=Z3.i.X.aqY;have HB4:=ab (Eg.azY EB (Pc.mk v A l.a c));go_upto_region 9 with fail
 have hrw:=H.i.b.Hz;have F4:=ab (sO w3 q 70 (Pc.mk v A l.a c).ay);have BY:=ab (F4.i.box Z3.i.X (by simp;omega));have B4:=ab (F4.i.box Z3.i.b1 (by simp;omega));have O4:=ab (aeF HO.i F4.i (by have:=Z0.i.R.j;simp;omega));have HR4:=ab ((H.i.b.hl.go Z3.i.R).keep F4.i (fun b hb=>by have:=hrw b (dS.2 (.b (.b (.a hb))));simp;omega));have HF:=ab HIV.i.few;have HNN:=ab HI.i.ari;have HNM:=ab (show∀z∈l.map (·.E),z.a<=100000 from fun z hz=>by
  obtain⟨b,hb,rfl⟩:=iQ.1 hz;have:=HF.i.2.2 b hb;omega)
 have HLE:=ab (show x.DZ<=100000 by have h1:=H.i.b.hl.1;have h2:=HI.i.few;omega);have HQ3:=ab (show q<w3.a.j by have:=Z3.i.R.j;omega);clear hq hyw EB th2 lp hrw th f0;generalize gI w3 q 70 (Pc.mk v A l.a c).ay=w4 at HB4 F4 BY B4 O4 HR4 ⊢;have HQ4:=ab (show q<w4.a.j from eO HQ3.i F4.i.j);have CN:=ab (aex l v A l.a c w4.drew ((gX.gU rfl O4.i).go (gN _)) (by have:=HF.i.1;simp at this;omega));have f72:=((HB4.i.go (gN _)).K.1 72).trans (Eg.aag _);have lp:=(BY.i.go (gN _)).aqY;go_cut []from 38 to 47 (fun wx=>∃A2 n2 c2,dJ wx q ({x with pl:=Pc.mk v A l.a c,Ov:=A2,DZ:=n2,Sw:=c2}:Eg).ay/\gX Hl.ay 3 wx wx.a.j A2 n2 (EC s.G (l.map (·.E)))/\(∀b∈sP A2,w4.a.j<=b/\b<wx.a.j)/\jD [q] w4 wx)
 case first=>
  go_region_with (first
   | (go_at_call 73;(with_reducible refine CN.i.g ?_);rintro r w5 ⟨A2,n2,c2,rfl,hR,hb⟩;have HN5:=ab hR;have B5:=ab hb;have Y5:=ab ((BY.i.go (gN _)).go hb);have Q5:=ab ((HB4.i.go (gN _)).go hb);have aLs:=(Q5.i.K.1 72).trans (Eg.aag _);have lp5:=Y5.i.aqY;have CY:=ab (amk s.G (l.map (·.E)) x.Ov x.DZ x.Sw A2 n2 c2 w5 ((HR4.i.go (gN _)).go hb) hR HLE.i (by have h1:=hR.1;have h2:=HF.i.1;simp at h1 h2;omega) HNN.i HNM.i);clear hR hb)
   | (go_at_call 72;(with_reducible refine CY.i.g ?_);rintro r w6 ⟨A6,c6,rfl,ho,hb⟩;have O6:=ab ho;have B6:=ab hb;have Y6:=ab (Y5.i.go hb);have Q6:=ab (Q5.i.go hb);have g72:=Q6.i.K.2.1 72;have aLt:=(Q6.i.K.1 72).trans (Eg.aag _);have Y7:=ab (((jD.refl [q] w6).set ⟨q,72,none⟩ (.a A6 (EC s.G (l.map (·.E))).a c6) (.a (by simp))).box Y6.i (by have h1:=H.i.b.lt;have h2:=hlt.i;have h3:=HY.i;simp;omega));clear ho hb))
  all_goals go_wp2_with fail
  all_goals go_meet
  all_goals(have hs:=aoa (x:=({x with pl:=Pc.mk v A l.a c}:Eg)) B5.i B6.i HQ4.i Q6.i O6.i;exact hs)
 obtain⟨A2,n2,c2,hb5,hr5,avx,hf5⟩:=hcut;have s1:=HB.i.j;have F34:jD [q] w1 wc:=((jD.jl (F:=[q]) HB.i).pQ F4.i).pQ hf5;have hq1:=H.i.b.lt;have s0:=Z0.i.R.j;have hOf:=jZ O4.i;have E5:=ab ((H.i.go Z0.i.R).b.aET (p:=Pc.mk v A l.a c) (((gX.gU rfl O4.i)).keep hf5 (fun b hb=>by have:=hOf b hb;simp;omega)) hr5 F34 hb5 (fun b hb=>by
  rcases hb with hb|hb
  ·have h1:=hOf b hb;have h2:=hf5.j;omega
  ·have h1:=avx b hb;have h2:=F4.i.j;omega))
 have aEV:=ab avx;have HOF:=ab hOf;have az0:=ab F34;have hyw:W.a.j+1<y:=eO hlt.i HY.i;have Y5:=ab (hf5.box BY.i (by simp;omega));have U5:=ab (hf5.box B4.i (by simp;omega));have CB:=ab (Jr (show Md wc q e {s with Y:=v,qU:=l,G:=EC s.G (l.map (·.E))} _ q2 g sl from E5.i) HIV.i);unfold abU at CB;have HS4:=ab (show w1.a.j<=w4.a.j from aO HB.i.j F4.i.j);have HYW:=ab hyw;clear avx hOf F34 hyw hf5 hb5 hr5 s1 s0 hq1 CN f72 lp;go_upto_region 11 with(go_at_call 64;(with_reducible refine CB.i.g ?_);rintro r w7 ⟨rfl,⟨x',hE,hrw⟩,hf⟩;have HEE:=ab hE;have HRW:=ab hrw;have HF7:=ab hf;have Y7:=ab (hf.box Y5.i (by have h1:=H.i.b.lt;have h2:=HYW.i;simp;omega));have U7:=ab (hf.box U5.i (by have h1:=H.i.b.lt;simp;omega));clear hE hrw hf)
 have fv:=(Y7.i.K.1 0).trans (Pc.Qh _);have th:=U7.i.O 0 6 (aW (Oc.G uE).symm);go_wp2_with fail;refine aN (kOc.zh rfl _ rfl (U7.i.put (Oc.mk 0 0 false v [] none 0 0).ay (by rw[Oc.G,Oc.G])) (Oc.G _)) rfl ?_;rw[HU.i];refine AY H.i Z0.i.R hlt.i ⟨rfl,rfl,rfl,rfl,rfl,rfl,eY _ _ _ _⟩ HEE.i rfl (fun b hb=>?_) ((az0.i.pQ HF7.i).lD (by simp));rcases HRW.i b hb with h1|h1
 ·rcases aaj h1 with h2|h2|h2
  ·exact .a h2
  ·exact .b ⟨(HOF.i b h2).1,EZ⟩
  ·exact .b ⟨aO HS4.i (aEV.i b h2).1,EZ⟩
 ·exact .b ⟨aO az0.i.j h1,EZ⟩
end
theorem Xo{W:ak}{q:Nat}{e:En}{s:pG}{x:Eg}{q2 g:Nat}{sl:List (Option Fw)}{M:Int}(h:yM W q e s x q2 g sl)(hi:mP M e s)(hM:M<1152921504606846976)(a:At)(u:Ac)(ha:AtR W a u)(hof:u.op.h.rF)(how:u.op.w<18446744073709551616):
 aQ ah 25 #[.c (some ⟨q,0,none⟩),.d a.ay] W (Yp W q e x q2 g sl (wL e s u)):=by
 unfold wL;by_cases h1:u.kind=1
 ·rw[if_pos h1];exact agV h hi hM a u ha h1
 rw[if_neg h1];by_cases h2:u.kind=2
 ·rw[if_pos h2];exact arj h hi a u ha h2 hof how
 rw[if_neg h2];by_cases h3:u.kind=3
 ·rw[if_pos h3];exact akD h hi a u ha h3
 rw[if_neg h3];by_cases h4:u.kind=4
 ·rw[if_pos h4];exact akB h hi a u ha h4
 rw[if_neg h4];exact arf h a u ha ⟨h1,h2,h3,h4⟩
def aob(w:ak)(n:Nat)(l:List (List UInt8))(e:lq)(w':ak):Prop:=
 ∃A c,e=.a (.a A n c)/\w'.c w.a.j 9 1 (.a A n c) n (l.h fun x=>(txA x).a)/\aL w.a.j w w'
@[go_sem]theorem avy(w:ak):(aeo 0 #[]).I ah w=.ok (.a (some ⟨w.a.j,0,none⟩) 0 0) (w.alloc (.D #[] 9)):=by
 obtain⟨i0,hi0,hz0,hz1,_⟩:=Uj;simp[aeo,bI,dL kM,zeroValue,sizeOf,typeInfo,hi0,hz0,hz1,fB,newRow,cO];rw[show(lU 0) = #[]by decide];simp
theorem aeG(l:List (List UInt8))(A:Option aS)(n c:Nat)(w:ak)(hR:RdT w w.a.j A n l)(hn:n<=100000):
 aQ ah 88 #[.a A n c] w (aob w n l):=by
 have hll:=hR.1;cases A with
 | some a=>
   have hnil:∀W:ak,(binOp .eql 69 (.a (some a) n c) (.a none 0 0)).I ah W=.ok (.e false) W:=fun W=>by
    simp only[binOp];simp[iV,kM]
   obtain⟨i0,hi0,hz0,hz1,hzb⟩:=Uj;have hz2:(ig ⟨#[]⟩).D.j=1:=rfl;have O1:=ab (show(w.alloc (.D #[] 9)).c w.a.j 9 1 (.a (some ⟨w.a.j,0,none⟩) 0 0) 0 []from pV w #[] 0 (av _) (by unfold maxLen;omega) rfl);have O2:=ab (hR.alloc (av _) (.D #[] 9)).2.1;have Qz:=ab (show 0+n<=maxLen by unfold maxLen;omega);have QA:=ab (show(0+n)*i0.bytes<=140737488355328 from aO (gG (show 0+n<=100000 by omega) hzb) (by omega));have O3:=ab (show w.a.j<=(w.alloc (.D #[] 9)).a.j by simp);have ON:=ab (El txA (fun x=>by simp[txA,cB]) l);clear hR hll;go_enter Tryz.func88,Tryz.ntmps88;go_wp2_with (at_builtin;refine ji _ rfl (.a 5) (.a 6) _ rfl w.a.j 9 i0 (.g ⟨#[]⟩) 1 i0.bytes kM hi0 hz0 hz1 rfl hz2 (lH _) (.a (some ⟨w.a.j,0,none⟩) 0 0) 0 [] rfl O1.i w.a.j (some a) n c ((l.h fun x=>(txA x).a)) rfl O2.i ON.i Qz.i QA.i O3.i ?_;intro v1 w1 hown1 hg1 wJ);obtain⟨A',c',hv,_,_⟩:=jG hown1;subst hv;simp only[bl,dG]at hown1;have hb:=tX ((aH w.a.j w).alloc (av _) (.D #[] 9)) hg1 (av _) O3.i;go_wp2;go_ret;exact⟨A',c',by simp,hown1,hb⟩
 | none=>
   have h0:n=0:=by
    rcases dY n with h0|h0
    ·exact h0
    ·obtain⟨a,ha,_⟩:=hR.2.1.2 h0;cases ha
   subst h0;have hl:l=[]:=bE hll;subst hl;have hnil:∀W:ak,(binOp .eql 69 (.a none 0 c) (.a none 0 0)).I ah W=.ok (.e true) W:=fun W=>by
    simp only[binOp];simp[iV,kM]
   have FIN:=ab (show aob w 0 [] (.a (.a none 0 0)) w from⟨none,0,rfl,eY _ _ _ _,aH _ _⟩);clear hR hll;go_enter Tryz.func88,Tryz.ntmps88;go_wp2;go_ret;exact FIN.i
theorem asK:∃i:nJ,ah.l 3=some i/\i.zero=some (.b .a 0)/\i.j=1/\i.bytes<=400:=by
 obtain⟨i,h1,h2,h3,h4⟩:=Ci (P:=ah) (e:=3) (z:=.b .a 0) (size:=1) (bytes:=8) (by kernel_rfl);exact⟨i,h1,h2,h3,by omega⟩
theorem aoc:∃i:nJ,ah.l 98=some i/\i.zero=some (.d nM.ay)/\i.j=20/\i.bytes<=400:=by
 obtain⟨i,h1,h2,h3⟩:=kVp.af4;refine⟨i,h1,h3,h2,?_⟩;have h4:(ah.l 98).map (fun i=>decide (i.bytes<=400))=some true:=by kernel_rfl
 rw[h1]at h4;simpa using h4
@[go_sem]theorem asL(w:ak):(LG 0 #[]).I ah w=.ok (.a (some ⟨w.a.j,0,none⟩) 0 0) (w.alloc (.D #[] 3)):=by
 obtain⟨i0,hi0,hz0,hz1,_⟩:=asK;simp[LG,bI,dL nZ,zeroValue,sizeOf,typeInfo,hi0,hz0,hz1,fB,newRow,cO];rw[show(lU 0) = #[]by decide];simp
def avz(w:ak)(n:Nat)(l:List Int)(e:lq)(w':ak):Prop:=
 ∃A c,e=.a (.a A n c)/\w'.c w.a.j 3 1 (.a A n c) n (l.h fun x=>(Gd x).a)/\aL w.a.j w w'
theorem agZ(l:List Int)(A:Option aS)(n c:Nat)(w:ak)(hR:gX Gd 1 w w.a.j A n l)(hn:n<=100000):
 aQ ah 89 #[.a A n c] w (avz w n l):=by
 have hll:=hR.1;cases A with
 | some a=>
   have hnil:∀W:ak,(binOp .eql 70 (.a (some a) n c) (.a none 0 0)).I ah W=.ok (.e false) W:=fun W=>by
    simp only[binOp];simp[iV,nZ]
   obtain⟨i0,hi0,hz0,hz1,hzb⟩:=asK;have hz2:(aI .a 0).D.j=1:=rfl;have O1:=ab (show(w.alloc (.D #[] 3)).c w.a.j 3 1 (.a (some ⟨w.a.j,0,none⟩) 0 0) 0 []from pV w #[] 0 (av _) (by unfold maxLen;omega) rfl);have O2:=ab (hR.alloc (av _) (.D #[] 3)).2.1;have Qz:=ab (show 0+n<=maxLen by unfold maxLen;omega);have QA:=ab (show(0+n)*i0.bytes<=140737488355328 from aO (gG (show 0+n<=100000 by omega) hzb) (by omega));have O3:=ab (show w.a.j<=(w.alloc (.D #[] 3)).a.j by simp);have ON:=ab (El Gd (fun x=>by simp[Gd,cB]) l);clear hR hll;go_enter Tryz.func89,Tryz.ntmps89;go_wp2_with (at_builtin;refine ji _ rfl (.a 5) (.a 6) _ rfl w.a.j 3 i0 (.b .a 0) 1 i0.bytes nZ hi0 hz0 hz1 rfl hz2 (lH _) (.a (some ⟨w.a.j,0,none⟩) 0 0) 0 [] rfl O1.i w.a.j (some a) n c ((l.h fun x=>(Gd x).a)) rfl O2.i ON.i Qz.i QA.i O3.i ?_;intro v1 w1 hown1 hg1 wJ);obtain⟨A',c',hv,_,_⟩:=jG hown1;subst hv;simp only[bl,dG]at hown1;have hb:=tX ((aH w.a.j w).alloc (av _) (.D #[] 3)) hg1 (av _) O3.i;go_wp2;go_ret;exact⟨A',c',by simp,hown1,hb⟩
 | none=>
   have h0:n=0:=by
    rcases dY n with h0|h0
    ·exact h0
    ·obtain⟨a,ha,_⟩:=hR.2.1.2 h0;cases ha
   subst h0;have hl:l=[]:=bE hll;subst hl;have hnil:∀W:ak,(binOp .eql 70 (.a none 0 c) (.a none 0 0)).I ah W=.ok (.e true) W:=fun W=>by
    simp only[binOp];simp[iV,nZ]
   have FIN:=ab (show avz w 0 [] (.a (.a none 0 0)) w from⟨none,0,rfl,eY _ _ _ _,aH _ _⟩);clear hR hll;go_enter Tryz.func89,Tryz.ntmps89;go_wp2;go_ret;exact FIN.i
def avA(w:ak)(n:Nat)(l:List Vp)(e:lq)(w':ak):Prop:=
 ∃A c,e=.a (.a A n c)/\w'.c w.a.j 98 20 (.a A n c) n (l.h fun x=>(Vp.ay x).a)/\aL w.a.j w w'
theorem aeH(l:List Vp)(A:Option aS)(n c:Nat)(w:ak)(hR:gX Vp.ay 20 w w.a.j A n l)(hn:n<=100000):
 aQ ah 60 #[.a A n c] w (avA w n l):=by
 have hll:=hR.1;cases A with
 | some a=>
   have hnil:∀W:ak,(binOp .eql 23 (.a (some a) n c) (.a none 0 0)).I ah W=.ok (.e false) W:=fun W=>by
    simp only[binOp];simp[iV,Fu]
   obtain⟨i0,hi0,hz0,hz1,hzb⟩:=aoc;have hz2:(bY nM.ay).D.j=20:=by simp[cO,Vp.G]
   have O1:=ab (show(w.alloc (.D #[] 98)).c w.a.j 98 20 (.a (some ⟨w.a.j,0,none⟩) 0 0) 0 []from pV w #[] 0 (av _) (by unfold maxLen;omega) rfl);have O2:=ab (hR.alloc (av _) (.D #[] 98)).2.1;have Qz:=ab (show 0+n<=maxLen by unfold maxLen;omega);have QA:=ab (show(0+n)*i0.bytes<=140737488355328 from aO (gG (show 0+n<=100000 by omega) hzb) (by omega));have O3:=ab (show w.a.j<=(w.alloc (.D #[] 98)).a.j by simp);have ON:=ab (El Vp.ay Vp.cK l);clear hR hll;go_enter Tryz.func60,Tryz.ntmps60;go_wp2_with (at_builtin;refine ji _ rfl (.a 5) (.a 6) _ rfl w.a.j 98 i0 (.d nM.ay) 20 i0.bytes Fu hi0 hz0 hz1 rfl hz2 (lH _) (.a (some ⟨w.a.j,0,none⟩) 0 0) 0 [] rfl O1.i w.a.j (some a) n c ((l.h fun x=>(Vp.ay x).a)) rfl O2.i ON.i Qz.i QA.i O3.i ?_;intro v1 w1 hown1 hg1 wJ);obtain⟨A',c',hv,_,_⟩:=jG hown1;subst hv;simp only[bl,dG]at hown1;have hb:=tX ((aH w.a.j w).alloc (av _) (.D #[] 98)) hg1 (av _) O3.i;go_wp2;go_ret;exact⟨A',c',by simp,hown1,hb⟩
 | none=>
   have h0:n=0:=by
    rcases dY n with h0|h0
    ·exact h0
    ·obtain⟨a,ha,_⟩:=hR.2.1.2 h0;cases ha
   subst h0;have hl:l=[]:=bE hll;subst hl;have hnil:∀W:ak,(binOp .eql 23 (.a none 0 c) (.a none 0 0)).I ah W=.ok (.e true) W:=fun W=>by
    simp only[binOp];simp[iV,Fu]
   have FIN:=ab (show avA w 0 [] (.a (.a none 0 0)) w from⟨none,0,rfl,eY _ _ _ _,aH _ _⟩);clear hR hll;go_enter Tryz.func60,Tryz.ntmps60;go_wp2;go_ret;exact FIN.i
theorem asM:(81:bM)<ah.types.j:=of_decide_eq_true (by kernel_rfl)
theorem ab1:Maps.Keyed ah 81:=Maps.Keyed.of_law (deep_law_laid ag9 (m:=4) (by omega) asM (by kernel_rfl) (by kernel_rfl))
theorem Kl{α β:Type}{f:α->Option β}:∀l:List α,(∀x∈l,∃y,f x=some y)->∃ys,l.mapM f=some ys
 | [],_=>⟨[],rfl⟩
 | x::l,h=>by
   obtain⟨y,hy⟩:=h x (by simp);obtain⟨ys,hys⟩:=Kl l (fun z hz=>h z (by simp[hz]));exact⟨y::ys,by simp[List.mapM_cons,hy,hys]⟩
theorem ag0(d:Nat)(z:Int)(h : -9223372036854775808<=z/\z<=9223372036854775807):∃ls,ah.keyLits (d+1) 3 [.b .a z]=some ls:=by
 have hw:(Lit.int .a z).wf=true:=by simp[Lit.wf,Jv,Jw,lN,nQ];omega
 unfold wY;simp only[gQ];rw[if_pos ⟨trivial,hw⟩];exact⟨_,rfl⟩
theorem ark(d:Nat)(b:Bool):∃ls,ah.keyLits (d+1) 4 [.e b]=some ls:=by
 unfold wY;simp only[Tryz.underlying4];exact⟨_,rfl⟩
theorem az1(d:Nat)(b:UInt8):∃ls,ah.keyLits (d+1) 5 [bv b]=some ls:=by
 have hb:=b.toNat_lt;have hw:(Lit.int .u8 (b.e:Int)).wf=true:=by simp[Lit.wf,Jv,Jw,lN,nQ];omega
 unfold wY bv;simp only[Tryz.underlying5];rw[if_pos ⟨trivial,hw⟩];exact⟨_,rfl⟩
theorem avB(d:Nat)(v:Vector UInt8 16):∃ls,ah.keyLits (d+2) 22 (v.a.map bv)=some ls:=by
 have hc:ah.a 22=16:=by kernel_rfl
 have h1:ah.a 5=1:=by kernel_rfl
 unfold wY;simp only[nX];rw[if_pos (by rw[hc];simp),h1];obtain⟨ys,hys⟩:=Kl (f:=fun i=>ah.keyLits (d+1) 5 (((v.a.map bv).f (i*1)).d 1)) (List.range 16) (fun i hi=>by
  have hi:=dU.1 hi;have e:((v.a.map bv).f (i*1)).d 1=[bv v[i]]:=by
   rw[gB,List.drop_eq_getElem_cons (by simpa using hi)];simp
  rw[e];exact az1 d _)
 rw[hys];exact⟨_,rfl⟩
theorem aod(d:Nat)(a:fu):∃ls,ah.keyLits (d+3) 27 a.ay.a=some ls:=by
 obtain⟨f1,h1⟩:=ark (d+1) a.h;obtain⟨f2,h2⟩:=avB d a.b;have hc:ah.a 27=17:=by kernel_rfl
 have c1:ah.a 4=1:=by kernel_rfl
 have c2:ah.a 22=16:=by kernel_rfl
 have e:a.ay.a=bL a.h::a.b.a.map bv:=by simp[fu.ay]
 unfold wY;simp only[eZ];rw[if_pos ⟨by rw[hc,e];simp,by simp⟩];obtain⟨ys,hys⟩:=Kl (f:=fun f:nS=>ah.keyLits (d+2) f.type ((a.ay.a.f f.Z).d (ah.a f.type))) (ah.fieldsOf 27).a (fun f hf=>by
  simp only[jP,eZ]at hf;simp only[bB,fJ,or_false]at hf;rcases hf with rfl|rfl
  ·simp only[c1,e];exact⟨f1,h1⟩
  ·simp only[c2,e]
   rw[jN,kX,aK (by simp)];exact⟨f2,h2⟩)
 simp only[jP,eZ]at hys;rw[hys];exact⟨_,rfl⟩
theorem Tu.Xq(t:Tu):t.ay.a=t.h.ay.a++(t.Y.ay.a++[.b .a t.aP,.b .a t.kV,.b .a t.jR]):=by
 simp[Tu.ay,tuT]
theorem az2(d:Nat)(t:Tu)(h:FP t=true):∃ls,ah.keyLits (d+4) 81 t.ay.a=some ls:=by
 have hh:=h;unfold FP XL at hh;simp only[bf,decide_eq_true_eq]at hh;obtain⟨f1,h1⟩:=aod d t.h;obtain⟨f2,h2⟩:=aod d t.Y;obtain⟨f3,h3⟩:=ag0 (d+2) t.aP (by omega);obtain⟨f4,h4⟩:=ag0 (d+2) t.kV (by omega);obtain⟨f5,h5⟩:=ag0 (d+2) t.jR (by omega);have hc:ah.a 81=37:=by kernel_rfl
 have c1:ah.a 27=17:=by kernel_rfl
 have c2:ah.a 3=1:=by kernel_rfl
 have e:=Tu.Xq t;have l1:t.h.ay.a.a=17:=by simp[fu.G]
 have l2:t.Y.ay.a.a=17:=by simp[fu.G]
 unfold wY;simp only[jW];rw[if_pos ⟨by rw[hc,e];simp[fu.G],by simp⟩];obtain⟨ys,hys⟩:=Kl (f:=fun f:nS=>ah.keyLits (d+3) f.type ((t.ay.a.f f.Z).d (ah.a f.type))) (ah.fieldsOf 81).a (fun f hf=>by
  simp only[jP,jW]at hf;simp only[bB,fJ,or_false]at hf;rcases hf with rfl|rfl|rfl|rfl|rfl
  ·simp only[c1,e,kX];rw[JF l1];exact⟨f1,h1⟩
  ·simp only[c1,e];rw[List.drop_left' l1,JF l2];exact⟨f2,h2⟩
  ·simp only[c2,e];rw[<-dB,List.drop_left' (by rw[aR,l1,l2])];exact⟨f3,h3⟩
  ·simp only[c2,e];rw[<-dB,show(35:Nat)=(t.h.ay.a++t.Y.ay.a).a+1 by rw[aR,l1,l2],List.drop_length_add_append];exact⟨f4,h4⟩
  ·simp only[c2,e];rw[<-dB,show(36:Nat)=(t.h.ay.a++t.Y.ay.a).a+2 by rw[aR,l1,l2],List.drop_length_add_append];exact⟨f5,h5⟩)
 simp only[jP,jW]at hys;rw[hys];exact⟨_,rfl⟩
theorem aij(t:Tu)(h:FP t=true):∃l,keyOf ah 81 (.d t.ay)=some l:=by
 obtain⟨d,hd⟩:∃d,ah.types.j+1=d+4:=⟨ah.types.j-3,by have:=asM;have h3:(3:Nat)<ah.types.j:=of_decide_eq_true (by kernel_rfl);omega⟩
 obtain⟨ls,mg⟩:=az2 d t h;have hc:ah.a 81=37:=by kernel_rfl
 have hk:ah.keyType 81=true:=by kernel_rfl
 have hf:(bY t.ay).formed ah 81=true:=by
  simp[Value.formed,jW,hc,Tu.G]
 unfold keyOf;simp only[jW];rw[if_pos (by rw[hk,hf];rfl),hd,show(bY t.ay).D.a=t.ay.a from rfl,mg];exact⟨_,rfl⟩
theorem fu.TY{a b:fu}(h:a.ay=b.ay):a=b:=by
 have h1:=congrArg Array.toList h;simp only[fu.ay,List.cons.injEq,Value.bool.injEq]at h1;cases a;cases b;simp only at h1;obtain⟨rfl,h2⟩:=h1;congr;apply Vector.toList_inj.1;exact(List.map_inj_right (fun x y hxy=>by unfold bv at hxy;injection hxy with _ e;exact UInt8.toNat_inj.1 (by omega))).1 h2
theorem Tu.TY{a b:Tu}(h:a.ay=b.ay):a=b:=by
 have h1:=Tu.Xq a;rw[h,Tu.Xq b]at h1;obtain⟨e1,h2⟩:=List.append_inj h1 (by simp[fu.G]);obtain⟨e2,h3⟩:=List.append_inj h2 (by simp[fu.G]);have g1:=fu.TY (GD.1 e1);have g2:=fu.TY (GD.1 e2);simp only[List.cons.injEq,Value.int.injEq,true_and,and_true]at h3;cases a;cases b;simp only at g1 g2 h3 ⊢;obtain⟨rfl,rfl,rfl⟩:=h3;rw[g1,g2]
theorem aoe{a b:Tu}{l:Lit}(h1:keyOf ah 81 (.d a.ay)=some l)(h2:keyOf ah 81 (.d b.ay)=some l):a=b:=by
 have:=ab1.inj h1 h2;injection this with this
 exact Tu.TY this
def boD:aB->Option (DataW Unit×List MemPlace)
 | .e b=>some (.lit (.e b),[])
 | _=>none
theorem avC{v:aB}{b:Bool}{ps:List MemPlace}(h:boD v=some (.lit (.e b),ps)):v=.e b:=by
 unfold boD at h;split at h
 ·simp at h;rw[h.1]
 ·cases h
def Kz(W:ak)(M n:Nat)(ks:List Tu):Prop:=
 ∃D:DataW Unit,W.ownsMap ah 81 boD M n D/\Maps.IsMap D/\∀t l,keyOf ah 81 (.d t.ay)=some l->D.atKey l (.lit (.e false))=.lit (.e (decide (t∈ks)))
theorem Kz.new(w:ak):Kz (w.alloc (.map #[] 0)) w.a.j 0 []:=⟨_,World.ownsMap_made w _ _ _,⟨[],rfl⟩,fun t l _=>rfl⟩
theorem Kz.az3{W W':ak}{M n:Nat}{ks:List Tu}(h:Kz W M n ks)(ha:W'.a[M]? = W.a[M]?):Kz W' M n ks:=by
 obtain⟨D,⟨es,ck,h1,h2⟩,h3⟩:=h;exact⟨D,⟨es,ck,ha.trans h1,h2⟩,h3⟩
theorem Kz.lt{W:ak}{M n:Nat}{ks:List Tu}(h:Kz W M n ks):M<W.a.j:=by
 obtain⟨D,h1,_⟩:=h;exact h1.lt
theorem Kz.go{W W':ak}{M n:Nat}{ks:List Tu}(h:Kz W M n ks)(hb:aL W.a.j W W'):Kz W' M n ks:=h.az3 (hb.block M h.lt)
theorem akE{w:ak}{M n:Nat}{ks:List Tu}(h:Kz w M n ks)(t:Tu)(ht:FP t=true):
 (Instr.lookup 114 (.map (some M)) (.d t.ay) false).I ah w=.ok (.e (decide (t∈ks))) w:=by
 obtain⟨D,h1,h2,h3⟩:=h;obtain⟨l,hl⟩:=aij t ht;obtain⟨v,ps,hrun,hv⟩:=h1.lookup ab1 Tryz.underlying114 (by kernel_rfl:(zeroValue 4).I ah w=.ok (.e false) w) (show boD (.e false)=some (.lit (.e false),[])from rfl) hl;rw[h3 t l hl]at hv;rw[hrun,avC hv]
theorem Q9{ops:Array iU}{rest:List iU}{o:iU}{a:Act}{Q:Exit->Act->ak->Prop}{w:ak}(hg:o.guard=none)(m x v:Operand)(Hu:o.op=Op.mapUpdate 114 m x v)
 (M n:Nat) (ks:List Tu) (hm:a.eval m=.map (some M)) (hown:Kz w M n ks) (hn:n<=1000000) (t:Tu) (ht:FP t=true) (hx:a.eval x=.d t.ay) (hv:a.eval v=.e true)
 (hK:∀w',Kz w' M (n+1) (t::ks)->w.grownBy w' (some M)->wpList ah ops Q rest (a.put o.Y undef) w'):wpList ah ops Q (o::rest) a w:=by
 obtain⟨D,h1,h2,h3⟩:=hown;obtain⟨l,hl⟩:=aij t ht;refine wpList_mapUpdate_own w hg m x v _ Hu 81 4 ab1 Tryz.underlying114 boD M n D hm h1 (by unfold maxLen;omega) _ _ l hx hv hl _ [] (show boD (.e true)=some (.lit (.e true),[])from rfl) ?_;intro w' k1 k2;refine hK w' ⟨_,k1,h2.put _ _,fun u m hu=>?_⟩ k2;by_cases e:u=t
 ·subst e
  rw[hl]at hu;injection hu with hu
  subst hu;rw[Maps.atKey_put_same h2 (ab1.key hl)];simp
 ·rw[Maps.atKey_put_other (fun h=>e (aoe hu (by rw[h];exact hl))),h3 u m hu]
  simp[e]
end Go.Proofs.YtkjojjopamaoiaaGreat
