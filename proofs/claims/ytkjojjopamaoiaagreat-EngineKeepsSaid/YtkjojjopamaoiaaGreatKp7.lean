/- Parts. -/
import Derived.Test.YtkjojjopamaoiaaGreatKp6
set_option linter.all false
set_option maxRecDepth 100000
set_option maxHeartbeats 8000000
open Array renaming replicate_succ->gH,replicate_zero->gI,getElem?_eq_some_iff->bW,getElem?_append->aG,mapM->iG,append_assoc->gB,setIfInBounds_append->aN,extract_append->dD,getElem?_extract->dz,ext_getElem?->eB,replicate->nH,getElem?_eq_none->aV,range->lD,toList_inj->GZ,size->Array.j,toList->Array.a,getD->Array.c,setIfInBounds->Array.b,extract->Array.m
open Bool renaming and_eq_true->bB,true_and->Am,false_and->Dy,eq_iff_iff->cB
open ByteArray renaming size->ByteArray.j,extract->ByteArray.m
open Exists renaming intro->rO
open Go renaming World->au,run_underlying->dJ,Calls->aQ,Addr->aU,SeqStopsK->vQ,Value->aC,bodyPost_ret->aO,results_none->vw,callsIn_wide->ny,callsIn_of_wp_marks->rz,wpIn_rangeFunc_ownH->yI,belowK_b->vL,ownFrom_below->yT,run_takeDeferred->uE,TypeId->bF,Ending->lu,wpQuiet_nil->gN,TypeInfo->nS,Oper->je,Field->oh,run_equal_slice_nil->jf,info_parts->xB,wpS_seq->IB,wpS_region->Cm
open Go.BoundsCode renaming toNat->Go.BoundsCode.e
open Go.Calls renaming mono->Go.Calls.g
open Go.CallsD renaming mono->Go.CallsD.g
open Go.CallsIn renaming inRound->Ie,mono->Go.CallsIn.g
open Go.Ending renaming returned->Go.Ending.a
open Go.Exit renaming thenS->vR
open Go.Fence renaming wide->nP
open Go.Field renaming name->Go.Field.E,offset->Go.Field.Z
open Go.FrameMode renaming run->Go.FrameMode.J
open Go.Instr renaming loadAt->cZ,fill->fD,buildSlice->bK,storeAt->eU,build->fM,typeAssert->GY,slice->Go.Instr.a,extract->Go.Instr.m
open Go.IntKind renaming i64->bU,u16->Dz,wrap->vK,bits->nY,signed->lZ,u64->jB,wrap_u64->jT,min->JI,max->JJ,i64->Go.IntKind.a
open Go.Lib renaming hid->ah
open Go.Lit renaming int->Go.Lit.b,bool->Go.Lit.e,string->Go.Lit.g
open Go.Obj renaming cells->eO,cells->Go.Obj.D
open Go.Op renaming bytesLess->bR,slice->Go.Op.a,extract->Go.Op.m
open Go.Oper renaming dst->Go.Oper.Y
open Go.Operand renaming tmp->Go.Operand.a
open Go.Program renaming cellsOf->Ai,keyLits->wS,fieldsOf->jS,cellsOf->Go.Program.a
open Go.Proofs.Tryz renaming prog->aj,underlying86->nC,underlying29->nD,underlying3->gY,underlying69->lT,underlying155->DR,underlying72->FC,underlying123->DT,underlying22->qp,underlying376->DU,underlying56->cu,underlying58->kL,ntmps134->Ar,func25->Ls,ntmps25->IC,underlying70->oC,underlying23->vC,underlying27->fC,underlying81->jY
open Go.Result renaming andThen->iI,andThen_ok->gT
open Go.ResultVar renaming tmp->Go.ResultVar.a
open Go.RoundIn renaming mono->Go.RoundIn.g
open Go.RowKit renaming Below->aM
open Go.RowKit.Below renaming refl->aH,size->Go.RowKit.Below.j,mono->Go.RowKit.Below.g
open Go.RowKit.Hid renaming out->Go.RowKit.Hid.i
open Go.Sem renaming run_bind->jM,run_pure->oD,run->Go.Sem.J
open Go.Shut renaming out->Go.Shut.i
open Go.Tables renaming info?->Go.Tables.l
open Go.TypeDesc renaming slice->Go.TypeDesc.a,int->Go.TypeDesc.b,bool->Go.TypeDesc.e
open Go.TypeInfo renaming size->Go.TypeInfo.j
open Go.Value renaming slice->bC,agg->cK,int->aJ,cells->bZ,ownBlock->jJ,oneCell'->dx,string->jl,pointer->sw,bool->bQ,cells->Go.Value.D,slice->Go.Value.a,int->Go.Value.b,pointer->Go.Value.c,agg->Go.Value.d,bool->Go.Value.e,tuple->Go.Value.K,ownBlock->Go.Value.f,oneCell'->Go.Value.h,string->Go.Value.g
open Go.World renaming size_alloc->tq,ownsRow_nil->fB,setCell->iw,ownsRow_lit->lN,heap->Go.World.a,cell?->Go.World.b,setCell->Go.World.G,ownsRow->Go.World.c,there->Go.World.O,grownBy->Go.World.d
open Go.World.grownBy renaming refl->dM
open Int renaming tmod->MB,tmod_eq_emod_of_nonneg->mI,toNat_natCast->dW,toNat_of_nonneg->lJ,toNat->Int.e
open List renaming mem_cons_of_mem->jX,mem_cons_self->mG,flatMap_cons->iO,length_map->bV,pairwise_map->yZ,size_toArray->dP,length_cons->bD,length_nil->gQ,push_toArray->iQ,append_toArray->gX,nil_append->dG,cons_append->iA,length_take->bL,map_append->iW,mem_map->iX,foldl_append->ze,getD_eq_getElem?_getD->av,getElem?_eq_getElem->aD,getElem?_eq_none->aT,length_set->aW,filter_eq_self->wP,findIdx?_eq_some_iff_getElem->ig,findIdx?_eq_none_iff->wI,mem_cons->bE,not_mem_nil->fO,any_eq_false->qv,any_eq_true->tH,getElem_mem->eY,flatMap_append->wR,set_cons_succ->bI,set_cons_zero->bM,take_succ_cons->jP,take_zero->jZ,setIfInBounds_toArray->bJ,drop_succ_cons->jQ,drop_zero->kZ,mem_range->eG,filter_congr->Fz,mem_filter->mH,length_filter_le->oU,map_cons->kK,map_nil->pU,length_append->aS,take_succ_eq_append_getElem->dV,take_of_length_le->aL,replicate->eu,drop_take->rE,eq_nil_of_length_eq_zero->bG,take_left'->JR,append_assoc->dF,length->List.a,getD->List.c,take->List.d,drop->List.f,flatMap->List.h,below->List.S,extract->List.m
open List.Perm renaming length_eq->List.Perm.t
open Nat renaming le_trans->aP,le_refl->ay,lt_of_lt_of_le->eZ,reduceAdd->kM,reduceSub->kN,zero_le->ji,le_of_eq->aY,mod_lt->fH,mul_le_mul_right->bY,lt_or_ge->aZ,zero_add->bl,lt_succ_self->mP,ne_of_lt->jN,mul_one->gL,mul_le_mul->gP,add_sub_cancel_left->kI,min->qw,succ_pos->kX,eq_zero_or_pos->eD
open Ne renaming symm->jy
open Option renaming getD_some->jE,toList->Option.a,getD->Option.c
open Or renaming inl->Or.a,inr->Or.b
open UInt8 renaming toNat->UInt8.e
open Vector renaming replicate->bH,length_toList->nR,toList->Vector.a
namespace Go.Proofs.YtkjojjopamaoiaaGreat
open Go.RowKit
section
open Go.RowKit Go.Shelf
abbrev OkF:={x:Fw // DX x=true}
instance:Inhabited OkF:=⟨⟨⟨ae4,[97],1,0,0⟩,by kernel_rfl⟩⟩
theorem ano:∀(ys:List Fw),(∀x∈ys,DX x=true)->∃zs:List OkF,zs.map (·.1)=ys
 | [],_=>⟨[],rfl⟩
 | y::ys,h=>by
   obtain⟨zs,hz⟩:=ano ys (fun x hx=>h x (jX _ hx));exact⟨⟨y,h y (mG ..)⟩::zs,by simp[hz]⟩
theorem Zm(zs:List OkF):(zs.h fun x=>x.1.aA.a)=(zs.map (·.1)).h fun x=>x.aA.a:=by
 induction zs with
 | nil=>rfl
 | cons z zs ih=>simp[iO]
theorem aj4{a b c:List UInt8}(h1:bR a b=false)(h2:bR b c=false):bR a c=false:=by
 cases h3:bR a c with
 | false=>rfl
 | true=>
   exfalso;cases h4:bR b a with
   | true=>rw[yj _ _ _ h4 h3]at h2;cases h2
   | false=>
     have:=zP _ _ h1 h4;subst this;rw[h3]at h2;cases h2
theorem abE{a b c:Fw}(h1:lQ a b=false)(h2:lQ b c=false):lQ a c=false:=by
 unfold lQ at *;by_cases e1:a.no=b.no
 ·rw[if_pos e1]at h1
  by_cases e2:b.no=c.no
  ·rw[if_pos e2]at h2
   rw[if_pos (e1.trans e2)];exact aj4 h1 h2
  ·rw[if_neg e2]at h2
   rw[if_neg (by omega)];simp at h2 ⊢;omega
 ·rw[if_neg e1]at h1
  simp at h1;by_cases e2:b.no=c.no
  ·rw[if_neg (by omega)]
   simp;omega
  ·rw[if_neg e2]at h2
   simp at h2;rw[if_neg (by omega)];simp;omega
def aqK(x y:OkF):Int:=abz x.1 y.1
theorem anp:Sort.SWO (ltOf aqK):=by
 have e:∀x y,ltOf aqK x y=lQ x.1 y.1:=fun x y=>abA x.1 y.1
 refine⟨fun x=>?_,fun x y z h1 h2=>?_,fun x y z h1 h2=>?_⟩
 ·rw[e];exact tL.irr _
 ·rw[e]at *;exact tL.tr _ _ _ h1 h2
 ·rw[e]at *;exact abE h1 h2
theorem Km{x:Fw}(h:DX x=true):xk x.key/\0<=x.no/\x.no<=1152921504606846976:=by
 refine⟨Bp (wL h),?_⟩;unfold DX Yb at h;simp only[bB,decide_eq_true_eq]at h;omega
theorem aqL(w:au):(isAgg 86).J aj w=.ok true w:=by simp[isAgg,dJ nC]
theorem avn(w:au):(Go.sizeOf 86).J aj w=.ok 41 w:=by
 obtain⟨i,hi,hi2,_⟩:=kFw.afU;rw[run_sizeOf w hi];have hc:aj.a 86=41:=by simp[Ai,hi,hi2]
 rw[hc]
theorem aj5(x y:OkF)(w:au):aQ aj 117 #[.d x.1.aA,.d y.1.aA] w (gy w (.b .a (aqK x y))):=by
 obtain⟨h1,h2⟩:=Km x.2;obtain⟨h3,h4⟩:=Km y.2;exact QV x.1 y.1 h1 h3 h2 h4 w
theorem Lh(l ys:List Fw)(dX:Int)(hl:wE dX l)(hp:ys.Perm l)(hn:ys.a<=1000000)(W:au)(base:Nat)(A:Option aU)(c:Nat)(h:W.c base 86 41 (.a A ys.a c) ys.a (ys.h fun x=>x.aA.a)):
 aQ aj 151 #[.a A ys.a c,.func (.func 117) #[] #[]] W fun e w'=>e=.a (.K #[])/\w'.c base 86 41 (.a A ys.a c) ys.a (l.h fun x=>x.aA.a)/\W.d w' (bC A ys.a c).f:=by
 obtain⟨zs,hz⟩:=ano ys (fun x hx=>hl.ok x (hp.mem_iff.1 hx));have hlen:zs.a=ys.a:=by rw[<-hz,bV]
 have hc:=Zm zs;rw[hz]at hc;rw[<-hc]at h;refine(Zf avh 41 aqL avn (fun x:OkF=>x.1.aA) (fun x=>Fw.I x.1) (fun x=>Fw.cO x.1) aqK anp 117 (fun args w=>rfl) base 86 A ys.a c zs W hlen hn h aj5).g ?_;rintro e w' ⟨rfl,l',h1,h2,h3,h4⟩;refine⟨rfl,?_,h4⟩;rw[Zm]at h3;have hp2:(l'.map (·.1)).Perm l:=((h1.map _).trans (by rw[hz])).trans hp;have hone:(l'.map (·.1)).Pairwise fun x y=>x.key≠y.key:=(hp2.pairwise_iff (fun{a b} (hab:a.key≠b.key)=>jy hab)).2 hl.one
 have hasc:Asc lQ (l'.map (·.1)):=by
  have h5:(l'.map (·.1)).Pairwise fun x y=>lQ y x=false:=by
   rw[yZ];exact h2.imp (fun{a b} hab=>by rw[<-hab];exact(abA b.1 a.1).symm)
  refine List.Pairwise.imp_of_mem ?_ (h5.and hone);rintro a b ha hb ⟨h6,h7⟩;rcases QH (NC (wL (hl.ok a (hp2.mem_iff.1 ha)))) (NC (wL (hl.ok b (hp2.mem_iff.1 hb)))) h7 with h8|h8
  ·exact h8
  ·rw[h6]at h8;cases h8
 rw[<-Asc.eq tL hasc hl.asc hp2];exact h3
end
section
open Go.RowKit Go.Shelf
variable {W W':au} {q g:Nat} {key:Vector UInt8 16} {dX:Int} {s:List (Option Fw)} {l:List Fw}
theorem Qj(q:Nat)(w:au):
 aQ aj 132 #[.c (some ⟨q,0,none⟩)] w fun e w'=>e=.a (.func (.func 202) #[] #[.c (some ⟨w.a.j,0,none⟩)])/\w.alloc (.D #[.c (some ⟨q,0,none⟩)] 121)=w':=by
 go_enter Tryz.func132,Tryz.ntmps132;go_wp2;go_ret;exact⟨rfl,rfl⟩
theorem ad7(F:Fence)(n:Nat)(hf:F.fn 202)(hro:F.round=none)(hn:1<=n)(Bs n₀:Nat)(w:au)(Px:Bs<w.a.j)(hn₀:n₀<=w.a.j)
 (hc:w.b ⟨Bs,0,none⟩=some (.c (some ⟨q,0,none⟩))) (T:FH w q g key dX s) (hqg:q<n₀/\g<n₀) :
 vQ F n aj 202 #[.c (some ⟨Bs,0,none⟩)] (fun x:Fw=>#[cK x.aA]) (aM n₀) (fun ys=>ys=iB s) (fun pre=>pre <+: iB s) s.a w:=fun l J Jx W hW hJ _ hY h0=>by
 have hc':=(hW.cell (p:=⟨Bs,0,none⟩) Px).trans hc;exact aj2 F n hf hro hn l Bs n₀ W.a.j q g key dX s J Jx hJ hY W (aP hn₀ hW.j) (ay _) hc' (T.go hW) hqg h0
theorem abF(gf:Nat)(lb:Array aC)(eg:∀args w,(callFunc gf args).J aj w=.ok (.enter gf args) w)(l ys:List Fw)(dX:Int)(hl:wE dX l)(hp:ys.Perm l)(N:Nat)(hN:N<=100000)(hyN:ys.a<=100000)(w:au)(hseq:vQ nP 5 aj gf lb (fun x:Fw=>#[cK x.aA]) (aM w.a.j) (fun zs=>zs=ys) (fun pre=>pre <+: ys) N w):
 aQ aj 131 #[.func (.func gf) #[] lb,.func (.func 117) #[] #[]] w fun e W'=>
  ∃A' c',e=.a (.a A' l.a c')/\W'.c w.a.j 86 41 (.a A' l.a c') l.a (l.h fun x=>x.aA.a)/\aM w.a.j w W':=by
 have CO:=ah (XE gf lb eg (fun zs=>zs=ys) (fun pre=>pre <+: ys) N hN w hseq);have SO:=ah (fun(W:au) (A:Option aU) (c:Nat) h=>Lh l ys dX hl hp (by omega) W w.a.j A c h);have HP:=ah hp.t;clear hseq hl hp;go_enter Tryz.func131,Tryz.ntmps131;go_wp2_with fail;refine CO.i.g ?_;rintro e w1 ⟨zs,hzs,A1,c1,rfl,ho,hb⟩;rw[hzs]at ho ⊢;have SO1:=ah (SO.i w1 A1 c1 ho);have HB:=ah hb;have HO:=ah ho;clear hb ho SO CO hzs;obtain⟨m,hm⟩:=dw ys.a;rw[<-hm]at HO SO1 HP ⊢;clear hm;go_wp2_with fail;refine SO1.i.g ?_;rintro e w2 ⟨rfl,ho2,hg⟩;have H2:=ah ho2;have HG:=ah hg;clear ho2 hg;go_wp2;go_ret;have h1:=H2.i;have h2:=HP.i;exact⟨A1,c1,by rw[<-h2];rfl,by rw[<-h2];exact h1,Wx HB.i HO.i (ay _) (ay _) HG.i⟩
theorem agz(T:KL W q g key dX s l):
 aQ aj 65 #[.c (some ⟨q,0,none⟩)] W fun e w'=>∃A' c',e=.a (.a A' l.a c')/\w'.c W.a.j 86 41 (.a A' l.a c') l.a (l.h fun x=>x.aA.a)/\aM W.a.j W w':=by
 have w1s:=(dN.new W #[.c (some ⟨q,0,none⟩)] 121)
 have hB1:aM W.a.j W (W.alloc (.D #[.c (some ⟨q,0,none⟩)] 121)):=(aH _ _).alloc (ay _) _;have T1:=T.w.go hB1;have hs:=T.w.sz;have hlt:=T.w.lt;have hsz:(W.alloc (.D #[.c (some ⟨q,0,none⟩)] 121)).a.j=W.a.j+1:=by simp
 have SQ:=ah (ad7 nP 5 trivial rfl (by omega) W.a.j (W.alloc (.D #[.c (some ⟨q,0,none⟩)] 121)).a.j (W.alloc (.D #[.c (some ⟨q,0,none⟩)] 121)) w1s.lt (ay _) (w1s.M.1 0) T1 (by rw[hsz];omega));have VA:=ah (Qj q W);generalize hw:W.alloc (.D #[.c (some ⟨q,0,none⟩)] 121)=w1 at *;have SF:=ah (abF 202 #[.c (some ⟨W.a.j,0,none⟩)] (fun args w=>rfl) l (iB s) dX T.ok T.r.Pm s.a hs.2 (by have:=Fg s;omega) w1 SQ.i);have HB1:=ah hB1;clear hw w1s hB1 SQ T T1 hs hlt hsz;go_enter Tryz.func65,Tryz.ntmps65;go_wp2_with fail;refine VA.i.g ?_;rintro e w2 ⟨rfl,rfl⟩;go_wp2_with fail;refine SF.i.g ?_;rintro e w2 ⟨A1,c1,rfl,ho,hb⟩;have HO:=ah ho;have HB:=ah hb;clear ho hb;obtain⟨m,hm⟩:=dw l.a;rw[<-hm]at HO ⊢;have HM:=ah hm;clear hm;go_wp2;go_ret;obtain rfl:=HM.i;have h1:=HB1.i;have h2:=HB.i;exact⟨A1,c1,rfl,iM HO.i h1.j,⟨h2.os.trans h1.os,h2.tape.trans h1.tape,h2.output.trans h1.output,aP h1.j h2.j,fun k hk=>(h2.block k (eZ hk h1.j)).trans (h1.block k hk)⟩⟩
end
section
open Go.RowKit Go.Shelf
attribute [local go_sem] Oper.semAt_some
variable {W W':au} {q g:Nat} {key:Vector UInt8 16} {dX:Int} {s:List (Option Fw)} {l:List Fw}
theorem agA{β:Type}(val:β->Fw)(F:Fence)(n:Nat)(hf:F.fn 202)(hro:F.round=none)(hn:1<=n)(l Bs n₀ B0:Nat)(q g:Nat)(key:Vector UInt8 16)(dX:Int)(s:List (Option Fw))(hval:∀x∈iB s,∃z,val z=x)(J Jx:List β->au->Prop)(hJ:AbidesFrom B0 J)
 (hY:∀pre x W,J pre W->pre.a<s.a->YieldAt F (n-1) aj l #[.d (val x).aA] W fun e W'=>
  (e=.a (.e true)/\J (pre++[x]) W'/\aM n₀ W W')\/(e=.a (.e false)/\Jx (pre++[x]) W'))
 (W:au) (hn₀:n₀<=W.a.j) (hB0:B0<=W.a.j) (Px:W.b ⟨Bs,0,none⟩=some (.c (some ⟨q,0,none⟩))) (T:FH W q g key dX s) (hqg:q<n₀/\g<n₀) (h0:J [] W) :
 CallsIn F n aj 202 #[.func (.yield l) #[] #[],.c (some ⟨Bs,0,none⟩)] W fun e W'=>(∃v,e=.a v) /\
  ((∃ys:List β,ys.map val=iB s/\J ys W')\/(∃pre:List β,pre.map val <+: iB s/\Jx pre W')):=by
 have hsz:=T.sz;obtain⟨N,hN⟩:=dw s.a;have l2:W.b ⟨q,18,none⟩=some (.a (some ⟨g,0,none⟩) N N):=by rw[hN];exact T.M.1
 have HT:=ah T;have HN:=ah hN;rw[<-hN]at hsz;clear hN T;refine callsIn_of_wp Tryz.func202 rfl hf ?_ hro;simp only[Tryz.ntmps202,dP,bD,gQ,kM,kN,gH,gI,iQ,gX,dG,iA];gi_wp2;gi_loopw [10] (fun i wr=>∃(k:Nat)(zs:List β),k<=N/\i=.b .a k/\zs.map val=iB (s.d k)/\J zs wr/\aM n₀ W wr)
  (fun i _=>N-(intOf i).e)
 case atStart=>exact⟨0,[],ji _,rfl,rfl,h0,aH _ _⟩
 case round=>
  obtain⟨k,zs,hk,rfl,hzs,hJs,hnx⟩:=hrel;have HZ:=ah hzs;clear hzs;by_cases hlt:k<N
  ·have hki:(k:Int)<N:=by omega
   have TR:=ah (HT.i.anm hnx hqg);have hks:k<s.a:=by rw[<-HN.i];exact hlt
   obtain⟨_,a2,_,_,a5,_,_⟩:=TR.i.Wq hks;have hET:=WE s k hks;have bx:=dN.new wr (vZ (fG s k)).aA 213;have f1:=(bx.M.1 0).trans (Sl.Oj _);rw[Jz]at f1;have f2:vE (wr.alloc (.D (vZ (fG s k)).aA 213)) wr.a.j 1 41:=of_eq_true (bx.M.2.2.1 1 41 (by rw[Sl.eF];omega));have f3:dQ (wr.alloc (.D (vZ (fG s k)).aA 213)) wr.a.j 1 41=(vZ (fG s k)).qZ.aA:=by rw[bx.M.2.2.2 1 41 (by rw[Sl.eF];omega)];exact Sl.TQ _
   have hsz2:=hnx.j;have Qi:=ah (hnx.alloc (by omega) (.D (vZ (fG s k)).aA 213));have HJA:=ah (GN hJ hJs (.D (vZ (fG s k)).aA 213));clear bx hsz2;cases hat:fG s k with
   | none=>
     rw[hat]at a2 f1 f2 f3 Qi HJA hET
     replace f1:(wr.alloc (.D (vZ none).aA 213)).b ⟨wr.a.j,0,none⟩=some (.e false):=f1
     have DV:=ah (show iB (s.d (k+1))=iB (s.d k)by rw[hET];simp);clear hET hat f2 f3;gi_wp2;refine⟨fun f h=>(by cases h),?_⟩;gi_wp2;go_roundw
     case rel=>exact⟨k+1,zs,by omega,by simp,by rw[DV.i];exact HZ.i,HJA.i,Qi.i⟩
     case measure=>simp[intOf];omega
   | some x=>
     rw[hat]at a2 f1 f2 f3 Qi HJA hET
     replace f1:(wr.alloc (.D (vZ (some x)).aA 213)).b ⟨wr.a.j,0,none⟩=some (.e true):=f1
     replace f3:dQ (wr.alloc (.D (vZ (some x)).aA 213)) wr.a.j 1 41=x.aA:=f3
     have hxm:x∈iB s:=Pj.2 ⟨k,hks,hat⟩;have hZL:zs.a<=k:=by have h1:=Fg (s.d k);rw[<-HZ.i,bV,bL]at h1;omega
     have azA:=show iB (s.d k)++[x]=iB (s.d (k+1))by rw[hET];simp
     clear hET hat;obtain⟨z,rfl⟩:=hval x hxm;have DV:=ah (show(zs++[z]).map val=iB (s.d (k+1))by rw[<-azA,iW,HZ.i];rfl);clear azA hxm;obtain⟨fn,tmps,assign,body,hy,hRd⟩:=hY zs z _ HJA.i (by omega);gi_wp2;refine hRd.g ?_;rintro e W3 (⟨rfl,hJ3,hk3⟩|⟨rfl,hJx3⟩)
     ·gi_wp2
      go_roundw
      case rel=>exact⟨k+1,zs++[z],by omega,by simp,DV.i,hJ3,Qi.i.trans hk3⟩
      case measure=>simp[intOf];omega
     ·gi_wp2
      refine aO (vw rfl _ _ _) rfl ?_;exact⟨⟨_,rfl⟩,.b ⟨zs++[z],by rw[DV.i];exact Zl _ _,hJx3⟩⟩
  ·obtain rfl:k=N:=by omega
   have hd:decide ((k:Int)<k)=false:=by simp
   gi_wp2;go_end0;exact⟨⟨_,rfl⟩,.a ⟨zs,by rw[HZ.i,HN.i,List.take_length],hJs⟩⟩
theorem Li(F:Fence)(n:Nat)(hf:F.fn 202)(hro:F.round=none)(hn:1<=n)(Bs n₀:Nat)(w:au)(Px:Bs<w.a.j)(hn₀:n₀<=w.a.j)
 (hc:w.b ⟨Bs,0,none⟩=some (.c (some ⟨q,0,none⟩))) (T:KL w q g key dX s l) (hqg:q<n₀/\g<n₀) :
 vQ F n aj 202 #[.c (some ⟨Bs,0,none⟩)] (fun x:OkF=>#[cK x.1.aA]) (aM n₀) (fun ys=>ys.map (·.1)=iB s) (fun pre=>pre.map (·.1) <+: iB s) s.a w:=fun l' J Jx W hW hJ _ hY h0=>by
 have hc':=(hW.cell (p:=⟨Bs,0,none⟩) Px).trans hc;exact agA (fun x:OkF=>x.1) F n hf hro hn l' Bs n₀ W.a.j q g key dX s (fun x hx=>⟨⟨x,T.ok.ok x (T.r.Pm.mem_iff.1 hx)⟩,rfl⟩) J Jx hJ hY W (aP hn₀ hW.j) (ay _) hc' (T.w.go hW) hqg h0
def aqM(pre:List Fw):Option Fw:=pre.foldl (least lQ) none
def Oo(pre:List OkF):Option Fw:=aqM (pre.map (·.1))
theorem aj6{l:List Fw}:∀(b:Option Fw)(y:Fw),l.foldl (least lQ) b=some y->y∈l\/b=some y:=by
 induction l with
 | nil=>intro b y h;exact .b h
 | cons x l ih=>
   intro b y h;rw[List.foldl_cons]at h;rcases ih _ _ h with h1|h1
   ·exact .a (jX _ h1)
   ·unfold least at h1
    split at h1
    ·injection h1 with h1;subst h1;exact .a (mG ..)
    ·split at h1
     ·injection h1 with h1;subst h1;exact .a (mG ..)
     ·exact .b h1
theorem aqN(pre:List OkF)(y:Fw)(h:aqM (pre.map (·.1))=some y):DX y=true:=by
 rcases aj6 _ _ h with h1|h1
 ·obtain⟨z,_,rfl⟩:=iX.1 h1
  exact z.2
 ·cases h1
theorem WG{W:au}{b D:Nat}{c:Array aC}{x:Option (List Deferred)}(h:dN W b c)(hD:W.a[D]? = some (.deferred x))(o:Obj):dN (W.putObj D o) b c:=by
 obtain⟨t,ht⟩:=h;refine⟨t,(World.putObj_heap_other (fun e=>?_)).trans ht⟩;rw[e,hD]at ht;cases ht
theorem Fh{F:List Nat}{B:Nat}{W W':au}(h:jC F W W')(hF:∀k∈F,k<B):KeepsFrom B W W':=
 ⟨h.j,fun k o hB hk _=>(h.block k (bW.1 hk).1 (fun hm=>by have:=hF k hm;omega)).trans hk⟩
theorem abG(w:au)(T:KL w q g key dX s l):
 aQ aj 127 #[.c (some ⟨q,0,none⟩)] w (gy w (.d (l.head?.c ko).aA)):=by
 refine(ny (n:=8)).1 ?_;have hs:=T.w.sz;have hlt:=T.w.lt;have hold:=ajg T.r T.ok;have HT:=ah T;clear T;refine rz Tryz.func127 rfl trivial ?_ rfl;have hfn:∀f,nP.fn f:=fun _=>trivial
 simp only[Tryz.ntmps127,dP,bD,gQ,kM,kN,gH,gI,iQ,gX,dG,iA];gi_wp2_with (gi_at_call 132;refine(ny.2 (Qj q _)).g ?_;rintro e w' ⟨rfl,rfl⟩);have Z4:=ah (((((Bx.start w).new ko.aA 86).new ko.aA 86).new #[.e true] 4).new #[.c (some ⟨q,0,none⟩)] 121);have e1:(w.alloc (.D ko.aA 86)).a.j=w.a.j+1:=by simp
 have e2:((w.alloc (.D ko.aA 86)).alloc (.D ko.aA 86)).a.j=w.a.j+1+1:=by simp
 have e3:(((w.alloc (.D ko.aA 86)).alloc (.D ko.aA 86)).alloc (.D #[.e true] 4)).a.j=w.a.j+1+1+1:=by simp
 rw[e3,e2,e1]at Z4;have hs4:((((w.alloc (.D ko.aA 86)).alloc (.D ko.aA 86)).alloc (.D #[.e true] 4)).alloc (.D #[.c (some ⟨q,0,none⟩)] 121)).a.j=w.a.j+1+1+1+1:=by simp
 generalize(((w.alloc (.D ko.aA 86)).alloc (.D ko.aA 86)).alloc (.D #[.e true] 4)).alloc (.D #[.c (some ⟨q,0,none⟩)] 121)=W4 at Z4 hs4 ⊢;clear e1 e2 e3;refine yI rfl (by omega) (gf:=202) (lb:=#[.c (some ⟨w.a.j+1+1+1,0,none⟩)]) rfl trivial (fun args w=>rfl)
  (Li nP 7 trivial rfl (by omega) (w.a.j+1+1+1) w.a.j W4 (by omega) (by omega) (Z4.i.X.M.1 0) (HT.i.go Z4.i.R) hlt) (fun h k=>Below.trans h k) (vL (by omega)) (aH _ _) (fun _=>rfl)
  (fun(pre:List OkF) W=>(dN W (w.a.j+1) ((Oo pre).c ko).aA/\dN W (w.a.j+1+1) #[.e (Oo pre).isNone]/\dN W w.a.j ko.aA)/\aM w.a.j w W)
  (fun _ _ _=>False)
  (OwnFrom.and (fun s X Y row hs hg hr=>⟨zD _ _ () X Y row hs.1 hg (fun r e=>(hr r e).2),zD _ _ () X Y row hs.2.1 hg (fun r e=>(hr r e).2),zD _ _ () X Y row hs.2.2 hg (fun r e=>(hr r e).2)⟩) (yT (ay _) (by omega)))
  (fun _ _ _ _ _ hs _ _=>hs)
  ⟨⟨Z4.i.b2,Z4.i.b1,Z4.i.b3⟩,Z4.i.R⟩
  (fun x a' W=>∃Bq,w.a.j+1+1<Bq/\dN W Bq x.1.aA/\a'={tmps:=#[.c (some ⟨q,0,none⟩),undef,.c (some ⟨w.a.j,0,none⟩),.c (some ⟨w.a.j+1,0,none⟩),.c (some ⟨w.a.j+1+1,0,none⟩),.c (some ⟨Bq,0,none⟩),.c (some ⟨q,0,none⟩),.func (.func 202) #[] #[.c (some ⟨w.a.j+1+1+1,0,none⟩)],.d x.1.aA,undef,undef,undef,undef,undef,undef,undef,undef],defers:=[]})
  (fun x a' _ X Y row hs hg hr=>by obtain⟨Bq,h1,h2,h3⟩:=hs;exact⟨Bq,h1,zD Bq x.1.aA () X Y row h2 hg (fun r e=>(hr r e).2),h3⟩)
  ?assign ?body ?done ?stop
 case assign=>
  rintro q' pre x W K ⟨⟨h1,h2,h3⟩,hB⟩ hK;gi_wp2;refine hK _ _ ((KeepsOthers.alloc _ _).from _) ((aH _ W).alloc hB.j _) ⟨⟨h1.alloc _,h2.alloc _,h3.alloc _⟩,hB.alloc hB.j _⟩ ⟨W.a.j,h2.lt,dN.new W _ _,rfl⟩
 case body=>
  rintro q' pre x a' W hq ⟨r,hr⟩ ⟨⟨h1,h2,h3⟩,hB⟩ ⟨Bq,hBq,bX,rfl⟩ hlt';have hd1:(1:Nat)<=8-1-1:=by omega
  have l1:=kJ bX;have f1:=h2.M.1 0;have f2:=h2.M.2.1 0;have th:=h1.O 0 41 (aY (Fw.I _).symm);have HB:=ah hB;have H1:=ah h1;have H2:=ah h2;have H3:=ah h3;have HX:=ah bX;have HA:=ah (show Oo (pre++[x])=least lQ (Oo pre) x.1 by unfold Oo aqM;rw[iW,ze];rfl);have HM:=ah (show∀y,Oo pre=some y->DX y=true from fun y e=>aqN pre y e);clear hB h1 h2 h3 bX;cases ha:Oo pre with
  | none=>
    rw[ha]at HA H1 H2 f1;have f3:(Av W (w.a.j+1) 0 x.1).b ⟨w.a.j+1+1,0,none⟩=some (.e true):=((H2.i.gK (by simp)).M.1 0:_)
    have f4:(Av W (w.a.j+1) 0 x.1).frozen? ⟨w.a.j+1+1,0,none⟩=false:=((H2.i.gK (by simp)).M.2.1 0:_)
    clear ha;gi_wp2;have F:=(jC.Vd (F:=[w.a.j+1,w.a.j+1+1]) (lY (dM W (some (w.a.j+1))) 0 x.1.aA) (fun g e=>.a (by injection e with e;simp[e]))).set ⟨w.a.j+1+1,0,none⟩ (.e false) (.a (by simp));refine⟨Fh F (by intro k hk;simp at hk;omega),F.qO (by intro k hk;simp at hk;omega) HB.i.j,⟨?_,?_,?_⟩,HB.i.trans (F.qO (by intro k hk;simp at hk;omega) HB.i.j)⟩
    ·rw[HA.i];exact(H1.i.put x.1.aA (by rw[Fw.I,Fw.I])).dR _ _ (by simp)
    ·rw[HA.i];exact(H2.i.gK (by simp)).eH 0 (.e false)
    ·exact(H3.i.gK (by omega)).dR _ _ (by simp;omega)
  | some y=>
    rw[ha]at HA H1 H2 f1;have hy:=HM.i y ha;obtain⟨y1,y2⟩:=Km hy;obtain⟨x1,x2⟩:=Km x.2
    replace H1:Hid (dN W (w.a.j+1) y.aA):=H1
    replace f1:W.b ⟨w.a.j+1+1,0,none⟩=some (.e false):=f1
    have l2:=kJ H1.i;have OC:=ah (QW x.1 y x1 y1 x2 y2 W);obtain⟨o,ho⟩:=dw (lQ x.1 y);rw[<-ho]at OC;have HE:=ah (show Oo (pre++[x])=if o=true then some x.1 else some y by rw[HA.i,ho];rfl);clear ha hy y1 y2 x1 x2 ho f2 th;cases o
    ·gi_wp2_with (gi_at_call 49;refine(Ie q' (ny.2 OC.i)).g ?_;rintro e w1 ⟨rfl,hb⟩;have Ig:=ah hb;clear hb)
     have F:=jC.jA (F:=[w.a.j+1,w.a.j+1+1]) Ig.i;refine⟨Fh F (by intro k hk;simp at hk;omega),F.qO (by intro k hk;simp at hk;omega) HB.i.j,⟨?_,?_,?_⟩,HB.i.trans (F.qO (by intro k hk;simp at hk;omega) HB.i.j)⟩
     ·rw[show Oo (pre++[x])=some y from HE.i];exact H1.i.go Ig.i
     ·rw[show Oo (pre++[x])=some y from HE.i];exact H2.i.go Ig.i
     ·exact H3.i.go Ig.i
    ·gi_wp2_with (gi_at_call 49;refine(Ie q' (ny.2 OC.i)).g ?_;rintro e w1 ⟨rfl,hb⟩;have Ig:=ah hb;have G1:=ah (H1.i.go hb);have G2:=ah (H2.i.go hb);have G3:=ah (H3.i.go hb);have l3:=kJ (HX.i.go hb);clear hb l1 l2 f1;have th:=G1.i.O 0 41 (aY (Fw.I _).symm);have f3:(Av w1 (w.a.j+1) 0 x.1).b ⟨w.a.j+1+1,0,none⟩=some (.e false):=((G2.i.gK (by simp)).M.1 0:_);have f4:(Av w1 (w.a.j+1) 0 x.1).frozen? ⟨w.a.j+1+1,0,none⟩=false:=((G2.i.gK (by simp)).M.2.1 0:_))
     have F:=((jC.jA (F:=[w.a.j+1,w.a.j+1+1]) Ig.i).grown (lY (dM w1 (some (w.a.j+1))) 0 x.1.aA) (fun g e=>.a (by injection e with e;simp[e]))).set ⟨w.a.j+1+1,0,none⟩ (.e false) (.a (by simp));refine⟨Fh F (by intro k hk;simp at hk;omega),F.qO (by intro k hk;simp at hk;omega) HB.i.j,⟨?_,?_,?_⟩,HB.i.trans (F.qO (by intro k hk;simp at hk;omega) HB.i.j)⟩
     ·rw[show Oo (pre++[x])=some x.1 from HE.i];exact(G1.i.put x.1.aA (by rw[Fw.I,Fw.I])).dR _ _ (by simp)
     ·rw[show Oo (pre++[x])=some x.1 from HE.i];exact(G2.i.gK (by simp)).eH 0 (.e false)
     ·exact(G3.i.gK (by omega)).dR _ _ (by simp;omega)
 case done=>
  rintro D ys W hD hS ⟨⟨h1,h2,h3⟩,hB⟩ hK;have hacc:Oo ys=l.head?:=by unfold Oo aqM;rw[hS];exact hold
  rw[hacc]at h1;have ld:=kJ h1;have th:=h3.O 0 41 (aY (Fw.I _).symm);obtain⟨y,hy⟩:=dw (l.head?.c ko);rw[<-hy]at ld h1;have HY:=ah hy;have H3:=ah h3;have HB:=ah hB;clear hy h3 hB h1 h2 hacc hS;gi_wp2;have hG:=lY (dM W (some w.a.j)) 0 y.aA;have hDW:D<W.a.j:=(bW.1 hK).1;have hK2:(Av W w.a.j 0 y).a[D]? = some (.deferred (some [])):=(hG.block D hDW (fun e=>by injection e with e;omega)).trans hK;refine⟨by simp,.a ⟨_,_,rfl,uE hK2,?_⟩⟩;refine⟨_,kFw.zm rfl _ rfl (WG (H3.i.put y.aA (by rw[Fw.I,Fw.I])) hK2 _) (Fw.I _),by rw[HY.i],?_⟩;exact((lg HB.i w.a.j 0 y.aA (ay _)).trans (vL (w:=w) (ay _) _ D _ _ (by omega) hK2 rfl rfl))
 case stop=>
  rintro D c pre W _ _ h _;exact h.elim
end
section
theorem aj7{α:Type}(s:List (Option α))(i:Nat)(x:α)(h:fG s i=some x):s.set i (some x)=s:=by
 apply List.ext_getElem?;intro j;rw[List.getElem?_set];split
 ·rename_i e
  subst e;unfold fG at h;rw[av]at h;split
  ·rename_i hl
   rw[aD hl]at h ⊢;rw[jE]at h;rw[h]
  ·rename_i hl
   rw[aT (by omega)]
 ·rfl
theorem Kn{α:Type}(s:List (Option α))(i:Nat)(x:α)(hi:i<s.a)(h:fG s i=some x):(iB s).Perm (x::iB (s.set i none)):=by
 have:=zi s i x hi
 rwa [aj7 s i x h]at this
theorem Zn{N z c:Nat}(hz:z<N)(h1:1<=c)(h2:c<=N):yK N ((z+1)%N) (yJ N z c)=c-1:=by
 have e1:yJ N z c=(z+c)%N:=rfl;rw[e1,wJ (N:=N) (a:=z+1) (by omega),wJ (N:=N) (a:=z+c) (by omega)];unfold yK
 repeat' split
 all_goals omega
variable {W W':au} {q g:Nat} {key:Vector UInt8 16} {dX:Int} {s:List (Option Fw)} {l:List Fw}
theorem FH.ahZ(h:FH W q g key dX s){i:Nat}(hi:i<s.a)(o:Option Fw)(n:Nat)(hn:(iB (s.set i o)).a=n)(hc:n=(iB s).a):FH (gZ W g (i*42) (slC o)) q g key dX (s.set i o):=by
 have hb:=h.sl.setCells (i*42) (slC o).a;refine⟨?_,?_,h.ne,by rw[aW];exact h.sz⟩
 ·rw[hn,hc,aW]
  exact h.h.gK h.ne
 ·rw[<-TS s i o hi]
  simpa[gZ]using hb
theorem WH{l:List Fw}{k:Tu}(h:pW l k=none):yN l k=l:=by
 unfold yN;refine wP.2 fun x hx=>?_
 have:=Bn h x hx;simp[tV,this]
theorem WI(T:KL W q g key dX s l)(k:Tu):
 aQ aj 128 #[.c (some ⟨q,0,none⟩),.d k.aA] W fun e w'=>e=.a (.e (pW l k).isSome)/\(∃s',KL w' q g key dX s' (yN l k)/\s'.a=s.a)/\jC [q,g] W w':=by
 have X0:=ah (dN.new W k.aA 81);have B0:=ah ((aH W.a.j W).alloc (ay _) (.D k.aA 81));have T0:=ah (T.go B0.i);have HT:=ah T;have HLT:=ah T.w.lt;have CG:=ah (fun(w:au) (T:KL w q g key dX s l)=>Kl T k);obtain⟨o,ho⟩:=dw (pW l k);rw[<-ho]at CG ⊢;have HO:=ah ho.symm;have hcg:∀o,anj o = .K #[.d (vZ o).qZ.aA,.e o.isSome]:=fun _=>rfl
 simp only[hcg]at CG;clear T ho hcg;go_enter Tryz.func128,Tryz.ntmps128;go_upto_region 1 with fail
 generalize W.alloc (.D k.aA 81)=w1 at X0 B0 T0 ⊢;have l1:=pQ X0.i;cases o with
 | none=>
   go_wp2_with (go_at_call 126;(with_reducible refine(CG.i _ T0.i).g ?_);rintro e w2 ⟨rfl,hb⟩;have B2:=ah (iZ B0.i hb);clear hb l1);go_ret;have HB:=(B2.i.alloc B2.i.j (.D (vZ none).qZ.aA 86))
   refine⟨rfl,⟨s,?_,rfl⟩,jC.jA HB⟩;rw[WH HO.i];exact HT.i.go HB
 | some x=>
   obtain⟨hxl,hxk⟩:=xJ HO.i;have hok:=HT.i.ok.ok x hxl;have hkn:xk k:=by rw[<-hxk];exact Bp (wL hok)
   obtain⟨d,hd,hat⟩:=HT.i.Vv k;rw[HO.i]at hat;have hsz:=HT.i.w.sz;obtain⟨j,hj⟩:=dw ((hmK key s.a k+d)%s.a);have hjl:j<s.a:=by rw[hj];exact fH _ (by omega)
   have CF:=ah (fun(w:au) (T:FH w q g key dX s)=>Cg T k hkn d hd);rw[<-hj]at CF hat;obtain⟨z,a0,Zo,aqO⟩:=HT.i.r.tab.aCM hjl hat;obtain⟨N,hN⟩:=dw s.a;rw[<-hN]at aqO hjl hsz;have hz:z<N:=by rw[hN];exact Zo.hz
   have ha0:1<=a0/\a0+1<=N:=⟨Zo.a0,by rw[hN];exact Zo.cN⟩
   have HL:=ah (Kn s j x (by rw[<-hN];exact hjl) hat);obtain⟨L,hL⟩:=dw (iB (s.set j none));rw[<-hL]at Zo HL;have H0:=ah Zo;have HN:=ah hN;have HJ:=ah aqO;have HAT:=ah hat;have HX:=ah (show x.key=k from hxk);obtain⟨j1,hj1⟩:=dw (j+1);have e1:(j:Int)+1=(j1:Int):=by omega
   have i1:=jV (j1:Int) (by omega);obtain⟨j2,hj2⟩:=dw (j1%N);have aKU:j2<N:=by rw[hj2];exact fH _ (by omega)
   have e2:(j1:Int)%(N:Int)=(j2:Int):=by rw[hj2];omega
   have e3:MB (j1:Int) (N:Int)=(j2:Int):=by rw[mI (by omega)];exact e2
   have i2:=jV (j2:Int) (by omega);have z1:¬(N:Int)=0:=by omega
   have z2:¬N=0:=by omega
   have HJ2:=ah (show j2=yJ N z (a0+1)by rw[hj2,hj1,<-aqO];exact acU hz (by omega));clear hxl hxk hok hkn hd hat hj Zo aqO hN hL hj1 hj2;go_wp2_with (first|(go_at_call 126;(with_reducible refine(CG.i _ T0.i).g ?_);rintro e w2 ⟨rfl,hb⟩;have T2:=ah ((T0.i.go hb).go ((aH _ _).alloc (ay _) (.D (vZ (some x)).qZ.aA 86)));have B2:=ah ((iZ B0.i hb).alloc ((iZ B0.i hb).j) (.D (vZ (some x)).qZ.aA 86));have l2:=pQ ((X0.i.go hb).alloc (.D (vZ (some x)).qZ.aA 86));have f2:(w2.alloc (.D (vZ (some x)).qZ.aA 86)).b ⟨q,18,none⟩=some (.a (some ⟨g,0,none⟩) N N):=(by rw[HN.i];exact T2.i.w.M.1);clear hb l1)|(go_at_call 129;(with_reducible refine(CF.i _ T2.i.w).g ?_);rintro e w3 ⟨rfl,hb⟩;have T3:=ah (T2.i.go hb);have B3:=ah (iZ B2.i hb);clear hb l2 f2));go_loopw [8,9] (fun v8 v9 wr=>∃(s':List (Option Fw))(a c:Nat)(y:Fw),s'.a=N/\Xp Fw.key (hmK key N) z s' a c L/\fG s' (yJ N z a)=some y/\FH wr q g key dX s'/\v8=.b .a (yJ N z a:Nat)/\v9=.b .a (yJ N z c:Nat)/\jC [g] w3 wr)
    (fun _ v9 wr=>N-yK N ((z+1)%N) (intOf v9).e)
   case atStart=>exact⟨s,a0,a0+1,x,HN.i.symm,by rw[HN.i];exact H0.i,by rw[HJ.i];exact HAT.i,T3.i.w,by rw[HJ.i],by rw[<-HJ2.i],jC.refl _ _⟩
   case round=>
    obtain⟨s',a,c,y,hlen,hol,hay,hTb,rfl,rfl,hfr⟩:=hrel;have hcN:c<=N:=by rw[<-hlen];exact hol.cN
    have hac:=hol.ac;have ha1:=hol.a0;obtain⟨i,hi⟩:=dw (yJ N z c);obtain⟨b,hb⟩:=dw (yJ N z a);have hil:i<N:=by rw[hi];exact By (by omega)
    have hbl:b<N:=by rw[hb];exact By (by omega)
    have HOL:=ah hol;have HLEN:=ah hlen;have HTB:=ah hTb;have HFR:=ah hfr;have f18:wr.b ⟨q,18,none⟩=some (.a (some ⟨g,0,none⟩) N N):=by rw[<-hlen];exact hTb.M.1
    have hai:=(hTb.Wq (show i<s'.a by rw[hlen];exact hil))
    rw[<-hi,<-hb];rw[<-hb]at hay;have HI:=ah hi;have Ig:=ah hb;have HAY:=ah hay;have hii:(i:Int)<N:=by omega
    have hbi:(b:Int)<N:=by omega
    have HCT:=ah (show(iB s').a=L.a+1 by
     have h1:=(Kn s' b y (by rw[hlen];exact hbl) hay).t;rw[bD]at h1;have h2:=hol.Pm;rw[hlen,<-hb]at h2;rw[h1,h2.t])
    have thb:=hTb.sl.O (b*42) 42 (by rw[uY,hlen];have:=bY 42 (show b+1<=N from hbl);omega);clear hol hlen hTb hfr hi hb hay;cases hat:fG s' i with
    | none=>
      rw[hat]at hai;have a1:wr.b ⟨g,i*42,none⟩=some (.e false):=hai.1;have aEA:=ah hat;have PQ:=ah (HTB.i.h.gK (b2:=g) (o:=b*42) (x:=GL.aA) HTB.i.ne);have f17:=(PQ.i.M.1 17).trans (Tk.adX _);have g17:=PQ.i.M.2.1 17;have aKW:=(PQ.i.M.1 18).trans (Tk.wG _);rw[HCT.i]at f17;obtain⟨m,hm⟩:=dw L.a;rw[<-hm]at f17;obtain⟨m1,hm1⟩:=dw (m+1);rw[<-hm1]at f17;have e5:(m1:Int)-1=(m:Int):=by omega
      have hmb:m1<=100000:=by have h1:=Fg s';have h2:=HTB.i.sz;have h3:=HCT.i;omega
      have i5:=jV (m:Int) (by omega);have HM:=ah hm;clear hai hat hm hm1 hmb;go_wp2;go_ret;obtain⟨hd1,hd2⟩:=HOL.i.done (by rw[HLEN.i,<-HI.i];exact aEA.i);rw[HLEN.i,<-Ig.i]at hd1 hd2;have hxl:=xJ HO.i;have hlp:l.Perm (x::L):=(HT.i.r.Pm.symm).trans HL.i;have hcut:=Vw HT.i.ok hxl.1 hlp;rw[hxl.2]at hcut;have hbs:b<s'.a:=by rw[HLEN.i];exact hbl
      have hel:(iB (s'.set b none)).a=m:=by rw[hd2.t,HM.i]
      have hW:FH ((gZ wr g (b*42) GL.aA).G ⟨q,17,none⟩ (.b .a m)) q g key dX (s'.set b none):=by
       refine⟨?_,?_,HTB.i.ne,by rw[aW];exact HTB.i.sz⟩
       ·have:=PQ.i.eH 17 (.b .a m)
        rw[Tk.Qf]at this;rw[hel,aW];exact this
       ·have h1:=HTB.i.sl.setCells (b*42) GL.aA.a
        have h2:=TS s' b none hbs;refine dN.dR ?_ _ _ HTB.i.ne;rw[<-h2];simpa[gZ,slC,vZ]using h1
      refine⟨rfl,⟨s'.set b none,⟨hW,⟨?_,?_⟩,HT.i.ok.sub (aa0 l k)⟩,by rw[aW,HLEN.i,HN.i]⟩,?_⟩
      ·rw[aW,HLEN.i];exact hd1
      ·exact hd2.trans hcut
      ·refine jC.set ?_ _ _ (.a (by simp))
       refine jC.grown ?_ (lY (dM wr (some g)) (b*42) GL.aA) (fun j e=>.a (by injection e with e;simp[e]));exact(jC.jA B3.i).trans HFR.i (fun j hj=>.a (by simp at hj;simp[hj]))
    | some v=>
      rw[hat]at hai;obtain⟨a1,a2,_,a4,a5,_,a7⟩:=hai
      replace a1:wr.b ⟨g,i*42,none⟩=some (.e true):=a1
      replace a4:dQ wr g (i*42+1) 37=v.key.aA:=a4
      have hcl:c<N:=by
       rcases aZ c N with h1|h1
       ·exact h1
       ·exfalso
        have h2:c=N:=by omega
        have h3:=HOL.i.free;have h4:i=z:=by rw[HI.i,h2];show(z+N)%N=z;rw[Nat.add_mod_right,Nat.mod_eq_of_lt hz]
        rw[h4,h3]at hat;cases hat
      have hib:i≠b:=fun e=>by
       have:=J6 hz hcl (show a<N by omega) (by rw[<-HI.i,<-Ig.i];exact e);omega
      have hvl:v∈l:=by
       have h1:v∈iB (s'.set b none):=Pj.2 ⟨i,by rw[aW,HLEN.i];exact hil,by rw[Gh _ _ _ _ (by rw[HLEN.i];exact hbl),if_neg (jy hib)];exact hat⟩;have h2:=HOL.i.Pm;rw[HLEN.i,<-Ig.i]at h2;exact HT.i.r.Pm.mem_iff.1 (HL.i.mem_iff.2 (jX _ (h2.mem_iff.1 h1)))
      have hvn:=Bp (wL (HT.i.ok.ok v hvl));obtain⟨hv,hhv⟩:=dw (hmK key N v.key);have hvN:hv<N:=by rw[hhv];exact fH _ (by omega)
      have CH:=ah (fun(w:au) (T:FH w q g key dX s')=>WC T v.key hvn);rw[HLEN.i,<-hhv]at CH;have hat':fG s' (yJ s'.a z c)=some v:=by rw[HLEN.i,<-HI.i];exact hat
      have hlin:=(HOL.i.lin c v (by rw[HLEN.i];exact hcl) (by omega) hat').1;rw[HLEN.i,<-hhv]at hlin;have azD:=ah (show hmK key N v.key=hv from hhv.symm);obtain⟨p1,hp1⟩:=dw (i+N-hv);obtain⟨p2,hp2⟩:=dw (i+N-b);obtain⟨d1,hd1⟩:=dw (p1%N);obtain⟨d2,hd2⟩:=dw (p2%N);have aKY:d1<N:=by rw[hd1];exact fH _ (by omega)
      have aKZ:d2<N:=by rw[hd2];exact fH _ (by omega)
      have g1:=jV ((i:Int)-(hv:Int)) (by omega);have g2:=jV ((i:Int)-(b:Int)) (by omega);have g3:(i:Int)-(hv:Int)+(N:Int)=(p1:Int):=by omega
      have g4:(i:Int)-(b:Int)+(N:Int)=(p2:Int):=by omega
      have g5:=jV (p1:Int) (by omega);have g6:=jV (p2:Int) (by omega);have g7:(p1:Int)%(N:Int)=(d1:Int):=by rw[hd1];omega
      have g8:(p2:Int)%(N:Int)=(d2:Int):=by rw[hd2];omega
      have g9:MB (p1:Int) (N:Int)=(d1:Int):=by rw[mI (by omega)];exact g7
      have g10:MB (p2:Int) (N:Int)=(d2:Int):=by rw[mI (by omega)];exact g8
      have g11:=jV (d1:Int) (by omega);have g12:=jV (d2:Int) (by omega);have D1:=ah (show d1=c-yK N z hv by rw[hd1,hp1,HI.i];exact aiP hz hvN hlin hcl);have D2:=ah (show d2=c-a by rw[hd2,hp2,HI.i,Ig.i];exact acT hz (by omega) hcl);obtain⟨n1,hn1⟩:=dw (i+1);have k1:(i:Int)+1=(n1:Int):=by omega
      have k2:=jV (n1:Int) (by omega);obtain⟨n2,hn2⟩:=dw (n1%N);have aK0:n2<N:=by rw[hn2];exact fH _ (by omega)
      have k3:(n1:Int)%(N:Int)=(n2:Int):=by rw[hn2];omega
      have k4:MB (n1:Int) (N:Int)=(n2:Int):=by rw[mI (by omega)];exact k3
      have k5:=jV (n2:Int) (by omega);have Qi:=ah (show n2=yJ N z (c+1)by rw[hn2,hn1,HI.i];exact acU hz hcl);have aqP:=ah hat';have azE:=ah hlin;have HIB:=ah hib;have asE:=ah (show N-yK N ((z+1)%N) n2<N-yK N ((z+1)%N) i by
       rw[Qi.i,HI.i,Zn hz (by omega) (by omega),Zn hz (by omega) (by omega)];omega)
      have HC:=ah (show c<N/\a<c/\0<a from⟨hcl,hac,ha1⟩);clear hvl hvn hhv hat' hlin hp1 hp2 hd1 hd2 hn1 hn2 hib hat a2 a5 hcl;by_cases hle:d2<=d1
      ·have t1:decide ((d1:Int)>=(d2:Int))=true:=by simp;omega
       have t2:decide ((d2:Int)<=(d1:Int))=true:=by simp;omega
       have t3:decide (d2<=d1)=true:=by simp;omega
       have HLE:=ah hle;clear hle thb;go_wp2_with (go_at_call 200;(with_reducible refine(CH.i _ HTB.i).g ?_);rintro e w5 ⟨rfl,hb5⟩;have HB5:=ah hb5;have T5:=ah (HTB.i.go hb5);clear hb5 a1 a4 a7 f18;have f18:w5.b ⟨q,18,none⟩=some (.a (some ⟨g,0,none⟩) N N):=(by rw[<-HLEN.i];exact T5.i.M.1);have a5:vE w5 g (i*42) 42:=(T5.i.Wq (by rw[HLEN.i];exact hil)).2.2.2.2.1;have a2:dQ w5 g (i*42) 42=(vZ (some v)).aA:=(by rw[(T5.i.Wq (by rw[HLEN.i];exact hil)).2.1,show fG s' i=some v from(by have:=aqP.i;rw[HLEN.i,<-HI.i]at this;exact this)]);have thb:w5.O g (b*42) 42:=T5.i.sl.O (b*42) 42 (by rw[uY,HLEN.i];have:=bY 42 (show b+1<=N from hbl);omega));go_region;go_wp2;go_roundw
       case rel=>
        have h1:=HC.i;have h2:=HLE.i;rw[D1.i,D2.i]at h2;have h3:=azE.i;have hmv:=HOL.i.move (by rw[HLEN.i];exact h1.1) aqP.i (by rw[HLEN.i,azD.i];omega);rw[HLEN.i,<-Ig.i]at hmv;have hbs:b<s'.a:=by rw[HLEN.i];exact hbl
        have hai2:fG (s'.set b (some v)) i=some v:=by
         rw[Gh _ _ _ _ hbs,if_neg (jy HIB.i)];have:=aqP.i;rw[HLEN.i,<-HI.i]at this;exact this
        have hel:(iB (s'.set b (some v))).a=L.a+1:=by
         have h4:=(Kn (s'.set b (some v)) i v (by rw[aW,HLEN.i];exact hil) hai2).t;rw[bD]at h4;have h5:=hmv.Pm;rw[aW,HLEN.i,<-HI.i]at h5;rw[h4,h5.t]
        refine⟨s'.set b (some v),c,c+1,v,by rw[aW,HLEN.i],hmv,by rw[<-HI.i];exact hai2,?_,by rw[HI.i],by rw[Qi.i],?_⟩
        ·exact T5.i.drew.ahZ hbs (some v) (L.a+1) hel (HCT.i.symm)
        ·exact jC.grown (HFR.i.S HB5.i.drew HFR.i.j) (lY (dM w5.drew (some g)) (b*42) (vZ (some v)).aA) (fun j e=>.a (by injection e with e;simp[e]))
       case measure=>
        simp only[intOf,dW];exact asE.i
      ·have t1:decide ((d1:Int)>=(d2:Int))=false:=by simp;omega
       have t2:decide ((d2:Int)<=(d1:Int))=false:=by simp;omega
       have t3:decide (d2<=d1)=false:=by simp;omega
       have HLE:=ah hle;clear hle thb;go_wp2_with (go_at_call 200;(with_reducible refine(CH.i _ HTB.i).g ?_);rintro e w5 ⟨rfl,hb5⟩;have HB5:=ah hb5;clear hb5 a1 a4 a7 f18);go_roundw
       case rel=>
        have h1:=HC.i;have h2:=HLE.i;rw[D1.i,D2.i]at h2;have h3:=azE.i;refine⟨s',a,c+1,y,HLEN.i,HOL.i.aCN (by rw[HLEN.i];exact h1.1) aqP.i (by rw[HLEN.i,azD.i];omega),by rw[<-Ig.i];exact HAY.i,HTB.i.go HB5.i,by rw[Ig.i],by rw[Qi.i],HFR.i.S HB5.i HFR.i.j⟩
       case measure=>
        simp only[intOf,dW];exact asE.i
end
section
variable {W W':au} {q g:Nat} {key:Vector UInt8 16} {dX:Int} {s:List (Option Fw)} {l:List Fw}
theorem TbR.DZ{hm:Tu->Nat}(h:TbR hm s l)(ho:wE dX l){f x:Fw}{d:Nat}(hd:Found hm Fw.key s f.key d)(hf:pW l f.key=some x)(hl:l.a<s.a)(m:List Fw)(hm':m.Perm (f::yN l f.key)):TbR hm (s.set ((hm f.key+d)%s.a) (some f)) m:=by
 have hN:0<s.a:=by omega
 have hj:(hm f.key+d)%s.a<s.a:=fH _ hN;have hst:=h.stop ho hd;have hel:=h.Pm.t;rw[hf]at hst;obtain⟨h1,h2⟩:=xJ hf;obtain⟨z,hz1,hz2⟩:=(LK s).1 (by omega);refine⟨h.tab.put hd hz1 hz2 (fun e=>by rw[e,hst]at hz2;cases hz2),?_⟩;have e1:=zi s _ f hj;have e2:=Ph s _ x hj hst;have e3:=Vw ho h1 (h.Pm.symm.trans e2);rw[h2]at e3;exact e1.trans ((e3.cons f).trans hm'.symm)
theorem Oq{fn:Func}{p u v:Tmp}{ty:bF}(h:fn.results = #[.cell p ty,.a u,.a v])(tmps:Array aC)(P:Program)(w:au):
 (results fn tmps).J P w=((asAddr (tmps.c p undef)).J P w).andThen fun a w₁=>((loadVar ty a).J P w₁).andThen fun x w₂=>.ok (.K #[x,tmps.c u undef,tmps.c v undef]) w₂:=by
 simp only[results,h];simp[jM,iI]
theorem oW.aqQ{T:bF}{n:Nat}{z:Array aC}{fn:Func}{p u v b:Nat}{W:au}{c:Array aC}(K:oW T n z)(h:fn.results = #[.cell p T,.a u,.a v])(tmps:Array aC)(hp:tmps.c p undef=.c (some ⟨b,0,none⟩))(hb:dN W b c)(hc:c.j=n):(results fn tmps).J aj W=.ok (.K #[.d c,tmps.c u undef,tmps.c v undef]) W:=by
 obtain⟨_,_,h3,h4⟩:=hb.M;have hl:=K.ld W b 0 (by rw[h3 0 n (by unfold eF;omega)];trivial);rw[h4 0 n (by unfold eF;omega),bl,<-hc,Array.extract_size]at hl;unfold xK at hl;simp only[cZ,Instr.sureAddr,jM,oD,gT]at hl;rw[Oq h,hp];simp[asAddr,iI,hl]
def aj8(dX:Int)(l:List Fw)(f:Fw):aC:=
 if DX f then(if(pW l f.key).isNone&&decide (dX<=l.a)then .K #[.d (l.head?.c ko).aA,.e true,.b .a 0]else .K #[.d ko.aA,.e false,.b .a 0])else .K #[.d ko.aA,.e false,.b .a 1]
def agB(W:au)(q g:Nat)(key:Vector UInt8 16)(dX:Int)(s:List (Option Fw))(l:List Fw)(f:Fw)(e:lu)(w':au):Prop:=
 e=.a (aj8 dX l f)/\(∃s',KL w' q g key dX s' (DZ dX l f)/\s'.a=s.a)/\jC [q,g] W w'
theorem Zp(T:KL W q g key dX s l)(h1:1<=dX)(h2:dX*2<=s.a)(f:Fw)(hfn:f.E.a<=1000000):
 aQ aj 63 #[.c (some ⟨q,0,none⟩),.d f.aA] W (agB W q g key dX s l f):=by
 have Z0:=ah (((Bx.start W).new f.aA 86).new ko.aA 86);rw[show(W.alloc (.D f.aA 86)).a.j=W.a.j+1 by simp]at Z0;have CR:=ah (fun w=>Lf f w (by omega));have HT:=ah T;have HLT:=ah T.w.lt;obtain⟨ok,hok⟩:=dw (DX f);rw[<-hok]at CR;have JW:=ah hok;clear hok T;go_enter Tryz.func63,Tryz.ntmps63;go_upto_region 1 with fail
 generalize(W.alloc (.D f.aA 86)).alloc (.D ko.aA 86)=w1 at Z0 ⊢;have l1:=kJ Z0.i.b1;cases ok
 ·go_wp2_with (go_at_call 48;(with_reducible refine(CR.i _).g ?_);rintro e w2 ⟨rfl,hb⟩;have Z2:=ah (Z0.i.go hb);clear hb l1;have yO:=Z2.i.X.O 0 41 (aY (Fw.I _).symm))
  have k2:=Z2.i.put (fun p hp=>by rw[List.mem_singleton.1 hp];simp) ko.aA rfl;refine aO (kFw.aqQ rfl _ rfl (show dN (Av w2 (W.a.j+1) 0 ko) (W.a.j+1) ko.aA from k2.X) (Fw.I _)) rfl ?_;refine⟨by unfold aj8;rw[if_neg (by rw[<-JW.i];simp)];rfl,⟨s,?_,rfl⟩,jC.jA k2.R⟩;unfold DZ;rw[if_neg (by rw[<-JW.i];simp)];exact HT.i.go k2.R
 ·have hkn:xk f.key:=Bp (wL JW.i.symm)
  have CG:=ah (fun(w:au) (T:KL w q g key dX s l)=>Kl T f.key);obtain⟨o,ho⟩:=dw (pW l f.key);rw[<-ho]at CG;have HO:=ah ho.symm;have hcg:∀o,anj o = .K #[.d (vZ o).qZ.aA,.e o.isSome]:=fun _=>rfl
  simp only[hcg]at CG;clear ho hcg;have hcnt:(iB s).a=l.a:=HT.i.r.Pm.t;have hsz:=HT.i.w.sz;obtain⟨n,hn⟩:=dw l.a;have HNL:=ah hn;have HF:=ah (fun(w':au) (T:KL w' q g key dX s l)=>show w'.b ⟨q,17,none⟩=some (.b .a n)/\w'.b ⟨q,16,none⟩=some (.b .a dX)from⟨by rw[T.w.M.2.1,T.r.Pm.t,hn],T.w.M.2.2.1⟩);clear hcnt hn;go_upto_region 6 with(first|(go_at_call 48;(with_reducible refine(CR.i _).g ?_);rintro e w2 ⟨rfl,hb⟩;have HW3:=ah (show W.a.j+1<w2.a.j from(Z0.i.go hb).X.lt);have Z2:=ah ((Z0.i.go hb).new ko.aA 86);clear hb l1;have l2:=oZ Z2.i.b2)|(go_at_call 126;(with_reducible refine(CG.i _ (HT.i.go Z2.i.R)).g ?_);rintro e w3 ⟨rfl,hb⟩;have Z3:=ah ((Z2.i.go hb).new (vZ o).qZ.aA 86);clear hb l2))
  have TA:=ah (HT.i.go Z3.i.R);obtain⟨f17,f16⟩:=HF.i _ TA.i;cases o with
  | some x=>
    go_wp2_with fail;go_quiet (fail);have T1:=ah (show KL ((w3.alloc (.D (vZ (some x)).qZ.aA 86)).drewN nq) q g key dX s l from⟨TA.i.w.drewN nq,TA.i.r,TA.i.ok⟩);have XF:=ah (Z3.i.b3.drewN nq);have XR:=ah (Z3.i.b2.drewN nq);have XY:=ah (Z3.i.b1.drewN nq);have FR:=ah (jC.jA (F:=[q,g]) (fJ Z3.i.R nq));have HF1:=ah HO.i;generalize(w3.alloc (.D (vZ (some x)).qZ.aA 86)).drewN nq=wA at T1 XF XR XY FR ⊢;clear f17 f16;go_wp2_with fail;obtain⟨d,hd,hat⟩:=T1.i.Vv f.key;rw[HF1.i]at hat;have hsz1:=T1.i.w.sz;obtain⟨j,hj⟩:=dw ((hmK key s.a f.key+d)%s.a);have hjl:j<s.a:=by rw[hj];exact fH _ (by omega)
    have CF:=ah (fun(w:au) (T:FH w q g key dX s)=>Cg T f.key hkn d hd);rw[<-hj]at CF hat;have HD:=ah hd;have HJ:=ah hj;have HAT:=ah hat;obtain⟨N,hN⟩:=dw s.a;have HN:=ah hN;have hji:(j:Int)<N:=by omega
    have HJL:=ah hjl;clear hd hj hat hN hjl hsz1;obtain⟨T,ff,n0,E0,es,ew⟩:=xO (wA);have hT:Nonempty T:=⟨n0⟩
    have ES:=ah es;have EW:=ah ew;have l18:∀m,(ff m).b ⟨q,18,none⟩=some (.a (some ⟨g,0,none⟩) N N):=fun m=>by rw[HN.i];exact(T1.i.w.go (es m)).M.1
    have lk:=fun m=>oZ (XF.i.go (es m))
    have CG2:=ah (fun m=>CF.i _ (T1.i.w.go (es m)));clear es ew;refine nW ff (by kernel_rfl) (by kernel_rfl) n0 E0 ?_
    repeat(go_big_quiet_step ((first|(go_at_call 129;(with_reducible refine(CG2.i _).g ?_);rintro e w2 ⟨rfl,hb⟩;exact⟨rfl,EW.i _ ((ES.i _).trans (hb.g (ES.i _).j))⟩))))
    refine gN ?_;rintro _ ⟨m',rfl⟩;have HB:=ah (ES.i m');generalize ff m'=wN at *;clear ES EW E0 hT n0;clear l18 lk;have T2:=ah (T1.i.go HB.i);have F2:=ah (XF.i.go HB.i);have R2:=ah (XR.i.go HB.i);have Y2:=ah (XY.i.go HB.i);have FR2:=ah (FR.i.S HB.i FR.i.j);obtain⟨a1,_,_,_,a5,_,_⟩:=T2.i.w.Wq HJL.i;rw[HAT.i]at a1
    replace a1:wN.b ⟨g,j*42,none⟩=some (.e true):=a1
    have lf:=kJ F2.i;have thj:=T2.i.w.sl.O (j*42) 42 (by rw[uY];have:=bY 42 (show j+1<=s.a from HJL.i);omega);have Zi:=ah (show q≠W.a.j+1/\g≠W.a.j+1/\g≠w2.a.j/\w2.a.j≠W.a.j+1 from⟨by have:=HLT.i;omega,by have:=HLT.i;omega,by have:=HLT.i;have:=HW3.i;omega,by have:=HW3.i;omega⟩);have Y3:=ah (Y2.i.gK (o:=j*42) (x:=(Sl.mk true f).aA) (jy Zi.i.2.2.1));have R3:=ah (R2.i.gK (o:=j*42) (x:=(Sl.mk true f).aA) (jy Zi.i.2.1));have ly:=kJ Y3.i;have yO:=R3.i.O 0 41 (aY (Fw.I _).symm);clear a5;go_wp2;refine aO (kFw.aqQ rfl _ rfl (R3.i.put ko.aA rfl) (Fw.I _)) rfl ?_;have hpf:DZ dX l f=ins lQ f (yN l f.key):=by unfold DZ;rw[if_pos JW.i.symm,if_pos (by rw[HO.i];rfl)]
    have e1:=Kn s j x HJL.i HAT.i;have e2:=zi s j f HJL.i;have hW:=T2.i.w.ahZ HJL.i (some f) (iB s).a (by rw[e2.t,e1.t,bD,bD]) rfl;have hR:=T2.i.r.DZ T2.i.ok HD.i HO.i (by have:=T2.i.ok.len;omega) (ins lQ f (yN l f.key)) (BF _ _);rw[<-HJ.i]at hR;refine⟨by unfold aj8;rw[if_pos JW.i.symm,HO.i];rfl,⟨s.set j (some f),⟨⟨hW.h.gK Zi.i.1,hW.sl.gK Zi.i.2.1,hW.ne,hW.sz⟩,?_,T2.i.ok.put h1 f⟩,by rw[aW]⟩,?_⟩
    ·rw[aW,hpf];exact hR
    ·refine jC.grown ?_ (lY (dM _ (some (W.a.j+1))) 0 ko.aA) (fun k e=>.b (by injection e with e;omega))
     exact jC.grown FR2.i (lY (dM _ (some g)) (j*42) (Sl.mk true f).aA) (fun k e=>.a (by injection e with e;simp[e]))
  | none=>
   by_cases hfull:dX<=(n:Int)
   ·have t1:decide ((n:Int)>=dX)=true:=by simp;omega
    have t2:decide (dX<=(n:Int))=true:=by simp;omega
    obtain⟨x0,tl,hl0⟩:∃x0 tl,l=x0::tl:=by
     have:=HNL.i;cases l with
     | nil=>simp at this;omega
     | cons x t=>exact⟨x,t,rfl⟩
    have hhd:l.head?.c ko=x0:=by rw[hl0];rfl
    have hct:yN l x0.key=tl:=by have:=HT.i.ok;rw[hl0]at this⊢;exact amr this
    have CO:=ah (fun w (T:KL w q g key dX s l)=>abG w T);rw[hhd]at CO;have CD:=ah (fun w (T:KL w q g key dX s l)=>WI T x0.key);rw[hct]at CD;have hfl:dX<=(l.a:Int):=by rw[<-HNL.i];exact hfull
    have HPF:=ah (show DZ dX l f=ins lQ f tl by unfold DZ;rw[if_pos JW.i.symm,if_neg (by rw[HO.i];simp),if_pos hfl,hl0];rfl);have HPC:=ah (show aj8 dX l f = .K #[.d x0.aA,.e true,.b .a 0]by unfold aj8;rw[if_pos JW.i.symm,HO.i,if_pos (by simpa using hfl),hhd]);have HFT:=ah (show pW tl f.key=none by
     unfold pW;rw[List.find?_eq_none];intro z hz;have:=Bn HO.i z (by rw[hl0];exact jX _ hz);simp[tV,this])
    have HPT:=ah (show DZ dX tl f=ins lQ f tl by
     unfold DZ;rw[if_pos JW.i.symm,if_neg (by rw[HFT.i];simp),if_neg (by have:=HT.i.ok.len;rw[hl0,bD]at this;omega)])
    have HBD:=ah (show((tl.a:Nat):Int)+1<=dX by have:=HT.i.ok.len;rw[hl0,bD]at this;omega);clear hfull hl0 hhd hct hfl;go_wp2_with fail;go_quiet (fail);have TB:=ah (show KL ((w3.alloc (.D (vZ none).qZ.aA 86)).drewN nq) q g key dX s l from⟨TA.i.w.drewN nq,TA.i.r,TA.i.ok⟩);have XF0:=ah (Z3.i.b3.drewN nq);have XR0:=ah (Z3.i.b2.drewN nq);have XY0:=ah (Z3.i.b1.drewN nq);have FR0:=ah (jC.jA (F:=[q,g]) (fJ Z3.i.R nq));generalize(w3.alloc (.D (vZ none).qZ.aA 86)).drewN nq=wB at TB XF0 XR0 XY0 FR0 ⊢;clear f17 f16;have HQK:=ah (show w2.a.j≠q/\w2.a.j≠g/\w2.a.j≠W.a.j/\w2.a.j≠W.a.j+1/\W.a.j≠q/\W.a.j≠g/\W.a.j+1≠q/\W.a.j+1≠g by have:=HLT.i;have:=HW3.i;omega);go_upto_region 9 with(first
     | (go_at_call 127;(with_reducible refine(CO.i _ TB.i).g ?_);rintro e w4 ⟨rfl,hb4⟩;have Y4:=ah (XY0.i.go hb4);have th4:=Y4.i.O 0 41 (aY (Fw.I _).symm);have T5:=ah (show KL (Av w4 w2.a.j 0 x0) q g key dX s l from⟨⟨(TB.i.w.go hb4).h.gK (jy HQK.i.1),(TB.i.w.go hb4).sl.gK (jy HQK.i.2.1),TB.i.w.ne,TB.i.w.sz⟩,TB.i.r,TB.i.ok⟩);have Y5:=ah (show dN (Av w4 w2.a.j 0 x0) w2.a.j x0.aA from Y4.i.put x0.aA (by rw[Fw.I,Fw.I]));have F5:=ah (show dN (Av w4 w2.a.j 0 x0) W.a.j f.aA from(XF0.i.go hb4).gK (b2:=w2.a.j) (o:=0) (x:=x0.aA) (jy HQK.i.2.2.1));have R5:=ah (show dN (Av w4 w2.a.j 0 x0) (W.a.j+1) ko.aA from(XR0.i.go hb4).gK (b2:=w2.a.j) (o:=0) (x:=x0.aA) (jy HQK.i.2.2.2.1));have lk5:=oZ Y5.i;have FR5:=ah (show jC [q,g] W (Av w4 w2.a.j 0 x0)from(FR0.i.S hb4 FR0.i.j).grown (lY (dM w4 (some w2.a.j)) 0 x0.aA) (fun k e=>.b (by injection e with e;have:=HW3.i;omega)));clear hb4)
     | (go_at_call 128;(with_reducible refine(CD.i _ T5.i).g ?_);rintro e wA ⟨rfl,⟨s',T6,hs6⟩,F6⟩;have T1:=ah T6;have HS6:=ah hs6;have XF:=ah (F6.box F5.i (by have:=HQK.i;simp;omega));have XR:=ah (F6.box R5.i (by have:=HQK.i;simp;omega));have XY:=ah (F6.box Y5.i (by have:=HQK.i;simp;omega));have FR:=ah (FR5.i.pO F6);clear lk5 th4 T6 hs6 F6))
    have HF1:=ah HFT.i;obtain⟨n',hn'⟩:=dw tl.a;have HNP:=ah hn';clear hn';obtain⟨d,hd,hat⟩:=T1.i.Vv f.key;rw[HF1.i]at hat;have hsz1:=T1.i.w.sz;obtain⟨j,hj⟩:=dw ((hmK key s'.a f.key+d)%s'.a);have hjl:j<s'.a:=by rw[hj];exact fH _ (by omega)
    have CF:=ah (fun(w:au) (T:FH w q g key dX s')=>Cg T f.key hkn d hd);rw[<-hj]at CF hat;have HD:=ah hd;have HJ:=ah hj;have HAT:=ah hat;obtain⟨N,hN⟩:=dw s'.a;have HN:=ah hN;have hji:(j:Int)<N:=by omega
    have HJL:=ah hjl;clear hd hj hat hN hjl hsz1;obtain⟨T,ff,n0,E0,es,ew⟩:=xO (wA);have hT:Nonempty T:=⟨n0⟩
    have ES:=ah es;have EW:=ah ew;have l18:∀m,(ff m).b ⟨q,18,none⟩=some (.a (some ⟨g,0,none⟩) N N):=fun m=>by rw[HN.i];exact(T1.i.w.go (es m)).M.1
    have lk:=fun m=>oZ (XF.i.go (es m))
    have CG2:=ah (fun m=>CF.i _ (T1.i.w.go (es m)));clear es ew;refine nW ff (by kernel_rfl) (by kernel_rfl) n0 E0 ?_
    repeat(go_big_quiet_step ((first|(go_at_call 129;(with_reducible refine(CG2.i _).g ?_);rintro e w2 ⟨rfl,hb⟩;exact⟨rfl,EW.i _ ((ES.i _).trans (hb.g (ES.i _).j))⟩))))
    refine gN ?_;rintro _ ⟨m',rfl⟩;have HB:=ah (ES.i m');generalize ff m'=wN at *;clear ES EW E0 hT n0;clear l18 lk;have T2:=ah (T1.i.go HB.i);have F2:=ah (XF.i.go HB.i);have R2:=ah (XR.i.go HB.i);have Y2:=ah (XY.i.go HB.i);have FR2:=ah (FR.i.S HB.i FR.i.j);obtain⟨a1,_,_,_,a5,_,_⟩:=T2.i.w.Wq HJL.i;rw[HAT.i]at a1
    replace a1:wN.b ⟨g,j*42,none⟩=some (.e false):=a1
    have c17:wN.b ⟨q,17,none⟩=some (.b .a n'):=by rw[T2.i.w.M.2.1,T2.i.r.Pm.t,HNP.i]
    have g17:=T2.i.w.M.2.2.2.1 17;obtain⟨n1,hn1⟩:=dw (n'+1);have e5:(n':Int)+1=(n1:Int):=by omega
    have hnb:=T2.i.ok.len;have hnl:=HNP.i;have i5:=jV (n1:Int) (by omega);have HN1:=ah hn1;have F3:=ah (F2.i.dR ⟨q,17,none⟩ (.b .a n1) (by have:=HLT.i;show q≠W.a.j;omega));have lf:=kJ F3.i;have SL:=ah (T2.i.w.sl.dR ⟨q,17,none⟩ (.b .a n1) T2.i.w.ne);have thj:=SL.i.O (j*42) 42 (by rw[uY];have:=bY 42 (show j+1<=s'.a from HJL.i);omega);have Zi:=ah (show q≠W.a.j+1/\g≠W.a.j+1/\g≠w2.a.j/\w2.a.j≠W.a.j+1/\q≠w2.a.j from⟨by have:=HLT.i;omega,by have:=HLT.i;omega,by have:=HLT.i;have:=HW3.i;omega,by have:=HW3.i;omega,by have:=HLT.i;have:=HW3.i;omega⟩);have Y3:=ah ((Y2.i.dR ⟨q,17,none⟩ (.b .a n1) Zi.i.2.2.2.2).gK (o:=j*42) (x:=(Sl.mk true f).aA) (jy Zi.i.2.2.1));have R3:=ah ((R2.i.dR ⟨q,17,none⟩ (.b .a n1) Zi.i.1).gK (o:=j*42) (x:=(Sl.mk true f).aA) (jy Zi.i.2.1));have ly:=kJ Y3.i;have yO:=R3.i.O 0 41 (aY (Fw.I _).symm);clear a5 hn1 hnb hnl;go_wp2;refine aO (kFw.aqQ rfl _ rfl (R3.i.put x0.aA (by rw[Fw.I,Fw.I])) (Fw.I _)) rfl ?_;have hnl:=HNP.i;have hhs:=HS6.i;have hbd:=HBD.i;have hpf:DZ dX l f=ins lQ f tl:=HPF.i;have hcu:=WH HF1.i;have e2:=LJ s' j f HJL.i HAT.i;have hel:(iB (s'.set j (some f))).a=n1:=by rw[e2.t,bD,T2.i.r.Pm.t,HN1.i,hnl]
    have hR:=T2.i.r.put T2.i.ok HD.i (by omega) (ins lQ f tl) (by rw[hcu];exact BF _ _);rw[<-HJ.i]at hR;have hT1:dN (wN.G ⟨q,17,none⟩ (.b .a n1)) q (Tk.mk key dX (iB (s'.set j (some f))).a (some ⟨g,0,none⟩) s'.a s'.a).aA:=by
     have:=T2.i.w.h.eH 17 (.b .a n1);rw[Tk.Qf]at this;rw[hel];exact this
    have hT2:dN (gZ (wN.G ⟨q,17,none⟩ (.b .a n1)) g (j*42) (Sl.mk true f).aA) g (Wo (s'.set j (some f))):=by
     have h5:=SL.i.setCells (j*42) (Sl.mk true f).aA.a;rw[<-TS s' j (some f) HJL.i];simpa[gZ,slC,vZ]using h5
    refine⟨by rw[HPC.i];rfl,⟨s'.set j (some f),⟨⟨?_,hT2.gK Zi.i.2.1,T2.i.w.ne,by rw[aW];exact T2.i.w.sz⟩,?_,by rw[hpf,<-HPT.i];exact T2.i.ok.put h1 f⟩,by rw[aW,HS6.i]⟩,?_⟩
    ·rw[aW];exact(hT1.gK T2.i.w.ne).gK Zi.i.1
    ·rw[aW,hpf];exact hR
    ·refine jC.grown ?_ (lY (dM _ (some (W.a.j+1))) 0 x0.aA) (fun k e=>.b (by injection e with e;omega))
     refine jC.grown ?_ (lY (dM _ (some g)) (j*42) (Sl.mk true f).aA) (fun k e=>.a (by injection e with e;simp[e]));exact FR2.i.set ⟨q,17,none⟩ (.b .a n1) (.a (by simp))
   ·have t1:decide ((n:Int)>=dX)=false:=by simp;omega
    have t2:decide (dX<=(n:Int))=false:=by simp;omega
    have azI:=ah hfull;clear hfull;go_wp2_with fail;go_quiet (fail);have T1:=ah (show KL ((w3.alloc (.D (vZ none).qZ.aA 86)).drewN nq) q g key dX s l from⟨TA.i.w.drewN nq,TA.i.r,TA.i.ok⟩);have XF:=ah (Z3.i.b3.drewN nq);have XR:=ah (Z3.i.b2.drewN nq);have XY:=ah (Z3.i.b1.drewN nq);have FR:=ah (jC.jA (F:=[q,g]) (fJ Z3.i.R nq));have HF1:=ah HO.i;generalize(w3.alloc (.D (vZ none).qZ.aA 86)).drewN nq=wA at T1 XF XR XY FR ⊢;clear f17 f16;go_wp2_with fail;obtain⟨d,hd,hat⟩:=T1.i.Vv f.key;rw[HF1.i]at hat;have hsz1:=T1.i.w.sz;obtain⟨j,hj⟩:=dw ((hmK key s.a f.key+d)%s.a);have hjl:j<s.a:=by rw[hj];exact fH _ (by omega)
    have CF:=ah (fun(w:au) (T:FH w q g key dX s)=>Cg T f.key hkn d hd);rw[<-hj]at CF hat;have HD:=ah hd;have HJ:=ah hj;have HAT:=ah hat;obtain⟨N,hN⟩:=dw s.a;have HN:=ah hN;have hji:(j:Int)<N:=by omega
    have HJL:=ah hjl;clear hd hj hat hN hjl hsz1;obtain⟨T,ff,n0,E0,es,ew⟩:=xO (wA);have hT:Nonempty T:=⟨n0⟩
    have ES:=ah es;have EW:=ah ew;have l18:∀m,(ff m).b ⟨q,18,none⟩=some (.a (some ⟨g,0,none⟩) N N):=fun m=>by rw[HN.i];exact(T1.i.w.go (es m)).M.1
    have lk:=fun m=>oZ (XF.i.go (es m))
    have CG2:=ah (fun m=>CF.i _ (T1.i.w.go (es m)));clear es ew;refine nW ff (by kernel_rfl) (by kernel_rfl) n0 E0 ?_
    repeat(go_big_quiet_step ((first|(go_at_call 129;(with_reducible refine(CG2.i _).g ?_);rintro e w2 ⟨rfl,hb⟩;exact⟨rfl,EW.i _ ((ES.i _).trans (hb.g (ES.i _).j))⟩))))
    refine gN ?_;rintro _ ⟨m',rfl⟩;have HB:=ah (ES.i m');generalize ff m'=wN at *;clear ES EW E0 hT n0;clear l18 lk;have T2:=ah (T1.i.go HB.i);have F2:=ah (XF.i.go HB.i);have R2:=ah (XR.i.go HB.i);have Y2:=ah (XY.i.go HB.i);have FR2:=ah (FR.i.S HB.i FR.i.j);obtain⟨a1,_,_,_,a5,_,_⟩:=T2.i.w.Wq HJL.i;rw[HAT.i]at a1
    replace a1:wN.b ⟨g,j*42,none⟩=some (.e false):=a1
    have c17:=(HF.i _ T2.i).1;have g17:=T2.i.w.M.2.2.2.1 17;obtain⟨n1,hn1⟩:=dw (n+1);have e5:(n:Int)+1=(n1:Int):=by omega
    have hnb:=T2.i.ok.len;have hnl:=HNL.i;have i5:=jV (n1:Int) (by omega);have HN1:=ah hn1;have F3:=ah (F2.i.dR ⟨q,17,none⟩ (.b .a n1) (by have:=HLT.i;show q≠W.a.j;omega));have lf:=kJ F3.i;have SL:=ah (T2.i.w.sl.dR ⟨q,17,none⟩ (.b .a n1) T2.i.w.ne);have thj:=SL.i.O (j*42) 42 (by rw[uY];have:=bY 42 (show j+1<=s.a from HJL.i);omega);have Zi:=ah (show q≠W.a.j+1/\g≠W.a.j+1/\g≠w2.a.j/\w2.a.j≠W.a.j+1/\q≠w2.a.j from⟨by have:=HLT.i;omega,by have:=HLT.i;omega,by have:=HLT.i;have:=HW3.i;omega,by have:=HW3.i;omega,by have:=HLT.i;have:=HW3.i;omega⟩);have Y3:=ah ((Y2.i.dR ⟨q,17,none⟩ (.b .a n1) Zi.i.2.2.2.2).gK (o:=j*42) (x:=(Sl.mk true f).aA) (jy Zi.i.2.2.1));have R3:=ah ((R2.i.dR ⟨q,17,none⟩ (.b .a n1) Zi.i.1).gK (o:=j*42) (x:=(Sl.mk true f).aA) (jy Zi.i.2.1));have ly:=kJ Y3.i;have yO:=R3.i.O 0 41 (aY (Fw.I _).symm);clear a5 hn1 hnb hnl;go_wp2;refine aO (kFw.aqQ rfl _ rfl (R3.i.put ko.aA rfl) (Fw.I _)) rfl ?_;have hnl:=HNL.i;have hfu:=azI.i;have hrl:¬dX<=(l.a:Int):=by omega
    have hpf:DZ dX l f=ins lQ f l:=by unfold DZ;rw[if_pos JW.i.symm,if_neg (by rw[HO.i];simp),if_neg hrl]
    have hcu:=WH HO.i;have e2:=LJ s j f HJL.i HAT.i;have hel:(iB (s.set j (some f))).a=n1:=by rw[e2.t,bD,T2.i.r.Pm.t,HN1.i,hnl]
    have hR:=T2.i.r.put T2.i.ok HD.i (by omega) (ins lQ f l) (by rw[hcu];exact BF _ _);rw[<-HJ.i]at hR;have hT1:dN (wN.G ⟨q,17,none⟩ (.b .a n1)) q (Tk.mk key dX (iB (s.set j (some f))).a (some ⟨g,0,none⟩) s.a s.a).aA:=by
     have:=T2.i.w.h.eH 17 (.b .a n1);rw[Tk.Qf]at this;rw[hel];exact this
    have hT2:dN (gZ (wN.G ⟨q,17,none⟩ (.b .a n1)) g (j*42) (Sl.mk true f).aA) g (Wo (s.set j (some f))):=by
     have h5:=SL.i.setCells (j*42) (Sl.mk true f).aA.a;rw[<-TS s j (some f) HJL.i];simpa[gZ,slC,vZ]using h5
    refine⟨by unfold aj8;rw[if_pos JW.i.symm,HO.i,if_neg (by simp;omega)];rfl,⟨s.set j (some f),⟨⟨?_,hT2.gK Zi.i.2.1,T2.i.w.ne,by rw[aW];exact T2.i.w.sz⟩,?_,T2.i.ok.put h1 f⟩,by rw[aW]⟩,?_⟩
    ·rw[aW];exact(hT1.gK T2.i.w.ne).gK Zi.i.1
    ·rw[aW,hpf];exact hR
    ·refine jC.grown ?_ (lY (dM _ (some (W.a.j+1))) 0 ko.aA) (fun k e=>.b (by injection e with e;omega))
     refine jC.grown ?_ (lY (dM _ (some g)) (j*42) (Sl.mk true f).aA) (fun k e=>.a (by injection e with e;simp[e]));exact FR2.i.set ⟨q,17,none⟩ (.b .a n1) (.a (by simp))
end
section
attribute [local go_sem high] jc jK
theorem avq:ajm 190:=⟨fun c w=>by
 go_enter Tryz.func190,Tryz.ntmps190;go_wp2;go_ret;exact⟨rfl,rfl⟩,fun args w=>by kernel_rfl⟩
theorem anq(a:fE):qN a=(a.h || !nzB (a.b.a.f 4)):=by rw[Ki];cases h:a.h<;>simp[qN,fE.mU,h]
theorem Lj(a:fE)(w:au):aQ aj 110 #[.d a.aA] w (gy w (.e (qN a))):=by
 have HB:=ah ((aH w.a.j w).alloc (ay _) (.D a.aA 27));have x0:=dN.new w a.aA 27;have C:=ah (ahD _ avq _ 12 12 _ _ _ (by omega) (fZ.tail (B:=w.a.j+1) (mP _) x0));have HS:=ah (anq a);obtain⟨z,hz⟩:=dw (nzB (a.b.a.f 4));rw[<-hz]at C HS;clear hz;cases h6:a.h
 ·rw[h6]at HS
  go_enter Tryz.func110,Tryz.ntmps110;go_wp2_with fail;refine C.i.g ?_;rintro e w' ⟨rfl,rfl⟩;cases z
  all_goals
   go_wp2;go_ret;exact⟨by rw[HS.i];rfl,HB.i⟩
 ·rw[h6]at HS
  go_enter Tryz.func110,Tryz.ntmps110;go_wp2;go_ret;exact⟨by rw[HS.i];rfl,HB.i⟩
def JC(n a b:Int):Bool:=decide (a<=n)&&decide (n<=b)
theorem yB(n a b:Int)(w:au):aQ aj 109 #[.b .a n,.b .a a,.b .a b] w fun e w'=>e=.a (.e (JC n a b))/\w=w':=by
 go_enter Tryz.func109,Tryz.ntmps109;by_cases h1:a<=n<;>by_cases h2:n<=b
 all_goals
  go_wp2;go_ret;exact⟨by simp[JC,h1,h2],rfl⟩
theorem aj9(args:Array aC)(w:au):(callFunc 204 args).J aj w=.ok (.enter 204 args) w:=by kernel_rfl
theorem agD(x:Vp)(a:fE)(p q:Int)(ba bp bq:Nat)(w:au)(ha:dN w ba a.aA)(hp:dN w bp #[.b .a p])(hq:dN w bq #[.b .a q]):
 aQ aj 204 #[.d x.aA,.c (some ⟨ba,0,none⟩),.c (some ⟨bp,0,none⟩),.c (some ⟨bq,0,none⟩)] w (gy w (.e (yt a p q x))):=by
 have HB:=ah (fun ob=>(aH w.a.j w).alloc (ay _) ob);have na:=ha.lt;have np:=hp.lt;have nq:=hq.lt;obtain⟨a1,a2,a3,a4⟩:=ha.M;obtain⟨p1,p2,p3,p4⟩:=hp.M;obtain⟨q1,q2,q3,q4⟩:=hq.M;clear ha hp hq;go_enter Tryz.func204,Tryz.ntmps204;go_wp2
 all_goals
  go_ret;refine⟨?_,HB.i _⟩;clear HB;simp_all[yt]
def ah0(l:List Vp)(a:fE)(p q:Int):Int:=match zo l a p q with|some i=>(i:Nat)|none=>-1
theorem aj'(l:List Vp)(a:fE)(p q:Int)(ba bp bq:Nat)(A:Option aU)(n c:Nat)(w:au)(hR:RdV w w.a.j A n l)(hn:n<=100000)(ha:dN w ba a.aA)(hp:dN w bp #[.b .a p])(hq:dN w bq #[.b .a q]):
 aQ aj 203 #[.a A n c,.func (.func 204) #[] #[.c (some ⟨ba,0,none⟩),.c (some ⟨bp,0,none⟩),.c (some ⟨bq,0,none⟩)]] w (gy w (.b .a (ah0 l a p q))):=by
 have hen:=aj9;have HR:=ah hR;have HN:=ah hR.1;have PR:=ah (fun x W (h:aM w.a.j w W)=>agD x a p q ba bp bq W (ha.go h) (hp.go h) (hq.go h));clear hR ha hp hq;go_enter Tryz.func203,Tryz.ntmps203;go_wp2;go_loopw [8] (fun s8 wr=>∃i:Nat,i<=n/\s8=.b .a i/\(∀k,k<i->yt a p q (l.c k og)=false)/\aM w.a.j w wr) (fun s8 _=>n-(intOf s8).e)
 case atStart=>exact⟨0,by omega,rfl,fun k hk=>by omega,aH _ _⟩
 case round=>
  obtain⟨i,hin,rfl,hno,hb⟩:=hrel;have FW:=ah hno;have HB:=ah hb;clear hno hb;by_cases hlt:i<n
  ·have hi:(i:Int)<n:=by omega
   obtain⟨b,o,rfl,hbb,hh,hcl⟩:=iF.fG Vp.I og ((HR.i.S HB.i).lH HB.i.j) hlt;obtain⟨x,hx⟩:=dw (l.c i og);rw[<-hx]at hcl;have HX:=ah hx;have CP:=ah (PR.i x _ HB.i);clear hx hbb;cases hq:yt a p q x
   ·have HQ:=ah hq
    rw[hq]at CP;clear hq;go_wp2_with (go_at_call 204;(with_reducible refine CP.i.g ?_);rintro e w1 ⟨rfl,hb1⟩;clear hh hcl;have HB1:=ah hb1;clear hb1);go_roundw
    case rel=>exact⟨i+1,by omega,by go_num,fun k hk=>by
     by_cases hki:k=i
     ·rw[hki,<-HX.i];exact HQ.i
     ·exact FW.i k (by omega),iZ HB.i HB1.i⟩
    case measure=>simp[intOf]<;>omega
   ·have UJ:=ah (show zo l a p q=some i from ig.2 ⟨by rw[HN.i];exact hlt,by
      have:=hq;rw[HX.i,av,aD (by rw[HN.i];exact hlt)]at this;exact this,fun j hj=>by
      have:=FW.i j hj;rw[av,aD (by rw[HN.i];omega)]at this;simpa using this⟩)
    rw[hq]at CP;clear hq;go_wp2_with (go_at_call 204;(with_reducible refine CP.i.g ?_);rintro e w1 ⟨rfl,hb1⟩;clear hh hcl;have HB1:=ah hb1;clear hb1);go_ret;exact⟨by unfold ah0;rw[UJ.i];rfl,iZ HB.i HB1.i⟩
  ·obtain rfl:i=n:=by omega
   have UJ:=ah (show zo l a p q=none from wI.2 fun x hx=>by
    obtain⟨j,hj,rfl⟩:=List.getElem_of_mem hx;have:=FW.i j (by rw[<-HN.i];exact hj);rw[av,aD hj]at this;exact this)
   have hd:decide ((i:Int)<i)=false:=by simp
   go_wp2;go_ret;exact⟨by unfold ah0;rw[UJ.i];rfl,HB.i⟩
def XI(l:List Vp)(a:fE)(p q:Int):Vp×Bool:=match zo l a p q with|some i=>(l.c i og,true)|none=>(og,false)
theorem akb{l:List Vp}{a:fE}{p q:Int}{i:Nat}(h:zo l a p q=some i):i<l.a:=(ig.1 h).1
theorem QX(x:Cn)(l:List Vp)(a:fE)(p q:Int)(w:au)(hR:RdV w w.a.j x.qj x.Y l)(hn:x.Y<=100000):
 aQ aj 135 #[.d x.aA,.d a.aA,.b .a p,.b .a q] w (gy w (.K #[.d (XI l a p q).1.aA,.e (XI l a p q).2])):=by
 have h0:=((((Bx.start w).new x.aA 29).new a.aA 27).new #[.b .a p] 3).new #[.b .a q] 3;have h1:=h0.new og.aA 98;simp only[tq]at h1;have Z:=ah h1;have HR:=ah (h1.rdR hR);have HN:=ah hR.1;clear h0 h1 hR;go_enter Tryz.func135,Tryz.ntmps135;go_upto_region 1 with fail
 generalize(((((w.alloc (.D x.aA 29)).alloc (.D a.aA 27)).alloc (.D #[.b .a p] 3)).alloc (.D #[.b .a q] 3)).alloc (.D og.aA 98))=w5 at Z HR ⊢;obtain⟨y1,y2,y3,y4⟩:=Z.i.Vu.b3.M;have CI:=ah (aj' l a p q _ _ _ x.qj x.Y x.ql w5 HR.i hn Z.i.b3 Z.i.b2 Z.i.b1);have MF:=ah (show∀r∈[(w.a.j+1+1+1,#[aJ .a q]),(w.a.j+1+1,#[aJ .a p]),(w.a.j+1,a.aA),(w.a.j,x.aA)],r.1≠w.a.j+1+1+1+1 from fun r hr=>by
  simp only[bE,fO,or_false]at hr;rcases hr with rfl|rfl|rfl|rfl<;>simp only[]<;>omega)
 have HP:=ah (show ah0 l a p q=match zo l a p q with|some i=>(i:Nat)|none=>-1 from rfl);have HV:=ah (show XI l a p q=match zo l a p q with|some i=>(l.c i og,true)|none=>(og,false)from rfl);cases hf:zo l a p q with
 | none=>
   rw[hf]at HP HV;rw[HP.i]at CI;simp only at CI;clear hf;go_wp2_with (go_at_call 203;(with_reducible refine CI.i.g ?_);rintro e w6 ⟨rfl,hb⟩;have Z6:=ah (Z.i.go hb);have yO:=Z6.i.X.O 0 20 (aY (Vp.I og).symm);clear hb);refine aO (kVp.qK rfl _ rfl (b:=w.a.j+1+1+1+1) (c:=og.aA) (Z6.i.put MF.i og.aA rfl).X (Vp.I _)) rfl ?_;rw[HV.i];exact⟨rfl,(Z6.i.put MF.i og.aA rfl).R⟩
 | some i=>
   have hi:=akb hf;rw[HN.i]at hi;rw[hf]at HP HV;rw[HP.i]at CI;simp only at CI;clear hf;have hi2:(i:Int)<x.Y:=by omega
   obtain⟨b,o,hA,hbb,hh,hcl⟩:=iF.fG Vp.I og HR.i hi;rw[hA]at HR CI;go_wp2_with (go_at_call 203;(with_reducible refine CI.i.g ?_);rintro e w6 ⟨rfl,hb⟩;have Z6:=ah (Z.i.go hb);have yO:=Z6.i.X.O 0 20 (aY (Vp.I og).symm);have HR6:=ah (HR.i.go hb);clear hb;clear y1 y2 y3 y4 hh hcl;obtain⟨y1,y2,y3,y4⟩:=Z6.i.Vu.b3.M;obtain⟨b',o',hA',aK6,hh,hcl⟩:=iF.fG Vp.I og HR6.i hi;cases hA');refine aO (kVp.qK rfl _ rfl (b:=w.a.j+1+1+1+1) (c:=(l.c i og).aA) (Z6.i.put MF.i (l.c i og).aA (by rw[Vp.I,Vp.I])).X (Vp.I _)) rfl ?_;rw[HV.i];exact⟨rfl,(Z6.i.put MF.i (l.c i og).aA (by rw[Vp.I,Vp.I])).R⟩
theorem aqR{l:List Vp}{a:fE}{p q:Int}:(XI l a p q).2=l.any (yt a p q):=by
 unfold XI zo;cases h:l.findIdx? (yt a p q)with
 | none=>
   simp only;symm;rw[qv];exact fun x hx=>by simpa using wI.1 h x hx
 | some i=>
   simp only;symm;obtain⟨h1,h2,_⟩:=ig.1 h;exact tH.2 ⟨_,eY h1,h2⟩
def WJ(A:Option aU)(n c:Nat):Cn:=⟨A,n,c,0,0,bH 6 0,0,0,bH 6 0,nE,nE,0,0,0⟩
@[go_sem]theorem aw9(W:au)(A:Option aU)(n c:Nat):(uJ 29 #[(0,.a A n c)]).J aj W=.ok (.d (WJ A n c).aA) W:=
 TD.bd W _ _ _ _ nD (auj W _ nD) (by
  unfold PN Cn.aA;rw[oO 0 0 _ _ _ _ rfl rfl (by simp)];simp[fD,WJ])
theorem iF.azJ{α:Type}{f:α->Array aC}{s:Nat}(hs:∀x,(f x).j=s){w:au}{B n:Nat}{A:Option aU}{l:List α}(h:iF f s w B A n l){i:Nat}(hi:i<=n):iF f s w B A i (l.d i):=by
 obtain⟨h1,h2,h3⟩:=h;refine⟨by simp;omega,⟨?_,fun hp=>?_⟩,fun a ha h0=>h3 a ha (by omega)⟩
 ·rw[akW f s hs,bL,h1,Nat.min_eq_left hi]
 ·obtain⟨a,ha,hb,hc⟩:=h2.2 (by omega)
  refine⟨a,ha,hb,fun j v hv=>hc j v ?_⟩;rw[<-List.take_append_drop i l,wR];rw[List.getElem?_append_left (by
   rcases aZ j ((l.d i).h fun x=>(f x).a).a with h|h
   ·exact h
   ·rw[aT h]at hv;cases hv)]
  exact hv
theorem akc{x:Vp}{W:au}{b:Nat}(h:dN W b x.aA):(rH (.c (some ⟨b,0,none⟩))).J aj W=.ok (.d x.h.aA) W:=by
 have hs:eF x.aA=20:=Vp.I x;rw[MO W b 0 (of_eq_true (h.M.2.2.1 0 17 (by omega))),h.M.2.2.2 0 17 (by omega),Vp.Dr]
theorem Zq(l:List Vp)(n:Nat)(hl:l.a=n):(yV l=true↔n<=64/\∀i,i<n->Ea l i=true):=by
 unfold yV;subst hl;simp
theorem anr(l:List Vp)(A:Option aU)(n c:Nat)(w:au)(hR:RdV w w.a.j A n l)(hnc:n<=c)(hn:n<=100000):
 aQ aj 108 #[.a A n c] w (gy w (.e (yV l))):=by
 have HR:=ah hR;have HN:=ah hR.1;have HS:=ah (Zq l n hR.1);clear hR;go_enter Tryz.func108,Tryz.ntmps108;by_cases h64:64<n
 ·have q:decide ((64:Int)<n)=true:=by simp;omega
  have HF:=ah (show yV l=false by cases h:yV l;rfl;have:=(HS.i.1 h).1;omega);go_wp2;go_ret;exact⟨by rw[HF.i];rfl,aH _ _⟩
 have q:decide ((64:Int)<n)=false:=by simp;omega
 go_wp2;go_loopw [12] (fun s12 wr=>∃i:Nat,i<=n/\s12=.b .a i/\(∀k,k<i->Ea l k=true)/\aM w.a.j w wr) (fun s12 _=>n-(intOf s12).e)
 case atStart=>exact⟨0,by omega,rfl,fun k hk=>by omega,aH _ _⟩
 case round=>
  obtain⟨i,hin,rfl,hok,hb⟩:=hrel;have FW:=ah hok;have HB:=ah hb;clear hok hb;by_cases hlt:i<n
  ·have hi:(i:Int)<n:=by omega
   have hic:(i:Int)<=c:=by omega
   obtain⟨b,o,hA,hbb,hh,hcl⟩:=iF.fG Vp.I og ((HR.i.S HB.i).lH HB.i.j) hlt;subst hA;obtain⟨x,hx⟩:=dw (l.c i og);rw[<-hx]at hcl;have HX:=ah (show Ea l i=(adw x && !(XI (l.d i) x.h x.aR x.nu).2)by unfold Ea;rw[<-hx,aqR]);clear hx;have Z1:=ah ((Bx.start wr).new x.aA 98);have HPC:=ah (HR.i.go HB.i);go_upto_region 6 with fail
   clear hh hcl;generalize wr.alloc (.D x.aA 98)=w2 at Z1 ⊢;obtain⟨y1,y2,y3,y4⟩:=Z1.i.X.M;have CS:=ah (Lj x.h w2);have ZG:=ah (fun w' (hb:aM w2.a.j w2 w')=>Z1.i.go hb);have HV:=ah (show adw x=(qN x.h&&(x.aR==6||x.aR==17)&&JC x.nu 1 65535)from rfl);cases hv:adw x
   ·
    have FD:=ah (show yV l=false by
     cases h:yV l;rfl;have:=(HS.i.1 h).2 i hlt;rw[HX.i,hv]at this;simp at this)
    rw[hv]at HV;have HZ:=ah HV.i.symm;clear hv HV HX;cases h1:qN x.h
    ·rw[h1]at CS
     go_upto_if 36 with(first|(go_at_call 110;(with_reducible refine CS.i.g ?_);rintro e w3 ⟨rfl,hb⟩;have Z3:=ah (ZG.i _ hb);clear y1 y2 y3 y4;obtain⟨y1,y2,y3,y4⟩:=Z3.i.X.M;clear hb)|(go_at_call 109;(with_reducible refine(yB _ _ _ _).g ?_);rintro e w4 ⟨rfl,rfl⟩))
     go_wp2;go_ret;exact⟨by rw[FD.i];rfl,iZ HB.i Z3.i.R⟩
    ·rw[h1]at CS HZ
     have HZ2:=ah (show((x.aR==6||x.aR==17)&&JC x.nu 1 65535)=false by have:=HZ.i;simpa using this);cases h2:(x.aR==6)<;>cases h3:(x.aR==17)<;>cases h4:JC x.nu 1 65535
     all_goals
      rw[h2,h3,h4]at HZ2
      first
       | (exact absurd HZ2.i (by decide))
       | (have h2':(x.aR != 6) = !(x.aR==6):=rfl
          have h3':(x.aR != 17) = !(x.aR==17):=rfl;rw[h2]at h2';rw[h3]at h3';have CW:=ah (fun W=>yB x.nu 1 65535 W);rw[h4]at CW;go_wp2_with (first|(go_at_call 110;(with_reducible refine CS.i.g ?_);rintro e w3 ⟨rfl,hb⟩;have Z3:=ah (ZG.i _ hb);clear y1 y2 y3 y4;obtain⟨y1,y2,y3,y4⟩:=Z3.i.X.M;clear hb)|(go_at_call 109;(with_reducible refine(CW.i _).g ?_);rintro e w4 ⟨rfl,rfl⟩));go_ret;exact⟨by rw[FD.i];rfl,iZ HB.i Z3.i.R⟩)
   ·rw[hv]at HV HX
    have HZ:=ah HV.i.symm;have HXX:=ah HX.i;clear hv HV HX;have h1:qN x.h=true:=by have:=HZ.i;simp at this;exact this.1.1
    have h4:JC x.nu 1 65535=true:=by have:=HZ.i;simp at this;exact this.2
    have h23:(x.aR==6||x.aR==17)=true:=by have:=HZ.i;simp at this;simpa using this.1.2
    have CW:=ah (fun W=>yB x.nu 1 65535 W);rw[h4]at CW;rw[h1]at CS;clear h1 h4;cases h2:(x.aR==6)<;>cases h3:(x.aR==17)
    all_goals
     rw[h2,h3]at h23
     first
      | (exact absurd h23 (by decide))
      | skip
    all_goals
     clear h23;have h2':(x.aR != 6) = !(x.aR==6):=rfl;have h3':(x.aR != 17) = !(x.aR==17):=rfl;rw[h2]at h2';rw[h3]at h3';go_upto_region 8 with(first|(go_at_call 110;(with_reducible refine CS.i.g ?_);rintro e w3 ⟨rfl,hb⟩;have Z3:=ah (ZG.i _ hb);clear y1 y2 y3 y4;obtain⟨y1,y2,y3,y4⟩:=Z3.i.X.M;clear hb)|(go_at_call 109;(with_reducible refine(CW.i _).g ?_);rintro e w4 ⟨rfl,rfl⟩))
     clear h2 h3 h2' h3' y1 y2 y3 y4;have F4:=ah (fun(w':au) (h:Bx [(wr.a.j,x.aA)] wr w')=>show w'.b ⟨wr.a.j,17,none⟩=some (.b .a x.aR)/\w'.b ⟨wr.a.j,18,none⟩=some (.b .a x.nu)/\(rH (.c (some ⟨wr.a.j,0,none⟩))).J aj w'=.ok (.d x.h.aA) w' from⟨(h.X.M.1 17).trans (Vp.BZ _),(h.X.M.1 18).trans (Vp.Kc _),akc h.X⟩);have CV:=ah (fun(w':au) (h:Bx [(wr.a.j,x.aA)] wr w')=>QX (WJ (some ⟨b,o,none⟩) i c) (l.d i) x.h x.aR x.nu w' ((HPC.i.go h.R).azJ Vp.I (by show i<=n;omega)) (by show i<=100000;omega));obtain⟨r,hr⟩:=dw (XI (l.d i) x.h x.aR x.nu);rw[<-hr]at CV HXX;clear hr;refine xu (Bx.abg ([(wr.a.j,x.aA)]) wr) 14 15 13 5 50 98 og.aA (by kernel_rfl) rfl rfl rfl rfl rfl (by kernel_rfl) (by kernel_rfl) (by kernel_rfl) (by kernel_rfl) (by kernel_rfl) rfl rfl rfl (fun a w=>by simp[go_sem]) (tN rfl) Z3.i.drew ?_;apply rO;refine⟨fun T f hT es ew=>?_,?_⟩
     ·have EW:=ah ew
      have ES:=ah es;have k1:=fun m=>(F4.i _ (ES.i m)).1
      have k2:=fun m=>(F4.i _ (ES.i m)).2.1
      have k3:=fun m=>(F4.i _ (ES.i m)).2.2
      have CF:=ah (fun m=>CV.i _ (ES.i m));clear es ew;simp only[mV,yx,kV,bI,bM,jP,jZ]
      repeat(go_big_quiet_step ((first|(go_at_call 135;(with_reducible refine(CF.i _).g ?_);rintro e w2 ⟨rfl,hb⟩;exact⟨rfl,EW.i _ _ hb⟩))))
      exact gN rfl
     ·intro w9 w8 zT _ hb
      have ZN:=ah ((zT.new og.aA 98).go hb);have hyy:=ah zT;have hy:=zT.R.j;have hyv:=ah (fun p (hp:p∈[(wr.a.j,x.aA)])=>((zT.2 p hp).2.lt:p.1<w9.a.j));generalize w9.a.j=y at *;clear hb zT;have yO:=ZN.i.X.O 0 20 (aY (Vp.I og).symm);refine⟨gZ w8 y 0 r.1.aA,?_,?_⟩
      ·simp[go_sem,yO]
      simp only[Act.put,bJ,bI,bM,jQ,kZ];have Z5:=ah (ZN.i.put (fun p hp=>jN (hyv.i p hp)) r.1.aA (by rw[Vp.I,Vp.I]));clear yO ZN hyy hyv;generalize gZ w8 y 0 r.1.aA=w9 at Z5 ⊢;go_step;go_step;go_step;cases hq:r.2
      ·rw[hq]at HXX
       have HYY:=ah (show Ea l i=true by rw[HXX.i];rfl);go_wp2;go_roundw
       case rel=>exact⟨i+1,by omega,by go_num,fun k hk=>by
   by_cases hki:k=i
   ·rw[hki];exact HYY.i
   ·exact FW.i k (by omega),iZ HB.i Z5.i.R⟩
       case measure=>simp[intOf]<;>omega
      ·rw[hq]at HXX
       have FD:=ah (show yV l=false by
   cases h:yV l;rfl;have:=(HS.i.1 h).2 i hlt;rw[HXX.i]at this;simp at this)
       go_wp2;go_ret;exact⟨by rw[FD.i];rfl,iZ HB.i Z5.i.R⟩
  ·obtain rfl:i=n:=by omega
   have hd:decide ((i:Int)<i)=false:=by simp
   have HF:=ah (HS.i.2 ⟨by omega,FW.i⟩);go_wp2;go_ret;exact⟨by rw[HF.i];rfl,HB.i⟩
end
def Ch(v:Vector Int 6)(k:Nat):Bool:=JC (v.a.c k 0) 0 1000000 && !(k==0&&v.a.c k 0 != 0)
theorem WK(v:Vector Int 6):Ca v=true↔∀k,k<6->Ch v k=true:=by
 unfold Ca Ch JC;simp only[bB,List.all_eq_true,eG,beq_iff_eq,decide_eq_true_eq,Bool.not_eq_true',Bool.and_eq_false_imp,bne_eq_false_iff_eq];constructor
 ·intro h k hk
  exact⟨h.2 k hk,fun e=>by rw[e];exact h.1⟩
 ·intro h
  exact⟨(h 0 (by omega)).2 rfl,fun k hk=>(h k hk).1⟩
def WL(v:aC):Sem aC:=cZ 24 v
@[go_sem ↓]theorem axa(v:aC):cZ 24 v=WL v:=rfl
@[go_sem]theorem aqS(W:au)(b o:Nat)(h:vE W b o 6):(WL (.c (some ⟨b,o,none⟩))).J aj W=.ok (.d (dQ W b o 6)) W:=
 jU W b o 6 _ _ Tryz.underlying24 rfl (by kernel_rfl) h
def avr(v i:aC):Sem aC:=Instr.index 24 v i
@[go_sem ↓]theorem aBK(v i:aC):Instr.index 24 v i=avr v i:=rfl
theorem WM(v:Vector Int 6)(i:Nat)(hi:i<6)(W:au):(avr (.d (Kz v)) (.b .a (i:Nat))).J aj W=.ok (.b .a (v.a.c i 0)) W:=by
 have hp:=pK (P:=aj) (e:=3) (by simp only[gY]) (aar v i hi) W;obtain⟨i0,hi0,hs⟩:∃i0,aj.l 3=some i0/\i0.j=1:=by
  cases h:aj.l 3 with
  | none=>exact absurd h (by have:(aj.l 3).isSome=true:=by kernel_rfl
                             intro e;rw[e]at this;cases this)
  | some i0=>
    have h1:(aj.l 3).map (·.j)=some 1:=by kernel_rfl
    rw[h]at h1;exact⟨i0,rfl,by simpa using h1⟩
 have h1:(0:Int)<=(i:Int)/\(i:Int)<((6:Nat):Int):=by omega
 have hsz:=run_sizeOf (P:=aj) W hi0;have hc1:aj.a 3=1:=by simp[Ai,hi0,hs]
 rw[hc1]at hsz;simp only[avr,Instr.index,asIntOf,jM,oD,gT,dJ Tryz.underlying24,h1,and_self,if_true,hsz,dW,gL,hp]
theorem ant{n:Int}{i:Nat}(h:n<0\/1000000<n\/(i=0/\n≠0)):(JC n 0 1000000 && !(i==0&&n != 0))=false:=by
 rcases h with h|h|⟨rfl,h⟩
 ·have:JC n 0 1000000=false:=by unfold JC;rw[decide_eq_false (by omega)];rfl
  rw[this];rfl
 ·have:JC n 0 1000000=false:=by unfold JC;rw[decide_eq_false (p:=n<=1000000) (by omega)];simp
  rw[this];rfl
 ·simp[h]
theorem ah1(x:Cn)(l:List Vp):yu x l=(Ca x.kD&&yV l&&(JC x.j 2 65537&&lK x.j.e)&&JC x.dX 1 4096&&JC x.kr 1 100&&JC x.fall 1 100&&(!x.Cz.h&&qN x.Cz)&&x.h.h&&JC x.afV 1000 1048576&&JC x.keep 1 100&&JC x.Vz 1 1000):=by
 unfold yu JC;rfl
@[go_sem]theorem Cn.aHI(x:Cn):x.aA[17]? = some (.e x.Cz.h):=by simp[Cn.aA,aG,fE.I,gM,jL];rfl
@[go_sem]theorem Cn.aHJ(x:Cn):x.aA[34]? = some (.e x.h.h):=by simp[Cn.aA,aG,fE.I,gM,jL];rfl
theorem XJ(x:Cn)(l:List Vp)(w:au)(hR:RdV w w.a.j x.qj x.Y l)(hnc:x.Y<=x.ql)(hn:x.Y<=100000):
 aQ aj 44 #[.d x.aA] w (gy w (.e (yu x l))):=by
 have Z:=ah ((Bx.start w).new x.aA 29);have HR:=ah (Z.i.rdR hR);have HO:=ah (ah1 x l);have HI:=ah (WK x.kD);have RI:=ah (WM x.kD);clear hR;go_enter Tryz.func44,Tryz.ntmps44;go_upto_region 1 with fail
 generalize w.alloc (.D x.aA 29)=w2 at *;obtain⟨y1,y2,y3,y4⟩:=Z.i.X.M;go_wp2;go_loop [7] (fun s7=>∃i:Nat,i<=6/\s7=.b .a i/\(∀k,k<i->Ch x.kD k=true)) (fun s7=>6-(intOf s7).e)
 case atStart=>exact⟨0,by omega,rfl,fun k hk=>by omega⟩
 case round=>
  obtain⟨i,hi,rfl,hok⟩:=hrel;have FW:=ah hok;clear hok;by_cases hlt:i<6
  ·have hi2:(i:Int)<6:=by omega
   have ri:=RI.i i hlt;obtain⟨n,hnn⟩:=dw (x.kD.a.c i 0);have HA:=ah (show Ch x.kD i=(JC n 0 1000000 && !(i==0&&n != 0))by unfold Ch;rw[<-hnn]);rw[<-hnn]at ri;clear hnn;have NOI:=ah (show Ch x.kD i=false->yu x l=false from fun h=>by
    have h2:Ca x.kD=false:=by
     cases hh:Ca x.kD;rfl;have:=HI.i.1 hh i hlt;rw[h]at this;cases this
    rw[HO.i,h2];rfl)
   clear y1 y2 y3 y4 HI RI HO HR;go_wp2
   all_goals
    first
    | (go_ret
       refine⟨?_,Z.i.R⟩;rw[NOI.i (HA.i.trans (ant ?_))]
       ·rfl
       ·by_cases g1:n<0
        ·exact .a g1
        ·by_cases g2:1000000<n
         ·exact .b (.a g2)
         ·refine .b (.b ⟨by omega,?_⟩)
          intro e;simp_all)
    | (go_round
       case rel=>exact⟨i+1,by omega,by go_num,fun k hk=>by
        by_cases hki:k=i
        ·rw[hki,HA.i];simp[JC];simp_all
        ·exact FW.i k (by omega)⟩
       case measure=>simp[intOf]<;>omega)
  ·obtain rfl:i=6:=by omega
   have HID:=ah (show Ca x.kD=true from HI.i.2 FW.i);rw[HID.i,Am]at HO;have VP:=ah (anr l x.qj x.Y x.ql w2 HR.i hnc hn);have ZG:=ah (fun w' (hb:aM w2.a.j w2 w')=>Z.i.go hb);have CW:=ah yB;have CS:=ah (fun W=>Lj x.Cz W);obtain⟨vl,hvl⟩:∃b,yV l=b:=⟨_,rfl⟩
   obtain⟨sf,hsf⟩:∃b,qN x.Cz=b:=⟨_,rfl⟩
   rw[hvl]at VP HO;rw[hsf]at CS HO;clear hvl hsf hi hlt HI RI FW HID HR;cases hsz:JC x.j 2 65537
   ·rw[hsz,Dy,Bool.and_false]at HO
    simp only[Dy]at HO;go_wp2_with (first|(go_at_call 108;(with_reducible refine VP.i.g ?_);rintro e w3 ⟨rfl,hb⟩;have Z3:=ah (ZG.i _ hb);clear y1 y2 y3 y4;obtain⟨y1,y2,y3,y4⟩:=Z3.i.X.M;clear hb)|(go_at_call 109;(with_reducible refine(CW.i _ _ _ _).g ?_);rintro e w4 ⟨rfl,rfl⟩))
    all_goals
     go_ret;exact⟨by rw[HO.i];rfl,Z3.i.R⟩
   ·have PR:=ah (show∀W,aQ aj 81 #[.b .a x.j] W fun e W'=>e=.a (.e (lK x.j.e))/\W=W' from fun W=>by
     have h1:2<=x.j/\x.j<=65537:=by unfold JC at hsz;simpa using hsz
     have:=Yj (W:=W) x.j.e (by omega)
     rwa [lJ (by omega)]at this)
    obtain⟨pn,hpn⟩:∃b,lK x.j.e=b:=⟨_,rfl⟩
    rw[hsz,Am]at HO;simp only[hpn]at HO PR;clear hpn;go_wp2_with (first|(go_at_call 108;(with_reducible refine VP.i.g ?_);rintro e w3 ⟨rfl,hb⟩;have Z3:=ah (ZG.i _ hb);clear y1 y2 y3 y4;obtain⟨y1,y2,y3,y4⟩:=Z3.i.X.M;clear hb)|(go_at_call 109;(with_reducible refine(CW.i _ _ _ _).g ?_);rintro e w4 ⟨rfl,rfl⟩)|(go_at_call 81;(with_reducible refine(PR.i _).g ?_);rintro e w5 ⟨rfl,rfl⟩)|(go_at_call 110;(with_reducible refine(CS.i _).g ?_);rintro e w6 ⟨rfl,hb⟩;have Z4:=ah (Z3.i.go hb);clear y1 y2 y3 y4;obtain⟨y1,y2,y3,y4⟩:=Z4.i.X.M;clear hb))
    all_goals
     go_ret;refine⟨?_,by first|exact Z4.i.R|exact Z3.i.R⟩;rw[HO.i];clear HO VP PR CW CS ZG y1 y2 y3 y4;simp_all
section
open Go.RowKit Go.Shelf
attribute [local go_sem] Oper.semAt_some
variable {W W':au} {q g:Nat} {key:Vector UInt8 16} {dX:Int} {s:List (Option Fw)} {l:List Fw}
def Ef(now:Int)(kD:Vector Int 6)(l:List Fw):List Fw:=l.filter fun x=>DY x.xG x.seen now kD
def GQ(l:List Fw)(o:List Fw):List Fw:=o.foldl (fun l x=>yN l x.key) l
theorem Zr:∀(o l:List Fw),GQ l o=l.filter fun x=>!(o.any fun y=>tV y.key x)
 | [],l=>by show l=_;exact(wP.2 (fun _ _=>rfl)).symm
 | y::o,l=>by
   have h:GQ l (y::o)=GQ (yN l y.key) o:=rfl;rw[h,Zr o,yN,List.filter_filter];apply Fz;intro x _;simp[List.any_cons,Bool.and_comm]
theorem abH{now:Int}{kD:Vector Int 6}{l o:List Fw}(hl:wE dX l)(ho:o.Perm (Ef now kD l)):GQ l o=LX now kD l:=by
 rw[Zr];unfold LX;apply Fz;intro x hx;congr 1;have hm:∀y,y∈o↔y∈l/\DY y.xG y.seen now kD=true:=fun y=>by rw[ho.mem_iff];unfold Ef;exact mH
 cases hc:DY x.xG x.seen now kD with
 | true=>rw[tH];exact⟨x,(hm x).2 ⟨hx,hc⟩,by simp[tV]⟩
 | false=>
   rw[qv];intro y hy hk;obtain⟨h1,h2⟩:=(hm y).1 hy;have hk:x.key=y.key:=by simpa[tV]using hk
   have e1:=hl.Vv h1;have e2:=hl.Vv hx;rw[hk]at e2;rw[e1]at e2;injection e2 with e2
   rw[e2,hc]at h2;cases h2
theorem yC{F:List Nat}{base n size:Nat}{e:bF}{v:aC}{xs:List aC}(h:W.c base e size v n xs)(hf:jC F W W')(hn:∀k,v.f=some k->k∉F):W'.c base e size v n xs:=by
 refine⟨h.1,?_⟩;rcases h.2 with h0|⟨g,cap,cur,hv,hb,hg,hr⟩
 ·exact .a h0
 ·exact .b ⟨g,cap,cur,hv,hb,by rw[hf.block g (bW.1 hg).1 (hn g (by rw[hv];rfl))];exact hg,hr⟩
theorem anu{W:au}{b:Nat}{v:Vector Int 6}(h:dN W b (Kz v)):(WL (.c (some ⟨b,0,none⟩))).J aj W=.ok (.d (Kz v)) W:=by
 have hs:eF (Kz v)=6:=jL v;rw[aqS W b 0 (of_eq_true (h.M.2.2.1 0 6 (by omega))),h.M.2.2.2 0 6 (by omega)];have:(Kz v).m 0 6=Kz v:=by have:=jL v;rw[<-this];simp
 rw[bl,this]
def Zt(now:Int)(kD:Vector Int 6)(pre:List OkF):List Fw:=Ef now kD (pre.map (·.1))
theorem ad9(T:KL W q g key dX s l)(now:Int)(kD:Vector Int 6):
 aQ aj 75 #[.c (some ⟨q,0,none⟩),.b .a now,.d (Kz kD)] W fun e w'=>(∃A c,e=.a (.a A (Ef now kD l).a c))/\(∃s',KL w' q g key dX s' (LX now kD l)/\s'.a=s.a)/\jC [q,g] W w':=by
 refine(ny (n:=8)).1 ?_;have hs:=T.w.sz;have hlt:=T.w.lt;obtain⟨i0,hi,hz0,hz1,hzb⟩:=afJ;have HT:=ah T;clear T;refine rz Tryz.func75 rfl trivial ?_ rfl;have hfn:∀f,nP.fn f:=fun _=>trivial
 simp only[Tryz.ntmps75,dP,bD,gQ,kM,kN,gH,gI,iQ,gX,dG,iA];gi_wp2_with (gi_at_call 132;refine(ny.2 (Qj q _)).g ?_;rintro e w' ⟨rfl,rfl⟩);have hw1:(W.alloc (.D #[.b .a now] 3)).a.j=W.a.j+1:=by simp
 have hw2:((W.alloc (.D #[.b .a now] 3)).alloc (.D (Kz kD) 24)).a.j=W.a.j+1+1:=by simp
 have hw3:(((W.alloc (.D #[.b .a now] 3)).alloc (.D (Kz kD) 24)).alloc (.D #[.a none 0 0] 34)).a.j=W.a.j+1+1+1:=by simp
 have Z4:=ah (((((Bx.start W).new #[.b .a now] 3).new (Kz kD) 24).new #[.a none 0 0] 34).new #[.c (some ⟨q,0,none⟩)] 121);have bO:=(Boxed.new ((W.alloc (.D #[.b .a now] 3)).alloc (.D (Kz kD) 24)) 34 (.a none 0 0)).alloc (.D #[.c (some ⟨q,0,none⟩)] 121);rw[hw3,hw2,hw1]at Z4;rw[hw2]at bO;have hs4:((((W.alloc (.D #[.b .a now] 3)).alloc (.D (Kz kD) 24)).alloc (.D #[.a none 0 0] 34)).alloc (.D #[.c (some ⟨q,0,none⟩)] 121)).a.j=W.a.j+1+1+1+1:=by simp
 generalize(((W.alloc (.D #[.b .a now] 3)).alloc (.D (Kz kD) 24)).alloc (.D #[.a none 0 0] 34)).alloc (.D #[.c (some ⟨q,0,none⟩)] 121)=W4 at Z4 hs4 bO ⊢;clear hw1 hw2 hw3;refine yI rfl (by omega) (gf:=202) (lb:=#[.c (some ⟨W.a.j+1+1+1,0,none⟩)]) rfl trivial (fun args w=>rfl)
  (Li nP 7 trivial rfl (by omega) (W.a.j+1+1+1) W.a.j W4 (by omega) (by omega) (Z4.i.X.M.1 0) (HT.i.go Z4.i.R) hlt) (fun h k=>Below.trans h k) (vL (by omega)) (aH _ _) (fun _=>rfl)
  (fun(pre:List OkF) X=>((∃v,Boxed X (W.a.j+1+1) 34 v/\X.c (W.a.j+1+1) 86 41 v (Zt now kD pre).a ((Zt now kD pre).h fun x=>x.aA.a)/\True)/\dN X W.a.j #[.b .a now]/\dN X (W.a.j+1) (Kz kD))/\aM W.a.j W X)
  (fun _ _ _=>False)
  (OwnFrom.and (OwnFrom.and (Own.from (holdsRow_own (W.a.j+1+1) (W.a.j+1+1) 34 86 41 (fun pre:List OkF=>(Zt now kD pre).a) (fun pre:List OkF=>(Zt now kD pre).h fun x=>x.aA.a) (fun _ _=>True)) _) (fun s X Y row hs hg hr=>⟨zD _ _ () X Y row hs.1 hg (fun r e=>(hr r e).2),zD _ _ () X Y row hs.2 hg (fun r e=>(hr r e).2)⟩)) (yT (ay _) (by omega)))
  (fun _ _ _ _ _ hs _ _=>hs)
  ⟨⟨⟨_,bO,fB _ _ _ _,trivial⟩,Z4.i.b3,Z4.i.b2⟩,Z4.i.R⟩
  (fun x a' X=>∃Bq,W.a.j+1+1<Bq/\dN X Bq x.1.aA/\a'={tmps:=#[.c (some ⟨q,0,none⟩),.b .a now,.d (Kz kD),undef,.c (some ⟨W.a.j,0,none⟩),.c (some ⟨W.a.j+1,0,none⟩),.a none 0 0,.c (some ⟨W.a.j+1+1,0,none⟩),.c (some ⟨Bq,0,none⟩),undef,undef,.c (some ⟨q,0,none⟩),.func (.func 202) #[] #[.c (some ⟨W.a.j+1+1+1,0,none⟩)],.d x.1.aA,undef,undef,undef,undef,undef,undef,undef,undef,undef,undef,undef,undef,undef,undef,undef,undef,undef,undef,undef,undef,undef,undef,undef,undef,undef],defers:=[]})
  (fun x a' _ X Y row hs hg hr=>by obtain⟨Bq,h1,h2,h3⟩:=hs;exact⟨Bq,h1,zD Bq x.1.aA () X Y row h2 hg (fun r e=>(hr r e).2),h3⟩)
  ?assign ?body ?done ?stop
 case assign=>
  rintro q' pre x X K ⟨⟨⟨v,hv,hrow,_⟩,h1,h2⟩,hB⟩ hK;gi_wp2;refine hK _ _ ((KeepsOthers.alloc _ _).from _) ((aH _ X).alloc hB.j _) ⟨⟨⟨v,hv.alloc _,hrow.alloc _,trivial⟩,h1.alloc _,h2.alloc _⟩,hB.alloc hB.j _⟩ ⟨X.a.j,hv.lt,dN.new X _ _,rfl⟩
 case body=>
  rintro q' pre x a' X hq ⟨r,hr⟩ ⟨⟨⟨v,hv,hrow,_⟩,h1,h2⟩,hB⟩ ⟨Bq,hBq,bX,rfl⟩ hlt';have HSL:=ah (show(Zt now kD pre).a<=100000 by
   have e1:(Zt now kD pre).a<=pre.a:=by unfold Zt Ef;exact aP (oU _ _) (by simp)
   omega)
  have DV:=ah (show Zt now kD (pre++[x])=if DY x.1.xG x.1.seen now kD then Zt now kD pre++[x.1]else Zt now kD pre by
   unfold Zt Ef;rw[iW,List.filter_append];simp only[kK,pU,List.filter_cons,List.filter_nil];split<;>simp)
  obtain⟨st,hst⟩:=dw (DY x.1.xG x.1.seen now kD);have CS:=ah (aiO (s:=x.1.xG) (seen:=x.1.seen) (now:=now) (v:=kD) (W:=X));rw[<-hst]at CS DV;have f38:=(bX.M.1 38).trans (Fw.afH x.1);have f39:=(bX.M.1 39).trans (Fw.afI x.1);have f0:=h1.M.1 0;have l6:=anu h2;have HB:=ah hB;have H1:=ah h1;have H2:=ah h2;have HX:=ah bX;have HV:=ah hv;have HR:=ah hrow;clear hst hB h1 h2 bX hv hrow;cases st
  ·gi_wp2_with (gi_at_call 150;refine(Ie q' (ny.2 CS.i)).g ?_;rintro e w1 ⟨rfl,hb⟩;have Ig:=ah hb;clear hb)
   refine⟨Fh (jC.jA (F:=[]) Ig.i) (by intro k hk;cases hk),(Ig.i.g HB.i.j),⟨⟨v,Boxed.ama HV.i Ig.i HV.i.lt,?_,trivial⟩,H1.i.go Ig.i,H2.i.go Ig.i⟩,HB.i.trans (Ig.i.g HB.i.j)⟩;rw[show Zt now kD (pre++[x])=Zt now kD pre from DV.i];exact fQ HR.i Ig.i
  ·have hby:((Zt now kD pre).a+1)*i0.bytes<=140737488355328:=aP (gP (show(Zt now kD pre).a+1<=100002 by have:=HSL.i;omega) hzb) (by omega)
   have HN1:=ah (show x.1.aA.a.a=1*41 by simp[Fw.I]);have HNC:=ah (fun(W:au) (j:Nat) (u:aC) (hu:x.1.aA.a[j]? = some u)=>show(W.alloc (.D x.1.aA 86)).b ((⟨W.a.j,0,none⟩:aU).add j)=some u by
    rw[Addr.add_mid,bl,ni,<-Array.getElem?_toList];exact hu)
   have FW:=ah (show∀u∈x.1.aA.a,u.h=true from fun u hu=>by have:=Fw.cO x.1;rw[Array.all_eq_true']at this;exact this u (by simpa using hu));gi_wp2_with (first
    | (gi_at_call 150;refine(Ie q' (ny.2 CS.i)).g ?_;rintro e w1 ⟨rfl,hb⟩;have Ig:=ah hb;have HV1:=ah (Boxed.ama HV.i hb HV.i.lt);have HR1:=ah (fQ HR.i hb);have l1:=kJ (HX.i.go hb);have c1:=HV1.i.cell;clear hb l6 f0 f38 f39)
    | (gi_at_builtin;go_loud (refine wpListIn_append_own _ rfl _ _ 34 rfl (W.a.j+1+1) 86 i0 (.d ko.aA) 41 i0.bytes Tryz.underlying34 hi hz0 hz1 rfl (by simp[bZ,Fw.I]) (by decide) _ _ _ rfl (HR1.i.alloc _) ⟨w1.a.j,0,none⟩ 1 1 x.1.aA.a rfl HN1.i (HNC.i w1) FW.i (by have:=HSL.i;unfold maxLen;omega) hby (by have:=HV1.i.lt;simp;omega) ?_;intro v' w2 hown' hgrow _;obtain⟨g',cap',rfl⟩:=ownsRow_succ hown';obtain⟨hv1,hv2,hr2,hk2,hb2⟩:=HV1.i.appended (by decide) HR1.i (by have:=HV1.i.lt;omega) (ay _) hown' hgrow;have hc1:=hv1.cell;have hf1:=hv1.frozen)))
   refine⟨(Fh (jC.jA (F:=[]) Ig.i) (by intro k hk;cases hk)).trans (hk2.from _),(Ig.i.g HB.i.j).trans (hb2.g (by omega)),⟨⟨_,hv2,?_,trivial⟩,(H1.i.go Ig.i).S hb2 (by omega),(H2.i.go Ig.i).S hb2 (by omega)⟩,(HB.i.trans (Ig.i.g HB.i.j)).trans (hb2.g (by omega))⟩;rw[show Zt now kD (pre++[x])=Zt now kD pre++[x.1]from DV.i,aS,wR];simpa using hr2
 case done=>
  rintro D ys X hD hS ⟨⟨⟨v,hv,hrow,_⟩,h1,h2⟩,hB⟩ hK;rename_i K0 KA TT;refine KA _ _ (wpIn_wide.2 ?_);have hO:(Zt now kD ys).Perm (Ef now kD l):=by
   unfold Zt;rw[hS];exact HT.i.r.Pm.filter _
  obtain⟨o,ho⟩:=dw (Zt now kD ys);rw[<-ho]at hO hrow;obtain⟨A,c,rfl,_⟩:=jw hrow;have hB2:=hB;have T0:=ah (HT.i.go hB);have cV:=hv.cell;have HO:=ah hO;have HB:=ah hB;have HD:=ah hD;have HK:=ah hK;have HV:=ah hv;have Rj:=ah hrow;have HLO:=ah (show o.a<=100000 by
   have e1:=hO.t;have e2:(Ef now kD l).a<=l.a:=oU _ _;have e3:=HT.i.r.Pm.t;have e4:=Fg s;omega)
  obtain⟨m,hm⟩:=dw o.a;rw[<-hm]at Rj HV cV HLO;have HM:=ah hm;clear hO ho hD hK hv hrow hB hB2 h1 h2 hS hm KA K0 TT;have HOF:=ah (fun w2 (hf:jC [q,g] X w2)=>yC Rj.i hf (fun b e=>by have:=(Rj.i.lt b e).1;simp;omega));have HVF:=ah (fun w2 (hf:jC [q,g] X w2)=>show Boxed w2 (W.a.j+1+1) 34 (.a A m c)from(hf.block _ HV.i.lt (by simp;omega)).trans HV.i);go_wp2_with fail;go_loopw [27] (fun v wr=>∃k:Nat,k<=m/\v=.b .a k/\(∃s',KL wr q g key dX s' (GQ l (o.d k))/\s'.a=s.a)/\jC [q,g] X wr) (fun v _=>m-(intOf v).e)
  case atStart=>exact⟨0,ji _,rfl,⟨s,T0.i,rfl⟩,jC.refl _ _⟩
  case round=>
   obtain⟨k,hk,rfl,⟨s',hT,hsl⟩,hfr⟩:=hrel;by_cases hlt3:k<m
   ·have hki:(k:Int)<m:=by omega
    have i1:=jV ((k:Int)+1) (by have:=HLO.i;omega);have hR:=iF.gV (f:=Fw.aA) HM.i.symm (HOF.i wr hfr);obtain⟨b,o0,rfl,hbl,a1,a2⟩:=hR.fG Fw.I ko hlt3;obtain⟨y,hy⟩:=dw (o.c k ko);rw[<-hy]at a2;have hcut:GQ l (o.d (k+1))=yN (GQ l (o.d k)) y.key:=by
     rw[dV (by rw[<-HM.i];exact hlt3)];unfold GQ;rw[ze,hy,av,aD (by rw[<-HM.i];exact hlt3)];rfl
    have aEE:=ah hcut;have BY:=dN.new wr y.aA 86;have lk:=oZ BY;have hba:=(aH wr.a.j wr).alloc (ay _) (.D y.aA 86);have CD:=ah (WI (hT.go hba) y.key);have HFR:=ah (hfr.S hba hfr.j);have HSL:=ah hsl;clear hy hcut BY hba hT hfr hsl hR hbl;go_wp2_with (go_at_call 128;(with_reducible refine CD.i.g ?_);rintro e w2 ⟨rfl,⟨s2,T2,hs2⟩,F2⟩;have T3:=ah T2;have S3:=ah hs2;have F3:=ah F2;clear T2 hs2 F2 lk a1 a2);go_roundw
    case rel=>exact⟨k+1,by omega,by simp,⟨s2,by rw[aEE.i];exact T3.i,by rw[S3.i,HSL.i]⟩,HFR.i.pO F3.i⟩
    case measure=>simp[intOf];omega
   ·obtain rfl:k=m:=by omega
    have hd:decide ((k:Int)<k)=false:=by simp
    have hfull:GQ l (o.d k)=LX now kD l:=by
     rw[aL (by rw[<-HM.i];exact ay _)];exact abH HT.i.ok HO.i
    rw[hfull]at hT;have cV2:=(HVF.i wr hfr).cell;have HBX:=ah (HVF.i wr hfr);have HOW:=ah (HOF.i wr hfr);have SF:=ah (Lh (Ef now kD l) o dX (HT.i.ok.sub List.filter_sublist) HO.i (by have:=HLO.i;have:=HM.i;omega) wr (W.a.j+1+1) A c (by rw[<-HM.i];exact HOW.i));rw[<-HM.i]at SF;have HTT:=ah hT;have HSS:=ah hsl;have HFR:=ah hfr;have HLS:=ah (show k=(Ef now kD l).a by rw[HM.i];exact HO.i.t);clear hT hsl hfr hfull cV;go_wp2_with (go_at_call 151;(with_reducible refine SF.i.g ?_);rintro e w2 ⟨rfl,ho2,hg2⟩;have HG2:=ah hg2;have cV3:=(HBX.i.kept hg2 (HBX.i.not_row (by decide) HOW.i)).cell;clear ho2 hg2 cV2);have HDB:some D≠(bC A k c).f:=fun e=>by
     rcases Rj.i.2 with⟨h0,_⟩|⟨g',cap,cur,hv,_,hg,_⟩
     ·rw[h0]at e;cases e
     ·rw[hv]at e
      have e2:D=g':=by simpa[jJ]using e
      rw[<-e2,HK.i]at hg;cases hg
    have hDX:D<X.a.j:=(bW.1 HK.i).1;have hXW:=HB.i.j;have hfs:=HFR.i.j;have hDq:D≠q/\D≠g:=by have:=HD.i;omega
    have HDK:=ah (show w2.a[D]? = some (.deferred (some []))from(HG2.i.block D (by omega) HDB).trans ((HFR.i.block D hDX (by simp;omega)).trans HK.i));have hbx:∀b c',dN wr b c'->b<W.a.j->dN w2 b c':=fun b c' h hb=>by
     obtain⟨t,ht⟩:=h;exact⟨t,(HG2.i.block b (by omega) (fun e=>by have:=(Rj.i.lt b e.symm).1;omega)).trans ht⟩
    have hPB:=vL (w:=W) (ay _) w2 D;refine⟨by simp,.a ⟨_,_,rfl,uE HDK.i,?_⟩⟩;refine⟨_,results_tmp rfl _ _ _,⟨A,c,by rw[<-HLS.i];rfl⟩,⟨s',⟨⟨WG (hbx _ _ HTT.i.w.h hlt.1) HDK.i _,WG (hbx _ _ HTT.i.w.sl hlt.2) HDK.i _,HTT.i.w.ne,HTT.i.w.sz⟩,HTT.i.r,HTT.i.ok⟩,HSS.i⟩,?_⟩;have F1:jC [q,g] W wr:=(jC.jA HB.i).pO HFR.i;have F2:jC [q,g] W w2:=F1.grown HG2.i (fun b e=>.b (by have:=(Rj.i.lt b e).1;omega));exact F2.S (hPB _ _ (by have:=HD.i;omega) HDK.i rfl rfl) (ay _)
 case stop=>
  rintro D c pre X _ _ h _;exact h.elim
end
theorem abI{g n:Nat}{q:List Nat}{ch ch':Nat->Nat->Nat}{m:Mg}{i:Nat}(h:ch i=ch' i):sI g n q ch m i=sI g n q ch' m i:=by
 unfold sI;rw[h]
theorem aea{n:Nat}{q:List Nat}{ch ch':Nat->Nat->Nat}(hq:q≠[])(h:∀i,i<q.a->ch i=ch' i):EK n q ch=EK n q ch':=by
 have:∀j,vV (lX q) n q ch j=vV (lX q) n q ch' j:=by
  intro j
  induction j with
  | zero=>rfl
  | succ j ih=>
    unfold vV;rw[ih,abI (h _ (fH _ (List.length_pos_iff.2 hq)))]
 unfold EK;rw[this]
def akd(key:Vector UInt8 16)(n:Nat)(x:pE):Tr:=⟨x.q,0,(Dm key x.E n:Nat),(Au key x.E n:Nat),0⟩
theorem pX{α β:Type}(f:α->β)(l:List α)(i:Nat)(d:β)(e:α)(hi:i<l.a):(l.map f).c i d=f (l.c i e):=by
 rw[av,av,List.getElem?_map,aD hi];rfl
theorem ake(key:Vector UInt8 16)(n:Nat)(r:List pE)(hr:r≠[])(h0:∀x∈r,0<x.q):
 FiL (lX (r.map fun x=>x.q.e)) n (r.map fun x=>x.q.e) (r.map fun x=>Dm key x.E n) (r.map fun x=>Au key x.E n) ⟨(r.map fun x=>x.q.e).map fun _=>0,eu n (-1),n⟩ (r.map (akd key n)):=by
 refine⟨by simp,by simp,fun i hi=>?_⟩;rw[bV]at hi;have hm:r.c i lq∈r:=by rw[av,aD hi];exact eY _
 have hx:=h0 _ hm;rw[pX (akd key n) r i zy lq hi,pX _ r i 0 lq hi,pX _ r i 0 lq hi,pX _ r i 0 lq hi];have hz:((r.map fun x=>x.q.e).map fun _=>0).c i 0=0:=by
  rw[pX _ _ i 0 0 (by simpa using hi)]
 refine⟨?_,rfl,rfl,?_,?_,0,rfl,ji _,fun t ht=>absurd ht (Nat.not_lt_zero _)⟩
 ·show(r.c i lq).q=_
  omega
 ·show(0:Int)=_
  rw[hz];rfl
 ·show((r.map fun x=>x.q.e).map fun _=>0).c i 0<_
  rw[hz];obtain⟨j,hj,e⟩:=Dn (q:=r.map fun x=>x.q.e) (by simpa using hr) (by
   intro y hy;obtain⟨x,hx2,rfl⟩:=iX.1 hy;have:=h0 x hx2;omega)
  rw[<-e];rw[bV]at hj;rw[pX _ r j 0 lq hj];have hm2:r.c j lq∈r:=by rw[av,aD hj];exact eY _
  have:=h0 _ hm2;omega
def yD(l:List pE):List pE:=l.filter fun x=>decide (x.q≠0)
theorem agE{l:List pE}{k:Nat}{x:pE}(hx:x=l.c k lq)(hk:k<l.a):yD (l.d (k+1))=yD (l.d k)++(if x.q=0 then []else [x]):=by
 have e:l.d (k+1)=l.d k++[x]:=by rw[hx];exact(lW lq l k hk).symm
 rw[e];unfold yD;rw[List.filter_append];congr 1;by_cases h:x.q=0
 ·rw[if_pos h,List.filter_cons_of_neg (by simp[h])];rfl
 ·rw[if_neg h,List.filter_cons_of_pos (by simp[h])];rfl
theorem aeb(key:Vector UInt8 16)(n:Nat)(l:List pE)(h:yD l≠[]):uw key n l=⟨(yD l).map (·.E),EK n ((yD l).map fun x=>x.q.e) (Il ((yD l).map fun x=>Dm key x.E n) ((yD l).map fun x=>Au key x.E n) n)⟩:=by
 unfold uw;simp only;rw[if_neg (show¬(l.filter fun x=>decide (x.q≠0))=[]from h)];congr 1;refine aea (fun e=>h (List.map_eq_nil_iff.1 e)) fun i hi=>?_
 rw[bV]at hi;funext t;have hi2:i<(yD l).a:=hi;unfold chF Il;rw[pX (fun x=>Dm key x.E n) _ i 0 lq hi2,pX (fun x=>Au key x.E n) _ i 0 lq hi2];have e:((l.filter fun x=>decide (x.q≠0)).map (·.E)).c i []=((yD l).c i lq).E:=pX _ _ i _ lq hi2;rw[e]
theorem QY(key:Vector UInt8 16)(n:Nat)(l:List pE)(h:yD l=[]):uw key n l=⟨[],[]⟩:=by
 unfold uw;simp only;rw[if_pos (show(l.filter fun x=>decide (x.q≠0))=[]from h)]
def nmC(s:List UInt8):Array aC:=#[.g (bP s)]
theorem Ot(s:List UInt8):(nmC s).j=1:=rfl
theorem anv:∃i:nS,aj.l 9=some i/\i.zero=some (.g {data:=#[]})/\i.j=1/\i.bytes<=400:=by
 cases h:aj.l 9 with
 | none=>exact absurd h (by have:(aj.l 9).isSome=true:=by kernel_rfl
                            intro e;rw[e]at this;cases this)
 | some i=>
   have h1:(aj.l 9).map (·.j)=some 1:=by kernel_rfl
   have h2:(aj.l 9).map (fun i=>decide (i.bytes<=400))=some true:=by kernel_rfl
   have h3:(aj.l 9).map (·.zero)=some (some (.g {data:=#[]})):=by kernel_rfl
   rw[h]at h1 h2 h3;simp at h1 h2 h3;exact⟨i,rfl,h3,h1,h2⟩
theorem ah2:aaY 69 9 nmC 1:=by
 obtain⟨i0,hi0,hz0,hz1,hzb⟩:=anv;exact⟨i0,_,lT,hi0,hz0,hz1,rfl,by omega,by omega,Ot,fun s=>by simp[nmC,dx]⟩
theorem anw:∃i:nS,aj.l 155=some i/\i.zero=some (.d zy.aA)/\i.j=5/\i.bytes<=400:=by
 cases h:aj.l 155 with
 | none=>exact absurd h (by have:(aj.l 155).isSome=true:=by kernel_rfl
                            intro e;rw[e]at this;cases this)
 | some i=>
   have h1:(aj.l 155).map (·.j)=some 5:=by kernel_rfl
   have h2:(aj.l 155).map (fun i=>decide (i.bytes<=400))=some true:=by kernel_rfl
   have h3:(aj.l 155).map (·.zero)=some (some (.d zy.aA)):=by kernel_rfl
   rw[h]at h1 h2 h3;simp at h1 h2 h3;exact⟨i,rfl,h3,h1,h2⟩
theorem aqT:aaY 149 155 Tr.aA 5:=by
 obtain⟨i0,hi0,hz0,hz1,hzb⟩:=anw;exact⟨i0,_,Tryz.underlying149,hi0,hz0,hz1,Tr.I zy,by omega,by omega,Tr.I,Tr.cO⟩
def aec(n:Nat)(ps:Array (Nat×aC)):Sem aC:=bK 69 n ps
@[go_sem ↓]theorem azN(n:Nat)(ps:Array (Nat×aC)):bK 69 n ps=aec n ps:=rfl
@[go_sem]theorem avs(w:au)(s:List UInt8):(aec 1 #[(0,.g (bP s))]).J aj w=.ok (.a (some ⟨w.a.j,0,none⟩) 1 1) (w.alloc (.D (nmC s) 9)):=by
 obtain⟨i0,hi0,hz0,hz1,hzb⟩:=anv;simp[aec,bK,dJ lT,zeroValue,sizeOf,typeInfo,hi0,hz0,hz1,fD,newRow,bZ,afN,nmC]
def asF(n:Nat)(ps:Array (Nat×aC)):Sem aC:=bK 149 n ps
@[go_sem ↓]theorem azO(n:Nat)(ps:Array (Nat×aC)):bK 149 n ps=asF n ps:=rfl
@[go_sem]theorem avt(w:au)(x:Tr):(asF 1 #[(0,.d x.aA)]).J aj w=.ok (.a (some ⟨w.a.j,0,none⟩) 1 1) (w.alloc (.D x.aA 155)):=by
 obtain⟨i0,hi0,hz0,hz1,hzb⟩:=anw;exact rR w _ _ i0 _ 5 Tryz.underlying149 hi0 hz0 hz1 (Tr.I _) (by omega) (by omega) _ (Tr.I x)
@[go_sem]theorem azP(W:au)(uM offset skip:Int):(uJ 155 #[(0,.b .a uM),(2,.b .a offset),(3,.b .a skip)]).J aj W=.ok (.d (Tr.mk uM 0 offset skip 0).aA) W:=
 kTr.bd W _ _ _ _ DR (aEo W _ DR) (by
  show fD _ (#[aJ .a 0,.b .a 0,.b .a 0,.b .a 0,.b .a 0] ++ #[]) [(0,.b .a uM),(2,.b .a offset),(3,.b .a skip)]=_;rw[oO 0 0 _ _ _ _ rfl rfl (by simp),oO 2 2 _ _ _ _ rfl rfl (by simp),oO 3 3 _ _ _ _ rfl rfl (by simp)];simp[fD,Tr.aA])
theorem WO{α:Type}{f:α->Array aC}{sz:Nat}{e t:bF}{L:List (Nat×Array aC)}{w0 W:au}{v:aC}{l ys:List α}(T:aaY t e f sz){ops:Array je}{rest:List je}{o:je}{a:Act}{Q:Exit->Act->au->Prop}(hgd:o.guard=none)(s x:Operand)
 (ho:o.op=.call {callee:=.builtin .append,args:=#[s,x],argTypes:=#[t,t]}) (hs:a.eval s=v) (H:Rz f sz e L w0 W v l) {C:Nat} {A:Option aU} {m c:Nat} (hx:a.eval x=.a A m c) (hr:iF f sz W C A m ys)
 (hlen:l.a+m<=1000000)
 (h:∀A' n' c' w',Rz f sz e L w0 w' (.a A' n' c') (l++ys)->W.d w' v.f->((bC A' n' c').f=v.f\/(bC A' n' c').f=some W.a.j)->wpList aj ops Q rest (a.put o.Y (.a A' n' c')) w'):wpList aj ops Q (o::rest) a W:=by
 refine wpList_plain hgd fun K hK=>?_
 obtain⟨i,z,ht,hi,hz,h1,h2,h3,h4,h5,h6⟩:=T;have hm:=hr.1;refine JU W s x t ho w0.a.j e i z sz i.bytes ht hi hz h1 rfl h2 h3 v l.a _ hs H.vD C A m c _ hx hr.2.1 (Bu f h6 ys) (by unfold maxLen;omega) (aP (gP hlen h4) (by omega)) H.R.j ?_;intro v1 w1 k1 k2 k3;rw[ab9,<-hm,<-aS]at k1;have hk:=H.grown k2 k1 k3;obtain⟨A',c',rfl⟩:=hk.Cy;exact hK _ _ (h A' _ c' w1 hk k2 k3)
def JD(v1 v2:aC):Prop:=∀g,v1.f=some g->v2.f≠some g
theorem JD.symm{v1 v2:aC}(h:JD v1 v2):JD v2 v1:=fun g h1 h2=>h g h2 h1
theorem QZ{w w':au}{base size n:Nat}{e:bF}{v1 v1' v2:aC}{xs:List aC}(h2:w.c base e size v2 n xs)(ha:JD v1 v2)(hg:w.d w' v1.f)(hat:v1'.f=v1.f\/v1'.f=some w.a.j):
 w'.c base e size v2 n xs/\JD v1' v2:=by
 refine⟨h2.kept hg ?_,fun g h1 hh=>?_⟩
 ·cases hv:v2.f with
  | none=>exact .a rfl
  | some g=>exact .b (fun e'=>ha g e'.symm hv)
 ·rcases hat with h|h
  ·exact ha g (h ▸ h1) hh
  ·rw[h]at h1
   injection h1 with h1
   have:=(h2.lt g hh).2;omega
theorem Rz.anx{α:Type}{f:α->Array aC}{sz:Nat}{e:bF}{L:List (Nat×Array aC)}{w0 W W':au}{v v1 v1':aC}{l:List α}(h:Rz f sz e L w0 W v l)(ha:JD v1 v)(hg:W.d W' v1.f)(hat:v1'.f=v1.f\/v1'.f=some W.a.j)
 (hb:aM w0.a.j w0 W') (hL:∀p∈L,dN W' p.1 p.2):Rz f sz e L w0 W' v l/\JD v1' v:=
 ⟨⟨(QZ h.vD ha hg hat).1,hb,fun p hp=>⟨hL p hp,(h.I p hp).2⟩⟩,(QZ h.vD ha hg hat).2⟩
structure Tc where
 qF:Option aU
 mM:Nat
 zA:Nat
 oP:Option aU
 lM:Nat
 vY:Nat
def Tc.aA(x:Tc):Array aC:=#[.a x.qF x.mM x.zA,.a x.oP x.lM x.vY]
theorem Tc.I(x:Tc):x.aA.j=2:=by simp[Tc.aA]
theorem Tc.cO(x:Tc):x.aA.all (·.h)=true:=by simp[Tc.aA,dx]
@[go_sem]theorem Tc.eF(x:Tc):eF x.aA=2:=Tc.I x
@[go_sem]theorem Tc.Ci(x:Tc):x.aA[0]? = some (.a x.qF x.mM x.zA):=by simp[Tc.aA,aG]
@[go_sem]theorem Tc.wG(x:Tc):x.aA[1]? = some (.a x.oP x.lM x.vY):=by simp[Tc.aA,aG]
def Da:Tc:=⟨none,0,0,none,0,0⟩
@[go_sem]theorem azQ:cK #[bC none 0 0,bC none 0 0]=cK Da.aA:=rfl
@[go_sem]theorem avv:eO #[bC none 0 0,bC none 0 0] 72=eO Da.aA 72:=rfl
theorem kTc:oW 72 2 Da.aA:=⟨⟨_,FC,rfl⟩,by kernel_rfl,by kernel_rfl,Tc.I _⟩
@[go_sem ↓]theorem aK'(v:aC):cZ 72 v=xK 72 v:=rfl
@[go_sem ↓]theorem aLa(v x:aC):eU 72 v x=zk 72 v x:=rfl
@[go_sem]theorem aEF(W:au)(c:Array aC)(x:Tc)(b:Nat)(hb:b=W.a.j)(hc:eF c=2):(zk 72 (.c (some ⟨b,0,none⟩)) (.d x.aA)).J aj (W.alloc (.D c 72))=.ok () (W.alloc (.D x.aA 72)):=kTc.stN W c x.aA b hb hc (Tc.I x) (Tc.cO x)
@[go_sem]theorem aHL(W:au)(b o:Nat)(x:Tc)(h:W.O b o 2):(zk 72 (.c (some ⟨b,o,none⟩)) (.d x.aA)).J aj W=.ok () (gZ W b o x.aA):=kTc.st W b o x.aA h (Tc.I x) (Tc.cO x)
@[go_sem ↓]theorem aLb(ps:Array (Nat×aC)):fM 72 ps=uJ 72 ps:=rfl
theorem aEG(w:au)(fs:Array oh)(h:aj.underlying 72=some (.struct fs)):(iG (fun f=>Prod.mk f.Z <$> sizeOf f.type) fs:Sem (Array (Nat×Nat))).J aj w=.ok #[(0,1),(1,1)] w:=by
 have e:=FC;rw[h]at e;cases e;show _=_
 kernel_rfl
@[go_sem]theorem azR(W:au)(qF:Option aU)(mM:Nat)(zA:Nat)(oP:Option aU)(lM:Nat)(vY:Nat):(uJ 72 #[(0,.a qF mM zA),(1,.a oP lM vY)]).J aj W=.ok (.d (Tc.mk qF mM zA oP lM vY).aA) W:=kTc.bd W _ _ _ _ FC (aEG W _ FC) (by
 refine uS (Tc.I _) ?_ ?_
 ·simp[rM,bZ]
 ·simp[qW,bZ,Tc.aA]<;>(simp only[<-gB];rfl))
def TlR(W:au)(A1:Option aU)(n1:Nat)(A2:Option aU)(n2:Nat)(t:Tl):Prop:=
 iF nmC 1 W W.a.j A1 n1 t.h/\n2=t.rJ.a/\((n2=0/\A2=none)\/∃g d,A2=some ⟨g,0,none⟩/\dN W g d/\SlA d t.rJ)
def TlP(w:au)(t:Tl)(e:lu)(w':au):Prop:=
 ∃A1 n1 c1 A2 n2 c2,e=.a (.K #[.d #[.a A1 n1 c1,.a A2 n2 c2],.b .a 0])/\TlR w' A1 n1 A2 n2 t/\aM w.a.j w w'/\(∀a,A1=some a->w.a.j<=a.block/\a.block<w'.a.j)/\∀a,A2=some a->w.a.j<=a.block/\a.block<w'.a.j
structure BuS(key:Vector UInt8 16)(n k8:Nat)(w4:au)(r:List pE)(AN:Option aU)(nN cN:Nat)(AT:Option aU)(nT cT:Nat)(W:au):Prop where
 zn:Rz nmC 1 9 [(k8,(Tc.mk AN nN cN none 0 0).aA)] w4 W (.a AN nN cN) (r.map (·.E))
 zt:Rz Tr.aA 5 155 [(k8,(Tc.mk AN nN cN none 0 0).aA)] w4 W (.a AT nT cT) (r.map (akd key n))
 ap:JD (.a AN nN cN) (.a AT nT cT)
theorem BuS.start(key:Vector UInt8 16)(n:Nat)(w4:au):BuS key n w4.a.j w4 [] none 0 0 none 0 0 (w4.alloc (.D Da.aA 72)):=
 ⟨(Rz.nil w4).new Da.aA _,(Rz.nil w4).new Da.aA _,fun g h=>by cases h⟩
theorem BuS.alloc{key:Vector UInt8 16}{n k8:Nat}{w4:au}{r:List pE}{AN:Option aU}{nN cN:Nat}{AT:Option aU}{nT cT:Nat}{W:au}(h:BuS key n k8 w4 r AN nN cN AT nT cT W)(o:Obj):BuS key n k8 w4 r AN nN cN AT nT cT (W.alloc o):=⟨h.zn.alloc o,h.zt.alloc o,h.ap⟩
theorem BuS.go{key:Vector UInt8 16}{n k8:Nat}{w4:au}{r:List pE}{AN:Option aU}{nN cN:Nat}{AT:Option aU}{nT cT:Nat}{W W':au}(h:BuS key n k8 w4 r AN nN cN AT nT cT W)(hb:aM W.a.j W W'):BuS key n k8 w4 r AN nN cN AT nT cT W':=⟨h.zn.go hb,h.zt.go hb,h.ap⟩
theorem iF.azS{α:Type}{f:α->Array aC}{s:Nat}(x:α)(hs:∀x,(f x).j=s)(w:au)(t:bF)(k:Nat)(hk:w.a.j=k):iF f s (w.alloc (.D (f x) t)) (w.alloc (.D (f x) t)).a.j (some ⟨k,0,none⟩) 1 [x]:=by
 subst hk;exact iF.one x hs w t
theorem aed{F:List Nat}{W W':au}{base size n:Nat}{e:bF}{v:aC}{xs:List aC}(h:W.c base e size v n xs)(hf:jC F W W')(hn:∀g,v.f=some g->g∉F):W'.c base e size v n xs:=by
 refine⟨h.1,?_⟩;rcases h.2 with h0|⟨g,cap,cur,rfl,h2,h3,h4⟩
 ·exact .a h0
 ·exact .b ⟨g,cap,cur,rfl,h2,(hf.block g (bW.1 h3).1 (hn g rfl)).trans h3,h4⟩
theorem Tc.aEH(AN:Option aU)(nN cN:Nat)(A9:Option aU)(n9 c9:Nat):(Tc.mk AN nN cN none 0 0).aA.b 1 (.a A9 n9 c9)=(Tc.mk AN nN cN A9 n9 c9).aA:=by simp[Tc.aA]
theorem avw{W:au}{base n c:Nat}{e:bF}{A:Option aU}{l:List Tr}(h:W.c base e 5 (.a A n c) n (l.h fun x=>x.aA.a))(hl:l.a=n)(hn:0<n):∃gt cur,A=some ⟨gt,0,none⟩/\dN W gt cur/\TrA cur l/\n<=c/\base<=gt:=by
 have hr:=iF.gV hl h;rcases h.2 with⟨hv,h0⟩|⟨g,cap,cur,hv,h2,h3,h4,h5,h6,h7⟩
 ·omega
 ·injection hv with e1 e2 e3
  subst e1 e3;refine⟨g,cur,rfl,⟨_,h3⟩,fun i hi j hj=>?_,h4,h2⟩;obtain⟨b,o,hA,_,hc⟩:=iF.cell Tr.I zy hr (show i<n by omega);cases hA;have h8:=hc j hj;rw[bl]at h8;rw[<-h8];exact((show dN W g cur from⟨_,h3⟩).M.1 (i*5+j)).symm
theorem aee(key:Vector UInt8 16)(n:Nat)(r:List pE)(h:lK n=true):acO n r.a (Il (r.map fun x=>Dm key x.E n) (r.map fun x=>Au key x.E n) n):=by
 intro i hi;have h2:=wV h;unfold Il;rw[pX _ r i 0 lq hi,pX _ r i 0 lq hi];obtain⟨s1,s2⟩:=Vb key (r.c i lq).E h2;exact⟨fun t=>Pf (by omega),fun j hj=>UD h s1 s2 hj⟩
theorem Tc.azT(AN:Option aU)(nN cN:Nat)(A9:Option aU)(n9 c9:Nat):(Tc.mk AN nN cN none 0 0).aA.b 0 (.a A9 n9 c9)=(Tc.mk A9 n9 c9 none 0 0).aA:=by simp[Tc.aA]
theorem BuS.aEI{k8:Nat}{w4 w9:au}{l:List (List UInt8)}{AN:Option aU}{nN cN:Nat}{A9:Option aU}{n9 c9:Nat}(hk:k8=w4.a.j)(h:Rz nmC 1 9 [(k8,(Tc.mk AN nN cN none 0 0).aA)] w4 w9 (.a A9 n9 c9) l):
 Rz nmC 1 9 [(k8,(Tc.mk A9 n9 c9 none 0 0).aA)] w4 (w9.G ⟨k8,0,none⟩ (.a A9 n9 c9)) (.a A9 n9 c9) l:=by
 have:=h.amB (aY hk.symm) (fun p hp=>by cases hp) 0 (.a A9 n9 c9);rw[Tc.azT]at this;exact this
theorem BuS.aEJ{k8:Nat}{w4 w9:au}{l:List Tr}{AN:Option aU}{nN cN:Nat}{AT:Option aU}{nT cT:Nat}(hk:k8=w4.a.j)(h:Rz Tr.aA 5 155 [(k8,(Tc.mk AN nN cN none 0 0).aA)] w4 w9 (.a AT nT cT) l)(A9:Option aU)(n9 c9:Nat):
 Rz Tr.aA 5 155 [(k8,(Tc.mk A9 n9 c9 none 0 0).aA)] w4 (w9.G ⟨k8,0,none⟩ (.a A9 n9 c9)) (.a AT nT cT) l:=by
 have:=h.amB (aY hk.symm) (fun p hp=>by cases hp) 0 (.a A9 n9 c9);rw[Tc.azT]at this;exact this
theorem aef(key:Vector UInt8 16)(n:Nat)(hp:lK n=true)(hn:n<=65537)(l:List pE)(hk:aqG l)(hnm:∀x∈l,x.E.a<=1000000)(A:Option aU)(m c:Nat)(w:au)(hR:iF pE.aA 2 w w.a.j A m l):
 aQ aj 27 #[.d (jg key),.b .a n,.a A m c] w (TlP w (uw key n l)):=by
 have hl:=hR.1;have hm:m<=1024:=by have:=hk.2.2;omega
 have Z0:=ah (((Bx.start w).new (jg key) 22).new Da.aA 72);have hs1:(w.alloc (.D (jg key) 22)).a.j=w.a.j+1:=by simp
 rw[hs1]at Z0;obtain⟨k1,hk1⟩:=dw (w.a.j+1);have SO:=ah (fun(W:au) (h:iF pE.aA 2 W W.a.j A m l)=>abD l hk.1 A m c W h (by omega));have MA:=ah (fun(W:au) (A':Option aU) (c':Nat) (h:iF pE.aA 2 W W.a.j A' m l)=>ajZ l hk A' m c' W h);have PR:=ah (fun(W:au)=>Yj (W:=W) n hn);rw[hp]at PR;have R0:=ah ((hR.up (.D (jg key) 22)).up (.D Da.aA 72));have t1:decide ((n:Int)>65537)=false:=by simp;omega
 have t2:decide ((65537:Int)<n)=false:=by simp;omega
 have t3:decide (65537<n)=false:=by simp;omega
 have HK:=ah hk;have HNM:=ah hnm;have HP:=ah hp;have HL:=ah hl;clear hk hnm hp hl hR hs1;rw[<-hk1]at Z0;have HK1:=ah hk1;go_enter Tryz.func27,Tryz.ntmps27;go_upto_region 1 with fail
 rw[<-HK1.i];generalize(w.alloc (.D (jg key) 22)).alloc (.D Da.aA 72)=w1 at Z0 R0 ⊢;clear hk1;go_upto_region 4 with(first|(go_at_call 80;(with_reducible refine(SO.i _ R0.i).g ?_);rintro e w2 ⟨A2,c2,rfl,hr2,hb2⟩;have R2:=ah hr2;have Z2:=ah (Z0.i.go hb2);clear hr2 hb2)|(go_at_call 81;(with_reducible refine(PR.i _).g ?_);rintro e w3 ⟨rfl,rfl⟩)|(go_at_call 82;(with_reducible refine(MA.i _ A2 c2 R2.i).g ?_);rintro e w4 ⟨rfl,hb4⟩;have R4:=ah (R2.i.go hb4);have Z4:=ah (Z2.i.go hb4);clear hb4))
 obtain⟨k8,hk8⟩:=dw w4.a.j;have BS:=ah (BuS.start key n w4);rw[<-hk8]at BS;have HK8:=ah hk8;go_upto_region 6 with fail
 rw[<-HK8.i];generalize w4.alloc (.D Da.aA 72)=w5 at BS ⊢;clear hk8;go_wp2_with fail;go_loopw [31,9] (fun i v wr=>∃(k:Nat)(AN:Option aU)(nN cN:Nat)(AT:Option aU) (nT cT:Nat),k<=m/\i=.b .a k/\v=.a AT nT cT/\BuS key n k8 w4 (yD (l.d k)) AN nN cN AT nT cT wr)
  (fun i _ _=>m-(intOf i).e)
 case atStart=>exact⟨0,none,0,0,none,0,0,ji _,rfl,rfl,BS.i⟩
 case round=>
  obtain⟨k,AN,nN,cN,AT,nT,cT,hkm,rfl,rfl,hbs⟩:=hrel;have B0:=ah hbs;clear hbs;by_cases hlt:k<m
  ·have hki:(k:Int)<m:=by omega
   have RW:=ah (R4.i.S B0.i.zn.R);obtain⟨b,o,hA,hbb,hh,hc⟩:=iF.fG pE.Bo lq RW.i hlt;subst hA;obtain⟨x,hx⟩:=dw (l.c k lq);rw[<-hx]at hc;have hxm:x∈l:=by rw[hx,av,aD (by rw[HL.i];omega),jE];exact eY _
   have hq1:=(HK.i.2.1 x hxm).1;have HXN:=ah (HNM.i x hxm);have DV:=ah (agE hx (show k<l.a by rw[HL.i];exact hlt));have B1:=ah (B0.i.alloc (.D x.aA 151));have X1:=ah (dN.new wr x.aA 151);have f0:∀i,(wr.alloc (.D x.aA 151)).b ⟨wr.a.j,i,none⟩=x.aA[i]?:=X1.i.M.1;have s0:=(f0 0).trans (pE.zH x);have s1:=(f0 1).trans (pE.aqy x);clear hx hbb hxm f0;by_cases hq:x.q=0
   ·have t1:decide (x.q>0)=false:=by simp[hq]
    have t2:decide (0<x.q)=false:=by simp[hq]
    have HQ:=ah hq;clear hq;go_wp2_with fail;go_roundw
    case rel=>
     have e:=DV.i;rw[if_pos HQ.i,List.append_nil]at e;exact⟨k+1,_,_,_,_,_,_,by omega,by simp,rfl,by rw[e];exact B1.i⟩
    case measure=>simp[intOf];omega
   ·have t1:decide (x.q>0)=true:=by simp;omega
    have t2:decide (0<x.q)=true:=by simp;omega
    have HQ:=ah hq;clear hq;obtain⟨r,hr⟩:=dw (yD (l.d k));rw[<-hr]at B0 B1 DV;have HR:=ah hr;have HRL:=ah (show r.a+1<=1000000 by
     rw[hr];have h1:=oU (fun x:pE=>decide (x.q≠0)) (l.d k);have h2:=List.length_take_le k l;have h3:(yD (l.d k)).a<=(l.d k).a:=h1;omega)
    clear hr;obtain⟨po,hpo⟩:=dw (Dm key x.E n);obtain⟨ps,hps⟩:=dw (Au key x.E n);have PO:=ah (ags key x.E n (wV HP.i) (by omega) HXN.i);rw[<-hpo,<-hps]at PO;have HTR:=ah (show akd key n x=Tr.mk x.q 0 (po:Nat) (ps:Nat) 0 by unfold akd;rw[hpo,hps]);clear hpo hps;have l1:=Sr.mW (Z4.i.b1.go B1.i.zn.R) (dL _);have HKX:=ah (show k8≠wr.a.j from fun e=>by have:=B0.i.zn.X.lt;omega);have HNX:=ah (show∀g,(bC AN nN cN).f=some g->g≠wr.a.j from fun g e=>by have:=(B0.i.zn.lt e).2;omega);have HTX:=ah (show∀g,(bC AT nT cT).f=some g->g≠wr.a.j from fun g e=>by have:=(B0.i.zt.lt e).2;omega);obtain⟨kx,hkx⟩:=dw wr.a.j;rw[<-hkx]at HKX HNX HTX X1;have aEL:=ah hkx;clear hkx;go_upto_region 10 with fail
    rw[<-aEL.i]at s0 s1 ⊢;generalize wr.alloc (.D x.aA 151)=w6 at s0 s1 l1 B1 X1 ⊢;go_wp2_with (first
     | (go_at_call 83;(with_reducible refine(PO.i _).g ?_);rintro e w7 ⟨rfl,hb7⟩;have B7:=ah (B1.i.go hb7);have X7:=ah (X1.i.go hb7);clear s0 s1 l1 hb7;have s0:=(X7.i.M.1 0).trans (pE.zH x);have s1:=(X7.i.M.1 1).trans (pE.aqy x);have s2:=(B7.i.zn.X.M.1 0).trans (Tc.Ci _))
     | (refine WO ah2 rfl (.a 47) (.a 50) rfl rfl (B7.i.alloc (.D (nmC x.E) 9)).zn rfl (iF.one x.E Ot w7 9) (by rw[bV];exact HRL.i) ?_;intro A9 n9 c9 w9 h9 g9 a9;have N9:=ah h9;have T9:=ah ((B7.i.alloc (.D (nmC x.E) 9)).zt.anx B7.i.ap g9 a9 h9.R (fun p hp=>(h9.I p hp).1));have X9:=ah ((X7.i.alloc (.D (nmC x.E) 9)).grown g9 (fun e=>HNX.i kx e.symm rfl));clear s0 s1 s2 h9 g9 a9;have s3:=N9.i.X.M.1 0;have s4:=N9.i.X.M.2.1 0;rw[Tc.Ci]at s3;have N10:=ah (BuS.aEI HK8.i N9.i);have T10:=ah (BuS.aEJ HK8.i T9.i.1 A9 n9 c9);have X10:=ah (X9.i.dR ⟨k8,0,none⟩ (.a A9 n9 c9) HKX.i);have s1:=(X10.i.M.1 1).trans (pE.aqy x))
     | (refine WO aqT rfl (.a 53) (.a 59) rfl rfl (T10.i.alloc (.D (Tr.mk x.q 0 (po:Nat) (ps:Nat) 0).aA 155)) rfl (iF.azS (Tr.mk x.q 0 (po:Nat) (ps:Nat) 0) Tr.I (w9.G ⟨k8,0,none⟩ (.a A9 n9 c9)) 155 w9.a.j (by simp)) (by rw[bV];exact HRL.i) ?_;intro A11 n11 c11 w11 h11 g11 a11;have T11:=ah h11;have N11:=ah ((N10.i.alloc (.D (Tr.mk x.q 0 (po:Nat) (ps:Nat) 0).aA 155)).anx T9.i.2.symm g11 a11 h11.R (fun p hp=>(h11.I p hp).1));clear h11 g11 a11))
    go_roundw
    case rel=>
     have e:=DV.i;rw[if_neg HQ.i]at e;refine⟨k+1,A9,n9,c9,A11,n11,c11,by omega,by simp,rfl,?_⟩;rw[e];refine⟨?_,?_,N11.i.2.symm⟩
     ·rw[iW];exact N11.i.1
     ·rw[iW,kK,pU,HTR.i];exact T11.i
    case measure=>simp[intOf];omega
  ·obtain rfl:k=m:=by omega
   have hd:decide ((k:Int)<k)=false:=by simp
   have HRW:yD (l.d k)=yD l:=by rw[aL (by rw[HL.i];omega)]
   rw[HRW]at B0;obtain⟨r,hr⟩:=dw (yD l);rw[<-hr]at B0;have hnT:=B0.i.zt.len;rw[bV]at hnT;have BX1:=ah (Z4.i.X.go B0.i.zn.R);have HKS:=ah (show w.a.j<=k1/\k1<w4.a.j/\w4.a.j=k8/\k8<wr.a.j from⟨by rw[HK1.i];omega,Z4.i.X.lt,HK8.i.symm,B0.i.zn.X.lt⟩);have TH1:=BX1.i.O 0 2 (aY (Tc.I _).symm);have HR:=ah hr;have HNB:=ah (show∀g,(bC AN nN cN).f=some g->w4.a.j<=g/\g≠k8 from fun g e=>⟨(B0.i.zn.lt e).1,fun e2=>by
    have:=(B0.i.zn.I _ (mG ..)).2;exact this (by rw[e,e2])⟩)
   by_cases h0:r=[]
   ·have z1:decide ((nT:Int)=0)=true:=by simp[hnT,h0]
    have z2:((nT:Int)==0)=true:=by simp[hnT,h0]
    have z3:decide (nT=0)=true:=by simp[hnT,h0]
    have z4:(nT==0)=true:=by simp[hnT,h0]
    have ld:=kTc.mW B0.i.zn.X (Tc.I _);have H0:=ah h0;clear hnT h0 hr HRW;obtain⟨X,hX⟩:=dw (Tc.mk AN nN cN none 0 0);rw[<-hX]at ld;have HX:=ah hX;clear hX;go_wp2_with fail;refine aO (kTc.qK rfl _ rfl (BX1.i.put X.aA (by rw[Tc.I,Tc.I])) (Tc.I _)) rfl ?_;have F:=jC.Vd (F:=[k1]) (lY (dM wr (some k1)) 0 X.aA) (fun g e=>.a (by injection e with e;simp[e]));refine⟨AN,nN,cN,none,0,0,by rw[HX.i];rfl,⟨?_,?_,?_⟩,?_,(fun a e=>by have h1:=(HNB.i a.block (by rw[e];rfl)).1;have h2:=Z4.i.R.j;have h3:=(B0.i.zn.lt (k:=a.block) (by rw[e];rfl)).2;have h4:=F.j;omega),fun a e=>by cases e⟩
    ·have:=aed B0.i.zn.vD F (fun g e hm=>by
      have h1:=(HNB.i g e).1;have h2:=HKS.i;simp at hm;omega)
     rw[QY _ _ _ (by rw[<-HR.i,H0.i])];have h2:=B0.i.zn.len;rw[<-h2]at this;have h3:=iF.gV (by rw[h2]) this;rw[H0.i]at h3;exact h3
    ·rw[QY _ _ _ (by rw[<-HR.i,H0.i])];rfl
    ·exact .a ⟨rfl,rfl⟩
    ·refine(iZ Z4.i.R B0.i.zn.R).trans ?_
     exact F.qO (fun g hg=>by simp at hg;have:=HKS.i;omega) (aP Z4.i.R.j B0.i.zn.R.j)
   ·have hpos:0<r.a:=List.length_pos_iff.2 h0
    have hz:¬(nT:Int)=0:=by omega
    have z1:decide ((nT:Int)=0)=false:=by simpa using hz
    have z2:((nT:Int)==0)=false:=by simpa using hz
    have z3:decide (nT=0)=false:=by simp;omega
    have z4:(nT==0)=false:=by simp;omega
    obtain⟨gt,cur,hAT,hbt,htr,hcap,hgt⟩:=avw (by have:=B0.i.zt.vD;rwa [bV,<-hnT]at this) (by rw[bV,hnT]) (by omega);subst hAT;have HGK:=ah (show gt≠k8 from fun e=>(B0.i.zt.I _ (mG ..)).2 (by rw[<-e];rfl));have HGN:=ah (show∀g,(bC AN nN cN).f=some g->g≠gt from fun g e e2=>B0.i.ap g e (by rw[e2];rfl));have HGT:=ah (show gt<wr.a.j/\w4.a.j<=gt from⟨hbt.lt,hgt⟩);have hn1:1<=n:=by have:=wV HP.i;omega
    have RE:=ah (agx n hn1 (by omega) wr.a.j 1 (-1) (wr.alloc (.D (sK [-1]) 3)) (dN.new wr _ _));have hq0:∀x∈r,0<x.q:=by
     intro x hx;rw[hr]at hx;obtain⟨h1,h2⟩:=mH.1 hx;have:=(HK.i.2.1 x h1).1;simp at h2;omega
    have hrl:r.a<=1024:=by rw[hr];have:(yD l).a<=l.a:=oU _ _;have:=HK.i.2.2;omega
    have hgr:lX (r.map fun x=>x.q.e)<=100000000:=by
     obtain⟨i,hi,e⟩:=Dn (q:=r.map fun x=>x.q.e) (by simpa using h0) (by
      intro y hy;obtain⟨x,hx,rfl⟩:=iX.1 hy;have:=hq0 x hx;omega)
     rw[<-e];rw[bV]at hi;rw[pX _ r i 0 lq hi];have hm2:r.c i lq∈yD l:=by rw[<-hr,av,aD hi];exact eY _
     have:=(HK.i.2.1 _ (mH.1 hm2).1).2;omega
    have FI:=ah (fun(W:au) (sb:Nat) (d:Array aC) (hc:dN W gt cur) (hd:dN W sb d) (hne:gt≠sb) (hS:SlA d (eu n (-1)))=>
     agu gt sb nT cT n n (lX (r.map fun x=>x.q.e)) (r.map fun x=>x.q.e) (r.map fun x=>Dm key x.E n) (r.map fun x=>Au key x.E n) cur d (r.map (akd key n)) W rfl hc hd hne (by rw[bV,hnT]) htr hS (ake key n r h0 hq0) (by omega) (by omega) hcap hn1 (by omega) (ay _)
      (by intro y hy;obtain⟨x,hx,rfl⟩:=iX.1 hy;have:=hq0 x hx;omega) hgr
      (by intro i hi;rw[pX _ r i 0 lq (by omega)];have:=alX key (r.c i lq).E (wV HP.i);omega)
      (by intro i hi;rw[pX _ r i 0 lq (by omega)];have:=(Vb key (r.c i lq).E (wV HP.i)).2;omega)
      (by rw[hnT];exact aee key n r HP.i))
    have HFV:=ah (ac8 (n:=n) (q:=r.map fun x=>x.q.e) (ch:=Il (r.map fun x=>Dm key x.E n) (r.map fun x=>Au key x.E n) n) (by simpa using h0) (by intro y hy;obtain⟨x,hx,rfl⟩:=iX.1 hy;have:=hq0 x hx;omega) (by rw[bV];exact aee key n r HP.i)).1;have HT:=ah (show uw key n l=⟨r.map (·.E),EK n (r.map fun x=>x.q.e) (Il (r.map fun x=>Dm key x.E n) (r.map fun x=>Au key x.E n) n)⟩by rw[aeb key n l (by rw[<-hr];exact h0),<-hr]);generalize EK n (r.map fun x=>x.q.e) (Il (r.map fun x=>Dm key x.E n) (r.map fun x=>Au key x.E n) n)=fv at FI HFV HT;have BT0:=ah hbt;have hw1:(wr.alloc (.D (sK [-1]) 3)).a.j=wr.a.j+1:=by simp
    have HW1:=ah hw1;clear hnT h0 hpos hz hbt htr hcap hgt hq0 hrl hgr hr HRW hw1;go_wp2_with (first
     | (go_at_call 84;go_loud ((with_reducible refine RE.i.g ?_);rintro e w2 ⟨g,d,hg1,rfl,hb2,hds,hsl,hbel⟩;have HG:=ah (show wr.a.j<g by rw[HW1.i]at hg1;omega);have K2:=ah ((B0.i.zn.X.alloc (.D (sK [-1]) 3)).go hbel);have X2:=ah ((BX1.i.alloc (.D (sK [-1]) 3)).go hbel);have T2:=ah ((BT0.i.alloc (.D (sK [-1]) 3)).go hbel);have F2:=ah (((jC.refl [k8,gt,k1] wr).alloc (.D (sK [-1]) 3)).S hbel (by rw[HW1.i];omega));have HSL:=ah hsl;have K3:=ah (show dN (w2.G ⟨k8,1,none⟩ (.a (some ⟨g,0,none⟩) n n)) k8 (Tc.mk AN nN cN (some ⟨g,0,none⟩) n n).aA by have:=K2.i.eH 1 (.a (some ⟨g,0,none⟩) n n);rwa [Tc.aEH]at this);have s1:=K2.i.M.1 1;rw[Tc.wG]at s1;have s2:=K2.i.M.2.1 1;have s3:=K3.i.M.1 1;rw[Tc.wG]at s3;have FX:=ah (FI.i (w2.G ⟨k8,1,none⟩ (.a (some ⟨g,0,none⟩) n n)) g d (T2.i.dR ⟨k8,1,none⟩ _ HGK.i.symm) (hb2.dR ⟨k8,1,none⟩ _ (by have:=HG.i;have:=HKS.i;show k8≠g;omega)) (by have:=HG.i;have:=HGT.i;omega) hsl);clear hg1 hb2 hds hsl hbel))
     | (go_at_call 85;(with_reducible refine FX.i.g ?_);rintro e w5 ⟨rfl,⟨d5,hd5,azU⟩,hfr⟩;have K5:=ah (hfr.box K3.i (by have:=HGK.i;have:=HG.i;have:=HKS.i;simp;omega));have X5:=ah (hfr.box (X2.i.dR ⟨k8,1,none⟩ (.a (some ⟨g,0,none⟩) n n) (by have:=HKS.i;show k8≠k1;omega)) (by have:=HG.i;have:=HGT.i;have:=HKS.i;simp;omega));have F5:=ah ((F2.i.set ⟨k8,1,none⟩ (.a (some ⟨g,0,none⟩) n n) (.a (by simp))).trans hfr (fun x hx=>by have:=HG.i;simp at hx⊢;omega));have D5:=ah hd5;have SD5:=ah azU;clear s1 s2 s3 hd5 azU hfr;have ld:=kTc.mW K5.i (Tc.I _);have th:=X5.i.O 0 2 (aY (Tc.I _).symm)))
    refine aO (kTc.qK rfl _ rfl (X5.i.put (Tc.mk AN nN cN (some ⟨g,0,none⟩) n n).aA (by rw[Tc.I,Tc.I])) (Tc.I _)) rfl ?_;have F:=F5.i.grown (lY (dM w5 (some k1)) 0 (Tc.mk AN nN cN (some ⟨g,0,none⟩) n n).aA) (fun j e=>.a (by injection e with e;simp[e]));refine⟨AN,nN,cN,some ⟨g,0,none⟩,n,n,rfl,⟨?_,by rw[HT.i];exact HFV.i.symm,.b ⟨g,d5,rfl,D5.i.gK (by have:=HG.i;have:=HKS.i;omega),by rw[HT.i];exact SD5.i⟩⟩,?_,(fun a e=>by have h1:=(HNB.i a.block (by rw[e];rfl)).1;have h2:=Z4.i.R.j;have h3:=(B0.i.zn.lt (k:=a.block) (by rw[e];rfl)).2;have h4:=F.j;omega),fun a e=>by injection e with e;subst e;have h1:=HG.i;have h2:=Z4.i.R.j;have h3:=B0.i.zn.R.j;have h4:=(D5.i.gK (b2:=k1) (o:=0) (x:=(Tc.mk AN nN cN (some ⟨g,0,none⟩) n n).aA) (by have:=HG.i;have:=HKS.i;omega)).lt;exact⟨by show _<=g;omega,h4⟩⟩
    ·have:=aed B0.i.zn.vD F (fun g e hm=>by
       have h1:=HNB.i g e;have h2:=HKS.i;have h3:=HGN.i g e;simp at hm;omega)
     rw[HT.i];have h2:=B0.i.zn.len;rw[<-h2]at this;exact iF.gV (by rw[h2]) this
    ·refine(iZ Z4.i.R B0.i.zn.R).trans ?_
     exact F.qO (fun g hg=>by simp at hg;have:=HKS.i;have:=HGT.i;omega) (aP Z4.i.R.j B0.i.zn.R.j)
def asG:Option (List UInt8)->aC
 | none=>.K #[.g (bP []),.e false]
 | some s=>.K #[.g (bP s),.e true]
def azV(t:Tl):Prop:=∀j,j<t.rJ.a->∃i,i<t.h.a/\t.rJ.c j 0=(i:Int)
theorem agF(t:Tl)(ok:azV t)(h:Nat)(hh:h<18446744073709551616)(A1:Option aU)(n1 c1:Nat)(A2:Option aU)(n2 c2:Nat)(w:au)(hT:TlR w A1 n1 A2 n2 t)(hn2:n2<=100000)(hn1:n1<=100000):
 aQ aj 35 #[.d (Tc.mk A1 n1 c1 A2 n2 c2).aA,.b .u64 h] w (gy w (asG (Hr t h))):=by
 obtain⟨hN,hs,hS⟩:=hT;have X0:=ah (dN.new w (Tc.mk A1 n1 c1 A2 n2 c2).aA 72);have B0:=ah ((aH w.a.j w).alloc (ay _) (.D (Tc.mk A1 n1 c1 A2 n2 c2).aA 72));have N0:=ah (hN.up (.D (Tc.mk A1 n1 c1 A2 n2 c2).aA 72));have f0:=(X0.i.M.1 0).trans (Tc.Ci _);have f1:=(X0.i.M.1 1).trans (Tc.wG _);by_cases h0:n2=0
 ·have z1:decide ((n2:Int)=0)=true:=by simp[h0]
  have z2:((n2:Int)==0)=true:=by simp[h0]
  have z3:decide (n2=0)=true:=by simp[h0]
  have z4:(n2==0)=true:=by simp[h0]
  have HP:=ah (show Hr t h=none by unfold Hr;rw[<-hs,if_pos h0]);clear h0 hs hS hN;go_enter Tryz.func35,Tryz.ntmps35;go_wp2;go_ret2;exact⟨by rw[HP.i];rfl,B0.i⟩
 ·have hz:¬(n2:Int)=0:=by omega
  have z1:decide ((n2:Int)=0)=false:=by simpa using hz
  have z2:((n2:Int)==0)=false:=by simpa using hz
  have z3:decide (n2=0)=false:=by simpa using h0
  have z4:(n2==0)=false:=by simpa using h0
  obtain⟨g,d,hA,hd,hsl⟩:∃g d,A2=some ⟨g,0,none⟩/\dN w g d/\SlA d t.rJ:=by
   rcases hS with⟨e,_⟩|hS
   ·exact absurd e h0
   ·exact hS
  subst hA;obtain⟨j,hj⟩:=dw (h%n2);have hjl:j<n2:=by rw[hj];exact fH _ (by omega)
  have hji:(j:Int)<n2:=by omega
  obtain⟨i,hi,hv⟩:=ok j (by rw[<-hs];exact hjl);obtain⟨b,o,hA1,_,hc⟩:=iF.cell Ot [] N0.i (show i<n1 by rw[<-hN.1];exact hi);have hii:(i:Int)<n1:=by rw[<-hN.1];omega
  subst hA1;obtain⟨s,hsn⟩:=dw (t.h.c i []);have f3:=hc 0 (by omega);rw[<-hsn,Nat.add_zero,gL]at f3
  replace f3:(w.alloc (.D (Tc.mk (some ⟨b,o,none⟩) n1 c1 (some ⟨g,0,none⟩) n2 c2).aA 72)).b ⟨b,o+i,none⟩=some (.g (bP s)):=f3
  have f2:=(hd.alloc (.D (Tc.mk (some ⟨b,o,none⟩) n1 c1 (some ⟨g,0,none⟩) n2 c2).aA 72)).M.1 j;rw[hsl j (by rw[<-hs];exact hjl),hv]at f2;have HP:=ah (show Hr t h=some s by unfold Hr;rw[<-hs,if_neg h0,<-hj,hv,dW,hsn]);have e1:(h:Int)%(n2:Int)=(j:Int):=by rw[hj];omega
  have e2:MB (h:Int) (n2:Int)=(j:Int):=by rw[mI (by omega)];exact e1
  have u1:=ani n2 (by omega);have u2:=ani j (by omega);have i1:=jV (n2:Int) (by omega);have h0':¬n2=0:=h0;clear hj hs hS hN hc hsn hv hi hd hsl h0;go_enter Tryz.func35,Tryz.ntmps35;go_wp2_with fail;go_quiet (fail);go_wp2;go_ret2;exact⟨by rw[HP.i];rfl,fJ B0.i _⟩
abbrev aeg(o:Option Nat):aC:=.c (o.map fun b=>⟨b,0,none⟩)
structure Pc where
 Y:Int
 rA:Option aU
 rN:Nat
 rC:Nat
def Pc.aA(x:Pc):Array aC:=#[.b .a x.Y,.a x.rA x.rN x.rC]
theorem Pc.I(x:Pc):x.aA.j=2:=by simp[Pc.aA]
theorem Pc.cO(x:Pc):x.aA.all (·.h)=true:=by simp[Pc.aA,dx]
@[go_sem]theorem Pc.eF(x:Pc):eF x.aA=2:=Pc.I x
@[go_sem]theorem Pc.all(x:Pc):x.aA.m 0 2=x.aA:=by have:=Pc.I x;rw[<-this];simp
@[go_sem]theorem Pc.WQ(x:Pc):x.aA[0]? = some (.b .a x.Y):=by simp[Pc.aA,aG]
@[go_sem]theorem Pc.anA(x:Pc):x.aA[1]? = some (.a x.rA x.rN x.rC):=by simp[Pc.aA,aG]
theorem Pc.ah5(x:Pc)(A:Option aU)(n c:Nat):x.aA.b 1 (.a A n c)=({x with rA:=A,rN:=n,rC:=c}:Pc).aA:=by simp[Pc.aA,aN]
def XK:Pc:=⟨0,none,0,0⟩
@[go_sem]theorem azW:cK #[aJ bU 0,bC none 0 0]=cK XK.aA:=rfl
@[go_sem]theorem avx:eO #[aJ bU 0,bC none 0 0] 32=eO XK.aA 32:=rfl
theorem kPc:oW 32 2 XK.aA:=⟨⟨_,Tryz.underlying32,rfl⟩,by kernel_rfl,by kernel_rfl,Pc.I _⟩
@[go_sem ↓]theorem aqW(v:aC):cZ 32 v=xK 32 v:=rfl
@[go_sem ↓]theorem aLm(v x:aC):eU 32 v x=zk 32 v x:=rfl
@[go_sem]theorem aHS(W:au)(b o:Nat)(h:vE W b o 2):(xK 32 (.c (some ⟨b,o,none⟩))).J aj W=.ok (.d (dQ W b o 2)) W:=kPc.ld W b o h
@[go_sem]theorem aEO(W:au)(c:Array aC)(x:Pc)(b:Nat)(hb:b=W.a.j)(hc:eF c=2):(zk 32 (.c (some ⟨b,0,none⟩)) (.d x.aA)).J aj (W.alloc (.D c 32))=.ok () (W.alloc (.D x.aA 32)):=kPc.stN W c x.aA b hb hc (Pc.I x) (Pc.cO x)
@[go_sem]theorem aHT(W:au)(b o:Nat)(x:Pc)(h:W.O b o 2):(zk 32 (.c (some ⟨b,o,none⟩)) (.d x.aA)).J aj W=.ok () (gZ W b o x.aA):=kPc.st W b o x.aA h (Pc.I x) (Pc.cO x)
@[go_sem ↓]theorem aLn(ps:Array (Nat×aC)):fM 32 ps=uJ 32 ps:=rfl
structure Eg where
 key:Vector UInt8 16
 cf:Cn
 pl:Pc
 OO:Option aU
 Eh:Nat
 Sz:Nat
 dnA:Option aU
 dnN:Nat
 dnC:Nat
 fl:Option Nat
 h:Tc
 gq:Int
 no:Int
 lI:Vector Int 11
def Eg.aA(x:Eg):Array aC:=jg x.key++(x.cf.aA++(x.pl.aA++(#[.a x.OO x.Eh x.Sz,.a x.dnA x.dnN x.dnC,aeg x.fl]++(x.h.aA++(#[.b .a x.gq,.b .a x.no]++yL x.lI)))))
theorem Eg.I(x:Eg):x.aA.j=90:=by simp[Eg.aA,Cn.I,Pc.I,Tc.I,dL,j3]
@[go_sem]theorem Eg.abx(x:Eg):x.aA.m 0 16=jg x.key:=by simp[Eg.aA,dD,Cn.I,Pc.I,Tc.I,dL,j3,qc,tX]
@[go_sem]theorem Eg.asH(x:Eg):x.aA.m 16 70=x.cf.aA:=by simp[Eg.aA,dD,Cn.I,Pc.I,Tc.I,dL,j3,qc,tX]
@[go_sem]theorem Eg.ah6(x:Eg):x.aA.m 70 72=x.pl.aA:=by simp[Eg.aA,dD,Cn.I,Pc.I,Tc.I,dL,j3,qc,tX]
@[go_sem]theorem Eg.Zu(x:Eg):x.aA[72]? = some (.a x.OO x.Eh x.Sz):=by simp[Eg.aA,aG,Cn.I,Pc.I,Tc.I,dL,j3]
@[go_sem]theorem Eg.anB(x:Eg):x.aA[73]? = some (.a x.dnA x.dnN x.dnC):=by simp[Eg.aA,aG,Cn.I,Pc.I,Tc.I,dL,j3]
@[go_sem]theorem Eg.Zv(x:Eg):x.aA[74]? = some (aeg x.fl):=by simp[Eg.aA,aG,Cn.I,Pc.I,Tc.I,dL,j3]
@[go_sem]theorem Eg.anC(x:Eg):x.aA.m 75 77=x.h.aA:=by simp[Eg.aA,dD,Cn.I,Pc.I,Tc.I,dL,j3,qc,tX]
@[go_sem]theorem Eg.TU(x:Eg):x.aA[77]? = some (.b .a x.gq):=by simp[Eg.aA,aG,Cn.I,Pc.I,Tc.I,dL,j3]
@[go_sem]theorem Eg.anD(x:Eg):x.aA[78]? = some (.b .a x.no):=by simp[Eg.aA,aG,Cn.I,Pc.I,Tc.I,dL,j3]
@[go_sem]theorem Eg.anE(x:Eg):x.aA.m 79 90=yL x.lI:=by simp[Eg.aA,dD,Cn.I,Pc.I,Tc.I,dL,j3,qc,tX]
theorem Eg.agH(x:Eg)(A:Option aU)(n c:Nat):x.aA.b 72 (.a A n c)=({x with OO:=A,Eh:=n,Sz:=c}:Eg).aA:=by simp[Eg.aA,aN,Cn.I,Pc.I,Tc.I,dL,j3]
theorem Eg.avy(x:Eg)(A:Option aU)(n c:Nat):x.aA.b 73 (.a A n c)=({x with dnA:=A,dnN:=n,dnC:=c}:Eg).aA:=by simp[Eg.aA,aN,Cn.I,Pc.I,Tc.I,dL,j3]
theorem Eg.avz(x:Eg)(v:Option Nat):x.aA.b 74 (aeg v)=({x with fl:=v}:Eg).aA:=by simp[Eg.aA,aN,Cn.I,Pc.I,Tc.I,dL,j3]
theorem Eg.aeh(x:Eg)(v:Int):x.aA.b 77 (.b .a v)=({x with gq:=v}:Eg).aA:=by simp[Eg.aA,aN,Cn.I,Pc.I,Tc.I,dL,j3]
theorem Eg.anF(x:Eg)(v:Int):x.aA.b 78 (.b .a v)=({x with no:=v}:Eg).aA:=by simp[Eg.aA,aN,Cn.I,Pc.I,Tc.I,dL,j3]
def aEP:Eg:=⟨(bH 16 0),PN,XK,none,0,0,none,0,0,none,Da,0,0,(bH 11 0)⟩
theorem kEg:oW 123 90 aEP.aA:=⟨⟨_,DT,rfl⟩,by kernel_rfl,by kernel_rfl,Eg.I _⟩
@[go_sem ↓]theorem aLp(v:aC):cZ 123 v=xK 123 v:=rfl
@[go_sem ↓]theorem aLq(v x:aC):eU 123 v x=zk 123 v x:=rfl
@[go_sem ↓]theorem aLr(ps:Array (Nat×aC)):fM 123 ps=uJ 123 ps:=rfl
theorem aEQ(w:au)(fs:Array oh)(h:aj.underlying 123=some (.struct fs)):(iG (fun f=>Prod.mk f.Z <$> sizeOf f.type) fs:Sem (Array (Nat×Nat))).J aj w=.ok #[(0,16),(16,54),(70,2),(72,1),(73,1),(74,1),(75,2),(77,1),(78,1),(79,11)] w:=by
 have e:=DT;rw[h]at e;cases e;show _=_
 kernel_rfl
theorem Eg.aqX(x:Eg)(v:Vector UInt8 16):sG x.aA 0 (jg v)=({x with key:=v}:Eg).aA:=by
 unfold Eg.aA;exact Gy (by rw[dL,dL])
theorem Eg.avA(x:Eg)(v:Cn):sG x.aA 16 v.aA=({x with cf:=v}:Eg).aA:=by
 unfold Eg.aA;exact qR (by rw[Cn.I,Cn.I]) 16 (dL _)
theorem Eg.anG(x:Eg)(v:Pc):sG x.aA 70 v.aA=({x with pl:=v}:Eg).aA:=by
 unfold Eg.aA;have:=qR (p:=jg x.key++x.cf.aA) (q:=x.pl.aA) (r:=#[.a x.OO x.Eh x.Sz,.a x.dnA x.dnN x.dnC,aeg x.fl]++(x.h.aA++(#[.b .a x.gq,.b .a x.no]++yL x.lI))) (v:=v.aA) (by rw[Pc.I,Pc.I]) 70 (by simp[Cn.I,dL]);simpa[gB]using this
theorem Eg.avB(x:Eg)(v:Tc):sG x.aA 75 v.aA=({x with h:=v}:Eg).aA:=by
 unfold Eg.aA;have:=qR (p:=jg x.key++x.cf.aA++x.pl.aA ++ #[.a x.OO x.Eh x.Sz,.a x.dnA x.dnN x.dnC,aeg x.fl]) (q:=x.h.aA) (r:=#[.b .a x.gq,.b .a x.no]++yL x.lI) (v:=v.aA) (by rw[Tc.I,Tc.I]) 75 (by simp[Cn.I,dL,Pc.I]);simpa[gB]using this
theorem Eg.aqY(x:Eg)(v:Vector Int 11):sG x.aA 79 (yL v)=({x with lI:=v}:Eg).aA:=by
 unfold Eg.aA;have:=qR (p:=jg x.key++x.cf.aA++x.pl.aA ++ #[.a x.OO x.Eh x.Sz,.a x.dnA x.dnN x.dnC,aeg x.fl]++x.h.aA ++ #[.b .a x.gq,.b .a x.no]) (q:=yL x.lI) (r:=#[]) (v:=yL v) (by rw[j3,j3]) 79 (by simp[Cn.I,dL,Pc.I,Tc.I]);simpa[gB]using this
@[go_sem]theorem anH(W:au)(key:Vector UInt8 16)(cf:Cn)(pl:Pc)(A:Option aU)(n c:Nat)(ti no:Int)(ct:Vector Int 11):(uJ 123 #[(0,.d (jg key)),(1,.d cf.aA),(2,.d pl.aA),(3,.a A n c),(7,.b .a ti),(8,.b .a no),(9,.d (yL ct))]).J aj W=.ok (.d (Eg.mk key cf pl A n c none 0 0 none Da ti no ct).aA) W:=kEg.bd W _ _ _ _ DT (aEQ W _ DT) (by
 refine(sM rfl (dL _) (by rw[Eg.I];omega) (Eg.aqX _ _)).trans ?_;refine(sM rfl (Cn.I _) (by rw[Eg.I];omega) (Eg.avA _ _)).trans ?_;refine(sM rfl (Pc.I _) (by rw[Eg.I];omega) (Eg.anG _ _)).trans ?_;refine(iC rfl rfl (by rw[Eg.I];omega) (Eg.agH _ _ _ _)).trans ?_;refine(iC rfl rfl (by rw[Eg.I];omega) (Eg.aeh _ _)).trans ?_;refine(iC rfl rfl (by rw[Eg.I];omega) (Eg.anF _ _)).trans ?_;refine(sM rfl (j3 _) (by rw[Eg.I];omega) (Eg.aqY _ _)).trans ?_;rfl)
theorem Eg.Ov(x:Eg)(j:Nat)(hj:j<54):x.aA[16+j]? = x.cf.aA[j]?:=by
 have h:=Eg.asH x;have h2:(x.aA.m 16 70)[j]? = x.cf.aA[j]?:=by rw[h]
 rw[dz,if_pos (by rw[Eg.I];omega)]at h2;exact h2
theorem Eg.Ox(x:Eg)(a b:Nat)(hb:a<=b/\b<=54):x.aA.m (16+a) (16+b)=x.cf.aA.m a b:=by
 apply eB;intro j;rw[dz,dz,Eg.I,Cn.I];by_cases h:j<b-a
 ·rw[if_pos (by omega),if_pos (by omega),Nat.add_assoc];exact Eg.Ov x (a+j) (by omega)
 ·rw[if_neg (by omega),if_neg (by omega)]
theorem Eg.anI(x:Eg)(j:Nat)(hj:j<11):x.aA[79+j]? = some (.b .a (x.lI.a.c j 0)):=by
 have h:=Eg.anE x;have h2:(x.aA.m 79 90)[j]? = (yL x.lI)[j]?:=by rw[h]
 rw[dz,if_pos (by rw[Eg.I];omega),Vo _ _ hj]at h2;exact h2
theorem Eg.WQ(x:Eg):x.aA[70]? = some (.b .a x.pl.Y):=by
 have h2:(x.aA.m 70 72)[0]? = x.pl.aA[0]?:=by rw[Eg.ah6]
 rwa [dz,if_pos (by rw[Eg.I];omega),Pc.WQ]at h2
theorem Eg.Ci(x:Eg):x.aA[75]? = some (.a x.h.qF x.h.mM x.h.zA):=by
 have h2:(x.aA.m 75 77)[0]? = x.h.aA[0]?:=by rw[Eg.anC]
 rwa [dz,if_pos (by rw[Eg.I];omega),Tc.Ci]at h2
theorem Eg.wG(x:Eg):x.aA[76]? = some (.a x.h.oP x.h.lM x.h.vY):=by
 have h2:(x.aA.m 75 77)[1]? = x.h.aA[1]?:=by rw[Eg.anC]
 rwa [dz,if_pos (by rw[Eg.I];omega),Tc.wG]at h2
theorem Eg.AQ(x:Eg):x.aA[16]? = some (.a x.cf.qj x.cf.Y x.cf.ql):=(Eg.Ov x 0 (by omega)).trans (Cn.AQ x.cf)
theorem Eg.Gv(x:Eg):x.aA[17]? = some (.b .a x.cf.j):=(Eg.Ov x 1 (by omega)).trans (Cn.Gv x.cf)
theorem Eg.Tw(x:Eg):x.aA[25]? = some (.b .a x.cf.kr):=(Eg.Ov x 9 (by omega)).trans (Cn.Tw x.cf)
theorem Eg.Tx(x:Eg):x.aA[26]? = some (.b .a x.cf.fall):=(Eg.Ov x 10 (by omega)).trans (Cn.Tx x.cf)
theorem Eg.Tv(x:Eg):x.aA.m 19 25=Kz x.cf.kD:=(Eg.Ox x 3 9 (by omega)).trans (Cn.Tv x.cf)
theorem Eg.afW(x:Eg):x.aA.m 27 33=AO x.cf.Bj:=(Eg.Ox x 11 17 (by omega)).trans (Cn.afW x.cf)
theorem Eg.aa3(x:Eg):x.aA.m 33 50=x.cf.Cz.aA:=(Eg.Ox x 17 34 (by omega)).trans (Cn.aa3 x.cf)
theorem Eg.afX(x:Eg):x.aA.m 50 67=x.cf.h.aA:=(Eg.Ox x 34 51 (by omega)).trans (Cn.afX x.cf)
section
def uf(A:Option aU):List Nat:=match A with|some a=>[a.block]|none=>[]
theorem AX{A:Option aU}{b:Nat}:b∈uf A↔∃a,A=some a/\a.block=b:=by
 unfold uf;cases A with
 | none=>simp
 | some a=>simp[eq_comm]
def mD(x:Eg):List Nat:=uf x.cf.qj++(uf x.pl.rA++(uf x.OO++(uf x.dnA++(uf x.h.qF++uf x.h.oP))))
theorem dZ{x:Eg}{b:Nat}:b∈mD x↔b∈uf x.cf.qj\/b∈uf x.pl.rA\/b∈uf x.OO\/b∈uf x.dnA\/b∈uf x.h.qF\/b∈uf x.h.oP:=by simp[mD]
theorem gW{W:au}{base sz n k c:Nat}{T:bF}{A:Option aU}{xs:List aC}(h:W.c base T sz (.a A n c) k xs):∀b∈uf A,base<=b/\b<W.a.j:=fun b hb=>by
 obtain⟨a,rfl,rfl⟩:=AX.1 hb;exact h.lt a.block rfl
theorem TV{W W':au}{B sz n:Nat}{A:Option aU}{xs:List aC}{F:List Nat}(h:Rd W B sz A n xs)(hB:B<=W.a.j)(hf:jC F W W')(hn:∀b∈uf A,b∉F):Rd W' W'.a.j sz A n xs:=by
 refine⟨h.1,fun h0=>?_⟩;obtain⟨a,hA,hb,hc⟩:=h.2 h0;have hs:=hf.j;refine⟨a,hA,by omega,fun j u hu=>?_⟩;have h1:=hc j u hu;have h2:=hf.block a.block (by omega) (hn _ (AX.2 ⟨a,hA,rfl⟩));unfold World.cell? at h1 ⊢;rw[Bh]at h1 ⊢;rw[h2];exact h1
theorem iF.keep{α:Type}{f:α->Array aC}{sz:Nat}{W W':au}{n:Nat}{A:Option aU}{l:List α}{F:List Nat}(h:iF f sz W W.a.j A n l)(hf:jC F W W')(hn:∀b∈uf A,b∉F):iF f sz W' W'.a.j A n l:=⟨h.1,TV h.2.1 (ay _) hf hn,h.2.2⟩
theorem KL.keep{W W':au}{q g:Nat}{key:Vector UInt8 16}{dX:Int}{s:List (Option Fw)}{l:List Fw}{F:List Nat}(h:KL W q g key dX s l)(hf:jC F W W')(h1:q∉F)(h2:g∉F):KL W' q g key dX s l:=⟨⟨hf.box h.w.h h1,hf.box h.w.sl h2,h.w.ne,h.w.sz⟩,h.r,h.ok⟩
theorem TlR.keep{W W':au}{A1 A2:Option aU}{n1 n2:Nat}{t:Tl}{F:List Nat}(h:TlR W A1 n1 A2 n2 t)(hf:jC F W W')(h1:∀b∈uf A1,b∉F)(h2:∀b∈uf A2,b∉F):TlR W' A1 n1 A2 n2 t:=by
 obtain⟨k1,k2,k3⟩:=h;refine⟨k1.keep hf h1,k2,?_⟩;rcases k3 with k3|⟨g,d,rfl,k4,k5⟩
 ·exact .a k3
 ·exact .b ⟨g,d,rfl,hf.box k4 (h2 g (by simp[uf])),k5⟩
theorem TlR.go{W W':au}{A1 A2:Option aU}{n1 n2:Nat}{t:Tl}(h:TlR W A1 n1 A2 n2 t)(hb:aM W.a.j W W'):TlR W' A1 n1 A2 n2 t:=h.keep (F:=[]) (jC.jA hb) (fun _ _ h=>by cases h) (fun _ _ h=>by cases h)
structure Ms(W:au)(q:Nat)(e:En)(s:qB)(x:Eg)(q2 g:Nat)(sl:List (Option Fw)):Prop where
 eg:dN W q x.aA
 key:x.key=e.key
 cf:x.cf={e.c with qj:=x.cf.qj,Y:=x.cf.Y,ql:=x.cf.ql}
 Y:x.pl.Y=s.Y
 vs:iF Vp.aA 20 W W.a.j x.cf.qj x.cf.Y e.vs
 bk:iF Bk.aA 27 W W.a.j x.pl.rA x.pl.rN s.rX
 hl:iF Hl.aA 3 W W.a.j x.OO x.Eh s.h
 fl:x.fl=some q2
 h:KL W q2 g e.key e.c.dX sl s.I
 rm:e.c.dX*2<=sl.a
 nq:q≠q2/\q≠g
 Af:∀b∈mD x,b<W.a.j/\b≠q/\b≠q2/\b≠g
 gq:x.gq=s.gq
 no:x.no=s.no
 lI:x.lI=s.lI
structure yE(W:au)(q:Nat)(e:En)(s:qB)(x:Eg)(q2 g:Nat)(sl:List (Option Fw)):Prop where
 b:Ms W q e s x q2 g sl
 dn:iF txA 1 W W.a.j x.dnA x.dnN (ou s.h)
 tt:TlR W x.h.qF x.h.mM x.h.oP x.h.lM (wF e s)
variable {W W':au} {q:Nat} {e:En} {s:qB} {x:Eg} {q2 g:Nat} {sl:List (Option Fw)}
theorem Ms.go(h:Ms W q e s x q2 g sl)(hb:aM W.a.j W W'):Ms W' q e s x q2 g sl:=
 ⟨h.eg.go hb,h.key,h.cf,h.Y,h.vs.go hb,h.bk.go hb,h.hl.go hb,h.fl,h.h.go hb,h.rm,h.nq,fun b hm=>by have:=h.Af b hm;have:=hb.j;omega,h.gq,h.no,h.lI⟩
theorem yE.go(h:yE W q e s x q2 g sl)(hb:aM W.a.j W W'):yE W' q e s x q2 g sl:=⟨h.b.go hb,h.dn.go hb,h.tt.go hb⟩
theorem Ms.lt(h:Ms W q e s x q2 g sl):q<W.a.j/\q2<W.a.j/\g<W.a.j:=⟨h.eg.lt,h.h.w.lt⟩
theorem Ms.i(h:Ms W q e s x q2 g sl){b:Nat}(hb:b∈mD x):b∉[q]:=by have:=h.Af b hb;simp;omega
theorem Ms.Xo(h:Ms W q e s x q2 g sl){A:Option aU}{n c:Nat}{t:Tc}(hf:jC [q] W W')(hb:dN W' q ({x with dnA:=A,dnN:=n,dnC:=c,h:=t}:Eg).aA)(hr:∀b,b∈uf A\/b∈uf t.qF\/b∈uf t.oP->b∈mD x\/W.a.j<=b/\b<W'.a.j):Ms W' q e s ({x with dnA:=A,dnN:=n,dnC:=c,h:=t}:Eg) q2 g sl:=by
 have hs:=hf.j;have hlt:=h.lt;refine⟨hb,h.key,h.cf,h.Y,h.vs.keep hf (fun b hm=>h.i (dZ.2 (.a hm))),h.bk.keep hf (fun b hm=>h.i (dZ.2 (.b (.a hm)))),h.hl.keep hf (fun b hm=>h.i (dZ.2 (.b (.b (.a hm))))),h.fl,h.h.keep hf (by have:=h.nq;simp;omega) (by have:=h.nq;simp;omega),h.rm,h.nq,fun b hm=>?_,h.gq,h.no,h.lI⟩;have key:b∈mD x\/W.a.j<=b/\b<W'.a.j:=by
  rcases dZ.1 hm with hm|hm|hm|hm|hm|hm
  ·exact .a (dZ.2 (.a hm))
  ·exact .a (dZ.2 (.b (.a hm)))
  ·exact .a (dZ.2 (.b (.b (.a hm))))
  ·exact hr b (.a hm)
  ·exact hr b (.b (.a hm))
  ·exact hr b (.b (.b hm))
 rcases key with hm|hm
 ·have:=h.Af b hm;omega
 ·omega
theorem oH.few{M:Int}(h:oH M e s):s.rX.a<=1024/\s.h.a<=1024/\∀y∈s.rX,y.E.a<=24:=by
 have h1:=(wZ.1 h.pl)
 have h2:s.h.a=s.rX.a:=by have:=congrArg List.length h.nm;simpa using this
 refine⟨h1.2.2.1,by have:=h1.2.2.1;omega,fun y hy=>?_⟩;have h3:=(h1.2.2.2.1 y hy).1;unfold Bk.Cx vT at h3;simp only[bB,decide_eq_true_eq]at h3;exact h3.1.1.1.2.2
theorem Zx{M:Int}(h:oH M e s)(ls:List (List UInt8)):aqG (kU ls s.rX)/\∀y∈kU ls s.rX,y.E.a<=1000000:=by
 have hf:=h.few;refine⟨⟨?_,?_,?_⟩,?_⟩
 ·unfold Ww kU
  rw[yZ];exact h.srt.imp (fun{a b} hab=>by first|exact hab|exact YW hab)
 ·intro y hy
  unfold kU at hy;obtain⟨z,_,rfl⟩:=iX.1 hy;have:=arJ z.w;unfold Gq;simp only;split<;>omega
 ·unfold kU;rw[bV];exact hf.1
 ·intro y hy
  unfold kU at hy;obtain⟨z,hz,rfl⟩:=iX.1 hy;have:=hf.2.2 z hz;unfold Gq;simp only;omega
theorem aqZ(l:List (List UInt8)):(l.h fun x=>(txA x).a)=l.map fun s=>jl (bP s):=by
 induction l with
 | nil=>rfl
 | cons a l ih=>rw[iO,kK,ih];rfl
theorem iF.st{B n:Nat}{A:Option aU}{l:List (List UInt8)}(h:iF txA 1 W B A n l):aax W B A n l:=by
 have:=h.2.1;rw[aqZ]at this;exact this
theorem Zy(l:List Hl):(ou l).a<=l.a:=by unfold ou;rw[bV];exact oU _ _
theorem oW.Dw{T:bF}{n b:Nat}{z c d:Array aC}(K:oW T n z)(h:dN W b c)(o:Nat)(hc:c.m o (o+n)=d)(hs:o+n<=c.j):(xK T (.c (some ⟨b,o,none⟩))).J aj W=.ok (.d d) W:=by
 obtain⟨_,_,h3,h4⟩:=h.M;rw[K.ld W b o (by rw[h3 o n (by unfold eF;omega)];trivial),h4 o n (by unfold eF;omega),hc]
theorem Eg.akf{x:Eg}(h:dN W q x.aA):W.rangeAt q 0 (x.key.a.map bv):=by
 intro j v hj;have hj6:j<16:=by
  rcases aZ j 16 with h1|h1
  ·exact h1
  ·rw[aT (by simpa using h1)]at hj;cases hj
 have h2:(x.aA.m 0 16)[j]? = (jg x.key)[j]?:=by rw[Eg.abx]
 rw[dz,if_pos (by rw[Eg.I];omega)]at h2;rw[h.M.1,h2];unfold jg;rw[List.getElem?_toArray];exact hj
theorem agI(key:Vector UInt8 16)(n:Nat)(hp:lK n=true)(hn:n<=65537)(l:List pE)(hk:aqG l)(hnm:∀x∈l,x.E.a<=1000000)(A:Option aU)(m c:Nat)(w:au)(hR:iF pE.aA 2 w w.a.j A m l):
 aQ aj 27 #[.d (key.a.map bv).toArray,.b .a n,.a A m c] w fun e w'=>∃t:Tc,e=.a (.K #[.d t.aA,.b .a 0])/\TlR w' t.qF t.mM t.oP t.lM (uw key n l)/\aM w.a.j w w'/\∀b,b∈uf t.qF\/b∈uf t.oP->w.a.j<=b/\b<w'.a.j:=by
 refine(aef key n hp hn l hk hnm A m c w hR).g ?_;rintro e w' ⟨A1,n1,c1,A2,n2,c2,rfl,h1,h2,h3,h4⟩;refine⟨⟨A1,n1,c1,A2,n2,c2⟩,rfl,h1,h2,fun b hb=>?_⟩;rcases hb with hb|hb
 ·obtain⟨a,ha,rfl⟩:=AX.1 hb;exact h3 a ha
 ·obtain⟨a,ha,rfl⟩:=AX.1 hb;exact h4 a ha
def abJ(W:au)(q:Nat)(e:En)(s:qB)(x:Eg)(q2 g:Nat)(sl:List (Option Fw))(r:lu)(W':au):Prop:=
 r=.a (.K #[])/\(∃x',yE W' q e s x' q2 g sl/\∀b∈mD x',b∈mD x\/W.a.j<=b)/\jC [q] W W'
theorem JE{M:Int}(h:Ms W q e s x q2 g sl)(hi:oH M e s):aQ aj 64 #[.c (some ⟨q,0,none⟩)] W (abJ W q e s x q2 g sl):=by
 have akg:=hi.few;obtain⟨⟨sz2,szb,szp⟩,_⟩:=sN hi.cn;have hhn:=h.hl.1;have hbn:=h.bk.1;have CD:=ah (alD s.h x.OO x.Eh x.Sz W h.hl (by omega));unfold TxP at CD;have f72:=(h.eg.M.1 72).trans (Eg.Zu x);have H:=ah h;have HI:=ah hi;have HSH:=ah (Zx hi (ou s.h));have HDN:=ah (Zy s.h);have azX:=ah akg;have HSZ:=ah (show(0<=e.c.j/\e.c.j<=65537)/\lK e.c.j.e=true from⟨⟨by omega,szb⟩,szp⟩);have HHN:=ah hhn;have HBN:=ah hbn;clear hi h akg sz2 szb szp hhn hbn;go_enter Tryz.func64,Tryz.ntmps64;go_upto_region 1 with(go_at_call 130;(with_reducible refine CD.i.g ?_);rintro r w1 ⟨A,n,c,rfl,hn,ho,hb⟩;have aET:=(H.i.eg.go hb).M.2.1 73;have f73:=((H.i.eg.go hb).M.1 73).trans (Eg.anB x);have H1:=ah (H.i.go hb);have O1:=ah ho;have N1:=ah hn;have F1:=ah (jC.jA (F:=[q]) hb);clear hb ho hn f72)
 obtain⟨x1,hx1⟩:∃x1:Eg,x1={x with dnA:=A,dnN:=n,dnC:=c}:=⟨_,rfl⟩
 have hb1:dN (w1.G ⟨q,73,none⟩ (.a A n c)) q x1.aA:=by
  have:=H1.i.eg.eH 73 (.a A n c);rw[Eg.avy]at this;rw[hx1];exact this
 have hf1:jC [q] W (w1.G ⟨q,73,none⟩ (.a A n c)):=F1.i.set ⟨q,73,none⟩ _ (.a (by simp));have HF1:=ah hf1;have HFR:=ah (gW O1.i);have RDN:=ah (show iF txA 1 (w1.G ⟨q,73,none⟩ (.a A n c)) (w1.G ⟨q,73,none⟩ (.a A n c)).a.j A n (ou s.h)from(iF.gV N1.i O1.i).keep ((jC.refl [q] w1).set ⟨q,73,none⟩ _ (.a (by simp))) (fun b hb=>by have:=gW O1.i b hb;have:=H.i.lt;simp;omega));have RBK:=ah (H.i.bk.keep hf1 (fun b hm=>H.i.i (dZ.2 (.b (.a hm)))));have HSW:=ah (show W.a.j<=w1.a.j from F1.i.j);have HWS:(w1.G ⟨q,73,none⟩ (.a A n c)).a.j=w1.a.j:=by simp[iw]
 have HWZ:=ah HWS;have HB1:=ah hb1;generalize w1.G ⟨q,73,none⟩ (.a A n c)=w2 at HF1 RDN RBK HWZ HB1 ⊢;clear hb1 hf1 HWS O1 H1 f73 aET CD F1;have K1:=ah (fun(w':au) (t:Tc) (h:dN w' q ({x1 with h:=t}:Eg).aA)=>show w'.rangeAt q 0 (e.key.a.map bv)/\w'.b ⟨q,17,none⟩=some (.b .a e.c.j)/\(xK 32 (.c (some ⟨q,70,none⟩))).J aj w'=.ok (.d x.pl.aA) w'/\w'.b ⟨q,73,none⟩=some (.a A n c)by
  subst hx1;have hk:x.key=e.key:=H.i.key;have hs:x.cf.j=e.c.j:=by rw[H.i.cf]
  refine⟨?_,?_,kPc.Dw h 70 (Eg.ah6 _) (by rw[Eg.I];omega),(h.M.1 73).trans (Eg.anB _)⟩
  ·have hr:=Eg.akf h;rw[<-hk];exact hr
  ·rw[<-hs];exact(h.M.1 17).trans (Eg.Gv _))
 have HBX:=ah (show dN w2.drew q ({x1 with h:=x.h}:Eg).aA by have:=HB1.i.drew;rw[hx1]at this⊢;exact this);obtain⟨k1,k2,k3,k4⟩:=K1.i _ _ HBX.i;have hxb:=HBN.i;have hdl:=N1.i;have CS:=ah (afv s.rX (fun y hy=>HI.i.fi y hy) x.pl.Y x.pl.rA x.pl.rC (ou s.h) A c w2.drew (by rw[hxb];exact RBK.i.arG) (by rw[hdl];exact RDN.i.arG.st) (by have:=azX.i;omega) (by have:=azX.i;have:=HDN.i;omega));rw[hxb,hdl]at CS;unfold aaJ at CS
 replace CS:=ah (show aQ aj 28 #[.d x.pl.aA,.a A n c] w2.drew _ from CS.i)
 have CM:=ah (fun w (A:Option aU) (m c:Nat) (hR:iF pE.aA 2 w w.a.j A m (kU (ou s.h) s.rX))=>agI e.key e.c.j.e HSZ.i.2 (by have:=HSZ.i.1;omega) _ HSH.i.1 HSH.i.2 A m c w hR);rw[show((e.c.j.e:Nat):Int)=e.c.j from lJ HSZ.i.1.1]at CM;have HX1:=ah hx1;clear hx1 hxb hdl;have hU:=qp;have hI:(aj.l 22).map (·.j)=some (e.key.a.map bv).a:=by rw[bV,nR];kernel_rfl
 go_region_held_law (fun w'=>w'.rangeAt q 0 (e.key.a.map bv)/\w'.b ⟨q,17,none⟩=some (.b .a e.c.j)/\(xK 32 (.c (some ⟨q,70,none⟩))).J aj w'=.ok (.d x.pl.aA) w'/\w'.b ⟨q,73,none⟩=some (.a A n c))
  (first|exact K1.i _ _ HBX.i|exact K1.i _ _ HB3.i|exact K1.i _ _ HB4.i|exact K1.i _ _ HB5.i|go_keep)
  (first
  | (go_at_call 28;(with_reducible refine CS.i.g ?_);rintro r w3 ⟨A3,c3,rfl,ho3,hb3⟩;have HB3:=ah (HBX.i.go hb3);have CM3:=ah (CM.i w3 A3 _ c3 (iF.gV rfl ho3));have BL3:=ah hb3;clear ho3 hb3)
  | (go_at_call 27;(with_reducible refine CM3.i.g ?_);rintro r w4 ⟨t,rfl,ht,hb4,hf4⟩;have HB4:=ah (HB3.i.go hb4);have HT4:=ah ht;have BL4:=ah (iZ BL3.i hb4);have HF4:=ah hf4;have th:=HB4.i.O 75 2 (by rw[Eg.I];omega);have HB5:=ah (show dN (gZ w4 q 75 t.aA) q ({x1 with h:=t}:Eg).aA by have:=HB4.i.setCells 75 t.aA.a;rw[show t.aA.a.toArray=t.aA by simp,Eg.avB]at this;exact this);clear ht hb4 hf4))
 have BW:=ah (iZ ((aH w2.a.j w2).drew) BL4.i);have F4:jC [q] W w4:=HF1.i.S BW.i HF1.i.j;have F5:jC [q] W (gZ w4 q 75 t.aA):=F4.grown (lY (dM w4 (some q)) 75 t.aA) (fun k e=>.a (by injection e with e;simp[e]));have FS:jC [q] w4 (gZ w4 q 75 t.aA):=(jC.refl [q] w4).grown (lY (dM w4 (some q)) 75 t.aA) (fun k e=>.a (by injection e with e;simp[e]));have hsz:=BW.i.j;have aLx:=BL3.i.j;have hw1:=HSW.i;have hwz:=HWZ.i;have hs5:=FS.j;have hq:=H.i.lt;have hnew:∀b,b∈uf A\/b∈uf t.qF\/b∈uf t.oP->W.a.j<=b/\b<(gZ w4 q 75 t.aA).a.j:=fun b hm=>by
  rcases hm with hm|hm
  ·have:=HFR.i b hm;omega
  ·have:=HF4.i b hm
   have h3:w2.drew.a.j=w2.a.j:=rfl;omega
 go_end0;refine⟨rfl,⟨{x with dnA:=A,dnN:=n,dnC:=c,h:=t},⟨H.i.Xo F5 (by have:=HB5.i;rw[HX1.i]at this;exact this) (fun b hm=>.b (hnew b hm)),?_,?_⟩,fun b hm=>?_⟩,F5⟩
 ·have h1:=(RDN.i.go BW.i)
  exact h1.keep FS (fun b hm=>by have:=(hnew b (.a hm)).1;simp;omega)
 ·exact HT4.i.keep FS (fun b hm=>by have:=(hnew b (.b (.a hm))).1;simp;omega) (fun b hm=>by have:=(hnew b (.b (.b hm))).1;simp;omega)
 ·rcases dZ.1 hm with hm|hm|hm|hm|hm|hm
  ·exact .a (dZ.2 (.a hm))
  ·exact .a (dZ.2 (.b (.a hm)))
  ·exact .a (dZ.2 (.b (.b (.a hm))))
  ·exact .b (hnew b (.a hm)).1
  ·exact .b (hnew b (.b (.a hm))).1
  ·exact .b (hnew b (.b (.b hm))).1
end
theorem aei(l:List Bk)(v:Int)(A:Option aU)(n c:Nat)(w:au)(hR:iF Bk.aA 27 w w.a.j A n l)(hn:n<=100000):
 aQ aj 73 #[.d (Pc.mk v A n c).aA] w fun e w'=>∃A' n' c',e=.a (.a A' n' c')/\iF txA 1 w' w'.a.j A' n' (l.map (·.E))/\aM w.a.j w w':=by
 have Z0:=ah ((Rz.nil (f:=nmC) (sz:=1) (e:=9) w).new (Pc.mk v A n c).aA 32);have HL:=ah hR.1;have HR:=ah hR;have f1:=(Z0.i.X.M.1 1).trans (Pc.anA _);clear hR;go_enter Tryz.func73,Tryz.ntmps73;go_upto_region 1 with fail
 generalize w.alloc (.D (Pc.mk v A n c).aA 32)=w1 at Z0 f1 ⊢;go_wp2_with fail;go_loopw [3,9] (fun v3 v9 wr=>∃k A' n' c',k<=n/\v9=.b .a (k:Nat)/\v3=.a A' n' c'/\Rz nmC 1 9 [(w.a.j,(Pc.mk v A n c).aA)] w wr (.a A' n' c') ((l.d k).map (·.E))) (fun _ v9 _=>n-(intOf v9).e)
 case atStart=>exact⟨0,none,0,0,ji _,rfl,rfl,Z0.i⟩
 case round=>
  obtain⟨k,A1,n1,c1,hk,rfl,rfl,hz⟩:=hrel;by_cases hlt:k<n
  ·have hki:(k:Int)<n:=by omega
   have i1:=jV ((k:Int)+1) (by omega);have hr:=(HR.i.S hz.R).lH (B':=wr.a.j) hz.R.j;obtain⟨b,o,rfl,hbl,a1,a2⟩:=hr.fG Bk.I jd hlt;obtain⟨x,hx⟩:=dw (l.c k jd);rw[<-hx]at a2;have HS:=ah (show(l.d (k+1)).map (·.E)=(l.d k).map (·.E)++[x.E]by
    rw[dV (by rw[HL.i];exact hlt),iW,hx,av,aD (by rw[HL.i];exact hlt)];rfl)
   have HZ:=ah hz;have Z2:=ah (hz.alloc (.D x.aA 62));have Z3:=ah (Z2.i.alloc (.D (nmC x.E) 9));have RO:=ah (iF.one (f:=nmC) x.E Ot (wr.alloc (.D x.aA 62)) 9);simp only[tq]at RO;have HGL:=ah (show((l.d k).map (·.E)).a+1<=1000000 by rw[bV,bL];omega);have BX:=dN.new wr x.aA 62;have f0:=(BX.M.1 0).trans (Bk.qG x);clear hx hz hr BX hbl;go_wp2_with (at_builtin;refine PL ah2 rfl (.a 13) (.a 16) rfl rfl Z3.i rfl RO.i HGL.i ?_;intro A5 n5 c5 w5 h5 h6;have Z5:=ah h5;clear h5 h6);go_roundw
   case rel=>exact⟨k+1,A5,n5,c5,by omega,by simp,rfl,by rw[HS.i];exact Z5.i⟩
   case measure=>simp[intOf];omega
  ·obtain rfl:k=n:=by omega
   have hd:decide ((k:Int)<k)=false:=by simp
   have HZ:=ah hz;clear hz;go_wp2;go_ret;have h1:=HZ.i;rw[aL (by rw[HL.i];exact ay _)]at h1;exact⟨A1,n1,c1,rfl,h1.rd,h1.R⟩
section
variable {W W':au} {q:Nat} {e:En} {s:qB} {x:Eg} {q2 g:Nat} {sl:List (Option Fw)}
def Q7(k:Int):aC:=.iface 219 (.b .a k)
def azZ(r:Option (Bk×Bool)):lu:=match r with
 | some (b,h)=>.a (.K #[.d b.aA,.e h])
 | none=>.panicked [{v:=Q7 8,recovered:=false}]
theorem dN.abK{W:au}{b o:Nat}{c:Array aC}{t:Tu}(h:dN W b c)(hc:c.m o (o+37)=t.aA)(hs:o+37<=c.j):(xg (.c (some ⟨b,o,none⟩))).J aj W=.ok (.d t.aA) W:=by
 obtain⟨_,_,h3,h4⟩:=h.M;rw[Ti W b o (by rw[h3 o 37 (by unfold eF;omega)];trivial),h4 o 37 (by unfold eF;omega),hc]
theorem Ms.anJ(h:Ms W q e s x q2 g sl){W':au}(hb:aM W.a.j W W'):W'.b ⟨q,74,none⟩=some (.c (some ⟨q2,0,none⟩)):=by
 rw[(h.eg.go hb).M.1 74,Eg.Zv];show some (sw (x.fl.map fun b=>⟨b,0,none⟩))=_;rw[h.fl];rfl
theorem Ms.agJ(h:Ms W q e s x q2 g sl){W':au}(hb:aM W.a.j W W'):(xK 32 (.c (some ⟨q,70,none⟩))).J aj W'=.ok (.d x.pl.aA) W':=kPc.Dw (h.eg.go hb) 70 (Eg.ah6 _) (by rw[Eg.I];omega)
theorem yE.Vv(h:yE W q e s x q2 g sl){M:Int}(hi:oH M e s){W':au}(hb:aM W.a.j W W')(n:List UInt8)(K:Bool)(b:Bk)(h1:sP s.rX n=K)(h2:qd s.rX n=b):aQ aj 33 #[.d x.pl.aA,.g (bP n)] W' fun e w'=>e=.a (.K #[.d b.aA,.e K])/\aM W'.a.j W' w':=
 ai' s.rX hi.srt n x.pl.Y x.pl.rA x.pl.rN x.pl.rC W' (h.b.bk.go hb) (by have:=hi.few;have:=h.b.bk.1;omega) K b h1 h2
theorem anK(k:Vector UInt8 16)(l:List UInt8):xZ k l<18446744073709551616:=by
 have key:∀(ws:List Nat)(st:S4),st.ok->(∀n∈ws,n<18446744073709551616)->(ws.foldl UH st).ok:=by
  intro ws
  induction ws with
  | nil=>intro st h _;exact h
  | cons n ws ih=>intro st h hw;exact ih _ (aaw h (hw n (by simp))) (fun m hm=>hw m (jX _ hm))
 unfold xZ aly;exact apd (Na 4 _ (aav (key _ _ (ahh k) (Yl _ l _ rfl (fH _ (by decide)))) (by decide)))
theorem anL(r:Option (List UInt8)):asG r = .K #[.g (bP (r.c [])),.e r.isSome]:=by cases r<;>rfl
theorem anM{M:Int}(hi:oH M e s):azV (wF e s)/\(wF e s).rJ.a<=65537/\(wF e s).h.a<=1024:=by
 obtain⟨⟨_,szb,szp⟩,_⟩:=sN hi.cn;have h0:∀y∈kU (ou s.h) s.rX,0<=y.q:=fun y hy=>((Zx hi (ou s.h)).1.2.1 y hy).1
 have hnl:(wF e s).h.a<=1024:=by
  have h1:=hi.few.1;unfold wF uw;simp only;split
  ·simp
  ·simp only[bV]
   refine aP (oU _ _) ?_;unfold kU;rw[bV];exact h1
 rcases Yv (key:=e.key) szp h0 with⟨h1,h2⟩|⟨h1,h2⟩
 ·refine⟨fun j hj=>?_,?_,hnl⟩
  ·have:(wF e s).rJ.a=0:=by unfold wF;rw[h1];rfl
   omega
  ·have:(wF e s).rJ.a=0:=by unfold wF;rw[h1];rfl
   omega
 ·refine⟨fun j hj=>h2 j (by unfold wF at hj;rwa [h1]at hj),?_,hnl⟩
  have:(wF e s).rJ.a=e.c.j.e:=h1;omega
theorem kBk:oW 62 27 jd.aA:=⟨⟨_,Tryz.underlying62,rfl⟩,by kernel_rfl,by kernel_rfl,Bk.I _⟩
theorem dN.avD{W:au}{b:Nat}{y:Bk}(h:dN W b y.aA):(Lv (.c (some ⟨b,0,none⟩))).J aj W=.ok (.d y.aA) W:=by
 have:=kBk.Dw h 0 (d:=y.aA) (by have:=Bk.I y;rw[<-this];simp) (by rw[Bk.I];omega);exact this
theorem XL{M:Int}(h:yE W q e s x q2 g sl)(hi:oH M e s)(t:Tu)(ht:xk t):aQ aj 136 #[.c (some ⟨q,0,none⟩),.d t.aA] W fun r W'=>r=azZ (Jv e s t)/\aM W.a.j W W':=by
 have Z0:=ah (((Bx.start W).new t.aA 81).new jd.aA 62);rw[show(W.alloc (.D t.aA 81)).a.j=W.a.j+1 by simp]at Z0;have H:=ah h;have HI:=ah hi;have HT:=ah ht;obtain⟨o,ho⟩:=dw (pW s.I t);have HO:=ah ho;have CG:=ah (fun(w:au) (hb:aM W.a.j W w)=>Kl (H.i.b.h.go hb) t);rw[<-ho]at CG;have hcg:∀o,anj o = .K #[.d (vZ o).qZ.aA,.e o.isSome]:=fun _=>rfl
 simp only[hcg]at CG;clear h hi ht ho hcg;go_enter Tryz.func136,Tryz.ntmps136;go_upto_region 1 with fail
 generalize(W.alloc (.D t.aA 81)).alloc (.D jd.aA 62)=w1 at Z0 ⊢;refine xu (Bx.abg ([(W.a.j+1,jd.aA),(W.a.j,t.aA)]) W) 9 10 8 6 22 86 ko.aA (by kernel_rfl) rfl rfl rfl rfl rfl (by kernel_rfl) (by kernel_rfl) (by kernel_rfl) (by kernel_rfl) (by kernel_rfl) rfl rfl rfl (fun a w=>by simp[go_sem]) (tN rfl) Z0.i.drew ?_;apply rO;refine⟨fun T f hT es ew=>?_,?_⟩
 ·have EW:=ah ew
  have ES:=ah es;have l1:=fun m=>pQ (ES.i m).b1
  have l2:=fun m=>H.i.b.anJ (ES.i m).R
  have CF:=ah (fun m=>CG.i _ (ES.i m).R);clear es ew;simp only[mV,yx,kV,bI,bM,jP,jZ]
  repeat(go_big_quiet_step ((first|(go_at_call 126;(with_reducible refine(CF.i _).g ?_);rintro e w2 ⟨rfl,hb⟩;exact⟨rfl,EW.i _ _ hb⟩))))
  exact gN rfl
 ·intro w9 w8 zT _ hb
  have ZN:=ah ((zT.new ko.aA 86).go hb);have hyy:=ah zT;have hy:=zT.R.j;have hyv:=ah (fun p (hp:p∈[(W.a.j+1,jd.aA),(W.a.j,t.aA)])=>((zT.2 p hp).2.lt:p.1<w9.a.j));generalize w9.a.j=y at *;clear hb zT;have yO:=ZN.i.X.O 0 41 (aY (Fw.I ko).symm);refine⟨gZ w8 y 0 (vZ o).qZ.aA,?_,?_⟩
  ·simp[go_sem,yO];rfl
  simp only[Act.put,bJ,bI,bM,jQ,kZ];have Z5:=ah (ZN.i.put (fun p hp=>jN (hyv.i p hp)) (vZ o).qZ.aA (by rw[Fw.I,Fw.I]));have HYB:=ah (fun p hp=>hyv.i p hp);clear yO ZN hyy hyv;generalize gZ w8 y 0 (vZ o).qZ.aA=w9 at Z5 ⊢;go_step;go_step;go_step;have hlt:=H.i.b.lt;have hyW:W.a.j<=y:=by have:=HYB.i (W.a.j,t.aA) (by simp);simp at this;omega
  obtain⟨z,hz⟩:=dw ((match o with|some f=>!xH (ou s.h) f.E|none=>false));go_upto_region 2 with fail
  go_cut [33]from 23 to 32 (fun s33 wx=>s33=.e z/\Bx [(y,(vZ o).qZ.aA),(W.a.j+1,jd.aA),(W.a.j,t.aA)] W wx)
  case first=>
   cases o with
   | none=>
     go_wp2_with fail;go_quiet (fail);go_wp2_with fail;go_meet
     case rel=>exact⟨by rw[hz],Z5.i.go (fJ (aH _ _) nq)⟩
   | some f=>
     have CC:=ah (fun n=>Nb (ou s.h) f.E x.dnA x.dnC (w9.drewN n) (by rw[H.i.dn.1];exact(H.i.dn.go (Z5.i.R.trans ((fJ (aH W.a.j _) n).g (ay _)))).st) (by have:=Zy s.h;have:=HI.i.few;omega));rw[H.i.dn.1]at CC;have f73:=((H.i.b.eg.go Z5.i.R).M.1 73).trans (Eg.anB x);have f37:=(Z5.i.X.M.1 37).trans (Fw.afG f);go_wp2_with fail;go_quiet ((go_at_call 87;(with_reducible refine(CC.i _).g ?_);rintro e w2 ⟨rfl,rfl⟩;exact⟨rfl,_,rfl⟩));go_wp2_with fail;go_meet
     case rel=>exact⟨by rw[hz],Z5.i.go (fJ (aH _ _) nq)⟩
  obtain⟨rfl,Z6⟩:=hcut;have Z6:=ah Z6;generalize wc=w10 at Z6 ⊢;clear Z5 CG;go_upto_if 33 with fail
  go_cut []from 34 to 45 (fun wx=>Oh s t=none/\Bx [(W.a.j+1,jd.aA),(W.a.j,t.aA)] W wx)
  case first=>
   cases z with
   | false=>
     have HN:Oh s t=none:=by
      unfold Oh;rw[<-HO.i];cases o with
      | none=>rfl
      | some f=>simp only at hz⊢;rw[<-hz];simp
     go_wp2_with fail;go_meet
     case rel=>exact⟨HN,Z6.i.sub (L':=[(W.a.j+1,jd.aA),(W.a.j,t.aA)]) (by simp)⟩
   | true=>
     cases o with
     | none=>cases hz
     | some fl=>
       have HD:=ah (show xH (ou s.h) fl.E=false by simpa using hz.symm);obtain⟨K,hK⟩:=sQ (sP s.rX fl.E);obtain⟨b,hb⟩:=sQ (qd s.rX fl.E);have CP:=ah (fun w (hb':aM W.a.j W w)=>H.i.Vv HI.i hb' fl.E K b hK hb);have HK:=ah hK;have Ig:=ah hb;have HO2:=ah HO.i;have Z6:=ah (show Bx [(y,fl.aA),(W.a.j+1,jd.aA),(W.a.j,t.aA)] W w10 from Z6.i);clear hK hb hz;go_upto_region 3 with fail
       refine xu (Bx.abg ([(y,fl.aA),(W.a.j+1,jd.aA),(W.a.j,t.aA)]) W) 10 11 9 8 43 62 jd.aA (by kernel_rfl) rfl rfl rfl rfl rfl (by kernel_rfl) (by kernel_rfl) (by kernel_rfl) (by kernel_rfl) (by kernel_rfl) rfl rfl rfl (fun a w=>by simp[go_sem]) (tN rfl) Z6.i.drew ?_;apply rO;refine⟨fun T f hT es ew=>?_,?_⟩
       ·have EW:=ah ew
        have ES:=ah es;have l1:=fun m=>H.i.b.agJ (ES.i m).R
        have l2:=fun m=>((ES.i m).X.M.1 37).trans (Fw.afG fl)
        have CF:=ah (fun m=>CP.i _ (ES.i m).R);clear es ew;simp only[mV,yx,kV,bI,bM,jP,jZ]
        repeat(go_big_quiet_step ((first|(go_at_call 33;(with_reducible refine(CF.i _).g ?_);rintro e w2 ⟨rfl,hb⟩;exact⟨rfl,EW.i _ _ hb⟩))))
        exact gN rfl
       ·intro w9 w8 zT _ hb
        have ZN:=ah ((zT.new jd.aA 62).go hb);have hyy:=ah zT;have hy:=zT.R.j;have hyv:=ah (fun p (hp:p∈[(y,fl.aA),(W.a.j+1,jd.aA),(W.a.j,t.aA)])=>((zT.2 p hp).2.lt:p.1<w9.a.j));generalize w9.a.j=y_1 at *;clear hb zT;have yO:=ZN.i.X.O 0 27 (aY (Bk.I jd).symm);refine⟨gZ w8 y_1 0 b.aA,?_,?_⟩
        ·simp[go_sem,yO];rfl
        simp only[Act.put,bJ,bI,bM,jQ,kZ];have Z7:=ah (ZN.i.put (fun p hp=>jN (hyv.i p hp)) b.aA (by rw[Bk.I,Bk.I]));have HYC:=ah (fun p hp=>hyv.i p hp);clear yO ZN hyy hyv CP;generalize gZ w8 y_1 0 b.aA=w11 at Z7 ⊢;go_step;go_step;go_step;cases K with
        | false=>
          have HN:=ah (show Oh s t=none by unfold Oh;rw[<-HO2.i];simp only;rw[HK.i];rfl);go_wp2_with fail;go_meet
          case rel=>exact⟨HN.i,Z7.i.sub (L':=[(W.a.j+1,jd.aA),(W.a.j,t.aA)]) (by simp)⟩
        | true=>
          have HN:=ah (show Jv e s t=some (b,true)by
           have:Oh s t=some fl.E:=au6 HO2.i.symm HK.i HD.i;unfold Jv;rw[this];simp only;rw[Ig.i])
          have lb:=Z7.i.X.avD;have th:=Z7.i.b2.O 0 27 (aY (Bk.I jd).symm);have Z8:=ah ((Z7.i.sub (L':=[(W.a.j+1,jd.aA),(W.a.j,t.aA)]) (by simp)).put (fun p hp=>by simp at hp;subst hp;simp) b.aA (by rw[Bk.I,Bk.I]));go_wp2;refine aO (kBk.qK rfl _ rfl Z8.i.X (Bk.I _)) rfl ?_;rw[HN.i];exact⟨rfl,Z8.i.R⟩
  obtain⟨hn,Zc⟩:=hcut;have HN:=ah hn;have Zc:=ah Zc;have hok:=anM HI.i;obtain⟨hh,hhe⟩:∃v,v=xZ e.key (MC t):=⟨_,rfl⟩
  have hhl:hh<18446744073709551616:=by rw[hhe];exact anK _ _
  have CH:=ah (fun w=>QU e.key t HT.i w);rw[<-hhe]at CH;obtain⟨r,hr⟩:=dw (Hr (wF e s) hh);have CK:=ah (fun w (hb:aM W.a.j W w)=>show aQ aj 35 #[.d x.h.aA,.b .u64 (hh:Nat)] w fun e w'=>e=.a (.K #[.g (bP (r.c [])),.e r.isSome])/\aM w.a.j w w' by
   rw[<-anL,hr];exact agF (wF e s) hok.1 hh hhl x.h.qF x.h.mM x.h.zA x.h.oP x.h.lM x.h.vY w (H.i.tt.go hb) (by have:=H.i.tt.2.1;omega) (by have:=H.i.tt.1.1;omega))
  have HRR:=ah (show Hr (wF e s) (ahL e t)=r by rw[hr,hhe];rfl);clear hn hok hhe hhl hr Z6 hz hyW;generalize wc=w12 at Zc ⊢;go_wp2_with fail;obtain⟨T,f,n0,E0,es,ew⟩:=xO (w12);have hT:Nonempty T:=⟨n0⟩
  have ES:=ah es;have EW:=ah ew;have l1:=fun m=>pQ (Zc.i.go (es m)).b1
  have l2:=fun m=>kTc.Dw (H.i.b.eg.go (Zc.i.go (es m)).R) 75 (Eg.anC _) (by rw[Eg.I];omega)
  have l3:∀m,(xK 22 (.c (some ⟨q,0,none⟩))).J aj (f m)=.ok (.d (jg e.key)) (f m):=fun m=>by have:=Sr.Dw (H.i.b.eg.go (Zc.i.go (es m)).R) 0 (Eg.abx _) (by rw[Eg.I];omega);rw[H.i.b.key]at this;exact this
  have CK2:=ah (fun m=>CK.i (f m) (Zc.i.go (es m)).R);clear es ew;refine nW f (by kernel_rfl) (by kernel_rfl) n0 E0 ?_
  repeat(go_big_quiet_step ((first|(go_at_call 36;(with_reducible refine(CH.i _).g ?_);rintro e w2 ⟨rfl,hb⟩;exact⟨rfl,EW.i _ ((ES.i _).trans (hb.g (ES.i _).j))⟩)|(go_at_call 35;(with_reducible refine(CK2.i _).g ?_);rintro e w2 ⟨rfl,hb⟩;exact⟨rfl,EW.i _ ((ES.i _).trans (hb.g (ES.i _).j))⟩))))
  refine gN ?_;rintro _ ⟨m',rfl⟩;have HB:=ah (ES.i m');generalize f m'=wN at *;clear ES EW E0 hT n0;clear l1 l2 l3 CK2;have Z9:=ah (Zc.i.go HB.i);clear Zc HB CK CH;cases r with
  | none=>
    have HE:=ah (show Jv e s t=none by unfold Jv;rw[HN.i];simp only;rw[HRR.i];rfl);go_wp2;rw[HE.i];exact⟨rfl,rfl,Z9.i.R⟩
  | some n=>
    obtain⟨K,hK⟩:=sQ (sP s.rX n);obtain⟨b,hb⟩:=sQ (qd s.rX n);have HE:=ah (show Jv e s t=some (b,false)by unfold Jv;rw[HN.i];simp only;rw[HRR.i,Option.map_some,hb]);have CP:=ah (H.i.Vv HI.i Z9.i.R n K b hK hb);have l1:=H.i.b.agJ Z9.i.R;clear hK hb;go_wp2_with (go_at_call 33;(with_reducible refine CP.i.g ?_);rintro r w13 ⟨rfl,az0⟩;have Z10:=ah ((Z9.i.go az0).new b.aA 62);have lb:=Z10.i.X.avD;have th:=Z10.i.b1.O 0 27 (aY (Bk.I jd).symm);clear az0 l1);have Z8:=ah ((Z10.i.sub (L':=[(W.a.j+1,jd.aA),(W.a.j,t.aA)]) (by simp)).put (fun p hp=>by simp at hp;subst hp;simp) b.aA (by rw[Bk.I,Bk.I]));refine aO (kBk.qK rfl _ rfl Z8.i.X (Bk.I _)) rfl ?_;rw[HE.i];exact⟨rfl,Z8.i.R⟩
end
section
attribute [local go_sem high] jc jK
theorem az1:ajm 351:=⟨fun c w=>by
 go_enter Tryz.func351,Tryz.ntmps351;go_wp2;go_ret;exact⟨rfl,rfl⟩,fun args w=>by kernel_rfl⟩
theorem akh(s:Bool)(a:fE)(w:au):aQ aj 307 #[.e s,.d a.aA] w (gy w (.e (a.h==s&&(s||a.mU)))):=by
 have HB:=ah ((aH w.a.j w).alloc (ay _) (.D a.aA 27));have x0:=dN.new w a.aA 27;have C:=ah (ahD _ az1 _ 12 12 _ _ _ (by omega) (fZ.tail (B:=w.a.j+1) (mP _) x0));have HS:=ah (Ki a);obtain⟨z,hz⟩:=dw (nzB (a.b.a.f 4));rw[<-hz]at C HS;clear hz;have HZ:=ah (show a.mU = !z by rw[HS.i];simp);rw[HZ.i];obtain⟨x1,x2,x3,x4⟩:=x0.M;have a0:=fE.qG a;cases s<;>cases h6:a.h
 all_goals
  rw[h6]at a0;go_enter Tryz.func307,Tryz.ntmps307
  first
   | (go_wp2
      go_ret;exact⟨rfl,HB.i⟩)
   | (go_wp2_with fail
      refine C.i.g ?_;rintro e w' ⟨rfl,rfl⟩;cases z
      all_goals
       go_wp2;go_ret;exact⟨rfl,HB.i⟩)
theorem WR(W:au)(A:Option aU)(n c:Nat)(l:List UInt8)(k:Nat)(hk:k+1<n)(hnc:n<=c)(hc:c<=9223372036854775807/\n<=1000000)(hr:fZ W W.a.j A n l):aQ aj 312 #[.a A n c,.b .a k] W (gy W (.b .u16 (fq l k:Nat))):=by
 have hl:=hr.len;have h0:=ah (vH l k);have h1:(k:Int)+2<=c:=by omega
 have h2:(k:Int)<=(k:Int)+2:=by omega
 obtain⟨m,hm⟩:∃m:Nat,m=k+2:=⟨_,rfl⟩
 have h3:(k:Int)+2=m:=by omega
 have w1:=jV ((k:Int)+2) (by omega);have h4:(k:Int)<=m:=by omega
 have h5:(m:Int)<=c:=by omega
 have P:=hr.adz (z:=k) (b:=m) (c:=c) (by omega) (by omega) hnc;have e2:(l.d m).f k=(l.f k).d 2:=by rw[rE,hm,kI]
 rw[e2]at P;have C:=ah (MI _ (m-k) (c-k) _ W (by omega) (by omega) P);rw[Jm l k (by omega)]at C;have h6:Dz.wrap (fq l k:Nat)=(fq l k:Nat):=by have:=h0.i;simp[vK,nY,lZ];omega
 generalize fq l k=x at *;clear P hr e2 hm;go_enter Tryz.func312,Tryz.ntmps312;go_wp2_with (go_at_call 180;with_reducible refine C.i.g ?_;rintro e w' ⟨rfl,hb⟩);go_ret
 first
 | exact⟨rfl,hb⟩
 | exact⟨congrArg (fun z=>Ending.returned (.b .u16 z)) h6,hb⟩
theorem GU{B:Nat}{L:List (Nat×Array aC)}{w0 W:au}{A:Option aU}{c:Nat}{bs:List UInt8}(h:Ly B L w0 W (.a A bs.a c) bs)(k z:Nat)(hz:z<=65535)(hk:k+2<=bs.a)(hl:bs.a<=1000000):aQ aj 310 #[.a A bs.a c,.b .a k,.b .u16 z] W fun e W'=>e=.a (.K #[])/\Ly B L w0 W' (.a A bs.a c) (sj bs k (qm z)):=by
 obtain⟨g,hg1,hg2,hg3,hg4,hg5⟩:=h.h (by omega);subst hg1;have LD:=ah h.drew;have q7:jB.wrap (z:Int)=(z:Int):=by rw[jT];omega
 have PZ:=ah (fun W=>wD z hz W);rw[uW z hz]at PZ;obtain⟨n,hn⟩:=dw bs.a;have HN:=ah hn;rw[<-hn]at LD hg3 hk hl ⊢;have k1:(k:Int)<=n:=by omega
 have HP:=ah (show 0<2->∃g',(some ⟨g,0,none⟩:Option aU)=some ⟨g',0,none⟩/\vI (some ⟨g,0,none⟩) k c 1=some ⟨g',k,none⟩from fun _=>⟨g,rfl,Qc (n:=0) (by omega)⟩);have HZ:=ah (show k+2<=bs.a by omega);have HM:=ah (show 2=qw 2 (n-k)by show 2=min 2 (n-k);omega);clear hn hg2 h;go_enter Tryz.func310,Tryz.ntmps310;go_wp2_with fail;go_region_held_law (fun _=>True) (trivial)
  (first
  | (go_at_call 184;(with_reducible refine(PZ.i _).g ?_);rintro e w9 ⟨A9,rfl,ho,hb⟩;have R9:=ah (Dq ho (aH _ _));have L9:=ah (LD.i.go hb);clear ho hb)
  | (refine Og (o:=⟨some 12,_,_,_,_,_⟩) rfl (.a 8) (.a 11) rfl (some ⟨g,0,none⟩) n c L9.i k 2 (vI (some ⟨g,0,none⟩) k c 1) (n-k) (c-k) rfl A9 2 2 rfl R9.i HM.i HP.i HZ.i ?_;intro w10 h10 h11;have L10:=ah h10;clear h10 h11))
 go_wp2;go_end0;exact⟨rfl,L10.i⟩
end
structure Pz where
 h:Int
 j:Int
 nu:Int
def Pz.aA(x:Pz):Array aC:=#[.b .a x.h,.b .a x.j,.b .a x.nu]
theorem Pz.I(x:Pz):x.aA.j=3:=by simp[Pz.aA]
theorem Pz.cO(x:Pz):x.aA.all (·.h)=true:=by simp[Pz.aA,dx]
@[go_sem]theorem Pz.eF(x:Pz):eF x.aA=3:=Pz.I x
@[go_sem]theorem Pz.Dr(x:Pz):x.aA[0]? = some (.b .a x.h):=by simp[Pz.aA,aG]
@[go_sem]theorem Pz.Gv(x:Pz):x.aA[1]? = some (.b .a x.j):=by simp[Pz.aA,aG]
@[go_sem]theorem Pz.Kc(x:Pz):x.aA[2]? = some (.b .a x.nu):=by simp[Pz.aA,aG]
theorem Pz.aej(x:Pz)(v:Int):x.aA.b 0 (.b .a v)=({x with h:=v}:Pz).aA:=by simp[Pz.aA,aN]
theorem Pz.aek(x:Pz)(v:Int):x.aA.b 2 (.b .a v)=({x with nu:=v}:Pz).aA:=by simp[Pz.aA,aN]
def abL:Pz:=⟨0,0,0⟩
@[go_sem]theorem az2:cK #[aJ bU 0,aJ bU 0,aJ bU 0]=cK abL.aA:=rfl
@[go_sem]theorem avE:eO #[aJ bU 0,aJ bU 0,aJ bU 0] 376=eO abL.aA 376:=rfl
theorem kPz:oW 376 3 abL.aA:=⟨⟨_,DU,rfl⟩,by kernel_rfl,by kernel_rfl,Pz.I _⟩
@[go_sem ↓]theorem aLA(v:aC):cZ 376 v=xK 376 v:=rfl
@[go_sem ↓]theorem aLB(v x:aC):eU 376 v x=zk 376 v x:=rfl
@[go_sem]theorem aEW(W:au)(c:Array aC)(x:Pz)(b:Nat)(hb:b=W.a.j)(hc:eF c=3):(zk 376 (.c (some ⟨b,0,none⟩)) (.d x.aA)).J aj (W.alloc (.D c 376))=.ok () (W.alloc (.D x.aA 376)):=kPz.stN W c x.aA b hb hc (Pz.I x) (Pz.cO x)
@[go_sem]theorem aHZ(W:au)(b o:Nat)(x:Pz)(h:W.O b o 3):(zk 376 (.c (some ⟨b,o,none⟩)) (.d x.aA)).J aj W=.ok () (gZ W b o x.aA):=kPz.st W b o x.aA h (Pz.I x) (Pz.cO x)
@[go_sem ↓]theorem aLC(ps:Array (Nat×aC)):fM 376 ps=uJ 376 ps:=rfl
theorem aEX(w:au)(fs:Array oh)(h:aj.underlying 376=some (.struct fs)):(iG (fun f=>Prod.mk f.Z <$> sizeOf f.type) fs:Sem (Array (Nat×Nat))).J aj w=.ok #[(0,1),(1,1),(2,1)] w:=by
 have e:=DU;rw[h]at e;cases e;show _=_
 kernel_rfl
@[go_sem]theorem az3(W:au)(iV:Int)(size:Int)(nu:Int):(uJ 376 #[(0,.b .a iV),(1,.b .a size),(2,.b .a nu)]).J aj W=.ok (.d (Pz.mk iV size nu).aA) W:=kPz.bd W _ _ _ _ DU (aEX W _ DU) (by
 refine uS (Pz.I _) ?_ ?_
 ·simp[rM,bZ]
 ·simp[qW,bZ,Pz.aA]<;>(simp only[<-gB];rfl))
def AY(p:Pk)(dst:Bool):Pz:=⟨(p.C8+if p.K.h.h then 8 else 12)+(if dst then(if p.K.h.h then 16 else 4)else 0),if p.K.h.h then 16 else 4,p.tu+if dst then 2 else 0⟩
theorem ael(p:Pk)(dst:Bool)(h1:0<=p.C8/\p.C8<=10000000)(h2:0<=p.tu/\p.tu<=10000000)(w:au):aQ aj 309 #[.d p.aA,.e dst] w (gy w (.d (AY p dst).aA)):=by
 have h0:=((Bx.start w).new p.aA 83).new abL.aA 376;rw[show(w.alloc (.D p.aA 83)).a.j=w.a.j+1 by simp]at h0;have Z0:=ah h0;have HV:=ah (show AY p dst=⟨(p.C8+if p.K.h.h then 8 else 12)+(if dst then(if p.K.h.h then 16 else 4)else 0),if p.K.h.h then 16 else 4,p.tu+if dst then 2 else 0⟩from rfl);clear h0;have KS:=ah (fun(w':au) (h:dN w' w.a.j p.aA)=>show w'.b ⟨w.a.j,1,none⟩=some (.e p.K.h.h)/\w'.b ⟨w.a.j,39,none⟩=some (.b .a p.C8)/\w'.b ⟨w.a.j,40,none⟩=some (.b .a p.tu)from⟨(h.M.1 1).trans (by simp[Pk.aA,Tu.aA,aG,fE.I,Tu.I];rfl),(h.M.1 39).trans (Pk.amu p),(h.M.1 40).trans (Pk.amv p)⟩);go_enter Tryz.func309,Tryz.ntmps309;go_upto_region 1 with fail
 generalize(w.alloc (.D p.aA 83)).alloc (.D abL.aA 376)=w0 at Z0 ⊢;obtain⟨f1,f2,f3⟩:=KS.i _ Z0.i.b1;have q1:=jV (p.C8+12) (by omega);have q2:=jV (p.C8+8) (by omega);have P0:=ah (Z0.i.new (Pz.mk (p.C8+12) 4 p.tu).aA 376);have hy:=Z0.i.X.lt;go_upto_region 2 with fail
 generalize w0.alloc (.D (Pz.mk (p.C8+12) 4 p.tu).aA 376)=w1 at P0 ⊢;generalize w0.a.j=y at P0 hy ⊢;clear f1 f2 f3;obtain⟨f1,f2,f3⟩:=KS.i _ P0.i.b2;cases hs:p.K.h.h
 case false=>
  rw[hs]at f1;cases hd:dst
  case false=>
   go_upto_region 7 with fail
   have l5:=kPz.mW P0.i.X (Pz.I _);have yO:=P0.i.b1.O 0 3 (aY (Pz.I abL).symm);have ZF:=ah ((P0.i.swap).put (fun r hr=>by
    simp only[bE,fO,or_false]at hr;rcases hr with rfl|rfl<;>simp only[]<;>omega) (Pz.mk (p.C8+12) 4 p.tu:Pz).aA (by rw[Pz.I,Pz.I]))
   go_wp2;refine aO (kPz.zm rfl _ rfl ZF.i.X (Pz.I _)) rfl ?_;refine⟨?_,ZF.i.R⟩;simp[AY,hs,hd]
  case true=>
   have c0:=(P0.i.X.M.1 0).trans (Pz.Dr _);have c1:=(P0.i.X.M.1 1).trans (Pz.Gv _);have z0:=P0.i.X.M.2.1 0;have q5:=jV (p.C8+12+4) (by omega);have P1:=P0.i.set (fun r hr=>by
    simp only[bE,fO,or_false]at hr;rcases hr with rfl|rfl<;>simp only[]<;>omega) 0 (.b .a (p.C8+12+4))
   rw[Pz.aej]at P1;have P1:=ah P1;go_upto_region 6 with fail
   clear c0 c1 z0;generalize w1.G ⟨y,0,none⟩ (.b .a (p.C8+12+4))=w8 at P1 ⊢;have c2:=(P1.i.X.M.1 2).trans (Pz.Kc _);have z2:=P1.i.X.M.2.1 2;have q6:=jV (p.tu+2) (by omega);have P2:=P1.i.set (fun r hr=>by
    simp only[bE,fO,or_false]at hr;rcases hr with rfl|rfl<;>simp only[]<;>omega) 2 (.b .a (p.tu+2))
   rw[Pz.aek]at P2;have P2:=ah P2;go_upto_region 7 with fail
   clear c2 z2;generalize w8.G ⟨y,2,none⟩ (.b .a (p.tu+2))=w9 at P2 ⊢;have l5:=kPz.mW P2.i.X (Pz.I _);have yO:=P2.i.b1.O 0 3 (aY (Pz.I abL).symm);have ZF:=ah ((P2.i.swap).put (fun r hr=>by
    simp only[bE,fO,or_false]at hr;rcases hr with rfl|rfl<;>simp only[]<;>omega) (Pz.mk (p.C8+12+4) 4 (p.tu+2):Pz).aA (by rw[Pz.I,Pz.I]))
   go_wp2;refine aO (kPz.zm rfl _ rfl ZF.i.X (Pz.I _)) rfl ?_;refine⟨?_,ZF.i.R⟩;simp[AY,hs,hd]
 case true=>
  rw[hs]at f1;have aEY:=P0.i.X.O 0 3 (aY (Pz.I _).symm);have Q0:=ah (P0.i.put (fun r hr=>by
   simp only[bE,fO,or_false]at hr;rcases hr with rfl|rfl<;>simp only[]<;>omega) (Pz.mk (p.C8+8) 16 p.tu).aA (by rw[Pz.I,Pz.I]))
  go_upto_region 4 with fail
  clear f1 f2 f3 aEY;generalize gZ w1 y 0 (Pz.mk (p.C8+8) 16 p.tu).aA=w2 at Q0 ⊢;cases hd:dst
  case false=>
   go_upto_region 7 with fail
   have l5:=kPz.mW Q0.i.X (Pz.I _);have yO:=Q0.i.b1.O 0 3 (aY (Pz.I abL).symm);have ZF:=ah ((Q0.i.swap).put (fun r hr=>by
    simp only[bE,fO,or_false]at hr;rcases hr with rfl|rfl<;>simp only[]<;>omega) (Pz.mk (p.C8+8) 16 p.tu:Pz).aA (by rw[Pz.I,Pz.I]))
   go_wp2;refine aO (kPz.zm rfl _ rfl ZF.i.X (Pz.I _)) rfl ?_;refine⟨?_,ZF.i.R⟩;simp[AY,hs,hd]
  case true=>
   have c0:=(Q0.i.X.M.1 0).trans (Pz.Dr _);have c1:=(Q0.i.X.M.1 1).trans (Pz.Gv _);have z0:=Q0.i.X.M.2.1 0;have q5:=jV (p.C8+8+16) (by omega);have P1:=Q0.i.set (fun r hr=>by
    simp only[bE,fO,or_false]at hr;rcases hr with rfl|rfl<;>simp only[]<;>omega) 0 (.b .a (p.C8+8+16))
   rw[Pz.aej]at P1;have P1:=ah P1;go_upto_region 6 with fail
   clear c0 c1 z0;generalize w2.G ⟨y,0,none⟩ (.b .a (p.C8+8+16))=w8 at P1 ⊢;have c2:=(P1.i.X.M.1 2).trans (Pz.Kc _);have z2:=P1.i.X.M.2.1 2;have q6:=jV (p.tu+2) (by omega);have P2:=P1.i.set (fun r hr=>by
    simp only[bE,fO,or_false]at hr;rcases hr with rfl|rfl<;>simp only[]<;>omega) 2 (.b .a (p.tu+2))
   rw[Pz.aek]at P2;have P2:=ah P2;go_upto_region 7 with fail
   clear c2 z2;generalize w8.G ⟨y,2,none⟩ (.b .a (p.tu+2))=w9 at P2 ⊢;have l5:=kPz.mW P2.i.X (Pz.I _);have yO:=P2.i.b1.O 0 3 (aY (Pz.I abL).symm);have ZF:=ah ((P2.i.swap).put (fun r hr=>by
    simp only[bE,fO,or_false]at hr;rcases hr with rfl|rfl<;>simp only[]<;>omega) (Pz.mk (p.C8+8+16) 16 (p.tu+2):Pz).aA (by rw[Pz.I,Pz.I]))
   go_wp2;refine aO (kPz.zm rfl _ rfl ZF.i.X (Pz.I _)) rfl ?_;refine⟨?_,ZF.i.R⟩;simp[AY,hs,hd]
section
attribute [local go_sem high] jc jK
@[go_sem]theorem Pk.avF(x:Pk):x.aA[1]? = some (.e x.K.h.h):=by simp[Pk.aA,Tu.aA,aG,fE.I,Tu.I];rfl
@[go_sem]theorem Pk.az4(x:Pk):x.aA[35]? = some (.b .a x.K.aR):=by simp[Pk.aA,Tu.aA,tuT,aG,fE.I,Tu.I]
theorem WS(l:List UInt8)(A:Option aU)(n c:Nat)(w:au)(hR:fZ w w.a.j A n l)(hn:n<=1073741824):
 aQ aj 308 #[.a A n c] w (ClY w n l):=by
 have hll:=hR.len;cases A with
 | some a=>
   have hnil:∀W:au,(binOp .eql 56 (.a (some a) n c) (.a none 0 0)).J aj W=.ok (.e false) W:=fun W=>by
    simp only[binOp];simp[jf,cu]
   obtain⟨i0,hi0,hz0,hz1,hzb⟩:=xB FM;have hz2:(aJ .u8 0).D.j=1:=rfl;have O1:=ah (show(w.alloc (.D #[] 5)).c w.a.j 5 1 (.a (some ⟨w.a.j,0,none⟩) 0 0) 0 []from lN w #[] 0 (ay _) (by unfold maxLen;omega) rfl);have O2:=ah (hR.alloc (ay _) (.D #[] 5));have ME:=ah (show 0+n<=maxLen by unfold maxLen;omega);have Kw:=ah (show(0+n)*1<=140737488355328 by omega);have O3:=ah (show w.a.j<=(w.alloc (.D #[] 5)).a.j by simp);have ON:=ah (Di l);clear hR hll;go_enter Tryz.func308,Tryz.ntmps308;go_wp2_with (at_builtin;refine iT _ rfl (.a 5) (.a 6) _ rfl w.a.j 5 i0 (.b .u8 0) 1 1 cu hi0 hz0 hz1 hzb hz2 (kX _) (.a (some ⟨w.a.j,0,none⟩) 0 0) 0 [] rfl O1.i w.a.j (some a) n c (l.map bv) rfl O2.i ON.i ME.i Kw.i O3.i ?_;intro v1 w1 hown1 hg1 uN);obtain⟨A',c',hv,_,_⟩:=jw hown1;subst hv;simp only[bl,dG]at hown1;have hb:=qM ((aH w.a.j w).alloc (ay _) (.D #[] 5)) hg1 (ay _) O3.i;go_wp2;go_ret;exact⟨A',c',by simp,hown1,hb⟩
 | none=>
   have h0:n=0:=by
    rcases eD n with h0|h0
    ·exact h0
    ·obtain⟨a,ha,_⟩:=hR.2 h0;cases ha
   subst h0;have hl:l=[]:=bG hll;subst hl;have hnil:∀W:au,(binOp .eql 56 (.a none 0 c) (.a none 0 0)).J aj W=.ok (.e true) W:=fun W=>by
    simp only[binOp];simp[jf,cu]
   have FIN:=ah (show ClY w 0 [] (.a (.a none 0 0)) w from⟨none,0,rfl,fB _ _ _ _,aH _ _⟩);clear hR hll;go_enter Tryz.func308,Tryz.ntmps308;go_wp2;go_ret;exact FIN.i
theorem agK{l:List UInt8}{p:Pk}(h:amP l p)(dst:Bool):AY p dst=⟨(adJ p dst:Nat),(vX p:Nat),(GJ p dst:Nat)⟩/\adJ p dst+vX p<=p.Gw.e/\GJ p dst+2<=p.Gw.e/\vX p<=16/\4<=vX p:=by
 obtain⟨_,h1,h2,h3,h4,_⟩:=h;unfold AY adJ vX GJ;rcases h3 with h3|h3
 ·rw[if_pos h3]at h4
  cases hs:p.K.h.h<;>cases dst<;>rw[hs]at h2<;>simp at h2⊢<;> omega
 ·rw[if_neg (by rw[h3];decide)]at h4
  cases hs:p.K.h.h<;>cases dst<;>rw[hs]at h2<;>simp at h2⊢<;> omega
def aki(l:List UInt8)(a:fE)(q:Int)(dst:Bool):List UInt8×Int:=(abn l a q dst,if QN l a q then 0 else 1)
theorem WT(w:au)(A:Option aU)(n c:Nat)(l:List UInt8)(a:fE)(q:Int)(dst:Bool)(hnc:n<=c)(hc:c<=9223372036854775807/\n<=1000000)(hr:fZ w w.a.j A n l):aQ aj 267 #[.a A n c,.d a.aA,.b .a q,.e dst] w (ajA w (aki l a q dst)):=by
 have Z0:=ah ((Bx.start w).new a.aA 27);have HR:=ah hr;have hl:=ah hr.len;have CR:=ah (Ju _ A n c l hnc (by omega) (Z0.i.Mf hr));have HV:=ah (show abn l a q dst=if QN l a q then rw3 l (vW l) a q.e dst else []from rfl);have HK:=ah (show QN l a q=((vW l).kind==0&&(a.h==(vW l).K.h.h&&((vW l).K.h.h||a.mU))&&(decide (0<=q)&&decide (q<=65535)))from rfl);have HF:=ah (Od (l:=l));clear hr;go_enter Tryz.func267,Tryz.ntmps267;go_upto_region 1 with fail
 generalize w.alloc (.D a.aA 27)=w1 at Z0 CR ⊢;obtain⟨p,hp⟩:=dw (vW l);have HP:=ah hp;unfold PkP at CR;rw[<-hp]at CR HV HK HF;clear hp;go_upto_region 2 with(go_at_call 32;(with_reducible refine CR.i.g ?_);rintro e w2 ⟨rfl,hb⟩;have Z2:=ah ((Z0.i.go hb).new p.aA 83);have HY:=ah (Z0.i.go hb).X.lt;clear hb)
 generalize w2.alloc (.D p.aA 83)=w3 at Z2 ⊢;generalize w2.a.j=y at *;have KS:=ah (fun(w':au) (h:Bx [(y,p.aA),(w.a.j,a.aA)] w w')=>show w'.b ⟨y,0,none⟩=some (.b .a p.kind)/\w'.b ⟨y,1,none⟩=some (.e p.K.h.h)/\(rH (.c (some ⟨w.a.j,0,none⟩))).J aj w'=.ok (.d a.aA) w' from⟨(h.X.M.1 0).trans (Pk.zG p),(h.X.M.1 1).trans (Pk.avF p),h.b1.ahO⟩);obtain⟨f1,f2,f3⟩:=KS.i _ Z2.i;have CO:=ah (akh p.K.h.h a w3);have ZG:=ah (fun w' (hb:aM w3.a.j w3 w')=>Z2.i.go hb);have NO:=ah (show QN l a q=false->aki l a q dst=([],1)from fun h=>by unfold aki;rw[HV.i,h];rfl);cases hk0:(p.kind==0)
 ·have k1:(p.kind != 0)=true:=by rw[bne,hk0];rfl
  have HN:=ah (NO.i (by rw[HK.i,hk0];rfl));clear hk0;go_wp2;go_ret2;rw[HN.i];exact⟨none,0,0,rfl,KJ _,Z2.i.R⟩
 have k1:(p.kind != 0)=false:=by rw[bne,hk0];rfl
 cases ho:(a.h==p.K.h.h&&(p.K.h.h||a.mU))
 ·rw[ho]at CO
  have HN:=ah (NO.i (by rw[HK.i,hk0,ho];rfl));clear hk0 ho;go_wp2_with (go_at_call 307;(with_reducible refine CO.i.g ?_);rintro e w4 ⟨rfl,hb⟩;have Z4:=ah (ZG.i _ hb);clear hb);go_ret2;rw[HN.i];exact⟨none,0,0,rfl,KJ _,Z4.i.R⟩
 rw[ho]at CO;by_cases hq:0<=q/\q<=65535
 ·obtain⟨hq0,hq1⟩:=hq
  have JW:=ah (show QN l a q=true by rw[HK.i,hk0,ho,decide_eq_true hq0,decide_eq_true hq1];rfl);have HVO:=ah (show aki l a q dst=(rw3 l p a q.e dst,0)by unfold aki;rw[HV.i,JW.i];rfl);have q1:decide (q<0)=false:=by simp;omega
  have q2:decide ((65535:Int)<q)=false:=by simp;omega
  have FN:=HF.i (by simpa using hk0);have HFN:=ah FN;obtain⟨g0,g1,g2,gp,g3,g4⟩:=FN;have g5:0<=p.Gw/\p.Gw<=n:=by have:=hl.i;split at g2<;>split at g3<;>omega
  obtain⟨en,hen⟩:∃m:Nat,p.Gw=(m:Int):=⟨p.Gw.e,by omega⟩
  have HEN:=ah hen;have en1:en<=n:=by omega
  have avG:=ah (show a.h=p.K.h.h by have:=ho;simp only[bB,beq_iff_eq]at this;exact this.1);clear hk0 ho g0 gp g1 g2 g3 g4 g5;go_upto_region 4 with(go_at_call 307;(with_reducible refine CO.i.g ?_);rintro e w4 ⟨rfl,hb⟩;have Z4:=ah (ZG.i _ hb);clear hb)
  have K2:=ah (fun(w':au) (h:dN w' y p.aA)=>show w'.b ⟨y,41,none⟩=some (.b .a (en:Nat))/\w'.b ⟨y,35,none⟩=some (.b .a p.K.aR)/\w'.b ⟨y,39,none⟩=some (.b .a p.C8)/\w'.b ⟨y,40,none⟩=some (.b .a p.tu)from⟨(h.M.1 41).trans ((Pk.apZ p).trans (by rw[HEN.i])),(h.M.1 35).trans (Pk.az4 p),(h.M.1 39).trans (Pk.amu p),(h.M.1 40).trans (Pk.amv p)⟩);obtain⟨e1,_,_,_⟩:=K2.i _ Z4.i.X;have en2:(en:Int)<=c:=by omega
  have CB:=ah (WS (l.d en) A en c w4 ((Z4.i.Mf HR.i).upN en1) (by omega));go_upto_region 5 with(go_at_call 308;(with_reducible refine CB.i.g ?_);rintro e w5 ⟨A5,c5,rfl,TP,hb5⟩;have L5:=ah (Ly.amU (w0:=w) (L:=[(y,p.aA),(w.a.j,a.aA)]) TP Z4.i.R.j (Z4.i.R.trans (hb5.g Z4.i.R.j)) (fun r hr=>⟨((Z4.i.go hb5).2 r hr).2,(Z4.i.2 r hr).2.lt⟩));clear TP hb5)
  clear e1 f1 f2 f3;have l10:=kPk.mW L5.i.X (Pk.I _);have FD:=HFN.i;have CF:=ah (ael p dst ⟨by have:=FD.C8;omega,by have h1:=FD.tu;have h2:=FD.Gw;have h3:=FD.len;have:=hl.i;split at h1<;>split at h2<;>omega⟩ ⟨by have h1:=FD.tu;have h2:=FD.C8;split at h1<;>omega,by have h2:=FD.Gw;have h3:=FD.len;have:=hl.i;split at h2<;>omega⟩ w5);clear FD;go_upto_region 6 with(go_at_call 309;(with_reducible refine CF.i.g ?_);rintro e w6 ⟨rfl,hb⟩;have HW6:=ah (L5.i.go hb).X.lt;have L6:=ah ((L5.i.go hb).new (AY p dst).aA 376);clear hb)
  clear l10;obtain⟨pv,p1,p2,p3,p4⟩:=agK HFN.i dst;rw[HEN.i,dW]at p1 p2;rw[pv]at L6;obtain⟨pa,hpa⟩:∃v,v=adJ p dst:=⟨_,rfl⟩
  obtain⟨ps,hps⟩:∃v,v=vX p:=⟨_,rfl⟩
  obtain⟨pp,hpp⟩:∃v,v=GJ p dst:=⟨_,rfl⟩
  have HPA:=ah hpa;have HPS:=ah hps;have HPP:=ah hpp;rw[<-hpa,<-hps,<-hpp]at L6;rw[<-hpa,<-hps]at p1;rw[<-hpp]at p2;rw[<-hps]at p3 p4;have PV:=ah (pv.trans (by rw[<-hpa,<-hps,<-hpp]:_=(⟨(pa:Nat),(ps:Nat),(pp:Nat)⟩:Pz)));rw[PV.i];clear hpa hps hpp pv;have hy6:y<w6.a.j:=HW6.i;clear HW6;generalize w6.alloc (.D (Pz.mk (pa:Nat) (ps:Nat) (pp:Nat)).aA 376)=w7 at L6 ⊢;generalize w6.a.j=y7 at L6 ⊢;have a0:=(L6.i.X.M.1 0).trans (Pz.Dr _);have a1:=(L6.i.X.M.1 1).trans (Pz.Gv _);obtain⟨m1,hm1⟩:∃m:Nat,m=pa+ps:=⟨_,rfl⟩
  have s1:=jV ((pa:Int)+(ps:Int)) (by omega);have s2:(pa:Int)+(ps:Int)=m1:=by omega
  rw[s2]at s1;have s3:(pa:Int)<=m1:=by omega
  have s4:(m1:Int)<=c:=by omega
  have s5:(ps:Int)<=16:=by omega
  have HM1:=ah hm1;clear hm1;go_quiet (fail);obtain⟨wz,hwz⟩:=dw (w7.drewN nq);have L7:=ah (show Ly w.a.j [(y7,(Pz.mk (pa:Nat) (ps:Nat) (pp:Nat)).aA),(y,p.aA),(w.a.j,a.aA)] w wz (.a A5 en c5) (l.d en)by rw[hwz];exact L6.i.go (fJ (aH _ _) nq));rw[<-hwz];clear hwz a0 a1 L6;have HLE:=ah (show(l.d en).a=en by rw[bL,hl.i];omega);obtain⟨g,hg1,hg2,hg3,hg4,hg5⟩:=L7.i.h (by rw[HLE.i];omega);subst hg1;clear hg2;have RTo:=ah ((Mq (o:=0) L7.i.b2 a (by have:=fE.I a;rw[<-this];simp)).upN p3);have s6:(pa:Int)<=en:=by omega
  have HP:=ah (show 0<ps->∃g',(some ⟨g,0,none⟩:Option aU)=some ⟨g',0,none⟩/\vI (some ⟨g,0,none⟩) pa c5 1=some ⟨g',pa,none⟩from fun _=>⟨g,rfl,Qc (n:=0) (by omega)⟩);have HM:=ah (show ps=qw ps (en-pa)by show ps=min ps (en-pa);omega);have HZ:=ah (show pa+ps<=(l.d en).a by rw[HLE.i];exact p1);have a0:=(L7.i.X.M.1 0).trans (Pz.Dr _);go_upto_region 8 with(refine Mr rfl (.a 65) (.a 66) rfl L7.i pa ps rfl rfl RTo.i HM.i HP.i HZ.i ?_;intro w8 h8 h9;have L8:=ah h8;clear h8 h9)
  clear a0 HP HM HZ s6 RTo L7;obtain⟨o1,ho1⟩:∃o,o=sj (l.d en) pa ((a.b.a.d ps).d ps):=⟨_,rfl⟩
  have HO1:=ah ho1;have HL1:=ah (show o1.a=en by rw[ho1,EZ (by simp;rw[hl.i];omega),HLE.i]);rw[<-ho1]at L8;clear ho1;obtain⟨qn,hqn⟩:∃v:Nat,q=(v:Int):=⟨q.e,by omega⟩
  have HQN:=ah hqn;subst hqn;have q7:jB.wrap (qn:Int)=(qn:Int):=by rw[jT];omega
  have PZ:=ah (fun W=>wD qn (by omega) W);rw[uW qn (by omega)]at PZ;have s6:(pp:Int)<=en:=by omega
  have HP:=ah (show 0<2->∃g',(some ⟨g,0,none⟩:Option aU)=some ⟨g',0,none⟩/\vI (some ⟨g,0,none⟩) pp c5 1=some ⟨g',pp,none⟩from fun _=>⟨g,rfl,Qc (n:=0) (by omega)⟩);have HM:=ah (show 2=qw 2 (en-pp)by show 2=min 2 (en-pp);omega);have HZ:=ah (show pp+2<=o1.a by rw[HL1.i];exact p2);have KP:=ah (fun(w':au) (h:dN w' y7 (Pz.mk (pa:Nat) (ps:Nat) (pp:Nat)).aA)=>show w'.b ⟨y7,2,none⟩=some (.b .a (pp:Nat))from(h.M.1 2).trans (Pz.Kc _));have a2:=KP.i _ L8.i.X;go_region_held_law (fun w'=>w'.b ⟨y7,2,none⟩=some (.b .a (pp:Nat)))
   (first|exact KP.i _ L8.i.X.drew|exact KP.i _ L9.i.X|exact KP.i _ L10.i.X|go_keep)
   (first
   | (go_at_call 184;(with_reducible refine(PZ.i _).g ?_);rintro e w9 ⟨A9,rfl,ho,hb⟩;have R9:=ah (Dq ho (aH _ _));have L9:=ah (L8.i.drew.go hb);clear ho hb)
   | (refine Og (o:=⟨some 75,_,_,_,_,_⟩) rfl (.a 71) (.a 74) rfl (some ⟨g,0,none⟩) en c5 L9.i pp 2 (vI (some ⟨g,0,none⟩) pp c5 1) (en-pp) (c5-pp) rfl A9 2 2 rfl R9.i HM.i HP.i HZ.i ?_;intro w10 h10 h11;have L10:=ah h10;clear h10 h11))
  clear a2 q7 s6 HP HM HZ KP PZ L8;obtain⟨o2,ho2⟩:∃o,o=sj o1 pp ((qm (qn:Int)).d 2):=⟨_,rfl⟩
  have HO2:=ah ho2;have HL2:=ah (show o2.a=en by rw[ho2,EZ (by rw[HL1.i];exact p2),HL1.i]);rw[<-ho2]at L10;clear ho2;have a6:=(L10.i.b2.M.1 0).trans (fE.qG a);have FD:=HFN.i;obtain⟨N,hN⟩:∃N:Nat,p.C8=(N:Int):=⟨p.C8.e,by have:=FD.C8;omega⟩
  obtain⟨S,hS⟩:∃S:Nat,p.tu=(S:Int):=⟨p.tu.e,by have:=FD.C8;have:=FD.tu;split at this<;>omega⟩
  have hNS:N+20<=S:=by have:=FD.tu;split at this<;>omega
  have aLE:14<=N:=by have:=FD.C8;omega
  obtain⟨pl,hpl⟩:∃v,v=Du p.K.aR:=⟨_,rfl⟩
  have aLF:S+pl+2<=en/\6<=pl/\pl<=16:=by
   have h1:=FD.Gw;have h2:=HEN.i;rw[hpl];unfold Du;rcases FD.pro with h|h<;>rw[h]at h1⊢<;> simp at h1⊢<;> omega
  have HP6:=ah (show(if p.K.aR=6 then(16:Int)else if p.K.aR=17 then 6 else 0)=(pl:Int)by rw[hpl];unfold Du;split;rfl;split<;>rfl);have HPL:=ah hpl;have HNN:=ah hN;have HSS:=ah hS;clear FD hpl;obtain⟨o3,ho3⟩:∃o,o=if a.h then o2 else sj o2 (N+10) (qm ((oF (fq l (N+10)) ((l.d (pa+ps)).f pa) (a.b.a.d ps):Nat):Int)):=⟨_,rfl⟩
  have HO3:=ah ho3;have HL3:=ah (show o3.a=en by rw[ho3];split;exact HL2.i;rw[EZ (by rw[HL2.i];show N+10+2<=en;omega),HL2.i]);clear ho3;rw[show m1-pa=ps by omega];go_upto_if 78 with fail
  go_cut []from 76 to 91 (fun wx=>Ly w.a.j [(y7,(Pz.mk (pa:Nat) (ps:Nat) (pp:Nat)).aA),(y,p.aA),(w.a.j,a.aA)] w wx (.a (some ⟨g,0,none⟩) en c5) o3)
  case first=>
   cases h6:a.h
   case true=>
    rw[h6]at HO3;have L12:=ah L10;go_wp2;go_meet
    case rel=>rw[HO3.i];exact L12.i.i
   case false=>
    rw[h6]at HO3;have hpe:ps%2=0:=by rw[HPS.i];unfold vX;split<;>rfl
    obtain⟨nk,hnk⟩:∃v,v=N+10:=⟨_,rfl⟩
    have e10:(N:Int)+10=(nk:Int):=by omega
    have i10:=jV (nk:Int) (by omega);have RI:=ah (fun(w':au) (h:Ly w.a.j [(y7,(Pz.mk (pa:Nat) (ps:Nat) (pp:Nat)).aA),(y,p.aA),(w.a.j,a.aA)] w w' (.a (some ⟨g,0,none⟩) en c5) o2)=>show fZ w' w'.a.j A n l from HR.i.upon h.o.R);have CS:=ah (WR _ A n c l nk (by omega) hnc hc (RI.i _ L10.i.drew));have CC:=ah (fun(w':au) (h:Ly w.a.j [(y7,(Pz.mk (pa:Nat) (ps:Nat) (pp:Nat)).aA),(y,p.aA),(w.a.j,a.aA)] w w' (.a (some ⟨g,0,none⟩) en c5) o2)=>I8 w' (vI A pa c 1) (some ⟨w.a.j,1,none⟩) (m1-pa) (c-pa) 16 w'.a.j w'.a.j (fq l nk) ((l.d m1).f pa) (a.b.a.d ps) (vH l nk) (by omega) (by omega) ((RI.i w' h).adz (by omega) (by omega) hnc) (by rw[show m1-pa=ps by omega];exact(Mq (o:=0) h.b2 a (by have:=fE.I a;rw[<-this];simp)).upN p3));rw[show m1-pa=ps by omega]at CC;rw[HM1.i]at CC;obtain⟨cn,hcn⟩:∃v,v=oF (fq l nk) ((l.d (pa+ps)).f pa) (a.b.a.d ps):=⟨_,rfl⟩
    have aE2:cn<=65535:=by rw[hcn];exact Dl _ _ _ (vH l nk)
    rw[<-hcn]at CC;have HO4:=ah (show o3=sj o2 nk (qm (cn:Int))by rw[HO3.i,hcn,hnk];rfl);obtain⟨n2,hn2⟩:∃v,v=o2.a:=⟨_,rfl⟩
    have CT:=ah (fun(w':au) (h:Ly w.a.j [(y7,(Pz.mk (pa:Nat) (ps:Nat) (pp:Nat)).aA),(y,p.aA),(w.a.j,a.aA)] w w' (.a (some ⟨g,0,none⟩) en c5) o2)=>GU (bs:=o2) (by rw[HL2.i];exact h) nk cn aE2 (by rw[HL2.i];omega) (by rw[HL2.i];omega));rw[HL2.i,<-HO4.i]at CT;have K39:=ah (fun(w':au) (bs:List UInt8) (h:Ly w.a.j [(y7,(Pz.mk (pa:Nat) (ps:Nat) (pp:Nat)).aA),(y,p.aA),(w.a.j,a.aA)] w w' (.a (some ⟨g,0,none⟩) en c5) bs)=>show w'.b ⟨y,39,none⟩=some (.b .a (N:Nat))by rw[(K2.i _ h.b1).2.2.1,HNN.i]);have f39:=K39.i _ _ L10.i;clear hcn hnk hn2 a6;go_upto_region 10 with fail
    go_region_held_law (fun w'=>w'.b ⟨y,39,none⟩=some (.b .a (N:Nat)))
     (first|exact K39.i _ _ L10.i.drew|exact K39.i _ _ L11.i|exact K39.i _ _ L13.i|go_keep)
     (first
     | (go_at_call 312;(with_reducible refine CS.i.g ?_);rintro e w11 ⟨rfl,hb⟩;have L11:=ah (L10.i.drew.go hb);clear hb)
     | (go_at_call 311;(with_reducible refine(CC.i _ L11.i).g ?_);rintro e w12 ⟨rfl,rfl⟩)
     | (go_at_call 310;(with_reducible refine(CT.i _ L11.i).g ?_);rintro e w13 ⟨rfl,h13⟩;have L13:=ah h13;clear h13))
    go_wp2;go_meet
    case rel=>exact L13.i
  have L3:=ah hcut;have aE4:ps%2=0:=by rw[HPS.i];unfold vX;split<;>rfl
  clear hcut L10 a6;have K4:=ah (fun(w':au) (h:Ly w.a.j [(y7,(Pz.mk (pa:Nat) (ps:Nat) (pp:Nat)).aA),(y,p.aA),(w.a.j,a.aA)] w w' (.a (some ⟨g,0,none⟩) en c5) o3)=>show w'.b ⟨y,40,none⟩=some (.b .a (S:Nat))/\w'.b ⟨y,35,none⟩=some (.b .a p.K.aR)/\w'.b ⟨y7,2,none⟩=some (.b .a (pp:Nat))/\fZ w' w'.a.j A n l from⟨by rw[(K2.i _ h.b1).2.2.2,HSS.i],(K2.i _ h.b1).2.1,(h.X.M.1 2).trans (Pz.Kc _),HR.i.upon h.o.R⟩);obtain⟨sa,hsa⟩:∃v,v=S+pl:=⟨_,rfl⟩
  have eS:(S:Int)+(pl:Int)=(sa:Int):=by omega
  have iS:=jV (sa:Int) (by omega);have SG:=ah hsa;clear hsa;have CP:=ah (fun w=>ajo p.K.aR w);rw[HP6.i]at CP;go_wp2_with fail;obtain⟨T,f,n0,E0,es,ew⟩:=xO (wc);have hT:Nonempty T:=⟨n0⟩
  have ES:=ah es;have EW:=ah ew;have l1:=fun m=>(K4.i _ (L3.i.go (es m))).1
  have l2:=fun m=>(K4.i _ (L3.i.go (es m))).2.1
  clear es ew;refine nW f (by kernel_rfl) (by kernel_rfl) n0 E0 ?_
  repeat(go_big_quiet_step ((first|(go_at_call 313;(with_reducible refine(CP.i _).g ?_);rintro e w2 ⟨rfl,hb⟩;exact⟨rfl,EW.i _ ((ES.i _).trans (hb.g (ES.i _).j))⟩))))
  refine gN ?_;rintro _ ⟨m',rfl⟩;have HB:=ah (ES.i m');generalize f m'=wN at *;clear ES EW E0 hT n0;clear l1 l2;have L4:=ah (L3.i.go HB.i);clear L3 HB CP;obtain⟨z2,e35,f2,RA⟩:=K4.i _ L4.i;clear z2;have CS:=ah (WR _ A n c l sa (by omega) hnc hc RA);obtain⟨was,aq0⟩:∃v,v=fq l sa:=⟨_,rfl⟩
  have anQ:was<=65535:=by rw[aq0];exact vH l sa
  rw[<-aq0]at CS;have az5:=ah aq0;obtain⟨u,hu⟩:=dw ((p.K.aR==17));have HU:=ah hu;obtain⟨z,hz⟩:=dw (decide (was=0));have HZ0:=ah hz;have u1:(p.K.aR==17)=u:=hu.symm;have u2:decide (p.K.aR=17)=u:=by rw[hu];rfl
  have z1:((was:Int)==0)=z:=by rw[hz,cB,beq_iff_eq,decide_eq_true_iff];omega
  have z2:decide ((was:Int)=0)=z:=by rw[hz,cB,decide_eq_true_iff,decide_eq_true_iff];omega
  have z3:(was==0)=z:=by rw[hz,cB,beq_iff_eq,decide_eq_true_iff]
  clear hu hz aq0 RA;go_upto_region 14 with(go_at_call 312;(with_reducible refine CS.i.g ?_);rintro e w11 ⟨rfl,hb⟩;have L5:=ah (L4.i.go hb);clear hb e35 f2;obtain⟨_,e35,f2,RA⟩:=K4.i _ L5.i)
  clear CS L4;obtain⟨fr,hfr⟩:∃v,v=(l.d (pa+ps)).f pa:=⟨_,rfl⟩
  obtain⟨tw,htw⟩:∃v,v=a.b.a.d ps:=⟨_,rfl⟩
  obtain⟨pq,hpq⟩:∃v,v=pp+2:=⟨_,rfl⟩
  obtain⟨cs,hcs⟩:∃v,v=oF (oF was fr tw) ((l.d pq).f pp) ((o3.d pq).f pp):=⟨_,rfl⟩
  have hc1:=Dl fr tw was anQ;have hcs2:cs<=65535:=by rw[hcs];exact Dl _ _ _ hc1
  have eP:(pp:Int)+2=(pq:Int):=by omega
  have iP:=jV (pq:Int) (by omega);have b1:(pp:Int)<=pq:=by omega
  have b2:(pq:Int)<=c:=by omega
  have b3:(pq:Int)<=c5:=by omega
  have CC1:=ah (fun(w':au) (h:Ly w.a.j [(y7,(Pz.mk (pa:Nat) (ps:Nat) (pp:Nat)).aA),(y,p.aA),(w.a.j,a.aA)] w w' (.a (some ⟨g,0,none⟩) en c5) o3)=>I8 w' (vI A pa c 1) (some ⟨w.a.j,1,none⟩) ps (c-pa) 16 w'.a.j w'.a.j was fr tw anQ aE4 (by omega) (by have:=((K4.i _ h).2.2.2).adz (z:=pa) (b:=m1) (by omega) (by omega) hnc;rw[show m1-pa=ps by omega,HM1.i]at this;rw[hfr];exact this) (by rw[htw];exact(Mq (o:=0) h.b2 a (by have:=fE.I a;rw[<-this];simp)).upN p3));have CC2:=ah (fun(w':au) (h:Ly w.a.j [(y7,(Pz.mk (pa:Nat) (ps:Nat) (pp:Nat)).aA),(y,p.aA),(w.a.j,a.aA)] w w' (.a (some ⟨g,0,none⟩) en c5) o3)=>I8 w' (vI A pp c 1) (vI (some ⟨g,0,none⟩) pp c5 1) (pq-pp) (c-pp) (c5-pp) w'.a.j w'.a.j (oF was fr tw) ((l.d pq).f pp) ((o3.d pq).f pp) hc1 (by omega) (by omega) (((K4.i _ h).2.2.2).adz (by omega) (by omega) hnc) (h.rd.adz (by omega) (by omega) hg3));rw[<-hcs]at CC2;have HE3:=ah (show rw2 l p a qn dst=o3 by
   have e1:rw1 l p a qn dst=o2:=by
    have e0:N7 qn=(qm (qn:Int)).d 2:=by simp[N7,qm]
    unfold rw1;rw[<-HPA.i,<-HPS.i,<-HPP.i,e0,HO2.i,HO1.i,HEN.i,dW,List.take_take,Nat.min_self]
   unfold rw2;rw[e1,HO3.i,HNN.i,dW];have h6:p.K.h.h=a.h:=by have:=avG.i;exact this.symm
   rw[h6];split
   ·rfl
   ·have e2:YU l p dst=(l.d (pa+ps)).f pa:=by unfold YU;rw[<-HPA.i,<-HPS.i,rE,kI]
    rw[e2,<-HPS.i];rfl)
  have HRS:=ah (show ahH l p a qn dst=cs by
   have e2:YU l p dst=fr:=by unfold YU;rw[<-HPA.i,<-HPS.i,hfr,rE,kI]
   have e3:(o3.d pq).f pp=N7 qn:=by
    have e0:(qm (qn:Int)).d 2=N7 qn:=by simp[N7,qm]
    have k2:(o2.d pq).f pp=N7 qn:=by
     have:=ajz (l:=o1) (k:=pp) (b:=(qm (qn:Int)).d 2) (by rw[HL1.i];exact p2);rw[rE,show pq-pp=2 by omega,HO2.i,<-e0];exact this
    rw[HO3.i];split
    ·exact k2
    ·rw[rE,amO (by rw[HL2.i];show N+10+2<=en;omega) (.b (by show N+10+2<=pp;have h1:=HPP.i;unfold GJ at h1;rw[HSS.i]at h1;omega)),<-rE];exact k2
   unfold ahH;rw[e2,<-HPS.i,<-HPP.i,HSS.i,dW,<-HPL.i,<-SG.i,<-az5.i,<-htw,hcs,e3];congr 1;rw[rE,show pq-pp=2 by omega])
  have HC2:=ah hcs2;have CC1:=ah (fun n=>CC1.i (w11.drewN n) (L5.i.go (fJ (aH _ _) n)));have CC2:=ah (fun n=>CC2.i (w11.drewN n) (L5.i.go (fJ (aH _ _) n)));have HR3:=ah (show rw3 l p a qn dst=if p.K.aR=17/\was=0 then o3 else sj o3 sa (N7 (if p.K.aR=17/\cs=0 then 65535 else cs))by
   unfold rw3;rw[HE3.i,HRS.i,HSS.i,dW,<-HPL.i,<-SG.i,<-az5.i])
  clear hfr htw hpq hcs anQ hcs2;cases u
  case false=>
   have hp:p.K.aR≠17:=by have:=HU.i;intro e;rw[e]at this;cases this
   have HRW:=ah (show rw3 l p a qn dst=sj o3 sa (qm (cs:Int))by rw[HR3.i,if_neg (fun h=>hp h.1),if_neg (fun h=>hp h.1)];simp[N7,qm]);clear hp;go_upto_region 16 with fail
   go_quiet ((first|(go_at_call 311;(with_reducible refine(CC1.i _).g ?_);rintro e w2 ⟨rfl,rfl⟩;exact⟨rfl,_,rfl⟩)|(go_at_call 311;(with_reducible refine(CC2.i _).g ?_);rintro e w2 ⟨rfl,rfl⟩;exact⟨rfl,_,rfl⟩)));have L7:=ah (L5.i.go (fJ (aH _ _) nq));generalize w11.drewN nq=wN at L7 ⊢;have CT:=ah (GU (bs:=o3) (by rw[HL3.i];exact L7.i) sa cs (by exact HC2.i) (by rw[HL3.i];omega) (by rw[HL3.i];omega));rw[HL3.i]at CT;clear CC1 CC2 L5;go_wp2_with (go_at_call 310;(with_reducible refine CT.i.g ?_);rintro e w13 ⟨rfl,h13⟩;have L13:=ah h13;clear h13);go_ret2;exact⟨some ⟨g,0,none⟩,en,c5,by rw[HVO.i];rfl,by rw[HVO.i];show fZ _ _ _ _ (rw3 l p a qn dst);rw[HRW.i];exact L13.i.rd,L13.i.o.R⟩
  case true=>
   have hp:p.K.aR=17:=by have:=HU.i;simpa using this.symm
   cases z
   case true=>
    have hw:was=0:=by have:=HZ0.i;simpa using this.symm
    have HRW:=ah (show rw3 l p a qn dst=o3 by rw[HR3.i,if_pos ⟨hp,hw⟩]);clear hp hw CC1 CC2;go_wp2;go_ret2;exact⟨some ⟨g,0,none⟩,en,c5,by rw[HVO.i];rfl,by rw[HVO.i];show fZ _ _ _ _ (rw3 l p a qn dst);rw[HRW.i];exact L5.i.rd,L5.i.o.R⟩
   case false=>
    have hw:was≠0:=by have:=HZ0.i;intro e;rw[e]at this;cases this
    by_cases hc0:cs=0
    ·have HRW:=ah (show rw3 l p a qn dst=sj o3 sa (qm ((65535:Nat):Int))by rw[HR3.i,if_neg (fun h=>hw h.2),if_pos ⟨hp,hc0⟩];rfl)
     have q1:((cs:Int)==0)=true:=by rw[hc0];rfl
     have q2:decide ((cs:Int)=0)=true:=by rw[hc0];rfl
     clear hp hw hc0;go_upto_region 16 with fail
     go_quiet ((first|(go_at_call 311;(with_reducible refine(CC1.i _).g ?_);rintro e w2 ⟨rfl,rfl⟩;exact⟨rfl,_,rfl⟩)|(go_at_call 311;(with_reducible refine(CC2.i _).g ?_);rintro e w2 ⟨rfl,rfl⟩;exact⟨rfl,_,rfl⟩)));have L7:=ah (L5.i.go (fJ (aH _ _) nq));generalize w11.drewN nq=wN at L7 ⊢;have CT:=ah (GU (bs:=o3) (by rw[HL3.i];exact L7.i) sa 65535 (by exact ay _) (by rw[HL3.i];omega) (by rw[HL3.i];omega));rw[HL3.i,show((65535:Nat):Int)=65535 from rfl]at CT;clear CC1 CC2 L5;go_wp2_with (go_at_call 310;(with_reducible refine CT.i.g ?_);rintro e w13 ⟨rfl,h13⟩;have L13:=ah h13;clear h13);go_ret2;exact⟨some ⟨g,0,none⟩,en,c5,by rw[HVO.i];rfl,by rw[HVO.i];show fZ _ _ _ _ (rw3 l p a qn dst);rw[HRW.i];exact L13.i.rd,L13.i.o.R⟩
    ·have HRW:=ah (show rw3 l p a qn dst=sj o3 sa (qm (cs:Int))by rw[HR3.i,if_neg (fun h=>hw h.2),if_neg (fun h=>hc0 h.2)];simp[N7,qm])
     have q1:((cs:Int)==0)=false:=by rw[beq_eq_false_iff_ne];omega
     have q2:decide ((cs:Int)=0)=false:=by rw[decide_eq_false_iff_not];omega
     clear hp hw hc0;go_upto_region 16 with fail
     go_quiet ((first|(go_at_call 311;(with_reducible refine(CC1.i _).g ?_);rintro e w2 ⟨rfl,rfl⟩;exact⟨rfl,_,rfl⟩)|(go_at_call 311;(with_reducible refine(CC2.i _).g ?_);rintro e w2 ⟨rfl,rfl⟩;exact⟨rfl,_,rfl⟩)));have L7:=ah (L5.i.go (fJ (aH _ _) nq));generalize w11.drewN nq=wN at L7 ⊢;have CT:=ah (GU (bs:=o3) (by rw[HL3.i];exact L7.i) sa cs (by exact HC2.i) (by rw[HL3.i];omega) (by rw[HL3.i];omega));rw[HL3.i]at CT;clear CC1 CC2 L5;go_wp2_with (go_at_call 310;(with_reducible refine CT.i.g ?_);rintro e w13 ⟨rfl,h13⟩;have L13:=ah h13;clear h13);go_ret2;exact⟨some ⟨g,0,none⟩,en,c5,by rw[HVO.i];rfl,by rw[HVO.i];show fZ _ _ _ _ (rw3 l p a qn dst);rw[HRW.i];exact L13.i.rd,L13.i.o.R⟩
 ·have HN:=ah (NO.i (by rw[HK.i];simp;intro _ _ _;omega))
  clear hk0 ho;go_wp2_with (go_at_call 307;(with_reducible refine CO.i.g ?_);rintro e w4 ⟨rfl,hb⟩;have Z4:=ah (ZG.i _ hb);clear hb)
  all_goals
   first
   | (go_ret2
      rw[HN.i];exact⟨none,0,0,rfl,KJ _,Z4.i.R⟩)
   | (exfalso;omega)
theorem akj(w:au)(A:Option aU)(n c:Nat)(l:List UInt8)(a:fE)(q:Int)(hnc:n<=c)(hc:c<=9223372036854775807/\n<=1000000)(hr:fZ w w.a.j A n l):aQ aj 205 #[.a A n c,.d a.aA,.b .a q] w (ajA w (aki l a q true)):=by
 have X0:=ah (dN.new w a.aA 27);have B0:=ah ((aH w.a.j w).alloc (ay _) (.D a.aA 27));have CR:=ah (WT (w.alloc (.D a.aA 27)) A n c l a q true hnc hc (hr.upon B0.i));have la:=X0.i.ahO;unfold ajA at CR;clear hr;go_enter Tryz.func205,Tryz.ntmps205;go_wp2_with (go_at_call 267;(with_reducible refine CR.i.g ?_);rintro e w2 ⟨A2,n2,c2,rfl,hr2,hb2⟩;have R2:=ah hr2;have B2:=ah hb2;clear hr2 hb2 la);skip;go_ret2;exact⟨A2,n2,c2,rfl,R2.i,iZ B0.i B2.i⟩
end
section
variable {W W':au} {q:Nat} {e:En} {s:qB} {x:Eg} {q2 g:Nat} {sl:List (Option Fw)}
def aE6(W:au)(r:Int×List UInt8)(e':lu)(W':au):Prop:=(r.1=0/\KI W r.2 e' W')\/(r.1≠0/\e'=.panicked [{v:=Q7 r.1,recovered:=false}]/\aM W.a.j W W')
theorem aE7:oW 25 6 (AO (bH 6 0)):=⟨⟨_,Tryz.underlying25,rfl⟩,by kernel_rfl,by kernel_rfl,gM _⟩
theorem dN.asJ{W:au}{b o:Nat}{c:Array aC}{m:Vector UInt8 6}(h:dN W b c)(hc:c.m o (o+6)=AO m)(hs:o+6<=c.j):(AA (.c (some ⟨b,o,none⟩))).J aj W=.ok (.d (AO m)) W:=aE7.Dw h o hc hs
theorem dN.Q8{W:au}{b o:Nat}{c:Array aC}{a:fE}(h:dN W b c)(hc:c.m o (o+17)=a.aA)(hs:o+17<=c.j):(rH (.c (some ⟨b,o,none⟩))).J aj W=.ok (.d a.aA) W:=aa2.Dw h o hc hs
theorem Bk.aq2(b:Bk):b.aA.m 19 (19+6)=AO b.Bj:=Bk.ag9 b
theorem TY{l:List UInt8}{k E:Nat}{b:List UInt8}(h:l.a<=E)(hk:k+b.a<=E):(sj l k b).a<=E:=by unfold sj;simp;omega
theorem aq3{l:List UInt8}{a:fE}{n:Int}:(abn l a n true).a<=l.a:=by
 cases h:QN l a n with
 | false=>unfold abn;rw[h];simp
 | true=>
   have hk:(vW l).kind=0:=by unfold QN at h;simp only[bB,beq_iff_eq]at h;exact h.1.1
   have F:=Od hk;unfold abn;rw[if_pos h];generalize vW l=p at F;have hl:=F.len;have f2:=F.C8;have f3:=F.tu;have f5:=F.Gw;have f4:=F.pro;obtain⟨E,hE⟩:=dw p.Gw.e
   suffices (rw3 l p a n.e true).a<=E by omega
   have hS:p.tu.e+8<=E:=by split at f5<;>omega
   have hb:(a.b.a.d (vX p)).a<=vX p:=by rw[bL];omega
   have ha:adJ p true+vX p<=E:=by
    unfold adJ vX;cases hs:p.K.h.h<;>simp[hs]at f3⊢<;> omega
   have hp:GJ p true+2<=E:=by unfold GJ;simp;omega
   have hn:p.C8.e+12<=E:=by split at f3<;>omega
   have hq:p.tu.e+Du p.K.aR+2<=E:=by
    unfold Du;rcases f4 with e|e<;>simp[e]at f5⊢<;> omega
   have l1:(rw1 l p a n.e true).a<=E:=TY (TY (by rw[bL];omega) (by omega)) (by rw[VY];omega);have l2:(rw2 l p a n.e true).a<=E:=by
    unfold rw2;split
    ·exact l1
    ·exact TY l1 (by rw[VY];omega)
   unfold rw3;split
   ·exact l2
   ·exact TY l2 (by rw[VY];omega)
theorem akk(ts:List Tg):(ts.h Ab).a=4*ts.a:=by
 induction ts with
 | nil=>rfl
 | cons t ts ih=>rw[iO,aS,ih,bD];show 4+_=_;omega
theorem anR(l:List UInt8)(a b:fE):(Hw l a b).1.a<=200000:=by
 have ht:=(V9 l).2;have hp:∀k,(qE (mJ l).1.Y (mJ l).1.h (mJ l).1.fK k).a<=22:=fun k=>by
  unfold qE;rw[aS,aS,aS,akk];simp only[nR,qm,bD,gQ];omega
 have h40:∀y:Sx,(wM y).a=40:=fun y=>by simp[wM]
 have h20:∀y:Fo,(tO y).a=20:=fun y=>by simp[tO,adK,Dv]
 unfold Hw;by_cases h1:(mJ l).2≠0
 ·rw[if_pos h1];simp
 rw[if_neg h1];by_cases h2:(Ad (mJ l).1.oG (l.f (mJ l).1.fG)).ok=false
 ·rw[if_pos h2];simp
 rw[if_neg h2];by_cases h3:amS a b=false
 ·rw[if_pos h3];simp
 rw[if_neg h3];have hk:∀k:Nat,((l.f (mJ l).1.fG).d k).a<=k:=fun k=>by simp;omega
 by_cases h4:a.h=true
 ·rw[if_pos h4]
  by_cases h5:(Ad (mJ l).1.oG (l.f (mJ l).1.fG)).dA>65535
  ·rw[if_pos h5];simp
  ·rw[if_neg h5]
   have:=hp 34525;have:=hk (Ad (mJ l).1.oG (l.f (mJ l).1.fG)).dA.e;simp only[aS,h40];omega
 ·rw[if_neg h4]
  by_cases h5:20+(Ad (mJ l).1.oG (l.f (mJ l).1.fG)).dA>65535
  ·rw[if_pos h5];simp
  ·rw[if_neg h5]
   have:=hp 2048;have:=hk (Ad (mJ l).1.oG (l.f (mJ l).1.fG)).dA.e;simp only[aS,h20];omega
def aem(e:En)(b:Bk):fE:=if b.h.h then e.c.h else e.c.Cz
theorem akl(h:yE W q e s x q2 g sl)(v:Vp)(b:Bk)(t:Tu)(A:Option aU)(n c:Nat)(l:List UInt8)(hnc:n<=c)(hc:c<=9223372036854775807/\n<=1000000)(hr:fZ W W.a.j A n l):
 aQ aj 137 #[.c (some ⟨q,0,none⟩),.d v.aA,.d b.aA,.d t.aA,.a A n c] W (aE6 W (Oi e v b t l)):=by
 have Z0:=ah ((((Bx.start W).new v.aA 98).new b.aA 62).new t.aA 81);have e1:(W.alloc (.D v.aA 98)).a.j=W.a.j+1:=by simp
 have e2:((W.alloc (.D v.aA 98)).alloc (.D b.aA 62)).a.j=W.a.j+1+1:=by simp
 rw[e2,e1]at Z0;clear e1 e2;have H:=ah h;have HR:=ah hr;have hl:=ah hr.len;have HOE:=ah (show Oi e v b t l=if v.Vy then(if(Hw l (aem e b) b.h).2=0 then(0,Fb (Hw l (aem e b) b.h).1 b.Bj e.c.Bj)else(10,[]))else if b.h.h=t.Y.h then(0,Fb (abn l b.h b.nu true) b.Bj e.c.Bj)else(9,[])from rfl);have hcf:=h.b.cf;have aE8:=ah (show x.cf.Bj=e.c.Bj by rw[hcf]);have az6:=ah (show x.cf.Cz=e.c.Cz by rw[hcf]);have avG:=ah (show x.cf.h=e.c.h by rw[hcf]);clear h hr hcf;have CT:=ah (fun(w:au) (B:Option aU) (m d:Nat) (bs:List UInt8) (hm:m<=1000000) (hR:fZ w w.a.j B m bs)=>abq w B m d bs b.Bj e.c.Bj hm hR);have K1:=ah (fun(w:au) (hb:aM (W.a.j+1+1+1) w w)=>True.intro);have KM:=ah (fun(w:au) (h1:dN w (W.a.j+1) b.aA) (h2:aM W.a.j W w)=>show(AA (.c (some ⟨W.a.j+1,19,none⟩))).J aj w=.ok (.d (AO b.Bj)) w/\(AA (.c (some ⟨q,27,none⟩))).J aj w=.ok (.d (AO e.c.Bj)) w from⟨h1.asJ (Bk.aq2 b) (by rw[Bk.I];omega),by have:=(H.i.b.eg.go h2).asJ (o:=27) (Eg.afW x) (by rw[Eg.I];omega);rw[aE8.i]at this;exact this⟩);have f19:=(Z0.i.b2.M.1 19).trans (Vp.ajh v);go_enter Tryz.func137,Tryz.ntmps137;go_upto_region 1 with fail
 generalize((W.alloc (.D v.aA 98)).alloc (.D b.aA 62)).alloc (.D t.aA 81)=w1 at Z0 f19 ⊢;cases hv:v.Vy
 ·rw[hv]at f19 HOE
  have f1:=(Z0.i.b1.M.1 1).trans (Bk.Ev b);have f17:=(Z0.i.X.M.1 17).trans (Tu.atI t);by_cases h6:b.h.h=t.Y.h
  ·have HE:=ah (show Oi e v b t l=(0,Fb (abn l b.h b.nu true) b.Bj e.c.Bj)by rw[HOE.i,if_neg (by simp),if_pos h6])
   have q1:(b.h.h != t.Y.h)=false:=by rw[h6];simp
   have q2:(b.h.h==t.Y.h)=true:=by rw[h6];simp
   have la:=Z0.i.b1.Q8 (o:=1) (a:=b.h) (Bk.Gm b) (by rw[Bk.I];omega);have lp:=(Z0.i.b1.M.1 18).trans (Bk.ak0 b);have CN:=ah (akj w1 A n c l b.h b.nu hnc hc (Z0.i.Mf HR.i));unfold ajA at CN;clear h6 hv;go_upto_region 5 with(go_at_call 205;(with_reducible refine CN.i.g ?_);rintro r w2 ⟨A2,n2,c2,rfl,hr2,hb2⟩;have Z2:=ah (Z0.i.go hb2);have R2:=ah hr2;clear hr2 hb2 la lp f1 f17 f19)
   have CTT:=ah (CT.i w2.drew A2 n2 c2 _ (by have h1:=R2.i.len;have h2:(abn l b.h b.nu true).a=n2:=h1;have:=aq3 (l:=l) (a:=b.h) (n:=b.nu);have:=hl.i;omega) R2.i);obtain⟨k1,k2⟩:=KM.i _ Z2.i.drew.b1 Z2.i.drew.R;go_region_held_law (fun w'=>(AA (.c (some ⟨W.a.j+1,19,none⟩))).J aj w'=.ok (.d (AO b.Bj)) w'/\(AA (.c (some ⟨q,27,none⟩))).J aj w'=.ok (.d (AO e.c.Bj)) w')
    (first|exact KM.i _ Z2.i.drew.b1 Z2.i.drew.R|exact KM.i _ Z3.i.b1 Z3.i.R|go_keep)
    (first|(go_at_call 206;(with_reducible refine CTT.i.g ?_);rintro r w3 ⟨A3,n3,c3,rfl,hn3,ho3,hb3⟩;have Z3:=ah (Z2.i.drew.go hb3);have N3:=ah hn3;have O3:=ah ho3;clear hn3 ho3 hb3))
   go_wp2;go_ret;rw[HE.i];exact .a ⟨rfl,A3,n3,c3,rfl,N3.i,iM O3.i Z2.i.R.j,Z3.i.R⟩
  ·have HE:=ah (show Oi e v b t l=(9,[])by rw[HOE.i,if_neg (by simp),if_neg h6])
   have q1:(b.h.h != t.Y.h)=true:=by simpa using h6
   have q2:(b.h.h==t.Y.h)=false:=by simpa using h6
   clear h6 hv;go_wp2;rw[HE.i];exact⟨rfl,.b ⟨by decide,rfl,Z0.i.R⟩⟩
 ·rw[hv]at f19 HOE
  have f1:=(Z0.i.b1.M.1 1).trans (Bk.Ev b);have la:=Z0.i.b1.Q8 (o:=1) (a:=b.h) (Bk.Gm b) (by rw[Bk.I];omega);have l4:(rH (.c (some ⟨q,33,none⟩))).J aj w1=.ok (.d e.c.Cz.aA) w1:=by have:=(H.i.b.eg.go Z0.i.R).Q8 (o:=33) (Eg.aa3 x) (by rw[Eg.I];omega);rw[az6.i]at this;exact this
  have l6:∀w',aM W.a.j W w'->(rH (.c (some ⟨q,50,none⟩))).J aj w'=.ok (.d e.c.h.aA) w':=fun w' hb=>by have:=(H.i.b.eg.go hb).Q8 (o:=50) (Eg.afX x) (by rw[Eg.I];omega);rw[avG.i]at this;exact this
  have L6:=ah l6;clear hv l6;obtain⟨vD,how⟩:∃o,o=aem e b:=⟨_,rfl⟩
  rw[<-how]at HOE;have HOW:=ah how;clear how;have Z1:=ah (Z0.i.new e.c.Cz.aA 27);have HY:=ah (fun p hp=>(Z0.i.2 p hp).2.lt);go_upto_region 7 with fail
  generalize w1.alloc (.D e.c.Cz.aA 27)=w2 at Z1 ⊢;generalize w1.a.j=y at *;have HYW:=ah (show W.a.j+1+1<y from HY.i (W.a.j+1+1,t.aA) (by simp));have f1:=(Z1.i.b2.M.1 1).trans (Bk.Ev b);go_upto_if 52 with fail
  go_cut []from 52 to 57 (fun wx=>Bx [(y,vD.aA),(W.a.j+1+1,t.aA),(W.a.j+1,b.aA),(W.a.j,v.aA)] W wx)
  case first=>
   cases h6:b.h.h
   ·have HO2:=ah (show vD=e.c.Cz by rw[HOW.i];unfold aem;rw[h6];rfl)
    rw[h6]at f1;clear h6;go_wp2_with fail;go_meet
    case rel=>rw[HO2.i];exact Z1.i
   ·have HO2:=ah (show vD=e.c.h by rw[HOW.i];unfold aem;rw[h6];rfl)
    rw[h6]at f1;have l6:=L6.i _ Z1.i.R;have th:=Z1.i.X.O 0 17 (aY (fE.I _).symm);clear h6;go_wp2_with fail;go_meet
    case rel=>
     have:=Z1.i.put (fun p hp=>by have:=HYW.i;simp at hp;rcases hp with rfl|rfl|rfl<;>simp<;>omega) e.c.h.aA (by rw[fE.I,fE.I]);rw[HO2.i];exact this
  have Z3:=ah hcut;clear hcut Z1 f1 la l4;generalize wc=w3 at Z3 ⊢;have la:=Z3.i.b2.Q8 (o:=1) (a:=b.h) (Bk.Gm b) (by rw[Bk.I];omega);have lo:=Z3.i.X.Q8 (o:=0) (a:=vD) (by have:=fE.I vD;rw[bl,<-this];simp) (by rw[fE.I];omega);have CW:=ah (agh w3 A n c l vD b.h hnc hc (Z3.i.Mf HR.i));unfold ajA at CW;obtain⟨wy,OJ⟩:∃z,z=(Hw l vD b.h).2:=⟨_,rfl⟩
  have Nl:=ah OJ;rw[<-OJ]at CW HOE;have HWL:=ah (anR l vD b.h);by_cases h0:wy=0
  ·have HE:=ah (show Oi e v b t l=(0,Fb (Hw l vD b.h).1 b.Bj e.c.Bj)by rw[HOE.i,if_pos rfl,if_pos h0])
   have q1:(wy != 0)=false:=by simp[h0]
   clear h0 OJ;go_upto_region 12 with(go_at_call 207;(with_reducible refine CW.i.g ?_);rintro r w4 ⟨A2,n2,c2,rfl,hr2,hb2⟩;have Z4:=ah (Z3.i.go hb2);have R2:=ah hr2;clear hr2 hb2 la lo f19)
   have CTT:=ah (CT.i w4.drew A2 n2 c2 _ (by have h1:=R2.i.len;have:=HWL.i;omega) R2.i);obtain⟨k1,k2⟩:=KM.i _ Z4.i.drew.b2 Z4.i.drew.R;go_region_held_law (fun w'=>(AA (.c (some ⟨W.a.j+1,19,none⟩))).J aj w'=.ok (.d (AO b.Bj)) w'/\(AA (.c (some ⟨q,27,none⟩))).J aj w'=.ok (.d (AO e.c.Bj)) w')
    (first|exact KM.i _ Z4.i.drew.b2 Z4.i.drew.R|exact KM.i _ Z5.i.b2 Z5.i.R|go_keep)
    (first|(go_at_call 206;(with_reducible refine CTT.i.g ?_);rintro r w5 ⟨A3,n3,c3,rfl,hn3,ho3,hb3⟩;have Z5:=ah (Z4.i.drew.go hb3);have N3:=ah hn3;have O3:=ah ho3;clear hn3 ho3 hb3))
   go_wp2;go_ret;rw[HE.i];exact .a ⟨rfl,A3,n3,c3,rfl,N3.i,iM O3.i Z4.i.R.j,Z5.i.R⟩
  ·have HE:=ah (show Oi e v b t l=(10,[])by rw[HOE.i,if_pos rfl,if_neg h0])
   have q1:(wy != 0)=true:=by simpa using h0
   clear h0 OJ;go_wp2_with (go_at_call 207;(with_reducible refine CW.i.g ?_);rintro r w4 ⟨A2,n2,c2,rfl,hr2,hb2⟩;have Z4:=ah (Z3.i.go hb2);clear hr2 hb2 la lo f19);rw[HE.i];exact⟨rfl,.b ⟨by decide,rfl,Z4.i.R⟩⟩
end
structure Oc where
 err:Int
 jh:Int
 wW:Bool
 Y:Int
 E:List UInt8
 Im:Option aU
 Fj:Nat
 agM:Nat
def Oc.aA(x:Oc):Array aC:=#[.b .a x.err,.b .a x.jh,.e x.wW,.b .a x.Y,.g (bP x.E),.a x.Im x.Fj x.agM]
theorem Oc.I(x:Oc):x.aA.j=6:=by simp[Oc.aA]
theorem Oc.cO(x:Oc):x.aA.all (·.h)=true:=by simp[Oc.aA,dx]
@[go_sem]theorem Oc.eF(x:Oc):eF x.aA=6:=Oc.I x
@[go_sem]theorem Oc.aE9(x:Oc):x.aA[0]? = some (.b .a x.err):=by simp[Oc.aA,aG]
@[go_sem]theorem Oc.Zz(x:Oc):x.aA[1]? = some (.b .a x.jh):=by simp[Oc.aA,aG]
@[go_sem]theorem Oc.aE'(x:Oc):x.aA[2]? = some (.e x.wW):=by simp[Oc.aA,aG]
@[go_sem]theorem Oc.WQ(x:Oc):x.aA[3]? = some (.b .a x.Y):=by simp[Oc.aA,aG]
@[go_sem]theorem Oc.zH(x:Oc):x.aA[4]? = some (.g (bP x.E)):=by simp[Oc.aA,aG]
@[go_sem]theorem Oc.avI(x:Oc):x.aA[5]? = some (.a x.Im x.Fj x.agM):=by simp[Oc.aA,aG]
def uz:Oc:=⟨0,0,false,0,[],none,0,0⟩
@[go_sem]theorem az7:cK #[aJ bU 0,aJ bU 0,bQ false,aJ bU 0,jl {data:=#[]},bC none 0 0]=cK uz.aA:=rfl
@[go_sem]theorem avJ:eO #[aJ bU 0,aJ bU 0,bQ false,aJ bU 0,jl {data:=#[]},bC none 0 0] 58=eO uz.aA 58:=rfl
theorem ZB:oW 58 6 uz.aA:=⟨⟨_,kL,rfl⟩,by kernel_rfl,by kernel_rfl,Oc.I _⟩
@[go_sem ↓]theorem aLL(v:aC):cZ 58 v=xK 58 v:=rfl
@[go_sem ↓]theorem aLM(v x:aC):eU 58 v x=zk 58 v x:=rfl
@[go_sem]theorem aFa(W:au)(c:Array aC)(x:Oc)(b:Nat)(hb:b=W.a.j)(hc:eF c=6):(zk 58 (.c (some ⟨b,0,none⟩)) (.d x.aA)).J aj (W.alloc (.D c 58))=.ok () (W.alloc (.D x.aA 58)):=ZB.stN W c x.aA b hb hc (Oc.I x) (Oc.cO x)
@[go_sem]theorem aH5(W:au)(b o:Nat)(x:Oc)(h:W.O b o 6):(zk 58 (.c (some ⟨b,o,none⟩)) (.d x.aA)).J aj W=.ok () (gZ W b o x.aA):=ZB.st W b o x.aA h (Oc.I x) (Oc.cO x)
@[go_sem ↓]theorem aLN(ps:Array (Nat×aC)):fM 58 ps=uJ 58 ps:=rfl
theorem anS(w:au)(fs:Array oh)(h:aj.underlying 58=some (.struct fs)):(iG (fun f=>Prod.mk f.Z <$> sizeOf f.type) fs:Sem (Array (Nat×Nat))).J aj w=.ok #[(0,1),(1,1),(2,1),(3,1),(4,1),(5,1)] w:=by
 have e:=kL;rw[h]at e;cases e;show _=_
 kernel_rfl
@[go_sem]theorem aFb(W:au):(uJ 58 #[]).J aj W=.ok (.d uz.aA) W:=ZB.bd0 W _ kL ⟨_,anS W _ kL⟩
theorem Oc.az8(x:Oc)(v:Int):x.aA.b 0 (.b .a v)=({x with err:=v}:Oc).aA:=by simp[Oc.aA]
theorem Oc.anT(x:Oc)(v:Int):x.aA.b 1 (.b .a v)=({x with jh:=v}:Oc).aA:=by simp[Oc.aA]
theorem Oc.az9(x:Oc)(v:Bool):x.aA.b 2 (.e v)=({x with wW:=v}:Oc).aA:=by simp[Oc.aA]
theorem Oc.asL(x:Oc)(v:Int):x.aA.b 3 (.b .a v)=({x with Y:=v}:Oc).aA:=by simp[Oc.aA]
theorem Oc.avK(x:Oc)(v:List UInt8):x.aA.b 4 (.g (bP v))=({x with E:=v}:Oc).aA:=by simp[Oc.aA]
theorem Oc.az'(x:Oc)(A:Option aU)(n c:Nat):x.aA.b 5 (.a A n c)=({x with Im:=A,Fj:=n,agM:=c}:Oc).aA:=by simp[Oc.aA]
@[go_sem]theorem aBT(W:au)(h:Bool)(v:Int)(n:List UInt8)(A:Option aU)(m c:Nat):(uJ 58 #[(2,.e h),(3,.b .a v),(4,.g (bP n)),(5,.a A m c)]).J aj W=.ok (.d (Oc.mk 0 0 h v n A m c).aA) W:=ZB.bd W _ _ _ _ kL (anS W _ kL) (by
 refine(iC rfl rfl (by rw[Oc.I];omega) (Oc.az9 _ _)).trans ?_;refine(iC rfl rfl (by rw[Oc.I];omega) (Oc.asL _ _)).trans ?_;refine(iC rfl rfl (by rw[Oc.I];omega) (Oc.avK _ _)).trans ?_;refine(iC rfl rfl (by rw[Oc.I];omega) (Oc.az' _ _ _ _)).trans ?_;rfl)
@[go_sem]theorem aAa(W:au)(k:Int):(uJ 58 #[(1,.b .a k)]).J aj W=.ok (.d (Oc.mk 0 k false 0 [] none 0 0).aA) W:=ZB.bd W _ _ _ _ kL (anS W _ kL) (by
 refine(iC rfl rfl (by rw[Oc.I];omega) (Oc.anT _ _)).trans ?_;rfl)
@[go_sem]theorem aAb(W:au)(k:Int):(uJ 58 #[(0,.b .a k)]).J aj W=.ok (.d (Oc.mk k 0 false 0 [] none 0 0).aA) W:=ZB.bd W _ _ _ _ kL (anS W _ kL) (by
 refine(iC rfl rfl (by rw[Oc.I];omega) (Oc.az8 _ _)).trans ?_;rfl)
theorem anU(v:Vector Int 11)(k:Nat)(hk:k<11)(n:Int):(yL v).b k (.b .a n)=yL (v.set k n):=by
 unfold yL;rw[bJ,<-List.map_set];congr 2
 try grind
theorem aq4(v:Vector Int 11)(k:Nat)(hk:k<11):upC v k=v.set k (v.a.c k 0+1):=by
 apply Vector.ext;intro i hi;have:v.a.c k 0=v[k]:=by simp[av,hk]
 rw[this];unfold upC;rw[Vector.getElem_ofFn,Vector.getElem_set];simp only[Fin.getElem_fin];by_cases h:k=i
 ·subst h;simp
 ·have h2:¬((i:Int)=(k:Int)):=by omega
  rw[if_neg h2,if_neg h]
theorem Eg.aq5(x:Eg)(k:Nat)(hk:k<11):x.aA.b (79+k) (.b .a (x.lI.a.c k 0+1))=({x with lI:=upC x.lI k}:Eg).aA:=by
 obtain⟨P,hP,h⟩:∃P:Array aC,P.j=79/\∀v,({x with lI:=v}:Eg).aA=P++yL v:=⟨jg x.key++x.cf.aA++x.pl.aA ++ #[.a x.OO x.Eh x.Sz,.a x.dnA x.dnN x.dnC,aeg x.fl]++x.h.aA ++ #[.b .a x.gq,.b .a x.no],by simp[dL,Cn.I,Pc.I,Tc.I],fun v=>by simp[Eg.aA,gB]⟩
 have h0:x.aA=P++yL x.lI:=h x.lI;rw[h0,h,aN,if_neg (by omega),hP,kI,anU _ _ hk,aq4 _ _ hk]
def Oc.why(k:Int):Oc:=⟨0,k,false,0,[],none,0,0⟩
theorem abM(v:aC)(xT:bF)(w:au):(GY (.iface 219 v) xT 219 true).J aj w=.ok (.K #[v,.e true]) w:=by
 have h:=Tryz.underlying219;simp[GY,dJ h]
theorem agN{w:au}{q0 qb q:Nat}{o:Oc}{x:Eg}{k:Nat}(hk:k<11)(hr:o.jh=k)(hO:dN w q0 o.aA)(hB:dN w qb #[.c (some ⟨q,0,none⟩)])(hE:dN w q x.aA)(hc:0<=x.lI.a.c k 0/\x.lI.a.c k 0+1<=9223372036854775807):
 CallsD aj 134 #[.c (some ⟨q0,0,none⟩),.c (some ⟨qb,0,none⟩)] .returning w fun e u' w'=>e=.a (.K #[])/\u'=.returning/\w'=(w.G ⟨q,79+k,none⟩ (.b .a (x.lI.a.c k 0+1))).drew:=by
 have o1:=(hO.M.1 1).trans (Oc.Zz o);rw[hr]at o1;have b0:=hB.M.1 0;have b1:=hE.M.1 (79+k);rw[Eg.anI x k hk]at b1;have b2:=hE.M.2.1 (79+k);have hw:=jV (x.lI.a.c k 0+1) (by omega);generalize x.lI.a.c k 0=n at *;refine callsD_of_wpS Tryz.func134 rfl fun c₀ cs hu=>?_
 simp only[Ar,dP,bD,gQ,kM,kN,gH,gI,iQ,gX,dG,iA];apply IB;apply IB;apply Cm;simp[wpOpsS,go_sem,recoverD,hu,Ar,vR];apply IB;apply Cm;simp[wpOpsS,go_sem,recoverD,hu,Ar,vR];refine wpS_cond (t:=false) (by simp[Act.eval,nH]) ?_;simp only[Bool.false_eq_true,if_false];refine wpS_of_wp (wp_skip ?_);simp only[vR];refine wpS_of_wp ?_;have hk0:(0:Int)<=(k:Int):=by omega
 have hk1:(k:Int)<11:=by omega
 go_upto_region 6 with fail
 go_region;cases c₀;simp_all[bodyPostS,results,Tryz.results134]
theorem abN{w:au}{q0 qb q:Nat}{c:Array aC}{x:Eg}{k:Nat}(lQ:List PanicEntry)(hk:k<11)(hcs:c.j=6)(hO:dN w q0 c)(hB:dN w qb #[.c (some ⟨q,0,none⟩)])(hE:dN w q x.aA)(hn1:qb≠q0)(hn2:q≠q0)(hc:0<=x.lI.a.c k 0/\x.lI.a.c k 0+1<=9223372036854775807):
 CallsD aj 134 #[.c (some ⟨q0,0,none⟩),.c (some ⟨qb,0,none⟩)] (.panicking ({v:=Q7 k,recovered:=false}::lQ)) w fun e u' w'=>e=.a (.K #[])/\u'=.panicking ({v:=Q7 k,recovered:=true}::lQ)/\w'=((gZ w q0 0 (Oc.why k).aA).G ⟨q,79+k,none⟩ (.b .a (x.lI.a.c k 0+1))).drew:=by
 have hth:w.O q0 0 6:=hO.O 0 6 (by omega);have hO2:=hO.put (Oc.why k).aA (by rw[Oc.I,hcs]);have o1:=(hO2.M.1 1).trans (Oc.Zz _);rw[show(Oc.why (k:Int)).jh=k from rfl]at o1;have b0:=(hB.gK (o:=0) (x:=(Oc.why k).aA) hn1).M.1 0;have b1:=(hE.gK (o:=0) (x:=(Oc.why k).aA) hn2).M.1 (79+k);rw[Eg.anI x k hk]at b1;have b2:=(hE.gK (o:=0) (x:=(Oc.why k).aA) hn2).M.2.1 (79+k);have hw:=jV (x.lI.a.c k 0+1) (by omega);generalize x.lI.a.c k 0=n at *;refine callsD_of_wpS Tryz.func134 rfl fun c₀ cs hu=>?_
 simp only[Ar,dP,bD,gQ,kM,kN,gH,gI,iQ,gX,dG,iA];apply IB;apply IB;apply Cm;simp[wpOpsS,go_sem,recoverD,hu,Ar,vR];apply IB;apply Cm;simp[wpOpsS,go_sem,recoverD,hu,Ar,vR,Q7];refine wpS_cond (t:=true) (by simp[Act.eval,nH]) ?_;simp only[if_true];refine wpS_of_wp ?_;have hty:=fun v xT w=>abM v xT w
 have BH:(Oc.mk 0 (k:Int) false 0 [] none 0 0).aA=(Oc.why k).aA:=rfl;go_wp2;simp only[vR,BH];refine wpS_of_wp ?_;have hk0:(0:Int)<=(k:Int):=by omega
 have hk1:(k:Int)<11:=by omega
 generalize gZ w q0 0 (Oc.why k).aA=w2 at *;go_upto_region 6 with fail
 go_region;exact⟨rfl,_,rfl,_,vw rfl _ _ _,rfl,rfl,rfl⟩
section
variable {W W':au} {q:Nat} {e:En} {s:qB} {x:Eg} {q2 g:Nat} {sl:List (Option Fw)}
theorem anW(p:Int)(l:List UInt8):0<=(Jr p l).1.uT/\(Jr p l).1.uT<64:=by
 unfold Jr qD
 repeat' split
 all_goals simp[qP]
 all_goals omega
theorem anX(l:List UInt8):0<=(vW l).uT/\(vW l).uT<64:=by
 have h:=anW;unfold vW xL Mi
 repeat' split
 all_goals first|exact h _ _|simp[NI]
theorem anY{v:Vector Int 11}{M:Int}(h:∀n∈v.a,0<=n/\n<=M){k:Nat}(hk:k<11):0<=v.a.c k 0/\v.a.c k 0<=M:=by
 refine h _ ?_;rw[av,aD (by simpa using hk),jE];exact eY _
theorem yE.num(h:yE W q e s x q2 g sl)(hf:jC [q] W W')(ti n:Int)(v:Vector Int 11)(hb:dN W' q ({x with gq:=ti,no:=n,lI:=v}:Eg).aA):yE W' q e {s with gq:=ti,no:=n,lI:=v} ({x with gq:=ti,no:=n,lI:=v}:Eg) q2 g sl:=by
 have o:∀b,b∈mD x->b∉[q]:=fun b hm=>h.b.i hm
 have hs:=hf.j;have hq:=h.b.nq;refine⟨⟨hb,h.b.key,h.b.cf,h.b.Y,h.b.vs.keep hf (fun b hm=>o b (dZ.2 (.a hm))),h.b.bk.keep hf (fun b hm=>o b (dZ.2 (.b (.a hm)))),h.b.hl.keep hf (fun b hm=>o b (dZ.2 (.b (.b (.a hm))))),h.b.fl,h.b.h.keep hf (by simp;omega) (by simp;omega),h.b.rm,h.b.nq,fun b hm=>by have:=h.b.Af b hm;omega,rfl,rfl,rfl⟩,h.dn.keep hf (fun b hm=>o b (dZ.2 (.b (.b (.b (.a hm)))))),h.tt.keep hf (fun b hm=>o b (dZ.2 (.b (.b (.b (.b (.a hm))))))) (fun b hm=>o b (dZ.2 (.b (.b (.b (.b (.b hm)))))))⟩
theorem yE.qZ{sl':List (Option Fw)}{l':List Fw}(h:yE W q e s x q2 g sl)(hf:jC [q2,g] W W')(ht:KL W' q2 g e.key e.c.dX sl' l')(hl:sl'.a=sl.a):yE W' q e {s with I:=l'} x q2 g sl':=by
 have o:∀b,b∈mD x->b∉[q2,g]:=fun b hm=>by have:=h.b.Af b hm;simp;omega
 have hs:=hf.j;have hq:=h.b.nq;refine⟨⟨hf.box h.b.eg (by simp;omega),h.b.key,h.b.cf,h.b.Y,h.b.vs.keep hf (fun b hm=>o b (dZ.2 (.a hm))),h.b.bk.keep hf (fun b hm=>o b (dZ.2 (.b (.a hm)))),h.b.hl.keep hf (fun b hm=>o b (dZ.2 (.b (.b (.a hm))))),h.b.fl,ht,by rw[hl];exact h.b.rm,h.b.nq,fun b hm=>by have:=h.b.Af b hm;omega,h.b.gq,h.b.no,h.b.lI⟩,h.dn.keep hf (fun b hm=>o b (dZ.2 (.b (.b (.b (.a hm)))))),h.tt.keep hf (fun b hm=>o b (dZ.2 (.b (.b (.b (.b (.a hm))))))) (fun b hm=>o b (dZ.2 (.b (.b (.b (.b (.b hm)))))))⟩
structure OuR(B:Nat)(W:au)(o:Oc)(u:Ou):Prop where
 err:o.err=u.err
 jh:o.jh=u.jh
 wW:o.wW=u.wW
 Y:o.Y=u.Y
 E:o.E=u.E
 n:o.Fj=u.i.a
 vD:W.c B 5 1 (.a o.Im o.Fj o.agM) o.Fj (u.i.map bv)
def XM(W:au)(q:Nat)(e:En)(x:Eg)(q2 g:Nat)(sl:List (Option Fw))(u:qB×Ou)(r:lu)(W':au):Prop:=
 ∃o x' sl',r=.a (.d (Oc.aA o))/\OuR W.a.j W' o u.2/\yE W' q e u.1 x' q2 g sl'/\sl'.a=sl.a/\(∀b∈mD x',b∈mD x\/(W.a.j<=b/\b∉uf o.Im))/\jC [q,q2,g] W W'
theorem Fp{b:Nat}:b∉uf none:=by simp[uf]
theorem OuR.keep{B:Nat}{o:Oc}{u:Ou}{F:List Nat}(h:OuR B W o u)(hf:jC F W W')(hF:∀b∈F,b<B):OuR B W' o u:=
 ⟨h.err,h.jh,h.wW,h.Y,h.E,h.n,yC h.vD hf (fun k hk hm=>by
  have h2:k∈uf o.Im:=by
   cases hA:o.Im with
   | none=>rw[hA]at hk;cases hk
   | some a=>rw[hA]at hk;exact AX.2 ⟨a,rfl,by simpa[jJ]using hk⟩
  have h3:=(gW h.vD k h2).1;have:=hF k hm;omega)⟩
theorem yE.count(h:yE W q e s x q2 g sl){k:Nat}(hk:k<11):yE (W.G ⟨q,79+k,none⟩ (.b .a (x.lI.a.c k 0+1))).drew q e {s with lI:=upC s.lI k} ({x with lI:=upC x.lI k}:Eg) q2 g sl:=by
 have hb:=h.b.eg.eH (79+k) (.b .a (x.lI.a.c k 0+1));rw[Eg.aq5 x k hk]at hb;have hf:jC [q] W (W.G ⟨q,79+k,none⟩ (.b .a (x.lI.a.c k 0+1))).drew:=((jC.refl [q] W).set ⟨q,79+k,none⟩ _ (.a (by simp))).drewN 1;have:=h.num hf x.gq x.no (upC x.lI k) (hb.go (fJ (aH _ _) 1));rw[h.b.gq,h.b.no,h.b.lI]at this;rw[h.b.lI];rw[<-h.b.gq,<-h.b.no]at this ⊢;exact this
theorem Ua{M:Int}{w:au}{c:Array aC}{l:List UInt8}(tmps:Array aC)(r:Int)(ht:tmps.c 4 undef=.c (some ⟨W.a.j+1,0,none⟩))(hO:dN w (W.a.j+1) c)(hc:c.j=6)(hB:dN w W.a.j #[.c (some ⟨q,0,none⟩)])(h:yE W q e s x q2 g sl)(hi:oH M e s)(hM:M<1152921504606846976)(hr:(Ed e s l).jh=r)(h0:r≠0)(hl:aM W.a.j W w):
 bodyPostD aj Tryz.f70 (XM W q e x q2 g sl (Ee e s l)) (Exit.panic [{v:=Q7 r,recovered:=false}]) {tmps:=tmps,defers:=[{target:=Target.fn (Fn.func 134) #[sw (some ⟨W.a.j+1,0,none⟩),sw (some ⟨W.a.j,0,none⟩)],args:=#[]}]} w:=by
 have h1:=agj e s l;rw[hr]at h1;obtain⟨k,rfl⟩:∃k:Nat,r=k:=⟨r.e,by omega⟩
 have hk:k<11:=by omega
 have hu:Ee e s l=({s with lI:=upC s.lI k},{GK with jh:=k}):=by unfold Ee;rw[hr,if_neg h0]
 have hlt:=h.b.lt;have hcn:=anY hi.ct hk;rw[<-h.b.lI]at hcn;have hE:=h.b.eg.go hl;refine leaves_cons (f:=134) (args:=#[.c (some ⟨W.a.j+1,0,none⟩),.c (some ⟨W.a.j,0,none⟩)]) (by simp) (by simp[go_sem]) ?_;refine(abN [] hk hc hO hB hE (by omega) (by omega) (by omega)).g ?_;have hl2:=lg hl (W.a.j+1) 0 (Oc.why k).aA (by omega);have hO2:=hO.put (Oc.why k).aA (by rw[Oc.I,hc]);generalize gZ w (W.a.j+1) 0 (Oc.why k).aA=w2 at *;rintro r u' w'' ⟨rfl,rfl,rfl⟩;have hE2:=(h.go hl2).count (k:=k) hk;have hf:jC [q] w2 (w2.G ⟨q,79+k,none⟩ (.b .a (x.lI.a.c k 0+1))).drew:=((jC.refl [q] w2).set ⟨q,79+k,none⟩ _ (.a (by simp))).drewN 1;refine⟨_,ZB.zm (fn:=Tryz.f70) (p:=4) (by kernel_rfl) tmps ht (hf.box hO2 (by simp;omega)) (Oc.I _),?_⟩;rw[hu];exact⟨_,_,sl,rfl,⟨rfl,rfl,rfl,rfl,rfl,rfl,fB _ _ _ _⟩,hE2,rfl,fun b hb=>.a hb,(jC.jA hl2).trans (hf.lH (by simp)) (fun g hg=>.a hg)⟩
theorem aq6{M:Int}{w:au}{s':qB}{x':Eg}{sl':List (Option Fw)}{o:Oc}{u:qB×Ou}(tmps:Array aC)(ht:tmps.c 4 undef=.c (some ⟨W.a.j+1,0,none⟩))(hO:dN w (W.a.j+1) o.aA)(hB:dN w W.a.j #[.c (some ⟨q,0,none⟩)])(h:yE w q e s' x' q2 g sl')(hct:∀n∈s'.lI.a,0<=n/\n<=M)(hM:M<1152921504606846976)(hr:o.jh=0)(hu:u.1={s' with lI:=upC s'.lI 0})(hou:OuR W.a.j w o u.2)(hsl:sl'.a=sl.a)(hrw:mD x'=mD x)(hq:q<W.a.j)(hl:jC [q,q2,g] W w):
 bodyPostD aj Tryz.f70 (XM W q e x q2 g sl u) Exit.ret {tmps:=tmps,defers:=[{target:=Target.fn (Fn.func 134) #[sw (some ⟨W.a.j+1,0,none⟩),sw (some ⟨W.a.j,0,none⟩)],args:=#[]}]} w:=by
 have hcn:=anY hct (k:=0) (by omega);rw[<-h.b.lI]at hcn;refine leaves_cons (f:=134) (args:=#[.c (some ⟨W.a.j+1,0,none⟩),.c (some ⟨W.a.j,0,none⟩)]) (by simp) (by simp[go_sem]) ?_;refine(agN (k:=0) (by omega) hr hO hB h.b.eg (by omega)).g ?_;rintro r u' w'' ⟨rfl,rfl,rfl⟩;have hE2:yE _ q e {s' with lI:=upC s'.lI 0} ({x' with lI:=upC x'.lI 0}:Eg) q2 g sl':=h.count (k:=0) (by omega);have hf:jC [q] w (w.G ⟨q,79+0,none⟩ (.b .a (x'.lI.a.c 0 0+1))).drew:=((jC.refl [q] w).set ⟨q,79+0,none⟩ _ (.a (by simp))).drewN 1;refine⟨_,ZB.zm (fn:=Tryz.f70) (p:=4) (by kernel_rfl) tmps ht (hf.box hO (by simp;omega)) (Oc.I _),?_⟩;refine⟨_,({x' with lI:=upC x'.lI 0}:Eg),sl',rfl,hou.keep hf (by simp;omega),?_,hsl,fun b hb=>.a (by rw[<-hrw];exact hb),hl.trans hf (fun g hg=>.a (by simp at hg;simp[hg]))⟩;rw[hu];exact hE2
end
section
variable {W W':au} {q:Nat} {e:En} {s:qB} {x:Eg} {q2 g:Nat} {sl:List (Option Fw)}
theorem Ms.avL(h:Ms W q e s x q2 g sl){W':au}(hb:aM W.a.j W W'):(xK 29 (.c (some ⟨q,16,none⟩))).J aj W'=.ok (.d x.cf.aA) W':=TD.Dw (h.eg.go hb) 16 (Eg.asH _) (by rw[Eg.I];omega)
theorem Bx.b4{a1 a2 a3 a4 p:Nat×Array aC}{L:List (Nat×Array aC)}{W0 W:au}(h:Bx (a1::a2::a3::a4::p::L) W0 W):dN W p.1 p.2:=(h.2 p (by simp)).2
theorem Bx.b5{a1 a2 a3 a4 a5 p:Nat×Array aC}{L:List (Nat×Array aC)}{W0 W:au}(h:Bx (a1::a2::a3::a4::a5::p::L) W0 W):dN W p.1 p.2:=(h.2 p (by simp)).2
theorem Pk.ah8(p:Pk)(j:Nat)(hj:j<37):p.aA[1+j]? = p.K.aA[j]?:=by
 have h:=Pk.Jl p;rw[<-h,dz,if_pos (by rw[Pk.I];omega)]
theorem Pk.aq7(p:Pk):p.aA.m 18 (18+17)=p.K.Y.aA:=by
 apply eB;intro j;rcases aZ j 17 with hj|hj
 ·rw[oq p.aA 18 17 j hj (by rw[Pk.I];omega),show 18+j=1+(j+17)by omega,Pk.ah8 p (j+17) (by omega),Tu.Le _ j hj]
 ·rw[aV (by rw[Array.size_extract,Pk.I];omega),aV (by rw[fE.I];exact hj)]
def nxO(o:Option Fw)(pr:Int)(fl:Nat):Int:=match o with|some y=>ag' y.xG fl|none=>aan pr fl
theorem aq8(s:qB)(p:Pk)(fl:Nat)(h:p.uT=fl):ahM s p=nxO (pW s.I p.K) p.K.aR fl:=by
 unfold ahM nxO;rw[h,dW];cases pW s.I p.K<;>rfl
theorem yE.aAc(h:yE W q e s x q2 g sl)(n:Int):yE (W.G ⟨q,78,none⟩ (.b .a n)) q e {s with no:=n} ({x with no:=n}:Eg) q2 g sl:=by
 have hb:=h.b.eg.eH 78 (.b .a n);rw[Eg.anF]at hb;have:=h.num ((jC.refl [q] W).set ⟨q,78,none⟩ (.b .a n) (.a (by simp))) x.gq n x.lI hb;rw[h.b.gq,h.b.lI]at this;have e1:({x with gq:=s.gq,no:=n,lI:=s.lI}:Eg)={x with no:=n}:=by rw[<-h.b.gq,<-h.b.lI]
 rw[e1]at this;exact this
@[go_sem]theorem axe(W:au)(t:Tu)(n:List UInt8)(st se no:Int):(atL #[(0,.d t.aA),(1,.g (bP n)),(2,.b .a st),(3,.b .a se),(4,.b .a no)]).J aj W=.ok (.d (Fw.mk t n st se no).aA) W:=kFw.bd W _ _ _ _ nC (azw W _ nC) (by
 refine uS (Fw.I _) ?_ ?_
 ·simp[rM,bZ,Tu.I]
 ·simp[qW,bZ,Fw.aA,fwT])
theorem iD(w:au):aM w.a.j w w.drew:=fJ (aH _ _) 1
theorem yE.Ko{F:List Nat}(h:yE W q e s x q2 g sl)(hf:jC F W W')(h1:q∉F)(h2:q2∉F)(h3:g∉F)(o:∀b∈mD x,b∉F):yE W' q e s x q2 g sl:=by
 have hs:=hf.j;refine⟨⟨hf.box h.b.eg h1,h.b.key,h.b.cf,h.b.Y,h.b.vs.keep hf (fun b hm=>o b (dZ.2 (.a hm))),h.b.bk.keep hf (fun b hm=>o b (dZ.2 (.b (.a hm)))),h.b.hl.keep hf (fun b hm=>o b (dZ.2 (.b (.b (.a hm))))),h.b.fl,h.b.h.keep hf h2 h3,h.b.rm,h.b.nq,fun b hm=>by have:=h.b.Af b hm;omega,h.b.gq,h.b.no,h.b.lI⟩,h.dn.keep hf (fun b hm=>o b (dZ.2 (.b (.b (.b (.a hm)))))),h.tt.keep hf (fun b hm=>o b (dZ.2 (.b (.b (.b (.b (.a hm))))))) (fun b hm=>o b (dZ.2 (.b (.b (.b (.b (.b hm)))))))⟩
theorem yF(w:au)(b o:Nat)(c:Array aC):jC [b] w (gZ w b o c):=(jC.refl [b] w).grown (lY (dM w (some b)) o c) (fun k e=>.a (by injection e with e;simp[e]))
theorem Cj{F:List Nat}{B n c:Nat}{A:Option aU}{xs:List aC}(h:W.c B 5 1 (.a A n c) n xs)(hf:jC F W W')(hF:∀b∈F,b<B):W'.c B 5 1 (.a A n c) n xs:=yC h hf (fun k hk hm=>by
 have h2:k∈uf A:=by
  cases hA:A with
  | none=>rw[hA]at hk;cases hk
  | some a=>rw[hA]at hk;exact AX.2 ⟨a,rfl,by simpa[jJ]using hk⟩
 have h3:=(gW h k h2).1;have:=hF k hm;omega)
theorem akm{c:Cn}{l:List Vp}(h:yu c l=true):l.a<=64:=by
 unfold yu yV at h;simp only[bB,decide_eq_true_eq]at h;obtain⟨⟨⟨⟨⟨⟨⟨⟨⟨⟨_,h0⟩,_⟩,_⟩,_⟩,_⟩,_⟩,_⟩,_⟩,_⟩,_⟩:=h;exact h0.1
theorem aen{M:Int}(h:yE W q e s x q2 g sl)(hi:oH M e s)(hM:M<1152921504606846976)(A:Option aU)(n c:Nat)(l:List UInt8)(hnc:n<=c)(hc:c<=9223372036854775807/\n<=1000000)(hr:fZ W W.a.j A n l):
 aQ aj 70 #[.c (some ⟨q,0,none⟩),.a A n c] W (XM W q e x q2 g sl (Ee e s l)):=by
 have Z0:=ah (((Bx.start W).new #[.c (some ⟨q,0,none⟩)] 43).new uz.aA 58);rw[show(W.alloc (.D #[.c (some ⟨q,0,none⟩)] 43)).a.j=W.a.j+1 by simp]at Z0;have H:=ah h;have HI:=ah hi;have HM:=ah hM;have HR:=ah hr;have CP:=ah (fun(w:au) (hb:aM W.a.j W w)=>Ju w A n c l hnc (by omega) (hr.upon hb));have KB:=ah (fun(w:au) (h:dN w W.a.j #[.c (some ⟨q,0,none⟩)])=>show w.b ⟨W.a.j,0,none⟩=some (.c (some ⟨q,0,none⟩))from h.M.1 0);have HK:=ah (ahR l);have HFL:=ah (anX l);have JW:=ah (fun h=>azf (l:=l) h);have hmf:∀(fn:Fn)(first cap:Array aC)(w:au),(Instr.makeFunc fn first cap).J aj w=.ok (.func fn first cap) w:=fun _ _ _ _=>rfl
 obtain⟨p,hp⟩:=dw (vW l);have HP:=ah hp;unfold PkP at CP;rw[<-hp]at CP HK HFL JW;clear h hi hM hr hp;go_enter_defers Tryz.func70,Tryz.ntmps70;go_upto_region 2 with fail
 generalize(W.alloc (.D #[.c (some ⟨q,0,none⟩)] 43)).alloc (.D uz.aA 58)=w1 at Z0 ⊢;go_upto_region 3 with(go_at_call 32;(with_reducible refine(CP.i _ Z0.i.R).g ?_);rintro r w2 ⟨rfl,hb2⟩;have Z1:=ah ((Z0.i.go hb2).new p.aA 83);have hy:=ah (Z0.i.go hb2).X.lt;clear hb2)
 generalize w2.alloc (.D p.aA 83)=w3 at Z1 ⊢;generalize w2.a.j=y at *;have f0:=(Z1.i.X.M.1 0).trans (Pk.zG p);by_cases hk:p.kind=0
 case neg=>
  have q1:(p.kind != 0)=true:=by simpa using hk
  have HW:=ah (show(Ed e s l).jh=p.kind by unfold Ed;rw[<-HP.i,if_neg hk]);have HK0:=ah hk;clear hk;go_wp2_with fail;exact Ua _ p.kind rfl Z1.i.b1 (Oc.I _) Z1.i.b2 H.i HI.i HM.i HW.i HK0.i Z1.i.R
 have q1:(p.kind != 0)=false:=by simpa using hk
 obtain⟨hpt,hpp⟩:=JW.i hk;have HT:=ah (Bp hpt);have HTK:=ah hpt;have HK0:=ah hk;clear hpt hpp hk JW HK;obtain⟨v,hv⟩:=dw (XI e.vs p.K.Y p.K.aR p.K.j4);have CV:=ah (fun(w:au) (hb:aM W.a.j W w)=>QX x.cf e.vs p.K.Y p.K.aR p.K.j4 w (H.i.b.vs.go hb) (by have h1:=H.i.b.vs.1;have h2:=akm HI.i.cn;omega));rw[<-hv]at CV;have HV:=ah hv;clear hv;obtain⟨vp,vok⟩:=v;simp only at CV;go_upto_region 5 with fail
 refine xu (Bx.abg ([(y,p.aA),(W.a.j+1,uz.aA),(W.a.j,#[.c (some ⟨q,0,none⟩)])]) W) 17 18 16 6 39 98 og.aA (by kernel_rfl) rfl rfl rfl rfl rfl (by kernel_rfl) (by kernel_rfl) (by kernel_rfl) (by kernel_rfl) (by kernel_rfl) rfl rfl rfl (fun a w=>by simp[go_sem]) (tN rfl) Z1.i.drew ?_;apply rO;refine⟨fun T f hT es ew=>?_,?_⟩
 ·have EW:=ah ew
  have ES:=ah es;have l1:=fun m=>KB.i _ (ES.i m).b2
  have l2:=fun m=>H.i.b.avL (ES.i m).R
  have l3:=fun m=>(ES.i m).X.Q8 (o:=18) (a:=p.K.Y) (Pk.aq7 p) (by rw[Pk.I];omega)
  have l4:=fun m=>((ES.i m).X.M.1 35).trans ((Pk.ah8 p 34 (by omega)).trans (Tu.Vl _))
  have l5:=fun m=>((ES.i m).X.M.1 37).trans ((Pk.ah8 p 36 (by omega)).trans (Tu.aaP _))
  have CF:=ah (fun m=>CV.i _ (ES.i m).R);clear es ew;simp only[mV,yx,kV,bI,bM,jP,jZ]
  repeat(go_big_quiet_step ((first|(go_at_call 135;(with_reducible refine(CF.i _).g ?_);rintro e w2 ⟨rfl,hb⟩;exact⟨rfl,EW.i _ _ hb⟩))))
  exact gN rfl
 intro w9 w8 zT _ hb;have ZN:=ah ((zT.new og.aA 98).go hb);have hyv:=ah (fun z (hz:z∈[(y,p.aA),(W.a.j+1,uz.aA),(W.a.j,#[.c (some ⟨q,0,none⟩)])])=>((zT.2 z hz).2.lt:z.1<w9.a.j));generalize w9.a.j=y2 at *;clear hb zT;have yO:=ZN.i.X.O 0 20 (aY (Vp.I og).symm);refine⟨gZ w8 y2 0 vp.aA,?_,?_⟩
 ·simp[go_sem,yO]
 simp only[Act.put,bJ,bI,bM,jQ,kZ];have Z2:=ah (ZN.i.put (fun p hp=>jN (hyv.i p hp)) vp.aA (by rw[Vp.I,Vp.I]));clear yO ZN;generalize gZ w8 y2 0 vp.aA=w4 at Z2 ⊢;go_step;go_step;go_step;cases vok with
 | false=>
   have HW:=ah (show(Ed e s l).jh=7 by
    have h1:=HV.i;unfold XI at h1;unfold Ed;rw[<-HP.i,if_pos HK0.i];cases hf:zo e.vs p.K.Y p.K.aR p.K.j4 with
    | none=>rfl
    | some i=>rw[hf]at h1;cases h1)
   go_wp2_with fail;exact Ua _ 7 rfl Z2.i.b2 (Oc.I _) Z2.i.b3 H.i HI.i HM.i HW.i (by decide) Z2.i.R
 | true=>
   obtain⟨i,hi1,hi2⟩:∃i,zo e.vs p.K.Y p.K.aR p.K.j4=some i/\vp=e.vs.c i og:=by
    have h1:=HV.i;unfold XI at h1;cases hf:zo e.vs p.K.Y p.K.aR p.K.j4 with
    | none=>rw[hf]at h1;cases h1
    | some i=>rw[hf]at h1;injection h1 with h1 _;exact⟨i,rfl,h1⟩
   have HI1:=ah hi1;have HI2:=ah hi2;clear hi1 hi2 HV CV;obtain⟨bb,hbb⟩:=dw (Jv e s p.K);have CB:=ah (fun(w:au) (hb:aM W.a.j W w)=>XL (H.i.go hb) HI.i p.K HT.i);rw[<-hbb]at CB;have Ig:=ah hbb;clear hbb;have lt1:=Z2.i.b1.abK (o:=1) (Pk.Jl p) (by rw[Pk.I];omega);have le1:=KB.i _ Z2.i.b3;cases bb with
   | none=>
     have CB2:=ah (show∀(w:au),aM W.a.j W w->aQ aj 136 #[.c (some ⟨q,0,none⟩),.d p.K.aA] w (fun r w'=>r=.panicked [{v:=Q7 8,recovered:=false}]/\aM w.a.j w w')from CB.i);have HW:=ah (show(Ed e s l).jh=8 by
      unfold Ed;rw[<-HP.i,if_pos HK0.i,HI1.i];simp only;rw[<-Ig.i])
     go_wp2_with (go_at_call 136;(with_reducible refine(CB2.i _ Z2.i.R).g ?_);rintro r w5 ⟨rfl,hb5⟩;have Z3:=ah (Z2.i.go hb5);clear hb5);exact Ua _ 8 rfl Z3.i.b2 (Oc.I _) Z3.i.b3 H.i HI.i HM.i HW.i (by decide) Z3.i.R
   | some bh=>
     obtain⟨b,wW⟩:=bh;have CB2:=ah (show∀(w:au),aM W.a.j W w->aQ aj 136 #[.c (some ⟨q,0,none⟩),.d p.K.aA] w (fun r w'=>r=.a (.K #[.d b.aA,.e wW])/\aM w.a.j w w')from CB.i);go_upto_region 9 with(go_at_call 136;(with_reducible refine(CB2.i _ Z2.i.R).g ?_);rintro r w5 ⟨rfl,hb5⟩;have Z3:=ah ((Z2.i.go hb5).new b.aA 62);have aAe:=ah (fun p hp=>((Z2.i.go hb5).2 p hp).2.lt);clear hb5)
     generalize w5.alloc (.D b.aA 62)=w6 at Z3 ⊢;generalize w5.a.j=y3 at *;clear lt1 le1 CB CB2;have HY3:=ah (fun z (hz:z∈[(y2,vp.aA),(y,p.aA),(W.a.j+1,uz.aA),(W.a.j,#[.c (some ⟨q,0,none⟩)])])=>(aAe.i z hz:z.1<y3));clear aAe;obtain⟨ot,hot⟩:=dw (Oi e vp b p.K l);have CO:=ah (fun(w:au) (hb:aM W.a.j W w)=>akl (H.i.go hb) vp b p.K A n c l hnc hc (HR.i.upon hb));rw[<-hot]at CO;have HOT:=ah hot;clear hot;have lt1:=Z3.i.b2.abK (o:=1) (Pk.Jl p) (by rw[Pk.I];omega);have le1:=KB.i _ Z3.i.b4;have lv1:=kVp.Dw Z3.i.b1 0 (d:=vp.aA) (by have:=Vp.I vp;rw[<-this];simp) (by rw[Vp.I];omega);have lb1:=Z3.i.X.avD;by_cases ho:ot.1=0
     case neg=>
      have HW:=ah (show(Ed e s l).jh=ot.1 by
       unfold Ed;rw[<-HP.i,if_pos HK0.i,HI1.i];simp only;rw[<-Ig.i];simp only;rw[<-HI2.i,<-HOT.i,if_neg ho])
      have HO:=ah ho;have CO2:=ah (fun(w:au) (hb:aM W.a.j W w)=>(CO.i w hb).g (R':=fun r w'=>r=.panicked [{v:=Q7 ot.1,recovered:=false}]/\aM w.a.j w w') (fun r w' h=>h.elim (fun h=>absurd h.1 ho) (fun h=>h.2)));clear ho CO;go_wp2_with (go_at_call 137;(with_reducible refine(CO2.i _ Z3.i.R).g ?_);rintro r w7 ⟨rfl,hb5⟩;have Z4:=ah (Z3.i.go hb5);clear hb5);exact Ua _ ot.1 rfl Z4.i.b3 (Oc.I _) Z4.i.b4 H.i HI.i HM.i HW.i HO.i Z4.i.R
     obtain⟨ok,ob⟩:=ot;obtain rfl:ok=0:=ho;have CO2:=ah (fun(w:au) (hb:aM W.a.j W w)=>(CO.i w hb).g (R':=KI w ob) (fun r w' h=>h.elim (fun h=>h.2) (fun h=>absurd rfl h.1)));clear CO;have Nl:=ah (show Ed e s l=⟨0,ob,b,wW⟩by
      unfold Ed;rw[<-HP.i,if_pos HK0.i,HI1.i];simp only;rw[<-Ig.i];simp only;rw[<-HI2.i,<-HOT.i,if_pos rfl])
     have HNL:=ah (show b.E.a<=1000000 by
      have h1:=HI.i.few.2.2 b (aqr HI.i Ig.i.symm).1;omega)
     clear Ig HOT HI1 HI2;obtain⟨fl,hfl⟩:∃k:Nat,p.uT=k:=⟨p.uT.e,by have:=HFL.i;omega⟩
     have an0:fl<64:=by have:=HFL.i;omega
     have HFN:=ah hfl;have CG:=ah (fun(w:au)=>aiN fl p.K.aR w an0);have CX:=ah (fun(st:Int) (w:au)=>alq fl st w an0);clear an0 hfl HFL;go_upto_region 10 with(go_at_call 137;(with_reducible refine(CO2.i _ Z3.i.R).g ?_);rintro r w7 ⟨A3,n3,c3,rfl,hn3,ho3,hb5⟩;have Z4:=ah (Z3.i.go hb5);have N3:=ah hn3;have O3:=ah (iM ho3 (Nat.le_of_lt Z3.i.X.lt));clear hb5 hn3 ho3)
     clear lt1 le1 lv1 lb1 CO2;have lp1:=(Z4.i.b2.M.1 35).trans ((Pk.ah8 p 34 (by omega)).trans (Tu.Vl _));have lf1:=(Z4.i.b2.M.1 38).trans (Pk.NH p);rw[HFN.i]at lf1;go_upto_region 11 with(go_at_call 138;(with_reducible refine(CG.i _).g ?_);rintro r w8 ⟨rfl,rfl⟩)
     clear CG lp1 lf1;obtain⟨o,ho⟩:=dw (pW s.I p.K);have HO:=ah ho;have CF0:=ah (fun(w:au) (hb:aM W.a.j W w)=>Kl (H.i.b.h.go hb) p.K);rw[<-ho]at CF0;have hcg:∀o,anj o = .K #[.d (vZ o).qZ.aA,.e o.isSome]:=fun _=>rfl
     simp only[hcg]at CF0;clear hcg ho;refine xu (S:=fun w=>Bx [(y3,b.aA),(y2,vp.aA),(y,p.aA),(W.a.j+1,uz.aA),(W.a.j,#[.c (some ⟨q,0,none⟩)])] W w/\aM w7.a.j w7 w) (fun a b h hb=>⟨h.1.go hb,h.2.trans (hb.g h.2.j)⟩) 10 11 9 12 72 86 ko.aA (by kernel_rfl) rfl rfl rfl rfl rfl (by kernel_rfl) (by kernel_rfl) (by kernel_rfl) (by kernel_rfl) (by kernel_rfl) rfl rfl rfl (fun a w=>by simp[go_sem]) (tN rfl) ⟨Z4.i.drew,fJ (aH _ _) 1⟩ ?_;apply rO;refine⟨fun T f hT es ew=>?_,?_⟩
     ·have EW:=ah ew
      have ES:=ah es;have l1:=fun m=>KB.i _ (ES.i m).1.b4
      have l2:=fun m=>H.i.b.anJ (ES.i m).1.R
      have l3:=fun m=>(ES.i m).1.b2.abK (o:=1) (Pk.Jl p) (by rw[Pk.I];omega)
      have CF:=ah (fun m=>CF0.i _ (ES.i m).1.R);clear es ew;simp only[mV,yx,kV,bI,bM,jP,jZ]
      repeat(go_big_quiet_step ((first|(go_at_call 126;(with_reducible refine(CF.i _).g ?_);rintro e w2 ⟨rfl,hb⟩;exact⟨rfl,EW.i _ _ hb⟩))))
      exact gN rfl
     intro w9 w8 zT avM hb;have O4:=ah (yC O3.i (jC.jA (F:=[]) avM.2) (fun k hk hm=>by cases hm));have ZN:=ah ((zT.1.new ko.aA 86).go hb);have hyv:=ah (fun z (hz:z∈[(y3,b.aA),(y2,vp.aA),(y,p.aA),(W.a.j+1,uz.aA),(W.a.j,#[.c (some ⟨q,0,none⟩)])])=>((zT.1.2 z hz).2.lt:z.1<w9.a.j));have hy7:=zT.2.j;generalize w9.a.j=y4 at *;have XQ:=avM.2;have yO:=ZN.i.X.O 0 41 (aY (Fw.I ko).symm);refine⟨gZ w8 y4 0 (vZ o).qZ.aA,?_,?_⟩
     ·simp[go_sem,yO];rfl
     simp only[Act.put,bJ,bI,bM,jQ,kZ];have Z5:=ah (ZN.i.put (fun p hp=>jN (hyv.i p hp)) (vZ o).qZ.aA (by rw[Fw.I,Fw.I]));have O5:=ah (yC O3.i (jC.jA (F:=[]) (lg XQ y4 0 (vZ o).qZ.aA hy7)) (fun k hk hm=>by cases hm));have HYW:=ah (show W.a.j+1<y/\y<y3 from⟨hy.i,HY3.i (y,p.aA) (by simp)⟩);clear yO ZN hyv zT avM hb XQ hy7 O4 O3 Z4 CF0;generalize gZ w8 y4 0 (vZ o).qZ.aA=w10 at Z5 O5 ⊢;go_step;go_step;go_step;obtain⟨nx,hnx⟩:=dw (ahM s p);have HNX:=ah (hnx.trans (aq8 s p fl HFN.i));rw[<-HO.i]at HNX;have HNE:=ah hnx;clear hnx;go_upto_if 73 with fail
     go_cut [11]from 74 to 78 (fun s11 wx=>s11=.b .a nx/\wx=w10)
     case first=>
      cases o with
      | none=>
        go_wp2_with fail;go_meet
        case rel=>exact⟨by rw[HNX.i];rfl,rfl⟩
      | some f1=>
        have ls:=(Z5.i.X.M.1 38).trans (Fw.afH f1);have lf:=(Z5.i.b3.M.1 38).trans (Pk.NH p);rw[HFN.i]at lf;go_wp2_with (go_at_call 139;(with_reducible refine(CX.i _ _).g ?_);rintro r w8 ⟨rfl,rfl⟩);go_meet
        case rel=>exact⟨by rw[HNX.i];rfl,rfl⟩
     obtain⟨rfl,hcut⟩:=hcut;rw[hcut];clear hcut CX HNX;have le1:=KB.i _ Z5.i.b5;have g78:=(H.i.b.eg.go Z5.i.R).M.2.1 78;have c78:=((H.i.b.eg.go Z5.i.R).M.1 78).trans (Eg.anD x);have hwr:=jV (x.no+1) (by have h1:=HI.i.no;have h2:=H.i.b.no;have h3:=HM.i;omega);go_upto_region 15 with fail
     have E1:=ah ((H.i.go Z5.i.R).aAc (x.no+1));have hf1:jC [q] w10 (w10.G ⟨q,78,none⟩ (.b .a (x.no+1))):=(jC.refl [q] w10).set ⟨q,78,none⟩ _ (.a (by simp));have hqW:=H.i.b.lt;have hyw:=HYW.i;have BE:=ah (hf1.box Z5.i.b5 (by simp;omega));have BO:=ah (hf1.box Z5.i.b4 (by simp;omega));have BP:=ah (hf1.box Z5.i.b3 (by simp;omega));have BB:=ah (hf1.box Z5.i.b1 (by simp;omega));have F1:=ah ((jC.jA (F:=[q]) Z5.i.R).pO hf1);have O6:=ah (Cj O5.i hf1 (by simp;omega));have HX:=ah (show x.no=s.no/\x.gq=s.gq/\x.pl.Y=s.Y from⟨H.i.b.no,H.i.b.gq,H.i.b.Y⟩);clear hf1 hqW hyw le1 g78 c78 hwr O5 Z5;generalize w10.G ⟨q,78,none⟩ (.b .a (x.no+1))=w11 at E1 BE BO BP BB F1 O6 ⊢;have KS:=ah (fun(w':au) (h1:dN w' W.a.j #[.c (some ⟨q,0,none⟩)]) (h2:dN w' y p.aA) (h3:dN w' y3 b.aA) (h4:dN w' q ({x with no:=x.no+1}:Eg).aA)=>show w'.b ⟨W.a.j,0,none⟩=some (.c (some ⟨q,0,none⟩))/\w'.b ⟨q,74,none⟩=some (.c (some ⟨q2,0,none⟩))/\(xg (.c (some ⟨y,1,none⟩))).J aj w'=.ok (.d p.K.aA) w'/\w'.b ⟨y3,0,none⟩=some (.g (bP b.E))/\w'.b ⟨q,77,none⟩=some (.b .a x.gq)/\w'.b ⟨q,78,none⟩=some (.b .a (x.no+1))from
      ⟨KB.i w' h1,by
       rw[h4.M.1 74,Eg.Zv];show some (sw (x.fl.map fun b=>⟨b,0,none⟩))=_;rw[H.i.b.fl];rfl,h2.abK (o:=1) (Pk.Jl p) (by rw[Pk.I];omega),(h3.M.1 0).trans (Bk.qG b),(h4.M.1 77).trans (Eg.TU _),(h4.M.1 78).trans (Eg.anD _)⟩)
     have HN:=ah (sN HI.i.cn);have CU:=ah (Zp (E1.i.go (iD _)).b.h (by have:=HN.i;omega) E1.i.b.rm ⟨p.K,b.E,nx,x.gq,x.no+1⟩ HNL.i);unfold agB at CU;refine wp_region_noPanic ?_;go_region_held_law (fun w'=>w'.b ⟨W.a.j,0,none⟩=some (.c (some ⟨q,0,none⟩))/\w'.b ⟨q,74,none⟩=some (.c (some ⟨q2,0,none⟩))/\(xg (.c (some ⟨y,1,none⟩))).J aj w'=.ok (.d p.K.aA) w'/\w'.b ⟨y3,0,none⟩=some (.g (bP b.E))/\w'.b ⟨q,77,none⟩=some (.b .a x.gq)/\w'.b ⟨q,78,none⟩=some (.b .a (x.no+1)))
      (first|exact KS.i _ (BE.i.go (iD _)) (BP.i.go (iD _)) (BB.i.go (iD _)) (E1.i.b.eg.go (iD _))|exact KS.i _ BE2.i BP2.i BB2.i BQ2.i|go_keep)
      (first|(go_at_call 63;(with_reducible refine CU.i.g ?_);rintro r w12 ⟨rfl,⟨sl',ht,hsl⟩,hf⟩;have HTB:=ah ht;have HSL:=ah hsl;have HF:=ah hf;have BE2:=ah (jC.box hf (BE.i.go (iD _)) (by have h1:=H.i.b.lt;have h2:=HYW.i;simp;omega));have BO2:=ah (jC.box hf (BO.i.go (iD _)) (by have h1:=H.i.b.lt;have h2:=HYW.i;simp;omega));have BP2:=ah (jC.box hf (BP.i.go (iD _)) (by have h1:=H.i.b.lt;have h2:=HYW.i;simp;omega));have BB2:=ah (jC.box hf (BB.i.go (iD _)) (by have h1:=H.i.b.lt;have h2:=HYW.i;simp;omega));have BQ2:=ah (jC.box hf (E1.i.b.eg.go (iD _)) (by have h1:=H.i.b.nq;simp;omega));clear hf ht hsl))
     refine NoPanic.normal ?_;have E2:=ah (yE.qZ (E1.i.go (iD _)) HF.i HTB.i HSL.i);have le2:=KB.i _ BE2.i;have lv2:=(BQ2.i.M.1 70).trans (Eg.WQ _);have ln2:=(BB2.i.M.1 0).trans (Bk.qG b);have th2:=BO2.i.O 0 6 (aY (Oc.I uz).symm);go_upto_region 16 with fail
     go_region;have hqW:=H.i.b.lt;have hyw:=HYW.i;have hrw:=H.i.b.Af;have G1:=ah (show jC [W.a.j+1] w12 (gZ w12.drew (W.a.j+1) 0 (Oc.mk 0 0 wW x.pl.Y b.E A3 n3 c3).aA)from(jC.jA (F:=[W.a.j+1]) (iD w12)).pO (yF w12.drew (W.a.j+1) 0 _));have BO3:=ah ((BO2.i.go (iD _)).put (Oc.mk 0 0 wW x.pl.Y b.E A3 n3 c3).aA (by rw[Oc.I,Oc.I]));have BE3:=ah (G1.i.box BE2.i (by simp));have E3:=ah (E2.i.Ko G1.i (by simp;omega) (by simp;omega) (by simp;omega) (fun b hb=>by have:=hrw b hb;simp;omega));have O7:=ah (iM (Cj (Cj (Cj O6.i (jC.jA (F:=[]) (iD _)) (by simp)) HF.i (by simp;omega)) G1.i (by simp;omega)) (show W.a.j<=y3 by omega));have FF:=ah (show jC [q,q2,g] W (gZ w12.drew (W.a.j+1) 0 (Oc.mk 0 0 wW x.pl.Y b.E A3 n3 c3).aA)from(((F1.i.lH (F':=[q,q2,g]) (by simp)).pO (jC.jA (iD _))).pO (HF.i.lH (by simp))).trans G1.i (fun j hj=>.b (by simp at hj;omega)));generalize gZ w12.drew (W.a.j+1) 0 (Oc.mk 0 0 wW x.pl.Y b.E A3 n3 c3).aA=w13 at BO3 BE3 E3 O7 FF ⊢;have HFE:=ah (show Ee e s l=({s with lI:=upC s.lI 0,no:=s.no+1,I:=DZ e.c.dX s.I ⟨p.K,b.E,nx,s.gq,s.no+1⟩},⟨0,0,wW,s.Y,b.E,ob⟩)by
      unfold Ee;rw[Nl.i,if_pos rfl,<-HP.i];simp only[amV];rw[<-HNE.i])
     obtain⟨x1,x2,x3⟩:=HX.i;rw[x1,x2]at E3;rw[x3]at BO3;go_wp2;rw[HFE.i];exact aq6 _ rfl BO3.i BE3.i E3.i HI.i.ct HM.i rfl rfl ⟨rfl,rfl,rfl,rfl,rfl,N3.i,O7.i⟩ HSL.i rfl hqW.1 FF.i
end
section
variable {W W':au} {q:Nat} {e:En} {s:qB} {x:Eg} {q2 g:Nat} {sl:List (Option Fw)}
theorem kI6:oW 24 6 (Kz (bH 6 0)):=⟨⟨_,Tryz.underlying24,rfl⟩,by kernel_rfl,by kernel_rfl,jL _⟩
structure At where
 kind:Int
 Oy:Option aU
 yG:Nat
 FJ:Nat
 op:qV
 E:List UInt8
 h:Bool
def At.aA(x:At):Array aC:=#[.b .a x.kind,.a x.Oy x.yG x.FJ]++(x.op.aA ++ #[.g (bP x.E),.e x.h])
theorem At.I(x:At):x.aA.j=34:=by simp[At.aA,qV.I]
@[go_sem]theorem At.eF(x:At):eF x.aA=34:=At.I x
theorem At.zG(x:At):x.aA[0]? = some (.b .a x.kind):=by simp[At.aA,aG]
theorem At.aeo(x:At):x.aA[1]? = some (.a x.Oy x.yG x.FJ):=by simp[At.aA,aG]
theorem At.asM(x:At):x.aA.m 2 32=x.op.aA:=by simp[At.aA,dD,qV.I,qc,tX]
theorem At.zH(x:At):x.aA[32]? = some (.g (bP x.E)):=by simp[At.aA,aG,qV.I]
theorem At.aq9(x:At):x.aA[33]? = some (.e x.h):=by simp[At.aA,aG,qV.I]
structure AtR(W:au)(a:At)(u:Ac):Prop where
 kind:a.kind=u.kind
 fr:fZ W W.a.j a.Oy a.yG u.frame
 FJ:a.yG<=a.FJ/\a.FJ<=9223372036854775807/\a.yG<=1000000
 op:a.op=u.op
 E:a.E=u.E
 h:a.h=u.h
theorem AZ{w1 w2:au}{o:Oc}{x':Eg}{sl':List (Option Fw)}{u:qB×Ou}(h:yE W q e s x q2 g sl)(hb:aM W.a.j W w1)(hl:W.a.j+1<w1.a.j)(hou:OuR w1.a.j w2 o u.2)(hE:yE w2 q e u.1 x' q2 g sl')(hsl:sl'.a=sl.a)(hr:∀b∈mD x',b∈mD x\/(w1.a.j<=b/\b∉uf o.Im))(hf:jC [q,q2,g] w1 w2):
 XM W q e x q2 g sl u (.a (.d o.aA)) (gZ w2 (W.a.j+1) 0 o.aA):=by
 have hq:=h.b.lt;have hrw:=h.b.Af;have hs:=hb.j;have hf2:=yF w2 (W.a.j+1) 0 o.aA;have hx:∀b∈mD x',b∉[W.a.j+1]:=by
  intro b hm;rcases hr b hm with h1|h1
  ·have:=hrw b h1;simp;omega
  ·have:=h1.1;simp;omega
 refine⟨o,x',sl',rfl,?_,hE.Ko hf2 (by simp;omega) (by simp;omega) (by simp;omega) hx,hsl,fun b hm=>(hr b hm).imp id (fun h1=>⟨by omega,h1.2⟩),((jC.jA (F:=[q,q2,g]) hb).pO hf).trans hf2 (fun k hk=>.b (by simp at hk;omega))⟩;have h2:=hou.keep hf2 (by simp;omega);exact⟨h2.err,h2.jh,h2.wW,h2.Y,h2.E,h2.n,iM h2.vD hs⟩
def Oc.bad(k:Int):Oc:=⟨k,0,false,0,[],none,0,0⟩
theorem abO(B:Nat)(W:au)(k:Int):OuR B W (Oc.bad k) {GK with err:=k}:=⟨rfl,rfl,rfl,rfl,rfl,rfl,fB _ _ _ _⟩
theorem an1(B:Nat)(W:au):OuR B W uz GK:=⟨rfl,rfl,rfl,rfl,rfl,rfl,fB _ _ _ _⟩
theorem yE.ara(h:yE W q e s x q2 g sl)(n:Int):yE (W.G ⟨q,77,none⟩ (.b .a n)) q e {s with gq:=n} ({x with gq:=n}:Eg) q2 g sl:=by
 have hb:=h.b.eg.eH 77 (.b .a n);rw[Eg.aeh]at hb;have:=h.num ((jC.refl [q] W).set ⟨q,77,none⟩ (.b .a n) (.a (by simp))) n x.no x.lI hb;rw[h.b.no,h.b.lI]at this;have e1:({x with gq:=n,no:=s.no,lI:=s.lI}:Eg)={x with gq:=n}:=by rw[<-h.b.no,<-h.b.lI]
 rw[e1]at this;exact this
theorem agO{M:Int}(h:yE W q e s x q2 g sl)(hi:oH M e s)(hM:M<1152921504606846976)(a:At)(u:Ac)(ha:AtR W a u)(hk:u.kind=1):
 aQ aj 25 #[.c (some ⟨q,0,none⟩),.d a.aA] W (XM W q e x q2 g sl (Ee e s u.frame)):=by
 have Z0:=ah (((Bx.start W).new a.aA 66).new uz.aA 58);rw[show(W.alloc (.D a.aA 66)).a.j=W.a.j+1 by simp]at Z0;have f0:=(Z0.i.b1.M.1 0).trans (At.zG a);rw[ha.kind,hk]at f0;have f1:=(Z0.i.b1.M.1 1).trans (At.aeo a);have th:=Z0.i.X.O 0 6 (aY (Oc.I uz).symm);have CF:=ah (aen (h.go Z0.i.R) hi hM a.Oy a.yG a.FJ u.frame ha.FJ.1 ha.FJ.2 (ha.fr.upon Z0.i.R));have hlt:=Z0.i.X.lt;have hqs:=h.b.lt;have H:=ah h;clear h;go_enter Ls,IC;go_upto_region 1 with fail
 generalize(W.alloc (.D a.aA 66)).alloc (.D uz.aA 58)=w1 at Z0 f0 f1 th CF hlt ⊢;have HQ:=ah hqs;have HL:=ah hlt;clear hqs hlt;go_wp2_with (go_at_call 70;(with_reducible refine CF.i.g ?_);rintro r w2 ⟨o,x',sl',rfl,ho,hE,hsl,hrw,hf⟩;have HO:=ah ho;have HE:=ah hE;have HSL:=ah hsl;have HR:=ah hrw;have HF:=ah hf;have BO:=ah (hf.box Z0.i.X (by have:=HQ.i;simp;omega));have th2:=BO.i.O 0 6 (aY (Oc.I uz).symm);clear ho hE hsl hrw hf);refine aO (ZB.zm rfl _ rfl (BO.i.put o.aA (by rw[Oc.I,Oc.I])) (Oc.I _)) rfl ?_;exact AZ H.i Z0.i.R HL.i HO.i HE.i HSL.i HR.i HF.i
theorem arb(h:yE W q e s x q2 g sl)(a:At)(u:Ac)(ha:AtR W a u)(hk:u.kind≠1/\u.kind≠2/\u.kind≠3/\u.kind≠4):
 aQ aj 25 #[.c (some ⟨q,0,none⟩),.d a.aA] W (XM W q e x q2 g sl (s,{GK with err:=1})):=by
 have Z0:=ah (((Bx.start W).new a.aA 66).new uz.aA 58);rw[show(W.alloc (.D a.aA 66)).a.j=W.a.j+1 by simp]at Z0;have f0:=(Z0.i.b1.M.1 0).trans (At.zG a);rw[ha.kind]at f0;have th:=Z0.i.X.O 0 6 (aY (Oc.I uz).symm);have hlt:=ah Z0.i.X.lt;have H:=ah h;have k1:(u.kind==1)=false:=by simpa using hk.1
 have k2:(u.kind==2)=false:=by simpa using hk.2.1
 have k3:(u.kind==3)=false:=by simpa using hk.2.2.1
 have k4:(u.kind==4)=false:=by simpa using hk.2.2.2
 clear h hk;go_enter Ls,IC;go_upto_region 1 with fail
 generalize(W.alloc (.D a.aA 66)).alloc (.D uz.aA 58)=w1 at Z0 f0 th hlt ⊢;go_wp2_with fail;refine aO (ZB.zm rfl _ rfl (Z0.i.X.put (Oc.bad 1).aA (by rw[Oc.I,Oc.I])) (Oc.I _)) rfl ?_;exact AZ H.i Z0.i.R hlt.i (abO _ _ 1) (H.i.go Z0.i.R) rfl (fun b hb=>.a hb) (jC.refl _ _)
theorem ako{M:Int}(h:yE W q e s x q2 g sl)(hi:oH M e s)(a:At)(u:Ac)(ha:AtR W a u)(hk:u.kind=4):
 aQ aj 25 #[.c (some ⟨q,0,none⟩),.d a.aA] W (XM W q e x q2 g sl (QS e s)):=by
 have Z0:=ah (((Bx.start W).new a.aA 66).new uz.aA 58);rw[show(W.alloc (.D a.aA 66)).a.j=W.a.j+1 by simp]at Z0;have f0:=(Z0.i.b1.M.1 0).trans (At.zG a);rw[ha.kind,hk]at f0;have th:=Z0.i.X.O 0 6 (aY (Oc.I uz).symm);have hlt:=ah Z0.i.X.lt;have f77:=((h.b.eg.go Z0.i.R).M.1 77).trans (Eg.TU x);have g77:=(h.b.eg.go Z0.i.R).M.2.1 77;have H:=ah h;have HI:=ah hi;have hti:=hi.ti;have hxt:=h.b.gq;clear h hi;go_enter Ls,IC;go_upto_region 1 with fail
 generalize(W.alloc (.D a.aA 66)).alloc (.D uz.aA 58)=w1 at Z0 f0 th hlt f77 g77 ⊢;by_cases hT:1099511627776<=s.gq
 ·have q1:decide (x.gq>=1099511627776)=true:=by simp;omega
  have HU:=ah (show QS e s=(s,{GK with err:=7})by unfold QS;rw[if_pos hT]);clear hT hti hxt g77;go_wp2_with fail;refine aO (ZB.zm rfl _ rfl (Z0.i.X.put (Oc.bad 7).aA (by rw[Oc.I,Oc.I])) (Oc.I _)) rfl ?_;rw[HU.i];exact AZ H.i Z0.i.R hlt.i (abO _ _ 7) (H.i.go Z0.i.R) rfl (fun b hb=>.a hb) (jC.refl _ _)
 ·have q1:decide (x.gq>=1099511627776)=false:=by simp;omega
  have HU:=ah (show QS e s=({s with gq:=x.gq+1,I:=LX (x.gq+1) x.cf.kD s.I},GK)by unfold QS;rw[if_neg hT,hxt,H.i.b.cf]);have hw:=jV (x.gq+1) (by omega);have E1:=ah ((H.i.go Z0.i.R).ara (x.gq+1));have hf1:jC [q] w1 (w1.G ⟨q,77,none⟩ (.b .a (x.gq+1))):=(jC.refl [q] w1).set ⟨q,77,none⟩ _ (.a (by simp));have HF1:=ah hf1;have B0:=ah (hf1.box Z0.i.X (by have:=H.i.b.lt;simp;omega));clear hT hti hxt hf1;go_upto_region 24 with fail
  clear th f0 f77 g77;generalize w1.G ⟨q,77,none⟩ (.b .a (x.gq+1))=w2 at E1 HF1 B0 ⊢;have KS:=ah (fun(w':au) (h4:dN w' q ({x with gq:=x.gq+1}:Eg).aA)=>show w'.b ⟨q,74,none⟩=some (.c (some ⟨q2,0,none⟩))/\w'.b ⟨q,77,none⟩=some (.b .a (x.gq+1))/\(WL (.c (some ⟨q,19,none⟩))).J aj w'=.ok (.d (Kz x.cf.kD)) w' from
   ⟨by
    rw[h4.M.1 74,Eg.Zv];show some (sw (x.fl.map fun b=>⟨b,0,none⟩))=_;rw[H.i.b.fl];rfl,(h4.M.1 77).trans (Eg.TU _),kI6.Dw h4 19 (Eg.Tv _) (by rw[Eg.I];omega)⟩)
  have CU:=ah (ad9 (E1.i.go (iD _)).b.h (x.gq+1) x.cf.kD);obtain⟨k1,k2,k3⟩:=KS.i _ (E1.i.b.eg.go (iD _));go_region_held_law (fun w'=>w'.b ⟨q,74,none⟩=some (.c (some ⟨q2,0,none⟩))/\w'.b ⟨q,77,none⟩=some (.b .a (x.gq+1))/\(WL (.c (some ⟨q,19,none⟩))).J aj w'=.ok (.d (Kz x.cf.kD)) w')
   (first|exact KS.i _ (E1.i.b.eg.go (iD _))|exact KS.i _ BQ.i|go_keep)
   (first|(go_at_call 75;(with_reducible refine CU.i.g ?_);rintro r w3 ⟨⟨A5,c5,rfl⟩,⟨sl',ht,hsl⟩,hf⟩;have HTB:=ah ht;have HSL:=ah hsl;have HF:=ah hf;have BQ:=ah (jC.box hf (E1.i.b.eg.go (iD _)) (by have h1:=H.i.b.nq;simp;omega));have B2:=ah (jC.box hf (B0.i.go (iD _)) (by have h1:=H.i.b.lt;simp;omega));clear hf ht hsl))
  have th:=B2.i.O 0 6 (aY (Oc.I uz).symm);have E2:=ah (yE.qZ (E1.i.go (iD _)) HF.i HTB.i HSL.i);go_wp2_with fail;refine aO (ZB.zm rfl _ rfl (B2.i.put uz.aA rfl) (Oc.I _)) rfl ?_;rw[HU.i];exact AZ H.i Z0.i.R hlt.i (an1 _ _) E2.i HSL.i (fun b hb=>.a hb) (((HF1.i.lH (F':=[q,q2,g]) (by simp)).pO (jC.jA (iD _))).pO (HF.i.lH (by simp)))
end
section
variable {W W':au} {q:Nat} {e:En} {s:qB} {x:Eg} {q2 g:Nat} {sl:List (Option Fw)}
theorem agP{x:Hl}{well:Bool}{r f:Int}:(uQ x well r f).1.E=x.E/\((uQ x well r f).2=false->(uQ x well r f).1.down=x.down):=by
 unfold uQ
 repeat' split
 all_goals simp
theorem ZC:∀(l:List Hl)(k:Nat)(y:Hl),k<l.a->y.E=(l.c k kQ).E->y.down=(l.c k kQ).down->ou (l.set k y)=ou l
 | [],_,_,h,_,_=>by cases h
 | a::l,0,y,_,h1,h2=>by
   unfold ou;simp only[List.getD_cons_zero]at h1 h2;simp only[bM,List.filter_cons,h2];split<;>simp[h1]
 | a::l,k+1,y,h,h1,h2=>by
   have ih:=ZC l k y (by simpa using h) (by simpa using h1) (by simpa using h2);unfold ou at ih ⊢;simp only[bI,List.filter_cons];split<;>simp[ih]
theorem agQ{l:List Hl}{n:List UInt8}{well:Bool}{r f:Int}(h:(KE l n well r f).2.1=false):ou (KE l n well r f).1=ou l:=by
 unfold KE at h ⊢;split
 ·rfl
 ·rename_i hp
  rw[if_neg hp]at h;have hk:=agP (x:=l.c (zL l n).e kQ) (well:=well) (r:=r) (f:=f);by_cases hl:(zL l n).e<l.a
  ·exact ZC l _ _ hl hk.1 (hk.2 h)
  ·simp only
   rw[List.set_eq_of_length_le (by omega)]
theorem akp(l:List Hl)(s:List UInt8)(a:Bool)(b c:Int):(KE l s a b c).1.a=l.a:=by
 unfold KE;split
 ·rfl
 ·simp
theorem Qk{A:Option aU}{n c:Nat}{b:Nat}(h:b∈mD ({x with OO:=A,Eh:=n,Sz:=c}:Eg)):b∈mD x\/b∈uf A:=by
 rcases dZ.1 h with h|h|h|h|h|h
 ·exact .a (dZ.2 (.a h))
 ·exact .a (dZ.2 (.b (.a h)))
 ·exact .b h
 ·exact .a (dZ.2 (.b (.b (.b (.a h)))))
 ·exact .a (dZ.2 (.b (.b (.b (.b (.a h))))))
 ·exact .a (dZ.2 (.b (.b (.b (.b (.b h))))))
theorem Ms.ard{A:Option aU}{n c:Nat}{JF:List Hl}(h:Ms W q e s x q2 g sl)(hR:iF Hl.aA 3 W' W'.a.j A n JF)(hf:jC [q] W W')(hb:dN W' q ({x with OO:=A,Eh:=n,Sz:=c}:Eg).aA)(hA:∀b∈uf A,W.a.j<=b/\b<W'.a.j):Ms W' q e {s with h:=JF} ({x with OO:=A,Eh:=n,Sz:=c}:Eg) q2 g sl:=by
 have o:∀b,b∈mD x->b∉[q]:=fun b hm=>h.i hm
 have hs:=hf.j;have hq:=h.nq;have hlt:=h.lt;refine⟨hb,h.key,h.cf,h.Y,h.vs.keep hf (fun b hm=>o b (dZ.2 (.a hm))),h.bk.keep hf (fun b hm=>o b (dZ.2 (.b (.a hm)))),hR,h.fl,h.h.keep hf (by simp;omega) (by simp;omega),h.rm,h.nq,fun b hm=>?_,h.gq,h.no,h.lI⟩;rcases Qk hm with hm|hm
 ·have:=h.Af b hm;omega
 ·have:=hA b hm;omega
theorem yE.ard{A:Option aU}{n c:Nat}{JF:List Hl}(h:yE W q e s x q2 g sl)(hR:iF Hl.aA 3 W' W'.a.j A n JF)(hf:jC [q] W W')(hb:dN W' q ({x with OO:=A,Eh:=n,Sz:=c}:Eg).aA)(hA:∀b∈uf A,W.a.j<=b/\b<W'.a.j)(hd:ou JF=ou s.h):yE W' q e {s with h:=JF} ({x with OO:=A,Eh:=n,Sz:=c}:Eg) q2 g sl:=by
 have o:∀b,b∈mD x->b∉[q]:=fun b hm=>h.b.i hm
 refine⟨h.b.ard hR hf hb hA,?_,?_⟩
 ·have:=h.dn.keep hf (fun b hm=>o b (dZ.2 (.b (.b (.b (.a hm))))))
  rw[<-hd]at this;exact this
 ·have:=h.tt.keep hf (fun b hm=>o b (dZ.2 (.b (.b (.b (.b (.a hm))))))) (fun b hm=>o b (dZ.2 (.b (.b (.b (.b (.b hm)))))))
  have he:wF e {s with h:=JF}=wF e s:=by unfold wF;simp only;rw[hd]
  rw[<-he]at this;exact this
theorem akq{M:Int}(h:yE W q e s x q2 g sl)(hi:oH M e s)(a:At)(u:Ac)(ha:AtR W a u)(hk:u.kind=3):
 aQ aj 25 #[.c (some ⟨q,0,none⟩),.d a.aA] W (XM W q e x q2 g sl (QO e s u.E u.h)):=by
 have Z0:=ah (((Bx.start W).new a.aA 66).new uz.aA 58);rw[show(W.alloc (.D a.aA 66)).a.j=W.a.j+1 by simp]at Z0;have f0:=(Z0.i.b1.M.1 0).trans (At.zG a);rw[ha.kind,hk]at f0;have hlt:=ah Z0.i.X.lt;have H:=ah h;have HI:=ah hi;have HA:=ah (show a.E=u.E/\a.h=u.h from⟨ha.E,ha.h⟩);have hnn:=sN hi.cn;obtain⟨st,hst⟩:=dw (KE s.h u.E u.h x.cf.kr x.cf.fall);have hcr:x.cf.kr=e.c.kr/\x.cf.fall=e.c.fall:=by rw[h.b.cf];exact⟨rfl,rfl⟩
 have HST:=ah (show st=KE s.h u.E u.h e.c.kr e.c.fall by rw[hst,hcr.1,hcr.2]);have CS:=ah (fun(w:au) (hb:aM W.a.j W w)=>apg s.h u.E u.h x.cf.kr x.cf.fall x.OO x.Eh x.Sz w (h.b.hl.go hb) (fun y hy=>by have h1:=hi.hl y hy;unfold arV;split at h1<;>omega) (by have h1:=h.b.hl.1;have h2:=hi.few;omega));rw[<-hst]at CS;unfold axT at CS;clear h hi hst hcr hnn;obtain⟨JF,turned,er⟩:=st;simp only at CS;go_enter Ls,IC;go_upto_region 1 with fail
 generalize(W.alloc (.D a.aA 66)).alloc (.D uz.aA 58)=w1 at Z0 f0 hlt ⊢;go_upto_region 13 with fail
 have KS:=ah (fun(w':au) (h1:dN w' W.a.j a.aA) (h4:dN w' q x.aA)=>show w'.b ⟨q,72,none⟩=some (.a x.OO x.Eh x.Sz)/\w'.b ⟨W.a.j,32,none⟩=some (.g (bP u.E))/\w'.b ⟨W.a.j,33,none⟩=some (.e u.h)/\w'.b ⟨q,25,none⟩=some (.b .a x.cf.kr)/\w'.b ⟨q,26,none⟩=some (.b .a x.cf.fall)from
  ⟨(h4.M.1 72).trans (Eg.Zu _),by rw[h1.M.1 32,At.zH,HA.i.1],by rw[h1.M.1 33,At.aq9,HA.i.2],(h4.M.1 25).trans (Eg.Tw _),(h4.M.1 26).trans (Eg.Tx _)⟩)
 go_region_held_law (fun w'=>w'.b ⟨q,72,none⟩=some (.a x.OO x.Eh x.Sz)/\w'.b ⟨W.a.j,32,none⟩=some (.g (bP u.E))/\w'.b ⟨W.a.j,33,none⟩=some (.e u.h)/\w'.b ⟨q,25,none⟩=some (.b .a x.cf.kr)/\w'.b ⟨q,26,none⟩=some (.b .a x.cf.fall))
  (first|exact KS.i _ Z0.i.drew.b1 (H.i.b.eg.go Z0.i.drew.R)|exact KS.i _ Z1.i.b1 (H.i.b.eg.go Z1.i.R)|go_keep)
  (first|(go_at_call 74;(with_reducible refine(CS.i _ Z0.i.drew.R).g ?_);rintro r w2 ⟨A5,c5,rfl,ho,hb⟩;have HO:=ah ho;have Z1:=ah (Z0.i.drew.go hb);have HSZ:=ah (show w1.a.j<=w2.a.j from hb.j);have HB2:=ah (show aM w1.a.j w1 w2 from(iD w1).trans hb);clear hb ho))
 have HO:=ah (show w2.c w1.a.j 100 3 (.a A5 x.Eh c5) x.Eh (wY JF)from HO.i);have th:=Z1.i.X.O 0 6 (aY (Oc.I uz).symm);by_cases her:er=0
 case neg=>
  have q1:(er != 0)=true:=by simpa using her
  have HU:=ah (show QO e s u.E u.h=(s,{GK with err:=er})by unfold QO;rw[<-HST.i];simp only;rw[if_neg her]);clear her;go_wp2_with fail;refine aO (ZB.zm rfl _ rfl (Z1.i.X.put (Oc.bad er).aA (by rw[Oc.I,Oc.I])) (Oc.I _)) rfl ?_;rw[HU.i];exact AZ H.i Z1.i.R (eZ hlt.i HSZ.i) (abO _ _ er) (H.i.go Z1.i.R) rfl (fun b hb=>.a hb) (jC.refl _ _)
 obtain rfl:=her;have HU:=ah (show QO e s u.E u.h=({s with h:=JF},GK)by unfold QO;rw[<-HST.i];simp);have HIV:=ah (show oH M e {s with h:=JF}by have:=adS HI.i u.E u.h;rw[HU.i]at this;exact this);have g72:=(H.i.b.eg.go Z1.i.R).M.2.1 72;have hb3:=(H.i.b.eg.go Z1.i.R).eH 72 (.a A5 x.Eh c5);rw[Eg.agH]at hb3;have hf3:jC [q] w2 (w2.G ⟨q,72,none⟩ (.a A5 x.Eh c5)):=(jC.refl [q] w2).set ⟨q,72,none⟩ _ (.a (by simp));have HHB:=ah hb3;have HHF:=ah hf3;have B3:=ah (hf3.box Z1.i.X (by have:=H.i.b.lt;simp;omega));have HFR:=ah (gW HO.i);have HLN:=ah (show JF.a=x.Eh by
  have h1:=congrArg (fun r=>r.1.a) HST.i;simp only[akp]at h1;rw[h1];exact H.i.b.hl.1)
 have RH:=ah (show iF Hl.aA 3 (w2.G ⟨q,72,none⟩ (.a A5 x.Eh c5)) (w2.G ⟨q,72,none⟩ (.a A5 x.Eh c5)).a.j A5 x.Eh JF from(iF.gV HLN.i HO.i).keep hf3 (fun b hb=>by have:=HFR.i b hb;have:=H.i.b.lt;have:=Z1.i.R.j;have:=HSZ.i;have:=Z0.i.R.j;simp;omega));have HWS:(w2.G ⟨q,72,none⟩ (.a A5 x.Eh c5)).a.j=w2.a.j:=by simp[iw]
 have HWZ:=ah HWS;have HFA:=ah ((jC.jA (F:=[q]) Z1.i.R).pO hf3);have GI:=ah (show W.a.j<=w1.a.j from Z0.i.R.j);have agR:=ah ((jC.jA (F:=[q]) HB2.i).pO hf3);have HBA:=ah (show∀b∈uf A5,w1.a.j<=b/\b<(w2.G ⟨q,72,none⟩ (.a A5 x.Eh c5)).a.j from fun b hb=>by rw[HWS];exact HFR.i b hb);cases turned with
 | false=>
   have HD:=ah (show ou JF=ou s.h by have:=agQ (l:=s.h) (n:=u.E) (well:=u.h) (r:=e.c.kr) (f:=e.c.fall) (by rw[<-HST.i]);rw[<-HST.i]at this;exact this);have E3:=ah ((H.i.go Z0.i.R).ard RH.i agR.i hb3 HBA.i HD.i);clear hf3 hb3 th HWS;have th3:=B3.i.O 0 6 (aY (Oc.I uz).symm);go_upto_region 17 with fail
   generalize w2.G ⟨q,72,none⟩ (.a A5 x.Eh c5)=w3 at E3 HHF HFA agR HBA B3 th3 HWZ RH HHB ⊢;go_wp2_with fail;refine aO (ZB.zm rfl _ rfl (B3.i.put uz.aA rfl) (Oc.I _)) rfl ?_;rw[HU.i];exact AZ H.i Z0.i.R hlt.i (an1 _ _) E3.i rfl (fun b hb=>(Qk hb).imp id (fun h=>⟨(HBA.i b h).1,Fp⟩)) (agR.i.lH (by simp))
 | true=>
   have E3:=ah ((H.i.go Z0.i.R).b.ard RH.i agR.i hb3 HBA.i);clear hf3 hb3 th HWS;go_upto_region 17 with fail
   generalize w2.G ⟨q,72,none⟩ (.a A5 x.Eh c5)=w3 at E3 HHF HFA agR HBA B3 HWZ RH HHB ⊢;have CB:=ah (JE E3.i HIV.i);unfold abJ at CB;go_upto_region 19 with(go_at_call 64;(with_reducible refine CB.i.g ?_);rintro r w4 ⟨rfl,⟨x',hE,hrw⟩,hf⟩;have HE:=ah hE;have HRW:=ah hrw;have HF:=ah hf;have B4:=ah (hf.box B3.i (by have:=H.i.b.lt;simp;omega));have th4:=B4.i.O 0 6 (aY (Oc.I uz).symm);clear hE hrw hf)
   go_wp2_with fail;refine aO (ZB.zm rfl _ rfl (B4.i.put uz.aA rfl) (Oc.I _)) rfl ?_;rw[HU.i];refine AZ H.i Z0.i.R hlt.i (an1 _ _) HE.i rfl (fun b hb=>?_) ((agR.i.pO HF.i).lH (by simp));rcases HRW.i b hb with h1|h1
   ·exact(Qk h1).imp id (fun h=>⟨(HBA.i b h).1,Fp⟩)
   ·exact .b ⟨aP agR.i.j h1,Fp⟩
end
section
variable {W W':au} {q:Nat} {e:En} {s:qB} {x:Eg} {q2 g:Nat} {sl:List (Option Fw)}
@[go_sem]theorem aAg(W:au)(k:Int):(uJ 58 #[(3,.b .a k)]).J aj W=.ok (.d (Oc.mk 0 0 false k [] none 0 0).aA) W:=ZB.bd W _ _ _ _ kL (anS W _ kL) (by
 refine(iC rfl rfl (by rw[Oc.I];omega) (Oc.asL _ _)).trans ?_;rfl)
theorem dN.avO{W:au}{b o:Nat}{c:Array aC}{t:qV}(h:dN W b c)(hc:c.m o (o+30)=t.aA)(hs:o+30<=c.j):(Nh (.c (some ⟨b,o,none⟩))).J aj W=.ok (.d t.aA) W:=by
 obtain⟨_,_,h3,h4⟩:=h.M;rw[alR W b o (by rw[h3 o 30 (by unfold eF;omega)];trivial),h4 o 30 (by unfold eF;omega),hc]
theorem aep{F:List Nat}{B n c sz:Nat}{T:bF}{A:Option aU}{xs:List aC}(h:W.c B T sz (.a A n c) n xs)(hf:jC F W W')(hF:∀b∈F,b<B):W'.c B T sz (.a A n c) n xs:=yC h hf (fun k hk hm=>by
 have h2:k∈uf A:=by
  cases hA:A with
  | none=>rw[hA]at hk;cases hk
  | some a=>rw[hA]at hk;exact AX.2 ⟨a,rfl,by simpa[jJ]using hk⟩
 have h3:=(gW h k h2).1;have:=hF k hm;omega)
theorem Eg.aAh(h:dN W q x.aA)(pc:Pc):dN (gZ W q 70 pc.aA) q ({x with pl:=pc}:Eg).aA:=by
 have:=h.setCells 70 pc.aA.a;rw[show pc.aA.a.toArray=pc.aA by simp,Eg.anG]at this;exact this
theorem dN.aqW{b:Nat}{pc:Pc}(h:dN W b pc.aA):(xK 32 (.c (some ⟨b,0,none⟩))).J aj W=.ok (.d pc.aA) W:=by
 have:=kPc.Dw h 0 (d:=pc.aA) (by have:=Pc.I pc;rw[<-this];simp) (by rw[Pc.I];omega);exact this
theorem oH.arf{M:Int}(h:oH M e s):∀y∈s.h,y.E.a<=100000:=fun y hy=>by
 have h1:y.E∈s.rX.map (·.E):=by rw[<-h.nm];exact iX.2 ⟨y,hy,rfl⟩
 obtain⟨z,hz,h2⟩:=iX.1 h1;have h3:=h.few.2.2 z hz;rw[<-h2];omega
theorem an2{w4 w5 w6:au}{nL:List Hl}{A:Option aU}{c:Nat}(h1:aM w4.drew.a.j w4.drew w5)(h2:aM w5.a.j w5 w6)(hq:q<w4.a.j)(Q:dN w6 q x.aA)(O:w6.c w5.a.j 100 3 (.a A nL.a c) nL.a (wY nL)):
 ∃A2 n2 c2,dN (w6.G ⟨q,72,none⟩ (.a A nL.a c)) q ({x with OO:=A2,Eh:=n2,Sz:=c2}:Eg).aA/\iF Hl.aA 3 (w6.G ⟨q,72,none⟩ (.a A nL.a c)) (w6.G ⟨q,72,none⟩ (.a A nL.a c)).a.j A2 n2 nL/\(∀b∈uf A2,w4.a.j<=b/\b<(w6.G ⟨q,72,none⟩ (.a A nL.a c)).a.j)/\jC [q] w4 (w6.G ⟨q,72,none⟩ (.a A nL.a c)):=by
 have s1:w4.a.j<=w5.a.j:=h1.j;have hf:jC [q] w6 (w6.G ⟨q,72,none⟩ (.a A nL.a c)):=(jC.refl [q] w6).set ⟨q,72,none⟩ _ (.a (by simp));have hb:=Q.eH 72 (.a A nL.a c);rw[Eg.agH]at hb;have hfr:=gW O;refine⟨A,nL.a,c,hb,(iF.gV rfl O).keep hf (fun b hm=>by have:=hfr b hm;simp;omega),fun b hm=>?_,(((jC.jA (F:=[q]) (iD w4)).pO (jC.jA h1)).pO (jC.jA h2)).pO hf⟩;have:=hfr b hm;have e1:(w6.G ⟨q,72,none⟩ (.a A nL.a c)).a.j=w6.a.j:=by simp[iw]
 rw[e1];omega
theorem ZH{p:Pc}{A:Option aU}{n c:Nat}{b:Nat}(h:b∈mD ({x with pl:=p,OO:=A,Eh:=n,Sz:=c}:Eg)):b∈mD x\/b∈uf p.rA\/b∈uf A:=by
 rcases dZ.1 h with h|h|h|h|h|h
 ·exact .a (dZ.2 (.a h))
 ·exact .b (.a h)
 ·exact .b (.b h)
 ·exact .a (dZ.2 (.b (.b (.b (.a h)))))
 ·exact .a (dZ.2 (.b (.b (.b (.b (.a h))))))
 ·exact .a (dZ.2 (.b (.b (.b (.b (.b h))))))
theorem Ms.aFi{p:Pc}{A:Option aU}{n c:Nat}{l:List Bk}{JF:List Hl}(h:Ms W q e s x q2 g sl)(hP:iF Bk.aA 27 W' W'.a.j p.rA p.rN l)(hR:iF Hl.aA 3 W' W'.a.j A n JF)(hf:jC [q] W W')(hb:dN W' q ({x with pl:=p,OO:=A,Eh:=n,Sz:=c}:Eg).aA)(hA:∀b,b∈uf p.rA\/b∈uf A->W.a.j<=b/\b<W'.a.j):Ms W' q e {s with Y:=p.Y,rX:=l,h:=JF} ({x with pl:=p,OO:=A,Eh:=n,Sz:=c}:Eg) q2 g sl:=by
 have o:∀b,b∈mD x->b∉[q]:=fun b hm=>h.i hm
 have hs:=hf.j;have hq:=h.nq;have hlt:=h.lt;refine⟨hb,h.key,h.cf,rfl,h.vs.keep hf (fun b hm=>o b (dZ.2 (.a hm))),hP,hR,h.fl,h.h.keep hf (by simp;omega) (by simp;omega),h.rm,h.nq,fun b hm=>?_,h.gq,h.no,h.lI⟩;rcases ZH hm with hm|hm
 ·have:=h.Af b hm;omega
 ·have:=hA b hm;omega
def DoP(w:au)(v:Int)(l:List Bk)(er:Int)(r:lu)(w':au):Prop:=
 ∃A c,r=.a (.K #[.d (Pc.mk v A l.a c).aA,.b .a er])/\w'.c w.a.j 62 27 (.a A l.a c) l.a (dO l)/\aM w.a.j w w'
theorem aAi{M:Int}(h:yE W q e s x q2 g sl)(hi:oH M e s)(hv:s.Y<9223372036854775807/\-9223372036854775808<=s.Y)(o:qV)(hf:o.bk.qg)(hw:o.w<18446744073709551616){w:au}(hb:aM W.a.j W w):
 aQ aj 71 #[.d x.pl.aA,.d o.aA] w (DoP w (doV s.Y s.rX o) (doL s.Y s.rX o) (qC s.Y s.rX o)):=by
 have h1:=h.b.bk.go hb;have hn:=h.b.bk.1;have akg:=hi.few;have:=atB s.rX hi.srt s.Y ⟨hv.2,hv.1⟩ o hf hw x.pl.rA x.pl.rC w (by rw[hn];exact h1) (by omega);rw[hn]at this;have e1:x.pl.aA = #[.b .a s.Y,.a x.pl.rA x.pl.rN x.pl.rC]:=by unfold Pc.aA;rw[h.b.Y]
 rw[e1];exact this
theorem arh{M:Int}(h:yE W q e s x q2 g sl)(hi:oH M e s)(a:At)(u:Ac)(ha:AtR W a u)(hk:u.kind=2)(hof:u.op.bk.qg)(how:u.op.w<18446744073709551616):
 aQ aj 25 #[.c (some ⟨q,0,none⟩),.d a.aA] W (XM W q e x q2 g sl (opE s u.op)):=by
 have Z0:=ah (((Bx.start W).new a.aA 66).new uz.aA 58);rw[show(W.alloc (.D a.aA 66)).a.j=W.a.j+1 by simp]at Z0;have f0:=(Z0.i.b1.M.1 0).trans (At.zG a);rw[ha.kind,hk]at f0;have hlt:=ah Z0.i.X.lt;have H:=ah h;have HI:=ah hi;have HA:=ah ha.op;have CD:=ah (fun(w:au) (hb:aM W.a.j W w)=>aAi h hi (by obtain⟨p1,p2,_⟩:=wZ.1 hi.pl;omega) u.op hof how hb);unfold DoP at CD;obtain⟨v,hv⟩:=dw (doV s.Y s.rX u.op);obtain⟨l,hl⟩:=dw (doL s.Y s.rX u.op);obtain⟨er,her⟩:=dw (qC s.Y s.rX u.op);rw[<-hv,<-hl,<-her]at CD;have HV:=ah hv;have HL:=ah hl;have HE:=ah her;clear h hi hv hl her;go_enter Ls,IC;go_upto_region 1 with fail
 generalize(W.alloc (.D a.aA 66)).alloc (.D uz.aA 58)=w1 at Z0 f0 hlt ⊢;go_upto_region 5 with fail
 have KS:=ah (fun(w':au) (h1:dN w' W.a.j a.aA) (h2:aM W.a.j W w')=>show(xK 32 (.c (some ⟨q,70,none⟩))).J aj w'=.ok (.d x.pl.aA) w'/\(Nh (.c (some ⟨W.a.j,2,none⟩))).J aj w'=.ok (.d u.op.aA) w' from
  ⟨H.i.b.agJ h2,h1.avO (o:=2) (by rw[<-HA.i];exact At.asM a) (by rw[At.I];omega)⟩)
 go_cut [5,6]from 21 to 29 (fun s5 s6 wx=>∃y A c,s5=.c (some ⟨y,0,none⟩)/\s6=.b .a er/\w1.a.j<=y/\Bx [(y,(Pc.mk v A l.a c).aA),(W.a.j+1,uz.aA),(W.a.j,a.aA)] W wx/\wx.c w1.a.j 62 27 (.a A l.a c) l.a (dO l)/\aM w1.a.j w1 wx)
 case first=>
  have ZP:=ah ((Z0.i.new XK.aA 32).drew);go_region_held_law (fun w'=>(xK 32 (.c (some ⟨q,70,none⟩))).J aj w'=.ok (.d x.pl.aA) w'/\(Nh (.c (some ⟨W.a.j,2,none⟩))).J aj w'=.ok (.d u.op.aA) w')
   (first|exact KS.i _ ZP.i.b2 ZP.i.R|exact KS.i _ Z0.i.b1 Z0.i.R|exact KS.i _ Z0.i.drew.b1 Z0.i.drew.R|exact KS.i _ (Z0.i.new XK.aA 32).b2 (Z0.i.new XK.aA 32).R|exact KS.i _ Z1.i.b2 Z1.i.R|exact KS.i _ Z2.i.b1 Z2.i.R|exact KS.i _ (Z2.i.new XK.aA 32).b2 (Z2.i.new XK.aA 32).R|exact KS.i _ ZQ.i.b2 ZQ.i.R|exact KS.i _ ZN.i.b2 ZN.i.R|go_keep)
   (first|(go_at_call 71;(with_reducible refine(CD.i _ ZP.i.R).g ?_);rintro r w2 ⟨A5,c5,rfl,ho,hb⟩;have HO:=ah ho;have Z1:=ah (ZP.i.go hb);have HB2:=ah hb;have thp:=Z1.i.X.O 0 2 (aY (Pc.I XK).symm);have ZQ:=ah (Z1.i.put (fun p hp=>jN (Z0.i.2 p hp).2.lt) (Pc.mk v A5 l.a c5).aA (by rw[Pc.I,Pc.I]));clear hb ho)|(go_at_call 71;(with_reducible refine(CD.i _ Z0.i.drew.R).g ?_);rintro r w2 ⟨A5,c5,rfl,ho,hb⟩;have HO:=ah ho;have Z2:=ah (Z0.i.drew.go hb);have ZN:=ah (Z2.i.new (Pc.mk v A5 l.a c5).aA 32);have HB2:=ah hb;clear hb ho))
  ·go_wp2_with fail
   go_meet
   case rel=>exact⟨w2.a.j,A5,c5,rfl,rfl,HB2.i.j,ZN.i,yC HO.i (jC.jA (F:=[]) ((aH _ _).alloc (ay _) _)) (fun k hk hm=>by cases hm),((iD w1).trans HB2.i).alloc HB2.i.j _⟩
  ·go_wp2_with fail
   go_meet
   case rel=>exact⟨w1.a.j,A5,c5,rfl,rfl,ay _,ZQ.i,iM (aep HO.i (yF w2 w1.a.j 0 _) (by simp)) (by simp),lg (((aH w1.a.j w1).alloc (ay _) _).trans (((iD _).trans HB2.i).g (by simp))) w1.a.j 0 _ (ay _)⟩
 obtain⟨y,A,c,rfl,rfl,hy,Z3,hO,hB⟩:=hcut;have Z3:=ah Z3;have HO:=ah hO;have HB:=ah hB;have HY:=ah hy;clear hO hB hy CD;generalize wc=w3 at Z3 HO HB ⊢;have th:=Z3.i.b1.O 0 6 (aY (Oc.I uz).symm);by_cases h0:er=0
 case neg=>
  have q1:(er != 0)=true:=by simpa using h0
  have HU:=ah (show opE s u.op=(s,{GK with err:=er})by unfold opE;rw[<-HE.i,if_neg h0]);clear h0;go_wp2_with fail;refine aO (ZB.zm rfl _ rfl (Z3.i.b1.put (Oc.bad er).aA (by rw[Oc.I,Oc.I])) (Oc.I _)) rfl ?_;rw[HU.i];exact AZ H.i Z3.i.R (eZ hlt.i HB.i.j) (abO _ _ er) (H.i.go Z3.i.R) rfl (fun b hb=>.a hb) (jC.refl _ _)
 obtain rfl:=h0;have HU:=ah (show opE s u.op=({s with Y:=v,rX:=l,h:=EL s.h (l.map (·.E))},{GK with Y:=v})by unfold opE;rw[<-HE.i,if_pos rfl,<-HV.i,<-HL.i]);have HIV:=ah (show oH M e {s with Y:=v,rX:=l,h:=EL s.h (l.map (·.E))}by have:=amW HI.i u.op hof how;rw[HU.i]at this;exact this);have hq:=H.i.b.lt;have hyw:W.a.j+1<y:=eZ hlt.i HY.i;have EB:=H.i.b.eg.go Z3.i.R;have th2:=EB.O 70 2 (by rw[Eg.I];omega);have lp:=Z3.i.X.aqW;have HB4:=ah (Eg.aAh EB (Pc.mk v A l.a c));go_upto_region 9 with fail
 have hrw:=H.i.b.Af;have F4:=ah (yF w3 q 70 (Pc.mk v A l.a c).aA);have BY:=ah (F4.i.box Z3.i.X (by simp;omega));have B4:=ah (F4.i.box Z3.i.b1 (by simp;omega));have O4:=ah (aep HO.i F4.i (by have:=Z0.i.R.j;simp;omega));have HR4:=ah ((H.i.b.hl.go Z3.i.R).keep F4.i (fun b hb=>by have:=hrw b (dZ.2 (.b (.b (.a hb))));simp;omega));have HF:=ah HIV.i.few;have HNN:=ah HI.i.arf;have HNM:=ah (show∀z∈l.map (·.E),z.a<=100000 from fun z hz=>by
  obtain⟨b,hb,rfl⟩:=iX.1 hz;have:=HF.i.2.2 b hb;omega)
 have HLE:=ah (show x.Eh<=100000 by have h1:=H.i.b.hl.1;have h2:=HI.i.few;omega);have HQ3:=ah (show q<w3.a.j by have:=Z3.i.R.j;omega);clear hq hyw EB th2 lp hrw th f0;generalize gZ w3 q 70 (Pc.mk v A l.a c).aA=w4 at HB4 F4 BY B4 O4 HR4 ⊢;have HQ4:=ah (show q<w4.a.j from eZ HQ3.i F4.i.j);have CN:=ah (aei l v A l.a c w4.drew ((iF.gV rfl O4.i).go (iD _)) (by have:=HF.i.1;simp at this;omega));have f72:=((HB4.i.go (iD _)).M.1 72).trans (Eg.Zu _);have lp:=(BY.i.go (iD _)).aqW;go_cut []from 38 to 47 (fun wx=>∃A2 n2 c2,dN wx q ({x with pl:=Pc.mk v A l.a c,OO:=A2,Eh:=n2,Sz:=c2}:Eg).aA/\iF Hl.aA 3 wx wx.a.j A2 n2 (EL s.h (l.map (·.E)))/\(∀b∈uf A2,w4.a.j<=b/\b<wx.a.j)/\jC [q] w4 wx)
 case first=>
  go_region_with (first
   | (go_at_call 73;(with_reducible refine CN.i.g ?_);rintro r w5 ⟨A2,n2,c2,rfl,hR,hb⟩;have HN5:=ah hR;have B5:=ah hb;have Y5:=ah ((BY.i.go (iD _)).go hb);have Q5:=ah ((HB4.i.go (iD _)).go hb);have aL2:=(Q5.i.M.1 72).trans (Eg.Zu _);have lp5:=Y5.i.aqW;have CY:=ah (amb s.h (l.map (·.E)) x.OO x.Eh x.Sz A2 n2 c2 w5 ((HR4.i.go (iD _)).go hb) hR HLE.i (by have h1:=hR.1;have h2:=HF.i.1;simp at h1 h2;omega) HNN.i HNM.i);clear hR hb)
   | (go_at_call 72;(with_reducible refine CY.i.g ?_);rintro r w6 ⟨A6,c6,rfl,ho,hb⟩;have O6:=ah ho;have B6:=ah hb;have Y6:=ah (Y5.i.go hb);have Q6:=ah (Q5.i.go hb);have g72:=Q6.i.M.2.1 72;have aL3:=(Q6.i.M.1 72).trans (Eg.Zu _);have Y7:=ah (((jC.refl [q] w6).set ⟨q,72,none⟩ (.a A6 (EL s.h (l.map (·.E))).a c6) (.a (by simp))).box Y6.i (by have h1:=H.i.b.lt;have h2:=hlt.i;have h3:=HY.i;simp;omega));clear ho hb))
  all_goals go_wp2_with fail
  all_goals go_meet
  all_goals(have hs:=an2 (x:=({x with pl:=Pc.mk v A l.a c}:Eg)) B5.i B6.i HQ4.i Q6.i O6.i;exact hs)
 obtain⟨A2,n2,c2,hb5,hr5,avP,hf5⟩:=hcut;have s1:=HB.i.j;have F34:jC [q] w1 wc:=((jC.jA (F:=[q]) HB.i).pO F4.i).pO hf5;have hq1:=H.i.b.lt;have s0:=Z0.i.R.j;have hOf:=gW O4.i;have E5:=ah ((H.i.go Z0.i.R).b.aFi (p:=Pc.mk v A l.a c) (((iF.gV rfl O4.i)).keep hf5 (fun b hb=>by have:=hOf b hb;simp;omega)) hr5 F34 hb5 (fun b hb=>by
  rcases hb with hb|hb
  ·have h1:=hOf b hb;have h2:=hf5.j;omega
  ·have h1:=avP b hb;have h2:=F4.i.j;omega))
 have aFk:=ah avP;have HOF:=ah hOf;have aAj:=ah F34;have hyw:W.a.j+1<y:=eZ hlt.i HY.i;have Y5:=ah (hf5.box BY.i (by simp;omega));have U5:=ah (hf5.box B4.i (by simp;omega));have CB:=ah (JE (show Ms wc q e {s with Y:=v,rX:=l,h:=EL s.h (l.map (·.E))} _ q2 g sl from E5.i) HIV.i);unfold abJ at CB;have HS4:=ah (show w1.a.j<=w4.a.j from aP HB.i.j F4.i.j);have HYW:=ah hyw;clear avP hOf F34 hyw hf5 hb5 hr5 s1 s0 hq1 CN f72 lp;go_upto_region 11 with(go_at_call 64;(with_reducible refine CB.i.g ?_);rintro r w7 ⟨rfl,⟨x',hE,hrw⟩,hf⟩;have HEE:=ah hE;have HRW:=ah hrw;have HF7:=ah hf;have Y7:=ah (hf.box Y5.i (by have h1:=H.i.b.lt;have h2:=HYW.i;simp;omega));have U7:=ah (hf.box U5.i (by have h1:=H.i.b.lt;simp;omega));clear hE hrw hf)
 have fv:=(Y7.i.M.1 0).trans (Pc.WQ _);have th:=U7.i.O 0 6 (aY (Oc.I uz).symm);go_wp2_with fail;refine aO (ZB.zm rfl _ rfl (U7.i.put (Oc.mk 0 0 false v [] none 0 0).aA (by rw[Oc.I,Oc.I])) (Oc.I _)) rfl ?_;rw[HU.i];refine AZ H.i Z0.i.R hlt.i ⟨rfl,rfl,rfl,rfl,rfl,rfl,fB _ _ _ _⟩ HEE.i rfl (fun b hb=>?_) ((aAj.i.pO HF7.i).lH (by simp));rcases HRW.i b hb with h1|h1
 ·rcases ZH h1 with h2|h2|h2
  ·exact .a h2
  ·exact .b ⟨(HOF.i b h2).1,Fp⟩
  ·exact .b ⟨aP HS4.i (aFk.i b h2).1,Fp⟩
 ·exact .b ⟨aP aAj.i.j h1,Fp⟩
end
theorem WU{W:au}{q:Nat}{e:En}{s:qB}{x:Eg}{q2 g:Nat}{sl:List (Option Fw)}{M:Int}(h:yE W q e s x q2 g sl)(hi:oH M e s)(hM:M<1152921504606846976)(a:At)(u:Ac)(ha:AtR W a u)(hof:u.op.bk.qg)(how:u.op.w<18446744073709551616):
 aQ aj 25 #[.c (some ⟨q,0,none⟩),.d a.aA] W (XM W q e x q2 g sl (yA e s u)):=by
 unfold yA;by_cases h1:u.kind=1
 ·rw[if_pos h1];exact agO h hi hM a u ha h1
 rw[if_neg h1];by_cases h2:u.kind=2
 ·rw[if_pos h2];exact arh h hi a u ha h2 hof how
 rw[if_neg h2];by_cases h3:u.kind=3
 ·rw[if_pos h3];exact akq h hi a u ha h3
 rw[if_neg h3];by_cases h4:u.kind=4
 ·rw[if_pos h4];exact ako h hi a u ha h4
 rw[if_neg h4];exact arb h a u ha ⟨h1,h2,h3,h4⟩
def an3(w:au)(n:Nat)(l:List (List UInt8))(e:lu)(w':au):Prop:=
 ∃A c,e=.a (.a A n c)/\w'.c w.a.j 9 1 (.a A n c) n (l.h fun x=>(txA x).a)/\aM w.a.j w w'
@[go_sem]theorem avQ(w:au):(aec 0 #[]).J aj w=.ok (.a (some ⟨w.a.j,0,none⟩) 0 0) (w.alloc (.D #[] 9)):=by
 obtain⟨i0,hi0,hz0,hz1,_⟩:=ZU;simp[aec,bK,dJ lT,zeroValue,sizeOf,typeInfo,hi0,hz0,hz1,fD,newRow,bZ];rw[show(lD 0) = #[]by decide];simp
theorem aer(l:List (List UInt8))(A:Option aU)(n c:Nat)(w:au)(hR:RdT w w.a.j A n l)(hn:n<=100000):
 aQ aj 88 #[.a A n c] w (an3 w n l):=by
 have hll:=hR.1;cases A with
 | some a=>
   have hnil:∀W:au,(binOp .eql 69 (.a (some a) n c) (.a none 0 0)).J aj W=.ok (.e false) W:=fun W=>by
    simp only[binOp];simp[jf,lT]
   obtain⟨i0,hi0,hz0,hz1,hzb⟩:=ZU;have hz2:(jl ⟨#[]⟩).D.j=1:=rfl;have O1:=ah (show(w.alloc (.D #[] 9)).c w.a.j 9 1 (.a (some ⟨w.a.j,0,none⟩) 0 0) 0 []from lN w #[] 0 (ay _) (by unfold maxLen;omega) rfl);have O2:=ah (hR.alloc (ay _) (.D #[] 9)).2.1;have ME:=ah (show 0+n<=maxLen by unfold maxLen;omega);have Kw:=ah (show(0+n)*i0.bytes<=140737488355328 from aP (gP (show 0+n<=100000 by omega) hzb) (by omega));have O3:=ah (show w.a.j<=(w.alloc (.D #[] 9)).a.j by simp);have ON:=ah (Bu txA (fun x=>by simp[txA,dx]) l);clear hR hll;go_enter Tryz.func88,Tryz.ntmps88;go_wp2_with (at_builtin;refine iT _ rfl (.a 5) (.a 6) _ rfl w.a.j 9 i0 (.g ⟨#[]⟩) 1 i0.bytes lT hi0 hz0 hz1 rfl hz2 (kX _) (.a (some ⟨w.a.j,0,none⟩) 0 0) 0 [] rfl O1.i w.a.j (some a) n c ((l.h fun x=>(txA x).a)) rfl O2.i ON.i ME.i Kw.i O3.i ?_;intro v1 w1 hown1 hg1 uN);obtain⟨A',c',hv,_,_⟩:=jw hown1;subst hv;simp only[bl,dG]at hown1;have hb:=qM ((aH w.a.j w).alloc (ay _) (.D #[] 9)) hg1 (ay _) O3.i;go_wp2;go_ret;exact⟨A',c',by simp,hown1,hb⟩
 | none=>
   have h0:n=0:=by
    rcases eD n with h0|h0
    ·exact h0
    ·obtain⟨a,ha,_⟩:=hR.2.1.2 h0;cases ha
   subst h0;have hl:l=[]:=bG hll;subst hl;have hnil:∀W:au,(binOp .eql 69 (.a none 0 c) (.a none 0 0)).J aj W=.ok (.e true) W:=fun W=>by
    simp only[binOp];simp[jf,lT]
   have FIN:=ah (show an3 w 0 [] (.a (.a none 0 0)) w from⟨none,0,rfl,fB _ _ _ _,aH _ _⟩);clear hR hll;go_enter Tryz.func88,Tryz.ntmps88;go_wp2;go_ret;exact FIN.i
theorem asN:∃i:nS,aj.l 3=some i/\i.zero=some (.b .a 0)/\i.j=1/\i.bytes<=400:=by
 obtain⟨i,h1,h2,h3,h4⟩:=xB (P:=aj) (e:=3) (z:=.b .a 0) (size:=1) (bytes:=8) (by kernel_rfl);exact⟨i,h1,h2,h3,by omega⟩
theorem abP:∃i:nS,aj.l 98=some i/\i.zero=some (.d og.aA)/\i.j=20/\i.bytes<=400:=by
 obtain⟨i,h1,h2,h3⟩:=kVp.afU;refine⟨i,h1,h3,h2,?_⟩;have h4:(aj.l 98).map (fun i=>decide (i.bytes<=400))=some true:=by kernel_rfl
 rw[h1]at h4;simpa using h4
@[go_sem]theorem asO(w:au):(LW 0 #[]).J aj w=.ok (.a (some ⟨w.a.j,0,none⟩) 0 0) (w.alloc (.D #[] 3)):=by
 obtain⟨i0,hi0,hz0,hz1,_⟩:=asN;simp[LW,bK,dJ oC,zeroValue,sizeOf,typeInfo,hi0,hz0,hz1,fD,newRow,bZ];rw[show(lD 0) = #[]by decide];simp
def avR(w:au)(n:Nat)(l:List Int)(e:lu)(w':au):Prop:=
 ∃A c,e=.a (.a A n c)/\w'.c w.a.j 3 1 (.a A n c) n (l.h fun x=>(Gt x).a)/\aM w.a.j w w'
theorem agS(l:List Int)(A:Option aU)(n c:Nat)(w:au)(hR:iF Gt 1 w w.a.j A n l)(hn:n<=100000):
 aQ aj 89 #[.a A n c] w (avR w n l):=by
 have hll:=hR.1;cases A with
 | some a=>
   have hnil:∀W:au,(binOp .eql 70 (.a (some a) n c) (.a none 0 0)).J aj W=.ok (.e false) W:=fun W=>by
    simp only[binOp];simp[jf,oC]
   obtain⟨i0,hi0,hz0,hz1,hzb⟩:=asN;have hz2:(aJ .a 0).D.j=1:=rfl;have O1:=ah (show(w.alloc (.D #[] 3)).c w.a.j 3 1 (.a (some ⟨w.a.j,0,none⟩) 0 0) 0 []from lN w #[] 0 (ay _) (by unfold maxLen;omega) rfl);have O2:=ah (hR.alloc (ay _) (.D #[] 3)).2.1;have ME:=ah (show 0+n<=maxLen by unfold maxLen;omega);have Kw:=ah (show(0+n)*i0.bytes<=140737488355328 from aP (gP (show 0+n<=100000 by omega) hzb) (by omega));have O3:=ah (show w.a.j<=(w.alloc (.D #[] 3)).a.j by simp);have ON:=ah (Bu Gt (fun x=>by simp[Gt,dx]) l);clear hR hll;go_enter Tryz.func89,Tryz.ntmps89;go_wp2_with (at_builtin;refine iT _ rfl (.a 5) (.a 6) _ rfl w.a.j 3 i0 (.b .a 0) 1 i0.bytes oC hi0 hz0 hz1 rfl hz2 (kX _) (.a (some ⟨w.a.j,0,none⟩) 0 0) 0 [] rfl O1.i w.a.j (some a) n c ((l.h fun x=>(Gt x).a)) rfl O2.i ON.i ME.i Kw.i O3.i ?_;intro v1 w1 hown1 hg1 uN);obtain⟨A',c',hv,_,_⟩:=jw hown1;subst hv;simp only[bl,dG]at hown1;have hb:=qM ((aH w.a.j w).alloc (ay _) (.D #[] 3)) hg1 (ay _) O3.i;go_wp2;go_ret;exact⟨A',c',by simp,hown1,hb⟩
 | none=>
   have h0:n=0:=by
    rcases eD n with h0|h0
    ·exact h0
    ·obtain⟨a,ha,_⟩:=hR.2.1.2 h0;cases ha
   subst h0;have hl:l=[]:=bG hll;subst hl;have hnil:∀W:au,(binOp .eql 70 (.a none 0 c) (.a none 0 0)).J aj W=.ok (.e true) W:=fun W=>by
    simp only[binOp];simp[jf,oC]
   have FIN:=ah (show avR w 0 [] (.a (.a none 0 0)) w from⟨none,0,rfl,fB _ _ _ _,aH _ _⟩);clear hR hll;go_enter Tryz.func89,Tryz.ntmps89;go_wp2;go_ret;exact FIN.i
def avS(w:au)(n:Nat)(l:List Vp)(e:lu)(w':au):Prop:=
 ∃A c,e=.a (.a A n c)/\w'.c w.a.j 98 20 (.a A n c) n (l.h fun x=>(Vp.aA x).a)/\aM w.a.j w w'
theorem aes(l:List Vp)(A:Option aU)(n c:Nat)(w:au)(hR:iF Vp.aA 20 w w.a.j A n l)(hn:n<=100000):
 aQ aj 60 #[.a A n c] w (avS w n l):=by
 have hll:=hR.1;cases A with
 | some a=>
   have hnil:∀W:au,(binOp .eql 23 (.a (some a) n c) (.a none 0 0)).J aj W=.ok (.e false) W:=fun W=>by
    simp only[binOp];simp[jf,vC]
   obtain⟨i0,hi0,hz0,hz1,hzb⟩:=abP;have hz2:(cK og.aA).D.j=20:=by simp[bZ,Vp.I]
   have O1:=ah (show(w.alloc (.D #[] 98)).c w.a.j 98 20 (.a (some ⟨w.a.j,0,none⟩) 0 0) 0 []from lN w #[] 0 (ay _) (by unfold maxLen;omega) rfl);have O2:=ah (hR.alloc (ay _) (.D #[] 98)).2.1;have ME:=ah (show 0+n<=maxLen by unfold maxLen;omega);have Kw:=ah (show(0+n)*i0.bytes<=140737488355328 from aP (gP (show 0+n<=100000 by omega) hzb) (by omega));have O3:=ah (show w.a.j<=(w.alloc (.D #[] 98)).a.j by simp);have ON:=ah (Bu Vp.aA Vp.cO l);clear hR hll;go_enter Tryz.func60,Tryz.ntmps60;go_wp2_with (at_builtin;refine iT _ rfl (.a 5) (.a 6) _ rfl w.a.j 98 i0 (.d og.aA) 20 i0.bytes vC hi0 hz0 hz1 rfl hz2 (kX _) (.a (some ⟨w.a.j,0,none⟩) 0 0) 0 [] rfl O1.i w.a.j (some a) n c ((l.h fun x=>(Vp.aA x).a)) rfl O2.i ON.i ME.i Kw.i O3.i ?_;intro v1 w1 hown1 hg1 uN);obtain⟨A',c',hv,_,_⟩:=jw hown1;subst hv;simp only[bl,dG]at hown1;have hb:=qM ((aH w.a.j w).alloc (ay _) (.D #[] 98)) hg1 (ay _) O3.i;go_wp2;go_ret;exact⟨A',c',by simp,hown1,hb⟩
 | none=>
   have h0:n=0:=by
    rcases eD n with h0|h0
    ·exact h0
    ·obtain⟨a,ha,_⟩:=hR.2.1.2 h0;cases ha
   subst h0;have hl:l=[]:=bG hll;subst hl;have hnil:∀W:au,(binOp .eql 23 (.a none 0 c) (.a none 0 0)).J aj W=.ok (.e true) W:=fun W=>by
    simp only[binOp];simp[jf,vC]
   have FIN:=ah (show avS w 0 [] (.a (.a none 0 0)) w from⟨none,0,rfl,fB _ _ _ _,aH _ _⟩);clear hR hll;go_enter Tryz.func60,Tryz.ntmps60;go_wp2;go_ret;exact FIN.i
theorem asP:(81:bF)<aj.types.j:=of_decide_eq_true (by kernel_rfl)
theorem abQ:Maps.Keyed aj 81:=Maps.Keyed.of_law (deep_law_laid ag2 (m:=4) (by omega) asP (by kernel_rfl) (by kernel_rfl))
theorem Kq{α β:Type}{f:α->Option β}:∀l:List α,(∀x∈l,∃y,f x=some y)->∃ys,l.mapM f=some ys
 | [],_=>⟨[],rfl⟩
 | x::l,h=>by
   obtain⟨y,hy⟩:=h x (by simp);obtain⟨ys,hys⟩:=Kq l (fun z hz=>h z (by simp[hz]));exact⟨y::ys,by simp[List.mapM_cons,hy,hys]⟩
theorem agT(d:Nat)(z:Int)(h : -9223372036854775808<=z/\z<=9223372036854775807):∃ls,aj.keyLits (d+1) 3 [.b .a z]=some ls:=by
 have hw:(Lit.int .a z).wf=true:=by simp[Lit.wf,JI,JJ,lZ,nY];omega
 unfold wS;simp only[gY];rw[if_pos ⟨trivial,hw⟩];exact⟨_,rfl⟩
theorem ari(d:Nat)(b:Bool):∃ls,aj.keyLits (d+1) 4 [.e b]=some ls:=by
 unfold wS;simp only[Tryz.underlying4];exact⟨_,rfl⟩
theorem aAk(d:Nat)(b:UInt8):∃ls,aj.keyLits (d+1) 5 [bv b]=some ls:=by
 have hb:=b.toNat_lt;have hw:(Lit.int .u8 (b.e:Int)).wf=true:=by simp[Lit.wf,JI,JJ,lZ,nY];omega
 unfold wS bv;simp only[Tryz.underlying5];rw[if_pos ⟨trivial,hw⟩];exact⟨_,rfl⟩
theorem avT(d:Nat)(v:Vector UInt8 16):∃ls,aj.keyLits (d+2) 22 (v.a.map bv)=some ls:=by
 have hc:aj.a 22=16:=by kernel_rfl
 have h1:aj.a 5=1:=by kernel_rfl
 unfold wS;simp only[qp];rw[if_pos (by rw[hc];simp),h1];obtain⟨ys,hys⟩:=Kq (f:=fun i=>aj.keyLits (d+1) 5 (((v.a.map bv).f (i*1)).d 1)) (List.range 16) (fun i hi=>by
  have hi:=eG.1 hi;have e:((v.a.map bv).f (i*1)).d 1=[bv v[i]]:=by
   rw[gL,List.drop_eq_getElem_cons (by simpa using hi)];simp
  rw[e];exact aAk d _)
 rw[hys];exact⟨_,rfl⟩
theorem an4(d:Nat)(a:fE):∃ls,aj.keyLits (d+3) 27 a.aA.a=some ls:=by
 obtain⟨f1,h1⟩:=ari (d+1) a.h;obtain⟨f2,h2⟩:=avT d a.b;have hc:aj.a 27=17:=by kernel_rfl
 have c1:aj.a 4=1:=by kernel_rfl
 have c2:aj.a 22=16:=by kernel_rfl
 have e:a.aA.a=bQ a.h::a.b.a.map bv:=by simp[fE.aA]
 unfold wS;simp only[fC];rw[if_pos ⟨by rw[hc,e];simp,by simp⟩];obtain⟨ys,hys⟩:=Kq (f:=fun f:oh=>aj.keyLits (d+2) f.type ((a.aA.a.f f.Z).d (aj.a f.type))) (aj.fieldsOf 27).a (fun f hf=>by
  simp only[jS,fC]at hf;simp only[bE,fO,or_false]at hf;rcases hf with rfl|rfl
  ·simp only[c1,e];exact⟨f1,h1⟩
  ·simp only[c2,e]
   rw[jQ,kZ,aL (by simp)];exact⟨f2,h2⟩)
 simp only[jS,fC]at hys;rw[hys];exact⟨_,rfl⟩
theorem Tu.WV(t:Tu):t.aA.a=t.h.aA.a++(t.Y.aA.a++[.b .a t.aR,.b .a t.kT,.b .a t.j4]):=by
 simp[Tu.aA,tuT]
theorem aAl(d:Nat)(t:Tu)(h:Gb t=true):∃ls,aj.keyLits (d+4) 81 t.aA.a=some ls:=by
 have hh:=h;unfold Gb Yb at hh;simp only[bB,decide_eq_true_eq]at hh;obtain⟨f1,h1⟩:=an4 d t.h;obtain⟨f2,h2⟩:=an4 d t.Y;obtain⟨f3,h3⟩:=agT (d+2) t.aR (by omega);obtain⟨f4,h4⟩:=agT (d+2) t.kT (by omega);obtain⟨f5,h5⟩:=agT (d+2) t.j4 (by omega);have hc:aj.a 81=37:=by kernel_rfl
 have c1:aj.a 27=17:=by kernel_rfl
 have c2:aj.a 3=1:=by kernel_rfl
 have e:=Tu.WV t;have l1:t.h.aA.a.a=17:=by simp[fE.I]
 have l2:t.Y.aA.a.a=17:=by simp[fE.I]
 unfold wS;simp only[jY];rw[if_pos ⟨by rw[hc,e];simp[fE.I],by simp⟩];obtain⟨ys,hys⟩:=Kq (f:=fun f:oh=>aj.keyLits (d+3) f.type ((t.aA.a.f f.Z).d (aj.a f.type))) (aj.fieldsOf 81).a (fun f hf=>by
  simp only[jS,jY]at hf;simp only[bE,fO,or_false]at hf;rcases hf with rfl|rfl|rfl|rfl|rfl
  ·simp only[c1,e,kZ];rw[JR l1];exact⟨f1,h1⟩
  ·simp only[c1,e];rw[List.drop_left' l1,JR l2];exact⟨f2,h2⟩
  ·simp only[c2,e];rw[<-dF,List.drop_left' (by rw[aS,l1,l2])];exact⟨f3,h3⟩
  ·simp only[c2,e];rw[<-dF,show(35:Nat)=(t.h.aA.a++t.Y.aA.a).a+1 by rw[aS,l1,l2],List.drop_length_add_append];exact⟨f4,h4⟩
  ·simp only[c2,e];rw[<-dF,show(36:Nat)=(t.h.aA.a++t.Y.aA.a).a+2 by rw[aS,l1,l2],List.drop_length_add_append];exact⟨f5,h5⟩)
 simp only[jS,jY]at hys;rw[hys];exact⟨_,rfl⟩
theorem ah9(t:Tu)(h:Gb t=true):∃l,keyOf aj 81 (.d t.aA)=some l:=by
 obtain⟨d,hd⟩:∃d,aj.types.j+1=d+4:=⟨aj.types.j-3,by have:=asP;have h3:(3:Nat)<aj.types.j:=of_decide_eq_true (by kernel_rfl);omega⟩
 obtain⟨ls,nL⟩:=aAl d t h;have hc:aj.a 81=37:=by kernel_rfl
 have hk:aj.keyType 81=true:=by kernel_rfl
 have hf:(cK t.aA).formed aj 81=true:=by
  simp[Value.formed,jY,hc,Tu.I]
 unfold keyOf;simp only[jY];rw[if_pos (by rw[hk,hf];rfl),hd,show(cK t.aA).D.a=t.aA.a from rfl,nL];exact⟨_,rfl⟩
theorem fE.Ub{a b:fE}(h:a.aA=b.aA):a=b:=by
 have h1:=congrArg Array.toList h;simp only[fE.aA,List.cons.injEq,Value.bool.injEq]at h1;cases a;cases b;simp only at h1;obtain⟨rfl,h2⟩:=h1;congr;apply Vector.toList_inj.1;exact(List.map_inj_right (fun x y hxy=>by unfold bv at hxy;injection hxy with _ e;exact UInt8.toNat_inj.1 (by omega))).1 h2
theorem Tu.Ub{a b:Tu}(h:a.aA=b.aA):a=b:=by
 have h1:=Tu.WV a;rw[h,Tu.WV b]at h1;obtain⟨e1,h2⟩:=List.append_inj h1 (by simp[fE.I]);obtain⟨e2,h3⟩:=List.append_inj h2 (by simp[fE.I]);have g1:=fE.Ub (GZ.1 e1);have g2:=fE.Ub (GZ.1 e2);simp only[List.cons.injEq,Value.int.injEq,true_and,and_true]at h3;cases a;cases b;simp only at g1 g2 h3 ⊢;obtain⟨rfl,rfl,rfl⟩:=h3;rw[g1,g2]
theorem an5{a b:Tu}{l:Lit}(h1:keyOf aj 81 (.d a.aA)=some l)(h2:keyOf aj 81 (.d b.aA)=some l):a=b:=by
 have:=abQ.inj h1 h2;injection this with this
 exact Tu.Ub this
def boD:aC->Option (DataW Unit×List MemPlace)
 | .e b=>some (.lit (.e b),[])
 | _=>none
theorem avU{v:aC}{b:Bool}{ps:List MemPlace}(h:boD v=some (.lit (.e b),ps)):v=.e b:=by
 unfold boD at h;split at h
 ·simp at h;rw[h.1]
 ·cases h
def KO(W:au)(M n:Nat)(ks:List Tu):Prop:=
 ∃D:DataW Unit,W.ownsMap aj 81 boD M n D/\Maps.IsMap D/\∀t l,keyOf aj 81 (.d t.aA)=some l->D.atKey l (.lit (.e false))=.lit (.e (decide (t∈ks)))
theorem KO.new(w:au):KO (w.alloc (.map #[] 0)) w.a.j 0 []:=⟨_,World.ownsMap_made w _ _ _,⟨[],rfl⟩,fun t l _=>rfl⟩
theorem KO.aAm{W W':au}{M n:Nat}{ks:List Tu}(h:KO W M n ks)(ha:W'.a[M]? = W.a[M]?):KO W' M n ks:=by
 obtain⟨D,⟨es,ck,h1,h2⟩,h3⟩:=h;exact⟨D,⟨es,ck,ha.trans h1,h2⟩,h3⟩
theorem KO.lt{W:au}{M n:Nat}{ks:List Tu}(h:KO W M n ks):M<W.a.j:=by
 obtain⟨D,h1,_⟩:=h;exact h1.lt
theorem KO.go{W W':au}{M n:Nat}{ks:List Tu}(h:KO W M n ks)(hb:aM W.a.j W W'):KO W' M n ks:=h.aAm (hb.block M h.lt)
theorem akr{w:au}{M n:Nat}{ks:List Tu}(h:KO w M n ks)(t:Tu)(ht:Gb t=true):
 (Instr.lookup 114 (.map (some M)) (.d t.aA) false).J aj w=.ok (.e (decide (t∈ks))) w:=by
 obtain⟨D,h1,h2,h3⟩:=h;obtain⟨l,hl⟩:=ah9 t ht;obtain⟨v,ps,hrun,hv⟩:=h1.lookup abQ Tryz.underlying114 (by kernel_rfl:(zeroValue 4).J aj w=.ok (.e false) w) (show boD (.e false)=some (.lit (.e false),[])from rfl) hl;rw[h3 t l hl]at hv;rw[hrun,avU hv]
theorem Q9{ops:Array je}{rest:List je}{o:je}{a:Act}{Q:Exit->Act->au->Prop}{w:au}(hg:o.guard=none)(m x v:Operand)(Ij:o.op=Op.mapUpdate 114 m x v)
 (M n:Nat) (ks:List Tu) (hm:a.eval m=.map (some M)) (hown:KO w M n ks) (hn:n<=1000000) (t:Tu) (ht:Gb t=true) (hx:a.eval x=.d t.aA) (hv:a.eval v=.e true)
 (hK:∀w',KO w' M (n+1) (t::ks)->w.d w' (some M)->wpList aj ops Q rest (a.put o.Y undef) w'):wpList aj ops Q (o::rest) a w:=by
 obtain⟨D,h1,h2,h3⟩:=hown;obtain⟨l,hl⟩:=ah9 t ht;refine wpList_mapUpdate_own w hg m x v _ Ij 81 4 abQ Tryz.underlying114 boD M n D hm h1 (by unfold maxLen;omega) _ _ l hx hv hl _ [] (show boD (.e true)=some (.lit (.e true),[])from rfl) ?_;intro w' k1 k2;refine hK w' ⟨_,k1,h2.put _ _,fun u m hu=>?_⟩ k2;by_cases e:u=t
 ·subst e
  rw[hl]at hu;injection hu with hu
  subst hu;rw[Maps.atKey_put_same h2 (abQ.key hl)];simp
 ·rw[Maps.atKey_put_other (fun h=>e (an5 hu (by rw[h];exact hl))),h3 u m hu]
  simp[e]
end Go.Proofs.YtkjojjopamaoiaaGreat
