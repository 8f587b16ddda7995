/- Parts. -/
import Derived.Test.YtkjojjopamaoiaaGreatXx5
set_option linter.unusedSimpArgs false
set_option linter.unusedVariables false
set_option linter.unusedSectionVars false
set_option maxRecDepth 100000
set_option maxHeartbeats 8000000
open Array renaming getElem?_eq_some_iff->bW,getElem?_append->aG,mapM->iB,append_assoc->fT,setIfInBounds_append->aM,extract_append->dA,getElem?_extract->dx,ext_getElem?->dV,getElem?_eq_none->aV,range->lW,toList_inj->Ig
open Bool renaming and_eq_true->bl
open Go renaming World->au,Value->aC,TypeId->bM,Ending->kX,Calls->aR,Addr->aU,run_underlying->dJ,TypeInfo->nM,Oper->iV,Field->nV
open Go.Instr renaming loadAt->bZ,fill->fB,buildSlice->bJ,storeAt->eD,build->fJ,typeAssert->Ie
open Go.IntKind renaming i64->bU,min->Ke,max->Kh,signed->lT,bits->nS
open Go.Obj renaming cells->eB
open Go.Program renaming cellsOf->AV,keyLits->xA,fieldsOf->jR
open Go.Proofs.Tryz renaming prog->aj,underlying29->mY,underlying3->gQ,underlying69->lK,underlying155->Ef,underlying72->Gb,underlying123->Eh,underlying376->Ei,underlying58->kM,underlying86->mX,underlying27->eZ,underlying81->jY
open Go.Result renaming andThen->iD,andThen_ok->gK
open Go.RowKit renaming Below->aN
open Go.Sem renaming run_bind->jK,run_pure->ou
open Go.Value renaming agg->bY,oneCell'->cK,cells->cu,int->aJ,slice->bE,string->jc,bool->bQ,ownBlock->jW
open List renaming mem_cons_of_mem->jX,mem_cons_self->lZ,mem_map->iQ,getD_eq_getElem?_getD->av,getElem?_eq_getElem->aD,getElem?_eq_none->aT,length_set->aW,filter_eq_self->xu,findIdx?_eq_some_iff_getElem->gV,any_eq_false->qy,any_eq_true->tQ,getElem_mem->eO,length_take->bK,mem_range->eH,filter_congr->Ga,length_map->bR,length_append->aS,flatMap_cons->iJ,length_filter_le->oQ,length_cons->bC,mem_cons->bD,not_mem_nil->fK,drop_zero->lg,take_left'->Kq,append_assoc->dB
open Nat renaming le_trans->aP,le_refl->ay,mod_lt->fD,zero_add->bB,lt_or_ge->bf,mul_one->gF,le_of_eq->aY
open Vector renaming replicate->bG
namespace Go.Proofs.YtkjojjopamaoiaaGreat
open Go.RowKit
section
open Go.RowKit Go.Shelf
attribute [local go_sem] Oper.semAt_some
variable {W W':au} {q g:Nat} {key:Vector UInt8 16} {dR:Int} {s:List (Option Fw)} {l:List Fw}
theorem ah3{β:Type}(val:β->Fw)(F:Fence)(n:Nat)(hf:F.fn 202)(Lx:F.round=none)(hn:1<=n)(l Bs n₀ B0:Nat)(q g:Nat)(key:Vector UInt8 16)(dR:Int)(s:List (Option Fw))(hval:∀x∈iw s,∃z,val z=x)(J Jx:List β->au->Prop)(hJ:AbidesFrom B0 J)
 (hY:∀pre x W,J pre W->pre.length<s.length->YieldAt F (n-1) aj l #[.agg (val x).aA] W fun e W'=>
  (e=.returned (.bool true)/\J (pre++[x]) W'/\aN n₀ W W')\/(e=.returned (.bool false)/\Jx (pre++[x]) W'))
 (W:au) (Cq:n₀<=W.heap.size) (Ur:B0<=W.heap.size) (Ro:W.cell? ⟨Bs,0,none⟩=some (.pointer (some ⟨q,0,none⟩))) (T:Gh W q g key dR s) (hqg:q<n₀/\g<n₀) (h0:J [] W) :
 CallsIn F n aj 202 #[.func (.yield l) #[] #[],.pointer (some ⟨Bs,0,none⟩)] W fun e W'=>(∃v,e=.returned v) /\
  ((∃ys:List β,ys.map val=iw s/\J ys W')\/(∃pre:List β,pre.map val <+: iw s/\Jx pre W')):=by
 have jB:=T.sz;obtain⟨N,hN⟩:∃N,N=s.length:=⟨_,rfl⟩
 have l2:W.cell? ⟨q,18,none⟩=some (.slice (some ⟨g,0,none⟩) N N):=by rw[hN];exact T.aI.1
 have HT:=Lib.hid T;have HN:=Lib.hid hN;rw[<-hN]at jB;clear hN T;refine callsIn_of_wp Tryz.func202 rfl hf ?_ Lx;simp only[Tryz.ntmps202,List.size_toArray,bC,List.length_nil,Nat.reduceAdd,Nat.reduceSub,Array.replicate_succ,Array.replicate_zero,List.push_toArray,List.append_toArray,List.nil_append,List.cons_append];gi_wp2;gi_loopw [10] (fun i wr=>∃(k:Nat)(zs:List β),k<=N/\i=.int .i64 k/\zs.map val=iw (s.take k)/\J zs wr/\aN n₀ W wr)
  (fun i _=>N-(intOf i).toNat)
 case atStart=>exact⟨0,[],Nat.zero_le _,rfl,rfl,h0,Below.refl _ _⟩
 case round=>
  obtain⟨k,zs,hk,rfl,Qs,hJs,MP⟩:=hrel;have HZ:=Lib.hid Qs;clear Qs;by_cases fP:k<N
  ·have KO:(k:Int)<N:=by omega
   have TR:=Lib.hid (HT.out.apA MP hqg);have K7:k<s.length:=by rw[<-HN.out];exact fP
   obtain⟨_,a2,_,_,a5,_,_⟩:=TR.out.XP K7;have hET:=Yf s k K7;have bx:=dL.new wr (wI (fE s k)).aA 213;have f1:=(bx.aI.1 0).trans (Sl.P7 _);rw[J3]at f1;have f2:xS (wr.alloc (.cells (wI (fE s k)).aA 213)) wr.heap.size 1 41:=of_eq_true (bx.aI.2.2.1 1 41 (by rw[Sl.eu];omega));have f3:dY (wr.alloc (.cells (wI (fE s k)).aA 213)) wr.heap.size 1 41=(wI (fE s k)).rz.aA:=by rw[bx.aI.2.2.2 1 41 (by rw[Sl.eu];omega)];exact Sl.Vi _
   have ayc:=MP.size;have Si:=Lib.hid (MP.alloc (by omega) (.cells (wI (fE s k)).aA 213));have HJA:=Lib.hid (Hz hJ hJs (.cells (wI (fE s k)).aA 213));clear bx ayc;cases wJ:fE s k with
   | none=>
     rw[wJ]at a2 f1 f2 f3 Si HJA hET
     replace f1:(wr.alloc (.cells (wI none).aA 213)).cell? ⟨wr.heap.size,0,none⟩=some (.bool false):=f1
     have Ej:=Lib.hid (show iw (s.take (k+1))=iw (s.take k)by rw[hET];simp);clear hET wJ f2 f3;gi_wp2;refine⟨fun f h=>(by cases h),?_⟩;gi_wp2;go_roundw
     case rel=>exact⟨k+1,zs,by omega,by simp,by rw[Ej.out];exact HZ.out,HJA.out,Si.out⟩
     case measure=>simp[intOf];omega
   | some x=>
     rw[wJ]at a2 f1 f2 f3 Si HJA hET
     replace f1:(wr.alloc (.cells (wI (some x)).aA 213)).cell? ⟨wr.heap.size,0,none⟩=some (.bool true):=f1
     replace f3:dY (wr.alloc (.cells (wI (some x)).aA 213)) wr.heap.size 1 41=x.aA:=f3
     have hxm:x∈iw s:=QI.2 ⟨k,K7,wJ⟩;have hZL:zs.length<=k:=by have h1:=FM (s.take k);rw[<-HZ.out,bR,bK]at h1;omega
     have aCR:=show iw (s.take k)++[x]=iw (s.take (k+1))by rw[hET];simp
     clear hET wJ;obtain⟨z,rfl⟩:=hval x hxm;have Ej:=Lib.hid (show(zs++[z]).map val=iw (s.take (k+1))by rw[<-aCR,List.map_append,HZ.out];rfl);clear aCR hxm;obtain⟨fn,tmps,assign,body,hy,hRd⟩:=hY zs z _ HJA.out (by omega);gi_wp2;refine hRd.mono ?_;rintro e W3 (⟨rfl,hJ3,hk3⟩|⟨rfl,WM⟩)
     ·gi_wp2
      go_roundw
      case rel=>exact⟨k+1,zs++[z],by omega,by simp,Ej.out,hJ3,Si.out.trans hk3⟩
      case measure=>simp[intOf];omega
     ·gi_wp2
      refine bodyPost_ret (results_none rfl _ _ _) rfl ?_;exact⟨⟨_,rfl⟩,.inr ⟨zs++[z],by rw[Ej.out];exact aaZ _ _,WM⟩⟩
  ·obtain rfl:k=N:=by omega
   have hd:decide ((k:Int)<k)=false:=by simp
   gi_wp2;go_end0;exact⟨⟨_,rfl⟩,.inl ⟨zs,by rw[HZ.out,HN.out,List.take_length],hJs⟩⟩
theorem Mk(F:Fence)(n:Nat)(hf:F.fn 202)(Lx:F.round=none)(hn:1<=n)(Bs n₀:Nat)(w:au)(Ro:Bs<w.heap.size)(Cq:n₀<=w.heap.size)
 (hc:w.cell? ⟨Bs,0,none⟩=some (.pointer (some ⟨q,0,none⟩))) (T:LH w q g key dR s l) (hqg:q<n₀/\g<n₀) :
 SeqStopsK F n aj 202 #[.pointer (some ⟨Bs,0,none⟩)] (fun x:OkF=>#[bY x.1.aA]) (aN n₀) (fun ys=>ys.map (·.1)=iw s) (fun pre=>pre.map (·.1) <+: iw s) s.length w:=fun l' J Jx W hW hJ _ hY h0=>by
 have hc':=(hW.cell (p:=⟨Bs,0,none⟩) Ro).trans hc;exact ah3 (fun x:OkF=>x.1) F n hf Lx hn l' Bs n₀ W.heap.size q g key dR s (fun x hx=>⟨⟨x,T.ok.ok x (T.r.QJ.mem_iff.1 hx)⟩,rfl⟩) J Jx hJ hY W (aP Cq hW.size) (ay _) hc' (T.w.go hW) hqg h0
def atn(pre:List Fw):Option Fw:=pre.foldl (least lJ) none
def Qb(pre:List OkF):Option Fw:=atn (pre.map (·.1))
theorem alY{l:List Fw}:∀(b:Option Fw)(y:Fw),l.foldl (least lJ) b=some y->y∈l\/b=some y:=by
 induction l with
 | nil=>intro b y h;exact .inr h
 | cons x l ih=>
   intro b y h;rw[List.foldl_cons]at h;rcases ih _ _ h with h1|h1
   ·exact .inl (jX _ h1)
   ·unfold least at h1
    split at h1
    ·injection h1 with h1;subst h1;exact .inl (lZ ..)
    ·split at h1
     ·injection h1 with h1;subst h1;exact .inl (lZ ..)
     ·exact .inr h1
theorem ato(pre:List OkF)(y:Fw)(h:atn (pre.map (·.1))=some y):Eo y=true:=by
 rcases alY _ _ h with h1|h1
 ·obtain⟨z,_,rfl⟩:=iQ.1 h1
  exact z.2
 ·cases h1
theorem Yg{W:au}{b D:Nat}{c:Array aC}{x:Option (List Deferred)}(h:dL W b c)(hD:W.heap[D]? = some (.deferred x))(o:Obj):dL (W.putObj D o) b c:=by
 obtain⟨t,ht⟩:=h;refine⟨t,(World.putObj_heap_other (fun e=>?_)).trans ht⟩;rw[e,hD]at ht;cases ht
theorem FP{F:List Nat}{B:Nat}{W W':au}(h:jE F W W')(hF:∀k∈F,k<B):KeepsFrom B W W':=
 ⟨h.size,fun k o hB hk _=>(h.block k (bW.1 hk).1 (fun hm=>by have:=hF k hm;omega)).trans hk⟩
theorem ac7(w:au)(T:LH w q g key dR s l):
 aR aj 127 #[.pointer (some ⟨q,0,none⟩)] w (gP w (.agg (l.head?.getD kQ).aA)):=by
 refine(callsIn_wide (n:=8)).1 ?_;have hs:=T.w.sz;have fP:=T.w.lt;have hold:=ak2 T.r T.ok;have HT:=Lib.hid T;clear T;refine callsIn_of_wp_marks Tryz.func127 rfl trivial ?_ rfl;have hfn:∀f,Fence.wide.fn f:=fun _=>trivial
 simp only[Tryz.ntmps127,List.size_toArray,bC,List.length_nil,Nat.reduceAdd,Nat.reduceSub,Array.replicate_succ,Array.replicate_zero,List.push_toArray,List.append_toArray,List.nil_append,List.cons_append];gi_wp2_with (gi_at_call 132;refine(callsIn_wide.2 (Sj q _)).mono ?_;rintro e w' ⟨rfl,rfl⟩);have Z4:=Lib.hid (((((Bx.start w).new kQ.aA 86).new kQ.aA 86).new #[.bool true] 4).new #[.pointer (some ⟨q,0,none⟩)] 121);have e1:(w.alloc (.cells kQ.aA 86)).heap.size=w.heap.size+1:=by simp
 have e2:((w.alloc (.cells kQ.aA 86)).alloc (.cells kQ.aA 86)).heap.size=w.heap.size+1+1:=by simp
 have e3:(((w.alloc (.cells kQ.aA 86)).alloc (.cells kQ.aA 86)).alloc (.cells #[.bool true] 4)).heap.size=w.heap.size+1+1+1:=by simp
 rw[e3,e2,e1]at Z4;have hs4:((((w.alloc (.cells kQ.aA 86)).alloc (.cells kQ.aA 86)).alloc (.cells #[.bool true] 4)).alloc (.cells #[.pointer (some ⟨q,0,none⟩)] 121)).heap.size=w.heap.size+1+1+1+1:=by simp
 generalize(((w.alloc (.cells kQ.aA 86)).alloc (.cells kQ.aA 86)).alloc (.cells #[.bool true] 4)).alloc (.cells #[.pointer (some ⟨q,0,none⟩)] 121)=W4 at Z4 hs4 ⊢;clear e1 e2 e3;refine wpIn_rangeFunc_ownH rfl (by omega) (gf:=202) (lb:=#[.pointer (some ⟨w.heap.size+1+1+1,0,none⟩)]) rfl trivial (fun args w=>rfl)
  (Mk Fence.wide 7 trivial rfl (by omega) (w.heap.size+1+1+1) w.heap.size W4 (by omega) (by omega) (Z4.out.b0.aI.1 0) (HT.out.go Z4.out.dF) fP) (fun h k=>Below.trans h k) (belowK_b (by omega)) (Below.refl _ _) (fun _=>rfl)
  (fun(pre:List OkF) W=>(dL W (w.heap.size+1) ((Qb pre).getD kQ).aA/\dL W (w.heap.size+1+1) #[.bool (Qb pre).isNone]/\dL W w.heap.size kQ.aA)/\aN w.heap.size w W)
  (fun _ _ _=>False)
  (OwnFrom.and (fun s X Y row hs hg hr=>⟨zU _ _ () X Y row hs.1 hg (fun r e=>(hr r e).2),zU _ _ () X Y row hs.2.1 hg (fun r e=>(hr r e).2),zU _ _ () X Y row hs.2.2 hg (fun r e=>(hr r e).2)⟩) (ownFrom_below (ay _) (by omega)))
  (fun _ _ _ _ _ hs _ _=>hs)
  ⟨⟨Z4.out.b2,Z4.out.b1,Z4.out.b3⟩,Z4.out.dF⟩
  (fun x a' W=>∃Bq,w.heap.size+1+1<Bq/\dL W Bq x.1.aA/\a'={tmps:=#[.pointer (some ⟨q,0,none⟩),undef,.pointer (some ⟨w.heap.size,0,none⟩),.pointer (some ⟨w.heap.size+1,0,none⟩),.pointer (some ⟨w.heap.size+1+1,0,none⟩),.pointer (some ⟨Bq,0,none⟩),.pointer (some ⟨q,0,none⟩),.func (.func 202) #[] #[.pointer (some ⟨w.heap.size+1+1+1,0,none⟩)],.agg x.1.aA,undef,undef,undef,undef,undef,undef,undef,undef],defers:=[]})
  (fun x a' _ X Y row hs hg hr=>by obtain⟨Bq,h1,h2,h3⟩:=hs;exact⟨Bq,h1,zU Bq x.1.aA () X Y row h2 hg (fun r e=>(hr r e).2),h3⟩)
  ?assign ?body ?done ?stop
 case assign=>
  rintro q' pre x W K ⟨⟨h1,h2,h3⟩,hB⟩ hK;gi_wp2;refine hK _ _ ((KeepsOthers.alloc _ _).from _) ((Below.refl _ W).alloc hB.size _) ⟨⟨h1.alloc _,h2.alloc _,h3.alloc _⟩,hB.alloc hB.size _⟩ ⟨W.heap.size,h2.lt,dL.new W _ _,rfl⟩
 case body=>
  rintro q' pre x a' W hq ⟨r,hr⟩ ⟨⟨h1,h2,h3⟩,hB⟩ ⟨Bq,hBq,bX,rfl⟩ aI8;have hd1:(1:Nat)<=8-1-1:=by omega
  have l1:=kK bX;have f1:=h2.aI.1 0;have f2:=h2.aI.2.1 0;have th:=h1.there 0 41 (aY (Fw.ak _).symm);have HB:=Lib.hid hB;have H1:=Lib.hid h1;have H2:=Lib.hid h2;have H3:=Lib.hid h3;have HX:=Lib.hid bX;have HA:=Lib.hid (show Qb (pre++[x])=least lJ (Qb pre) x.1 by unfold Qb atn;rw[List.map_append,List.foldl_append];rfl);have HM:=Lib.hid (show∀y,Qb pre=some y->Eo y=true from fun y e=>ato pre y e);clear hB h1 h2 h3 bX;cases ha:Qb pre with
  | none=>
    rw[ha]at HA H1 H2 f1;have f3:(Bn W (w.heap.size+1) 0 x.1).cell? ⟨w.heap.size+1+1,0,none⟩=some (.bool true):=((H2.out.gD (by simp)).aI.1 0:_)
    have f4:(Bn W (w.heap.size+1) 0 x.1).frozen? ⟨w.heap.size+1+1,0,none⟩=false:=((H2.out.gD (by simp)).aI.2.1 0:_)
    clear ha;gi_wp2;have F:=(jE.WE (F:=[w.heap.size+1,w.heap.size+1+1]) (lS (World.grownBy.refl W (some (w.heap.size+1))) 0 x.1.aA) (fun g e=>.inl (by injection e with e;simp[e]))).set ⟨w.heap.size+1+1,0,none⟩ (.bool false) (.inl (by simp));refine⟨FP F (by intro k hk;simp at hk;omega),F.rT (by intro k hk;simp at hk;omega) HB.out.size,⟨?_,?_,?_⟩,HB.out.trans (F.rT (by intro k hk;simp at hk;omega) HB.out.size)⟩
    ·rw[HA.out];exact(H1.out.put x.1.aA (by rw[Fw.ak,Fw.ak])).dM _ _ (by simp)
    ·rw[HA.out];exact(H2.out.gD (by simp)).eG 0 (.bool false)
    ·exact(H3.out.gD (by omega)).dM _ _ (by simp;omega)
  | some y=>
    rw[ha]at HA H1 H2 f1;have hy:=HM.out y ha;obtain⟨y1,y2⟩:=Ld hy;obtain⟨x1,x2⟩:=Ld x.2
    replace H1:Hid (dL W (w.heap.size+1) y.aA):=H1
    replace f1:W.cell? ⟨w.heap.size+1+1,0,none⟩=some (.bool false):=f1
    have l2:=kK H1.out;have OC:=Lib.hid (TP x.1 y x1 y1 x2 y2 W);obtain⟨o,ho⟩:∃o,o=lJ x.1 y:=⟨_,rfl⟩
    rw[<-ho]at OC;have HE:=Lib.hid (show Qb (pre++[x])=if o=true then some x.1 else some y by rw[HA.out,ho];rfl);clear ha hy y1 y2 x1 x2 ho f2 th;cases o
    ·gi_wp2_with (gi_at_call 49;refine(CallsIn.inRound q' (callsIn_wide.2 OC.out)).mono ?_;rintro e w1 ⟨rfl,hb⟩;have IJ:=Lib.hid hb;clear hb)
     have F:=jE.jq (F:=[w.heap.size+1,w.heap.size+1+1]) IJ.out;refine⟨FP F (by intro k hk;simp at hk;omega),F.rT (by intro k hk;simp at hk;omega) HB.out.size,⟨?_,?_,?_⟩,HB.out.trans (F.rT (by intro k hk;simp at hk;omega) HB.out.size)⟩
     ·rw[show Qb (pre++[x])=some y from HE.out];exact H1.out.go IJ.out
     ·rw[show Qb (pre++[x])=some y from HE.out];exact H2.out.go IJ.out
     ·exact H3.out.go IJ.out
    ·gi_wp2_with (gi_at_call 49;refine(CallsIn.inRound q' (callsIn_wide.2 OC.out)).mono ?_;rintro e w1 ⟨rfl,hb⟩;have IJ:=Lib.hid hb;have G1:=Lib.hid (H1.out.go hb);have G2:=Lib.hid (H2.out.go hb);have G3:=Lib.hid (H3.out.go hb);have l3:=kK (HX.out.go hb);clear hb l1 l2 f1;have th:=G1.out.there 0 41 (aY (Fw.ak _).symm);have f3:(Bn w1 (w.heap.size+1) 0 x.1).cell? ⟨w.heap.size+1+1,0,none⟩=some (.bool false):=((G2.out.gD (by simp)).aI.1 0:_);have f4:(Bn w1 (w.heap.size+1) 0 x.1).frozen? ⟨w.heap.size+1+1,0,none⟩=false:=((G2.out.gD (by simp)).aI.2.1 0:_))
     have F:=((jE.jq (F:=[w.heap.size+1,w.heap.size+1+1]) IJ.out).grown (lS (World.grownBy.refl w1 (some (w.heap.size+1))) 0 x.1.aA) (fun g e=>.inl (by injection e with e;simp[e]))).set ⟨w.heap.size+1+1,0,none⟩ (.bool false) (.inl (by simp));refine⟨FP F (by intro k hk;simp at hk;omega),F.rT (by intro k hk;simp at hk;omega) HB.out.size,⟨?_,?_,?_⟩,HB.out.trans (F.rT (by intro k hk;simp at hk;omega) HB.out.size)⟩
     ·rw[show Qb (pre++[x])=some x.1 from HE.out];exact(G1.out.put x.1.aA (by rw[Fw.ak,Fw.ak])).dM _ _ (by simp)
     ·rw[show Qb (pre++[x])=some x.1 from HE.out];exact(G2.out.gD (by simp)).eG 0 (.bool false)
     ·exact(G3.out.gD (by omega)).dM _ _ (by simp;omega)
 case done=>
  rintro D ys W hD hS ⟨⟨h1,h2,h3⟩,hB⟩ hK;have aCS:Qb ys=l.head?:=by unfold Qb atn;rw[hS];exact hold
  rw[aCS]at h1;have ld:=kK h1;have th:=h3.there 0 41 (aY (Fw.ak _).symm);obtain⟨y,hy⟩:∃y,y=l.head?.getD kQ:=⟨_,rfl⟩
  rw[<-hy]at ld h1;have HY:=Lib.hid hy;have H3:=Lib.hid h3;have HB:=Lib.hid hB;clear hy h3 hB h1 h2 aCS hS;gi_wp2;have hG:=lS (World.grownBy.refl W (some w.heap.size)) 0 y.aA;have hDW:D<W.heap.size:=(bW.1 hK).1;have Gd:(Bn W w.heap.size 0 y).heap[D]? = some (.deferred (some [])):=(hG.block D hDW (fun e=>by injection e with e;omega)).trans hK;refine⟨by simp,.inl ⟨_,_,rfl,run_takeDeferred Gd,?_⟩⟩;refine⟨_,kFw.zM rfl _ rfl (Yg (H3.out.put y.aA (by rw[Fw.ak,Fw.ak])) Gd _) (Fw.ak _),by rw[HY.out],?_⟩;exact((lq HB.out w.heap.size 0 y.aA (ay _)).trans (belowK_b (w:=w) (ay _) _ D _ _ (by omega) Gd rfl rfl))
 case stop=>
  rintro D c pre W _ _ h _;exact h.elim
end
section
theorem alZ{α:Type}(s:List (Option α))(i:Nat)(x:α)(h:fE s i=some x):s.set i (some x)=s:=by
 apply List.ext_getElem?;intro j;rw[List.getElem?_set];split
 ·rename_i e
  subst e;unfold fE at h;rw[av]at h;split
  ·rename_i hl
   rw[aD hl]at h ⊢;rw[Option.getD_some]at h;rw[h]
  ·rename_i hl
   rw[aT (by omega)]
 ·rfl
theorem Le{α:Type}(s:List (Option α))(i:Nat)(x:α)(hi:i<s.length)(h:fE s i=some x):(iw s).Perm (x::iw (s.set i none)):=by
 have:=zL s i x hi
 rwa [alZ s i x h]at this
theorem aa1{N z c:Nat}(hz:z<N)(h1:1<=c)(h2:c<=N):zh N ((z+1)%N) (zf N z c)=c-1:=by
 have e1:zf N z c=(z+c)%N:=rfl;rw[e1,wY (N:=N) (a:=z+1) (by omega),wY (N:=N) (a:=z+c) (by omega)];unfold zh
 repeat' split
 all_goals omega
variable {W W':au} {q g:Nat} {key:Vector UInt8 16} {dR:Int} {s:List (Option Fw)} {l:List Fw}
theorem Gh.ajG(h:Gh W q g key dR s){i:Nat}(hi:i<s.length)(o:Option Fw)(n:Nat)(hn:(iw (s.set i o)).length=n)(hc:n=(iw s).length):Gh (gT W g (i*42) (slC o)) q g key dR (s.set i o):=by
 have hb:=h.sl.setCells (i*42) (slC o).toList;refine⟨?_,?_,h.ne,by rw[aW];exact h.sz⟩
 ·rw[hn,hc,aW]
  exact h.tb.gD h.ne
 ·rw[<-Vj s i o hi]
  simpa[gT]using hb
theorem Yh{l:List Fw}{k:Tu}(h:pW l k=none):zo l k=l:=by
 unfold zo;refine xu.2 fun x hx=>?_
 have:=BR h x hx;simp[uo,this]
theorem Yi(T:LH W q g key dR s l)(k:Tu):
 aR aj 128 #[.pointer (some ⟨q,0,none⟩),.agg k.aA] W fun e w'=>e=.returned (.bool (pW l k).isSome)/\(∃s',LH w' q g key dR s' (zo l k)/\s'.length=s.length)/\jE [q,g] W w':=by
 have X0:=Lib.hid (dL.new W k.aA 81);have B0:=Lib.hid ((Below.refl W.heap.size W).alloc (ay _) (.cells k.aA 81));have T0:=Lib.hid (T.go B0.out);have HT:=Lib.hid T;have HLT:=Lib.hid T.w.lt;have CG:=Lib.hid (fun(w:au) (T:LH w q g key dR s l)=>La T k);obtain⟨o,ho⟩:∃o,o=pW l k:=⟨_,rfl⟩
 rw[<-ho]at CG ⊢;have HO:=Lib.hid ho.symm;have hcg:∀o,apx o=.tuple #[.agg (wI o).rz.aA,.bool o.isSome]:=fun _=>rfl
 simp only[hcg]at CG;clear T ho hcg;go_enter Tryz.func128,Tryz.ntmps128;go_upto_region 1 with fail
 generalize W.alloc (.cells k.aA 81)=w1 at X0 B0 T0 ⊢;have l1:=pO X0.out;cases o with
 | none=>
   go_wp2_with (go_at_call 126;(with_reducible refine(CG.out _ T0.out).mono ?_);rintro e w2 ⟨rfl,hb⟩;have B2:=Lib.hid (ji B0.out hb);clear hb l1);go_ret;have HB:=(B2.out.alloc B2.out.size (.cells (wI none).rz.aA 86))
   refine⟨rfl,⟨s,?_,rfl⟩,jE.jq HB⟩;rw[Yh HO.out];exact HT.out.go HB
 | some x=>
   obtain⟨Dh,hxk⟩:=xY HO.out;have Di:=HT.out.ok.ok x Dh;have YB:xJ k:=by rw[<-hxk];exact BZ (xg Di)
   obtain⟨d,hd,wJ⟩:=HT.out.Xa k;rw[HO.out]at wJ;have jB:=HT.out.w.sz;obtain⟨j,hj⟩:∃j,j=(hmK key s.length k+d)%s.length:=⟨_,rfl⟩
   have hjl:j<s.length:=by rw[hj];exact fD _ (by omega)
   have CF:=Lib.hid (fun(w:au) (T:Gh w q g key dR s)=>C8 T k YB d hd);rw[<-hj]at CF wJ;obtain⟨z,a0,aa2,atp⟩:=HT.out.r.tab.aGG hjl wJ;obtain⟨N,hN⟩:∃N,N=s.length:=⟨_,rfl⟩
   rw[<-hN]at atp hjl jB;have hz:z<N:=by rw[hN];exact aa2.hz
   have ha0:1<=a0/\a0+1<=N:=⟨aa2.a0,by rw[hN];exact aa2.cN⟩
   have HL:=Lib.hid (Le s j x (by rw[<-hN];exact hjl) wJ);obtain⟨L,hL⟩:∃L,L=iw (s.set j none):=⟨_,rfl⟩
   rw[<-hL]at aa2 HL;have H0:=Lib.hid aa2;have HN:=Lib.hid hN;have HJ:=Lib.hid atp;have HAT:=Lib.hid wJ;have HX:=Lib.hid (show x.key=k from hxk);obtain⟨j1,hj1⟩:∃j1,j1=j+1:=⟨_,rfl⟩
   have e1:(j:Int)+1=(j1:Int):=by omega
   have i1:=jU (j1:Int) (by omega);obtain⟨j2,hj2⟩:∃j2,j2=j1%N:=⟨_,rfl⟩
   have aRh:j2<N:=by rw[hj2];exact fD _ (by omega)
   have e2:(j1:Int)%(N:Int)=(j2:Int):=by rw[hj2];omega
   have e3:Int.tmod (j1:Int) (N:Int)=(j2:Int):=by rw[Int.tmod_eq_emod_of_nonneg (by omega)];exact e2
   have i2:=jU (j2:Int) (by omega);have z1:¬(N:Int)=0:=by omega
   have z2:¬N=0:=by omega
   have HJ2:=Lib.hid (show j2=zf N z (a0+1)by rw[hj2,hj1,<-atp];exact ad6 hz (by omega));clear Dh hxk Di YB hd wJ hj aa2 atp hN hL hj1 hj2;go_wp2_with (first|(go_at_call 126;(with_reducible refine(CG.out _ T0.out).mono ?_);rintro e w2 ⟨rfl,hb⟩;have T2:=Lib.hid ((T0.out.go hb).go ((Below.refl _ _).alloc (ay _) (.cells (wI (some x)).rz.aA 86)));have B2:=Lib.hid ((ji B0.out hb).alloc ((ji B0.out hb).size) (.cells (wI (some x)).rz.aA 86));have l2:=pO ((X0.out.go hb).alloc (.cells (wI (some x)).rz.aA 86));have f2:(w2.alloc (.cells (wI (some x)).rz.aA 86)).cell? ⟨q,18,none⟩=some (.slice (some ⟨g,0,none⟩) N N):=(by rw[HN.out];exact T2.out.w.aI.1);clear hb l1)|(go_at_call 129;(with_reducible refine(CF.out _ T2.out.w).mono ?_);rintro e w3 ⟨rfl,hb⟩;have T3:=Lib.hid (T2.out.go hb);have B3:=Lib.hid (ji B2.out hb);clear hb l2 f2));go_loopw [8,9] (fun v8 v9 wr=>∃(s':List (Option Fw))(a c:Nat)(y:Fw),s'.length=N/\YW Fw.key (hmK key N) z s' a c L/\fE s' (zf N z a)=some y/\Gh wr q g key dR s'/\v8=.int .i64 (zf N z a:Nat)/\v9=.int .i64 (zf N z c:Nat)/\jE [g] w3 wr)
    (fun _ v9 wr=>N-zh N ((z+1)%N) (intOf v9).toNat)
   case atStart=>exact⟨s,a0,a0+1,x,HN.out.symm,by rw[HN.out];exact H0.out,by rw[HJ.out];exact HAT.out,T3.out.w,by rw[HJ.out],by rw[<-HJ2.out],jE.refl _ _⟩
   case round=>
    obtain⟨s',a,c,y,hlen,hol,hay,hTb,rfl,rfl,Au⟩:=hrel;have hcN:c<=N:=by rw[<-hlen];exact hol.cN
    have hac:=hol.ac;have ha1:=hol.a0;obtain⟨i,hi⟩:∃i,i=zf N z c:=⟨_,rfl⟩
    obtain⟨b,hb⟩:∃b,b=zf N z a:=⟨_,rfl⟩
    have hil:i<N:=by rw[hi];exact Ch (by omega)
    have Jp:b<N:=by rw[hb];exact Ch (by omega)
    have HOL:=Lib.hid hol;have vL:=Lib.hid hlen;have HTB:=Lib.hid hTb;have HFR:=Lib.hid Au;have f18:wr.cell? ⟨q,18,none⟩=some (.slice (some ⟨g,0,none⟩) N N):=by rw[<-hlen];exact hTb.aI.1
    have hai:=(hTb.XP (show i<s'.length by rw[hlen];exact hil))
    rw[<-hi,<-hb];rw[<-hb]at hay;have HI:=Lib.hid hi;have IJ:=Lib.hid hb;have HAY:=Lib.hid hay;have hii:(i:Int)<N:=by omega
    have hbi:(b:Int)<N:=by omega
    have HCT:=Lib.hid (show(iw s').length=L.length+1 by
     have h1:=(Le s' b y (by rw[hlen];exact Jp) hay).length_eq;rw[bC]at h1;have h2:=hol.QJ;rw[hlen,<-hb]at h2;rw[h1,h2.length_eq])
    have thb:=hTb.sl.there (b*42) 42 (by rw[vF,hlen];have:=Nat.mul_le_mul_right 42 (show b+1<=N from Jp);omega);clear hol hlen hTb Au hi hb hay;cases wJ:fE s' i with
    | none=>
      rw[wJ]at hai;have a1:wr.cell? ⟨g,i*42,none⟩=some (.bool false):=hai.1;have aJa:=Lib.hid wJ;have PQ:=Lib.hid (HTB.out.tb.gD (b2:=g) (o:=b*42) (x:=Hy.aA) HTB.out.ne);have f17:=(PQ.out.aI.1 17).trans (Tk.afd _);have g17:=PQ.out.aI.2.1 17;have aRj:=(PQ.out.aI.1 18).trans (Tk.yQ _);rw[HCT.out]at f17;obtain⟨m,hm⟩:∃m,m=L.length:=⟨_,rfl⟩
      rw[<-hm]at f17;obtain⟨m1,YG⟩:∃m1,m1=m+1:=⟨_,rfl⟩
      rw[<-YG]at f17;have e5:(m1:Int)-1=(m:Int):=by omega
      have hmb:m1<=100000:=by have h1:=FM s';have h2:=HTB.out.sz;have h3:=HCT.out;omega
      have i5:=jU (m:Int) (by omega);have HM:=Lib.hid hm;clear hai wJ hm YG hmb;go_wp2;go_ret;obtain⟨hd1,hd2⟩:=HOL.out.done (by rw[vL.out,<-HI.out];exact aJa.out);rw[vL.out,<-IJ.out]at hd1 hd2;have Dh:=xY HO.out;have hlp:l.Perm (x::L):=(HT.out.r.QJ.symm).trans HL.out;have hcut:=Xb HT.out.ok Dh.1 hlp;rw[Dh.2]at hcut;have Em:b<s'.length:=by rw[vL.out];exact Jp
      have hel:(iw (s'.set b none)).length=m:=by rw[hd2.length_eq,HM.out]
      have hW:Gh ((gT wr g (b*42) Hy.aA).setCell ⟨q,17,none⟩ (.int .i64 m)) q g key dR (s'.set b none):=by
       refine⟨?_,?_,HTB.out.ne,by rw[aW];exact HTB.out.sz⟩
       ·have:=PQ.out.eG 17 (.int .i64 m)
        rw[Tk.Sc]at this;rw[hel,aW];exact this
       ·have h1:=HTB.out.sl.setCells (b*42) Hy.aA.toList
        have h2:=Vj s' b none Em;refine dL.dM ?_ _ _ HTB.out.ne;rw[<-h2];simpa[gT,slC,wI]using h1
      refine⟨rfl,⟨s'.set b none,⟨hW,⟨?_,?_⟩,HT.out.ok.sub (acm l k)⟩,by rw[aW,vL.out,HN.out]⟩,?_⟩
      ·rw[aW,vL.out];exact hd1
      ·exact hd2.trans hcut
      ·refine jE.set ?_ _ _ (.inl (by simp))
       refine jE.grown ?_ (lS (World.grownBy.refl wr (some g)) (b*42) Hy.aA) (fun j e=>.inl (by injection e with e;simp[e]));exact(jE.jq B3.out).trans HFR.out (fun j hj=>.inl (by simp at hj;simp[hj]))
    | some v=>
      rw[wJ]at hai;obtain⟨a1,a2,_,a4,a5,_,a7⟩:=hai
      replace a1:wr.cell? ⟨g,i*42,none⟩=some (.bool true):=a1
      replace a4:dY wr g (i*42+1) 37=v.key.aA:=a4
      have uh:c<N:=by
       rcases bf c N with h1|h1
       ·exact h1
       ·exfalso
        have h2:c=N:=by omega
        have h3:=HOL.out.free;have h4:i=z:=by rw[HI.out,h2];show(z+N)%N=z;rw[Nat.add_mod_right,Nat.mod_eq_of_lt hz]
        rw[h4,h3]at wJ;cases wJ
      have hib:i≠b:=fun e=>by
       have:=KJ hz uh (show a<N by omega) (by rw[<-HI.out,<-IJ.out];exact e);omega
      have hvl:v∈l:=by
       have h1:v∈iw (s'.set b none):=QI.2 ⟨i,by rw[aW,vL.out];exact hil,by rw[GI _ _ _ _ (by rw[vL.out];exact Jp),if_neg (Ne.symm hib)];exact wJ⟩;have h2:=HOL.out.QJ;rw[vL.out,<-IJ.out]at h2;exact HT.out.r.QJ.mem_iff.1 (HL.out.mem_iff.2 (jX _ (h2.mem_iff.1 h1)))
      have hvn:=BZ (xg (HT.out.ok.ok v hvl));obtain⟨hv,hhv⟩:∃hv,hv=hmK key N v.key:=⟨_,rfl⟩
      have hvN:hv<N:=by rw[hhv];exact fD _ (by omega)
      have CH:=Lib.hid (fun(w:au) (T:Gh w q g key dR s')=>Ye T v.key hvn);rw[vL.out,<-hhv]at CH;have aye:fE s' (zf s'.length z c)=some v:=by rw[vL.out,<-HI.out];exact wJ
      have atr:=(HOL.out.lin c v (by rw[vL.out];exact uh) (by omega) aye).1;rw[vL.out,<-hhv]at atr;have aCW:=Lib.hid (show hmK key N v.key=hv from hhv.symm);obtain⟨p1,hp1⟩:∃p1,p1=i+N-hv:=⟨_,rfl⟩
      obtain⟨p2,hp2⟩:∃p2,p2=i+N-b:=⟨_,rfl⟩
      obtain⟨d1,hd1⟩:∃d1,d1=p1%N:=⟨_,rfl⟩
      obtain⟨d2,hd2⟩:∃d2,d2=p2%N:=⟨_,rfl⟩
      have aRl:d1<N:=by rw[hd1];exact fD _ (by omega)
      have aRm:d2<N:=by rw[hd2];exact fD _ (by omega)
      have g1:=jU ((i:Int)-(hv:Int)) (by omega);have g2:=jU ((i:Int)-(b:Int)) (by omega);have g3:(i:Int)-(hv:Int)+(N:Int)=(p1:Int):=by omega
      have g4:(i:Int)-(b:Int)+(N:Int)=(p2:Int):=by omega
      have g5:=jU (p1:Int) (by omega);have g6:=jU (p2:Int) (by omega);have g7:(p1:Int)%(N:Int)=(d1:Int):=by rw[hd1];omega
      have g8:(p2:Int)%(N:Int)=(d2:Int):=by rw[hd2];omega
      have g9:Int.tmod (p1:Int) (N:Int)=(d1:Int):=by rw[Int.tmod_eq_emod_of_nonneg (by omega)];exact g7
      have g10:Int.tmod (p2:Int) (N:Int)=(d2:Int):=by rw[Int.tmod_eq_emod_of_nonneg (by omega)];exact g8
      have g11:=jU (d1:Int) (by omega);have g12:=jU (d2:Int) (by omega);have D1:=Lib.hid (show d1=c-zh N z hv by rw[hd1,hp1,HI.out];exact aky hz hvN atr uh);have D2:=Lib.hid (show d2=c-a by rw[hd2,hp2,HI.out,IJ.out];exact ad5 hz (by omega) uh);obtain⟨n1,hn1⟩:∃n1,n1=i+1:=⟨_,rfl⟩
      have k1:(i:Int)+1=(n1:Int):=by omega
      have k2:=jU (n1:Int) (by omega);obtain⟨n2,LA⟩:∃n2,n2=n1%N:=⟨_,rfl⟩
      have aRn:n2<N:=by rw[LA];exact fD _ (by omega)
      have k3:(n1:Int)%(N:Int)=(n2:Int):=by rw[LA];omega
      have k4:Int.tmod (n1:Int) (N:Int)=(n2:Int):=by rw[Int.tmod_eq_emod_of_nonneg (by omega)];exact k3
      have k5:=jU (n2:Int) (by omega);have Si:=Lib.hid (show n2=zf N z (c+1)by rw[LA,hn1,HI.out];exact ad6 hz uh);have ats:=Lib.hid aye;have aCX:=Lib.hid atr;have HIB:=Lib.hid hib;have avf:=Lib.hid (show N-zh N ((z+1)%N) n2<N-zh N ((z+1)%N) i by
       rw[Si.out,HI.out,aa1 hz (by omega) (by omega),aa1 hz (by omega) (by omega)];omega)
      have HC:=Lib.hid (show c<N/\a<c/\0<a from⟨uh,hac,ha1⟩);clear hvl hvn hhv aye atr hp1 hp2 hd1 hd2 hn1 LA hib wJ a2 a5 uh;by_cases hle:d2<=d1
      ·have t1:decide ((d1:Int)>=(d2:Int))=true:=by simp;omega
       have t2:decide ((d2:Int)<=(d1:Int))=true:=by simp;omega
       have t3:decide (d2<=d1)=true:=by simp;omega
       have HLE:=Lib.hid hle;clear hle thb;go_wp2_with (go_at_call 200;(with_reducible refine(CH.out _ HTB.out).mono ?_);rintro e w5 ⟨rfl,yX⟩;have HB5:=Lib.hid yX;have T5:=Lib.hid (HTB.out.go yX);clear yX a1 a4 a7 f18;have f18:w5.cell? ⟨q,18,none⟩=some (.slice (some ⟨g,0,none⟩) N N):=(by rw[<-vL.out];exact T5.out.aI.1);have a5:xS w5 g (i*42) 42:=(T5.out.XP (by rw[vL.out];exact hil)).2.2.2.2.1;have a2:dY w5 g (i*42) 42=(wI (some v)).aA:=(by rw[(T5.out.XP (by rw[vL.out];exact hil)).2.1,show fE s' i=some v from(by have:=ats.out;rw[vL.out,<-HI.out]at this;exact this)]);have thb:w5.there g (b*42) 42:=T5.out.sl.there (b*42) 42 (by rw[vF,vL.out];have:=Nat.mul_le_mul_right 42 (show b+1<=N from Jp);omega));go_region;go_wp2;go_roundw
       case rel=>
        have h1:=HC.out;have h2:=HLE.out;rw[D1.out,D2.out]at h2;have h3:=aCX.out;have hmv:=HOL.out.move (by rw[vL.out];exact h1.1) ats.out (by rw[vL.out,aCW.out];omega);rw[vL.out,<-IJ.out]at hmv;have Em:b<s'.length:=by rw[vL.out];exact Jp
        have aCY:fE (s'.set b (some v)) i=some v:=by
         rw[GI _ _ _ _ Em,if_neg (Ne.symm HIB.out)];have:=ats.out;rw[vL.out,<-HI.out]at this;exact this
        have hel:(iw (s'.set b (some v))).length=L.length+1:=by
         have h4:=(Le (s'.set b (some v)) i v (by rw[aW,vL.out];exact hil) aCY).length_eq;rw[bC]at h4;have h5:=hmv.QJ;rw[aW,vL.out,<-HI.out]at h5;rw[h4,h5.length_eq]
        refine⟨s'.set b (some v),c,c+1,v,by rw[aW,vL.out],hmv,by rw[<-HI.out];exact aCY,?_,by rw[HI.out],by rw[Si.out],?_⟩
        ·exact T5.out.drew.ajG Em (some v) (L.length+1) hel (HCT.out.symm)
        ·exact jE.grown (HFR.out.below HB5.out.drew HFR.out.size) (lS (World.grownBy.refl w5.drew (some g)) (b*42) (wI (some v)).aA) (fun j e=>.inl (by injection e with e;simp[e]))
       case measure=>
        simp only[intOf,Int.toNat_natCast];exact avf.out
      ·have t1:decide ((d1:Int)>=(d2:Int))=false:=by simp;omega
       have t2:decide ((d2:Int)<=(d1:Int))=false:=by simp;omega
       have t3:decide (d2<=d1)=false:=by simp;omega
       have HLE:=Lib.hid hle;clear hle thb;go_wp2_with (go_at_call 200;(with_reducible refine(CH.out _ HTB.out).mono ?_);rintro e w5 ⟨rfl,yX⟩;have HB5:=Lib.hid yX;clear yX a1 a4 a7 f18);go_roundw
       case rel=>
        have h1:=HC.out;have h2:=HLE.out;rw[D1.out,D2.out]at h2;have h3:=aCX.out;refine⟨s',a,c+1,y,vL.out,HOL.out.aGH (by rw[vL.out];exact h1.1) ats.out (by rw[vL.out,aCW.out];omega),by rw[<-IJ.out];exact HAY.out,HTB.out.go HB5.out,by rw[IJ.out],by rw[Si.out],HFR.out.below HB5.out HFR.out.size⟩
       case measure=>
        simp only[intOf,Int.toNat_natCast];exact avf.out
end
section
variable {W W':au} {q g:Nat} {key:Vector UInt8 16} {dR:Int} {s:List (Option Fw)} {l:List Fw}
theorem TbR.Er{hm:Tu->Nat}(h:TbR hm s l)(ho:wS dR l){f x:Fw}{d:Nat}(hd:Found hm Fw.key s f.key d)(hf:pW l f.key=some x)(hl:l.length<s.length)(m:List Fw)(hm':m.Perm (f::zo l f.key)):TbR hm (s.set ((hm f.key+d)%s.length) (some f)) m:=by
 have hN:0<s.length:=by omega
 have hj:(hm f.key+d)%s.length<s.length:=fD _ hN;have yZ:=h.stop ho hd;have hel:=h.QJ.length_eq;rw[hf]at yZ;obtain⟨h1,h2⟩:=xY hf;obtain⟨z,nu,wX⟩:=(MG s).1 (by omega);refine⟨h.tab.put hd nu wX (fun e=>by rw[e,yZ]at wX;cases wX),?_⟩;have e1:=zL s _ f hj;have e2:=QH s _ x hj yZ;have e3:=Xb ho h1 (h.QJ.symm.trans e2);rw[h2]at e3;exact e1.trans ((e3.cons f).trans hm'.symm)
theorem Qc{fn:Func}{p u v:Tmp}{ty:bM}(h:fn.results = #[.cell p ty,.tmp u,.tmp v])(tmps:Array aC)(P:Program)(w:au):
 (results fn tmps).run P w=((asAddr (tmps.getD p undef)).run P w).andThen fun a w₁=>((loadVar ty a).run P w₁).andThen fun x w₂=>.ok (.tuple #[x,tmps.getD u undef,tmps.getD v undef]) w₂:=by
 simp only[results,h];simp[jK,iD]
theorem oV.att{T:bM}{n:Nat}{z:Array aC}{fn:Func}{p u v b:Nat}{W:au}{c:Array aC}(K:oV T n z)(h:fn.results = #[.cell p T,.tmp u,.tmp v])(tmps:Array aC)(hp:tmps.getD p undef=.pointer (some ⟨b,0,none⟩))(hb:dL W b c)(hc:c.size=n):(results fn tmps).run aj W=.ok (.tuple #[.agg c,tmps.getD u undef,tmps.getD v undef]) W:=by
 obtain⟨_,_,h3,h4⟩:=hb.aI;have hl:=K.ld W b 0 (by rw[h3 0 n (by unfold eu;omega)];trivial);rw[h4 0 n (by unfold eu;omega),bB,<-hc,Array.extract_size]at hl;unfold yt at hl;simp only[bZ,Instr.sureAddr,jK,ou,gK]at hl;rw[Qc h,hp];simp[asAddr,iD,hl]
def al0(dR:Int)(l:List Fw)(f:Fw):aC:=
 if Eo f then(if(pW l f.key).isNone&&decide (dR<=l.length)then .tuple #[.agg (l.head?.getD kQ).aA,.bool true,.int .i64 0]else .tuple #[.agg kQ.aA,.bool false,.int .i64 0])else .tuple #[.agg kQ.aA,.bool false,.int .i64 1]
def ah4(W:au)(q g:Nat)(key:Vector UInt8 16)(dR:Int)(s:List (Option Fw))(l:List Fw)(f:Fw)(e:kX)(w':au):Prop:=
 e=.returned (al0 dR l f)/\(∃s',LH w' q g key dR s' (Er dR l f)/\s'.length=s.length)/\jE [q,g] W w'
theorem aa3(T:LH W q g key dR s l)(h1:1<=dR)(h2:dR*2<=s.length)(f:Fw)(hfn:f.name.length<=1000000):
 aR aj 63 #[.pointer (some ⟨q,0,none⟩),.agg f.aA] W (ah4 W q g key dR s l f):=by
 have Z0:=Lib.hid (((Bx.start W).new f.aA 86).new kQ.aA 86);rw[show(W.alloc (.cells f.aA 86)).heap.size=W.heap.size+1 by simp]at Z0;have CR:=Lib.hid (fun w=>Mh f w (by omega));have HT:=Lib.hid T;have HLT:=Lib.hid T.w.lt;obtain⟨ok,Di⟩:∃ok,ok=Eo f:=⟨_,rfl⟩
 rw[<-Di]at CR;have Kv:=Lib.hid Di;clear Di T;go_enter Tryz.func63,Tryz.ntmps63;go_upto_region 1 with fail
 generalize(W.alloc (.cells f.aA 86)).alloc (.cells kQ.aA 86)=w1 at Z0 ⊢;have l1:=kK Z0.out.b1;cases ok
 ·go_wp2_with (go_at_call 48;(with_reducible refine(CR.out _).mono ?_);rintro e w2 ⟨rfl,hb⟩;have Z2:=Lib.hid (Z0.out.go hb);clear hb l1;have zq:=Z2.out.b0.there 0 41 (aY (Fw.ak _).symm))
  have k2:=Z2.out.put (fun p hp=>by rw[List.mem_singleton.1 hp];simp) kQ.aA rfl;refine bodyPost_ret (kFw.att rfl _ rfl (show dL (Bn w2 (W.heap.size+1) 0 kQ) (W.heap.size+1) kQ.aA from k2.b0) (Fw.ak _)) rfl ?_;refine⟨by unfold al0;rw[if_neg (by rw[<-Kv.out];simp)];rfl,⟨s,?_,rfl⟩,jE.jq k2.dF⟩;unfold Er;rw[if_neg (by rw[<-Kv.out];simp)];exact HT.out.go k2.dF
 ·have YB:xJ f.key:=BZ (xg Kv.out.symm)
  have CG:=Lib.hid (fun(w:au) (T:LH w q g key dR s l)=>La T f.key);obtain⟨o,ho⟩:∃o,o=pW l f.key:=⟨_,rfl⟩
  rw[<-ho]at CG;have HO:=Lib.hid ho.symm;have hcg:∀o,apx o=.tuple #[.agg (wI o).rz.aA,.bool o.isSome]:=fun _=>rfl
  simp only[hcg]at CG;clear ho hcg;have aJd:(iw s).length=l.length:=HT.out.r.QJ.length_eq;have jB:=HT.out.w.sz;obtain⟨n,hn⟩:∃n,n=l.length:=⟨_,rfl⟩
  have HNL:=Lib.hid hn;have HF:=Lib.hid (fun(w':au) (T:LH w' q g key dR s l)=>show w'.cell? ⟨q,17,none⟩=some (.int .i64 n)/\w'.cell? ⟨q,16,none⟩=some (.int .i64 dR)from⟨by rw[T.w.aI.2.1,T.r.QJ.length_eq,hn],T.w.aI.2.2.1⟩);clear aJd hn;go_upto_region 6 with(first|(go_at_call 48;(with_reducible refine(CR.out _).mono ?_);rintro e w2 ⟨rfl,hb⟩;have HW3:=Lib.hid (show W.heap.size+1<w2.heap.size from(Z0.out.go hb).b0.lt);have Z2:=Lib.hid ((Z0.out.go hb).new kQ.aA 86);clear hb l1;have l2:=oW Z2.out.b2)|(go_at_call 126;(with_reducible refine(CG.out _ (HT.out.go Z2.out.dF)).mono ?_);rintro e w3 ⟨rfl,hb⟩;have Z3:=Lib.hid ((Z2.out.go hb).new (wI o).rz.aA 86);clear hb l2))
  have TA:=Lib.hid (HT.out.go Z3.out.dF);obtain⟨f17,f16⟩:=HF.out _ TA.out;cases o with
  | some x=>
    go_wp2_with fail;go_quiet (fail);have T1:=Lib.hid (show LH ((w3.alloc (.cells (wI (some x)).rz.aA 86)).drewN nq) q g key dR s l from⟨TA.out.w.drewN nq,TA.out.r,TA.out.ok⟩);have XF:=Lib.hid (Z3.out.b3.drewN nq);have XR:=Lib.hid (Z3.out.b2.drewN nq);have XY:=Lib.hid (Z3.out.b1.drewN nq);have FR:=Lib.hid (jE.jq (F:=[q,g]) (fI Z3.out.dF nq));have HF1:=Lib.hid HO.out;generalize(w3.alloc (.cells (wI (some x)).rz.aA 86)).drewN nq=wA at T1 XF XR XY FR ⊢;clear f17 f16;go_wp2_with fail;obtain⟨d,hd,wJ⟩:=T1.out.Xa f.key;rw[HF1.out]at wJ;have akT:=T1.out.w.sz;obtain⟨j,hj⟩:∃j,j=(hmK key s.length f.key+d)%s.length:=⟨_,rfl⟩
    have hjl:j<s.length:=by rw[hj];exact fD _ (by omega)
    have CF:=Lib.hid (fun(w:au) (T:Gh w q g key dR s)=>C8 T f.key YB d hd);rw[<-hj]at CF wJ;have HD:=Lib.hid hd;have HJ:=Lib.hid hj;have HAT:=Lib.hid wJ;obtain⟨N,hN⟩:∃N,N=s.length:=⟨_,rfl⟩
    have HN:=Lib.hid hN;have YA:(j:Int)<N:=by omega
    have HJL:=Lib.hid hjl;clear hd hj wJ hN hjl akT;obtain⟨T,ff,n0,E0,es,ew⟩:=yg (wA);have hT:Nonempty T:=⟨n0⟩
    have ES:=Lib.hid es;have EW:=Lib.hid ew;have l18:∀m,(ff m).cell? ⟨q,18,none⟩=some (.slice (some ⟨g,0,none⟩) N N):=fun m=>by rw[HN.out];exact(T1.out.w.go (es m)).aI.1
    have lk:=fun m=>oW (XF.out.go (es m))
    have CG2:=Lib.hid (fun m=>CF.out _ (T1.out.w.go (es m)));clear es ew;refine pK ff (by kernel_rfl) (by kernel_rfl) n0 E0 ?_
    repeat(go_big_quiet_step ((first|(go_at_call 129;(with_reducible refine(CG2.out _).mono ?_);rintro e w2 ⟨rfl,hb⟩;exact⟨rfl,EW.out _ ((ES.out _).trans (hb.mono (ES.out _).size))⟩))))
    refine wpQuiet_nil ?_;rintro _ ⟨m',rfl⟩;have HB:=Lib.hid (ES.out m');generalize ff m'=wN at *;clear ES EW E0 hT n0;clear l18 lk;have T2:=Lib.hid (T1.out.go HB.out);have F2:=Lib.hid (XF.out.go HB.out);have R2:=Lib.hid (XR.out.go HB.out);have Y2:=Lib.hid (XY.out.go HB.out);have FR2:=Lib.hid (FR.out.below HB.out FR.out.size);obtain⟨a1,_,_,_,a5,_,_⟩:=T2.out.w.XP HJL.out;rw[HAT.out]at a1
    replace a1:wN.cell? ⟨g,j*42,none⟩=some (.bool true):=a1
    have lf:=kK F2.out;have thj:=T2.out.w.sl.there (j*42) 42 (by rw[vF];have:=Nat.mul_le_mul_right 42 (show j+1<=s.length from HJL.out);omega);have HQG:=Lib.hid (show q≠W.heap.size+1/\g≠W.heap.size+1/\g≠w2.heap.size/\w2.heap.size≠W.heap.size+1 from⟨by have:=HLT.out;omega,by have:=HLT.out;omega,by have:=HLT.out;have:=HW3.out;omega,by have:=HW3.out;omega⟩);have Y3:=Lib.hid (Y2.out.gD (o:=j*42) (x:=(Sl.mk true f).aA) (Ne.symm HQG.out.2.2.1));have R3:=Lib.hid (R2.out.gD (o:=j*42) (x:=(Sl.mk true f).aA) (Ne.symm HQG.out.2.1));have ly:=kK Y3.out;have zq:=R3.out.there 0 41 (aY (Fw.ak _).symm);clear a5;go_wp2;refine bodyPost_ret (kFw.att rfl _ rfl (R3.out.put kQ.aA rfl) (Fw.ak _)) rfl ?_;have hpf:Er dR l f=ins lJ f (zo l f.key):=by unfold Er;rw[if_pos Kv.out.symm,if_pos (by rw[HO.out];rfl)]
    have e1:=Le s j x HJL.out HAT.out;have e2:=zL s j f HJL.out;have hW:=T2.out.w.ajG HJL.out (some f) (iw s).length (by rw[e2.length_eq,e1.length_eq,bC,bC]) rfl;have hR:=T2.out.r.Er T2.out.ok HD.out HO.out (by have:=T2.out.ok.len;omega) (ins lJ f (zo l f.key)) (Cj _ _);rw[<-HJ.out]at hR;refine⟨by unfold al0;rw[if_pos Kv.out.symm,HO.out];rfl,⟨s.set j (some f),⟨⟨hW.tb.gD HQG.out.1,hW.sl.gD HQG.out.2.1,hW.ne,hW.sz⟩,?_,T2.out.ok.put h1 f⟩,by rw[aW]⟩,?_⟩
    ·rw[aW,hpf];exact hR
    ·refine jE.grown ?_ (lS (World.grownBy.refl _ (some (W.heap.size+1))) 0 kQ.aA) (fun k e=>.inr (by injection e with e;omega))
     exact jE.grown FR2.out (lS (World.grownBy.refl _ (some g)) (j*42) (Sl.mk true f).aA) (fun k e=>.inl (by injection e with e;simp[e]))
  | none=>
   by_cases Pf:dR<=(n:Int)
   ·have t1:decide ((n:Int)>=dR)=true:=by simp;omega
    have t2:decide (dR<=(n:Int))=true:=by simp;omega
    obtain⟨x0,tl,Zz⟩:∃x0 tl,l=x0::tl:=by
     have:=HNL.out;cases l with
     | nil=>simp at this;omega
     | cons x t=>exact⟨x,t,rfl⟩
    have hhd:l.head?.getD kQ=x0:=by rw[Zz];rfl
    have hct:zo l x0.key=tl:=by have:=HT.out.ok;rw[Zz]at this⊢;exact aow this
    have CO:=Lib.hid (fun w (T:LH w q g key dR s l)=>ac7 w T);rw[hhd]at CO;have CD:=Lib.hid (fun w (T:LH w q g key dR s l)=>Yi T x0.key);rw[hct]at CD;have hfl:dR<=(l.length:Int):=by rw[<-HNL.out];exact Pf
    have HPF:=Lib.hid (show Er dR l f=ins lJ f tl by unfold Er;rw[if_pos Kv.out.symm,if_neg (by rw[HO.out];simp),if_pos hfl,Zz];rfl);have HPC:=Lib.hid (show al0 dR l f=.tuple #[.agg x0.aA,.bool true,.int .i64 0]by unfold al0;rw[if_pos Kv.out.symm,HO.out,if_pos (by simpa using hfl),hhd]);have HFT:=Lib.hid (show pW tl f.key=none by
     unfold pW;rw[List.find?_eq_none];intro z hz;have:=BR HO.out z (by rw[Zz];exact jX _ hz);simp[uo,this])
    have HPT:=Lib.hid (show Er dR tl f=ins lJ f tl by
     unfold Er;rw[if_pos Kv.out.symm,if_neg (by rw[HFT.out];simp),if_neg (by have:=HT.out.ok.len;rw[Zz,bC]at this;omega)])
    have HBD:=Lib.hid (show((tl.length:Nat):Int)+1<=dR by have:=HT.out.ok.len;rw[Zz,bC]at this;omega);clear Pf Zz hhd hct hfl;go_wp2_with fail;go_quiet (fail);have TB:=Lib.hid (show LH ((w3.alloc (.cells (wI none).rz.aA 86)).drewN nq) q g key dR s l from⟨TA.out.w.drewN nq,TA.out.r,TA.out.ok⟩);have XF0:=Lib.hid (Z3.out.b3.drewN nq);have XR0:=Lib.hid (Z3.out.b2.drewN nq);have XY0:=Lib.hid (Z3.out.b1.drewN nq);have FR0:=Lib.hid (jE.jq (F:=[q,g]) (fI Z3.out.dF nq));generalize(w3.alloc (.cells (wI none).rz.aA 86)).drewN nq=wB at TB XF0 XR0 XY0 FR0 ⊢;clear f17 f16;have HQK:=Lib.hid (show w2.heap.size≠q/\w2.heap.size≠g/\w2.heap.size≠W.heap.size/\w2.heap.size≠W.heap.size+1/\W.heap.size≠q/\W.heap.size≠g/\W.heap.size+1≠q/\W.heap.size+1≠g by have:=HLT.out;have:=HW3.out;omega);go_upto_region 9 with(first
     | (go_at_call 127;(with_reducible refine(CO.out _ TB.out).mono ?_);rintro e w4 ⟨rfl,M8⟩;have Y4:=Lib.hid (XY0.out.go M8);have th4:=Y4.out.there 0 41 (aY (Fw.ak _).symm);have T5:=Lib.hid (show LH (Bn w4 w2.heap.size 0 x0) q g key dR s l from⟨⟨(TB.out.w.go M8).tb.gD (Ne.symm HQK.out.1),(TB.out.w.go M8).sl.gD (Ne.symm HQK.out.2.1),TB.out.w.ne,TB.out.w.sz⟩,TB.out.r,TB.out.ok⟩);have Y5:=Lib.hid (show dL (Bn w4 w2.heap.size 0 x0) w2.heap.size x0.aA from Y4.out.put x0.aA (by rw[Fw.ak,Fw.ak]));have F5:=Lib.hid (show dL (Bn w4 w2.heap.size 0 x0) W.heap.size f.aA from(XF0.out.go M8).gD (b2:=w2.heap.size) (o:=0) (x:=x0.aA) (Ne.symm HQK.out.2.2.1));have R5:=Lib.hid (show dL (Bn w4 w2.heap.size 0 x0) (W.heap.size+1) kQ.aA from(XR0.out.go M8).gD (b2:=w2.heap.size) (o:=0) (x:=x0.aA) (Ne.symm HQK.out.2.2.2.1));have lk5:=oW Y5.out;have FR5:=Lib.hid (show jE [q,g] W (Bn w4 w2.heap.size 0 x0)from(FR0.out.below M8 FR0.out.size).grown (lS (World.grownBy.refl w4 (some w2.heap.size)) 0 x0.aA) (fun k e=>.inr (by injection e with e;have:=HW3.out;omega)));clear M8)
     | (go_at_call 128;(with_reducible refine(CD.out _ T5.out).mono ?_);rintro e wA ⟨rfl,⟨s',T6,hs6⟩,F6⟩;have T1:=Lib.hid T6;have HS6:=Lib.hid hs6;have XF:=Lib.hid (F6.box F5.out (by have:=HQK.out;simp;omega));have XR:=Lib.hid (F6.box R5.out (by have:=HQK.out;simp;omega));have XY:=Lib.hid (F6.box Y5.out (by have:=HQK.out;simp;omega));have FR:=Lib.hid (FR5.out.qh F6);clear lk5 th4 T6 hs6 F6))
    have HF1:=Lib.hid HFT.out;obtain⟨n',hn'⟩:∃n',n'=tl.length:=⟨_,rfl⟩
    have HNP:=Lib.hid hn';clear hn';obtain⟨d,hd,wJ⟩:=T1.out.Xa f.key;rw[HF1.out]at wJ;have akT:=T1.out.w.sz;obtain⟨j,hj⟩:∃j,j=(hmK key s'.length f.key+d)%s'.length:=⟨_,rfl⟩
    have hjl:j<s'.length:=by rw[hj];exact fD _ (by omega)
    have CF:=Lib.hid (fun(w:au) (T:Gh w q g key dR s')=>C8 T f.key YB d hd);rw[<-hj]at CF wJ;have HD:=Lib.hid hd;have HJ:=Lib.hid hj;have HAT:=Lib.hid wJ;obtain⟨N,hN⟩:∃N,N=s'.length:=⟨_,rfl⟩
    have HN:=Lib.hid hN;have YA:(j:Int)<N:=by omega
    have HJL:=Lib.hid hjl;clear hd hj wJ hN hjl akT;obtain⟨T,ff,n0,E0,es,ew⟩:=yg (wA);have hT:Nonempty T:=⟨n0⟩
    have ES:=Lib.hid es;have EW:=Lib.hid ew;have l18:∀m,(ff m).cell? ⟨q,18,none⟩=some (.slice (some ⟨g,0,none⟩) N N):=fun m=>by rw[HN.out];exact(T1.out.w.go (es m)).aI.1
    have lk:=fun m=>oW (XF.out.go (es m))
    have CG2:=Lib.hid (fun m=>CF.out _ (T1.out.w.go (es m)));clear es ew;refine pK ff (by kernel_rfl) (by kernel_rfl) n0 E0 ?_
    repeat(go_big_quiet_step ((first|(go_at_call 129;(with_reducible refine(CG2.out _).mono ?_);rintro e w2 ⟨rfl,hb⟩;exact⟨rfl,EW.out _ ((ES.out _).trans (hb.mono (ES.out _).size))⟩))))
    refine wpQuiet_nil ?_;rintro _ ⟨m',rfl⟩;have HB:=Lib.hid (ES.out m');generalize ff m'=wN at *;clear ES EW E0 hT n0;clear l18 lk;have T2:=Lib.hid (T1.out.go HB.out);have F2:=Lib.hid (XF.out.go HB.out);have R2:=Lib.hid (XR.out.go HB.out);have Y2:=Lib.hid (XY.out.go HB.out);have FR2:=Lib.hid (FR.out.below HB.out FR.out.size);obtain⟨a1,_,_,_,a5,_,_⟩:=T2.out.w.XP HJL.out;rw[HAT.out]at a1
    replace a1:wN.cell? ⟨g,j*42,none⟩=some (.bool false):=a1
    have c17:wN.cell? ⟨q,17,none⟩=some (.int .i64 n'):=by rw[T2.out.w.aI.2.1,T2.out.r.QJ.length_eq,HNP.out]
    have g17:=T2.out.w.aI.2.2.2.1 17;obtain⟨n1,hn1⟩:∃n1,n1=n'+1:=⟨_,rfl⟩
    have e5:(n':Int)+1=(n1:Int):=by omega
    have hnb:=T2.out.ok.len;have zC:=HNP.out;have i5:=jU (n1:Int) (by omega);have HN1:=Lib.hid hn1;have F3:=Lib.hid (F2.out.dM ⟨q,17,none⟩ (.int .i64 n1) (by have:=HLT.out;show q≠W.heap.size;omega));have lf:=kK F3.out;have SL:=Lib.hid (T2.out.w.sl.dM ⟨q,17,none⟩ (.int .i64 n1) T2.out.w.ne);have thj:=SL.out.there (j*42) 42 (by rw[vF];have:=Nat.mul_le_mul_right 42 (show j+1<=s'.length from HJL.out);omega);have HQG:=Lib.hid (show q≠W.heap.size+1/\g≠W.heap.size+1/\g≠w2.heap.size/\w2.heap.size≠W.heap.size+1/\q≠w2.heap.size from⟨by have:=HLT.out;omega,by have:=HLT.out;omega,by have:=HLT.out;have:=HW3.out;omega,by have:=HW3.out;omega,by have:=HLT.out;have:=HW3.out;omega⟩);have Y3:=Lib.hid ((Y2.out.dM ⟨q,17,none⟩ (.int .i64 n1) HQG.out.2.2.2.2).gD (o:=j*42) (x:=(Sl.mk true f).aA) (Ne.symm HQG.out.2.2.1));have R3:=Lib.hid ((R2.out.dM ⟨q,17,none⟩ (.int .i64 n1) HQG.out.1).gD (o:=j*42) (x:=(Sl.mk true f).aA) (Ne.symm HQG.out.2.1));have ly:=kK Y3.out;have zq:=R3.out.there 0 41 (aY (Fw.ak _).symm);clear a5 hn1 hnb zC;go_wp2;refine bodyPost_ret (kFw.att rfl _ rfl (R3.out.put x0.aA (by rw[Fw.ak,Fw.ak])) (Fw.ak _)) rfl ?_;have zC:=HNP.out;have hhs:=HS6.out;have hbd:=HBD.out;have hpf:Er dR l f=ins lJ f tl:=HPF.out;have hcu:=Yh HF1.out;have e2:=MF s' j f HJL.out HAT.out;have hel:(iw (s'.set j (some f))).length=n1:=by rw[e2.length_eq,bC,T2.out.r.QJ.length_eq,HN1.out,zC]
    have hR:=T2.out.r.put T2.out.ok HD.out (by omega) (ins lJ f tl) (by rw[hcu];exact Cj _ _);rw[<-HJ.out]at hR;have hT1:dL (wN.setCell ⟨q,17,none⟩ (.int .i64 n1)) q (Tk.mk key dR (iw (s'.set j (some f))).length (some ⟨g,0,none⟩) s'.length s'.length).aA:=by
     have:=T2.out.w.tb.eG 17 (.int .i64 n1);rw[Tk.Sc]at this;rw[hel];exact this
    have hT2:dL (gT (wN.setCell ⟨q,17,none⟩ (.int .i64 n1)) g (j*42) (Sl.mk true f).aA) g (XM (s'.set j (some f))):=by
     have h5:=SL.out.setCells (j*42) (Sl.mk true f).aA.toList;rw[<-Vj s' j (some f) HJL.out];simpa[gT,slC,wI]using h5
    refine⟨by rw[HPC.out];rfl,⟨s'.set j (some f),⟨⟨?_,hT2.gD HQG.out.2.1,T2.out.w.ne,by rw[aW];exact T2.out.w.sz⟩,?_,by rw[hpf,<-HPT.out];exact T2.out.ok.put h1 f⟩,by rw[aW,HS6.out]⟩,?_⟩
    ·rw[aW];exact(hT1.gD T2.out.w.ne).gD HQG.out.1
    ·rw[aW,hpf];exact hR
    ·refine jE.grown ?_ (lS (World.grownBy.refl _ (some (W.heap.size+1))) 0 x0.aA) (fun k e=>.inr (by injection e with e;omega))
     refine jE.grown ?_ (lS (World.grownBy.refl _ (some g)) (j*42) (Sl.mk true f).aA) (fun k e=>.inl (by injection e with e;simp[e]));exact FR2.out.set ⟨q,17,none⟩ (.int .i64 n1) (.inl (by simp))
   ·have t1:decide ((n:Int)>=dR)=false:=by simp;omega
    have t2:decide (dR<=(n:Int))=false:=by simp;omega
    have aC2:=Lib.hid Pf;clear Pf;go_wp2_with fail;go_quiet (fail);have T1:=Lib.hid (show LH ((w3.alloc (.cells (wI none).rz.aA 86)).drewN nq) q g key dR s l from⟨TA.out.w.drewN nq,TA.out.r,TA.out.ok⟩);have XF:=Lib.hid (Z3.out.b3.drewN nq);have XR:=Lib.hid (Z3.out.b2.drewN nq);have XY:=Lib.hid (Z3.out.b1.drewN nq);have FR:=Lib.hid (jE.jq (F:=[q,g]) (fI Z3.out.dF nq));have HF1:=Lib.hid HO.out;generalize(w3.alloc (.cells (wI none).rz.aA 86)).drewN nq=wA at T1 XF XR XY FR ⊢;clear f17 f16;go_wp2_with fail;obtain⟨d,hd,wJ⟩:=T1.out.Xa f.key;rw[HF1.out]at wJ;have akT:=T1.out.w.sz;obtain⟨j,hj⟩:∃j,j=(hmK key s.length f.key+d)%s.length:=⟨_,rfl⟩
    have hjl:j<s.length:=by rw[hj];exact fD _ (by omega)
    have CF:=Lib.hid (fun(w:au) (T:Gh w q g key dR s)=>C8 T f.key YB d hd);rw[<-hj]at CF wJ;have HD:=Lib.hid hd;have HJ:=Lib.hid hj;have HAT:=Lib.hid wJ;obtain⟨N,hN⟩:∃N,N=s.length:=⟨_,rfl⟩
    have HN:=Lib.hid hN;have YA:(j:Int)<N:=by omega
    have HJL:=Lib.hid hjl;clear hd hj wJ hN hjl akT;obtain⟨T,ff,n0,E0,es,ew⟩:=yg (wA);have hT:Nonempty T:=⟨n0⟩
    have ES:=Lib.hid es;have EW:=Lib.hid ew;have l18:∀m,(ff m).cell? ⟨q,18,none⟩=some (.slice (some ⟨g,0,none⟩) N N):=fun m=>by rw[HN.out];exact(T1.out.w.go (es m)).aI.1
    have lk:=fun m=>oW (XF.out.go (es m))
    have CG2:=Lib.hid (fun m=>CF.out _ (T1.out.w.go (es m)));clear es ew;refine pK ff (by kernel_rfl) (by kernel_rfl) n0 E0 ?_
    repeat(go_big_quiet_step ((first|(go_at_call 129;(with_reducible refine(CG2.out _).mono ?_);rintro e w2 ⟨rfl,hb⟩;exact⟨rfl,EW.out _ ((ES.out _).trans (hb.mono (ES.out _).size))⟩))))
    refine wpQuiet_nil ?_;rintro _ ⟨m',rfl⟩;have HB:=Lib.hid (ES.out m');generalize ff m'=wN at *;clear ES EW E0 hT n0;clear l18 lk;have T2:=Lib.hid (T1.out.go HB.out);have F2:=Lib.hid (XF.out.go HB.out);have R2:=Lib.hid (XR.out.go HB.out);have Y2:=Lib.hid (XY.out.go HB.out);have FR2:=Lib.hid (FR.out.below HB.out FR.out.size);obtain⟨a1,_,_,_,a5,_,_⟩:=T2.out.w.XP HJL.out;rw[HAT.out]at a1
    replace a1:wN.cell? ⟨g,j*42,none⟩=some (.bool false):=a1
    have c17:=(HF.out _ T2.out).1;have g17:=T2.out.w.aI.2.2.2.1 17;obtain⟨n1,hn1⟩:∃n1,n1=n+1:=⟨_,rfl⟩
    have e5:(n:Int)+1=(n1:Int):=by omega
    have hnb:=T2.out.ok.len;have zC:=HNL.out;have i5:=jU (n1:Int) (by omega);have HN1:=Lib.hid hn1;have F3:=Lib.hid (F2.out.dM ⟨q,17,none⟩ (.int .i64 n1) (by have:=HLT.out;show q≠W.heap.size;omega));have lf:=kK F3.out;have SL:=Lib.hid (T2.out.w.sl.dM ⟨q,17,none⟩ (.int .i64 n1) T2.out.w.ne);have thj:=SL.out.there (j*42) 42 (by rw[vF];have:=Nat.mul_le_mul_right 42 (show j+1<=s.length from HJL.out);omega);have HQG:=Lib.hid (show q≠W.heap.size+1/\g≠W.heap.size+1/\g≠w2.heap.size/\w2.heap.size≠W.heap.size+1/\q≠w2.heap.size from⟨by have:=HLT.out;omega,by have:=HLT.out;omega,by have:=HLT.out;have:=HW3.out;omega,by have:=HW3.out;omega,by have:=HLT.out;have:=HW3.out;omega⟩);have Y3:=Lib.hid ((Y2.out.dM ⟨q,17,none⟩ (.int .i64 n1) HQG.out.2.2.2.2).gD (o:=j*42) (x:=(Sl.mk true f).aA) (Ne.symm HQG.out.2.2.1));have R3:=Lib.hid ((R2.out.dM ⟨q,17,none⟩ (.int .i64 n1) HQG.out.1).gD (o:=j*42) (x:=(Sl.mk true f).aA) (Ne.symm HQG.out.2.1));have ly:=kK Y3.out;have zq:=R3.out.there 0 41 (aY (Fw.ak _).symm);clear a5 hn1 hnb zC;go_wp2;refine bodyPost_ret (kFw.att rfl _ rfl (R3.out.put kQ.aA rfl) (Fw.ak _)) rfl ?_;have zC:=HNL.out;have hfu:=aC2.out;have hrl:¬dR<=(l.length:Int):=by omega
    have hpf:Er dR l f=ins lJ f l:=by unfold Er;rw[if_pos Kv.out.symm,if_neg (by rw[HO.out];simp),if_neg hrl]
    have hcu:=Yh HO.out;have e2:=MF s j f HJL.out HAT.out;have hel:(iw (s.set j (some f))).length=n1:=by rw[e2.length_eq,bC,T2.out.r.QJ.length_eq,HN1.out,zC]
    have hR:=T2.out.r.put T2.out.ok HD.out (by omega) (ins lJ f l) (by rw[hcu];exact Cj _ _);rw[<-HJ.out]at hR;have hT1:dL (wN.setCell ⟨q,17,none⟩ (.int .i64 n1)) q (Tk.mk key dR (iw (s.set j (some f))).length (some ⟨g,0,none⟩) s.length s.length).aA:=by
     have:=T2.out.w.tb.eG 17 (.int .i64 n1);rw[Tk.Sc]at this;rw[hel];exact this
    have hT2:dL (gT (wN.setCell ⟨q,17,none⟩ (.int .i64 n1)) g (j*42) (Sl.mk true f).aA) g (XM (s.set j (some f))):=by
     have h5:=SL.out.setCells (j*42) (Sl.mk true f).aA.toList;rw[<-Vj s j (some f) HJL.out];simpa[gT,slC,wI]using h5
    refine⟨by unfold al0;rw[if_pos Kv.out.symm,HO.out,if_neg (by simp;omega)];rfl,⟨s.set j (some f),⟨⟨?_,hT2.gD HQG.out.2.1,T2.out.w.ne,by rw[aW];exact T2.out.w.sz⟩,?_,T2.out.ok.put h1 f⟩,by rw[aW]⟩,?_⟩
    ·rw[aW];exact(hT1.gD T2.out.w.ne).gD HQG.out.1
    ·rw[aW,hpf];exact hR
    ·refine jE.grown ?_ (lS (World.grownBy.refl _ (some (W.heap.size+1))) 0 kQ.aA) (fun k e=>.inr (by injection e with e;omega))
     refine jE.grown ?_ (lS (World.grownBy.refl _ (some g)) (j*42) (Sl.mk true f).aA) (fun k e=>.inl (by injection e with e;simp[e]));exact FR2.out.set ⟨q,17,none⟩ (.int .i64 n1) (.inl (by simp))
end
section
attribute [local go_sem high] iT jG
theorem ayh:ak8 190:=⟨fun c w=>by
 go_enter Tryz.func190,Tryz.ntmps190;go_wp2;go_ret;exact⟨rfl,rfl⟩,fun args w=>by kernel_rfl⟩
theorem apE(a:fu):qN a=(a.j6 || !nzB (a.b.toList.drop 4)):=by rw[KZ];cases h:a.j6<;>simp[qN,fu.mK,h]
theorem Ml(a:fu)(w:au):aR aj 110 #[.agg a.aA] w (gP w (.bool (qN a))):=by
 have HB:=Lib.hid ((Below.refl w.heap.size w).alloc (ay _) (.cells a.aA 27));have x0:=dL.new w a.aA 27;have C:=Lib.hid (aji _ ayh _ 12 12 _ _ _ (by omega) (gy.tail (B:=w.heap.size+1) (Nat.lt_succ_self _) x0));have HS:=Lib.hid (apE a);obtain⟨z,hz⟩:∃z,z=nzB (a.b.toList.drop 4):=⟨_,rfl⟩
 rw[<-hz]at C HS;clear hz;cases h6:a.j6
 ·rw[h6]at HS
  go_enter Tryz.func110,Tryz.ntmps110;go_wp2_with fail;refine C.out.mono ?_;rintro e w' ⟨rfl,rfl⟩;cases z
  all_goals
   go_wp2;go_ret;exact⟨by rw[HS.out];rfl,HB.out⟩
 ·rw[h6]at HS
  go_enter Tryz.func110,Tryz.ntmps110;go_wp2;go_ret;exact⟨by rw[HS.out];rfl,HB.out⟩
def J6(n a b:Int):Bool:=decide (a<=n)&&decide (n<=b)
theorem yR(n a b:Int)(w:au):aR aj 109 #[.int .i64 n,.int .i64 a,.int .i64 b] w fun e w'=>e=.returned (.bool (J6 n a b))/\w=w':=by
 go_enter Tryz.func109,Tryz.ntmps109;by_cases h1:a<=n<;>by_cases h2:n<=b
 all_goals
  go_wp2;go_ret;exact⟨by simp[J6,h1,h2],rfl⟩
theorem al1(args:Array aC)(w:au):(callFunc 204 args).run aj w=.ok (.enter 204 args) w:=by kernel_rfl
theorem ah6(x:Vp)(a:fu)(p q:Int)(ba bp bq:Nat)(w:au)(ha:dL w ba a.aA)(hp:dL w bp #[.int .i64 p])(hq:dL w bq #[.int .i64 q]):
 aR aj 204 #[.agg x.aA,.pointer (some ⟨ba,0,none⟩),.pointer (some ⟨bp,0,none⟩),.pointer (some ⟨bq,0,none⟩)] w (gP w (.bool (yL a p q x))):=by
 have HB:=Lib.hid (fun ob=>(Below.refl w.heap.size w).alloc (ay _) ob);have na:=ha.lt;have np:=hp.lt;have nq:=hq.lt;obtain⟨a1,a2,a3,a4⟩:=ha.aI;obtain⟨p1,p2,p3,p4⟩:=hp.aI;obtain⟨q1,q2,q3,q4⟩:=hq.aI;clear ha hp hq;go_enter Tryz.func204,Tryz.ntmps204;go_wp2
 all_goals
  go_ret;refine⟨?_,HB.out _⟩;clear HB;simp_all[yL]
def ajI(l:List Vp)(a:fu)(p q:Int):Int:=match zN l a p q with|some i=>(i:Nat)|none=>-1
theorem al2(l:List Vp)(a:fu)(p q:Int)(ba bp bq:Nat)(A:Option aU)(n c:Nat)(w:au)(hR:RdV w w.heap.size A n l)(hn:n<=100000)(ha:dL w ba a.aA)(hp:dL w bp #[.int .i64 p])(hq:dL w bq #[.int .i64 q]):
 aR aj 203 #[.slice A n c,.func (.func 204) #[] #[.pointer (some ⟨ba,0,none⟩),.pointer (some ⟨bp,0,none⟩),.pointer (some ⟨bq,0,none⟩)]] w (gP w (.int .i64 (ajI l a p q))):=by
 have hen:=al1;have HR:=Lib.hid hR;have HN:=Lib.hid hR.1;have PR:=Lib.hid (fun x W (h:aN w.heap.size w W)=>ah6 x a p q ba bp bq W (ha.go h) (hp.go h) (hq.go h));clear hR ha hp hq;go_enter Tryz.func203,Tryz.ntmps203;go_wp2;go_loopw [8] (fun s8 wr=>∃i:Nat,i<=n/\s8=.int .i64 i/\(∀k,k<i->yL a p q (l.getD k oD)=false)/\aN w.heap.size w wr) (fun s8 _=>n-(intOf s8).toNat)
 case atStart=>exact⟨0,by omega,rfl,fun k hk=>by omega,Below.refl _ _⟩
 case round=>
  obtain⟨i,wW,rfl,uU,hb⟩:=hrel;have Gu:=Lib.hid uU;have HB:=Lib.hid hb;clear uU hb;by_cases fP:i<n
  ·have hi:(i:Int)<n:=by omega
   obtain⟨b,o,rfl,Cb,hh,uh⟩:=iO.fE Vp.ak oD ((HR.out.below HB.out).lF HB.out.size) fP;obtain⟨x,hx⟩:∃x,x=l.getD i oD:=⟨_,rfl⟩
   rw[<-hx]at uh;have HX:=Lib.hid hx;have CP:=Lib.hid (PR.out x _ HB.out);clear hx Cb;cases hq:yL a p q x
   ·have HQ:=Lib.hid hq
    rw[hq]at CP;clear hq;go_wp2_with (go_at_call 204;(with_reducible refine CP.out.mono ?_);rintro e w1 ⟨rfl,gI⟩;clear hh uh;have qd:=Lib.hid gI;clear gI);go_roundw
    case rel=>exact⟨i+1,by omega,by go_num,fun k hk=>by
     by_cases KO:k=i
     ·rw[KO,<-HX.out];exact HQ.out
     ·exact Gu.out k (by omega),ji HB.out qd.out⟩
    case measure=>simp[intOf]<;>omega
   ·have Wj:=Lib.hid (show zN l a p q=some i from gV.2 ⟨by rw[HN.out];exact fP,by
      have:=hq;rw[HX.out,av,aD (by rw[HN.out];exact fP)]at this;exact this,fun j hj=>by
      have:=Gu.out j hj;rw[av,aD (by rw[HN.out];omega)]at this;simpa using this⟩)
    rw[hq]at CP;clear hq;go_wp2_with (go_at_call 204;(with_reducible refine CP.out.mono ?_);rintro e w1 ⟨rfl,gI⟩;clear hh uh;have qd:=Lib.hid gI;clear gI);go_ret;exact⟨by unfold ajI;rw[Wj.out];rfl,ji HB.out qd.out⟩
  ·obtain rfl:i=n:=by omega
   have Wj:=Lib.hid (show zN l a p q=none from List.findIdx?_eq_none_iff.2 fun x hx=>by
    obtain⟨j,hj,rfl⟩:=List.getElem_of_mem hx;have:=Gu.out j (by rw[<-HN.out];exact hj);rw[av,aD hj]at this;exact this)
   have hd:decide ((i:Int)<i)=false:=by simp
   go_wp2;go_ret;exact⟨by unfold ajI;rw[Wj.out];rfl,HB.out⟩
def Zl(l:List Vp)(a:fu)(p q:Int):Vp×Bool:=match zN l a p q with|some i=>(l.getD i oD,true)|none=>(oD,false)
theorem al3{l:List Vp}{a:fu}{p q:Int}{i:Nat}(h:zN l a p q=some i):i<l.length:=(gV.1 h).1
theorem TQ(x:Cn)(l:List Vp)(a:fu)(p q:Int)(w:au)(hR:RdV w w.heap.size x.qO x.iH l)(hn:x.iH<=100000):
 aR aj 135 #[.agg x.aA,.agg a.aA,.int .i64 p,.int .i64 q] w (gP w (.tuple #[.agg (Zl l a p q).1.aA,.bool (Zl l a p q).2])):=by
 have h0:=((((Bx.start w).new x.aA 29).new a.aA 27).new #[.int .i64 p] 3).new #[.int .i64 q] 3;have h1:=h0.new oD.aA 98;simp only[World.size_alloc]at h1;have Z:=Lib.hid h1;have HR:=Lib.hid (h1.rdR hR);have HN:=Lib.hid hR.1;clear h0 h1 hR;go_enter Tryz.func135,Tryz.ntmps135;go_upto_region 1 with fail
 generalize(((((w.alloc (.cells x.aA 29)).alloc (.cells a.aA 27)).alloc (.cells #[.int .i64 p] 3)).alloc (.cells #[.int .i64 q] 3)).alloc (.cells oD.aA 98))=w5 at Z HR ⊢;obtain⟨y1,y2,y3,y4⟩:=Z.out.U1.b3.aI;have CI:=Lib.hid (al2 l a p q _ _ _ x.qO x.iH x.qP w5 HR.out hn Z.out.b3 Z.out.b2 Z.out.b1);have NI:=Lib.hid (show∀r∈[(w.heap.size+1+1+1,#[aJ .i64 q]),(w.heap.size+1+1,#[aJ .i64 p]),(w.heap.size+1,a.aA),(w.heap.size,x.aA)],r.1≠w.heap.size+1+1+1+1 from fun r hr=>by
  simp only[bD,fK,or_false]at hr;rcases hr with rfl|rfl|rfl|rfl<;>simp only[]<;>omega)
 have HP:=Lib.hid (show ajI l a p q=match zN l a p q with|some i=>(i:Nat)|none=>-1 from rfl);have HV:=Lib.hid (show Zl l a p q=match zN l a p q with|some i=>(l.getD i oD,true)|none=>(oD,false)from rfl);cases hf:zN l a p q with
 | none=>
   rw[hf]at HP HV;rw[HP.out]at CI;simp only at CI;clear hf;go_wp2_with (go_at_call 203;(with_reducible refine CI.out.mono ?_);rintro e w6 ⟨rfl,hb⟩;have Z6:=Lib.hid (Z.out.go hb);have zq:=Z6.out.b0.there 0 20 (aY (Vp.ak oD).symm);clear hb);refine bodyPost_ret (kVp.qL rfl _ rfl (b:=w.heap.size+1+1+1+1) (c:=oD.aA) (Z6.out.put NI.out oD.aA rfl).b0 (Vp.ak _)) rfl ?_;rw[HV.out];exact⟨rfl,(Z6.out.put NI.out oD.aA rfl).dF⟩
 | some i=>
   have hi:=al3 hf;rw[HN.out]at hi;rw[hf]at HP HV;rw[HP.out]at CI;simp only at CI;clear hf;have Qw:(i:Int)<x.iH:=by omega
   obtain⟨b,o,hA,Cb,hh,uh⟩:=iO.fE Vp.ak oD HR.out hi;rw[hA]at HR CI;go_wp2_with (go_at_call 203;(with_reducible refine CI.out.mono ?_);rintro e w6 ⟨rfl,hb⟩;have Z6:=Lib.hid (Z.out.go hb);have zq:=Z6.out.b0.there 0 20 (aY (Vp.ak oD).symm);have HR6:=Lib.hid (HR.out.go hb);clear hb;clear y1 y2 y3 y4 hh uh;obtain⟨y1,y2,y3,y4⟩:=Z6.out.U1.b3.aI;obtain⟨b',o',hA',aRu,hh,uh⟩:=iO.fE Vp.ak oD HR6.out hi;cases hA');refine bodyPost_ret (kVp.qL rfl _ rfl (b:=w.heap.size+1+1+1+1) (c:=(l.getD i oD).aA) (Z6.out.put NI.out (l.getD i oD).aA (by rw[Vp.ak,Vp.ak])).b0 (Vp.ak _)) rfl ?_;rw[HV.out];exact⟨rfl,(Z6.out.put NI.out (l.getD i oD).aA (by rw[Vp.ak,Vp.ak])).dF⟩
theorem atu{l:List Vp}{a:fu}{p q:Int}:(Zl l a p q).2=l.any (yL a p q):=by
 unfold Zl zN;cases h:l.findIdx? (yL a p q)with
 | none=>
   simp only;symm;rw[qy];exact fun x hx=>by simpa using List.findIdx?_eq_none_iff.1 h x hx
 | some i=>
   simp only;symm;obtain⟨h1,h2,_⟩:=gV.1 h;exact tQ.2 ⟨_,eO h1,h2⟩
def Yj(A:Option aU)(n c:Nat):Cn:=⟨A,n,c,0,0,bG 6 0,0,0,bG 6 0,ng,ng,0,0,0⟩
@[go_sem]theorem azX(W:au)(A:Option aU)(n c:Nat):(uW 29 #[(0,.slice A n c)]).run aj W=.ok (.agg (Yj A n c).aA) W:=
 Qo.bd W _ _ _ _ mY (awP W _ mY) (by
  unfold Rw Cn.aA;rw[oN 0 0 _ _ _ _ rfl rfl (by simp)];simp[fB,Yj])
theorem iO.aC3{α:Type}{f:α->Array aC}{s:Nat}(hs:∀x,(f x).size=s){w:au}{B n:Nat}{A:Option aU}{l:List α}(h:iO f s w B A n l){i:Nat}(hi:i<=n):iO f s w B A i (l.take i):=by
 obtain⟨h1,h2,h3⟩:=h;refine⟨by simp;omega,⟨?_,fun hp=>?_⟩,fun a ha h0=>h3 a ha (by omega)⟩
 ·rw[amT f s hs,bK,h1,Nat.min_eq_left hi]
 ·obtain⟨a,ha,hb,hc⟩:=h2.2 (by omega)
  refine⟨a,ha,hb,fun j v hv=>hc j v ?_⟩;rw[<-List.take_append_drop i l,List.flatMap_append];rw[List.getElem?_append_left (by
   rcases bf j ((l.take i).flatMap fun x=>(f x).toList).length with h|h
   ·exact h
   ·rw[aT h]at hv;cases hv)]
  exact hv
theorem al4{x:Vp}{W:au}{b:Nat}(h:dL W b x.aA):(rR (.pointer (some ⟨b,0,none⟩))).run aj W=.ok (.agg x.jk.aA) W:=by
 have hs:eu x.aA=20:=Vp.ak x;rw[NT W b 0 (of_eq_true (h.aI.2.2.1 0 17 (by omega))),h.aI.2.2.2 0 17 (by omega),Vp.DU]
theorem aa4(l:List Vp)(n:Nat)(hl:l.length=n):(zF l=true↔n<=64/\∀i,i<n->Es l i=true):=by
 unfold zF;subst hl;simp
theorem apF(l:List Vp)(A:Option aU)(n c:Nat)(w:au)(hR:RdV w w.heap.size A n l)(tX:n<=c)(hn:n<=100000):
 aR aj 108 #[.slice A n c] w (gP w (.bool (zF l))):=by
 have HR:=Lib.hid hR;have HN:=Lib.hid hR.1;have HS:=Lib.hid (aa4 l n hR.1);clear hR;go_enter Tryz.func108,Tryz.ntmps108;by_cases h64:64<n
 ·have q:decide ((64:Int)<n)=true:=by simp;omega
  have HF:=Lib.hid (show zF l=false by cases h:zF l;rfl;have:=(HS.out.1 h).1;omega);go_wp2;go_ret;exact⟨by rw[HF.out];rfl,Below.refl _ _⟩
 have q:decide ((64:Int)<n)=false:=by simp;omega
 go_wp2;go_loopw [12] (fun s12 wr=>∃i:Nat,i<=n/\s12=.int .i64 i/\(∀k,k<i->Es l k=true)/\aN w.heap.size w wr) (fun s12 _=>n-(intOf s12).toNat)
 case atStart=>exact⟨0,by omega,rfl,fun k hk=>by omega,Below.refl _ _⟩
 case round=>
  obtain⟨i,wW,rfl,Di,hb⟩:=hrel;have Gu:=Lib.hid Di;have HB:=Lib.hid hb;clear Di hb;by_cases fP:i<n
  ·have hi:(i:Int)<n:=by omega
   have hic:(i:Int)<=c:=by omega
   obtain⟨b,o,hA,Cb,hh,uh⟩:=iO.fE Vp.ak oD ((HR.out.below HB.out).lF HB.out.size) fP;subst hA;obtain⟨x,hx⟩:∃x,x=l.getD i oD:=⟨_,rfl⟩
   rw[<-hx]at uh;have HX:=Lib.hid (show Es l i=(aeL x && !(Zl (l.take i) x.jk x.aQ x.nL).2)by unfold Es;rw[<-hx,atu]);clear hx;have Z1:=Lib.hid ((Bx.start wr).new x.aA 98);have HPC:=Lib.hid (HR.out.go HB.out);go_upto_region 6 with fail
   clear hh uh;generalize wr.alloc (.cells x.aA 98)=w2 at Z1 ⊢;obtain⟨y1,y2,y3,y4⟩:=Z1.out.b0.aI;have CS:=Lib.hid (Ml x.jk w2);have ZG:=Lib.hid (fun w' (hb:aN w2.heap.size w2 w')=>Z1.out.go hb);have HV:=Lib.hid (show aeL x=(qN x.jk&&(x.aQ==6||x.aQ==17)&&J6 x.nL 1 65535)from rfl);cases hv:aeL x
   ·
    have Lf:=Lib.hid (show zF l=false by
     cases h:zF l;rfl;have:=(HS.out.1 h).2 i fP;rw[HX.out,hv]at this;simp at this)
    rw[hv]at HV;have HZ:=Lib.hid HV.out.symm;clear hv HV HX;cases h1:qN x.jk
    ·rw[h1]at CS
     go_upto_if 36 with(first|(go_at_call 110;(with_reducible refine CS.out.mono ?_);rintro e w3 ⟨rfl,hb⟩;have Z3:=Lib.hid (ZG.out _ hb);clear y1 y2 y3 y4;obtain⟨y1,y2,y3,y4⟩:=Z3.out.b0.aI;clear hb)|(go_at_call 109;(with_reducible refine(yR _ _ _ _).mono ?_);rintro e w4 ⟨rfl,rfl⟩))
     go_wp2;go_ret;exact⟨by rw[Lf.out];rfl,ji HB.out Z3.out.dF⟩
    ·rw[h1]at CS HZ
     have UO:=Lib.hid (show((x.aQ==6||x.aQ==17)&&J6 x.nL 1 65535)=false by have:=HZ.out;simpa using this);cases h2:(x.aQ==6)<;>cases h3:(x.aQ==17)<;>cases h4:J6 x.nL 1 65535
     all_goals
      rw[h2,h3,h4]at UO
      first
       | (exact absurd UO.out (by decide))
       | (have h2':(x.aQ != 6) = !(x.aQ==6):=rfl
          have h3':(x.aQ != 17) = !(x.aQ==17):=rfl;rw[h2]at h2';rw[h3]at h3';have CW:=Lib.hid (fun W=>yR x.nL 1 65535 W);rw[h4]at CW;go_wp2_with (first|(go_at_call 110;(with_reducible refine CS.out.mono ?_);rintro e w3 ⟨rfl,hb⟩;have Z3:=Lib.hid (ZG.out _ hb);clear y1 y2 y3 y4;obtain⟨y1,y2,y3,y4⟩:=Z3.out.b0.aI;clear hb)|(go_at_call 109;(with_reducible refine(CW.out _).mono ?_);rintro e w4 ⟨rfl,rfl⟩));go_ret;exact⟨by rw[Lf.out];rfl,ji HB.out Z3.out.dF⟩)
   ·rw[hv]at HV HX
    have HZ:=Lib.hid HV.out.symm;have HXX:=Lib.hid HX.out;clear hv HV HX;have h1:qN x.jk=true:=by have:=HZ.out;simp at this;exact this.1.1
    have h4:J6 x.nL 1 65535=true:=by have:=HZ.out;simp at this;exact this.2
    have h23:(x.aQ==6||x.aQ==17)=true:=by have:=HZ.out;simp at this;simpa using this.1.2
    have CW:=Lib.hid (fun W=>yR x.nL 1 65535 W);rw[h4]at CW;rw[h1]at CS;clear h1 h4;cases h2:(x.aQ==6)<;>cases h3:(x.aQ==17)
    all_goals
     rw[h2,h3]at h23
     first
      | (exact absurd h23 (by decide))
      | skip
    all_goals
     clear h23;have h2':(x.aQ != 6) = !(x.aQ==6):=rfl;have h3':(x.aQ != 17) = !(x.aQ==17):=rfl;rw[h2]at h2';rw[h3]at h3';go_upto_region 8 with(first|(go_at_call 110;(with_reducible refine CS.out.mono ?_);rintro e w3 ⟨rfl,hb⟩;have Z3:=Lib.hid (ZG.out _ hb);clear y1 y2 y3 y4;obtain⟨y1,y2,y3,y4⟩:=Z3.out.b0.aI;clear hb)|(go_at_call 109;(with_reducible refine(CW.out _).mono ?_);rintro e w4 ⟨rfl,rfl⟩))
     clear h2 h3 h2' h3' y1 y2 y3 y4;have F4:=Lib.hid (fun(w':au) (h:Bx [(wr.heap.size,x.aA)] wr w')=>show w'.cell? ⟨wr.heap.size,17,none⟩=some (.int .i64 x.aQ)/\w'.cell? ⟨wr.heap.size,18,none⟩=some (.int .i64 x.nL)/\(rR (.pointer (some ⟨wr.heap.size,0,none⟩))).run aj w'=.ok (.agg x.jk.aA) w' from⟨(h.b0.aI.1 17).trans (Vp.Cv _),(h.b0.aI.1 18).trans (Vp.KV _),al4 h.b0⟩);have CV:=Lib.hid (fun(w':au) (h:Bx [(wr.heap.size,x.aA)] wr w')=>TQ (Yj (some ⟨b,o,none⟩) i c) (l.take i) x.jk x.aQ x.nL w' ((HPC.out.go h.dF).aC3 Vp.ak (by show i<=n;omega)) (by show i<=100000;omega));obtain⟨r,hr⟩:∃r,r=Zl (l.take i) x.jk x.aQ x.nL:=⟨_,rfl⟩
     rw[<-hr]at CV HXX;clear hr;refine xL (Bx.acD ([(wr.heap.size,x.aA)]) wr) 14 15 13 5 50 98 oD.aA (by kernel_rfl) rfl rfl rfl rfl rfl (by kernel_rfl) (by kernel_rfl) (by kernel_rfl) (by kernel_rfl) (by kernel_rfl) rfl rfl rfl (fun a w=>by simp[go_sem]) (tZ rfl) Z3.out.drew ?_;apply Exists.intro;refine⟨fun T f hT es ew=>?_,?_⟩
     ·have EW:=Lib.hid ew
      have ES:=Lib.hid es;have k1:=fun m=>(F4.out _ (ES.out m)).1
      have k2:=fun m=>(F4.out _ (ES.out m)).2.1
      have k3:=fun m=>(F4.out _ (ES.out m)).2.2
      have CF:=Lib.hid (fun m=>CV.out _ (ES.out m));clear es ew;simp only[mM,yO,kW,List.set_cons_succ,List.set_cons_zero,List.take_succ_cons,List.take_zero]
      repeat(go_big_quiet_step ((first|(go_at_call 135;(with_reducible refine(CF.out _).mono ?_);rintro e w2 ⟨rfl,hb⟩;exact⟨rfl,EW.out _ _ hb⟩))))
      exact wpQuiet_nil rfl
     ·intro w9 w8 Am _ hb
      have ZN:=Lib.hid ((Am.new oD.aA 98).go hb);have hyy:=Lib.hid Am;have hy:=Am.dF.size;have Xr:=Lib.hid (fun p (hp:p∈[(wr.heap.size,x.aA)])=>((Am.2 p hp).2.lt:p.1<w9.heap.size));generalize w9.heap.size=y at *;clear hb Am;have zq:=ZN.out.b0.there 0 20 (aY (Vp.ak oD).symm);refine⟨gT w8 y 0 r.1.aA,?_,?_⟩
      ·simp[go_sem,zq]
      simp only[Act.put,List.setIfInBounds_toArray,List.set_cons_succ,List.set_cons_zero,List.drop_succ_cons,lg];have Z5:=Lib.hid (ZN.out.put (fun p hp=>Nat.ne_of_lt (Xr.out p hp)) r.1.aA (by rw[Vp.ak,Vp.ak]));clear zq ZN hyy Xr;generalize gT w8 y 0 r.1.aA=w9 at Z5 ⊢;go_step;go_step;go_step;cases hq:r.2
      ·rw[hq]at HXX
       have HYY:=Lib.hid (show Es l i=true by rw[HXX.out];rfl);go_wp2;go_roundw
       case rel=>exact⟨i+1,by omega,by go_num,fun k hk=>by
   by_cases KO:k=i
   ·rw[KO];exact HYY.out
   ·exact Gu.out k (by omega),ji HB.out Z5.out.dF⟩
       case measure=>simp[intOf]<;>omega
      ·rw[hq]at HXX
       have Lf:=Lib.hid (show zF l=false by
   cases h:zF l;rfl;have:=(HS.out.1 h).2 i fP;rw[HXX.out]at this;simp at this)
       go_wp2;go_ret;exact⟨by rw[Lf.out];rfl,ji HB.out Z5.out.dF⟩
  ·obtain rfl:i=n:=by omega
   have hd:decide ((i:Int)<i)=false:=by simp
   have HF:=Lib.hid (HS.out.2 ⟨by omega,Gu.out⟩);go_wp2;go_ret;exact⟨by rw[HF.out];rfl,HB.out⟩
end
def C9(v:Vector Int 6)(k:Nat):Bool:=J6 (v.toList.getD k 0) 0 1000000 && !(k==0&&v.toList.getD k 0 != 0)
theorem Yk(v:Vector Int 6):Cw v=true↔∀k,k<6->C9 v k=true:=by
 unfold Cw C9 J6;simp only[bl,List.all_eq_true,eH,beq_iff_eq,decide_eq_true_eq,Bool.not_eq_true',Bool.and_eq_false_imp,bne_eq_false_iff_eq];constructor
 ·intro h k hk
  exact⟨h.2 k hk,fun e=>by rw[e];exact h.1⟩
 ·intro h
  exact⟨(h 0 (by omega)).2 rfl,fun k hk=>(h k hk).1⟩
def Yl(v:aC):Sem aC:=bZ 24 v
@[go_sem ↓]theorem azZ(v:aC):bZ 24 v=Yl v:=rfl
@[go_sem]theorem atv(W:au)(b o:Nat)(h:xS W b o 6):(Yl (.pointer (some ⟨b,o,none⟩))).run aj W=.ok (.agg (dY W b o 6)) W:=
 ko W b o 6 _ _ Tryz.underlying24 rfl (by kernel_rfl) h
def ayj(v i:aC):Sem aC:=Instr.index 24 v i
@[go_sem ↓]theorem aFn(v i:aC):Instr.index 24 v i=ayj v i:=rfl
theorem Ym(v:Vector Int 6)(i:Nat)(hi:i<6)(W:au):(ayj (.agg (Lp v)) (.int .i64 (i:Nat))).run aj W=.ok (.int .i64 (v.toList.getD i 0)) W:=by
 have hp:=pJ (P:=aj) (e:=3) (by simp only[gQ]) (abI v i hi) W;obtain⟨i0,oz,hs⟩:∃i0,aj.info? 3=some i0/\i0.size=1:=by
  cases h:aj.info? 3 with
  | none=>exact absurd h (by have:(aj.info? 3).isSome=true:=by kernel_rfl
                             intro e;rw[e]at this;cases this)
  | some i0=>
    have h1:(aj.info? 3).map (·.size)=some 1:=by kernel_rfl
    rw[h]at h1;exact⟨i0,rfl,by simpa using h1⟩
 have h1:(0:Int)<=(i:Int)/\(i:Int)<((6:Nat):Int):=by omega
 have jB:=run_sizeOf (P:=aj) W oz;have Fg:aj.cellsOf 3=1:=by simp[AV,oz,hs]
 rw[Fg]at jB;simp only[ayj,Instr.index,asIntOf,jK,ou,gK,dJ Tryz.underlying24,h1,and_self,if_true,jB,Int.toNat_natCast,gF,hp]
theorem apG{n:Int}{i:Nat}(h:n<0\/1000000<n\/(i=0/\n≠0)):(J6 n 0 1000000 && !(i==0&&n != 0))=false:=by
 rcases h with h|h|⟨rfl,h⟩
 ·have:J6 n 0 1000000=false:=by unfold J6;rw[decide_eq_false (by omega)];rfl
  rw[this];rfl
 ·have:J6 n 0 1000000=false:=by unfold J6;rw[decide_eq_false (p:=n<=1000000) (by omega)];simp
  rw[this];rfl
 ·simp[h]
theorem ajJ(x:Cn)(l:List Vp):yM x l=(Cw x.kC&&zF l&&(J6 x.size 2 65537&&lI x.size.toNat)&&J6 x.dR 1 4096&&J6 x.rise 1 100&&J6 x.fall 1 100&&(!x.Dt.j6&&qN x.Dt)&&x.j6.j6&&J6 x.ahq 1000 1048576&&J6 x.keep 1 100&&J6 x.Xe 1 1000):=by
 unfold yM J6;rfl
@[go_sem]theorem Cn.aM6(x:Cn):x.aA[17]? = some (.bool x.Dt.j6):=by simp[Cn.aA,aG,fu.ak,gG,jJ];rfl
@[go_sem]theorem Cn.aM7(x:Cn):x.aA[34]? = some (.bool x.j6.j6):=by simp[Cn.aA,aG,fu.ak,gG,jJ];rfl
theorem Zm(x:Cn)(l:List Vp)(w:au)(hR:RdV w w.heap.size x.qO x.iH l)(tX:x.iH<=x.qP)(hn:x.iH<=100000):
 aR aj 44 #[.agg x.aA] w (gP w (.bool (yM x l))):=by
 have Z:=Lib.hid ((Bx.start w).new x.aA 29);have HR:=Lib.hid (Z.out.rdR hR);have HO:=Lib.hid (ajJ x l);have HI:=Lib.hid (Yk x.kC);have RI:=Lib.hid (Ym x.kC);clear hR;go_enter Tryz.func44,Tryz.ntmps44;go_upto_region 1 with fail
 generalize w.alloc (.cells x.aA 29)=w2 at *;obtain⟨y1,y2,y3,y4⟩:=Z.out.b0.aI;go_wp2;go_loop [7] (fun s7=>∃i:Nat,i<=6/\s7=.int .i64 i/\(∀k,k<i->C9 x.kC k=true)) (fun s7=>6-(intOf s7).toNat)
 case atStart=>exact⟨0,by omega,rfl,fun k hk=>by omega⟩
 case round=>
  obtain⟨i,hi,rfl,Di⟩:=hrel;have Gu:=Lib.hid Di;clear Di;by_cases fP:i<6
  ·have Qw:(i:Int)<6:=by omega
   have ri:=RI.out i fP;obtain⟨n,Ue⟩:∃n,n=x.kC.toList.getD i 0:=⟨_,rfl⟩
   have HA:=Lib.hid (show C9 x.kC i=(J6 n 0 1000000 && !(i==0&&n != 0))by unfold C9;rw[<-Ue]);rw[<-Ue]at ri;clear Ue;have NOI:=Lib.hid (show C9 x.kC i=false->yM x l=false from fun h=>by
    have h2:Cw x.kC=false:=by
     cases hh:Cw x.kC;rfl;have:=HI.out.1 hh i fP;rw[h]at this;cases this
    rw[HO.out,h2];rfl)
   clear y1 y2 y3 y4 HI RI HO HR;go_wp2
   all_goals
    first
    | (go_ret
       refine⟨?_,Z.out.dF⟩;rw[NOI.out (HA.out.trans (apG ?_))]
       ·rfl
       ·by_cases g1:n<0
        ·exact .inl g1
        ·by_cases g2:1000000<n
         ·exact .inr (.inl g2)
         ·refine .inr (.inr ⟨by omega,?_⟩)
          intro e;simp_all)
    | (go_round
       case rel=>exact⟨i+1,by omega,by go_num,fun k hk=>by
        by_cases KO:k=i
        ·rw[KO,HA.out];simp[J6];simp_all
        ·exact Gu.out k (by omega)⟩
       case measure=>simp[intOf]<;>omega)
  ·obtain rfl:i=6:=by omega
   have HID:=Lib.hid (show Cw x.kC=true from HI.out.2 Gu.out);rw[HID.out,Bool.true_and]at HO;have VP:=Lib.hid (apF l x.qO x.iH x.qP w2 HR.out tX hn);have ZG:=Lib.hid (fun w' (hb:aN w2.heap.size w2 w')=>Z.out.go hb);have CW:=Lib.hid yR;have CS:=Lib.hid (fun W=>Ml x.Dt W);obtain⟨vl,hvl⟩:∃b,zF l=b:=⟨_,rfl⟩
   obtain⟨sf,hsf⟩:∃b,qN x.Dt=b:=⟨_,rfl⟩
   rw[hvl]at VP HO;rw[hsf]at CS HO;clear hvl hsf hi fP HI RI Gu HID HR;cases jB:J6 x.size 2 65537
   ·rw[jB,Bool.false_and,Bool.and_false]at HO
    simp only[Bool.false_and]at HO;go_wp2_with (first|(go_at_call 108;(with_reducible refine VP.out.mono ?_);rintro e w3 ⟨rfl,hb⟩;have Z3:=Lib.hid (ZG.out _ hb);clear y1 y2 y3 y4;obtain⟨y1,y2,y3,y4⟩:=Z3.out.b0.aI;clear hb)|(go_at_call 109;(with_reducible refine(CW.out _ _ _ _).mono ?_);rintro e w4 ⟨rfl,rfl⟩))
    all_goals
     go_ret;exact⟨by rw[HO.out];rfl,Z3.out.dF⟩
   ·have PR:=Lib.hid (show∀W,aR aj 81 #[.int .i64 x.size] W fun e W'=>e=.returned (.bool (lI x.size.toNat))/\W=W' from fun W=>by
     have h1:2<=x.size/\x.size<=65537:=by unfold J6 at jB;simpa using jB
     have:=ZV (W:=W) x.size.toNat (by omega)
     rwa [Int.toNat_of_nonneg (by omega)]at this)
    obtain⟨pn,YC⟩:∃b,lI x.size.toNat=b:=⟨_,rfl⟩
    rw[jB,Bool.true_and]at HO;simp only[YC]at HO PR;clear YC;go_wp2_with (first|(go_at_call 108;(with_reducible refine VP.out.mono ?_);rintro e w3 ⟨rfl,hb⟩;have Z3:=Lib.hid (ZG.out _ hb);clear y1 y2 y3 y4;obtain⟨y1,y2,y3,y4⟩:=Z3.out.b0.aI;clear hb)|(go_at_call 109;(with_reducible refine(CW.out _ _ _ _).mono ?_);rintro e w4 ⟨rfl,rfl⟩)|(go_at_call 81;(with_reducible refine(PR.out _).mono ?_);rintro e w5 ⟨rfl,rfl⟩)|(go_at_call 110;(with_reducible refine(CS.out _).mono ?_);rintro e w6 ⟨rfl,hb⟩;have Z4:=Lib.hid (Z3.out.go hb);clear y1 y2 y3 y4;obtain⟨y1,y2,y3,y4⟩:=Z4.out.b0.aI;clear hb))
    all_goals
     go_ret;refine⟨?_,by first|exact Z4.out.dF|exact Z3.out.dF⟩;rw[HO.out];clear HO VP PR CW CS ZG y1 y2 y3 y4;simp_all
section
open Go.RowKit Go.Shelf
attribute [local go_sem] Oper.semAt_some
variable {W W':au} {q g:Nat} {key:Vector UInt8 16} {dR:Int} {s:List (Option Fw)} {l:List Fw}
def Ez(now:Int)(kC:Vector Int 6)(l:List Fw):List Fw:=l.filter fun x=>Ep x.xU x.seen now kC
def H9(l:List Fw)(o:List Fw):List Fw:=o.foldl (fun l x=>zo l x.key) l
theorem aa5:∀(o l:List Fw),H9 l o=l.filter fun x=>!(o.any fun y=>uo y.key x)
 | [],l=>by show l=_;exact(xu.2 (fun _ _=>rfl)).symm
 | y::o,l=>by
   have h:H9 l (y::o)=H9 (zo l y.key) o:=rfl;rw[h,aa5 o,zo,List.filter_filter];apply Ga;intro x _;simp[List.any_cons,Bool.and_comm]
theorem ac8{now:Int}{kC:Vector Int 6}{l o:List Fw}(hl:wS dR l)(ho:o.Perm (Ez now kC l)):H9 l o=MW now kC l:=by
 rw[aa5];unfold MW;apply Ga;intro x hx;congr 1;have hm:∀y,y∈o↔y∈l/\Ep y.xU y.seen now kC=true:=fun y=>by rw[ho.mem_iff];unfold Ez;exact List.mem_filter
 cases hc:Ep x.xU x.seen now kC with
 | true=>rw[tQ];exact⟨x,(hm x).2 ⟨hx,hc⟩,by simp[uo]⟩
 | false=>
   rw[qy];intro y hy hk;obtain⟨h1,h2⟩:=(hm y).1 hy;have hk:x.key=y.key:=by simpa[uo]using hk
   have e1:=hl.Xa h1;have e2:=hl.Xa hx;rw[hk]at e2;rw[e1]at e2;injection e2 with e2
   rw[e2,hc]at h2;cases h2
theorem Bz{F:List Nat}{base n size:Nat}{e:bM}{v:aC}{xs:List aC}(h:W.ownsRow base e size v n xs)(hf:jE F W W')(hn:∀k,v.ownBlock=some k->k∉F):W'.ownsRow base e size v n xs:=by
 refine⟨h.1,?_⟩;rcases h.2 with h0|⟨g,cap,cur,hv,hb,hg,hr⟩
 ·exact .inl h0
 ·exact .inr ⟨g,cap,cur,hv,hb,by rw[hf.block g (bW.1 hg).1 (hn g (by rw[hv];rfl))];exact hg,hr⟩
theorem apH{W:au}{b:Nat}{v:Vector Int 6}(h:dL W b (Lp v)):(Yl (.pointer (some ⟨b,0,none⟩))).run aj W=.ok (.agg (Lp v)) W:=by
 have hs:eu (Lp v)=6:=jJ v;rw[atv W b 0 (of_eq_true (h.aI.2.2.1 0 6 (by omega))),h.aI.2.2.2 0 6 (by omega)];have:(Lp v).extract 0 6=Lp v:=by have:=jJ v;rw[<-this];simp
 rw[bB,this]
def stV(now:Int)(kC:Vector Int 6)(pre:List OkF):List Fw:=Ez now kC (pre.map (·.1))
theorem afq(T:LH W q g key dR s l)(now:Int)(kC:Vector Int 6):
 aR aj 75 #[.pointer (some ⟨q,0,none⟩),.int .i64 now,.agg (Lp kC)] W fun e w'=>(∃A c,e=.returned (.slice A (Ez now kC l).length c))/\(∃s',LH w' q g key dR s' (MW now kC l)/\s'.length=s.length)/\jE [q,g] W w':=by
 refine(callsIn_wide (n:=8)).1 ?_;have hs:=T.w.sz;have fP:=T.w.lt;obtain⟨i0,hi,mZ,nu,Ar⟩:=ahe;have HT:=Lib.hid T;clear T;refine callsIn_of_wp_marks Tryz.func75 rfl trivial ?_ rfl;have hfn:∀f,Fence.wide.fn f:=fun _=>trivial
 simp only[Tryz.ntmps75,List.size_toArray,bC,List.length_nil,Nat.reduceAdd,Nat.reduceSub,Array.replicate_succ,Array.replicate_zero,List.push_toArray,List.append_toArray,List.nil_append,List.cons_append];gi_wp2_with (gi_at_call 132;refine(callsIn_wide.2 (Sj q _)).mono ?_;rintro e w' ⟨rfl,rfl⟩);have Io:(W.alloc (.cells #[.int .i64 now] 3)).heap.size=W.heap.size+1:=by simp
 have Gf:((W.alloc (.cells #[.int .i64 now] 3)).alloc (.cells (Lp kC) 24)).heap.size=W.heap.size+1+1:=by simp
 have Me:(((W.alloc (.cells #[.int .i64 now] 3)).alloc (.cells (Lp kC) 24)).alloc (.cells #[.slice none 0 0] 34)).heap.size=W.heap.size+1+1+1:=by simp
 have Z4:=Lib.hid (((((Bx.start W).new #[.int .i64 now] 3).new (Lp kC) 24).new #[.slice none 0 0] 34).new #[.pointer (some ⟨q,0,none⟩)] 121);have bO:=(Boxed.new ((W.alloc (.cells #[.int .i64 now] 3)).alloc (.cells (Lp kC) 24)) 34 (.slice none 0 0)).alloc (.cells #[.pointer (some ⟨q,0,none⟩)] 121);rw[Me,Gf,Io]at Z4;rw[Gf]at bO;have hs4:((((W.alloc (.cells #[.int .i64 now] 3)).alloc (.cells (Lp kC) 24)).alloc (.cells #[.slice none 0 0] 34)).alloc (.cells #[.pointer (some ⟨q,0,none⟩)] 121)).heap.size=W.heap.size+1+1+1+1:=by simp
 generalize(((W.alloc (.cells #[.int .i64 now] 3)).alloc (.cells (Lp kC) 24)).alloc (.cells #[.slice none 0 0] 34)).alloc (.cells #[.pointer (some ⟨q,0,none⟩)] 121)=W4 at Z4 hs4 bO ⊢;clear Io Gf Me;refine wpIn_rangeFunc_ownH rfl (by omega) (gf:=202) (lb:=#[.pointer (some ⟨W.heap.size+1+1+1,0,none⟩)]) rfl trivial (fun args w=>rfl)
  (Mk Fence.wide 7 trivial rfl (by omega) (W.heap.size+1+1+1) W.heap.size W4 (by omega) (by omega) (Z4.out.b0.aI.1 0) (HT.out.go Z4.out.dF) fP) (fun h k=>Below.trans h k) (belowK_b (by omega)) (Below.refl _ _) (fun _=>rfl)
  (fun(pre:List OkF) X=>((∃v,Boxed X (W.heap.size+1+1) 34 v/\X.ownsRow (W.heap.size+1+1) 86 41 v (stV now kC pre).length ((stV now kC pre).flatMap fun x=>x.aA.toList)/\True)/\dL X W.heap.size #[.int .i64 now]/\dL X (W.heap.size+1) (Lp kC))/\aN W.heap.size W X)
  (fun _ _ _=>False)
  (OwnFrom.and (OwnFrom.and (Own.from (holdsRow_own (W.heap.size+1+1) (W.heap.size+1+1) 34 86 41 (fun pre:List OkF=>(stV now kC pre).length) (fun pre:List OkF=>(stV now kC pre).flatMap fun x=>x.aA.toList) (fun _ _=>True)) _) (fun s X Y row hs hg hr=>⟨zU _ _ () X Y row hs.1 hg (fun r e=>(hr r e).2),zU _ _ () X Y row hs.2 hg (fun r e=>(hr r e).2)⟩)) (ownFrom_below (ay _) (by omega)))
  (fun _ _ _ _ _ hs _ _=>hs)
  ⟨⟨⟨_,bO,World.ownsRow_nil _ _ _ _,trivial⟩,Z4.out.b3,Z4.out.b2⟩,Z4.out.dF⟩
  (fun x a' X=>∃Bq,W.heap.size+1+1<Bq/\dL X Bq x.1.aA/\a'={tmps:=#[.pointer (some ⟨q,0,none⟩),.int .i64 now,.agg (Lp kC),undef,.pointer (some ⟨W.heap.size,0,none⟩),.pointer (some ⟨W.heap.size+1,0,none⟩),.slice none 0 0,.pointer (some ⟨W.heap.size+1+1,0,none⟩),.pointer (some ⟨Bq,0,none⟩),undef,undef,.pointer (some ⟨q,0,none⟩),.func (.func 202) #[] #[.pointer (some ⟨W.heap.size+1+1+1,0,none⟩)],.agg x.1.aA,undef,undef,undef,undef,undef,undef,undef,undef,undef,undef,undef,undef,undef,undef,undef,undef,undef,undef,undef,undef,undef,undef,undef,undef,undef],defers:=[]})
  (fun x a' _ X Y row hs hg hr=>by obtain⟨Bq,h1,h2,h3⟩:=hs;exact⟨Bq,h1,zU Bq x.1.aA () X Y row h2 hg (fun r e=>(hr r e).2),h3⟩)
  ?assign ?body ?done ?stop
 case assign=>
  rintro q' pre x X K ⟨⟨⟨v,hv,nH,_⟩,h1,h2⟩,hB⟩ hK;gi_wp2;refine hK _ _ ((KeepsOthers.alloc _ _).from _) ((Below.refl _ X).alloc hB.size _) ⟨⟨⟨v,hv.alloc _,nH.alloc _,trivial⟩,h1.alloc _,h2.alloc _⟩,hB.alloc hB.size _⟩ ⟨X.heap.size,hv.lt,dL.new X _ _,rfl⟩
 case body=>
  rintro q' pre x a' X hq ⟨r,hr⟩ ⟨⟨⟨v,hv,nH,_⟩,h1,h2⟩,hB⟩ ⟨Bq,hBq,bX,rfl⟩ aI8;have ND:=Lib.hid (show(stV now kC pre).length<=100000 by
   have e1:(stV now kC pre).length<=pre.length:=by unfold stV Ez;exact aP (oQ _ _) (by simp)
   omega)
  have Ej:=Lib.hid (show stV now kC (pre++[x])=if Ep x.1.xU x.1.seen now kC then stV now kC pre++[x.1]else stV now kC pre by
   unfold stV Ez;rw[List.map_append,List.filter_append];simp only[List.map_cons,List.map_nil,List.filter_cons,List.filter_nil];split<;>simp)
  obtain⟨st,yZ⟩:∃st,st=Ep x.1.xU x.1.seen now kC:=⟨_,rfl⟩
  have CS:=Lib.hid (akx (s:=x.1.xU) (seen:=x.1.seen) (now:=now) (v:=kC) (W:=X));rw[<-yZ]at CS Ej;have f38:=(bX.aI.1 38).trans (Fw.ahc x.1);have f39:=(bX.aI.1 39).trans (Fw.ahd x.1);have f0:=h1.aI.1 0;have l6:=apH h2;have HB:=Lib.hid hB;have H1:=Lib.hid h1;have H2:=Lib.hid h2;have HX:=Lib.hid bX;have HV:=Lib.hid hv;have HR:=Lib.hid nH;clear yZ hB h1 h2 bX hv nH;cases st
  ·gi_wp2_with (gi_at_call 150;refine(CallsIn.inRound q' (callsIn_wide.2 CS.out)).mono ?_;rintro e w1 ⟨rfl,hb⟩;have IJ:=Lib.hid hb;clear hb)
   refine⟨FP (jE.jq (F:=[]) IJ.out) (by intro k hk;cases hk),(IJ.out.mono HB.out.size),⟨⟨v,Boxed.aof HV.out IJ.out HV.out.lt,?_,trivial⟩,H1.out.go IJ.out,H2.out.go IJ.out⟩,HB.out.trans (IJ.out.mono HB.out.size)⟩;rw[show stV now kC (pre++[x])=stV now kC pre from Ej.out];exact jv HR.out IJ.out
  ·have hby:((stV now kC pre).length+1)*i0.bytes<=140737488355328:=aP (Nat.mul_le_mul (show(stV now kC pre).length+1<=100002 by have:=ND.out;omega) Ar) (by omega)
   have HN1:=Lib.hid (show x.1.aA.toList.length=1*41 by simp[Fw.ak]);have HNC:=Lib.hid (fun(W:au) (j:Nat) (u:aC) (hu:x.1.aA.toList[j]? = some u)=>show(W.alloc (.cells x.1.aA 86)).cell? ((⟨W.heap.size,0,none⟩:aU).add j)=some u by
    rw[Addr.add_mid,bB,mU,<-Array.getElem?_toList];exact hu)
   have Gu:=Lib.hid (show∀u∈x.1.aA.toList,u.oneCell'=true from fun u hu=>by have:=Fw.cB x.1;rw[Array.all_eq_true']at this;exact this u (by simpa using hu));gi_wp2_with (first
    | (gi_at_call 150;refine(CallsIn.inRound q' (callsIn_wide.2 CS.out)).mono ?_;rintro e w1 ⟨rfl,hb⟩;have IJ:=Lib.hid hb;have HV1:=Lib.hid (Boxed.aof HV.out hb HV.out.lt);have IK:=Lib.hid (jv HR.out hb);have l1:=kK (HX.out.go hb);have c1:=HV1.out.cell;clear hb l6 f0 f38 f39)
    | (gi_at_builtin;go_loud (refine wpListIn_append_own _ rfl _ _ 34 rfl (W.heap.size+1+1) 86 i0 (.agg kQ.aA) 41 i0.bytes Tryz.underlying34 hi mZ nu rfl (by simp[cu,Fw.ak]) (by decide) _ _ _ rfl (IK.out.alloc _) ⟨w1.heap.size,0,none⟩ 1 1 x.1.aA.toList rfl HN1.out (HNC.out w1) Gu.out (by have:=ND.out;unfold maxLen;omega) hby (by have:=HV1.out.lt;simp;omega) ?_;intro v' w2 Ip WO _;obtain⟨g',Ls,rfl⟩:=ownsRow_succ Ip;obtain⟨hv1,hv2,Mx,YU,kF⟩:=HV1.out.appended (by decide) IK.out (by have:=HV1.out.lt;omega) (ay _) Ip WO;have Fg:=hv1.cell;have Wt:=hv1.frozen)))
   refine⟨(FP (jE.jq (F:=[]) IJ.out) (by intro k hk;cases hk)).trans (YU.from _),(IJ.out.mono HB.out.size).trans (kF.mono (by omega)),⟨⟨_,hv2,?_,trivial⟩,(H1.out.go IJ.out).below kF (by omega),(H2.out.go IJ.out).below kF (by omega)⟩,(HB.out.trans (IJ.out.mono HB.out.size)).trans (kF.mono (by omega))⟩;rw[show stV now kC (pre++[x])=stV now kC pre++[x.1]from Ej.out,aS,List.flatMap_append];simpa using Mx
 case done=>
  rintro D ys X hD hS ⟨⟨⟨v,hv,nH,_⟩,h1,h2⟩,hB⟩ hK;rename_i K0 KA TT;refine KA _ _ (wpIn_wide.2 ?_);have hO:(stV now kC ys).Perm (Ez now kC l):=by
   unfold stV;rw[hS];exact HT.out.r.QJ.filter _
  obtain⟨o,ho⟩:∃o,o=stV now kC ys:=⟨_,rfl⟩
  rw[<-ho]at hO nH;obtain⟨A,c,rfl,_⟩:=jT nH;have hB2:=hB;have T0:=Lib.hid (HT.out.go hB);have cV:=hv.cell;have HO:=Lib.hid hO;have HB:=Lib.hid hB;have HD:=Lib.hid hD;have HK:=Lib.hid hK;have HV:=Lib.hid hv;have Uf:=Lib.hid nH;have HLO:=Lib.hid (show o.length<=100000 by
   have e1:=hO.length_eq;have e2:(Ez now kC l).length<=l.length:=oQ _ _;have e3:=HT.out.r.QJ.length_eq;have e4:=FM s;omega)
  obtain⟨m,hm⟩:∃m,m=o.length:=⟨_,rfl⟩
  rw[<-hm]at Uf HV cV HLO;have HM:=Lib.hid hm;clear hO ho hD hK hv nH hB hB2 h1 h2 hS hm KA K0 TT;have HOF:=Lib.hid (fun w2 (hf:jE [q,g] X w2)=>Bz Uf.out hf (fun b e=>by have:=(Uf.out.lt b e).1;simp;omega));have HVF:=Lib.hid (fun w2 (hf:jE [q,g] X w2)=>show Boxed w2 (W.heap.size+1+1) 34 (.slice A m c)from(hf.block _ HV.out.lt (by simp;omega)).trans HV.out);go_wp2_with fail;go_loopw [27] (fun v wr=>∃k:Nat,k<=m/\v=.int .i64 k/\(∃s',LH wr q g key dR s' (H9 l (o.take k))/\s'.length=s.length)/\jE [q,g] X wr) (fun v _=>m-(intOf v).toNat)
  case atStart=>exact⟨0,Nat.zero_le _,rfl,⟨s,T0.out,rfl⟩,jE.refl _ _⟩
  case round=>
   obtain⟨k,hk,rfl,⟨s',hT,hsl⟩,Au⟩:=hrel;by_cases ag':k<m
   ·have KO:(k:Int)<m:=by omega
    have i1:=jU ((k:Int)+1) (by have:=HLO.out;omega);have hR:=iO.iX (f:=Fw.aA) HM.out.symm (HOF.out wr Au);obtain⟨b,o0,rfl,Jp,a1,a2⟩:=hR.fE Fw.ak kQ ag';obtain⟨y,hy⟩:∃y,y=o.getD k kQ:=⟨_,rfl⟩
    rw[<-hy]at a2;have hcut:H9 l (o.take (k+1))=zo (H9 l (o.take k)) y.key:=by
     rw[List.take_succ_eq_append_getElem (by rw[<-HM.out];exact ag')];unfold H9;rw[List.foldl_append,hy,av,aD (by rw[<-HM.out];exact ag')];rfl
    have aJi:=Lib.hid hcut;have BY:=dL.new wr y.aA 86;have lk:=oW BY;have hba:=(Below.refl wr.heap.size wr).alloc (ay _) (.cells y.aA 86);have CD:=Lib.hid (Yi (hT.go hba) y.key);have HFR:=Lib.hid (Au.below hba Au.size);have ND:=Lib.hid hsl;clear hy hcut BY hba hT Au hsl hR Jp;go_wp2_with (go_at_call 128;(with_reducible refine CD.out.mono ?_);rintro e w2 ⟨rfl,⟨s2,T2,UR⟩,F2⟩;have T3:=Lib.hid T2;have S3:=Lib.hid UR;have F3:=Lib.hid F2;clear T2 UR F2 lk a1 a2);go_roundw
    case rel=>exact⟨k+1,by omega,by simp,⟨s2,by rw[aJi.out];exact T3.out,by rw[S3.out,ND.out]⟩,HFR.out.qh F3.out⟩
    case measure=>simp[intOf];omega
   ·obtain rfl:k=m:=by omega
    have hd:decide ((k:Int)<k)=false:=by simp
    have Pf:H9 l (o.take k)=MW now kC l:=by
     rw[List.take_of_length_le (by rw[<-HM.out];exact ay _)];exact ac8 HT.out.ok HO.out
    rw[Pf]at hT;have cV2:=(HVF.out wr Au).cell;have HBX:=Lib.hid (HVF.out wr Au);have HOW:=Lib.hid (HOF.out wr Au);have SF:=Lib.hid (Mj (Ez now kC l) o dR (HT.out.ok.sub List.filter_sublist) HO.out (by have:=HLO.out;have:=HM.out;omega) wr (W.heap.size+1+1) A c (by rw[<-HM.out];exact HOW.out));rw[<-HM.out]at SF;have HTT:=Lib.hid hT;have HSS:=Lib.hid hsl;have HFR:=Lib.hid Au;have HLS:=Lib.hid (show k=(Ez now kC l).length by rw[HM.out];exact HO.out.length_eq);clear hT hsl Au Pf cV;go_wp2_with (go_at_call 151;(with_reducible refine SF.out.mono ?_);rintro e w2 ⟨rfl,NG,hg2⟩;have HG2:=Lib.hid hg2;have cV3:=(HBX.out.kept hg2 (HBX.out.not_row (by decide) HOW.out)).cell;clear NG hg2 cV2);have HDB:some D≠(bE A k c).ownBlock:=fun e=>by
     rcases Uf.out.2 with⟨h0,_⟩|⟨g',cap,cur,hv,_,hg,_⟩
     ·rw[h0]at e;cases e
     ·rw[hv]at e
      have e2:D=g':=by simpa[jW]using e
      rw[<-e2,HK.out]at hg;cases hg
    have hDX:D<X.heap.size:=(bW.1 HK.out).1;have hXW:=HB.out.size;have hfs:=HFR.out.size;have hDq:D≠q/\D≠g:=by have:=HD.out;omega
    have HDK:=Lib.hid (show w2.heap[D]? = some (.deferred (some []))from(HG2.out.block D (by omega) HDB).trans ((HFR.out.block D hDX (by simp;omega)).trans HK.out));have hbx:∀b c',dL wr b c'->b<W.heap.size->dL w2 b c':=fun b c' h hb=>by
     obtain⟨t,ht⟩:=h;exact⟨t,(HG2.out.block b (by omega) (fun e=>by have:=(Uf.out.lt b e.symm).1;omega)).trans ht⟩
    have hPB:=belowK_b (w:=W) (ay _) w2 D;refine⟨by simp,.inl ⟨_,_,rfl,run_takeDeferred HDK.out,?_⟩⟩;refine⟨_,results_tmp rfl _ _ _,⟨A,c,by rw[<-HLS.out];rfl⟩,⟨s',⟨⟨Yg (hbx _ _ HTT.out.w.tb fP.1) HDK.out _,Yg (hbx _ _ HTT.out.w.sl fP.2) HDK.out _,HTT.out.w.ne,HTT.out.w.sz⟩,HTT.out.r,HTT.out.ok⟩,HSS.out⟩,?_⟩;have F1:jE [q,g] W wr:=(jE.jq HB.out).qh HFR.out;have F2:jE [q,g] W w2:=F1.grown HG2.out (fun b e=>.inr (by have:=(Uf.out.lt b e).1;omega));exact F2.below (hPB _ _ (by have:=HD.out;omega) HDK.out rfl rfl) (ay _)
 case stop=>
  rintro D c pre X _ _ h _;exact h.elim
end
theorem ac9{g n:Nat}{q:List Nat}{ch ch':Nat->Nat->Nat}{m:Mg}{i:Nat}(h:ch i=ch' i):sO g n q ch m i=sO g n q ch' m i:=by
 unfold sO;rw[h]
theorem afr{n:Nat}{q:List Nat}{ch ch':Nat->Nat->Nat}(hq:q≠[])(h:∀i,i<q.length->ch i=ch' i):Fp n q ch=Fp n q ch':=by
 have:∀j,wF (lQ q) n q ch j=wF (lQ q) n q ch' j:=by
  intro j
  induction j with
  | zero=>rfl
  | succ j ih=>
    unfold wF;rw[ih,ac9 (h _ (fD _ (List.length_pos_iff.2 hq)))]
 unfold Fp;rw[this]
def al5(key:Vector UInt8 16)(n:Nat)(x:o9):Tr:=⟨x.q,0,(DL key x.name n:Nat),(Bl key x.name n:Nat),0⟩
theorem pX{α β:Type}(f:α->β)(l:List α)(i:Nat)(d:β)(e:α)(hi:i<l.length):(l.map f).getD i d=f (l.getD i e):=by
 rw[av,av,List.getElem?_map,aD hi];rfl
theorem al6(key:Vector UInt8 16)(n:Nat)(r:List o9)(hr:r≠[])(h0:∀x∈r,0<x.q):
 FiL (lQ (r.map fun x=>x.q.toNat)) n (r.map fun x=>x.q.toNat) (r.map fun x=>DL key x.name n) (r.map fun x=>Bl key x.name n) ⟨(r.map fun x=>x.q.toNat).map fun _=>0,List.replicate n (-1),n⟩ (r.map (al5 key n)):=by
 refine⟨by simp,by simp,fun i hi=>?_⟩;rw[bR]at hi;have hm:r.getD i lu∈r:=by rw[av,aD hi];exact eO _
 have hx:=h0 _ hm;rw[pX (al5 key n) r i zR lu hi,pX _ r i 0 lu hi,pX _ r i 0 lu hi,pX _ r i 0 lu hi];have hz:((r.map fun x=>x.q.toNat).map fun _=>0).getD i 0=0:=by
  rw[pX _ _ i 0 0 (by simpa using hi)]
 refine⟨?_,rfl,rfl,?_,?_,0,rfl,Nat.zero_le _,fun t ht=>absurd ht (Nat.not_lt_zero _)⟩
 ·show(r.getD i lu).q=_
  omega
 ·show(0:Int)=_
  rw[hz];rfl
 ·show((r.map fun x=>x.q.toNat).map fun _=>0).getD i 0<_
  rw[hz];obtain⟨j,hj,e⟩:=DN (q:=r.map fun x=>x.q.toNat) (by simpa using hr) (by
   intro y hy;obtain⟨x,Ql,rfl⟩:=iQ.1 hy;have:=h0 x Ql;omega)
  rw[<-e];rw[bR]at hj;rw[pX _ r j 0 lu hj];have Dg:r.getD j lu∈r:=by rw[av,aD hj];exact eO _
  have:=h0 _ Dg;omega
def yS(l:List o9):List o9:=l.filter fun x=>decide (x.q≠0)
theorem ah7{l:List o9}{k:Nat}{x:o9}(hx:x=l.getD k lu)(hk:k<l.length):yS (l.take (k+1))=yS (l.take k)++(if x.q=0 then []else [x]):=by
 have e:l.take (k+1)=l.take k++[x]:=by rw[hx];exact(oK lu l k hk).symm
 rw[e];unfold yS;rw[List.filter_append];congr 1;by_cases h:x.q=0
 ·rw[if_pos h,List.filter_cons_of_neg (by simp[h])];rfl
 ·rw[if_neg h,List.filter_cons_of_pos (by simp[h])];rfl
theorem afs(key:Vector UInt8 16)(n:Nat)(l:List o9)(h:yS l≠[]):uJ key n l=⟨(yS l).map (·.name),Fp n ((yS l).map fun x=>x.q.toNat) (IW ((yS l).map fun x=>DL key x.name n) ((yS l).map fun x=>Bl key x.name n) n)⟩:=by
 unfold uJ;simp only;rw[if_neg (show¬(l.filter fun x=>decide (x.q≠0))=[]from h)];congr 1;refine afr (fun e=>h (List.map_eq_nil_iff.1 e)) fun i hi=>?_
 rw[bR]at hi;funext t;have Qw:i<(yS l).length:=hi;unfold chF IW;rw[pX (fun x=>DL key x.name n) _ i 0 lu Qw,pX (fun x=>Bl key x.name n) _ i 0 lu Qw];have e:((l.filter fun x=>decide (x.q≠0)).map (·.name)).getD i []=((yS l).getD i lu).name:=pX _ _ i _ lu Qw;rw[e]
theorem TS(key:Vector UInt8 16)(n:Nat)(l:List o9)(h:yS l=[]):uJ key n l=⟨[],[]⟩:=by
 unfold uJ;simp only;rw[if_pos (show(l.filter fun x=>decide (x.q≠0))=[]from h)]
def nmC(s:List UInt8):Array aC:=#[.string (bV s)]
theorem Qd(s:List UInt8):(nmC s).size=1:=rfl
theorem apI:∃i:nM,aj.info? 9=some i/\i.zero=some (.string {data:=#[]})/\i.size=1/\i.bytes<=400:=by
 cases h:aj.info? 9 with
 | none=>exact absurd h (by have:(aj.info? 9).isSome=true:=by kernel_rfl
                            intro e;rw[e]at this;cases this)
 | some i=>
   have h1:(aj.info? 9).map (·.size)=some 1:=by kernel_rfl
   have h2:(aj.info? 9).map (fun i=>decide (i.bytes<=400))=some true:=by kernel_rfl
   have h3:(aj.info? 9).map (·.zero)=some (some (.string {data:=#[]})):=by kernel_rfl
   rw[h]at h1 h2 h3;simp at h1 h2 h3;exact⟨i,rfl,h3,h1,h2⟩
theorem ajK:acj 69 9 nmC 1:=by
 obtain⟨i0,oz,mZ,nu,Ar⟩:=apI;exact⟨i0,_,lK,oz,mZ,nu,rfl,by omega,by omega,Qd,fun s=>by simp[nmC,cK]⟩
theorem apJ:∃i:nM,aj.info? 155=some i/\i.zero=some (.agg zR.aA)/\i.size=5/\i.bytes<=400:=by
 cases h:aj.info? 155 with
 | none=>exact absurd h (by have:(aj.info? 155).isSome=true:=by kernel_rfl
                            intro e;rw[e]at this;cases this)
 | some i=>
   have h1:(aj.info? 155).map (·.size)=some 5:=by kernel_rfl
   have h2:(aj.info? 155).map (fun i=>decide (i.bytes<=400))=some true:=by kernel_rfl
   have h3:(aj.info? 155).map (·.zero)=some (some (.agg zR.aA)):=by kernel_rfl
   rw[h]at h1 h2 h3;simp at h1 h2 h3;exact⟨i,rfl,h3,h1,h2⟩
theorem atw:acj 149 155 Tr.aA 5:=by
 obtain⟨i0,oz,mZ,nu,Ar⟩:=apJ;exact⟨i0,_,Tryz.underlying149,oz,mZ,nu,Tr.ak zR,by omega,by omega,Tr.ak,Tr.cB⟩
def aft(n:Nat)(ps:Array (Nat×aC)):Sem aC:=bJ 69 n ps
@[go_sem ↓]theorem aC8(n:Nat)(ps:Array (Nat×aC)):bJ 69 n ps=aft n ps:=rfl
@[go_sem]theorem ayk(w:au)(s:List UInt8):(aft 1 #[(0,.string (bV s))]).run aj w=.ok (.slice (some ⟨w.heap.size,0,none⟩) 1 1) (w.alloc (.cells (nmC s) 9)):=by
 obtain⟨i0,oz,mZ,nu,Ar⟩:=apI;simp[aft,bJ,dJ lK,zeroValue,sizeOf,typeInfo,oz,mZ,nu,fB,newRow,cu,ahi,nmC]
def avg(n:Nat)(ps:Array (Nat×aC)):Sem aC:=bJ 149 n ps
@[go_sem ↓]theorem aC9(n:Nat)(ps:Array (Nat×aC)):bJ 149 n ps=avg n ps:=rfl
@[go_sem]theorem ayl(w:au)(x:Tr):(avg 1 #[(0,.agg x.aA)]).run aj w=.ok (.slice (some ⟨w.heap.size,0,none⟩) 1 1) (w.alloc (.cells x.aA 155)):=by
 obtain⟨i0,oz,mZ,nu,Ar⟩:=apJ;exact rX w _ _ i0 _ 5 Tryz.underlying149 oz mZ nu (Tr.ak _) (by omega) (by omega) _ (Tr.ak x)
@[go_sem]theorem aC'(W:au)(uZ offset skip:Int):(uW 155 #[(0,.int .i64 uZ),(2,.int .i64 offset),(3,.int .i64 skip)]).run aj W=.ok (.agg (Tr.mk uZ 0 offset skip 0).aA) W:=
 kTr.bd W _ _ _ _ Ef (aIS W _ Ef) (by
  show fB _ (#[aJ .i64 0,.int .i64 0,.int .i64 0,.int .i64 0,.int .i64 0] ++ #[]) [(0,.int .i64 uZ),(2,.int .i64 offset),(3,.int .i64 skip)]=_;rw[oN 0 0 _ _ _ _ rfl rfl (by simp),oN 2 2 _ _ _ _ rfl rfl (by simp),oN 3 3 _ _ _ _ rfl rfl (by simp)];simp[fB,Tr.aA])
theorem Yn{α:Type}{f:α->Array aC}{sz:Nat}{e t:bM}{L:List (Nat×Array aC)}{w0 W:au}{v:aC}{l ys:List α}(T:acj t e f sz){ops:Array iV}{rest:List iV}{o:iV}{a:Act}{Q:Exit->Act->au->Prop}(Gl:o.guard=none)(s x:Operand)
 (ho:o.op=.call {callee:=.builtin .append,args:=#[s,x],argTypes:=#[t,t]}) (hs:a.eval s=v) (H:Rz f sz e L w0 W v l) {C:Nat} {A:Option aU} {m c:Nat} (hx:a.eval x=.slice A m c) (hr:iO f sz W C A m ys)
 (hlen:l.length+m<=1000000)
 (h:∀A' n' c' w',Rz f sz e L w0 w' (.slice A' n' c') (l++ys)->W.grownBy w' v.ownBlock->((bE A' n' c').ownBlock=v.ownBlock\/(bE A' n' c').ownBlock=some W.heap.size)->wpList aj ops Q rest (a.put o.dst (.slice A' n' c')) w'):wpList aj ops Q (o::rest) a W:=by
 refine wpList_plain Gl fun K hK=>?_
 obtain⟨i,z,ht,hi,hz,h1,h2,h3,h4,h5,h6⟩:=T;have hm:=hr.1;refine Kt W s x t ho w0.heap.size e i z sz i.bytes ht hi hz h1 rfl h2 h3 v l.length _ hs H.vU C A m c _ hx hr.2.1 (ER f h6 ys) (by unfold maxLen;omega) (aP (Nat.mul_le_mul hlen h4) (by omega)) H.dF.size ?_;intro v1 w1 k1 k2 k3;rw[adB,<-hm,<-aS]at k1;have hk:=H.grown k2 k1 k3;obtain⟨A',c',rfl⟩:=hk.Dr;exact hK _ _ (h A' _ c' w1 hk k2 k3)
def J7(v1 v2:aC):Prop:=∀g,v1.ownBlock=some g->v2.ownBlock≠some g
theorem J7.symm{v1 v2:aC}(h:J7 v1 v2):J7 v2 v1:=fun g h1 h2=>h g h2 h1
theorem TU{w w':au}{base size n:Nat}{e:bM}{v1 v1' v2:aC}{xs:List aC}(h2:w.ownsRow base e size v2 n xs)(ha:J7 v1 v2)(hg:w.grownBy w' v1.ownBlock)(wJ:v1'.ownBlock=v1.ownBlock\/v1'.ownBlock=some w.heap.size):
 w'.ownsRow base e size v2 n xs/\J7 v1' v2:=by
 refine⟨h2.kept hg ?_,fun g h1 hh=>?_⟩
 ·cases hv:v2.ownBlock with
  | none=>exact .inl rfl
  | some g=>exact .inr (fun e'=>ha g e'.symm hv)
 ·rcases wJ with h|h
  ·exact ha g (h ▸ h1) hh
  ·rw[h]at h1
   injection h1 with h1
   have:=(h2.lt g hh).2;omega
theorem Rz.apK{α:Type}{f:α->Array aC}{sz:Nat}{e:bM}{L:List (Nat×Array aC)}{w0 W W':au}{v v1 v1':aC}{l:List α}(h:Rz f sz e L w0 W v l)(ha:J7 v1 v)(hg:W.grownBy W' v1.ownBlock)(wJ:v1'.ownBlock=v1.ownBlock\/v1'.ownBlock=some W.heap.size)
 (hb:aN w0.heap.size w0 W') (hL:∀p∈L,dL W' p.1 p.2):Rz f sz e L w0 W' v l/\J7 v1' v:=
 ⟨⟨(TU h.vU ha hg wJ).1,hb,fun p hp=>⟨hL p hp,(h.bx p hp).2⟩⟩,(TU h.vU ha hg wJ).2⟩
structure Tc where
 sV:Option aU
 rP:Nat
 Da:Nat
 qV:Option aU
 ql:Nat
 yP:Nat
def Tc.aA(x:Tc):Array aC:=#[.slice x.sV x.rP x.Da,.slice x.qV x.ql x.yP]
theorem Tc.ak(x:Tc):x.aA.size=2:=by simp[Tc.aA]
theorem Tc.cB(x:Tc):x.aA.all (·.oneCell')=true:=by simp[Tc.aA,cK]
@[go_sem]theorem Tc.FQ(x:Tc):x.aA[0]? = some (.slice x.sV x.rP x.Da):=by simp[Tc.aA,aG]
@[go_sem]theorem Tc.yQ(x:Tc):x.aA[1]? = some (.slice x.qV x.ql x.yP):=by simp[Tc.aA,aG]
def Dw:Tc:=⟨none,0,0,none,0,0⟩
@[go_sem]theorem aDa:bY #[bE none 0 0,bE none 0 0]=bY Dw.aA:=rfl
@[go_sem]theorem ayn:eB #[bE none 0 0,bE none 0 0] 72=eB Dw.aA 72:=rfl
theorem kTc:oV 72 2 Dw.aA:=⟨⟨_,Gb,rfl⟩,by kernel_rfl,by kernel_rfl,Tc.ak _⟩
@[go_sem ↓]theorem aRz(v:aC):bZ 72 v=yt 72 v:=rfl
@[go_sem ↓]theorem aRA(v x:aC):eD 72 v x=zW 72 v x:=rfl
@[go_sem]theorem aM9(W:au)(b o:Nat)(x:Tc)(h:W.there b o 2):(zW 72 (.pointer (some ⟨b,o,none⟩)) (.agg x.aA)).run aj W=.ok () (gT W b o x.aA):=kTc.st W b o x.aA h (Tc.ak x) (Tc.cB x)
@[go_sem ↓]theorem aRB(ps:Array (Nat×aC)):fJ 72 ps=uW 72 ps:=rfl
theorem aJj(w:au)(fs:Array nV)(h:aj.underlying 72=some (.struct fs)):(iB (fun f=>Prod.mk f.offset <$> sizeOf f.type) fs:Sem (Array (Nat×Nat))).run aj w=.ok #[(0,1),(1,1)] w:=by
 have e:=Gb;rw[h]at e;cases e;show _=_
 kernel_rfl
@[go_sem]theorem aDb(W:au)(sV:Option aU)(rP:Nat)(Da:Nat)(qV:Option aU)(ql:Nat)(yP:Nat):(uW 72 #[(0,.slice sV rP Da),(1,.slice qV ql yP)]).run aj W=.ok (.agg (Tc.mk sV rP Da qV ql yP).aA) W:=kTc.bd W _ _ _ _ Gb (aJj W _ Gb) (by
 refine vw (Tc.ak _) ?_ ?_
 ·simp[rU,cu]
 ·simp[qY,cu,Tc.aA]<;>(simp only[<-fT];rfl))
def TlR(W:au)(A1:Option aU)(n1:Nat)(A2:Option aU)(n2:Nat)(t:Tl):Prop:=
 iO nmC 1 W W.heap.size A1 n1 t.names/\n2=t.uP.length/\((n2=0/\A2=none)\/∃g d,A2=some ⟨g,0,none⟩/\dL W g d/\SlA d t.uP)
def TlP(w:au)(t:Tl)(e:kX)(w':au):Prop:=
 ∃A1 n1 c1 A2 n2 c2,e=.returned (.tuple #[.agg #[.slice A1 n1 c1,.slice A2 n2 c2],.int .i64 0])/\TlR w' A1 n1 A2 n2 t/\aN w.heap.size w w'/\(∀a,A1=some a->w.heap.size<=a.block/\a.block<w'.heap.size)/\∀a,A2=some a->w.heap.size<=a.block/\a.block<w'.heap.size
structure BuS(key:Vector UInt8 16)(n k8:Nat)(w4:au)(r:List o9)(AN:Option aU)(nN cN:Nat)(AT:Option aU)(nT cT:Nat)(W:au):Prop where
 zn:Rz nmC 1 9 [(k8,(Tc.mk AN nN cN none 0 0).aA)] w4 W (.slice AN nN cN) (r.map (·.name))
 zt:Rz Tr.aA 5 155 [(k8,(Tc.mk AN nN cN none 0 0).aA)] w4 W (.slice AT nT cT) (r.map (al5 key n))
 ap:J7 (.slice AN nN cN) (.slice AT nT cT)
theorem BuS.start(key:Vector UInt8 16)(n:Nat)(w4:au):BuS key n w4.heap.size w4 [] none 0 0 none 0 0 (w4.alloc (.cells Dw.aA 72)):=
 ⟨(Rz.nil w4).new Dw.aA _,(Rz.nil w4).new Dw.aA _,fun g h=>by cases h⟩
theorem BuS.alloc{key:Vector UInt8 16}{n k8:Nat}{w4:au}{r:List o9}{AN:Option aU}{nN cN:Nat}{AT:Option aU}{nT cT:Nat}{W:au}(h:BuS key n k8 w4 r AN nN cN AT nT cT W)(o:Obj):BuS key n k8 w4 r AN nN cN AT nT cT (W.alloc o):=⟨h.zn.alloc o,h.zt.alloc o,h.ap⟩
theorem BuS.go{key:Vector UInt8 16}{n k8:Nat}{w4:au}{r:List o9}{AN:Option aU}{nN cN:Nat}{AT:Option aU}{nT cT:Nat}{W W':au}(h:BuS key n k8 w4 r AN nN cN AT nT cT W)(hb:aN W.heap.size W W'):BuS key n k8 w4 r AN nN cN AT nT cT W':=⟨h.zn.go hb,h.zt.go hb,h.ap⟩
theorem iO.aDc{α:Type}{f:α->Array aC}{s:Nat}(x:α)(hs:∀x,(f x).size=s)(w:au)(t:bM)(k:Nat)(hk:w.heap.size=k):iO f s (w.alloc (.cells (f x) t)) (w.alloc (.cells (f x) t)).heap.size (some ⟨k,0,none⟩) 1 [x]:=by
 subst hk;exact iO.one x hs w t
theorem afu{F:List Nat}{W W':au}{base size n:Nat}{e:bM}{v:aC}{xs:List aC}(h:W.ownsRow base e size v n xs)(hf:jE F W W')(hn:∀g,v.ownBlock=some g->g∉F):W'.ownsRow base e size v n xs:=by
 refine⟨h.1,?_⟩;rcases h.2 with h0|⟨g,cap,cur,rfl,h2,h3,h4⟩
 ·exact .inl h0
 ·exact .inr ⟨g,cap,cur,rfl,h2,(hf.block g (bW.1 h3).1 (hn g rfl)).trans h3,h4⟩
theorem Tc.aJk(AN:Option aU)(nN cN:Nat)(A9:Option aU)(n9 c9:Nat):(Tc.mk AN nN cN none 0 0).aA.setIfInBounds 1 (.slice A9 n9 c9)=(Tc.mk AN nN cN A9 n9 c9).aA:=by simp[Tc.aA]
theorem ayo{W:au}{base n c:Nat}{e:bM}{A:Option aU}{l:List Tr}(h:W.ownsRow base e 5 (.slice A n c) n (l.flatMap fun x=>x.aA.toList))(hl:l.length=n)(hn:0<n):∃gt cur,A=some ⟨gt,0,none⟩/\dL W gt cur/\TrA cur l/\n<=c/\base<=gt:=by
 have hr:=iO.iX hl h;rcases h.2 with⟨hv,h0⟩|⟨g,cap,cur,hv,h2,h3,h4,h5,h6,h7⟩
 ·omega
 ·injection hv with e1 e2 e3
  subst e1 e3;refine⟨g,cur,rfl,⟨_,h3⟩,fun i hi j hj=>?_,h4,h2⟩;obtain⟨b,o,hA,_,hc⟩:=iO.cell Tr.ak zR hr (show i<n by omega);cases hA;have h8:=hc j hj;rw[bB]at h8;rw[<-h8];exact((show dL W g cur from⟨_,h3⟩).aI.1 (i*5+j)).symm
theorem afv(key:Vector UInt8 16)(n:Nat)(r:List o9)(h:lI n=true):ad0 n r.length (IW (r.map fun x=>DL key x.name n) (r.map fun x=>Bl key x.name n) n):=by
 intro i hi;have h2:=xD h;unfold IW;rw[pX _ r i 0 lu hi,pX _ r i 0 lu hi];obtain⟨s1,s2⟩:=WC key (r.getD i lu).name h2;exact⟨fun t=>QF (by omega),fun j hj=>V7 h s1 s2 hj⟩
theorem Tc.aDd(AN:Option aU)(nN cN:Nat)(A9:Option aU)(n9 c9:Nat):(Tc.mk AN nN cN none 0 0).aA.setIfInBounds 0 (.slice A9 n9 c9)=(Tc.mk A9 n9 c9 none 0 0).aA:=by simp[Tc.aA]
theorem BuS.aJl{k8:Nat}{w4 w9:au}{l:List (List UInt8)}{AN:Option aU}{nN cN:Nat}{A9:Option aU}{n9 c9:Nat}(hk:k8=w4.heap.size)(h:Rz nmC 1 9 [(k8,(Tc.mk AN nN cN none 0 0).aA)] w4 w9 (.slice A9 n9 c9) l):
 Rz nmC 1 9 [(k8,(Tc.mk A9 n9 c9 none 0 0).aA)] w4 (w9.setCell ⟨k8,0,none⟩ (.slice A9 n9 c9)) (.slice A9 n9 c9) l:=by
 have:=h.aoF (aY hk.symm) (fun p hp=>by cases hp) 0 (.slice A9 n9 c9);rw[Tc.aDd]at this;exact this
theorem BuS.aJm{k8:Nat}{w4 w9:au}{l:List Tr}{AN:Option aU}{nN cN:Nat}{AT:Option aU}{nT cT:Nat}(hk:k8=w4.heap.size)(h:Rz Tr.aA 5 155 [(k8,(Tc.mk AN nN cN none 0 0).aA)] w4 w9 (.slice AT nT cT) l)(A9:Option aU)(n9 c9:Nat):
 Rz Tr.aA 5 155 [(k8,(Tc.mk A9 n9 c9 none 0 0).aA)] w4 (w9.setCell ⟨k8,0,none⟩ (.slice A9 n9 c9)) (.slice AT nT cT) l:=by
 have:=h.aoF (aY hk.symm) (fun p hp=>by cases hp) 0 (.slice A9 n9 c9);rw[Tc.aDd]at this;exact this
theorem afw(key:Vector UInt8 16)(n:Nat)(hp:lI n=true)(hn:n<=65537)(l:List o9)(hk:atg l)(YQ:∀x∈l,x.name.length<=1000000)(A:Option aU)(m c:Nat)(w:au)(hR:iO o9.aA 2 w w.heap.size A m l):
 aR aj 27 #[.agg (iU key),.int .i64 n,.slice A m c] w (TlP w (uJ key n l)):=by
 have hl:=hR.1;have hm:m<=1024:=by have:=hk.2.2;omega
 have Z0:=Lib.hid (((Bx.start w).new (iU key) 22).new Dw.aA 72);have Nw:(w.alloc (.cells (iU key) 22)).heap.size=w.heap.size+1:=by simp
 rw[Nw]at Z0;obtain⟨k1,hk1⟩:∃k1,k1=w.heap.size+1:=⟨_,rfl⟩
 have SO:=Lib.hid (fun(W:au) (h:iO o9.aA 2 W W.heap.size A m l)=>ac3 l hk.1 A m c W h (by omega));have MA:=Lib.hid (fun(W:au) (A':Option aU) (c':Nat) (h:iO o9.aA 2 W W.heap.size A' m l)=>alR l hk A' m c' W h);have PR:=Lib.hid (fun(W:au)=>ZV (W:=W) n hn);rw[hp]at PR;have R0:=Lib.hid ((hR.up (.cells (iU key) 22)).up (.cells Dw.aA 72));have t1:decide ((n:Int)>65537)=false:=by simp;omega
 have t2:decide ((65537:Int)<n)=false:=by simp;omega
 have t3:decide (65537<n)=false:=by simp;omega
 have HK:=Lib.hid hk;have HNM:=Lib.hid YQ;have HP:=Lib.hid hp;have HL:=Lib.hid hl;clear hk YQ hp hl hR Nw;rw[<-hk1]at Z0;have HK1:=Lib.hid hk1;go_enter Tryz.func27,Tryz.ntmps27;go_upto_region 1 with fail
 rw[<-HK1.out];generalize(w.alloc (.cells (iU key) 22)).alloc (.cells Dw.aA 72)=w1 at Z0 R0 ⊢;clear hk1;go_upto_region 4 with(first|(go_at_call 80;(with_reducible refine(SO.out _ R0.out).mono ?_);rintro e w2 ⟨A2,c2,rfl,Mx,kF⟩;have R2:=Lib.hid Mx;have Z2:=Lib.hid (Z0.out.go kF);clear Mx kF)|(go_at_call 81;(with_reducible refine(PR.out _).mono ?_);rintro e w3 ⟨rfl,rfl⟩)|(go_at_call 82;(with_reducible refine(MA.out _ A2 c2 R2.out).mono ?_);rintro e w4 ⟨rfl,M8⟩;have R4:=Lib.hid (R2.out.go M8);have Z4:=Lib.hid (Z2.out.go M8);clear M8))
 obtain⟨k8,hk8⟩:∃k8,k8=w4.heap.size:=⟨_,rfl⟩
 have BS:=Lib.hid (BuS.start key n w4);rw[<-hk8]at BS;have HK8:=Lib.hid hk8;go_upto_region 6 with fail
 rw[<-HK8.out];generalize w4.alloc (.cells Dw.aA 72)=w5 at BS ⊢;clear hk8;go_wp2_with fail;go_loopw [31,9] (fun i v wr=>∃(k:Nat)(AN:Option aU)(nN cN:Nat)(AT:Option aU) (nT cT:Nat),k<=m/\i=.int .i64 k/\v=.slice AT nT cT/\BuS key n k8 w4 (yS (l.take k)) AN nN cN AT nT cT wr)
  (fun i _ _=>m-(intOf i).toNat)
 case atStart=>exact⟨0,none,0,0,none,0,0,Nat.zero_le _,rfl,rfl,BS.out⟩
 case round=>
  obtain⟨k,AN,nN,cN,AT,nT,cT,hkm,rfl,rfl,Em⟩:=hrel;have B0:=Lib.hid Em;clear Em;by_cases fP:k<m
  ·have KO:(k:Int)<m:=by omega
   have RW:=Lib.hid (R4.out.below B0.out.zn.dF);obtain⟨b,o,hA,Cb,hh,hc⟩:=iO.fE o9.BU lu RW.out fP;subst hA;obtain⟨x,hx⟩:∃x,x=l.getD k lu:=⟨_,rfl⟩
   rw[<-hx]at hc;have hxm:x∈l:=by rw[hx,av,aD (by rw[HL.out];omega),Option.getD_some];exact eO _
   have hq1:=(HK.out.2.1 x hxm).1;have HXN:=Lib.hid (HNM.out x hxm);have Ej:=Lib.hid (ah7 hx (show k<l.length by rw[HL.out];exact fP));have B1:=Lib.hid (B0.out.alloc (.cells x.aA 151));have X1:=Lib.hid (dL.new wr x.aA 151);have f0:∀i,(wr.alloc (.cells x.aA 151)).cell? ⟨wr.heap.size,i,none⟩=x.aA[i]?:=X1.out.aI.1;have s0:=(f0 0).trans (o9.zX x);have s1:=(f0 1).trans (o9.as6 x);clear hx Cb hxm f0;by_cases hq:x.q=0
   ·have t1:decide (x.q>0)=false:=by simp[hq]
    have t2:decide (0<x.q)=false:=by simp[hq]
    have HQ:=Lib.hid hq;clear hq;go_wp2_with fail;go_roundw
    case rel=>
     have e:=Ej.out;rw[if_pos HQ.out,List.append_nil]at e;exact⟨k+1,_,_,_,_,_,_,by omega,by simp,rfl,by rw[e];exact B1.out⟩
    case measure=>simp[intOf];omega
   ·have t1:decide (x.q>0)=true:=by simp;omega
    have t2:decide (0<x.q)=true:=by simp;omega
    have HQ:=Lib.hid hq;clear hq;obtain⟨r,hr⟩:∃r,r=yS (l.take k):=⟨_,rfl⟩
    rw[<-hr]at B0 B1 Ej;have HR:=Lib.hid hr;have HRL:=Lib.hid (show r.length+1<=1000000 by
     rw[hr];have h1:=oQ (fun x:o9=>decide (x.q≠0)) (l.take k);have h2:=List.length_take_le k l;have h3:(yS (l.take k)).length<=(l.take k).length:=h1;omega)
    clear hr;obtain⟨po,hpo⟩:∃po,po=DL key x.name n:=⟨_,rfl⟩
    obtain⟨ps,hps⟩:∃ps,ps=Bl key x.name n:=⟨_,rfl⟩
    have PO:=Lib.hid (ahV key x.name n (xD HP.out) (by omega) HXN.out);rw[<-hpo,<-hps]at PO;have HTR:=Lib.hid (show al5 key n x=Tr.mk x.q 0 (po:Nat) (ps:Nat) 0 by unfold al5;rw[hpo,hps]);clear hpo hps;have l1:=XV.mO (Z4.out.b1.go B1.out.zn.dF) (dK _);have HKX:=Lib.hid (show k8≠wr.heap.size from fun e=>by have:=B0.out.zn.b0.lt;omega);have HNX:=Lib.hid (show∀g,(bE AN nN cN).ownBlock=some g->g≠wr.heap.size from fun g e=>by have:=(B0.out.zn.lt e).2;omega);have HTX:=Lib.hid (show∀g,(bE AT nT cT).ownBlock=some g->g≠wr.heap.size from fun g e=>by have:=(B0.out.zt.lt e).2;omega);obtain⟨kx,hkx⟩:∃kx,kx=wr.heap.size:=⟨_,rfl⟩
    rw[<-hkx]at HKX HNX HTX X1;have aJp:=Lib.hid hkx;clear hkx;go_upto_region 10 with fail
    rw[<-aJp.out]at s0 s1 ⊢;generalize wr.alloc (.cells x.aA 151)=w6 at s0 s1 l1 B1 X1 ⊢;go_wp2_with (first
     | (go_at_call 83;(with_reducible refine(PO.out _).mono ?_);rintro e w7 ⟨rfl,hb7⟩;have B7:=Lib.hid (B1.out.go hb7);have X7:=Lib.hid (X1.out.go hb7);clear s0 s1 l1 hb7;have s0:=(X7.out.aI.1 0).trans (o9.zX x);have s1:=(X7.out.aI.1 1).trans (o9.as6 x);have s2:=(B7.out.zn.b0.aI.1 0).trans (Tc.FQ _))
     | (refine Yn ajK rfl (.tmp 47) (.tmp 50) rfl rfl (B7.out.alloc (.cells (nmC x.name) 9)).zn rfl (iO.one x.name Qd w7 9) (by rw[bR];exact HRL.out) ?_;intro A9 n9 c9 w9 h9 g9 a9;have N9:=Lib.hid h9;have T9:=Lib.hid ((B7.out.alloc (.cells (nmC x.name) 9)).zt.apK B7.out.ap g9 a9 h9.dF (fun p hp=>(h9.bx p hp).1));have X9:=Lib.hid ((X7.out.alloc (.cells (nmC x.name) 9)).grown g9 (fun e=>HNX.out kx e.symm rfl));clear s0 s1 s2 h9 g9 a9;have s3:=N9.out.b0.aI.1 0;have s4:=N9.out.b0.aI.2.1 0;rw[Tc.FQ]at s3;have N10:=Lib.hid (BuS.aJl HK8.out N9.out);have T10:=Lib.hid (BuS.aJm HK8.out T9.out.1 A9 n9 c9);have X10:=Lib.hid (X9.out.dM ⟨k8,0,none⟩ (.slice A9 n9 c9) HKX.out);have s1:=(X10.out.aI.1 1).trans (o9.as6 x))
     | (refine Yn atw rfl (.tmp 53) (.tmp 59) rfl rfl (T10.out.alloc (.cells (Tr.mk x.q 0 (po:Nat) (ps:Nat) 0).aA 155)) rfl (iO.aDc (Tr.mk x.q 0 (po:Nat) (ps:Nat) 0) Tr.ak (w9.setCell ⟨k8,0,none⟩ (.slice A9 n9 c9)) 155 w9.heap.size (by simp)) (by rw[bR];exact HRL.out) ?_;intro A11 n11 c11 w11 h11 g11 a11;have T11:=Lib.hid h11;have N11:=Lib.hid ((N10.out.alloc (.cells (Tr.mk x.q 0 (po:Nat) (ps:Nat) 0).aA 155)).apK T9.out.2.symm g11 a11 h11.dF (fun p hp=>(h11.bx p hp).1));clear h11 g11 a11))
    go_roundw
    case rel=>
     have e:=Ej.out;rw[if_neg HQ.out]at e;refine⟨k+1,A9,n9,c9,A11,n11,c11,by omega,by simp,rfl,?_⟩;rw[e];refine⟨?_,?_,N11.out.2.symm⟩
     ·rw[List.map_append];exact N11.out.1
     ·rw[List.map_append,List.map_cons,List.map_nil,HTR.out];exact T11.out
    case measure=>simp[intOf];omega
  ·obtain rfl:k=m:=by omega
   have hd:decide ((k:Int)<k)=false:=by simp
   have HRW:yS (l.take k)=yS l:=by rw[List.take_of_length_le (by rw[HL.out];omega)]
   rw[HRW]at B0;obtain⟨r,hr⟩:∃r,r=yS l:=⟨_,rfl⟩
   rw[<-hr]at B0;have hnT:=B0.out.zt.len;rw[bR]at hnT;have BX1:=Lib.hid (Z4.out.b0.go B0.out.zn.dF);have HKS:=Lib.hid (show w.heap.size<=k1/\k1<w4.heap.size/\w4.heap.size=k8/\k8<wr.heap.size from⟨by rw[HK1.out];omega,Z4.out.b0.lt,HK8.out.symm,B0.out.zn.b0.lt⟩);have TH1:=BX1.out.there 0 2 (aY (Tc.ak _).symm);have HR:=Lib.hid hr;have HNB:=Lib.hid (show∀g,(bE AN nN cN).ownBlock=some g->w4.heap.size<=g/\g≠k8 from fun g e=>⟨(B0.out.zn.lt e).1,fun e2=>by
    have:=(B0.out.zn.bx _ (lZ ..)).2;exact this (by rw[e,e2])⟩)
   by_cases h0:r=[]
   ·have z1:decide ((nT:Int)=0)=true:=by simp[hnT,h0]
    have z2:((nT:Int)==0)=true:=by simp[hnT,h0]
    have z3:decide (nT=0)=true:=by simp[hnT,h0]
    have z4:(nT==0)=true:=by simp[hnT,h0]
    have ld:=kTc.mO B0.out.zn.b0 (Tc.ak _);have H0:=Lib.hid h0;clear hnT h0 hr HRW;obtain⟨X,hX⟩:∃X,X=Tc.mk AN nN cN none 0 0:=⟨_,rfl⟩
    rw[<-hX]at ld;have HX:=Lib.hid hX;clear hX;go_wp2_with fail;refine bodyPost_ret (kTc.qL rfl _ rfl (BX1.out.put X.aA (by rw[Tc.ak,Tc.ak])) (Tc.ak _)) rfl ?_;have F:=jE.WE (F:=[k1]) (lS (World.grownBy.refl wr (some k1)) 0 X.aA) (fun g e=>.inl (by injection e with e;simp[e]));refine⟨AN,nN,cN,none,0,0,by rw[HX.out];rfl,⟨?_,?_,?_⟩,?_,(fun a e=>by have h1:=(HNB.out a.block (by rw[e];rfl)).1;have h2:=Z4.out.dF.size;have h3:=(B0.out.zn.lt (k:=a.block) (by rw[e];rfl)).2;have h4:=F.size;omega),fun a e=>by cases e⟩
    ·have:=afu B0.out.zn.vU F (fun g e hm=>by
      have h1:=(HNB.out g e).1;have h2:=HKS.out;simp at hm;omega)
     rw[TS _ _ _ (by rw[<-HR.out,H0.out])];have h2:=B0.out.zn.len;rw[<-h2]at this;have h3:=iO.iX (by rw[h2]) this;rw[H0.out]at h3;exact h3
    ·rw[TS _ _ _ (by rw[<-HR.out,H0.out])];rfl
    ·exact .inl ⟨rfl,rfl⟩
    ·refine(ji Z4.out.dF B0.out.zn.dF).trans ?_
     exact F.rT (fun g hg=>by simp at hg;have:=HKS.out;omega) (aP Z4.out.dF.size B0.out.zn.dF.size)
   ·have EO:0<r.length:=List.length_pos_iff.2 h0
    have hz:¬(nT:Int)=0:=by omega
    have z1:decide ((nT:Int)=0)=false:=by simpa using hz
    have z2:((nT:Int)==0)=false:=by simpa using hz
    have z3:decide (nT=0)=false:=by simp;omega
    have z4:(nT==0)=false:=by simp;omega
    obtain⟨gt,cur,hAT,hbt,htr,ahh,hgt⟩:=ayo (by have:=B0.out.zt.vU;rwa [bR,<-hnT]at this) (by rw[bR,hnT]) (by omega);subst hAT;have HGK:=Lib.hid (show gt≠k8 from fun e=>(B0.out.zt.bx _ (lZ ..)).2 (by rw[<-e];rfl));have HGN:=Lib.hid (show∀g,(bE AN nN cN).ownBlock=some g->g≠gt from fun g e e2=>B0.out.ap g e (by rw[e2];rfl));have HGT:=Lib.hid (show gt<wr.heap.size/\w4.heap.size<=gt from⟨hbt.lt,hgt⟩);have hn1:1<=n:=by have:=xD HP.out;omega
    have RE:=Lib.hid (ah0 n hn1 (by omega) wr.heap.size 1 (-1) (wr.alloc (.cells (sQ [-1]) 3)) (dL.new wr _ _));have hq0:∀x∈r,0<x.q:=by
     intro x hx;rw[hr]at hx;obtain⟨h1,h2⟩:=List.mem_filter.1 hx;have:=(HK.out.2.1 x h1).1;simp at h2;omega
    have hrl:r.length<=1024:=by rw[hr];have:(yS l).length<=l.length:=oQ _ _;have:=HK.out.2.2;omega
    have hgr:lQ (r.map fun x=>x.q.toNat)<=100000000:=by
     obtain⟨i,hi,e⟩:=DN (q:=r.map fun x=>x.q.toNat) (by simpa using h0) (by
      intro y hy;obtain⟨x,hx,rfl⟩:=iQ.1 hy;have:=hq0 x hx;omega)
     rw[<-e];rw[bR]at hi;rw[pX _ r i 0 lu hi];have Dg:r.getD i lu∈yS l:=by rw[<-hr,av,aD hi];exact eO _
     have:=(HK.out.2.1 _ (List.mem_filter.1 Dg).1).2;omega
    have FI:=Lib.hid (fun(W:au) (sb:Nat) (d:Array aC) (hc:dL W gt cur) (hd:dL W sb d) (pY:gt≠sb) (hS:SlA d (List.replicate n (-1)))=>
     ahX gt sb nT cT n n (lQ (r.map fun x=>x.q.toNat)) (r.map fun x=>x.q.toNat) (r.map fun x=>DL key x.name n) (r.map fun x=>Bl key x.name n) cur d (r.map (al5 key n)) W rfl hc hd pY (by rw[bR,hnT]) htr hS (al6 key n r h0 hq0) (by omega) (by omega) ahh hn1 (by omega) (ay _)
      (by intro y hy;obtain⟨x,hx,rfl⟩:=iQ.1 hy;have:=hq0 x hx;omega) hgr
      (by intro i hi;rw[pX _ r i 0 lu (by omega)];have:=an2 key (r.getD i lu).name (xD HP.out);omega)
      (by intro i hi;rw[pX _ r i 0 lu (by omega)];have:=(WC key (r.getD i lu).name (xD HP.out)).2;omega)
      (by rw[hnT];exact afv key n r HP.out))
    have HFV:=Lib.hid (ael (n:=n) (q:=r.map fun x=>x.q.toNat) (ch:=IW (r.map fun x=>DL key x.name n) (r.map fun x=>Bl key x.name n) n) (by simpa using h0) (by intro y hy;obtain⟨x,hx,rfl⟩:=iQ.1 hy;have:=hq0 x hx;omega) (by rw[bR];exact afv key n r HP.out)).1;have HT:=Lib.hid (show uJ key n l=⟨r.map (·.name),Fp n (r.map fun x=>x.q.toNat) (IW (r.map fun x=>DL key x.name n) (r.map fun x=>Bl key x.name n) n)⟩by rw[afs key n l (by rw[<-hr];exact h0),<-hr]);generalize Fp n (r.map fun x=>x.q.toNat) (IW (r.map fun x=>DL key x.name n) (r.map fun x=>Bl key x.name n) n)=fv at FI HFV HT;have BT0:=Lib.hid hbt;have Io:(wr.alloc (.cells (sQ [-1]) 3)).heap.size=wr.heap.size+1:=by simp
    have HW1:=Lib.hid Io;clear hnT h0 EO hz hbt htr ahh hgt hq0 hrl hgr hr HRW Io;go_wp2_with (first
     | (go_at_call 84;go_loud ((with_reducible refine RE.out.mono ?_);rintro e w2 ⟨g,d,AA,rfl,kF,hds,hsl,ac4⟩;have HG:=Lib.hid (show wr.heap.size<g by rw[HW1.out]at AA;omega);have K2:=Lib.hid ((B0.out.zn.b0.alloc (.cells (sQ [-1]) 3)).go ac4);have X2:=Lib.hid ((BX1.out.alloc (.cells (sQ [-1]) 3)).go ac4);have T2:=Lib.hid ((BT0.out.alloc (.cells (sQ [-1]) 3)).go ac4);have F2:=Lib.hid (((jE.refl [k8,gt,k1] wr).alloc (.cells (sQ [-1]) 3)).below ac4 (by rw[HW1.out];omega));have ND:=Lib.hid hsl;have K3:=Lib.hid (show dL (w2.setCell ⟨k8,1,none⟩ (.slice (some ⟨g,0,none⟩) n n)) k8 (Tc.mk AN nN cN (some ⟨g,0,none⟩) n n).aA by have:=K2.out.eG 1 (.slice (some ⟨g,0,none⟩) n n);rwa [Tc.aJk]at this);have s1:=K2.out.aI.1 1;rw[Tc.yQ]at s1;have s2:=K2.out.aI.2.1 1;have s3:=K3.out.aI.1 1;rw[Tc.yQ]at s3;have FX:=Lib.hid (FI.out (w2.setCell ⟨k8,1,none⟩ (.slice (some ⟨g,0,none⟩) n n)) g d (T2.out.dM ⟨k8,1,none⟩ _ HGK.out.symm) (kF.dM ⟨k8,1,none⟩ _ (by have:=HG.out;have:=HKS.out;show k8≠g;omega)) (by have:=HG.out;have:=HGT.out;omega) hsl);clear AA kF hds hsl ac4))
     | (go_at_call 85;(with_reducible refine FX.out.mono ?_);rintro e w5 ⟨rfl,⟨d5,hd5,aDe⟩,Au⟩;have K5:=Lib.hid (Au.box K3.out (by have:=HGK.out;have:=HG.out;have:=HKS.out;simp;omega));have X5:=Lib.hid (Au.box (X2.out.dM ⟨k8,1,none⟩ (.slice (some ⟨g,0,none⟩) n n) (by have:=HKS.out;show k8≠k1;omega)) (by have:=HG.out;have:=HGT.out;have:=HKS.out;simp;omega));have F5:=Lib.hid ((F2.out.set ⟨k8,1,none⟩ (.slice (some ⟨g,0,none⟩) n n) (.inl (by simp))).trans Au (fun x hx=>by have:=HG.out;simp at hx⊢;omega));have D5:=Lib.hid hd5;have SD5:=Lib.hid aDe;clear s1 s2 s3 hd5 aDe Au;have ld:=kTc.mO K5.out (Tc.ak _);have th:=X5.out.there 0 2 (aY (Tc.ak _).symm)))
    refine bodyPost_ret (kTc.qL rfl _ rfl (X5.out.put (Tc.mk AN nN cN (some ⟨g,0,none⟩) n n).aA (by rw[Tc.ak,Tc.ak])) (Tc.ak _)) rfl ?_;have F:=F5.out.grown (lS (World.grownBy.refl w5 (some k1)) 0 (Tc.mk AN nN cN (some ⟨g,0,none⟩) n n).aA) (fun j e=>.inl (by injection e with e;simp[e]));refine⟨AN,nN,cN,some ⟨g,0,none⟩,n,n,rfl,⟨?_,by rw[HT.out];exact HFV.out.symm,.inr ⟨g,d5,rfl,D5.out.gD (by have:=HG.out;have:=HKS.out;omega),by rw[HT.out];exact SD5.out⟩⟩,?_,(fun a e=>by have h1:=(HNB.out a.block (by rw[e];rfl)).1;have h2:=Z4.out.dF.size;have h3:=(B0.out.zn.lt (k:=a.block) (by rw[e];rfl)).2;have h4:=F.size;omega),fun a e=>by injection e with e;subst e;have h1:=HG.out;have h2:=Z4.out.dF.size;have h3:=B0.out.zn.dF.size;have h4:=(D5.out.gD (b2:=k1) (o:=0) (x:=(Tc.mk AN nN cN (some ⟨g,0,none⟩) n n).aA) (by have:=HG.out;have:=HKS.out;omega)).lt;exact⟨by show _<=g;omega,h4⟩⟩
    ·have:=afu B0.out.zn.vU F (fun g e hm=>by
       have h1:=HNB.out g e;have h2:=HKS.out;have h3:=HGN.out g e;simp at hm;omega)
     rw[HT.out];have h2:=B0.out.zn.len;rw[<-h2]at this;exact iO.iX (by rw[h2]) this
    ·refine(ji Z4.out.dF B0.out.zn.dF).trans ?_
     exact F.rT (fun g hg=>by simp at hg;have:=HKS.out;have:=HGT.out;omega) (aP Z4.out.dF.size B0.out.zn.dF.size)
def avi:Option (List UInt8)->aC
 | none=>.tuple #[.string (bV []),.bool false]
 | some s=>.tuple #[.string (bV s),.bool true]
def aDf(t:Tl):Prop:=∀j,j<t.uP.length->∃i,i<t.names.length/\t.uP.getD j 0=(i:Int)
theorem ah8(t:Tl)(ok:aDf t)(h:Nat)(hh:h<18446744073709551616)(A1:Option aU)(n1 c1:Nat)(A2:Option aU)(n2 c2:Nat)(w:au)(hT:TlR w A1 n1 A2 n2 t)(LA:n2<=100000)(hn1:n1<=100000):
 aR aj 35 #[.agg (Tc.mk A1 n1 c1 A2 n2 c2).aA,.int .u64 h] w (gP w (avi (Iq t h))):=by
 obtain⟨hN,hs,hS⟩:=hT;have X0:=Lib.hid (dL.new w (Tc.mk A1 n1 c1 A2 n2 c2).aA 72);have B0:=Lib.hid ((Below.refl w.heap.size w).alloc (ay _) (.cells (Tc.mk A1 n1 c1 A2 n2 c2).aA 72));have N0:=Lib.hid (hN.up (.cells (Tc.mk A1 n1 c1 A2 n2 c2).aA 72));have f0:=(X0.out.aI.1 0).trans (Tc.FQ _);have f1:=(X0.out.aI.1 1).trans (Tc.yQ _);by_cases h0:n2=0
 ·have z1:decide ((n2:Int)=0)=true:=by simp[h0]
  have z2:((n2:Int)==0)=true:=by simp[h0]
  have z3:decide (n2=0)=true:=by simp[h0]
  have z4:(n2==0)=true:=by simp[h0]
  have HP:=Lib.hid (show Iq t h=none by unfold Iq;rw[<-hs,if_pos h0]);clear h0 hs hS hN;go_enter Tryz.func35,Tryz.ntmps35;go_wp2;go_ret2;exact⟨by rw[HP.out];rfl,B0.out⟩
 ·have hz:¬(n2:Int)=0:=by omega
  have z1:decide ((n2:Int)=0)=false:=by simpa using hz
  have z2:((n2:Int)==0)=false:=by simpa using hz
  have z3:decide (n2=0)=false:=by simpa using h0
  have z4:(n2==0)=false:=by simpa using h0
  obtain⟨g,d,hA,hd,hsl⟩:∃g d,A2=some ⟨g,0,none⟩/\dL w g d/\SlA d t.uP:=by
   rcases hS with⟨e,_⟩|hS
   ·exact absurd e h0
   ·exact hS
  subst hA;obtain⟨j,hj⟩:∃j,j=h%n2:=⟨_,rfl⟩
  have hjl:j<n2:=by rw[hj];exact fD _ (by omega)
  have YA:(j:Int)<n2:=by omega
  obtain⟨i,hi,hv⟩:=ok j (by rw[<-hs];exact hjl);obtain⟨b,o,hA1,_,hc⟩:=iO.cell Qd [] N0.out (show i<n1 by rw[<-hN.1];exact hi);have hii:(i:Int)<n1:=by rw[<-hN.1];omega
  subst hA1;obtain⟨s,hsn⟩:∃s,s=t.names.getD i []:=⟨_,rfl⟩
  have f3:=hc 0 (by omega);rw[<-hsn,Nat.add_zero,gF]at f3
  replace f3:(w.alloc (.cells (Tc.mk (some ⟨b,o,none⟩) n1 c1 (some ⟨g,0,none⟩) n2 c2).aA 72)).cell? ⟨b,o+i,none⟩=some (.string (bV s)):=f3
  have f2:=(hd.alloc (.cells (Tc.mk (some ⟨b,o,none⟩) n1 c1 (some ⟨g,0,none⟩) n2 c2).aA 72)).aI.1 j;rw[hsl j (by rw[<-hs];exact hjl),hv]at f2;have HP:=Lib.hid (show Iq t h=some s by unfold Iq;rw[<-hs,if_neg h0,<-hj,hv,Int.toNat_natCast,hsn]);have e1:(h:Int)%(n2:Int)=(j:Int):=by rw[hj];omega
  have e2:Int.tmod (h:Int) (n2:Int)=(j:Int):=by rw[Int.tmod_eq_emod_of_nonneg (by omega)];exact e1
  have u1:=apw n2 (by omega);have u2:=apw j (by omega);have i1:=jU (n2:Int) (by omega);have h0':¬n2=0:=h0;clear hj hs hS hN hc hsn hv hi hd hsl h0;go_enter Tryz.func35,Tryz.ntmps35;go_wp2_with fail;go_quiet (fail);go_wp2;go_ret2;exact⟨by rw[HP.out];rfl,fI B0.out _⟩
abbrev afy(o:Option Nat):aC:=.pointer (o.map fun b=>⟨b,0,none⟩)
structure Pc where
 mq:Int
 rA:Option aU
 rN:Nat
 rC:Nat
def Pc.aA(x:Pc):Array aC:=#[.int .i64 x.mq,.slice x.rA x.rN x.rC]
theorem Pc.ak(x:Pc):x.aA.size=2:=by simp[Pc.aA]
theorem Pc.cB(x:Pc):x.aA.all (·.oneCell')=true:=by simp[Pc.aA,cK]
@[go_sem]theorem Pc.eu(x:Pc):eu x.aA=2:=Pc.ak x
@[go_sem]theorem Pc.all(x:Pc):x.aA.extract 0 2=x.aA:=by have:=Pc.ak x;rw[<-this];simp
@[go_sem]theorem Pc.Yo(x:Pc):x.aA[0]? = some (.int .i64 x.mq):=by simp[Pc.aA,aG]
@[go_sem]theorem Pc.apM(x:Pc):x.aA[1]? = some (.slice x.rA x.rN x.rC):=by simp[Pc.aA,aG]
theorem Pc.ajN(x:Pc)(A:Option aU)(n c:Nat):x.aA.setIfInBounds 1 (.slice A n c)=({x with rA:=A,rN:=n,rC:=c}:Pc).aA:=by simp[Pc.aA,aM]
def Zn:Pc:=⟨0,none,0,0⟩
@[go_sem]theorem aDg:bY #[aJ bU 0,bE none 0 0]=bY Zn.aA:=rfl
@[go_sem]theorem ayp:eB #[aJ bU 0,bE none 0 0] 32=eB Zn.aA 32:=rfl
theorem kPc:oV 32 2 Zn.aA:=⟨⟨_,Tryz.underlying32,rfl⟩,by kernel_rfl,by kernel_rfl,Pc.ak _⟩
@[go_sem ↓]theorem aty(v:aC):bZ 32 v=yt 32 v:=rfl
@[go_sem ↓]theorem aRN(v x:aC):eD 32 v x=zW 32 v x:=rfl
@[go_sem]theorem aNj(W:au)(b o:Nat)(h:xS W b o 2):(yt 32 (.pointer (some ⟨b,o,none⟩))).run aj W=.ok (.agg (dY W b o 2)) W:=kPc.ld W b o h
@[go_sem]theorem aJs(W:au)(c:Array aC)(x:Pc)(b:Nat)(hb:b=W.heap.size)(hc:eu c=2):(zW 32 (.pointer (some ⟨b,0,none⟩)) (.agg x.aA)).run aj (W.alloc (.cells c 32))=.ok () (W.alloc (.cells x.aA 32)):=kPc.stN W c x.aA b hb hc (Pc.ak x) (Pc.cB x)
@[go_sem]theorem aNk(W:au)(b o:Nat)(x:Pc)(h:W.there b o 2):(zW 32 (.pointer (some ⟨b,o,none⟩)) (.agg x.aA)).run aj W=.ok () (gT W b o x.aA):=kPc.st W b o x.aA h (Pc.ak x) (Pc.cB x)
@[go_sem ↓]theorem aRO(ps:Array (Nat×aC)):fJ 32 ps=uW 32 ps:=rfl
structure Eg where
 key:Vector UInt8 16
 cf:Cn
 pl:Pc
 Qq:Option aU
 EA:Nat
 UA:Nat
 dnA:Option aU
 dnN:Nat
 dnC:Nat
 fl:Option Nat
 tb:Tc
 gN:Int
 no:Int
 mg:Vector Int 11
def Eg.aA(x:Eg):Array aC:=iU x.key++(x.cf.aA++(x.pl.aA++(#[.slice x.Qq x.EA x.UA,.slice x.dnA x.dnN x.dnC,afy x.fl]++(x.tb.aA++(#[.int .i64 x.gN,.int .i64 x.no]++zk x.mg)))))
theorem Eg.ak(x:Eg):x.aA.size=90:=by simp[Eg.aA,Cn.ak,Pc.ak,Tc.ak,dK,j3]
@[go_sem]theorem Eg.acX(x:Eg):x.aA.extract 0 16=iU x.key:=by simp[Eg.aA,dA,Cn.ak,Pc.ak,Tc.ak,dK,j3,qj,uq]
@[go_sem]theorem Eg.avj(x:Eg):x.aA.extract 16 70=x.cf.aA:=by simp[Eg.aA,dA,Cn.ak,Pc.ak,Tc.ak,dK,j3,qj,uq]
@[go_sem]theorem Eg.ajO(x:Eg):x.aA.extract 70 72=x.pl.aA:=by simp[Eg.aA,dA,Cn.ak,Pc.ak,Tc.ak,dK,j3,qj,uq]
@[go_sem]theorem Eg.aa7(x:Eg):x.aA[72]? = some (.slice x.Qq x.EA x.UA):=by simp[Eg.aA,aG,Cn.ak,Pc.ak,Tc.ak,dK,j3]
@[go_sem]theorem Eg.apN(x:Eg):x.aA[73]? = some (.slice x.dnA x.dnN x.dnC):=by simp[Eg.aA,aG,Cn.ak,Pc.ak,Tc.ak,dK,j3]
@[go_sem]theorem Eg.aa8(x:Eg):x.aA[74]? = some (afy x.fl):=by simp[Eg.aA,aG,Cn.ak,Pc.ak,Tc.ak,dK,j3]
@[go_sem]theorem Eg.apO(x:Eg):x.aA.extract 75 77=x.tb.aA:=by simp[Eg.aA,dA,Cn.ak,Pc.ak,Tc.ak,dK,j3,qj,uq]
@[go_sem]theorem Eg.Vk(x:Eg):x.aA[77]? = some (.int .i64 x.gN):=by simp[Eg.aA,aG,Cn.ak,Pc.ak,Tc.ak,dK,j3]
@[go_sem]theorem Eg.apP(x:Eg):x.aA[78]? = some (.int .i64 x.no):=by simp[Eg.aA,aG,Cn.ak,Pc.ak,Tc.ak,dK,j3]
@[go_sem]theorem Eg.apQ(x:Eg):x.aA.extract 79 90=zk x.mg:=by simp[Eg.aA,dA,Cn.ak,Pc.ak,Tc.ak,dK,j3,qj,uq]
theorem Eg.ah'(x:Eg)(A:Option aU)(n c:Nat):x.aA.setIfInBounds 72 (.slice A n c)=({x with Qq:=A,EA:=n,UA:=c}:Eg).aA:=by simp[Eg.aA,aM,Cn.ak,Pc.ak,Tc.ak,dK,j3]
theorem Eg.ayq(x:Eg)(A:Option aU)(n c:Nat):x.aA.setIfInBounds 73 (.slice A n c)=({x with dnA:=A,dnN:=n,dnC:=c}:Eg).aA:=by simp[Eg.aA,aM,Cn.ak,Pc.ak,Tc.ak,dK,j3]
theorem Eg.ayr(x:Eg)(v:Option Nat):x.aA.setIfInBounds 74 (afy v)=({x with fl:=v}:Eg).aA:=by simp[Eg.aA,aM,Cn.ak,Pc.ak,Tc.ak,dK,j3]
theorem Eg.afz(x:Eg)(v:Int):x.aA.setIfInBounds 77 (.int .i64 v)=({x with gN:=v}:Eg).aA:=by simp[Eg.aA,aM,Cn.ak,Pc.ak,Tc.ak,dK,j3]
theorem Eg.apR(x:Eg)(v:Int):x.aA.setIfInBounds 78 (.int .i64 v)=({x with no:=v}:Eg).aA:=by simp[Eg.aA,aM,Cn.ak,Pc.ak,Tc.ak,dK,j3]
def aJt:Eg:=⟨(bG 16 0),Rw,Zn,none,0,0,none,0,0,none,Dw,0,0,(bG 11 0)⟩
theorem kEg:oV 123 90 aJt.aA:=⟨⟨_,Eh,rfl⟩,by kernel_rfl,by kernel_rfl,Eg.ak _⟩
@[go_sem ↓]theorem aRQ(v:aC):bZ 123 v=yt 123 v:=rfl
@[go_sem ↓]theorem aRR(v x:aC):eD 123 v x=zW 123 v x:=rfl
@[go_sem ↓]theorem aRS(ps:Array (Nat×aC)):fJ 123 ps=uW 123 ps:=rfl
theorem aJu(w:au)(fs:Array nV)(h:aj.underlying 123=some (.struct fs)):(iB (fun f=>Prod.mk f.offset <$> sizeOf f.type) fs:Sem (Array (Nat×Nat))).run aj w=.ok #[(0,16),(16,54),(70,2),(72,1),(73,1),(74,1),(75,2),(77,1),(78,1),(79,11)] w:=by
 have e:=Eh;rw[h]at e;cases e;show _=_
 kernel_rfl
theorem Eg.atz(x:Eg)(v:Vector UInt8 16):sJ x.aA 0 (iU v)=({x with key:=v}:Eg).aA:=by
 unfold Eg.aA;exact Hg (by rw[dK,dK])
theorem Eg.ays(x:Eg)(v:Cn):sJ x.aA 16 v.aA=({x with cf:=v}:Eg).aA:=by
 unfold Eg.aA;exact qU (by rw[Cn.ak,Cn.ak]) 16 (dK _)
theorem Eg.apS(x:Eg)(v:Pc):sJ x.aA 70 v.aA=({x with pl:=v}:Eg).aA:=by
 unfold Eg.aA;have:=qU (p:=iU x.key++x.cf.aA) (q:=x.pl.aA) (r:=#[.slice x.Qq x.EA x.UA,.slice x.dnA x.dnN x.dnC,afy x.fl]++(x.tb.aA++(#[.int .i64 x.gN,.int .i64 x.no]++zk x.mg))) (v:=v.aA) (by rw[Pc.ak,Pc.ak]) 70 (by simp[Cn.ak,dK]);simpa[fT]using this
theorem Eg.ayt(x:Eg)(v:Tc):sJ x.aA 75 v.aA=({x with tb:=v}:Eg).aA:=by
 unfold Eg.aA;have:=qU (p:=iU x.key++x.cf.aA++x.pl.aA ++ #[.slice x.Qq x.EA x.UA,.slice x.dnA x.dnN x.dnC,afy x.fl]) (q:=x.tb.aA) (r:=#[.int .i64 x.gN,.int .i64 x.no]++zk x.mg) (v:=v.aA) (by rw[Tc.ak,Tc.ak]) 75 (by simp[Cn.ak,dK,Pc.ak]);simpa[fT]using this
theorem Eg.atA(x:Eg)(v:Vector Int 11):sJ x.aA 79 (zk v)=({x with mg:=v}:Eg).aA:=by
 unfold Eg.aA;have:=qU (p:=iU x.key++x.cf.aA++x.pl.aA ++ #[.slice x.Qq x.EA x.UA,.slice x.dnA x.dnN x.dnC,afy x.fl]++x.tb.aA ++ #[.int .i64 x.gN,.int .i64 x.no]) (q:=zk x.mg) (r:=#[]) (v:=zk v) (by rw[j3,j3]) 79 (by simp[Cn.ak,dK,Pc.ak,Tc.ak]);simpa[fT]using this
@[go_sem]theorem apT(W:au)(key:Vector UInt8 16)(cf:Cn)(pl:Pc)(A:Option aU)(n c:Nat)(ti no:Int)(ct:Vector Int 11):(uW 123 #[(0,.agg (iU key)),(1,.agg cf.aA),(2,.agg pl.aA),(3,.slice A n c),(7,.int .i64 ti),(8,.int .i64 no),(9,.agg (zk ct))]).run aj W=.ok (.agg (Eg.mk key cf pl A n c none 0 0 none Dw ti no ct).aA) W:=kEg.bd W _ _ _ _ Eh (aJu W _ Eh) (by
 refine(sS rfl (dK _) (by rw[Eg.ak];omega) (Eg.atz _ _)).trans ?_;refine(sS rfl (Cn.ak _) (by rw[Eg.ak];omega) (Eg.ays _ _)).trans ?_;refine(sS rfl (Pc.ak _) (by rw[Eg.ak];omega) (Eg.apS _ _)).trans ?_;refine(iy rfl rfl (by rw[Eg.ak];omega) (Eg.ah' _ _ _ _)).trans ?_;refine(iy rfl rfl (by rw[Eg.ak];omega) (Eg.afz _ _)).trans ?_;refine(iy rfl rfl (by rw[Eg.ak];omega) (Eg.apR _ _)).trans ?_;refine(sS rfl (j3 _) (by rw[Eg.ak];omega) (Eg.atA _ _)).trans ?_;rfl)
theorem Eg.Qe(x:Eg)(j:Nat)(hj:j<54):x.aA[16+j]? = x.cf.aA[j]?:=by
 have h:=Eg.avj x;have h2:(x.aA.extract 16 70)[j]? = x.cf.aA[j]?:=by rw[h]
 rw[dx,if_pos (by rw[Eg.ak];omega)]at h2;exact h2
theorem Eg.Qf(x:Eg)(a b:Nat)(hb:a<=b/\b<=54):x.aA.extract (16+a) (16+b)=x.cf.aA.extract a b:=by
 apply dV;intro j;rw[dx,dx,Eg.ak,Cn.ak];by_cases h:j<b-a
 ·rw[if_pos (by omega),if_pos (by omega),Nat.add_assoc];exact Eg.Qe x (a+j) (by omega)
 ·rw[if_neg (by omega),if_neg (by omega)]
theorem Eg.apU(x:Eg)(j:Nat)(hj:j<11):x.aA[79+j]? = some (.int .i64 (x.mg.toList.getD j 0)):=by
 have h:=Eg.apQ x;have h2:(x.aA.extract 79 90)[j]? = (zk x.mg)[j]?:=by rw[h]
 rw[dx,if_pos (by rw[Eg.ak];omega),WU _ _ hj]at h2;exact h2
theorem Eg.Yo(x:Eg):x.aA[70]? = some (.int .i64 x.pl.mq):=by
 have h2:(x.aA.extract 70 72)[0]? = x.pl.aA[0]?:=by rw[Eg.ajO]
 rwa [dx,if_pos (by rw[Eg.ak];omega),Pc.Yo]at h2
theorem Eg.FQ(x:Eg):x.aA[75]? = some (.slice x.tb.sV x.tb.rP x.tb.Da):=by
 have h2:(x.aA.extract 75 77)[0]? = x.tb.aA[0]?:=by rw[Eg.apO]
 rwa [dx,if_pos (by rw[Eg.ak];omega),Tc.FQ]at h2
theorem Eg.yQ(x:Eg):x.aA[76]? = some (.slice x.tb.qV x.tb.ql x.tb.yP):=by
 have h2:(x.aA.extract 75 77)[1]? = x.tb.aA[1]?:=by rw[Eg.apO]
 rwa [dx,if_pos (by rw[Eg.ak];omega),Tc.yQ]at h2
theorem Eg.KW(x:Eg):x.aA[16]? = some (.slice x.cf.qO x.cf.iH x.cf.qP):=(Eg.Qe x 0 (by omega)).trans (Cn.KW x.cf)
theorem Eg.He(x:Eg):x.aA[17]? = some (.int .i64 x.cf.size):=(Eg.Qe x 1 (by omega)).trans (Cn.He x.cf)
theorem Eg.U9(x:Eg):x.aA[25]? = some (.int .i64 x.cf.rise):=(Eg.Qe x 9 (by omega)).trans (Cn.U9 x.cf)
theorem Eg.Va(x:Eg):x.aA[26]? = some (.int .i64 x.cf.fall):=(Eg.Qe x 10 (by omega)).trans (Cn.Va x.cf)
theorem Eg.U4(x:Eg):x.aA.extract 19 25=Lp x.cf.kC:=(Eg.Qf x 3 9 (by omega)).trans (Cn.U4 x.cf)
theorem Eg.ahr(x:Eg):x.aA.extract 27 33=Bv x.cf.Gq:=(Eg.Qf x 11 17 (by omega)).trans (Cn.ahr x.cf)
theorem Eg.acp(x:Eg):x.aA.extract 33 50=x.cf.Dt.aA:=(Eg.Qf x 17 34 (by omega)).trans (Cn.acp x.cf)
theorem Eg.ahs(x:Eg):x.aA.extract 50 67=x.cf.j6.aA:=(Eg.Qf x 34 51 (by omega)).trans (Cn.ahs x.cf)
section
def wP(A:Option aU):List Nat:=match A with|some a=>[a.block]|none=>[]
theorem DY{A:Option aU}{b:Nat}:b∈wP A↔∃a,A=some a/\a.block=b:=by
 unfold wP;cases A with
 | none=>simp
 | some a=>simp[eq_comm]
def nZ(x:Eg):List Nat:=wP x.cf.qO++(wP x.pl.rA++(wP x.Qq++(wP x.dnA++(wP x.tb.sV++wP x.tb.qV))))
theorem dS{x:Eg}{b:Nat}:b∈nZ x↔b∈wP x.cf.qO\/b∈wP x.pl.rA\/b∈wP x.Qq\/b∈wP x.dnA\/b∈wP x.tb.sV\/b∈wP x.tb.qV:=by simp[nZ]
theorem kZ{W:au}{base sz n k c:Nat}{T:bM}{A:Option aU}{xs:List aC}(h:W.ownsRow base T sz (.slice A n c) k xs):∀b∈wP A,base<=b/\b<W.heap.size:=fun b hb=>by
 obtain⟨a,rfl,rfl⟩:=DY.1 hb;exact h.lt a.block rfl
theorem Vl{W W':au}{B sz n:Nat}{A:Option aU}{xs:List aC}{F:List Nat}(h:Rd W B sz A n xs)(hB:B<=W.heap.size)(hf:jE F W W')(hn:∀b∈wP A,b∉F):Rd W' W'.heap.size sz A n xs:=by
 refine⟨h.1,fun h0=>?_⟩;obtain⟨a,hA,hb,hc⟩:=h.2 h0;have hs:=hf.size;refine⟨a,hA,by omega,fun j u hu=>?_⟩;have h1:=hc j u hu;have h2:=hf.block a.block (by omega) (hn _ (DY.2 ⟨a,hA,rfl⟩));unfold World.cell? at h1 ⊢;rw[BJ]at h1 ⊢;rw[h2];exact h1
theorem iO.keep{α:Type}{f:α->Array aC}{sz:Nat}{W W':au}{n:Nat}{A:Option aU}{l:List α}{F:List Nat}(h:iO f sz W W.heap.size A n l)(hf:jE F W W')(hn:∀b∈wP A,b∉F):iO f sz W' W'.heap.size A n l:=⟨h.1,Vl h.2.1 (ay _) hf hn,h.2.2⟩
theorem LH.keep{W W':au}{q g:Nat}{key:Vector UInt8 16}{dR:Int}{s:List (Option Fw)}{l:List Fw}{F:List Nat}(h:LH W q g key dR s l)(hf:jE F W W')(h1:q∉F)(h2:g∉F):LH W' q g key dR s l:=⟨⟨hf.box h.w.tb h1,hf.box h.w.sl h2,h.w.ne,h.w.sz⟩,h.r,h.ok⟩
theorem TlR.keep{W W':au}{A1 A2:Option aU}{n1 n2:Nat}{t:Tl}{F:List Nat}(h:TlR W A1 n1 A2 n2 t)(hf:jE F W W')(h1:∀b∈wP A1,b∉F)(h2:∀b∈wP A2,b∉F):TlR W' A1 n1 A2 n2 t:=by
 obtain⟨k1,k2,k3⟩:=h;refine⟨k1.keep hf h1,k2,?_⟩;rcases k3 with k3|⟨g,d,rfl,k4,k5⟩
 ·exact .inl k3
 ·exact .inr ⟨g,d,rfl,hf.box k4 (h2 g (by simp[wP])),k5⟩
theorem TlR.go{W W':au}{A1 A2:Option aU}{n1 n2:Nat}{t:Tl}(h:TlR W A1 n1 A2 n2 t)(hb:aN W.heap.size W W'):TlR W' A1 n1 A2 n2 t:=h.keep (F:=[]) (jE.jq hb) (fun _ _ h=>by cases h) (fun _ _ h=>by cases h)
structure Nn(W:au)(q:Nat)(e:En)(s:qK)(x:Eg)(q2 g:Nat)(sl:List (Option Fw)):Prop where
 eg:dL W q x.aA
 key:x.key=e.key
 cf:x.cf={e.c with qO:=x.cf.qO,iH:=x.cf.iH,qP:=x.cf.qP}
 mq:x.pl.mq=s.mq
 vs:iO Vp.aA 20 W W.heap.size x.cf.qO x.cf.iH e.vs
 bk:iO Bk.aA 27 W W.heap.size x.pl.rA x.pl.rN s.sW
 hl:iO Hl.aA 3 W W.heap.size x.Qq x.EA s.nP
 fl:x.fl=some q2
 tb:LH W q2 g e.key e.c.dR sl s.sN
 rm:e.c.dR*2<=sl.length
 nq:q≠q2/\q≠g
 FT:∀b∈nZ x,b<W.heap.size/\b≠q/\b≠q2/\b≠g
 gN:x.gN=s.gN
 no:x.no=s.no
 mg:x.mg=s.mg
structure yY(W:au)(q:Nat)(e:En)(s:qK)(x:Eg)(q2 g:Nat)(sl:List (Option Fw)):Prop where
 b:Nn W q e s x q2 g sl
 dn:iO txA 1 W W.heap.size x.dnA x.dnN (nY s.nP)
 tt:TlR W x.tb.sV x.tb.rP x.tb.qV x.tb.ql (Ap e s)
variable {W W':au} {q:Nat} {e:En} {s:qK} {x:Eg} {q2 g:Nat} {sl:List (Option Fw)}
theorem Nn.go(h:Nn W q e s x q2 g sl)(hb:aN W.heap.size W W'):Nn W' q e s x q2 g sl:=
 ⟨h.eg.go hb,h.key,h.cf,h.mq,h.vs.go hb,h.bk.go hb,h.hl.go hb,h.fl,h.tb.go hb,h.rm,h.nq,fun b hm=>by have:=h.FT b hm;have:=hb.size;omega,h.gN,h.no,h.mg⟩
theorem yY.go(h:yY W q e s x q2 g sl)(hb:aN W.heap.size W W'):yY W' q e s x q2 g sl:=⟨h.b.go hb,h.dn.go hb,h.tt.go hb⟩
theorem Nn.lt(h:Nn W q e s x q2 g sl):q<W.heap.size/\q2<W.heap.size/\g<W.heap.size:=⟨h.eg.lt,h.tb.w.lt⟩
theorem Nn.out(h:Nn W q e s x q2 g sl){b:Nat}(hb:b∈nZ x):b∉[q]:=by have:=h.FT b hb;simp;omega
theorem Nn.V8(h:Nn W q e s x q2 g sl){A:Option aU}{n c:Nat}{t:Tc}(hf:jE [q] W W')(hb:dL W' q ({x with dnA:=A,dnN:=n,dnC:=c,tb:=t}:Eg).aA)(hr:∀b,b∈wP A\/b∈wP t.sV\/b∈wP t.qV->b∈nZ x\/W.heap.size<=b/\b<W'.heap.size):Nn W' q e s ({x with dnA:=A,dnN:=n,dnC:=c,tb:=t}:Eg) q2 g sl:=by
 have hs:=hf.size;have fP:=h.lt;refine⟨hb,h.key,h.cf,h.mq,h.vs.keep hf (fun b hm=>h.out (dS.2 (.inl hm))),h.bk.keep hf (fun b hm=>h.out (dS.2 (.inr (.inl hm)))),h.hl.keep hf (fun b hm=>h.out (dS.2 (.inr (.inr (.inl hm))))),h.fl,h.tb.keep hf (by have:=h.nq;simp;omega) (by have:=h.nq;simp;omega),h.rm,h.nq,fun b hm=>?_,h.gN,h.no,h.mg⟩;have key:b∈nZ x\/W.heap.size<=b/\b<W'.heap.size:=by
  rcases dS.1 hm with hm|hm|hm|hm|hm|hm
  ·exact .inl (dS.2 (.inl hm))
  ·exact .inl (dS.2 (.inr (.inl hm)))
  ·exact .inl (dS.2 (.inr (.inr (.inl hm))))
  ·exact hr b (.inl hm)
  ·exact hr b (.inr (.inl hm))
  ·exact hr b (.inr (.inr hm))
 rcases key with hm|hm
 ·have:=h.FT b hm;omega
 ·omega
theorem oG.few{M:Int}(h:oG M e s):s.sW.length<=1024/\s.nP.length<=1024/\∀y∈s.sW,y.name.length<=24:=by
 have h1:=(xH.1 h.pl)
 have h2:s.nP.length=s.sW.length:=by have:=congrArg List.length h.nm;simpa using this
 refine⟨h1.2.2.1,by have:=h1.2.2.1;omega,fun y hy=>?_⟩;have h3:=(h1.2.2.2.1 y hy).1;unfold Bk.Dq wD at h3;simp only[bl,decide_eq_true_eq]at h3;exact h3.1.1.1.2.2
theorem aa9{M:Int}(h:oG M e s)(ls:List (List UInt8)):atg (kV ls s.sW)/\∀y∈kV ls s.sW,y.name.length<=1000000:=by
 have hf:=h.few;refine⟨⟨?_,?_,?_⟩,?_⟩
 ·unfold Ya kV
  rw[List.pairwise_map];exact h.srt.imp (fun{a b} EH=>by first|exact EH|exact aaM EH)
 ·intro y hy
  unfold kV at hy;obtain⟨z,_,rfl⟩:=iQ.1 hy;have:=auf z.w;unfold GV;simp only;split<;>omega
 ·unfold kV;rw[bR];exact hf.1
 ·intro y hy
  unfold kV at hy;obtain⟨z,hz,rfl⟩:=iQ.1 hy;have:=hf.2.2 z hz;unfold GV;simp only;omega
theorem atB(l:List (List UInt8)):(l.flatMap fun x=>(txA x).toList)=l.map fun s=>jc (bV s):=by
 induction l with
 | nil=>rfl
 | cons a l ih=>rw[iJ,List.map_cons,ih];rfl
theorem iO.st{B n:Nat}{A:Option aU}{l:List (List UInt8)}(h:iO txA 1 W B A n l):abO W B A n l:=by
 have:=h.2.1;rw[atB]at this;exact this
theorem aa'(l:List Hl):(nY l).length<=l.length:=by unfold nY;rw[bR];exact oQ _ _
theorem oV.DZ{T:bM}{n b:Nat}{z c d:Array aC}(K:oV T n z)(h:dL W b c)(o:Nat)(hc:c.extract o (o+n)=d)(hs:o+n<=c.size):(yt T (.pointer (some ⟨b,o,none⟩))).run aj W=.ok (.agg d) W:=by
 obtain⟨_,_,h3,h4⟩:=h.aI;rw[K.ld W b o (by rw[h3 o n (by unfold eu;omega)];trivial),h4 o n (by unfold eu;omega),hc]
theorem Eg.al8{x:Eg}(h:dL W q x.aA):W.rangeAt q 0 (x.key.toList.map bv):=by
 intro j v hj;have hj6:j<16:=by
  rcases bf j 16 with h1|h1
  ·exact h1
  ·rw[aT (by simpa using h1)]at hj;cases hj
 have h2:(x.aA.extract 0 16)[j]? = (iU x.key)[j]?:=by rw[Eg.acX]
 rw[dx,if_pos (by rw[Eg.ak];omega)]at h2;rw[h.aI.1,h2];unfold iU;rw[List.getElem?_toArray];exact hj
theorem aia(key:Vector UInt8 16)(n:Nat)(hp:lI n=true)(hn:n<=65537)(l:List o9)(hk:atg l)(YQ:∀x∈l,x.name.length<=1000000)(A:Option aU)(m c:Nat)(w:au)(hR:iO o9.aA 2 w w.heap.size A m l):
 aR aj 27 #[.agg (key.toList.map bv).toArray,.int .i64 n,.slice A m c] w fun e w'=>∃t:Tc,e=.returned (.tuple #[.agg t.aA,.int .i64 0])/\TlR w' t.sV t.rP t.qV t.ql (uJ key n l)/\aN w.heap.size w w'/\∀b,b∈wP t.sV\/b∈wP t.qV->w.heap.size<=b/\b<w'.heap.size:=by
 refine(afw key n hp hn l hk YQ A m c w hR).mono ?_;rintro e w' ⟨A1,n1,c1,A2,n2,c2,rfl,h1,h2,h3,h4⟩;refine⟨⟨A1,n1,c1,A2,n2,c2⟩,rfl,h1,h2,fun b hb=>?_⟩;rcases hb with hb|hb
 ·obtain⟨a,ha,rfl⟩:=DY.1 hb;exact h3 a ha
 ·obtain⟨a,ha,rfl⟩:=DY.1 hb;exact h4 a ha
def ac'(W:au)(q:Nat)(e:En)(s:qK)(x:Eg)(q2 g:Nat)(sl:List (Option Fw))(r:kX)(W':au):Prop:=
 r=.returned (.tuple #[])/\(∃x',yY W' q e s x' q2 g sl/\∀b∈nZ x',b∈nZ x\/W.heap.size<=b)/\jE [q] W W'
theorem J8{M:Int}(h:Nn W q e s x q2 g sl)(hi:oG M e s):aR aj 64 #[.pointer (some ⟨q,0,none⟩)] W (ac' W q e s x q2 g sl):=by
 have al9:=hi.few;obtain⟨⟨sz2,szb,szp⟩,_⟩:=sU hi.cn;have hhn:=h.hl.1;have hbn:=h.bk.1;have CD:=Lib.hid (anF s.nP x.Qq x.EA x.UA W h.hl (by omega));unfold TxP at CD;have f72:=(h.eg.aI.1 72).trans (Eg.aa7 x);have H:=Lib.hid h;have HI:=Lib.hid hi;have HSH:=Lib.hid (aa9 hi (nY s.nP));have HDN:=Lib.hid (aa' s.nP);have aDh:=Lib.hid al9;have HSZ:=Lib.hid (show(0<=e.c.size/\e.c.size<=65537)/\lI e.c.size.toNat=true from⟨⟨by omega,szb⟩,szp⟩);have HHN:=Lib.hid hhn;have HBN:=Lib.hid hbn;clear hi h al9 sz2 szb szp hhn hbn;go_enter Tryz.func64,Tryz.ntmps64;go_upto_region 1 with(go_at_call 130;(with_reducible refine CD.out.mono ?_);rintro r w1 ⟨A,n,c,rfl,hn,ho,hb⟩;have aJw:=(H.out.eg.go hb).aI.2.1 73;have f73:=((H.out.eg.go hb).aI.1 73).trans (Eg.apN x);have H1:=Lib.hid (H.out.go hb);have O1:=Lib.hid ho;have N1:=Lib.hid hn;have F1:=Lib.hid (jE.jq (F:=[q]) hb);clear hb ho hn f72)
 obtain⟨x1,Qk⟩:∃x1:Eg,x1={x with dnA:=A,dnN:=n,dnC:=c}:=⟨_,rfl⟩
 have gI:dL (w1.setCell ⟨q,73,none⟩ (.slice A n c)) q x1.aA:=by
  have:=H1.out.eg.eG 73 (.slice A n c);rw[Eg.ayq]at this;rw[Qk];exact this
 have Wt:jE [q] W (w1.setCell ⟨q,73,none⟩ (.slice A n c)):=F1.out.set ⟨q,73,none⟩ _ (.inl (by simp));have HF1:=Lib.hid Wt;have HFR:=Lib.hid (kZ O1.out);have RDN:=Lib.hid (show iO txA 1 (w1.setCell ⟨q,73,none⟩ (.slice A n c)) (w1.setCell ⟨q,73,none⟩ (.slice A n c)).heap.size A n (nY s.nP)from(iO.iX N1.out O1.out).keep ((jE.refl [q] w1).set ⟨q,73,none⟩ _ (.inl (by simp))) (fun b hb=>by have:=kZ O1.out b hb;have:=H.out.lt;simp;omega));have RBK:=Lib.hid (H.out.bk.keep Wt (fun b hm=>H.out.out (dS.2 (.inr (.inl hm)))));have HSW:=Lib.hid (show W.heap.size<=w1.heap.size from F1.out.size);have HWS:(w1.setCell ⟨q,73,none⟩ (.slice A n c)).heap.size=w1.heap.size:=by simp[World.setCell]
 have HWZ:=Lib.hid HWS;have qd:=Lib.hid gI;generalize w1.setCell ⟨q,73,none⟩ (.slice A n c)=w2 at HF1 RDN RBK HWZ qd ⊢;clear gI Wt HWS O1 H1 f73 aJw CD F1;have K1:=Lib.hid (fun(w':au) (t:Tc) (h:dL w' q ({x1 with tb:=t}:Eg).aA)=>show w'.rangeAt q 0 (e.key.toList.map bv)/\w'.cell? ⟨q,17,none⟩=some (.int .i64 e.c.size)/\(yt 32 (.pointer (some ⟨q,70,none⟩))).run aj w'=.ok (.agg x.pl.aA) w'/\w'.cell? ⟨q,73,none⟩=some (.slice A n c)by
  subst Qk;have hk:x.key=e.key:=H.out.key;have hs:x.cf.size=e.c.size:=by rw[H.out.cf]
  refine⟨?_,?_,kPc.DZ h 70 (Eg.ajO _) (by rw[Eg.ak];omega),(h.aI.1 73).trans (Eg.apN _)⟩
  ·have hr:=Eg.al8 h;rw[<-hk];exact hr
  ·rw[<-hs];exact(h.aI.1 17).trans (Eg.He _))
 have HBX:=Lib.hid (show dL w2.drew q ({x1 with tb:=x.tb}:Eg).aA by have:=qd.out.drew;rw[Qk]at this⊢;exact this);obtain⟨k1,k2,k3,k4⟩:=K1.out _ _ HBX.out;have hxb:=HBN.out;have YV:=N1.out;have CS:=Lib.hid (ag0 s.sW (fun y hy=>HI.out.fi y hy) x.pl.mq x.pl.rA x.pl.rC (nY s.nP) A c w2.drew (by rw[hxb];exact RBK.out.aud) (by rw[YV];exact RDN.out.aud.st) (by have:=aDh.out;omega) (by have:=aDh.out;have:=HDN.out;omega));rw[hxb,YV]at CS;unfold ab2 at CS
 replace CS:=Lib.hid (show aR aj 28 #[.agg x.pl.aA,.slice A n c] w2.drew _ from CS.out)
 have CM:=Lib.hid (fun w (A:Option aU) (m c:Nat) (hR:iO o9.aA 2 w w.heap.size A m (kV (nY s.nP) s.sW))=>aia e.key e.c.size.toNat HSZ.out.2 (by have:=HSZ.out.1;omega) _ HSH.out.1 HSH.out.2 A m c w hR);rw[show((e.c.size.toNat:Nat):Int)=e.c.size from Int.toNat_of_nonneg HSZ.out.1.1]at CM;have HX1:=Lib.hid Qk;clear Qk hxb YV;have hU:=Tryz.underlying22;have hI:(aj.info? 22).map (·.size)=some (e.key.toList.map bv).length:=by rw[bR,Vector.length_toList];kernel_rfl
 go_region_held_law (fun w'=>w'.rangeAt q 0 (e.key.toList.map bv)/\w'.cell? ⟨q,17,none⟩=some (.int .i64 e.c.size)/\(yt 32 (.pointer (some ⟨q,70,none⟩))).run aj w'=.ok (.agg x.pl.aA) w'/\w'.cell? ⟨q,73,none⟩=some (.slice A n c))
  (first|exact K1.out _ _ HBX.out|exact K1.out _ _ HB3.out|exact K1.out _ _ HB4.out|exact K1.out _ _ HB5.out|go_keep)
  (first
  | (go_at_call 28;(with_reducible refine CS.out.mono ?_);rintro r w3 ⟨A3,c3,rfl,Bj,uH⟩;have HB3:=Lib.hid (HBX.out.go uH);have CM3:=Lib.hid (CM.out w3 A3 _ c3 (iO.iX rfl Bj));have BL3:=Lib.hid uH;clear Bj uH)
  | (go_at_call 27;(with_reducible refine CM3.out.mono ?_);rintro r w4 ⟨t,rfl,ht,M8,hf4⟩;have HB4:=Lib.hid (HB3.out.go M8);have HT4:=Lib.hid ht;have BL4:=Lib.hid (ji BL3.out M8);have HF4:=Lib.hid hf4;have th:=HB4.out.there 75 2 (by rw[Eg.ak];omega);have HB5:=Lib.hid (show dL (gT w4 q 75 t.aA) q ({x1 with tb:=t}:Eg).aA by have:=HB4.out.setCells 75 t.aA.toList;rw[show t.aA.toList.toArray=t.aA by simp,Eg.ayt]at this;exact this);clear ht M8 hf4))
 have BW:=Lib.hid (ji ((Below.refl w2.heap.size w2).drew) BL4.out);have F4:jE [q] W w4:=HF1.out.below BW.out HF1.out.size;have F5:jE [q] W (gT w4 q 75 t.aA):=F4.grown (lS (World.grownBy.refl w4 (some q)) 75 t.aA) (fun k e=>.inl (by injection e with e;simp[e]));have FS:jE [q] w4 (gT w4 q 75 t.aA):=(jE.refl [q] w4).grown (lS (World.grownBy.refl w4 (some q)) 75 t.aA) (fun k e=>.inl (by injection e with e;simp[e]));have jB:=BW.out.size;have aRZ:=BL3.out.size;have Io:=HSW.out;have hwz:=HWZ.out;have hs5:=FS.size;have hq:=H.out.lt;have aib:∀b,b∈wP A\/b∈wP t.sV\/b∈wP t.qV->W.heap.size<=b/\b<(gT w4 q 75 t.aA).heap.size:=fun b hm=>by
  rcases hm with hm|hm
  ·have:=HFR.out b hm;omega
  ·have:=HF4.out b hm
   have h3:w2.drew.heap.size=w2.heap.size:=rfl;omega
 go_end0;refine⟨rfl,⟨{x with dnA:=A,dnN:=n,dnC:=c,tb:=t},⟨H.out.V8 F5 (by have:=HB5.out;rw[HX1.out]at this;exact this) (fun b hm=>.inr (aib b hm)),?_,?_⟩,fun b hm=>?_⟩,F5⟩
 ·have h1:=(RDN.out.go BW.out)
  exact h1.keep FS (fun b hm=>by have:=(aib b (.inl hm)).1;simp;omega)
 ·exact HT4.out.keep FS (fun b hm=>by have:=(aib b (.inr (.inl hm))).1;simp;omega) (fun b hm=>by have:=(aib b (.inr (.inr hm))).1;simp;omega)
 ·rcases dS.1 hm with hm|hm|hm|hm|hm|hm
  ·exact .inl (dS.2 (.inl hm))
  ·exact .inl (dS.2 (.inr (.inl hm)))
  ·exact .inl (dS.2 (.inr (.inr (.inl hm))))
  ·exact .inr (aib b (.inl hm)).1
  ·exact .inr (aib b (.inr (.inl hm))).1
  ·exact .inr (aib b (.inr (.inr hm))).1
end
theorem afA(l:List Bk)(v:Int)(A:Option aU)(n c:Nat)(w:au)(hR:iO Bk.aA 27 w w.heap.size A n l)(hn:n<=100000):
 aR aj 73 #[.agg (Pc.mk v A n c).aA] w fun e w'=>∃A' n' c',e=.returned (.slice A' n' c')/\iO txA 1 w' w'.heap.size A' n' (l.map (·.name))/\aN w.heap.size w w':=by
 have Z0:=Lib.hid ((Rz.nil (f:=nmC) (sz:=1) (e:=9) w).new (Pc.mk v A n c).aA 32);have HL:=Lib.hid hR.1;have HR:=Lib.hid hR;have f1:=(Z0.out.b0.aI.1 1).trans (Pc.apM _);clear hR;go_enter Tryz.func73,Tryz.ntmps73;go_upto_region 1 with fail
 generalize w.alloc (.cells (Pc.mk v A n c).aA 32)=w1 at Z0 f1 ⊢;go_wp2_with fail;go_loopw [3,9] (fun v3 v9 wr=>∃k A' n' c',k<=n/\v9=.int .i64 (k:Nat)/\v3=.slice A' n' c'/\Rz nmC 1 9 [(w.heap.size,(Pc.mk v A n c).aA)] w wr (.slice A' n' c') ((l.take k).map (·.name))) (fun _ v9 _=>n-(intOf v9).toNat)
 case atStart=>exact⟨0,none,0,0,Nat.zero_le _,rfl,rfl,Z0.out⟩
 case round=>
  obtain⟨k,A1,n1,c1,hk,rfl,rfl,hz⟩:=hrel;by_cases fP:k<n
  ·have KO:(k:Int)<n:=by omega
   have i1:=jU ((k:Int)+1) (by omega);have hr:=(HR.out.below hz.dF).lF (B':=wr.heap.size) hz.dF.size;obtain⟨b,o,rfl,Jp,a1,a2⟩:=hr.fE Bk.ak jo fP;obtain⟨x,hx⟩:∃x,x=l.getD k jo:=⟨_,rfl⟩
   rw[<-hx]at a2;have HS:=Lib.hid (show(l.take (k+1)).map (·.name)=(l.take k).map (·.name)++[x.name]by
    rw[List.take_succ_eq_append_getElem (by rw[HL.out];exact fP),List.map_append,hx,av,aD (by rw[HL.out];exact fP)];rfl)
   have HZ:=Lib.hid hz;have Z2:=Lib.hid (hz.alloc (.cells x.aA 62));have Z3:=Lib.hid (Z2.out.alloc (.cells (nmC x.name) 9));have RO:=Lib.hid (iO.one (f:=nmC) x.name Qd (wr.alloc (.cells x.aA 62)) 9);simp only[World.size_alloc]at RO;have HGL:=Lib.hid (show((l.take k).map (·.name)).length+1<=1000000 by rw[bR,bK];omega);have BX:=dL.new wr x.aA 62;have f0:=(BX.aI.1 0).trans (Bk.qH x);clear hx hz hr BX Jp;go_wp2_with (at_builtin;refine Rv ajK rfl (.tmp 13) (.tmp 16) rfl rfl Z3.out rfl RO.out HGL.out ?_;intro A5 n5 c5 w5 h5 h6;have Z5:=Lib.hid h5;clear h5 h6);go_roundw
   case rel=>exact⟨k+1,A5,n5,c5,by omega,by simp,rfl,by rw[HS.out];exact Z5.out⟩
   case measure=>simp[intOf];omega
  ·obtain rfl:k=n:=by omega
   have hd:decide ((k:Int)<k)=false:=by simp
   have HZ:=Lib.hid hz;clear hz;go_wp2;go_ret;have h1:=HZ.out;rw[List.take_of_length_le (by rw[HL.out];exact ay _)]at h1;exact⟨A1,n1,c1,rfl,h1.rd,h1.dF⟩
section
variable {W W':au} {q:Nat} {e:En} {s:qK} {x:Eg} {q2 g:Nat} {sl:List (Option Fw)}
def TV(k:Int):aC:=.iface 219 (.int .i64 k)
def aDj(r:Option (Bk×Bool)):kX:=match r with
 | some (b,h)=>.returned (.tuple #[.agg b.aA,.bool h])
 | none=>.panicked [{v:=TV 8,recovered:=false}]
theorem dL.ada{W:au}{b o:Nat}{c:Array aC}{t:Tu}(h:dL W b c)(hc:c.extract o (o+37)=t.aA)(hs:o+37<=c.size):(xI (.pointer (some ⟨b,o,none⟩))).run aj W=.ok (.agg t.aA) W:=by
 obtain⟨_,_,h3,h4⟩:=h.aI;rw[UW W b o (by rw[h3 o 37 (by unfold eu;omega)];trivial),h4 o 37 (by unfold eu;omega),hc]
theorem Nn.apV(h:Nn W q e s x q2 g sl){W':au}(hb:aN W.heap.size W W'):W'.cell? ⟨q,74,none⟩=some (.pointer (some ⟨q2,0,none⟩)):=by
 rw[(h.eg.go hb).aI.1 74,Eg.aa8];show some (Value.pointer (x.fl.map fun b=>⟨b,0,none⟩))=_;rw[h.fl];rfl
theorem Nn.aic(h:Nn W q e s x q2 g sl){W':au}(hb:aN W.heap.size W W'):(yt 32 (.pointer (some ⟨q,70,none⟩))).run aj W'=.ok (.agg x.pl.aA) W':=kPc.DZ (h.eg.go hb) 70 (Eg.ajO _) (by rw[Eg.ak];omega)
theorem yY.Xa(h:yY W q e s x q2 g sl){M:Int}(hi:oG M e s){W':au}(hb:aN W.heap.size W W')(n:List UInt8)(K:Bool)(b:Bk)(h1:sZ s.sW n=K)(h2:qp s.sW n=b):aR aj 33 #[.agg x.pl.aA,.string (bV n)] W' fun e w'=>e=.returned (.tuple #[.agg b.aA,.bool K])/\aN W'.heap.size W' w':=
 akX s.sW hi.srt n x.pl.mq x.pl.rA x.pl.rN x.pl.rC W' (h.b.bk.go hb) (by have:=hi.few;have:=h.b.bk.1;omega) K b h1 h2
theorem apW(k:Vector UInt8 16)(l:List UInt8):yF k l<18446744073709551616:=by
 have key:∀(ws:List Nat)(st:S4),st.ok->(∀n∈ws,n<18446744073709551616)->(ws.foldl Wi st).ok:=by
  intro ws
  induction ws with
  | nil=>intro st h _;exact h
  | cons n ws ih=>intro st h hw;exact ih _ (abN h (hw n (by simp))) (fun m hm=>hw m (jX _ hm))
 unfold yF anz;exact arD (Oi 4 _ (abM (key _ _ (aiS k) (aac _ l _ rfl (fD _ (by decide)))) (by decide)))
theorem apX(r:Option (List UInt8)):avi r=.tuple #[.string (bV (r.getD [])),.bool r.isSome]:=by cases r<;>rfl
theorem ayv{M:Int}(hi:oG M e s):aDf (Ap e s)/\(Ap e s).uP.length<=65537/\(Ap e s).names.length<=1024:=by
 obtain⟨⟨_,szb,szp⟩,_⟩:=sU hi.cn;have h0:∀y∈kV (nY s.nP) s.sW,0<=y.q:=fun y hy=>((aa9 hi (nY s.nP)).1.2.1 y hy).1
 have zC:(Ap e s).names.length<=1024:=by
  have h1:=hi.few.1;unfold Ap uJ;simp only;split
  ·simp
  ·simp only[bR]
   refine aP (oQ _ _) ?_;unfold kV;rw[bR];exact h1
 rcases aal (key:=e.key) szp h0 with⟨h1,h2⟩|⟨h1,h2⟩
 ·refine⟨fun j hj=>?_,?_,zC⟩
  ·have:(Ap e s).uP.length=0:=by unfold Ap;rw[h1];rfl
   omega
  ·have:(Ap e s).uP.length=0:=by unfold Ap;rw[h1];rfl
   omega
 ·refine⟨fun j hj=>h2 j (by unfold Ap at hj;rwa [h1]at hj),?_,zC⟩
  have:(Ap e s).uP.length=e.c.size.toNat:=h1;omega
theorem kBk:oV 62 27 jo.aA:=⟨⟨_,Tryz.underlying62,rfl⟩,by kernel_rfl,by kernel_rfl,Bk.ak _⟩
theorem dL.ayw{W:au}{b:Nat}{y:Bk}(h:dL W b y.aA):(VI (.pointer (some ⟨b,0,none⟩))).run aj W=.ok (.agg y.aA) W:=by
 have:=kBk.DZ h 0 (d:=y.aA) (by have:=Bk.ak y;rw[<-this];simp) (by rw[Bk.ak];omega);exact this
theorem Zo{M:Int}(h:yY W q e s x q2 g sl)(hi:oG M e s)(t:Tu)(ht:xJ t):aR aj 136 #[.pointer (some ⟨q,0,none⟩),.agg t.aA] W fun r W'=>r=aDj (JW e s t)/\aN W.heap.size W W':=by
 have Z0:=Lib.hid (((Bx.start W).new t.aA 81).new jo.aA 62);rw[show(W.alloc (.cells t.aA 81)).heap.size=W.heap.size+1 by simp]at Z0;have H:=Lib.hid h;have HI:=Lib.hid hi;have HT:=Lib.hid ht;obtain⟨o,ho⟩:∃o,o=pW s.sN t:=⟨_,rfl⟩
 have HO:=Lib.hid ho;have CG:=Lib.hid (fun(w:au) (hb:aN W.heap.size W w)=>La (H.out.b.tb.go hb) t);rw[<-ho]at CG;have hcg:∀o,apx o=.tuple #[.agg (wI o).rz.aA,.bool o.isSome]:=fun _=>rfl
 simp only[hcg]at CG;clear h hi ht ho hcg;go_enter Tryz.func136,Tryz.ntmps136;go_upto_region 1 with fail
 generalize(W.alloc (.cells t.aA 81)).alloc (.cells jo.aA 62)=w1 at Z0 ⊢;refine xL (Bx.acD ([(W.heap.size+1,jo.aA),(W.heap.size,t.aA)]) W) 9 10 8 6 22 86 kQ.aA (by kernel_rfl) rfl rfl rfl rfl rfl (by kernel_rfl) (by kernel_rfl) (by kernel_rfl) (by kernel_rfl) (by kernel_rfl) rfl rfl rfl (fun a w=>by simp[go_sem]) (tZ rfl) Z0.out.drew ?_;apply Exists.intro;refine⟨fun T f hT es ew=>?_,?_⟩
 ·have EW:=Lib.hid ew
  have ES:=Lib.hid es;have l1:=fun m=>pO (ES.out m).b1
  have l2:=fun m=>H.out.b.apV (ES.out m).dF
  have CF:=Lib.hid (fun m=>CG.out _ (ES.out m).dF);clear es ew;simp only[mM,yO,kW,List.set_cons_succ,List.set_cons_zero,List.take_succ_cons,List.take_zero]
  repeat(go_big_quiet_step ((first|(go_at_call 126;(with_reducible refine(CF.out _).mono ?_);rintro e w2 ⟨rfl,hb⟩;exact⟨rfl,EW.out _ _ hb⟩))))
  exact wpQuiet_nil rfl
 ·intro w9 w8 Am _ hb
  have ZN:=Lib.hid ((Am.new kQ.aA 86).go hb);have hyy:=Lib.hid Am;have hy:=Am.dF.size;have Xr:=Lib.hid (fun p (hp:p∈[(W.heap.size+1,jo.aA),(W.heap.size,t.aA)])=>((Am.2 p hp).2.lt:p.1<w9.heap.size));generalize w9.heap.size=y at *;clear hb Am;have zq:=ZN.out.b0.there 0 41 (aY (Fw.ak kQ).symm);refine⟨gT w8 y 0 (wI o).rz.aA,?_,?_⟩
  ·simp[go_sem,zq];rfl
  simp only[Act.put,List.setIfInBounds_toArray,List.set_cons_succ,List.set_cons_zero,List.drop_succ_cons,lg];have Z5:=Lib.hid (ZN.out.put (fun p hp=>Nat.ne_of_lt (Xr.out p hp)) (wI o).rz.aA (by rw[Fw.ak,Fw.ak]));have HYB:=Lib.hid (fun p hp=>Xr.out p hp);clear zq ZN hyy Xr;generalize gT w8 y 0 (wI o).rz.aA=w9 at Z5 ⊢;go_step;go_step;go_step;have fP:=H.out.b.lt;have hyW:W.heap.size<=y:=by have:=HYB.out (W.heap.size,t.aA) (by simp);simp at this;omega
  obtain⟨z,hz⟩:∃z,z=(match o with|some f=>!xW (nY s.nP) f.name|none=>false):=⟨_,rfl⟩
  go_upto_region 2 with fail
  go_cut [33]from 23 to 32 (fun s33 wx=>s33=.bool z/\Bx [(y,(wI o).rz.aA),(W.heap.size+1,jo.aA),(W.heap.size,t.aA)] W wx)
  case first=>
   cases o with
   | none=>
     go_wp2_with fail;go_quiet (fail);go_wp2_with fail;go_meet
     case rel=>exact⟨by rw[hz],Z5.out.go (fI (Below.refl _ _) nq)⟩
   | some f=>
     have CC:=Lib.hid (fun n=>Oj (nY s.nP) f.name x.dnA x.dnC (w9.drewN n) (by rw[H.out.dn.1];exact(H.out.dn.go (Z5.out.dF.trans ((fI (Below.refl W.heap.size _) n).mono (ay _)))).st) (by have:=aa' s.nP;have:=HI.out.few;omega));rw[H.out.dn.1]at CC;have f73:=((H.out.b.eg.go Z5.out.dF).aI.1 73).trans (Eg.apN x);have f37:=(Z5.out.b0.aI.1 37).trans (Fw.ahb f);go_wp2_with fail;go_quiet ((go_at_call 87;(with_reducible refine(CC.out _).mono ?_);rintro e w2 ⟨rfl,rfl⟩;exact⟨rfl,_,rfl⟩));go_wp2_with fail;go_meet
     case rel=>exact⟨by rw[hz],Z5.out.go (fI (Below.refl _ _) nq)⟩
  obtain⟨rfl,Z6⟩:=hcut;have Z6:=Lib.hid Z6;generalize wc=w10 at Z6 ⊢;clear Z5 CG;go_upto_if 33 with fail
  go_cut []from 34 to 45 (fun wx=>PY s t=none/\Bx [(W.heap.size+1,jo.aA),(W.heap.size,t.aA)] W wx)
  case first=>
   cases z with
   | false=>
     have HN:PY s t=none:=by
      unfold PY;rw[<-HO.out];cases o with
      | none=>rfl
      | some f=>simp only at hz⊢;rw[<-hz];simp
     go_wp2_with fail;go_meet
     case rel=>exact⟨HN,Z6.out.sub (L':=[(W.heap.size+1,jo.aA),(W.heap.size,t.aA)]) (by simp)⟩
   | true=>
     cases o with
     | none=>cases hz
     | some fl=>
       have HD:=Lib.hid (show xW (nY s.nP) fl.name=false by simpa using hz.symm);obtain⟨K,hK⟩:∃K,sZ s.sW fl.name=K:=⟨_,rfl⟩
       obtain⟨b,hb⟩:∃b,qp s.sW fl.name=b:=⟨_,rfl⟩
       have CP:=Lib.hid (fun w (hb':aN W.heap.size W w)=>H.out.Xa HI.out hb' fl.name K b hK hb);have HK:=Lib.hid hK;have IJ:=Lib.hid hb;have HO2:=Lib.hid HO.out;have Z6:=Lib.hid (show Bx [(y,fl.aA),(W.heap.size+1,jo.aA),(W.heap.size,t.aA)] W w10 from Z6.out);clear hK hb hz;go_upto_region 3 with fail
       refine xL (Bx.acD ([(y,fl.aA),(W.heap.size+1,jo.aA),(W.heap.size,t.aA)]) W) 10 11 9 8 43 62 jo.aA (by kernel_rfl) rfl rfl rfl rfl rfl (by kernel_rfl) (by kernel_rfl) (by kernel_rfl) (by kernel_rfl) (by kernel_rfl) rfl rfl rfl (fun a w=>by simp[go_sem]) (tZ rfl) Z6.out.drew ?_;apply Exists.intro;refine⟨fun T f hT es ew=>?_,?_⟩
       ·have EW:=Lib.hid ew
        have ES:=Lib.hid es;have l1:=fun m=>H.out.b.aic (ES.out m).dF
        have l2:=fun m=>((ES.out m).b0.aI.1 37).trans (Fw.ahb fl)
        have CF:=Lib.hid (fun m=>CP.out _ (ES.out m).dF);clear es ew;simp only[mM,yO,kW,List.set_cons_succ,List.set_cons_zero,List.take_succ_cons,List.take_zero]
        repeat(go_big_quiet_step ((first|(go_at_call 33;(with_reducible refine(CF.out _).mono ?_);rintro e w2 ⟨rfl,hb⟩;exact⟨rfl,EW.out _ _ hb⟩))))
        exact wpQuiet_nil rfl
       ·intro w9 w8 Am _ hb
        have ZN:=Lib.hid ((Am.new jo.aA 62).go hb);have hyy:=Lib.hid Am;have hy:=Am.dF.size;have Xr:=Lib.hid (fun p (hp:p∈[(y,fl.aA),(W.heap.size+1,jo.aA),(W.heap.size,t.aA)])=>((Am.2 p hp).2.lt:p.1<w9.heap.size));generalize w9.heap.size=y_1 at *;clear hb Am;have zq:=ZN.out.b0.there 0 27 (aY (Bk.ak jo).symm);refine⟨gT w8 y_1 0 b.aA,?_,?_⟩
        ·simp[go_sem,zq];rfl
        simp only[Act.put,List.setIfInBounds_toArray,List.set_cons_succ,List.set_cons_zero,List.drop_succ_cons,lg];have Z7:=Lib.hid (ZN.out.put (fun p hp=>Nat.ne_of_lt (Xr.out p hp)) b.aA (by rw[Bk.ak,Bk.ak]));have HYC:=Lib.hid (fun p hp=>Xr.out p hp);clear zq ZN hyy Xr CP;generalize gT w8 y_1 0 b.aA=w11 at Z7 ⊢;go_step;go_step;go_step;cases K with
        | false=>
          have HN:=Lib.hid (show PY s t=none by unfold PY;rw[<-HO2.out];simp only;rw[HK.out];rfl);go_wp2_with fail;go_meet
          case rel=>exact⟨HN.out,Z7.out.sub (L':=[(W.heap.size+1,jo.aA),(W.heap.size,t.aA)]) (by simp)⟩
        | true=>
          have HN:=Lib.hid (show JW e s t=some (b,true)by
           have:PY s t=some fl.name:=axS HO2.out.symm HK.out HD.out;unfold JW;rw[this];simp only;rw[IJ.out])
          have lb:=Z7.out.b0.ayw;have th:=Z7.out.b2.there 0 27 (aY (Bk.ak jo).symm);have Z8:=Lib.hid ((Z7.out.sub (L':=[(W.heap.size+1,jo.aA),(W.heap.size,t.aA)]) (by simp)).put (fun p hp=>by simp at hp;subst hp;simp) b.aA (by rw[Bk.ak,Bk.ak]));go_wp2;refine bodyPost_ret (kBk.qL rfl _ rfl Z8.out.b0 (Bk.ak _)) rfl ?_;rw[HN.out];exact⟨rfl,Z8.out.dF⟩
  obtain⟨hn,Zc⟩:=hcut;have HN:=Lib.hid hn;have Zc:=Lib.hid Zc;have Di:=ayv HI.out;obtain⟨hh,hhe⟩:∃v,v=yF e.key (NA t):=⟨_,rfl⟩
  have hhl:hh<18446744073709551616:=by rw[hhe];exact apW _ _
  have CH:=Lib.hid (fun w=>TM e.key t HT.out w);rw[<-hhe]at CH;obtain⟨r,hr⟩:∃r,r=Iq (Ap e s) hh:=⟨_,rfl⟩
  have CK:=Lib.hid (fun w (hb:aN W.heap.size W w)=>show aR aj 35 #[.agg x.tb.aA,.int .u64 (hh:Nat)] w fun e w'=>e=.returned (.tuple #[.string (bV (r.getD [])),.bool r.isSome])/\aN w.heap.size w w' by
   rw[<-apX,hr];exact ah8 (Ap e s) Di.1 hh hhl x.tb.sV x.tb.rP x.tb.Da x.tb.qV x.tb.ql x.tb.yP w (H.out.tt.go hb) (by have:=H.out.tt.2.1;omega) (by have:=H.out.tt.1.1;omega))
  have Xx:=Lib.hid (show Iq (Ap e s) (ajt e t)=r by rw[hr,hhe];rfl);clear hn Di hhe hhl hr Z6 hz hyW;generalize wc=w12 at Zc ⊢;go_wp2_with fail;obtain⟨T,f,n0,E0,es,ew⟩:=yg (w12);have hT:Nonempty T:=⟨n0⟩
  have ES:=Lib.hid es;have EW:=Lib.hid ew;have l1:=fun m=>pO (Zc.out.go (es m)).b1
  have l2:=fun m=>kTc.DZ (H.out.b.eg.go (Zc.out.go (es m)).dF) 75 (Eg.apO _) (by rw[Eg.ak];omega)
  have l3:∀m,(yt 22 (.pointer (some ⟨q,0,none⟩))).run aj (f m)=.ok (.agg (iU e.key)) (f m):=fun m=>by have:=XV.DZ (H.out.b.eg.go (Zc.out.go (es m)).dF) 0 (Eg.acX _) (by rw[Eg.ak];omega);rw[H.out.b.key]at this;exact this
  have CK2:=Lib.hid (fun m=>CK.out (f m) (Zc.out.go (es m)).dF);clear es ew;refine pK f (by kernel_rfl) (by kernel_rfl) n0 E0 ?_
  repeat(go_big_quiet_step ((first|(go_at_call 36;(with_reducible refine(CH.out _).mono ?_);rintro e w2 ⟨rfl,hb⟩;exact⟨rfl,EW.out _ ((ES.out _).trans (hb.mono (ES.out _).size))⟩)|(go_at_call 35;(with_reducible refine(CK2.out _).mono ?_);rintro e w2 ⟨rfl,hb⟩;exact⟨rfl,EW.out _ ((ES.out _).trans (hb.mono (ES.out _).size))⟩))))
  refine wpQuiet_nil ?_;rintro _ ⟨m',rfl⟩;have HB:=Lib.hid (ES.out m');generalize f m'=wN at *;clear ES EW E0 hT n0;clear l1 l2 l3 CK2;have Z9:=Lib.hid (Zc.out.go HB.out);clear Zc HB CK CH;cases r with
  | none=>
    have HE:=Lib.hid (show JW e s t=none by unfold JW;rw[HN.out];simp only;rw[Xx.out];rfl);go_wp2;rw[HE.out];exact⟨rfl,rfl,Z9.out.dF⟩
  | some n=>
    obtain⟨K,hK⟩:∃K,sZ s.sW n=K:=⟨_,rfl⟩
    obtain⟨b,hb⟩:∃b,qp s.sW n=b:=⟨_,rfl⟩
    have HE:=Lib.hid (show JW e s t=some (b,false)by unfold JW;rw[HN.out];simp only;rw[Xx.out,Option.map_some,hb]);have CP:=Lib.hid (H.out.Xa HI.out Z9.out.dF n K b hK hb);have l1:=H.out.b.aic Z9.out.dF;clear hK hb;go_wp2_with (go_at_call 33;(with_reducible refine CP.out.mono ?_);rintro r w13 ⟨rfl,aDk⟩;have Z10:=Lib.hid ((Z9.out.go aDk).new b.aA 62);have lb:=Z10.out.b0.ayw;have th:=Z10.out.b1.there 0 27 (aY (Bk.ak jo).symm);clear aDk l1);have Z8:=Lib.hid ((Z10.out.sub (L':=[(W.heap.size+1,jo.aA),(W.heap.size,t.aA)]) (by simp)).put (fun p hp=>by simp at hp;subst hp;simp) b.aA (by rw[Bk.ak,Bk.ak]));refine bodyPost_ret (kBk.qL rfl _ rfl Z8.out.b0 (Bk.ak _)) rfl ?_;rw[HE.out];exact⟨rfl,Z8.out.dF⟩
end
section
attribute [local go_sem high] iT jG
theorem aDl:ak8 351:=⟨fun c w=>by
 go_enter Tryz.func351,Tryz.ntmps351;go_wp2;go_ret;exact⟨rfl,rfl⟩,fun args w=>by kernel_rfl⟩
theorem al'(s:Bool)(a:fu)(w:au):aR aj 307 #[.bool s,.agg a.aA] w (gP w (.bool (a.j6==s&&(s||a.mK)))):=by
 have HB:=Lib.hid ((Below.refl w.heap.size w).alloc (ay _) (.cells a.aA 27));have x0:=dL.new w a.aA 27;have C:=Lib.hid (aji _ aDl _ 12 12 _ _ _ (by omega) (gy.tail (B:=w.heap.size+1) (Nat.lt_succ_self _) x0));have HS:=Lib.hid (KZ a);obtain⟨z,hz⟩:∃z,z=nzB (a.b.toList.drop 4):=⟨_,rfl⟩
 rw[<-hz]at C HS;clear hz;have HZ:=Lib.hid (show a.mK = !z by rw[HS.out];simp);rw[HZ.out];obtain⟨x1,x2,x3,x4⟩:=x0.aI;have a0:=fu.qH a;cases s<;>cases h6:a.j6
 all_goals
  rw[h6]at a0;go_enter Tryz.func307,Tryz.ntmps307
  first
   | (go_wp2
      go_ret;exact⟨rfl,HB.out⟩)
   | (go_wp2_with fail
      refine C.out.mono ?_;rintro e w' ⟨rfl,rfl⟩;cases z
      all_goals
       go_wp2;go_ret;exact⟨rfl,HB.out⟩)
theorem Yp(W:au)(A:Option aU)(n c:Nat)(l:List UInt8)(k:Nat)(hk:k+1<n)(tX:n<=c)(hc:c<=9223372036854775807/\n<=1000000)(hr:gy W W.heap.size A n l):aR aj 312 #[.slice A n c,.int .i64 k] W (gP W (.int .u16 (eX l k:Nat))):=by
 have hl:=hr.len;have h0:=Lib.hid (vO l k);have h1:(k:Int)+2<=c:=by omega
 have h2:(k:Int)<=(k:Int)+2:=by omega
 obtain⟨m,hm⟩:∃m:Nat,m=k+2:=⟨_,rfl⟩
 have h3:(k:Int)+2=m:=by omega
 have w1:=jU ((k:Int)+2) (by omega);have h4:(k:Int)<=m:=by omega
 have h5:(m:Int)<=c:=by omega
 have P:=hr.aeO (z:=k) (b:=m) (c:=c) (by omega) (by omega) tX;have e2:(l.take m).drop k=(l.drop k).take 2:=by rw[List.drop_take,hm,Nat.add_sub_cancel_left]
 rw[e2]at P;have C:=Lib.hid (NQ _ (m-k) (c-k) _ W (by omega) (by omega) P);rw[JL l k (by omega)]at C;have h6:IntKind.u16.wrap (eX l k:Nat)=(eX l k:Nat):=by have:=h0.out;simp[IntKind.wrap,nS,lT];omega
 generalize eX l k=x at *;clear P hr e2 hm;go_enter Tryz.func312,Tryz.ntmps312;go_wp2_with (go_at_call 180;with_reducible refine C.out.mono ?_;rintro e w' ⟨rfl,hb⟩);go_ret
 first
 | exact⟨rfl,hb⟩
 | exact⟨congrArg (fun z=>Ending.returned (.int .u16 z)) h6,hb⟩
theorem Ia{B:Nat}{L:List (Nat×Array aC)}{w0 W:au}{A:Option aU}{c:Nat}{bs:List UInt8}(h:Ly B L w0 W (.slice A bs.length c) bs)(k z:Nat)(hz:z<=65535)(hk:k+2<=bs.length)(hl:bs.length<=1000000):aR aj 310 #[.slice A bs.length c,.int .i64 k,.int .u16 z] W fun e W'=>e=.returned (.tuple #[])/\Ly B L w0 W' (.slice A bs.length c) (sD bs k (qw z)):=by
 obtain⟨g,AA,hg2,hg3,hg4,hg5⟩:=h.jk (by omega);subst AA;have LD:=Lib.hid h.drew;have q7:IntKind.u64.wrap (z:Int)=(z:Int):=by rw[IntKind.wrap_u64];omega
 have PZ:=Lib.hid (fun W=>wR z hz W);rw[vE z hz]at PZ;obtain⟨n,hn⟩:∃n,n=bs.length:=⟨_,rfl⟩
 have HN:=Lib.hid hn;rw[<-hn]at LD hg3 hk hl ⊢;have k1:(k:Int)<=n:=by omega
 have HP:=Lib.hid (show 0<2->∃g',(some ⟨g,0,none⟩:Option aU)=some ⟨g',0,none⟩/\vP (some ⟨g,0,none⟩) k c 1=some ⟨g',k,none⟩from fun _=>⟨g,rfl,RZ (n:=0) (by omega)⟩);have HZ:=Lib.hid (show k+2<=bs.length by omega);have HM:=Lib.hid (show 2=Nat.min 2 (n-k)by show 2=min 2 (n-k);omega);clear hn hg2 h;go_enter Tryz.func310,Tryz.ntmps310;go_wp2_with fail;go_region_held_law (fun _=>True) (trivial)
  (first
  | (go_at_call 184;(with_reducible refine(PZ.out _).mono ?_);rintro e w9 ⟨A9,rfl,ho,hb⟩;have R9:=Lib.hid (DT ho (Below.refl _ _));have L9:=Lib.hid (LD.out.go hb);clear ho hb)
  | (refine PX (o:=⟨some 12,_,_,_,_,_⟩) rfl (.tmp 8) (.tmp 11) rfl (some ⟨g,0,none⟩) n c L9.out k 2 (vP (some ⟨g,0,none⟩) k c 1) (n-k) (c-k) rfl A9 2 2 rfl R9.out HM.out HP.out HZ.out ?_;intro w10 h10 h11;have L10:=Lib.hid h10;clear h10 h11))
 go_wp2;go_end0;exact⟨rfl,L10.out⟩
end
structure Pz where
 jk:Int
 size:Int
 nL:Int
def Pz.aA(x:Pz):Array aC:=#[.int .i64 x.jk,.int .i64 x.size,.int .i64 x.nL]
theorem Pz.ak(x:Pz):x.aA.size=3:=by simp[Pz.aA]
theorem Pz.cB(x:Pz):x.aA.all (·.oneCell')=true:=by simp[Pz.aA,cK]
@[go_sem]theorem Pz.eu(x:Pz):eu x.aA=3:=Pz.ak x
@[go_sem]theorem Pz.DU(x:Pz):x.aA[0]? = some (.int .i64 x.jk):=by simp[Pz.aA,aG]
@[go_sem]theorem Pz.He(x:Pz):x.aA[1]? = some (.int .i64 x.size):=by simp[Pz.aA,aG]
@[go_sem]theorem Pz.KV(x:Pz):x.aA[2]? = some (.int .i64 x.nL):=by simp[Pz.aA,aG]
theorem Pz.afB(x:Pz)(v:Int):x.aA.setIfInBounds 0 (.int .i64 v)=({x with jk:=v}:Pz).aA:=by simp[Pz.aA,aM]
theorem Pz.afC(x:Pz)(v:Int):x.aA.setIfInBounds 2 (.int .i64 v)=({x with nL:=v}:Pz).aA:=by simp[Pz.aA,aM]
def adb:Pz:=⟨0,0,0⟩
@[go_sem]theorem aDm:bY #[aJ bU 0,aJ bU 0,aJ bU 0]=bY adb.aA:=rfl
@[go_sem]theorem ayx:eB #[aJ bU 0,aJ bU 0,aJ bU 0] 376=eB adb.aA 376:=rfl
theorem kPz:oV 376 3 adb.aA:=⟨⟨_,Ei,rfl⟩,by kernel_rfl,by kernel_rfl,Pz.ak _⟩
@[go_sem ↓]theorem aR3(v:aC):bZ 376 v=yt 376 v:=rfl
@[go_sem ↓]theorem aR4(v x:aC):eD 376 v x=zW 376 v x:=rfl
@[go_sem]theorem aJA(W:au)(c:Array aC)(x:Pz)(b:Nat)(hb:b=W.heap.size)(hc:eu c=3):(zW 376 (.pointer (some ⟨b,0,none⟩)) (.agg x.aA)).run aj (W.alloc (.cells c 376))=.ok () (W.alloc (.cells x.aA 376)):=kPz.stN W c x.aA b hb hc (Pz.ak x) (Pz.cB x)
@[go_sem]theorem aNs(W:au)(b o:Nat)(x:Pz)(h:W.there b o 3):(zW 376 (.pointer (some ⟨b,o,none⟩)) (.agg x.aA)).run aj W=.ok () (gT W b o x.aA):=kPz.st W b o x.aA h (Pz.ak x) (Pz.cB x)
@[go_sem ↓]theorem aR5(ps:Array (Nat×aC)):fJ 376 ps=uW 376 ps:=rfl
theorem aJB(w:au)(fs:Array nV)(h:aj.underlying 376=some (.struct fs)):(iB (fun f=>Prod.mk f.offset <$> sizeOf f.type) fs:Sem (Array (Nat×Nat))).run aj w=.ok #[(0,1),(1,1),(2,1)] w:=by
 have e:=Ei;rw[h]at e;cases e;show _=_
 kernel_rfl
@[go_sem]theorem aDn(W:au)(jk:Int)(size:Int)(nL:Int):(uW 376 #[(0,.int .i64 jk),(1,.int .i64 size),(2,.int .i64 nL)]).run aj W=.ok (.agg (Pz.mk jk size nL).aA) W:=kPz.bd W _ _ _ _ Ei (aJB W _ Ei) (by
 refine vw (Pz.ak _) ?_ ?_
 ·simp[rU,cu]
 ·simp[qY,cu,Pz.aA]<;>(simp only[<-fT];rfl))
def BD(p:Pk)(dst:Bool):Pz:=⟨(p.Du+if p.tuple.src.j6 then 8 else 12)+(if dst then(if p.tuple.src.j6 then 16 else 4)else 0),if p.tuple.src.j6 then 16 else 4,p.tK+if dst then 2 else 0⟩
theorem afD(p:Pk)(dst:Bool)(h1:0<=p.Du/\p.Du<=10000000)(h2:0<=p.tK/\p.tK<=10000000)(w:au):aR aj 309 #[.agg p.aA,.bool dst] w (gP w (.agg (BD p dst).aA)):=by
 have h0:=((Bx.start w).new p.aA 83).new adb.aA 376;rw[show(w.alloc (.cells p.aA 83)).heap.size=w.heap.size+1 by simp]at h0;have Z0:=Lib.hid h0;have HV:=Lib.hid (show BD p dst=⟨(p.Du+if p.tuple.src.j6 then 8 else 12)+(if dst then(if p.tuple.src.j6 then 16 else 4)else 0),if p.tuple.src.j6 then 16 else 4,p.tK+if dst then 2 else 0⟩from rfl);clear h0;have KS:=Lib.hid (fun(w':au) (h:dL w' w.heap.size p.aA)=>show w'.cell? ⟨w.heap.size,1,none⟩=some (.bool p.tuple.src.j6)/\w'.cell? ⟨w.heap.size,39,none⟩=some (.int .i64 p.Du)/\w'.cell? ⟨w.heap.size,40,none⟩=some (.int .i64 p.tK)from⟨(h.aI.1 1).trans (by simp[Pk.aA,Tu.aA,aG,fu.ak,Tu.ak];rfl),(h.aI.1 39).trans (Pk.aoz p),(h.aI.1 40).trans (Pk.aoA p)⟩);go_enter Tryz.func309,Tryz.ntmps309;go_upto_region 1 with fail
 generalize(w.alloc (.cells p.aA 83)).alloc (.cells adb.aA 376)=w0 at Z0 ⊢;obtain⟨f1,f2,f3⟩:=KS.out _ Z0.out.b1;have q1:=jU (p.Du+12) (by omega);have q2:=jU (p.Du+8) (by omega);have P0:=Lib.hid (Z0.out.new (Pz.mk (p.Du+12) 4 p.tK).aA 376);have hy:=Z0.out.b0.lt;go_upto_region 2 with fail
 generalize w0.alloc (.cells (Pz.mk (p.Du+12) 4 p.tK).aA 376)=w1 at P0 ⊢;generalize w0.heap.size=y at P0 hy ⊢;clear f1 f2 f3;obtain⟨f1,f2,f3⟩:=KS.out _ P0.out.b2;cases hs:p.tuple.src.j6
 case false=>
  rw[hs]at f1;cases hd:dst
  case false=>
   go_upto_region 7 with fail
   have l5:=kPz.mO P0.out.b0 (Pz.ak _);have zq:=P0.out.b1.there 0 3 (aY (Pz.ak adb).symm);have ZF:=Lib.hid ((P0.out.swap).put (fun r hr=>by
    simp only[bD,fK,or_false]at hr;rcases hr with rfl|rfl<;>simp only[]<;>omega) (Pz.mk (p.Du+12) 4 p.tK:Pz).aA (by rw[Pz.ak,Pz.ak]))
   go_wp2;refine bodyPost_ret (kPz.zM rfl _ rfl ZF.out.b0 (Pz.ak _)) rfl ?_;refine⟨?_,ZF.out.dF⟩;simp[BD,hs,hd]
  case true=>
   have c0:=(P0.out.b0.aI.1 0).trans (Pz.DU _);have c1:=(P0.out.b0.aI.1 1).trans (Pz.He _);have z0:=P0.out.b0.aI.2.1 0;have q5:=jU (p.Du+12+4) (by omega);have P1:=P0.out.set (fun r hr=>by
    simp only[bD,fK,or_false]at hr;rcases hr with rfl|rfl<;>simp only[]<;>omega) 0 (.int .i64 (p.Du+12+4))
   rw[Pz.afB]at P1;have P1:=Lib.hid P1;go_upto_region 6 with fail
   clear c0 c1 z0;generalize w1.setCell ⟨y,0,none⟩ (.int .i64 (p.Du+12+4))=w8 at P1 ⊢;have c2:=(P1.out.b0.aI.1 2).trans (Pz.KV _);have z2:=P1.out.b0.aI.2.1 2;have q6:=jU (p.tK+2) (by omega);have P2:=P1.out.set (fun r hr=>by
    simp only[bD,fK,or_false]at hr;rcases hr with rfl|rfl<;>simp only[]<;>omega) 2 (.int .i64 (p.tK+2))
   rw[Pz.afC]at P2;have P2:=Lib.hid P2;go_upto_region 7 with fail
   clear c2 z2;generalize w8.setCell ⟨y,2,none⟩ (.int .i64 (p.tK+2))=w9 at P2 ⊢;have l5:=kPz.mO P2.out.b0 (Pz.ak _);have zq:=P2.out.b1.there 0 3 (aY (Pz.ak adb).symm);have ZF:=Lib.hid ((P2.out.swap).put (fun r hr=>by
    simp only[bD,fK,or_false]at hr;rcases hr with rfl|rfl<;>simp only[]<;>omega) (Pz.mk (p.Du+12+4) 4 (p.tK+2):Pz).aA (by rw[Pz.ak,Pz.ak]))
   go_wp2;refine bodyPost_ret (kPz.zM rfl _ rfl ZF.out.b0 (Pz.ak _)) rfl ?_;refine⟨?_,ZF.out.dF⟩;simp[BD,hs,hd]
 case true=>
  rw[hs]at f1;have aJC:=P0.out.b0.there 0 3 (aY (Pz.ak _).symm);have Q0:=Lib.hid (P0.out.put (fun r hr=>by
   simp only[bD,fK,or_false]at hr;rcases hr with rfl|rfl<;>simp only[]<;>omega) (Pz.mk (p.Du+8) 16 p.tK).aA (by rw[Pz.ak,Pz.ak]))
  go_upto_region 4 with fail
  clear f1 f2 f3 aJC;generalize gT w1 y 0 (Pz.mk (p.Du+8) 16 p.tK).aA=w2 at Q0 ⊢;cases hd:dst
  case false=>
   go_upto_region 7 with fail
   have l5:=kPz.mO Q0.out.b0 (Pz.ak _);have zq:=Q0.out.b1.there 0 3 (aY (Pz.ak adb).symm);have ZF:=Lib.hid ((Q0.out.swap).put (fun r hr=>by
    simp only[bD,fK,or_false]at hr;rcases hr with rfl|rfl<;>simp only[]<;>omega) (Pz.mk (p.Du+8) 16 p.tK:Pz).aA (by rw[Pz.ak,Pz.ak]))
   go_wp2;refine bodyPost_ret (kPz.zM rfl _ rfl ZF.out.b0 (Pz.ak _)) rfl ?_;refine⟨?_,ZF.out.dF⟩;simp[BD,hs,hd]
  case true=>
   have c0:=(Q0.out.b0.aI.1 0).trans (Pz.DU _);have c1:=(Q0.out.b0.aI.1 1).trans (Pz.He _);have z0:=Q0.out.b0.aI.2.1 0;have q5:=jU (p.Du+8+16) (by omega);have P1:=Q0.out.set (fun r hr=>by
    simp only[bD,fK,or_false]at hr;rcases hr with rfl|rfl<;>simp only[]<;>omega) 0 (.int .i64 (p.Du+8+16))
   rw[Pz.afB]at P1;have P1:=Lib.hid P1;go_upto_region 6 with fail
   clear c0 c1 z0;generalize w2.setCell ⟨y,0,none⟩ (.int .i64 (p.Du+8+16))=w8 at P1 ⊢;have c2:=(P1.out.b0.aI.1 2).trans (Pz.KV _);have z2:=P1.out.b0.aI.2.1 2;have q6:=jU (p.tK+2) (by omega);have P2:=P1.out.set (fun r hr=>by
    simp only[bD,fK,or_false]at hr;rcases hr with rfl|rfl<;>simp only[]<;>omega) 2 (.int .i64 (p.tK+2))
   rw[Pz.afC]at P2;have P2:=Lib.hid P2;go_upto_region 7 with fail
   clear c2 z2;generalize w8.setCell ⟨y,2,none⟩ (.int .i64 (p.tK+2))=w9 at P2 ⊢;have l5:=kPz.mO P2.out.b0 (Pz.ak _);have zq:=P2.out.b1.there 0 3 (aY (Pz.ak adb).symm);have ZF:=Lib.hid ((P2.out.swap).put (fun r hr=>by
    simp only[bD,fK,or_false]at hr;rcases hr with rfl|rfl<;>simp only[]<;>omega) (Pz.mk (p.Du+8+16) 16 (p.tK+2):Pz).aA (by rw[Pz.ak,Pz.ak]))
   go_wp2;refine bodyPost_ret (kPz.zM rfl _ rfl ZF.out.b0 (Pz.ak _)) rfl ?_;refine⟨?_,ZF.out.dF⟩;simp[BD,hs,hd]
section
attribute [local go_sem high] iT jG
@[go_sem]theorem Pk.ayy(x:Pk):x.aA[1]? = some (.bool x.tuple.src.j6):=by simp[Pk.aA,Tu.aA,aG,fu.ak,Tu.ak];rfl
@[go_sem]theorem Pk.aDo(x:Pk):x.aA[35]? = some (.int .i64 x.tuple.aQ):=by simp[Pk.aA,Tu.aA,tuT,aG,fu.ak,Tu.ak]
theorem Yq(l:List UInt8)(A:Option aU)(n c:Nat)(w:au)(hR:gy w w.heap.size A n l)(hn:n<=1073741824):
 aR aj 308 #[.slice A n c] w (ClY w n l):=by
 have EI:=hR.len;cases A with
 | some a=>
   have GH:∀W:au,(binOp .eql 56 (.slice (some a) n c) (.slice none 0 0)).run aj W=.ok (.bool false) W:=fun W=>by
    simp only[binOp];simp[run_equal_slice_nil,Tryz.underlying56]
   obtain⟨i0,oz,mZ,nu,Ar⟩:=info_parts Mw;have wX:(aJ .u8 0).cells.size=1:=rfl;have O1:=Lib.hid (show(w.alloc (.cells #[] 5)).ownsRow w.heap.size 5 1 (.slice (some ⟨w.heap.size,0,none⟩) 0 0) 0 []from World.ownsRow_lit w #[] 0 (ay _) (by unfold maxLen;omega) rfl);have O2:=Lib.hid (hR.alloc (ay _) (.cells #[] 5));have UM:=Lib.hid (show 0+n<=maxLen by unfold maxLen;omega);have UN:=Lib.hid (show(0+n)*1<=140737488355328 by omega);have O3:=Lib.hid (show w.heap.size<=(w.alloc (.cells #[] 5)).heap.size by simp);have ON:=Lib.hid (Kr l);clear hR EI;go_enter Tryz.func308,Tryz.ntmps308;go_wp2_with (at_builtin;refine jI _ rfl (.tmp 5) (.tmp 6) _ rfl w.heap.size 5 i0 (.int .u8 0) 1 1 Tryz.underlying56 oz mZ nu Ar wX (Nat.succ_pos _) (.slice (some ⟨w.heap.size,0,none⟩) 0 0) 0 [] rfl O1.out w.heap.size (some a) n c (l.map bv) rfl O2.out ON.out UM.out UN.out O3.out ?_;intro v1 w1 kJ AA yj);obtain⟨A',c',hv,_,_⟩:=jT kJ;subst hv;simp only[bB,List.nil_append]at kJ;have hb:=um ((Below.refl w.heap.size w).alloc (ay _) (.cells #[] 5)) AA (ay _) O3.out;go_wp2;go_ret;exact⟨A',c',by simp,kJ,hb⟩
 | none=>
   have h0:n=0:=by
    rcases Nat.eq_zero_or_pos n with h0|h0
    ·exact h0
    ·obtain⟨a,ha,_⟩:=hR.2 h0;cases ha
   subst h0;have hl:l=[]:=List.eq_nil_of_length_eq_zero EI;subst hl;have GH:∀W:au,(binOp .eql 56 (.slice none 0 c) (.slice none 0 0)).run aj W=.ok (.bool true) W:=fun W=>by
    simp only[binOp];simp[run_equal_slice_nil,Tryz.underlying56]
   have FIN:=Lib.hid (show ClY w 0 [] (.returned (.slice none 0 0)) w from⟨none,0,rfl,World.ownsRow_nil _ _ _ _,Below.refl _ _⟩);clear hR EI;go_enter Tryz.func308,Tryz.ntmps308;go_wp2;go_ret;exact FIN.out
theorem aid{l:List UInt8}{p:Pk}(h:aoX l p)(dst:Bool):BD p dst=⟨(aeY p dst:Nat),(wH p:Nat),(Hu p dst:Nat)⟩/\aeY p dst+wH p<=p.Hf.toNat/\Hu p dst+2<=p.Hf.toNat/\wH p<=16/\4<=wH p:=by
 obtain⟨_,h1,h2,h3,h4,_⟩:=h;unfold BD aeY wH Hu;rcases h3 with h3|h3
 ·rw[if_pos h3]at h4
  cases hs:p.tuple.src.j6<;>cases dst<;>rw[hs]at h2<;>simp at h2⊢<;> omega
 ·rw[if_neg (by rw[h3];decide)]at h4
  cases hs:p.tuple.src.j6<;>cases dst<;>rw[hs]at h2<;>simp at h2⊢<;> omega
def ama(l:List UInt8)(a:fu)(q:Int)(dst:Bool):List UInt8×Int:=(acM l a q dst,if Tx l a q then 0 else 1)
theorem Yr(w:au)(A:Option aU)(n c:Nat)(l:List UInt8)(a:fu)(q:Int)(dst:Bool)(tX:n<=c)(hc:c<=9223372036854775807/\n<=1000000)(hr:gy w w.heap.size A n l):aR aj 267 #[.slice A n c,.agg a.aA,.int .i64 q,.bool dst] w (alo w (ama l a q dst)):=by
 have Z0:=Lib.hid ((Bx.start w).new a.aA 27);have HR:=Lib.hid hr;have hl:=Lib.hid hr.len;have CR:=Lib.hid (JV _ A n c l tX (by omega) (Z0.out.Nc hr));have HV:=Lib.hid (show acM l a q dst=if Tx l a q then rw3 l (wG l) a q.toNat dst else []from rfl);have HK:=Lib.hid (show Tx l a q=((wG l).kind==0&&(a.j6==(wG l).tuple.src.j6&&((wG l).tuple.src.j6||a.mK))&&(decide (0<=q)&&decide (q<=65535)))from rfl);have HF:=Lib.hid (PN (l:=l));clear hr;go_enter Tryz.func267,Tryz.ntmps267;go_upto_region 1 with fail
 generalize w.alloc (.cells a.aA 27)=w1 at Z0 CR ⊢;obtain⟨p,hp⟩:∃p,p=wG l:=⟨_,rfl⟩
 have HP:=Lib.hid hp;unfold PkP at CR;rw[<-hp]at CR HV HK HF;clear hp;go_upto_region 2 with(go_at_call 32;(with_reducible refine CR.out.mono ?_);rintro e w2 ⟨rfl,hb⟩;have Z2:=Lib.hid ((Z0.out.go hb).new p.aA 83);have HY:=Lib.hid (Z0.out.go hb).b0.lt;clear hb)
 generalize w2.alloc (.cells p.aA 83)=w3 at Z2 ⊢;generalize w2.heap.size=y at *;have KS:=Lib.hid (fun(w':au) (h:Bx [(y,p.aA),(w.heap.size,a.aA)] w w')=>show w'.cell? ⟨y,0,none⟩=some (.int .i64 p.kind)/\w'.cell? ⟨y,1,none⟩=some (.bool p.tuple.src.j6)/\(rR (.pointer (some ⟨w.heap.size,0,none⟩))).run aj w'=.ok (.agg a.aA) w' from⟨(h.b0.aI.1 0).trans (Pk.Bw p),(h.b0.aI.1 1).trans (Pk.ayy p),h.b1.ajw⟩);obtain⟨f1,f2,f3⟩:=KS.out _ Z2.out;have CO:=Lib.hid (al' p.tuple.src.j6 a w3);have ZG:=Lib.hid (fun w' (hb:aN w3.heap.size w3 w')=>Z2.out.go hb);have NO:=Lib.hid (show Tx l a q=false->ama l a q dst=([],1)from fun h=>by unfold ama;rw[HV.out,h];rfl);cases Ny:(p.kind==0)
 ·have k1:(p.kind != 0)=true:=by rw[bne,Ny];rfl
  have HN:=Lib.hid (NO.out (by rw[HK.out,Ny];rfl));clear Ny;go_wp2;go_ret2;rw[HN.out];exact⟨none,0,0,rfl,LG _,Z2.out.dF⟩
 have k1:(p.kind != 0)=false:=by rw[bne,Ny];rfl
 cases ho:(a.j6==p.tuple.src.j6&&(p.tuple.src.j6||a.mK))
 ·rw[ho]at CO
  have HN:=Lib.hid (NO.out (by rw[HK.out,Ny,ho];rfl));clear Ny ho;go_wp2_with (go_at_call 307;(with_reducible refine CO.out.mono ?_);rintro e w4 ⟨rfl,hb⟩;have Z4:=Lib.hid (ZG.out _ hb);clear hb);go_ret2;rw[HN.out];exact⟨none,0,0,rfl,LG _,Z4.out.dF⟩
 rw[ho]at CO;by_cases hq:0<=q/\q<=65535
 ·obtain⟨hq0,hq1⟩:=hq
  have Kv:=Lib.hid (show Tx l a q=true by rw[HK.out,Ny,ho,decide_eq_true hq0,decide_eq_true hq1];rfl);have HVO:=Lib.hid (show ama l a q dst=(rw3 l p a q.toNat dst,0)by unfold ama;rw[HV.out,Kv.out];rfl);have q1:decide (q<0)=false:=by simp;omega
  have q2:decide ((65535:Int)<q)=false:=by simp;omega
  have FN:=HF.out (by simpa using Ny);have HFN:=Lib.hid FN;obtain⟨g0,g1,g2,gp,g3,g4⟩:=FN;have g5:0<=p.Hf/\p.Hf<=n:=by have:=hl.out;split at g2<;>split at g3<;>omega
  obtain⟨en,hen⟩:∃m:Nat,p.Hf=(m:Int):=⟨p.Hf.toNat,by omega⟩
  have HEN:=Lib.hid hen;have en1:en<=n:=by omega
  have ayz:=Lib.hid (show a.j6=p.tuple.src.j6 by have:=ho;simp only[bl,beq_iff_eq]at this;exact this.1);clear Ny ho g0 gp g1 g2 g3 g4 g5;go_upto_region 4 with(go_at_call 307;(with_reducible refine CO.out.mono ?_);rintro e w4 ⟨rfl,hb⟩;have Z4:=Lib.hid (ZG.out _ hb);clear hb)
  have K2:=Lib.hid (fun(w':au) (h:dL w' y p.aA)=>show w'.cell? ⟨y,41,none⟩=some (.int .i64 (en:Nat))/\w'.cell? ⟨y,35,none⟩=some (.int .i64 p.tuple.aQ)/\w'.cell? ⟨y,39,none⟩=some (.int .i64 p.Du)/\w'.cell? ⟨y,40,none⟩=some (.int .i64 p.tK)from⟨(h.aI.1 41).trans ((Pk.ast p).trans (by rw[HEN.out])),(h.aI.1 35).trans (Pk.aDo p),(h.aI.1 39).trans (Pk.aoz p),(h.aI.1 40).trans (Pk.aoA p)⟩);obtain⟨e1,_,_,_⟩:=K2.out _ Z4.out.b0;have en2:(en:Int)<=c:=by omega
  have CB:=Lib.hid (Yq (l.take en) A en c w4 ((Z4.out.Nc HR.out).upN en1) (by omega));go_upto_region 5 with(go_at_call 308;(with_reducible refine CB.out.mono ?_);rintro e w5 ⟨A5,c5,rfl,Vh,yX⟩;have L5:=Lib.hid (Ly.ao3 (w0:=w) (L:=[(y,p.aA),(w.heap.size,a.aA)]) Vh Z4.out.dF.size (Z4.out.dF.trans (yX.mono Z4.out.dF.size)) (fun r hr=>⟨((Z4.out.go yX).2 r hr).2,(Z4.out.2 r hr).2.lt⟩));clear Vh yX)
  clear e1 f1 f2 f3;have l10:=kPk.mO L5.out.b0 (Pk.ak _);have Lf:=HFN.out;have CF:=Lib.hid (afD p dst ⟨by have:=Lf.Du;omega,by have h1:=Lf.tK;have h2:=Lf.Hf;have h3:=Lf.len;have:=hl.out;split at h1<;>split at h2<;>omega⟩ ⟨by have h1:=Lf.tK;have h2:=Lf.Du;split at h1<;>omega,by have h2:=Lf.Hf;have h3:=Lf.len;have:=hl.out;split at h2<;>omega⟩ w5);clear Lf;go_upto_region 6 with(go_at_call 309;(with_reducible refine CF.out.mono ?_);rintro e w6 ⟨rfl,hb⟩;have HW6:=Lib.hid (L5.out.go hb).b0.lt;have L6:=Lib.hid ((L5.out.go hb).new (BD p dst).aA 376);clear hb)
  clear l10;obtain⟨pv,p1,p2,p3,p4⟩:=aid HFN.out dst;rw[HEN.out,Int.toNat_natCast]at p1 p2;rw[pv]at L6;obtain⟨pa,hpa⟩:∃v,v=aeY p dst:=⟨_,rfl⟩
  obtain⟨ps,hps⟩:∃v,v=wH p:=⟨_,rfl⟩
  obtain⟨pp,hpp⟩:∃v,v=Hu p dst:=⟨_,rfl⟩
  have HPA:=Lib.hid hpa;have HPS:=Lib.hid hps;have HPP:=Lib.hid hpp;rw[<-hpa,<-hps,<-hpp]at L6;rw[<-hpa,<-hps]at p1;rw[<-hpp]at p2;rw[<-hps]at p3 p4;have PV:=Lib.hid (pv.trans (by rw[<-hpa,<-hps,<-hpp]:_=(⟨(pa:Nat),(ps:Nat),(pp:Nat)⟩:Pz)));rw[PV.out];clear hpa hps hpp pv;have hy6:y<w6.heap.size:=HW6.out;clear HW6;generalize w6.alloc (.cells (Pz.mk (pa:Nat) (ps:Nat) (pp:Nat)).aA 376)=w7 at L6 ⊢;generalize w6.heap.size=y7 at L6 ⊢;have a0:=(L6.out.b0.aI.1 0).trans (Pz.DU _);have a1:=(L6.out.b0.aI.1 1).trans (Pz.He _);obtain⟨m1,YG⟩:∃m:Nat,m=pa+ps:=⟨_,rfl⟩
  have s1:=jU ((pa:Int)+(ps:Int)) (by omega);have s2:(pa:Int)+(ps:Int)=m1:=by omega
  rw[s2]at s1;have s3:(pa:Int)<=m1:=by omega
  have s4:(m1:Int)<=c:=by omega
  have s5:(ps:Int)<=16:=by omega
  have HM1:=Lib.hid YG;clear YG;go_quiet (fail);obtain⟨wz,hwz⟩:∃wz,wz=w7.drewN nq:=⟨_,rfl⟩
  have L7:=Lib.hid (show Ly w.heap.size [(y7,(Pz.mk (pa:Nat) (ps:Nat) (pp:Nat)).aA),(y,p.aA),(w.heap.size,a.aA)] w wz (.slice A5 en c5) (l.take en)by rw[hwz];exact L6.out.go (fI (Below.refl _ _) nq));rw[<-hwz];clear hwz a0 a1 L6;have HLE:=Lib.hid (show(l.take en).length=en by rw[bK,hl.out];omega);obtain⟨g,AA,hg2,hg3,hg4,hg5⟩:=L7.out.jk (by rw[HLE.out];omega);subst AA;clear hg2;have RTo:=Lib.hid ((Nk (o:=0) L7.out.b2 a (by have:=fu.ak a;rw[<-this];simp)).upN p3);have s6:(pa:Int)<=en:=by omega
  have HP:=Lib.hid (show 0<ps->∃g',(some ⟨g,0,none⟩:Option aU)=some ⟨g',0,none⟩/\vP (some ⟨g,0,none⟩) pa c5 1=some ⟨g',pa,none⟩from fun _=>⟨g,rfl,RZ (n:=0) (by omega)⟩);have HM:=Lib.hid (show ps=Nat.min ps (en-pa)by show ps=min ps (en-pa);omega);have HZ:=Lib.hid (show pa+ps<=(l.take en).length by rw[HLE.out];exact p1);have a0:=(L7.out.b0.aI.1 0).trans (Pz.DU _);go_upto_region 8 with(refine Nl rfl (.tmp 65) (.tmp 66) rfl L7.out pa ps rfl rfl RTo.out HM.out HP.out HZ.out ?_;intro w8 h8 h9;have L8:=Lib.hid h8;clear h8 h9)
  clear a0 HP HM HZ s6 RTo L7;obtain⟨o1,YD⟩:∃o,o=sD (l.take en) pa ((a.b.toList.take ps).take ps):=⟨_,rfl⟩
  have HO1:=Lib.hid YD;have HL1:=Lib.hid (show o1.length=en by rw[YD,FH (by simp;rw[hl.out];omega),HLE.out]);rw[<-YD]at L8;clear YD;obtain⟨qn,hqn⟩:∃v:Nat,q=(v:Int):=⟨q.toNat,by omega⟩
  have HQN:=Lib.hid hqn;subst hqn;have q7:IntKind.u64.wrap (qn:Int)=(qn:Int):=by rw[IntKind.wrap_u64];omega
  have PZ:=Lib.hid (fun W=>wR qn (by omega) W);rw[vE qn (by omega)]at PZ;have s6:(pp:Int)<=en:=by omega
  have HP:=Lib.hid (show 0<2->∃g',(some ⟨g,0,none⟩:Option aU)=some ⟨g',0,none⟩/\vP (some ⟨g,0,none⟩) pp c5 1=some ⟨g',pp,none⟩from fun _=>⟨g,rfl,RZ (n:=0) (by omega)⟩);have HM:=Lib.hid (show 2=Nat.min 2 (en-pp)by show 2=min 2 (en-pp);omega);have HZ:=Lib.hid (show pp+2<=o1.length by rw[HL1.out];exact p2);have KP:=Lib.hid (fun(w':au) (h:dL w' y7 (Pz.mk (pa:Nat) (ps:Nat) (pp:Nat)).aA)=>show w'.cell? ⟨y7,2,none⟩=some (.int .i64 (pp:Nat))from(h.aI.1 2).trans (Pz.KV _));have a2:=KP.out _ L8.out.b0;go_region_held_law (fun w'=>w'.cell? ⟨y7,2,none⟩=some (.int .i64 (pp:Nat)))
   (first|exact KP.out _ L8.out.b0.drew|exact KP.out _ L9.out.b0|exact KP.out _ L10.out.b0|go_keep)
   (first
   | (go_at_call 184;(with_reducible refine(PZ.out _).mono ?_);rintro e w9 ⟨A9,rfl,ho,hb⟩;have R9:=Lib.hid (DT ho (Below.refl _ _));have L9:=Lib.hid (L8.out.drew.go hb);clear ho hb)
   | (refine PX (o:=⟨some 75,_,_,_,_,_⟩) rfl (.tmp 71) (.tmp 74) rfl (some ⟨g,0,none⟩) en c5 L9.out pp 2 (vP (some ⟨g,0,none⟩) pp c5 1) (en-pp) (c5-pp) rfl A9 2 2 rfl R9.out HM.out HP.out HZ.out ?_;intro w10 h10 h11;have L10:=Lib.hid h10;clear h10 h11))
  clear a2 q7 s6 HP HM HZ KP PZ L8;obtain⟨o2,NG⟩:∃o,o=sD o1 pp ((qw (qn:Int)).take 2):=⟨_,rfl⟩
  have HO2:=Lib.hid NG;have HL2:=Lib.hid (show o2.length=en by rw[NG,FH (by rw[HL1.out];exact p2),HL1.out]);rw[<-NG]at L10;clear NG;have a6:=(L10.out.b2.aI.1 0).trans (fu.qH a);have Lf:=HFN.out;obtain⟨N,hN⟩:∃N:Nat,p.Du=(N:Int):=⟨p.Du.toNat,by have:=Lf.Du;omega⟩
  obtain⟨S,hS⟩:∃S:Nat,p.tK=(S:Int):=⟨p.tK.toNat,by have:=Lf.Du;have:=Lf.tK;split at this<;>omega⟩
  have hNS:N+20<=S:=by have:=Lf.tK;split at this<;>omega
  have aR7:14<=N:=by have:=Lf.Du;omega
  obtain⟨pl,hpl⟩:∃v,v=DW p.tuple.aQ:=⟨_,rfl⟩
  have aR8:S+pl+2<=en/\6<=pl/\pl<=16:=by
   have h1:=Lf.Hf;have h2:=HEN.out;rw[hpl];unfold DW;rcases Lf.pro with h|h<;>rw[h]at h1⊢<;> simp at h1⊢<;> omega
  have HP6:=Lib.hid (show(if p.tuple.aQ=6 then(16:Int)else if p.tuple.aQ=17 then 6 else 0)=(pl:Int)by rw[hpl];unfold DW;split;rfl;split<;>rfl);have HPL:=Lib.hid hpl;have HNN:=Lib.hid hN;have HSS:=Lib.hid hS;clear Lf hpl;obtain⟨o3,Bj⟩:∃o,o=if a.j6 then o2 else sD o2 (N+10) (qw ((oC (eX l (N+10)) ((l.take (pa+ps)).drop pa) (a.b.toList.take ps):Nat):Int)):=⟨_,rfl⟩
  have HO3:=Lib.hid Bj;have HL3:=Lib.hid (show o3.length=en by rw[Bj];split;exact HL2.out;rw[FH (by rw[HL2.out];show N+10+2<=en;omega),HL2.out]);clear Bj;rw[show m1-pa=ps by omega];go_upto_if 78 with fail
  go_cut []from 76 to 91 (fun wx=>Ly w.heap.size [(y7,(Pz.mk (pa:Nat) (ps:Nat) (pp:Nat)).aA),(y,p.aA),(w.heap.size,a.aA)] w wx (.slice (some ⟨g,0,none⟩) en c5) o3)
  case first=>
   cases h6:a.j6
   case true=>
    rw[h6]at HO3;have L12:=Lib.hid L10;go_wp2;go_meet
    case rel=>rw[HO3.out];exact L12.out.out
   case false=>
    rw[h6]at HO3;have hpe:ps%2=0:=by rw[HPS.out];unfold wH;split<;>rfl
    obtain⟨nk,hnk⟩:∃v,v=N+10:=⟨_,rfl⟩
    have e10:(N:Int)+10=(nk:Int):=by omega
    have i10:=jU (nk:Int) (by omega);have RI:=Lib.hid (fun(w':au) (h:Ly w.heap.size [(y7,(Pz.mk (pa:Nat) (ps:Nat) (pp:Nat)).aA),(y,p.aA),(w.heap.size,a.aA)] w w' (.slice (some ⟨g,0,none⟩) en c5) o2)=>show gy w' w'.heap.size A n l from HR.out.upon h.o.dF);have CS:=Lib.hid (Yp _ A n c l nk (by omega) tX hc (RI.out _ L10.out.drew));have CC:=Lib.hid (fun(w':au) (h:Ly w.heap.size [(y7,(Pz.mk (pa:Nat) (ps:Nat) (pp:Nat)).aA),(y,p.aA),(w.heap.size,a.aA)] w w' (.slice (some ⟨g,0,none⟩) en c5) o2)=>Jy w' (vP A pa c 1) (some ⟨w.heap.size,1,none⟩) (m1-pa) (c-pa) 16 w'.heap.size w'.heap.size (eX l nk) ((l.take m1).drop pa) (a.b.toList.take ps) (vO l nk) (by omega) (by omega) ((RI.out w' h).aeO (by omega) (by omega) tX) (by rw[show m1-pa=ps by omega];exact(Nk (o:=0) h.b2 a (by have:=fu.ak a;rw[<-this];simp)).upN p3));rw[show m1-pa=ps by omega]at CC;rw[HM1.out]at CC;obtain⟨cn,hcn⟩:∃v,v=oC (eX l nk) ((l.take (pa+ps)).drop pa) (a.b.toList.take ps):=⟨_,rfl⟩
    have aJG:cn<=65535:=by rw[hcn];exact DK _ _ _ (vO l nk)
    rw[<-hcn]at CC;have HO4:=Lib.hid (show o3=sD o2 nk (qw (cn:Int))by rw[HO3.out,hcn,hnk];rfl);obtain⟨n2,LA⟩:∃v,v=o2.length:=⟨_,rfl⟩
    have CT:=Lib.hid (fun(w':au) (h:Ly w.heap.size [(y7,(Pz.mk (pa:Nat) (ps:Nat) (pp:Nat)).aA),(y,p.aA),(w.heap.size,a.aA)] w w' (.slice (some ⟨g,0,none⟩) en c5) o2)=>Ia (bs:=o2) (by rw[HL2.out];exact h) nk cn aJG (by rw[HL2.out];omega) (by rw[HL2.out];omega));rw[HL2.out,<-HO4.out]at CT;have K39:=Lib.hid (fun(w':au) (bs:List UInt8) (h:Ly w.heap.size [(y7,(Pz.mk (pa:Nat) (ps:Nat) (pp:Nat)).aA),(y,p.aA),(w.heap.size,a.aA)] w w' (.slice (some ⟨g,0,none⟩) en c5) bs)=>show w'.cell? ⟨y,39,none⟩=some (.int .i64 (N:Nat))by rw[(K2.out _ h.b1).2.2.1,HNN.out]);have f39:=K39.out _ _ L10.out;clear hcn hnk LA a6;go_upto_region 10 with fail
    go_region_held_law (fun w'=>w'.cell? ⟨y,39,none⟩=some (.int .i64 (N:Nat)))
     (first|exact K39.out _ _ L10.out.drew|exact K39.out _ _ L11.out|exact K39.out _ _ L13.out|go_keep)
     (first
     | (go_at_call 312;(with_reducible refine CS.out.mono ?_);rintro e w11 ⟨rfl,hb⟩;have L11:=Lib.hid (L10.out.drew.go hb);clear hb)
     | (go_at_call 311;(with_reducible refine(CC.out _ L11.out).mono ?_);rintro e w12 ⟨rfl,rfl⟩)
     | (go_at_call 310;(with_reducible refine(CT.out _ L11.out).mono ?_);rintro e w13 ⟨rfl,h13⟩;have L13:=Lib.hid h13;clear h13))
    go_wp2;go_meet
    case rel=>exact L13.out
  have L3:=Lib.hid hcut;have aJI:ps%2=0:=by rw[HPS.out];unfold wH;split<;>rfl
  clear hcut L10 a6;have K4:=Lib.hid (fun(w':au) (h:Ly w.heap.size [(y7,(Pz.mk (pa:Nat) (ps:Nat) (pp:Nat)).aA),(y,p.aA),(w.heap.size,a.aA)] w w' (.slice (some ⟨g,0,none⟩) en c5) o3)=>show w'.cell? ⟨y,40,none⟩=some (.int .i64 (S:Nat))/\w'.cell? ⟨y,35,none⟩=some (.int .i64 p.tuple.aQ)/\w'.cell? ⟨y7,2,none⟩=some (.int .i64 (pp:Nat))/\gy w' w'.heap.size A n l from⟨by rw[(K2.out _ h.b1).2.2.2,HSS.out],(K2.out _ h.b1).2.1,(h.b0.aI.1 2).trans (Pz.KV _),HR.out.upon h.o.dF⟩);obtain⟨sa,hsa⟩:∃v,v=S+pl:=⟨_,rfl⟩
  have eS:(S:Int)+(pl:Int)=(sa:Int):=by omega
  have iS:=jU (sa:Int) (by omega);have ZB:=Lib.hid hsa;clear hsa;have CP:=Lib.hid (fun w=>ak' p.tuple.aQ w);rw[HP6.out]at CP;go_wp2_with fail;obtain⟨T,f,n0,E0,es,ew⟩:=yg (wc);have hT:Nonempty T:=⟨n0⟩
  have ES:=Lib.hid es;have EW:=Lib.hid ew;have l1:=fun m=>(K4.out _ (L3.out.go (es m))).1
  have l2:=fun m=>(K4.out _ (L3.out.go (es m))).2.1
  clear es ew;refine pK f (by kernel_rfl) (by kernel_rfl) n0 E0 ?_
  repeat(go_big_quiet_step ((first|(go_at_call 313;(with_reducible refine(CP.out _).mono ?_);rintro e w2 ⟨rfl,hb⟩;exact⟨rfl,EW.out _ ((ES.out _).trans (hb.mono (ES.out _).size))⟩))))
  refine wpQuiet_nil ?_;rintro _ ⟨m',rfl⟩;have HB:=Lib.hid (ES.out m');generalize f m'=wN at *;clear ES EW E0 hT n0;clear l1 l2;have L4:=Lib.hid (L3.out.go HB.out);clear L3 HB CP;obtain⟨z2,e35,f2,RA⟩:=K4.out _ L4.out;clear z2;have CS:=Lib.hid (Yp _ A n c l sa (by omega) tX hc RA);obtain⟨was,atC⟩:∃v,v=eX l sa:=⟨_,rfl⟩
  have ap0:was<=65535:=by rw[atC];exact vO l sa
  rw[<-atC]at CS;have aDq:=Lib.hid atC;obtain⟨u,hu⟩:∃u,u=(p.tuple.aQ==17):=⟨_,rfl⟩
  have HU:=Lib.hid hu;obtain⟨z,hz⟩:∃z,z=decide (was=0):=⟨_,rfl⟩
  have Nz:=Lib.hid hz;have u1:(p.tuple.aQ==17)=u:=hu.symm;have u2:decide (p.tuple.aQ=17)=u:=by rw[hu];rfl
  have z1:((was:Int)==0)=z:=by rw[hz,Bool.eq_iff_iff,beq_iff_eq,decide_eq_true_iff];omega
  have z2:decide ((was:Int)=0)=z:=by rw[hz,Bool.eq_iff_iff,decide_eq_true_iff,decide_eq_true_iff];omega
  have z3:(was==0)=z:=by rw[hz,Bool.eq_iff_iff,beq_iff_eq,decide_eq_true_iff]
  clear hu hz atC RA;go_upto_region 14 with(go_at_call 312;(with_reducible refine CS.out.mono ?_);rintro e w11 ⟨rfl,hb⟩;have L5:=Lib.hid (L4.out.go hb);clear hb e35 f2;obtain⟨_,e35,f2,RA⟩:=K4.out _ L5.out)
  clear CS L4;obtain⟨fr,Au⟩:∃v,v=(l.take (pa+ps)).drop pa:=⟨_,rfl⟩
  obtain⟨tw,htw⟩:∃v,v=a.b.toList.take ps:=⟨_,rfl⟩
  obtain⟨pq,hpq⟩:∃v,v=pp+2:=⟨_,rfl⟩
  obtain⟨cs,hcs⟩:∃v,v=oC (oC was fr tw) ((l.take pq).drop pp) ((o3.take pq).drop pp):=⟨_,rfl⟩
  have Fg:=DK fr tw was ap0;have ax9:cs<=65535:=by rw[hcs];exact DK _ _ _ Fg
  have eP:(pp:Int)+2=(pq:Int):=by omega
  have iP:=jU (pq:Int) (by omega);have b1:(pp:Int)<=pq:=by omega
  have b2:(pq:Int)<=c:=by omega
  have b3:(pq:Int)<=c5:=by omega
  have CC1:=Lib.hid (fun(w':au) (h:Ly w.heap.size [(y7,(Pz.mk (pa:Nat) (ps:Nat) (pp:Nat)).aA),(y,p.aA),(w.heap.size,a.aA)] w w' (.slice (some ⟨g,0,none⟩) en c5) o3)=>Jy w' (vP A pa c 1) (some ⟨w.heap.size,1,none⟩) ps (c-pa) 16 w'.heap.size w'.heap.size was fr tw ap0 aJI (by omega) (by have:=((K4.out _ h).2.2.2).aeO (z:=pa) (b:=m1) (by omega) (by omega) tX;rw[show m1-pa=ps by omega,HM1.out]at this;rw[Au];exact this) (by rw[htw];exact(Nk (o:=0) h.b2 a (by have:=fu.ak a;rw[<-this];simp)).upN p3));have CC2:=Lib.hid (fun(w':au) (h:Ly w.heap.size [(y7,(Pz.mk (pa:Nat) (ps:Nat) (pp:Nat)).aA),(y,p.aA),(w.heap.size,a.aA)] w w' (.slice (some ⟨g,0,none⟩) en c5) o3)=>Jy w' (vP A pp c 1) (vP (some ⟨g,0,none⟩) pp c5 1) (pq-pp) (c-pp) (c5-pp) w'.heap.size w'.heap.size (oC was fr tw) ((l.take pq).drop pp) ((o3.take pq).drop pp) Fg (by omega) (by omega) (((K4.out _ h).2.2.2).aeO (by omega) (by omega) tX) (h.rd.aeO (by omega) (by omega) hg3));rw[<-hcs]at CC2;have HE3:=Lib.hid (show rw2 l p a qn dst=o3 by
   have e1:rw1 l p a qn dst=o2:=by
    have e0:PL qn=(qw (qn:Int)).take 2:=by simp[PL,qw]
    unfold rw1;rw[<-HPA.out,<-HPS.out,<-HPP.out,e0,HO2.out,HO1.out,HEN.out,Int.toNat_natCast,List.take_take,Nat.min_self]
   unfold rw2;rw[e1,HO3.out,HNN.out,Int.toNat_natCast];have h6:p.tuple.src.j6=a.j6:=by have:=ayz.out;exact this.symm
   rw[h6];split
   ·rfl
   ·have e2:aaK l p dst=(l.take (pa+ps)).drop pa:=by unfold aaK;rw[<-HPA.out,<-HPS.out,List.drop_take,Nat.add_sub_cancel_left]
    rw[e2,<-HPS.out];rfl)
  have HRS:=Lib.hid (show ajp l p a qn dst=cs by
   have e2:aaK l p dst=fr:=by unfold aaK;rw[<-HPA.out,<-HPS.out,Au,List.drop_take,Nat.add_sub_cancel_left]
   have e3:(o3.take pq).drop pp=PL qn:=by
    have e0:(qw (qn:Int)).take 2=PL qn:=by simp[PL,qw]
    have k2:(o2.take pq).drop pp=PL qn:=by
     have:=aln (l:=o1) (k:=pp) (b:=(qw (qn:Int)).take 2) (by rw[HL1.out];exact p2);rw[List.drop_take,show pq-pp=2 by omega,HO2.out,<-e0];exact this
    rw[HO3.out];split
    ·exact k2
    ·rw[List.drop_take,aoW (by rw[HL2.out];show N+10+2<=en;omega) (.inr (by show N+10+2<=pp;have h1:=HPP.out;unfold Hu at h1;rw[HSS.out]at h1;omega)),<-List.drop_take];exact k2
   unfold ajp;rw[e2,<-HPS.out,<-HPP.out,HSS.out,Int.toNat_natCast,<-HPL.out,<-ZB.out,<-aDq.out,<-htw,hcs,e3];congr 1;rw[List.drop_take,show pq-pp=2 by omega])
  have HC2:=Lib.hid ax9;have CC1:=Lib.hid (fun n=>CC1.out (w11.drewN n) (L5.out.go (fI (Below.refl _ _) n)));have CC2:=Lib.hid (fun n=>CC2.out (w11.drewN n) (L5.out.go (fI (Below.refl _ _) n)));have HR3:=Lib.hid (show rw3 l p a qn dst=if p.tuple.aQ=17/\was=0 then o3 else sD o3 sa (PL (if p.tuple.aQ=17/\cs=0 then 65535 else cs))by
   unfold rw3;rw[HE3.out,HRS.out,HSS.out,Int.toNat_natCast,<-HPL.out,<-ZB.out,<-aDq.out])
  clear Au htw hpq hcs ap0 ax9;cases u
  case false=>
   have hp:p.tuple.aQ≠17:=by have:=HU.out;intro e;rw[e]at this;cases this
   have HRW:=Lib.hid (show rw3 l p a qn dst=sD o3 sa (qw (cs:Int))by rw[HR3.out,if_neg (fun h=>hp h.1),if_neg (fun h=>hp h.1)];simp[PL,qw]);clear hp;go_upto_region 16 with fail
   go_quiet ((first|(go_at_call 311;(with_reducible refine(CC1.out _).mono ?_);rintro e w2 ⟨rfl,rfl⟩;exact⟨rfl,_,rfl⟩)|(go_at_call 311;(with_reducible refine(CC2.out _).mono ?_);rintro e w2 ⟨rfl,rfl⟩;exact⟨rfl,_,rfl⟩)));have L7:=Lib.hid (L5.out.go (fI (Below.refl _ _) nq));generalize w11.drewN nq=wN at L7 ⊢;have CT:=Lib.hid (Ia (bs:=o3) (by rw[HL3.out];exact L7.out) sa cs (by exact HC2.out) (by rw[HL3.out];omega) (by rw[HL3.out];omega));rw[HL3.out]at CT;clear CC1 CC2 L5;go_wp2_with (go_at_call 310;(with_reducible refine CT.out.mono ?_);rintro e w13 ⟨rfl,h13⟩;have L13:=Lib.hid h13;clear h13);go_ret2;exact⟨some ⟨g,0,none⟩,en,c5,by rw[HVO.out];rfl,by rw[HVO.out];show gy _ _ _ _ (rw3 l p a qn dst);rw[HRW.out];exact L13.out.rd,L13.out.o.dF⟩
  case true=>
   have hp:p.tuple.aQ=17:=by have:=HU.out;simpa using this.symm
   cases z
   case true=>
    have hw:was=0:=by have:=Nz.out;simpa using this.symm
    have HRW:=Lib.hid (show rw3 l p a qn dst=o3 by rw[HR3.out,if_pos ⟨hp,hw⟩]);clear hp hw CC1 CC2;go_wp2;go_ret2;exact⟨some ⟨g,0,none⟩,en,c5,by rw[HVO.out];rfl,by rw[HVO.out];show gy _ _ _ _ (rw3 l p a qn dst);rw[HRW.out];exact L5.out.rd,L5.out.o.dF⟩
   case false=>
    have hw:was≠0:=by have:=Nz.out;intro e;rw[e]at this;cases this
    by_cases hc0:cs=0
    ·have HRW:=Lib.hid (show rw3 l p a qn dst=sD o3 sa (qw ((65535:Nat):Int))by rw[HR3.out,if_neg (fun h=>hw h.2),if_pos ⟨hp,hc0⟩];rfl)
     have q1:((cs:Int)==0)=true:=by rw[hc0];rfl
     have q2:decide ((cs:Int)=0)=true:=by rw[hc0];rfl
     clear hp hw hc0;go_upto_region 16 with fail
     go_quiet ((first|(go_at_call 311;(with_reducible refine(CC1.out _).mono ?_);rintro e w2 ⟨rfl,rfl⟩;exact⟨rfl,_,rfl⟩)|(go_at_call 311;(with_reducible refine(CC2.out _).mono ?_);rintro e w2 ⟨rfl,rfl⟩;exact⟨rfl,_,rfl⟩)));have L7:=Lib.hid (L5.out.go (fI (Below.refl _ _) nq));generalize w11.drewN nq=wN at L7 ⊢;have CT:=Lib.hid (Ia (bs:=o3) (by rw[HL3.out];exact L7.out) sa 65535 (by exact ay _) (by rw[HL3.out];omega) (by rw[HL3.out];omega));rw[HL3.out,show((65535:Nat):Int)=65535 from rfl]at CT;clear CC1 CC2 L5;go_wp2_with (go_at_call 310;(with_reducible refine CT.out.mono ?_);rintro e w13 ⟨rfl,h13⟩;have L13:=Lib.hid h13;clear h13);go_ret2;exact⟨some ⟨g,0,none⟩,en,c5,by rw[HVO.out];rfl,by rw[HVO.out];show gy _ _ _ _ (rw3 l p a qn dst);rw[HRW.out];exact L13.out.rd,L13.out.o.dF⟩
    ·have HRW:=Lib.hid (show rw3 l p a qn dst=sD o3 sa (qw (cs:Int))by rw[HR3.out,if_neg (fun h=>hw h.2),if_neg (fun h=>hc0 h.2)];simp[PL,qw])
     have q1:((cs:Int)==0)=false:=by rw[beq_eq_false_iff_ne];omega
     have q2:decide ((cs:Int)=0)=false:=by rw[decide_eq_false_iff_not];omega
     clear hp hw hc0;go_upto_region 16 with fail
     go_quiet ((first|(go_at_call 311;(with_reducible refine(CC1.out _).mono ?_);rintro e w2 ⟨rfl,rfl⟩;exact⟨rfl,_,rfl⟩)|(go_at_call 311;(with_reducible refine(CC2.out _).mono ?_);rintro e w2 ⟨rfl,rfl⟩;exact⟨rfl,_,rfl⟩)));have L7:=Lib.hid (L5.out.go (fI (Below.refl _ _) nq));generalize w11.drewN nq=wN at L7 ⊢;have CT:=Lib.hid (Ia (bs:=o3) (by rw[HL3.out];exact L7.out) sa cs (by exact HC2.out) (by rw[HL3.out];omega) (by rw[HL3.out];omega));rw[HL3.out]at CT;clear CC1 CC2 L5;go_wp2_with (go_at_call 310;(with_reducible refine CT.out.mono ?_);rintro e w13 ⟨rfl,h13⟩;have L13:=Lib.hid h13;clear h13);go_ret2;exact⟨some ⟨g,0,none⟩,en,c5,by rw[HVO.out];rfl,by rw[HVO.out];show gy _ _ _ _ (rw3 l p a qn dst);rw[HRW.out];exact L13.out.rd,L13.out.o.dF⟩
 ·have HN:=Lib.hid (NO.out (by rw[HK.out];simp;intro _ _ _;omega))
  clear Ny ho;go_wp2_with (go_at_call 307;(with_reducible refine CO.out.mono ?_);rintro e w4 ⟨rfl,hb⟩;have Z4:=Lib.hid (ZG.out _ hb);clear hb)
  all_goals
   first
   | (go_ret2
      rw[HN.out];exact⟨none,0,0,rfl,LG _,Z4.out.dF⟩)
   | (exfalso;omega)
theorem amb(w:au)(A:Option aU)(n c:Nat)(l:List UInt8)(a:fu)(q:Int)(tX:n<=c)(hc:c<=9223372036854775807/\n<=1000000)(hr:gy w w.heap.size A n l):aR aj 205 #[.slice A n c,.agg a.aA,.int .i64 q] w (alo w (ama l a q true)):=by
 have X0:=Lib.hid (dL.new w a.aA 27);have B0:=Lib.hid ((Below.refl w.heap.size w).alloc (ay _) (.cells a.aA 27));have CR:=Lib.hid (Yr (w.alloc (.cells a.aA 27)) A n c l a q true tX hc (hr.upon B0.out));have la:=X0.out.ajw;unfold alo at CR;clear hr;go_enter Tryz.func205,Tryz.ntmps205;go_wp2_with (go_at_call 267;(with_reducible refine CR.out.mono ?_);rintro e w2 ⟨A2,n2,c2,rfl,Mx,kF⟩;have R2:=Lib.hid Mx;have B2:=Lib.hid kF;clear Mx kF la)
 trace_state
 go_ret2;exact⟨A2,n2,c2,rfl,R2.out,ji B0.out B2.out⟩
end
section
variable {W W':au} {q:Nat} {e:En} {s:qK} {x:Eg} {q2 g:Nat} {sl:List (Option Fw)}
def aJK(W:au)(r:Int×List UInt8)(e':kX)(W':au):Prop:=(r.1=0/\LC W r.2 e' W')\/(r.1≠0/\e'=.panicked [{v:=TV r.1,recovered:=false}]/\aN W.heap.size W W')
theorem aJL:oV 25 6 (Bv (bG 6 0)):=⟨⟨_,Tryz.underlying25,rfl⟩,by kernel_rfl,by kernel_rfl,gG _⟩
theorem dL.avl{W:au}{b o:Nat}{c:Array aC}{m:Vector UInt8 6}(h:dL W b c)(hc:c.extract o (o+6)=Bv m)(hs:o+6<=c.size):(DI (.pointer (some ⟨b,o,none⟩))).run aj W=.ok (.agg (Bv m)) W:=aJL.DZ h o hc hs
theorem dL.TY{W:au}{b o:Nat}{c:Array aC}{a:fu}(h:dL W b c)(hc:c.extract o (o+17)=a.aA)(hs:o+17<=c.size):(rR (.pointer (some ⟨b,o,none⟩))).run aj W=.ok (.agg a.aA) W:=aco.DZ h o hc hs
theorem Bk.atE(b:Bk):b.aA.extract 19 (19+6)=Bv b.Gq:=Bk.aiI b
theorem Vm{l:List UInt8}{k E:Nat}{b:List UInt8}(h:l.length<=E)(hk:k+b.length<=E):(sD l k b).length<=E:=by unfold sD;simp;omega
theorem atF{l:List UInt8}{a:fu}{n:Int}:(acM l a n true).length<=l.length:=by
 cases h:Tx l a n with
 | false=>unfold acM;rw[h];simp
 | true=>
   have hk:(wG l).kind=0:=by unfold Tx at h;simp only[bl,beq_iff_eq]at h;exact h.1.1
   have F:=PN hk;unfold acM;rw[if_pos h];generalize wG l=p at F;have hl:=F.len;have f2:=F.Du;have f3:=F.tK;have f5:=F.Hf;have f4:=F.pro;obtain⟨E,hE⟩:∃E,E=p.Hf.toNat:=⟨_,rfl⟩
   suffices (rw3 l p a n.toNat true).length<=E by omega
   have hS:p.tK.toNat+8<=E:=by split at f5<;>omega
   have hb:(a.b.toList.take (wH p)).length<=wH p:=by rw[bK];omega
   have ha:aeY p true+wH p<=E:=by
    unfold aeY wH;cases hs:p.tuple.src.j6<;>simp[hs]at f3⊢<;> omega
   have hp:Hu p true+2<=E:=by unfold Hu;simp;omega
   have hn:p.Du.toNat+12<=E:=by split at f3<;>omega
   have hq:p.tK.toNat+DW p.tuple.aQ+2<=E:=by
    unfold DW;rcases f4 with e|e<;>simp[e]at f5⊢<;> omega
   have l1:(rw1 l p a n.toNat true).length<=E:=Vm (Vm (by rw[bK];omega) (by omega)) (by rw[Xz];omega);have l2:(rw2 l p a n.toNat true).length<=E:=by
    unfold rw2;split
    ·exact l1
    ·exact Vm l1 (by rw[Xz];omega)
   unfold rw3;split
   ·exact l2
   ·exact Vm l2 (by rw[Xz];omega)
theorem amc(ts:List Tg):(ts.flatMap AJ).length=4*ts.length:=by
 induction ts with
 | nil=>rfl
 | cons t ts ih=>rw[iJ,aS,ih,bC];show 4+_=_;omega
theorem ap1(l:List UInt8)(a b:fu):(Iw l a b).1.length<=200000:=by
 have ht:=(XG l).2;have hp:∀k,(qG (mD l).1.dst (mD l).1.src (mD l).1.fH k).length<=22:=fun k=>by
  unfold qG;rw[aS,aS,aS,amc];simp only[Vector.length_toList,qw,bC,List.length_nil];omega
 have h40:∀y:Sx,(xk y).length=40:=fun y=>by simp[xk]
 have h20:∀y:Fo,(uf y).length=20:=fun y=>by simp[uf,ae0,DX]
 unfold Iw;by_cases h1:(mD l).2≠0
 ·rw[if_pos h1];simp
 rw[if_neg h1];by_cases h2:(AL (mD l).1.oF (l.drop (mD l).1.fE)).ok=false
 ·rw[if_pos h2];simp
 rw[if_neg h2];by_cases h3:ao0 a b=false
 ·rw[if_pos h3];simp
 rw[if_neg h3];have hk:∀k:Nat,((l.drop (mD l).1.fE).take k).length<=k:=fun k=>by simp;omega
 by_cases h4:a.j6=true
 ·rw[if_pos h4]
  by_cases h5:(AL (mD l).1.oF (l.drop (mD l).1.fE)).dz>65535
  ·rw[if_pos h5];simp
  ·rw[if_neg h5]
   have:=hp 34525;have:=hk (AL (mD l).1.oF (l.drop (mD l).1.fE)).dz.toNat;simp only[aS,h40];omega
 ·rw[if_neg h4]
  by_cases h5:20+(AL (mD l).1.oF (l.drop (mD l).1.fE)).dz>65535
  ·rw[if_pos h5];simp
  ·rw[if_neg h5]
   have:=hp 2048;have:=hk (AL (mD l).1.oF (l.drop (mD l).1.fE)).dz.toNat;simp only[aS,h20];omega
def afE(e:En)(b:Bk):fu:=if b.jk.j6 then e.c.j6 else e.c.Dt
theorem amd(h:yY W q e s x q2 g sl)(v:Vp)(b:Bk)(t:Tu)(A:Option aU)(n c:Nat)(l:List UInt8)(tX:n<=c)(hc:c<=9223372036854775807/\n<=1000000)(hr:gy W W.heap.size A n l):
 aR aj 137 #[.pointer (some ⟨q,0,none⟩),.agg v.aA,.agg b.aA,.agg t.aA,.slice A n c] W (aJK W (P5 e v b t l)):=by
 have Z0:=Lib.hid ((((Bx.start W).new v.aA 98).new b.aA 62).new t.aA 81);have e1:(W.alloc (.cells v.aA 98)).heap.size=W.heap.size+1:=by simp
 have e2:((W.alloc (.cells v.aA 98)).alloc (.cells b.aA 62)).heap.size=W.heap.size+1+1:=by simp
 rw[e2,e1]at Z0;clear e1 e2;have H:=Lib.hid h;have HR:=Lib.hid hr;have hl:=Lib.hid hr.len;have HOE:=Lib.hid (show P5 e v b t l=if v.Xd then(if(Iw l (afE e b) b.jk).2=0 then(0,FK (Iw l (afE e b) b.jk).1 b.Gq e.c.Gq)else(10,[]))else if b.jk.j6=t.dst.j6 then(0,FK (acM l b.jk b.nL true) b.Gq e.c.Gq)else(9,[])from rfl);have hcf:=h.b.cf;have aJM:=Lib.hid (show x.cf.Gq=e.c.Gq by rw[hcf]);have aDr:=Lib.hid (show x.cf.Dt=e.c.Dt by rw[hcf]);have ayz:=Lib.hid (show x.cf.j6=e.c.j6 by rw[hcf]);clear h hr hcf;have CT:=Lib.hid (fun(w:au) (B:Option aU) (m d:Nat) (bs:List UInt8) (hm:m<=1000000) (hR:gy w w.heap.size B m bs)=>acQ w B m d bs b.Gq e.c.Gq hm hR);have K1:=Lib.hid (fun(w:au) (hb:aN (W.heap.size+1+1+1) w w)=>True.intro);have KM:=Lib.hid (fun(w:au) (h1:dL w (W.heap.size+1) b.aA) (h2:aN W.heap.size W w)=>show(DI (.pointer (some ⟨W.heap.size+1,19,none⟩))).run aj w=.ok (.agg (Bv b.Gq)) w/\(DI (.pointer (some ⟨q,27,none⟩))).run aj w=.ok (.agg (Bv e.c.Gq)) w from⟨h1.avl (Bk.atE b) (by rw[Bk.ak];omega),by have:=(H.out.b.eg.go h2).avl (o:=27) (Eg.ahr x) (by rw[Eg.ak];omega);rw[aJM.out]at this;exact this⟩);have f19:=(Z0.out.b2.aI.1 19).trans (Vp.ak3 v);go_enter Tryz.func137,Tryz.ntmps137;go_upto_region 1 with fail
 generalize((W.alloc (.cells v.aA 98)).alloc (.cells b.aA 62)).alloc (.cells t.aA 81)=w1 at Z0 f19 ⊢;cases hv:v.Xd
 ·rw[hv]at f19 HOE
  have f1:=(Z0.out.b1.aI.1 1).trans (Bk.Il b);have f17:=(Z0.out.b0.aI.1 17).trans (Tu.awt t);by_cases h6:b.jk.j6=t.dst.j6
  ·have HE:=Lib.hid (show P5 e v b t l=(0,FK (acM l b.jk b.nL true) b.Gq e.c.Gq)by rw[HOE.out,if_neg (by simp),if_pos h6])
   have q1:(b.jk.j6 != t.dst.j6)=false:=by rw[h6];simp
   have q2:(b.jk.j6==t.dst.j6)=true:=by rw[h6];simp
   have la:=Z0.out.b1.TY (o:=1) (a:=b.jk) (Bk.GN b) (by rw[Bk.ak];omega);have lp:=(Z0.out.b1.aI.1 18).trans (Bk.amX b);have CN:=Lib.hid (amb w1 A n c l b.jk b.nL tX hc (Z0.out.Nc HR.out));unfold alo at CN;clear h6 hv;go_upto_region 5 with(go_at_call 205;(with_reducible refine CN.out.mono ?_);rintro r w2 ⟨A2,n2,c2,rfl,Mx,kF⟩;have Z2:=Lib.hid (Z0.out.go kF);have R2:=Lib.hid Mx;clear Mx kF la lp f1 f17 f19)
   have CTT:=Lib.hid (CT.out w2.drew A2 n2 c2 _ (by have h1:=R2.out.len;have h2:(acM l b.jk b.nL true).length=n2:=h1;have:=atF (l:=l) (a:=b.jk) (n:=b.nL);have:=hl.out;omega) R2.out);obtain⟨k1,k2⟩:=KM.out _ Z2.out.drew.b1 Z2.out.drew.dF;go_region_held_law (fun w'=>(DI (.pointer (some ⟨W.heap.size+1,19,none⟩))).run aj w'=.ok (.agg (Bv b.Gq)) w'/\(DI (.pointer (some ⟨q,27,none⟩))).run aj w'=.ok (.agg (Bv e.c.Gq)) w')
    (first|exact KM.out _ Z2.out.drew.b1 Z2.out.drew.dF|exact KM.out _ Z3.out.b1 Z3.out.dF|go_keep)
    (first|(go_at_call 206;(with_reducible refine CTT.out.mono ?_);rintro r w3 ⟨A3,n3,c3,rfl,hn3,Bj,uH⟩;have Z3:=Lib.hid (Z2.out.drew.go uH);have N3:=Lib.hid hn3;have O3:=Lib.hid Bj;clear hn3 Bj uH))
   go_wp2;go_ret;rw[HE.out];exact .inl ⟨rfl,A3,n3,c3,rfl,N3.out,iG O3.out Z2.out.dF.size,Z3.out.dF⟩
  ·have HE:=Lib.hid (show P5 e v b t l=(9,[])by rw[HOE.out,if_neg (by simp),if_neg h6])
   have q1:(b.jk.j6 != t.dst.j6)=true:=by simpa using h6
   have q2:(b.jk.j6==t.dst.j6)=false:=by simpa using h6
   clear h6 hv;go_wp2;rw[HE.out];exact⟨rfl,.inr ⟨by decide,rfl,Z0.out.dF⟩⟩
 ·rw[hv]at f19 HOE
  have f1:=(Z0.out.b1.aI.1 1).trans (Bk.Il b);have la:=Z0.out.b1.TY (o:=1) (a:=b.jk) (Bk.GN b) (by rw[Bk.ak];omega);have l4:(rR (.pointer (some ⟨q,33,none⟩))).run aj w1=.ok (.agg e.c.Dt.aA) w1:=by have:=(H.out.b.eg.go Z0.out.dF).TY (o:=33) (Eg.acp x) (by rw[Eg.ak];omega);rw[aDr.out]at this;exact this
  have l6:∀w',aN W.heap.size W w'->(rR (.pointer (some ⟨q,50,none⟩))).run aj w'=.ok (.agg e.c.j6.aA) w':=fun w' hb=>by have:=(H.out.b.eg.go hb).TY (o:=50) (Eg.ahs x) (by rw[Eg.ak];omega);rw[ayz.out]at this;exact this
  have L6:=Lib.hid l6;clear hv l6;obtain⟨vU,how⟩:∃o,o=afE e b:=⟨_,rfl⟩
  rw[<-how]at HOE;have HOW:=Lib.hid how;clear how;have Z1:=Lib.hid (Z0.out.new e.c.Dt.aA 27);have HY:=Lib.hid (fun p hp=>(Z0.out.2 p hp).2.lt);go_upto_region 7 with fail
  generalize w1.alloc (.cells e.c.Dt.aA 27)=w2 at Z1 ⊢;generalize w1.heap.size=y at *;have HYW:=Lib.hid (show W.heap.size+1+1<y from HY.out (W.heap.size+1+1,t.aA) (by simp));have f1:=(Z1.out.b2.aI.1 1).trans (Bk.Il b);go_upto_if 52 with fail
  go_cut []from 52 to 57 (fun wx=>Bx [(y,vU.aA),(W.heap.size+1+1,t.aA),(W.heap.size+1,b.aA),(W.heap.size,v.aA)] W wx)
  case first=>
   cases h6:b.jk.j6
   ·have HO2:=Lib.hid (show vU=e.c.Dt by rw[HOW.out];unfold afE;rw[h6];rfl)
    rw[h6]at f1;clear h6;go_wp2_with fail;go_meet
    case rel=>rw[HO2.out];exact Z1.out
   ·have HO2:=Lib.hid (show vU=e.c.j6 by rw[HOW.out];unfold afE;rw[h6];rfl)
    rw[h6]at f1;have l6:=L6.out _ Z1.out.dF;have th:=Z1.out.b0.there 0 17 (aY (fu.ak _).symm);clear h6;go_wp2_with fail;go_meet
    case rel=>
     have:=Z1.out.put (fun p hp=>by have:=HYW.out;simp at hp;rcases hp with rfl|rfl|rfl<;>simp<;>omega) e.c.j6.aA (by rw[fu.ak,fu.ak]);rw[HO2.out];exact this
  have Z3:=Lib.hid hcut;clear hcut Z1 f1 la l4;generalize wc=w3 at Z3 ⊢;have la:=Z3.out.b2.TY (o:=1) (a:=b.jk) (Bk.GN b) (by rw[Bk.ak];omega);have lo:=Z3.out.b0.TY (o:=0) (a:=vU) (by have:=fu.ak vU;rw[bB,<-this];simp) (by rw[fu.ak];omega);have CW:=Lib.hid (ahL w3 A n c l vU b.jk tX hc (Z3.out.Nc HR.out));unfold alo at CW;obtain⟨wy,Qn⟩:∃z,z=(Iw l vU b.jk).2:=⟨_,rfl⟩
  have OE:=Lib.hid Qn;rw[<-Qn]at CW HOE;have HWL:=Lib.hid (ap1 l vU b.jk);by_cases h0:wy=0
  ·have HE:=Lib.hid (show P5 e v b t l=(0,FK (Iw l vU b.jk).1 b.Gq e.c.Gq)by rw[HOE.out,if_pos rfl,if_pos h0])
   have q1:(wy != 0)=false:=by simp[h0]
   clear h0 Qn;go_upto_region 12 with(go_at_call 207;(with_reducible refine CW.out.mono ?_);rintro r w4 ⟨A2,n2,c2,rfl,Mx,kF⟩;have Z4:=Lib.hid (Z3.out.go kF);have R2:=Lib.hid Mx;clear Mx kF la lo f19)
   have CTT:=Lib.hid (CT.out w4.drew A2 n2 c2 _ (by have h1:=R2.out.len;have:=HWL.out;omega) R2.out);obtain⟨k1,k2⟩:=KM.out _ Z4.out.drew.b2 Z4.out.drew.dF;go_region_held_law (fun w'=>(DI (.pointer (some ⟨W.heap.size+1,19,none⟩))).run aj w'=.ok (.agg (Bv b.Gq)) w'/\(DI (.pointer (some ⟨q,27,none⟩))).run aj w'=.ok (.agg (Bv e.c.Gq)) w')
    (first|exact KM.out _ Z4.out.drew.b2 Z4.out.drew.dF|exact KM.out _ Z5.out.b2 Z5.out.dF|go_keep)
    (first|(go_at_call 206;(with_reducible refine CTT.out.mono ?_);rintro r w5 ⟨A3,n3,c3,rfl,hn3,Bj,uH⟩;have Z5:=Lib.hid (Z4.out.drew.go uH);have N3:=Lib.hid hn3;have O3:=Lib.hid Bj;clear hn3 Bj uH))
   go_wp2;go_ret;rw[HE.out];exact .inl ⟨rfl,A3,n3,c3,rfl,N3.out,iG O3.out Z4.out.dF.size,Z5.out.dF⟩
  ·have HE:=Lib.hid (show P5 e v b t l=(10,[])by rw[HOE.out,if_pos rfl,if_neg h0])
   have q1:(wy != 0)=true:=by simpa using h0
   clear h0 Qn;go_wp2_with (go_at_call 207;(with_reducible refine CW.out.mono ?_);rintro r w4 ⟨A2,n2,c2,rfl,Mx,kF⟩;have Z4:=Lib.hid (Z3.out.go kF);clear Mx kF la lo f19);rw[HE.out];exact⟨rfl,.inr ⟨by decide,rfl,Z4.out.dF⟩⟩
end
structure Oc where
 err:Int
 jw:Int
 zi:Bool
 mq:Int
 name:List UInt8
 UC:Option aU
 Yt:Nat
 aif:Nat
def Oc.aA(x:Oc):Array aC:=#[.int .i64 x.err,.int .i64 x.jw,.bool x.zi,.int .i64 x.mq,.string (bV x.name),.slice x.UC x.Yt x.aif]
theorem Oc.ak(x:Oc):x.aA.size=6:=by simp[Oc.aA]
theorem Oc.cB(x:Oc):x.aA.all (·.oneCell')=true:=by simp[Oc.aA,cK]
@[go_sem]theorem Oc.eu(x:Oc):eu x.aA=6:=Oc.ak x
@[go_sem]theorem Oc.aJN(x:Oc):x.aA[0]? = some (.int .i64 x.err):=by simp[Oc.aA,aG]
@[go_sem]theorem Oc.abb(x:Oc):x.aA[1]? = some (.int .i64 x.jw):=by simp[Oc.aA,aG]
@[go_sem]theorem Oc.aJO(x:Oc):x.aA[2]? = some (.bool x.zi):=by simp[Oc.aA,aG]
@[go_sem]theorem Oc.Yo(x:Oc):x.aA[3]? = some (.int .i64 x.mq):=by simp[Oc.aA,aG]
@[go_sem]theorem Oc.zX(x:Oc):x.aA[4]? = some (.string (bV x.name)):=by simp[Oc.aA,aG]
@[go_sem]theorem Oc.aJP(x:Oc):x.aA[5]? = some (.slice x.UC x.Yt x.aif):=by simp[Oc.aA,aG]
def uL:Oc:=⟨0,0,false,0,[],none,0,0⟩
@[go_sem]theorem aDs:bY #[aJ bU 0,aJ bU 0,bQ false,aJ bU 0,jc {data:=#[]},bE none 0 0]=bY uL.aA:=rfl
@[go_sem]theorem ayB:eB #[aJ bU 0,aJ bU 0,bQ false,aJ bU 0,jc {data:=#[]},bE none 0 0] 58=eB uL.aA 58:=rfl
theorem kOc:oV 58 6 uL.aA:=⟨⟨_,kM,rfl⟩,by kernel_rfl,by kernel_rfl,Oc.ak _⟩
@[go_sem ↓]theorem aSd(v:aC):bZ 58 v=yt 58 v:=rfl
@[go_sem ↓]theorem aSe(v x:aC):eD 58 v x=zW 58 v x:=rfl
@[go_sem]theorem aJQ(W:au)(c:Array aC)(x:Oc)(b:Nat)(hb:b=W.heap.size)(hc:eu c=6):(zW 58 (.pointer (some ⟨b,0,none⟩)) (.agg x.aA)).run aj (W.alloc (.cells c 58))=.ok () (W.alloc (.cells x.aA 58)):=kOc.stN W c x.aA b hb hc (Oc.ak x) (Oc.cB x)
@[go_sem]theorem aNA(W:au)(b o:Nat)(x:Oc)(h:W.there b o 6):(zW 58 (.pointer (some ⟨b,o,none⟩)) (.agg x.aA)).run aj W=.ok () (gT W b o x.aA):=kOc.st W b o x.aA h (Oc.ak x) (Oc.cB x)
@[go_sem ↓]theorem aSf(ps:Array (Nat×aC)):fJ 58 ps=uW 58 ps:=rfl
theorem ap2(w:au)(fs:Array nV)(h:aj.underlying 58=some (.struct fs)):(iB (fun f=>Prod.mk f.offset <$> sizeOf f.type) fs:Sem (Array (Nat×Nat))).run aj w=.ok #[(0,1),(1,1),(2,1),(3,1),(4,1),(5,1)] w:=by
 have e:=kM;rw[h]at e;cases e;show _=_
 kernel_rfl
@[go_sem]theorem aJR(W:au):(uW 58 #[]).run aj W=.ok (.agg uL.aA) W:=kOc.bd0 W _ kM ⟨_,ap2 W _ kM⟩
theorem Oc.aDt(x:Oc)(v:Int):x.aA.setIfInBounds 0 (.int .i64 v)=({x with err:=v}:Oc).aA:=by simp[Oc.aA]
theorem Oc.ap3(x:Oc)(v:Int):x.aA.setIfInBounds 1 (.int .i64 v)=({x with jw:=v}:Oc).aA:=by simp[Oc.aA]
theorem Oc.aDu(x:Oc)(v:Bool):x.aA.setIfInBounds 2 (.bool v)=({x with zi:=v}:Oc).aA:=by simp[Oc.aA]
theorem Oc.avn(x:Oc)(v:Int):x.aA.setIfInBounds 3 (.int .i64 v)=({x with mq:=v}:Oc).aA:=by simp[Oc.aA]
theorem Oc.ayC(x:Oc)(v:List UInt8):x.aA.setIfInBounds 4 (.string (bV v))=({x with name:=v}:Oc).aA:=by simp[Oc.aA]
theorem Oc.aDv(x:Oc)(A:Option aU)(n c:Nat):x.aA.setIfInBounds 5 (.slice A n c)=({x with UC:=A,Yt:=n,aif:=c}:Oc).aA:=by simp[Oc.aA]
@[go_sem]theorem aFz(W:au)(h:Bool)(v:Int)(n:List UInt8)(A:Option aU)(m c:Nat):(uW 58 #[(2,.bool h),(3,.int .i64 v),(4,.string (bV n)),(5,.slice A m c)]).run aj W=.ok (.agg (Oc.mk 0 0 h v n A m c).aA) W:=kOc.bd W _ _ _ _ kM (ap2 W _ kM) (by
 refine(iy rfl rfl (by rw[Oc.ak];omega) (Oc.aDu _ _)).trans ?_;refine(iy rfl rfl (by rw[Oc.ak];omega) (Oc.avn _ _)).trans ?_;refine(iy rfl rfl (by rw[Oc.ak];omega) (Oc.ayC _ _)).trans ?_;refine(iy rfl rfl (by rw[Oc.ak];omega) (Oc.aDv _ _ _ _)).trans ?_;rfl)
@[go_sem]theorem aDw(W:au)(k:Int):(uW 58 #[(1,.int .i64 k)]).run aj W=.ok (.agg (Oc.mk 0 k false 0 [] none 0 0).aA) W:=kOc.bd W _ _ _ _ kM (ap2 W _ kM) (by
 refine(iy rfl rfl (by rw[Oc.ak];omega) (Oc.ap3 _ _)).trans ?_;rfl)
@[go_sem]theorem aDx(W:au)(k:Int):(uW 58 #[(0,.int .i64 k)]).run aj W=.ok (.agg (Oc.mk k 0 false 0 [] none 0 0).aA) W:=kOc.bd W _ _ _ _ kM (ap2 W _ kM) (by
 refine(iy rfl rfl (by rw[Oc.ak];omega) (Oc.aDt _ _)).trans ?_;rfl)
theorem ap4(v:Vector Int 11)(k:Nat)(hk:k<11)(n:Int):(zk v).setIfInBounds k (.int .i64 n)=zk (v.set k n):=by
 unfold zk;rw[List.setIfInBounds_toArray,<-List.map_set];congr 2
 try grind
theorem atG(v:Vector Int 11)(k:Nat)(hk:k<11):upC v k=v.set k (v.toList.getD k 0+1):=by
 apply Vector.ext;intro i hi;have:v.toList.getD k 0=v[k]:=by simp[av,hk]
 rw[this];unfold upC;rw[Vector.getElem_ofFn,Vector.getElem_set];simp only[Fin.getElem_fin];by_cases h:k=i
 ·subst h;simp
 ·have h2:¬((i:Int)=(k:Int)):=by omega
  rw[if_neg h2,if_neg h]
theorem Eg.atH(x:Eg)(k:Nat)(hk:k<11):x.aA.setIfInBounds (79+k) (.int .i64 (x.mg.toList.getD k 0+1))=({x with mg:=upC x.mg k}:Eg).aA:=by
 obtain⟨P,hP,h⟩:∃P:Array aC,P.size=79/\∀v,({x with mg:=v}:Eg).aA=P++zk v:=⟨iU x.key++x.cf.aA++x.pl.aA ++ #[.slice x.Qq x.EA x.UA,.slice x.dnA x.dnN x.dnC,afy x.fl]++x.tb.aA ++ #[.int .i64 x.gN,.int .i64 x.no],by simp[dK,Cn.ak,Pc.ak,Tc.ak],fun v=>by simp[Eg.aA,fT]⟩
 have h0:x.aA=P++zk x.mg:=h x.mg;rw[h0,h,aM,if_neg (by omega),hP,Nat.add_sub_cancel_left,ap4 _ _ hk,atG _ _ hk]
def Oc.why(k:Int):Oc:=⟨0,k,false,0,[],none,0,0⟩
theorem ade(v:aC)(xT:bM)(w:au):(Ie (.iface 219 v) xT 219 true).run aj w=.ok (.tuple #[v,.bool true]) w:=by
 have h:=Tryz.underlying219;simp[Ie,dJ h]
theorem aih{w:au}{q0 qb q:Nat}{o:Oc}{x:Eg}{k:Nat}(hk:k<11)(hr:o.jw=k)(hO:dL w q0 o.aA)(hB:dL w qb #[.pointer (some ⟨q,0,none⟩)])(hE:dL w q x.aA)(hc:0<=x.mg.toList.getD k 0/\x.mg.toList.getD k 0+1<=9223372036854775807):
 CallsD aj 134 #[.pointer (some ⟨q0,0,none⟩),.pointer (some ⟨qb,0,none⟩)] .returning w fun e u' w'=>e=.returned (.tuple #[])/\u'=.returning/\w'=(w.setCell ⟨q,79+k,none⟩ (.int .i64 (x.mg.toList.getD k 0+1))).drew:=by
 have o1:=(hO.aI.1 1).trans (Oc.abb o);rw[hr]at o1;have b0:=hB.aI.1 0;have b1:=hE.aI.1 (79+k);rw[Eg.apU x k hk]at b1;have b2:=hE.aI.2.1 (79+k);have hw:=jU (x.mg.toList.getD k 0+1) (by omega);generalize x.mg.toList.getD k 0=n at *;refine callsD_of_wpS Tryz.func134 rfl fun c₀ cs hu=>?_
 simp only[Tryz.ntmps134,List.size_toArray,bC,List.length_nil,Nat.reduceAdd,Nat.reduceSub,Array.replicate_succ,Array.replicate_zero,List.push_toArray,List.append_toArray,List.nil_append,List.cons_append];apply wpS_seq;apply wpS_seq;apply wpS_region;simp[wpOpsS,go_sem,recoverD,hu,Tryz.ntmps134,Exit.thenS];apply wpS_seq;apply wpS_region;simp[wpOpsS,go_sem,recoverD,hu,Tryz.ntmps134,Exit.thenS];refine wpS_cond (t:=false) (by simp[Act.eval,Array.replicate]) ?_;simp only[Bool.false_eq_true,if_false];refine wpS_of_wp (wp_skip ?_);simp only[Exit.thenS];refine wpS_of_wp ?_;have Ny:(0:Int)<=(k:Int):=by omega
 have hk1:(k:Int)<11:=by omega
 go_upto_region 6 with fail
 go_region;cases c₀;simp_all[bodyPostS,results,Tryz.results134]
theorem adf{w:au}{q0 qb q:Nat}{c:Array aC}{x:Eg}{k:Nat}(lJ:List PanicEntry)(hk:k<11)(hcs:c.size=6)(hO:dL w q0 c)(hB:dL w qb #[.pointer (some ⟨q,0,none⟩)])(hE:dL w q x.aA)(hn1:qb≠q0)(LA:q≠q0)(hc:0<=x.mg.toList.getD k 0/\x.mg.toList.getD k 0+1<=9223372036854775807):
 CallsD aj 134 #[.pointer (some ⟨q0,0,none⟩),.pointer (some ⟨qb,0,none⟩)] (.panicking ({v:=TV k,recovered:=false}::lJ)) w fun e u' w'=>e=.returned (.tuple #[])/\u'=.panicking ({v:=TV k,recovered:=true}::lJ)/\w'=((gT w q0 0 (Oc.why k).aA).setCell ⟨q,79+k,none⟩ (.int .i64 (x.mg.toList.getD k 0+1))).drew:=by
 have hth:w.there q0 0 6:=hO.there 0 6 (by omega);have hO2:=hO.put (Oc.why k).aA (by rw[Oc.ak,hcs]);have o1:=(hO2.aI.1 1).trans (Oc.abb _);rw[show(Oc.why (k:Int)).jw=k from rfl]at o1;have b0:=(hB.gD (o:=0) (x:=(Oc.why k).aA) hn1).aI.1 0;have b1:=(hE.gD (o:=0) (x:=(Oc.why k).aA) LA).aI.1 (79+k);rw[Eg.apU x k hk]at b1;have b2:=(hE.gD (o:=0) (x:=(Oc.why k).aA) LA).aI.2.1 (79+k);have hw:=jU (x.mg.toList.getD k 0+1) (by omega);generalize x.mg.toList.getD k 0=n at *;refine callsD_of_wpS Tryz.func134 rfl fun c₀ cs hu=>?_
 simp only[Tryz.ntmps134,List.size_toArray,bC,List.length_nil,Nat.reduceAdd,Nat.reduceSub,Array.replicate_succ,Array.replicate_zero,List.push_toArray,List.append_toArray,List.nil_append,List.cons_append];apply wpS_seq;apply wpS_seq;apply wpS_region;simp[wpOpsS,go_sem,recoverD,hu,Tryz.ntmps134,Exit.thenS];apply wpS_seq;apply wpS_region;simp[wpOpsS,go_sem,recoverD,hu,Tryz.ntmps134,Exit.thenS,TV];refine wpS_cond (t:=true) (by simp[Act.eval,Array.replicate]) ?_;simp only[if_true];refine wpS_of_wp ?_;have hty:=fun v xT w=>ade v xT w
 have Ck:(Oc.mk 0 (k:Int) false 0 [] none 0 0).aA=(Oc.why k).aA:=rfl;go_wp2;simp only[Exit.thenS,Ck];refine wpS_of_wp ?_;have Ny:(0:Int)<=(k:Int):=by omega
 have hk1:(k:Int)<11:=by omega
 generalize gT w q0 0 (Oc.why k).aA=w2 at *;go_upto_region 6 with fail
 go_region;exact⟨rfl,_,rfl,_,results_none rfl _ _ _,rfl,rfl,rfl⟩
section
variable {W W':au} {q:Nat} {e:En} {s:qK} {x:Eg} {q2 g:Nat} {sl:List (Option Fw)}
theorem ap6(p:Int)(l:List UInt8):0<=(JQ p l).1.vB/\(JQ p l).1.vB<64:=by
 unfold JQ qF
 repeat' split
 all_goals simp[qQ]
 all_goals omega
theorem ap7(l:List UInt8):0<=(wG l).vB/\(wG l).vB<64:=by
 have h:=ap6;unfold wG xZ Ng
 repeat' split
 all_goals first|exact h _ _|simp[Pm]
theorem ap8{v:Vector Int 11}{M:Int}(h:∀n∈v.toList,0<=n/\n<=M){k:Nat}(hk:k<11):0<=v.toList.getD k 0/\v.toList.getD k 0<=M:=by
 refine h _ ?_;rw[av,aD (by simpa using hk),Option.getD_some];exact eO _
theorem yY.num(h:yY W q e s x q2 g sl)(hf:jE [q] W W')(ti n:Int)(v:Vector Int 11)(hb:dL W' q ({x with gN:=ti,no:=n,mg:=v}:Eg).aA):yY W' q e {s with gN:=ti,no:=n,mg:=v} ({x with gN:=ti,no:=n,mg:=v}:Eg) q2 g sl:=by
 have o:∀b,b∈nZ x->b∉[q]:=fun b hm=>h.b.out hm
 have hs:=hf.size;have hq:=h.b.nq;refine⟨⟨hb,h.b.key,h.b.cf,h.b.mq,h.b.vs.keep hf (fun b hm=>o b (dS.2 (.inl hm))),h.b.bk.keep hf (fun b hm=>o b (dS.2 (.inr (.inl hm)))),h.b.hl.keep hf (fun b hm=>o b (dS.2 (.inr (.inr (.inl hm))))),h.b.fl,h.b.tb.keep hf (by simp;omega) (by simp;omega),h.b.rm,h.b.nq,fun b hm=>by have:=h.b.FT b hm;omega,rfl,rfl,rfl⟩,h.dn.keep hf (fun b hm=>o b (dS.2 (.inr (.inr (.inr (.inl hm)))))),h.tt.keep hf (fun b hm=>o b (dS.2 (.inr (.inr (.inr (.inr (.inl hm))))))) (fun b hm=>o b (dS.2 (.inr (.inr (.inr (.inr (.inr hm)))))))⟩
theorem yY.rz{sl':List (Option Fw)}{l':List Fw}(h:yY W q e s x q2 g sl)(hf:jE [q2,g] W W')(ht:LH W' q2 g e.key e.c.dR sl' l')(hl:sl'.length=sl.length):yY W' q e {s with sN:=l'} x q2 g sl':=by
 have o:∀b,b∈nZ x->b∉[q2,g]:=fun b hm=>by have:=h.b.FT b hm;simp;omega
 have hs:=hf.size;have hq:=h.b.nq;refine⟨⟨hf.box h.b.eg (by simp;omega),h.b.key,h.b.cf,h.b.mq,h.b.vs.keep hf (fun b hm=>o b (dS.2 (.inl hm))),h.b.bk.keep hf (fun b hm=>o b (dS.2 (.inr (.inl hm)))),h.b.hl.keep hf (fun b hm=>o b (dS.2 (.inr (.inr (.inl hm))))),h.b.fl,ht,by rw[hl];exact h.b.rm,h.b.nq,fun b hm=>by have:=h.b.FT b hm;omega,h.b.gN,h.b.no,h.b.mg⟩,h.dn.keep hf (fun b hm=>o b (dS.2 (.inr (.inr (.inr (.inl hm)))))),h.tt.keep hf (fun b hm=>o b (dS.2 (.inr (.inr (.inr (.inr (.inl hm))))))) (fun b hm=>o b (dS.2 (.inr (.inr (.inr (.inr (.inr hm)))))))⟩
structure OuR(B:Nat)(W:au)(o:Oc)(u:Ou):Prop where
 err:o.err=u.err
 jw:o.jw=u.jw
 zi:o.zi=u.zi
 mq:o.mq=u.mq
 name:o.name=u.name
 n:o.Yt=u.out.length
 vU:W.ownsRow B 5 1 (.slice o.UC o.Yt o.aif) o.Yt (u.out.map bv)
def Zp(W:au)(q:Nat)(e:En)(x:Eg)(q2 g:Nat)(sl:List (Option Fw))(u:qK×Ou)(r:kX)(W':au):Prop:=
 ∃o x' sl',r=.returned (.agg (Oc.aA o))/\OuR W.heap.size W' o u.2/\yY W' q e u.1 x' q2 g sl'/\sl'.length=sl.length/\(∀b∈nZ x',b∈nZ x\/W.heap.size<=b)/\jE [q,q2,g] W W'
theorem OuR.keep{B:Nat}{o:Oc}{u:Ou}{F:List Nat}(h:OuR B W o u)(hf:jE F W W')(hF:∀b∈F,b<B):OuR B W' o u:=
 ⟨h.err,h.jw,h.zi,h.mq,h.name,h.n,Bz h.vU hf (fun k hk hm=>by
  have h2:k∈wP o.UC:=by
   cases hA:o.UC with
   | none=>rw[hA]at hk;cases hk
   | some a=>rw[hA]at hk;exact DY.2 ⟨a,rfl,by simpa[jW]using hk⟩
  have h3:=(kZ h.vU k h2).1;have:=hF k hm;omega)⟩
theorem yY.count(h:yY W q e s x q2 g sl){k:Nat}(hk:k<11):yY (W.setCell ⟨q,79+k,none⟩ (.int .i64 (x.mg.toList.getD k 0+1))).drew q e {s with mg:=upC s.mg k} ({x with mg:=upC x.mg k}:Eg) q2 g sl:=by
 have hb:=h.b.eg.eG (79+k) (.int .i64 (x.mg.toList.getD k 0+1));rw[Eg.atH x k hk]at hb;have hf:jE [q] W (W.setCell ⟨q,79+k,none⟩ (.int .i64 (x.mg.toList.getD k 0+1))).drew:=((jE.refl [q] W).set ⟨q,79+k,none⟩ _ (.inl (by simp))).drewN 1;have:=h.num hf x.gN x.no (upC x.mg k) (hb.go (fI (Below.refl _ _) 1));rw[h.b.gN,h.b.no,h.b.mg]at this;rw[h.b.mg];rw[<-h.b.gN,<-h.b.no]at this ⊢;exact this
theorem Vn{M:Int}{w:au}{c:Array aC}{l:List UInt8}(tmps:Array aC)(r:Int)(ht:tmps.getD 4 undef=.pointer (some ⟨W.heap.size+1,0,none⟩))(hO:dL w (W.heap.size+1) c)(hc:c.size=6)(hB:dL w W.heap.size #[.pointer (some ⟨q,0,none⟩)])(h:yY W q e s x q2 g sl)(hi:oG M e s)(hM:M<1152921504606846976)(hr:(Ew e s l).jw=r)(h0:r≠0)(hl:aN W.heap.size W w):
 bodyPostD aj Tryz.f70 (Zp W q e x q2 g sl (Ey e s l)) (Exit.panic [{v:=TV r,recovered:=false}]) {tmps:=tmps,defers:=[{target:=Target.fn (Fn.func 134) #[Value.pointer (some ⟨W.heap.size+1,0,none⟩),Value.pointer (some ⟨W.heap.size,0,none⟩)],args:=#[]}]} w:=by
 have h1:=ahN e s l;rw[hr]at h1;obtain⟨k,rfl⟩:∃k:Nat,r=k:=⟨r.toNat,by omega⟩
 have hk:k<11:=by omega
 have hu:Ey e s l=({s with mg:=upC s.mg k},{Hw with jw:=k}):=by unfold Ey;rw[hr,if_neg h0]
 have fP:=h.b.lt;have hcn:=ap8 hi.ct hk;rw[<-h.b.mg]at hcn;have hE:=h.b.eg.go hl;refine leaves_cons (f:=134) (args:=#[.pointer (some ⟨W.heap.size+1,0,none⟩),.pointer (some ⟨W.heap.size,0,none⟩)]) (by simp) (by simp[go_sem]) ?_;refine(adf [] hk hc hO hB hE (by omega) (by omega) (by omega)).mono ?_;have hl2:=lq hl (W.heap.size+1) 0 (Oc.why k).aA (by omega);have hO2:=hO.put (Oc.why k).aA (by rw[Oc.ak,hc]);generalize gT w (W.heap.size+1) 0 (Oc.why k).aA=w2 at *;rintro r u' w'' ⟨rfl,rfl,rfl⟩;have hE2:=(h.go hl2).count (k:=k) hk;have hf:jE [q] w2 (w2.setCell ⟨q,79+k,none⟩ (.int .i64 (x.mg.toList.getD k 0+1))).drew:=((jE.refl [q] w2).set ⟨q,79+k,none⟩ _ (.inl (by simp))).drewN 1;refine⟨_,kOc.zM (fn:=Tryz.f70) (p:=4) (by kernel_rfl) tmps ht (hf.box hO2 (by simp;omega)) (Oc.ak _),?_⟩;rw[hu];exact⟨_,_,sl,rfl,⟨rfl,rfl,rfl,rfl,rfl,rfl,World.ownsRow_nil _ _ _ _⟩,hE2,rfl,fun b hb=>.inl hb,(jE.jq hl2).trans (hf.lF (by simp)) (fun g hg=>.inl hg)⟩
theorem atI{M:Int}{w:au}{s':qK}{x':Eg}{sl':List (Option Fw)}{o:Oc}{u:qK×Ou}(tmps:Array aC)(ht:tmps.getD 4 undef=.pointer (some ⟨W.heap.size+1,0,none⟩))(hO:dL w (W.heap.size+1) o.aA)(hB:dL w W.heap.size #[.pointer (some ⟨q,0,none⟩)])(h:yY w q e s' x' q2 g sl')(hct:∀n∈s'.mg.toList,0<=n/\n<=M)(hM:M<1152921504606846976)(hr:o.jw=0)(hu:u.1={s' with mg:=upC s'.mg 0})(hou:OuR W.heap.size w o u.2)(hsl:sl'.length=sl.length)(YE:nZ x'=nZ x)(hq:q<W.heap.size)(hl:jE [q,q2,g] W w):
 bodyPostD aj Tryz.f70 (Zp W q e x q2 g sl u) Exit.ret {tmps:=tmps,defers:=[{target:=Target.fn (Fn.func 134) #[Value.pointer (some ⟨W.heap.size+1,0,none⟩),Value.pointer (some ⟨W.heap.size,0,none⟩)],args:=#[]}]} w:=by
 have hcn:=ap8 hct (k:=0) (by omega);rw[<-h.b.mg]at hcn;refine leaves_cons (f:=134) (args:=#[.pointer (some ⟨W.heap.size+1,0,none⟩),.pointer (some ⟨W.heap.size,0,none⟩)]) (by simp) (by simp[go_sem]) ?_;refine(aih (k:=0) (by omega) hr hO hB h.b.eg (by omega)).mono ?_;rintro r u' w'' ⟨rfl,rfl,rfl⟩;have hE2:yY _ q e {s' with mg:=upC s'.mg 0} ({x' with mg:=upC x'.mg 0}:Eg) q2 g sl':=h.count (k:=0) (by omega);have hf:jE [q] w (w.setCell ⟨q,79+0,none⟩ (.int .i64 (x'.mg.toList.getD 0 0+1))).drew:=((jE.refl [q] w).set ⟨q,79+0,none⟩ _ (.inl (by simp))).drewN 1;refine⟨_,kOc.zM (fn:=Tryz.f70) (p:=4) (by kernel_rfl) tmps ht (hf.box hO (by simp;omega)) (Oc.ak _),?_⟩;refine⟨_,({x' with mg:=upC x'.mg 0}:Eg),sl',rfl,hou.keep hf (by simp;omega),?_,hsl,fun b hb=>.inl (by rw[<-YE];exact hb),hl.trans hf (fun g hg=>.inl (by simp at hg;simp[hg]))⟩;rw[hu];exact hE2
end
section
variable {W W':au} {q:Nat} {e:En} {s:qK} {x:Eg} {q2 g:Nat} {sl:List (Option Fw)}
theorem Nn.ayD(h:Nn W q e s x q2 g sl){W':au}(hb:aN W.heap.size W W'):(yt 29 (.pointer (some ⟨q,16,none⟩))).run aj W'=.ok (.agg x.cf.aA) W':=Qo.DZ (h.eg.go hb) 16 (Eg.avj _) (by rw[Eg.ak];omega)
theorem Bx.b4{a1 a2 a3 a4 p:Nat×Array aC}{L:List (Nat×Array aC)}{W0 W:au}(h:Bx (a1::a2::a3::a4::p::L) W0 W):dL W p.1 p.2:=(h.2 p (by simp)).2
theorem Bx.b5{a1 a2 a3 a4 a5 p:Nat×Array aC}{L:List (Nat×Array aC)}{W0 W:au}(h:Bx (a1::a2::a3::a4::a5::p::L) W0 W):dL W p.1 p.2:=(h.2 p (by simp)).2
theorem Pk.ajQ(p:Pk)(j:Nat)(hj:j<37):p.aA[1+j]? = p.tuple.aA[j]?:=by
 have h:=Pk.JK p;rw[<-h,dx,if_pos (by rw[Pk.ak];omega)]
theorem Pk.atJ(p:Pk):p.aA.extract 18 (18+17)=p.tuple.dst.aA:=by
 apply dV;intro j;rcases bf j 17 with hj|hj
 ·rw[nX p.aA 18 17 j hj (by rw[Pk.ak];omega),show 18+j=1+(j+17)by omega,Pk.ajQ p (j+17) (by omega),Tu.Mf _ j hj]
 ·rw[aV (by rw[Array.size_extract,Pk.ak];omega),aV (by rw[fu.ak];exact hj)]
def nxO(o:Option Fw)(pr:Int)(fl:Nat):Int:=match o with|some y=>aiJ y.xU fl|none=>abE pr fl
theorem atK(s:qK)(p:Pk)(fl:Nat)(h:p.vB=fl):aju s p=nxO (pW s.sN p.tuple) p.tuple.aQ fl:=by
 unfold aju nxO;rw[h,Int.toNat_natCast];cases pW s.sN p.tuple<;>rfl
theorem yY.aDy(h:yY W q e s x q2 g sl)(n:Int):yY (W.setCell ⟨q,78,none⟩ (.int .i64 n)) q e {s with no:=n} ({x with no:=n}:Eg) q2 g sl:=by
 have hb:=h.b.eg.eG 78 (.int .i64 n);rw[Eg.apR]at hb;have:=h.num ((jE.refl [q] W).set ⟨q,78,none⟩ (.int .i64 n) (.inl (by simp))) x.gN n x.mg hb;rw[h.b.gN,h.b.mg]at this;have e1:({x with gN:=s.gN,no:=n,mg:=s.mg}:Eg)={x with no:=n}:=by rw[<-h.b.gN,<-h.b.mg]
 rw[e1]at this;exact this
@[go_sem]theorem az5(W:au)(t:Tu)(n:List UInt8)(st se no:Int):(aww #[(0,.agg t.aA),(1,.string (bV n)),(2,.int .i64 st),(3,.int .i64 se),(4,.int .i64 no)]).run aj W=.ok (.agg (Fw.mk t n st se no).aA) W:=kFw.bd W _ _ _ _ mX (aCN W _ mX) (by
 refine vw (Fw.ak _) ?_ ?_
 ·simp[rU,cu,Tu.ak]
 ·simp[qY,cu,Fw.aA,fwT])
theorem gY(w:au):aN w.heap.size w w.drew:=fI (Below.refl _ _) 1
theorem yY.frm{F:List Nat}(h:yY W q e s x q2 g sl)(hf:jE F W W')(h1:q∉F)(h2:q2∉F)(h3:g∉F)(o:∀b∈nZ x,b∉F):yY W' q e s x q2 g sl:=by
 have hs:=hf.size;refine⟨⟨hf.box h.b.eg h1,h.b.key,h.b.cf,h.b.mq,h.b.vs.keep hf (fun b hm=>o b (dS.2 (.inl hm))),h.b.bk.keep hf (fun b hm=>o b (dS.2 (.inr (.inl hm)))),h.b.hl.keep hf (fun b hm=>o b (dS.2 (.inr (.inr (.inl hm))))),h.b.fl,h.b.tb.keep hf h2 h3,h.b.rm,h.b.nq,fun b hm=>by have:=h.b.FT b hm;omega,h.b.gN,h.b.no,h.b.mg⟩,h.dn.keep hf (fun b hm=>o b (dS.2 (.inr (.inr (.inr (.inl hm)))))),h.tt.keep hf (fun b hm=>o b (dS.2 (.inr (.inr (.inr (.inr (.inl hm))))))) (fun b hm=>o b (dS.2 (.inr (.inr (.inr (.inr (.inr hm)))))))⟩
theorem yT(w:au)(b o:Nat)(c:Array aC):jE [b] w (gT w b o c):=(jE.refl [b] w).grown (lS (World.grownBy.refl w (some b)) o c) (fun k e=>.inl (by injection e with e;simp[e]))
theorem Qg{F:List Nat}{B n c:Nat}{A:Option aU}{xs:List aC}(h:W.ownsRow B 5 1 (.slice A n c) n xs)(hf:jE F W W')(hF:∀b∈F,b<B):W'.ownsRow B 5 1 (.slice A n c) n xs:=Bz h hf (fun k hk hm=>by
 have h2:k∈wP A:=by
  cases hA:A with
  | none=>rw[hA]at hk;cases hk
  | some a=>rw[hA]at hk;exact DY.2 ⟨a,rfl,by simpa[jW]using hk⟩
 have h3:=(kZ h k h2).1;have:=hF k hm;omega)
theorem ame{c:Cn}{l:List Vp}(h:yM c l=true):l.length<=64:=by
 unfold yM zF at h;simp only[bl,decide_eq_true_eq]at h;obtain⟨⟨⟨⟨⟨⟨⟨⟨⟨⟨_,h0⟩,_⟩,_⟩,_⟩,_⟩,_⟩,_⟩,_⟩,_⟩,_⟩:=h;exact h0.1
theorem afF{M:Int}(h:yY W q e s x q2 g sl)(hi:oG M e s)(hM:M<1152921504606846976)(A:Option aU)(n c:Nat)(l:List UInt8)(tX:n<=c)(hc:c<=9223372036854775807/\n<=1000000)(hr:gy W W.heap.size A n l):
 aR aj 70 #[.pointer (some ⟨q,0,none⟩),.slice A n c] W (Zp W q e x q2 g sl (Ey e s l)):=by
 have Z0:=Lib.hid (((Bx.start W).new #[.pointer (some ⟨q,0,none⟩)] 43).new uL.aA 58);rw[show(W.alloc (.cells #[.pointer (some ⟨q,0,none⟩)] 43)).heap.size=W.heap.size+1 by simp]at Z0;have H:=Lib.hid h;have HI:=Lib.hid hi;have HM:=Lib.hid hM;have HR:=Lib.hid hr;have CP:=Lib.hid (fun(w:au) (hb:aN W.heap.size W w)=>JV w A n c l tX (by omega) (hr.upon hb));have KB:=Lib.hid (fun(w:au) (h:dL w W.heap.size #[.pointer (some ⟨q,0,none⟩)])=>show w.cell? ⟨W.heap.size,0,none⟩=some (.pointer (some ⟨q,0,none⟩))from h.aI.1 0);have HK:=Lib.hid (ajz l);have HFL:=Lib.hid (ap7 l);have Kv:=Lib.hid (fun h=>aCw (l:=l) h);have hmf:∀(fn:Fn)(first cap:Array aC)(w:au),(Instr.makeFunc fn first cap).run aj w=.ok (.func fn first cap) w:=fun _ _ _ _=>rfl
 obtain⟨p,hp⟩:∃p,p=wG l:=⟨_,rfl⟩
 have HP:=Lib.hid hp;unfold PkP at CP;rw[<-hp]at CP HK HFL Kv;clear h hi hM hr hp;go_enter_defers Tryz.func70,Tryz.ntmps70;go_upto_region 2 with fail
 generalize(W.alloc (.cells #[.pointer (some ⟨q,0,none⟩)] 43)).alloc (.cells uL.aA 58)=w1 at Z0 ⊢;go_upto_region 3 with(go_at_call 32;(with_reducible refine(CP.out _ Z0.out.dF).mono ?_);rintro r w2 ⟨rfl,kF⟩;have Z1:=Lib.hid ((Z0.out.go kF).new p.aA 83);have hy:=Lib.hid (Z0.out.go kF).b0.lt;clear kF)
 generalize w2.alloc (.cells p.aA 83)=w3 at Z1 ⊢;generalize w2.heap.size=y at *;have f0:=(Z1.out.b0.aI.1 0).trans (Pk.Bw p);by_cases hk:p.kind=0
 case neg=>
  have q1:(p.kind != 0)=true:=by simpa using hk
  have HW:=Lib.hid (show(Ew e s l).jw=p.kind by unfold Ew;rw[<-HP.out,if_neg hk]);have HK0:=Lib.hid hk;clear hk;go_wp2_with fail;exact Vn _ p.kind rfl Z1.out.b1 (Oc.ak _) Z1.out.b2 H.out HI.out HM.out HW.out HK0.out Z1.out.dF
 have q1:(p.kind != 0)=false:=by simpa using hk
 obtain⟨hpt,hpp⟩:=Kv.out hk;have HT:=Lib.hid (BZ hpt);have HTK:=Lib.hid hpt;have HK0:=Lib.hid hk;clear hpt hpp hk Kv HK;obtain⟨v,hv⟩:∃v,v=Zl e.vs p.tuple.dst p.tuple.aQ p.tuple.j4:=⟨_,rfl⟩
 have CV:=Lib.hid (fun(w:au) (hb:aN W.heap.size W w)=>TQ x.cf e.vs p.tuple.dst p.tuple.aQ p.tuple.j4 w (H.out.b.vs.go hb) (by have h1:=H.out.b.vs.1;have h2:=ame HI.out.cn;omega));rw[<-hv]at CV;have HV:=Lib.hid hv;clear hv;obtain⟨vp,vok⟩:=v;simp only at CV;go_upto_region 5 with fail
 refine xL (Bx.acD ([(y,p.aA),(W.heap.size+1,uL.aA),(W.heap.size,#[.pointer (some ⟨q,0,none⟩)])]) W) 17 18 16 6 39 98 oD.aA (by kernel_rfl) rfl rfl rfl rfl rfl (by kernel_rfl) (by kernel_rfl) (by kernel_rfl) (by kernel_rfl) (by kernel_rfl) rfl rfl rfl (fun a w=>by simp[go_sem]) (tZ rfl) Z1.out.drew ?_;apply Exists.intro;refine⟨fun T f hT es ew=>?_,?_⟩
 ·have EW:=Lib.hid ew
  have ES:=Lib.hid es;have l1:=fun m=>KB.out _ (ES.out m).b2
  have l2:=fun m=>H.out.b.ayD (ES.out m).dF
  have l3:=fun m=>(ES.out m).b0.TY (o:=18) (a:=p.tuple.dst) (Pk.atJ p) (by rw[Pk.ak];omega)
  have l4:=fun m=>((ES.out m).b0.aI.1 35).trans ((Pk.ajQ p 34 (by omega)).trans (Tu.WR _))
  have l5:=fun m=>((ES.out m).b0.aI.1 37).trans ((Pk.ajQ p 36 (by omega)).trans (Tu.ab9 _))
  have CF:=Lib.hid (fun m=>CV.out _ (ES.out m).dF);clear es ew;simp only[mM,yO,kW,List.set_cons_succ,List.set_cons_zero,List.take_succ_cons,List.take_zero]
  repeat(go_big_quiet_step ((first|(go_at_call 135;(with_reducible refine(CF.out _).mono ?_);rintro e w2 ⟨rfl,hb⟩;exact⟨rfl,EW.out _ _ hb⟩))))
  exact wpQuiet_nil rfl
 intro w9 w8 Am _ hb;have ZN:=Lib.hid ((Am.new oD.aA 98).go hb);have Xr:=Lib.hid (fun z (hz:z∈[(y,p.aA),(W.heap.size+1,uL.aA),(W.heap.size,#[.pointer (some ⟨q,0,none⟩)])])=>((Am.2 z hz).2.lt:z.1<w9.heap.size));generalize w9.heap.size=y2 at *;clear hb Am;have zq:=ZN.out.b0.there 0 20 (aY (Vp.ak oD).symm);refine⟨gT w8 y2 0 vp.aA,?_,?_⟩
 ·simp[go_sem,zq]
 simp only[Act.put,List.setIfInBounds_toArray,List.set_cons_succ,List.set_cons_zero,List.drop_succ_cons,lg];have Z2:=Lib.hid (ZN.out.put (fun p hp=>Nat.ne_of_lt (Xr.out p hp)) vp.aA (by rw[Vp.ak,Vp.ak]));clear zq ZN;generalize gT w8 y2 0 vp.aA=w4 at Z2 ⊢;go_step;go_step;go_step;cases vok with
 | false=>
   have HW:=Lib.hid (show(Ew e s l).jw=7 by
    have h1:=HV.out;unfold Zl at h1;unfold Ew;rw[<-HP.out,if_pos HK0.out];cases hf:zN e.vs p.tuple.dst p.tuple.aQ p.tuple.j4 with
    | none=>rfl
    | some i=>rw[hf]at h1;cases h1)
   go_wp2_with fail;exact Vn _ 7 rfl Z2.out.b2 (Oc.ak _) Z2.out.b3 H.out HI.out HM.out HW.out (by decide) Z2.out.dF
 | true=>
   obtain⟨i,hi1,Qw⟩:∃i,zN e.vs p.tuple.dst p.tuple.aQ p.tuple.j4=some i/\vp=e.vs.getD i oD:=by
    have h1:=HV.out;unfold Zl at h1;cases hf:zN e.vs p.tuple.dst p.tuple.aQ p.tuple.j4 with
    | none=>rw[hf]at h1;cases h1
    | some i=>rw[hf]at h1;injection h1 with h1 _;exact⟨i,rfl,h1⟩
   have HI1:=Lib.hid hi1;have HI2:=Lib.hid Qw;clear hi1 Qw HV CV;obtain⟨bb,Cb⟩:∃bb,bb=JW e s p.tuple:=⟨_,rfl⟩
   have CB:=Lib.hid (fun(w:au) (hb:aN W.heap.size W w)=>Zo (H.out.go hb) HI.out p.tuple HT.out);rw[<-Cb]at CB;have IJ:=Lib.hid Cb;clear Cb;have lt1:=Z2.out.b1.ada (o:=1) (Pk.JK p) (by rw[Pk.ak];omega);have le1:=KB.out _ Z2.out.b3;cases bb with
   | none=>
     have CB2:=Lib.hid (show∀(w:au),aN W.heap.size W w->aR aj 136 #[.pointer (some ⟨q,0,none⟩),.agg p.tuple.aA] w (fun r w'=>r=.panicked [{v:=TV 8,recovered:=false}]/\aN w.heap.size w w')from CB.out);have HW:=Lib.hid (show(Ew e s l).jw=8 by
      unfold Ew;rw[<-HP.out,if_pos HK0.out,HI1.out];simp only;rw[<-IJ.out])
     go_wp2_with (go_at_call 136;(with_reducible refine(CB2.out _ Z2.out.dF).mono ?_);rintro r w5 ⟨rfl,yX⟩;have Z3:=Lib.hid (Z2.out.go yX);clear yX);exact Vn _ 8 rfl Z3.out.b2 (Oc.ak _) Z3.out.b3 H.out HI.out HM.out HW.out (by decide) Z3.out.dF
   | some bh=>
     obtain⟨b,zi⟩:=bh;have CB2:=Lib.hid (show∀(w:au),aN W.heap.size W w->aR aj 136 #[.pointer (some ⟨q,0,none⟩),.agg p.tuple.aA] w (fun r w'=>r=.returned (.tuple #[.agg b.aA,.bool zi])/\aN w.heap.size w w')from CB.out);go_upto_region 9 with(go_at_call 136;(with_reducible refine(CB2.out _ Z2.out.dF).mono ?_);rintro r w5 ⟨rfl,yX⟩;have Z3:=Lib.hid ((Z2.out.go yX).new b.aA 62);have aDA:=Lib.hid (fun p hp=>((Z2.out.go yX).2 p hp).2.lt);clear yX)
     generalize w5.alloc (.cells b.aA 62)=w6 at Z3 ⊢;generalize w5.heap.size=y3 at *;clear lt1 le1 CB CB2;have HY3:=Lib.hid (fun z (hz:z∈[(y2,vp.aA),(y,p.aA),(W.heap.size+1,uL.aA),(W.heap.size,#[.pointer (some ⟨q,0,none⟩)])])=>(aDA.out z hz:z.1<y3));clear aDA;obtain⟨ot,hot⟩:∃ot,ot=P5 e vp b p.tuple l:=⟨_,rfl⟩
     have CO:=Lib.hid (fun(w:au) (hb:aN W.heap.size W w)=>amd (H.out.go hb) vp b p.tuple A n c l tX hc (HR.out.upon hb));rw[<-hot]at CO;have HOT:=Lib.hid hot;clear hot;have lt1:=Z3.out.b2.ada (o:=1) (Pk.JK p) (by rw[Pk.ak];omega);have le1:=KB.out _ Z3.out.b4;have lv1:=kVp.DZ Z3.out.b1 0 (d:=vp.aA) (by have:=Vp.ak vp;rw[<-this];simp) (by rw[Vp.ak];omega);have lb1:=Z3.out.b0.ayw;by_cases ho:ot.1=0
     case neg=>
      have HW:=Lib.hid (show(Ew e s l).jw=ot.1 by
       unfold Ew;rw[<-HP.out,if_pos HK0.out,HI1.out];simp only;rw[<-IJ.out];simp only;rw[<-HI2.out,<-HOT.out,if_neg ho])
      have HO:=Lib.hid ho;have CO2:=Lib.hid (fun(w:au) (hb:aN W.heap.size W w)=>(CO.out w hb).mono (R':=fun r w'=>r=.panicked [{v:=TV ot.1,recovered:=false}]/\aN w.heap.size w w') (fun r w' h=>h.elim (fun h=>absurd h.1 ho) (fun h=>h.2)));clear ho CO;go_wp2_with (go_at_call 137;(with_reducible refine(CO2.out _ Z3.out.dF).mono ?_);rintro r w7 ⟨rfl,yX⟩;have Z4:=Lib.hid (Z3.out.go yX);clear yX);exact Vn _ ot.1 rfl Z4.out.b3 (Oc.ak _) Z4.out.b4 H.out HI.out HM.out HW.out HO.out Z4.out.dF
     obtain⟨ok,ob⟩:=ot;obtain rfl:ok=0:=ho;have CO2:=Lib.hid (fun(w:au) (hb:aN W.heap.size W w)=>(CO.out w hb).mono (R':=LC w ob) (fun r w' h=>h.elim (fun h=>h.2) (fun h=>absurd rfl h.1)));clear CO;have OE:=Lib.hid (show Ew e s l=⟨0,ob,b,zi⟩by
      unfold Ew;rw[<-HP.out,if_pos HK0.out,HI1.out];simp only;rw[<-IJ.out];simp only;rw[<-HI2.out,<-HOT.out,if_pos rfl])
     have HNL:=Lib.hid (show b.name.length<=1000000 by
      have h1:=HI.out.few.2.2 b (as0 HI.out IJ.out.symm).1;omega)
     clear IJ HOT HI1 HI2;obtain⟨fl,hfl⟩:∃k:Nat,p.vB=k:=⟨p.vB.toNat,by have:=HFL.out;omega⟩
     have ap9:fl<64:=by have:=HFL.out;omega
     have HFN:=Lib.hid hfl;have CG:=Lib.hid (fun(w:au)=>akw fl p.tuple.aQ w ap9);have CX:=Lib.hid (fun(st:Int) (w:au)=>anr fl st w ap9);clear ap9 hfl HFL;go_upto_region 10 with(go_at_call 137;(with_reducible refine(CO2.out _ Z3.out.dF).mono ?_);rintro r w7 ⟨A3,n3,c3,rfl,hn3,Bj,yX⟩;have Z4:=Lib.hid (Z3.out.go yX);have N3:=Lib.hid hn3;have O3:=Lib.hid (iG Bj (Nat.le_of_lt Z3.out.b0.lt));clear yX hn3 Bj)
     clear lt1 le1 lv1 lb1 CO2;have lp1:=(Z4.out.b2.aI.1 35).trans ((Pk.ajQ p 34 (by omega)).trans (Tu.WR _));have lf1:=(Z4.out.b2.aI.1 38).trans (Pk.Pj p);rw[HFN.out]at lf1;go_upto_region 11 with(go_at_call 138;(with_reducible refine(CG.out _).mono ?_);rintro r w8 ⟨rfl,rfl⟩)
     clear CG lp1 lf1;obtain⟨o,ho⟩:∃o,o=pW s.sN p.tuple:=⟨_,rfl⟩
     have HO:=Lib.hid ho;have CF0:=Lib.hid (fun(w:au) (hb:aN W.heap.size W w)=>La (H.out.b.tb.go hb) p.tuple);rw[<-ho]at CF0;have hcg:∀o,apx o=.tuple #[.agg (wI o).rz.aA,.bool o.isSome]:=fun _=>rfl
     simp only[hcg]at CF0;clear hcg ho;refine xL (S:=fun w=>Bx [(y3,b.aA),(y2,vp.aA),(y,p.aA),(W.heap.size+1,uL.aA),(W.heap.size,#[.pointer (some ⟨q,0,none⟩)])] W w/\aN w7.heap.size w7 w) (fun a b h hb=>⟨h.1.go hb,h.2.trans (hb.mono h.2.size)⟩) 10 11 9 12 72 86 kQ.aA (by kernel_rfl) rfl rfl rfl rfl rfl (by kernel_rfl) (by kernel_rfl) (by kernel_rfl) (by kernel_rfl) (by kernel_rfl) rfl rfl rfl (fun a w=>by simp[go_sem]) (tZ rfl) ⟨Z4.out.drew,fI (Below.refl _ _) 1⟩ ?_;apply Exists.intro;refine⟨fun T f hT es ew=>?_,?_⟩
     ·have EW:=Lib.hid ew
      have ES:=Lib.hid es;have l1:=fun m=>KB.out _ (ES.out m).1.b4
      have l2:=fun m=>H.out.b.apV (ES.out m).1.dF
      have l3:=fun m=>(ES.out m).1.b2.ada (o:=1) (Pk.JK p) (by rw[Pk.ak];omega)
      have CF:=Lib.hid (fun m=>CF0.out _ (ES.out m).1.dF);clear es ew;simp only[mM,yO,kW,List.set_cons_succ,List.set_cons_zero,List.take_succ_cons,List.take_zero]
      repeat(go_big_quiet_step ((first|(go_at_call 126;(with_reducible refine(CF.out _).mono ?_);rintro e w2 ⟨rfl,hb⟩;exact⟨rfl,EW.out _ _ hb⟩))))
      exact wpQuiet_nil rfl
     intro w9 w8 Am ayE hb;have O4:=Lib.hid (Bz O3.out (jE.jq (F:=[]) ayE.2) (fun k hk hm=>by cases hm));have ZN:=Lib.hid ((Am.1.new kQ.aA 86).go hb);have Xr:=Lib.hid (fun z (hz:z∈[(y3,b.aA),(y2,vp.aA),(y,p.aA),(W.heap.size+1,uL.aA),(W.heap.size,#[.pointer (some ⟨q,0,none⟩)])])=>((Am.1.2 z hz).2.lt:z.1<w9.heap.size));have hy7:=Am.2.size;generalize w9.heap.size=y4 at *;have Zr:=ayE.2;have zq:=ZN.out.b0.there 0 41 (aY (Fw.ak kQ).symm);refine⟨gT w8 y4 0 (wI o).rz.aA,?_,?_⟩
     ·simp[go_sem,zq];rfl
     simp only[Act.put,List.setIfInBounds_toArray,List.set_cons_succ,List.set_cons_zero,List.drop_succ_cons,lg];have Z5:=Lib.hid (ZN.out.put (fun p hp=>Nat.ne_of_lt (Xr.out p hp)) (wI o).rz.aA (by rw[Fw.ak,Fw.ak]));have O5:=Lib.hid (Bz O3.out (jE.jq (F:=[]) (lq Zr y4 0 (wI o).rz.aA hy7)) (fun k hk hm=>by cases hm));have HYW:=Lib.hid (show W.heap.size+1<y/\y<y3 from⟨hy.out,HY3.out (y,p.aA) (by simp)⟩);clear zq ZN Xr Am ayE hb Zr hy7 O4 O3 Z4 CF0;generalize gT w8 y4 0 (wI o).rz.aA=w10 at Z5 O5 ⊢;go_step;go_step;go_step;obtain⟨nx,MP⟩:∃nx,nx=aju s p:=⟨_,rfl⟩
     have HNX:=Lib.hid (MP.trans (atK s p fl HFN.out));rw[<-HO.out]at HNX;have HNE:=Lib.hid MP;clear MP;go_upto_if 73 with fail
     go_cut [11]from 74 to 78 (fun s11 wx=>s11=.int .i64 nx/\wx=w10)
     case first=>
      cases o with
      | none=>
        go_wp2_with fail;go_meet
        case rel=>exact⟨by rw[HNX.out];rfl,rfl⟩
      | some f1=>
        have ls:=(Z5.out.b0.aI.1 38).trans (Fw.ahc f1);have lf:=(Z5.out.b3.aI.1 38).trans (Pk.Pj p);rw[HFN.out]at lf;go_wp2_with (go_at_call 139;(with_reducible refine(CX.out _ _).mono ?_);rintro r w8 ⟨rfl,rfl⟩);go_meet
        case rel=>exact⟨by rw[HNX.out];rfl,rfl⟩
     obtain⟨rfl,hcut⟩:=hcut;rw[hcut];clear hcut CX HNX;have le1:=KB.out _ Z5.out.b5;have g78:=(H.out.b.eg.go Z5.out.dF).aI.2.1 78;have c78:=((H.out.b.eg.go Z5.out.dF).aI.1 78).trans (Eg.apP x);have hwr:=jU (x.no+1) (by have h1:=HI.out.no;have h2:=H.out.b.no;have h3:=HM.out;omega);go_upto_region 15 with fail
     have E1:=Lib.hid ((H.out.go Z5.out.dF).aDy (x.no+1));have Wt:jE [q] w10 (w10.setCell ⟨q,78,none⟩ (.int .i64 (x.no+1))):=(jE.refl [q] w10).set ⟨q,78,none⟩ _ (.inl (by simp));have hqW:=H.out.b.lt;have hyw:=HYW.out;have BE:=Lib.hid (Wt.box Z5.out.b5 (by simp;omega));have BO:=Lib.hid (Wt.box Z5.out.b4 (by simp;omega));have BP:=Lib.hid (Wt.box Z5.out.b3 (by simp;omega));have BB:=Lib.hid (Wt.box Z5.out.b1 (by simp;omega));have F1:=Lib.hid ((jE.jq (F:=[q]) Z5.out.dF).qh Wt);have O6:=Lib.hid (Qg O5.out Wt (by simp;omega));have HX:=Lib.hid (show x.no=s.no/\x.gN=s.gN/\x.pl.mq=s.mq from⟨H.out.b.no,H.out.b.gN,H.out.b.mq⟩);clear Wt hqW hyw le1 g78 c78 hwr O5 Z5;generalize w10.setCell ⟨q,78,none⟩ (.int .i64 (x.no+1))=w11 at E1 BE BO BP BB F1 O6 ⊢;have KS:=Lib.hid (fun(w':au) (h1:dL w' W.heap.size #[.pointer (some ⟨q,0,none⟩)]) (h2:dL w' y p.aA) (h3:dL w' y3 b.aA) (h4:dL w' q ({x with no:=x.no+1}:Eg).aA)=>show w'.cell? ⟨W.heap.size,0,none⟩=some (.pointer (some ⟨q,0,none⟩))/\w'.cell? ⟨q,74,none⟩=some (.pointer (some ⟨q2,0,none⟩))/\(xI (.pointer (some ⟨y,1,none⟩))).run aj w'=.ok (.agg p.tuple.aA) w'/\w'.cell? ⟨y3,0,none⟩=some (.string (bV b.name))/\w'.cell? ⟨q,77,none⟩=some (.int .i64 x.gN)/\w'.cell? ⟨q,78,none⟩=some (.int .i64 (x.no+1))from
      ⟨KB.out w' h1,by
       rw[h4.aI.1 74,Eg.aa8];show some (Value.pointer (x.fl.map fun b=>⟨b,0,none⟩))=_;rw[H.out.b.fl];rfl,h2.ada (o:=1) (Pk.JK p) (by rw[Pk.ak];omega),(h3.aI.1 0).trans (Bk.qH b),(h4.aI.1 77).trans (Eg.Vk _),(h4.aI.1 78).trans (Eg.apP _)⟩)
     have HN:=Lib.hid (sU HI.out.cn);have CU:=Lib.hid (aa3 (E1.out.go (gY _)).b.tb (by have:=HN.out;omega) E1.out.b.rm ⟨p.tuple,b.name,nx,x.gN,x.no+1⟩ HNL.out);unfold ah4 at CU;refine wp_region_noPanic ?_;go_region_held_law (fun w'=>w'.cell? ⟨W.heap.size,0,none⟩=some (.pointer (some ⟨q,0,none⟩))/\w'.cell? ⟨q,74,none⟩=some (.pointer (some ⟨q2,0,none⟩))/\(xI (.pointer (some ⟨y,1,none⟩))).run aj w'=.ok (.agg p.tuple.aA) w'/\w'.cell? ⟨y3,0,none⟩=some (.string (bV b.name))/\w'.cell? ⟨q,77,none⟩=some (.int .i64 x.gN)/\w'.cell? ⟨q,78,none⟩=some (.int .i64 (x.no+1)))
      (first|exact KS.out _ (BE.out.go (gY _)) (BP.out.go (gY _)) (BB.out.go (gY _)) (E1.out.b.eg.go (gY _))|exact KS.out _ BE2.out BP2.out BB2.out BQ2.out|go_keep)
      (first|(go_at_call 63;(with_reducible refine CU.out.mono ?_);rintro r w12 ⟨rfl,⟨sl',ht,hsl⟩,hf⟩;have HTB:=Lib.hid ht;have ND:=Lib.hid hsl;have HF:=Lib.hid hf;have BE2:=Lib.hid (jE.box hf (BE.out.go (gY _)) (by have h1:=H.out.b.lt;have h2:=HYW.out;simp;omega));have BO2:=Lib.hid (jE.box hf (BO.out.go (gY _)) (by have h1:=H.out.b.lt;have h2:=HYW.out;simp;omega));have BP2:=Lib.hid (jE.box hf (BP.out.go (gY _)) (by have h1:=H.out.b.lt;have h2:=HYW.out;simp;omega));have BB2:=Lib.hid (jE.box hf (BB.out.go (gY _)) (by have h1:=H.out.b.lt;have h2:=HYW.out;simp;omega));have BQ2:=Lib.hid (jE.box hf (E1.out.b.eg.go (gY _)) (by have h1:=H.out.b.nq;simp;omega));clear hf ht hsl))
     refine NoPanic.normal ?_;have E2:=Lib.hid (yY.rz (E1.out.go (gY _)) HF.out HTB.out ND.out);have le2:=KB.out _ BE2.out;have lv2:=(BQ2.out.aI.1 70).trans (Eg.Yo _);have ln2:=(BB2.out.aI.1 0).trans (Bk.qH b);have th2:=BO2.out.there 0 6 (aY (Oc.ak uL).symm);go_upto_region 16 with fail
     go_region;have hqW:=H.out.b.lt;have hyw:=HYW.out;have YE:=H.out.b.FT;have G1:=Lib.hid (show jE [W.heap.size+1] w12 (gT w12.drew (W.heap.size+1) 0 (Oc.mk 0 0 zi x.pl.mq b.name A3 n3 c3).aA)from(jE.jq (F:=[W.heap.size+1]) (gY w12)).qh (yT w12.drew (W.heap.size+1) 0 _));have BO3:=Lib.hid ((BO2.out.go (gY _)).put (Oc.mk 0 0 zi x.pl.mq b.name A3 n3 c3).aA (by rw[Oc.ak,Oc.ak]));have BE3:=Lib.hid (G1.out.box BE2.out (by simp));have E3:=Lib.hid (E2.out.frm G1.out (by simp;omega) (by simp;omega) (by simp;omega) (fun b hb=>by have:=YE b hb;simp;omega));have O7:=Lib.hid (iG (Qg (Qg (Qg O6.out (jE.jq (F:=[]) (gY _)) (by simp)) HF.out (by simp;omega)) G1.out (by simp;omega)) (show W.heap.size<=y3 by omega));have FF:=Lib.hid (show jE [q,q2,g] W (gT w12.drew (W.heap.size+1) 0 (Oc.mk 0 0 zi x.pl.mq b.name A3 n3 c3).aA)from(((F1.out.lF (F':=[q,q2,g]) (by simp)).qh (jE.jq (gY _))).qh (HF.out.lF (by simp))).trans G1.out (fun j hj=>.inr (by simp at hj;omega)));generalize gT w12.drew (W.heap.size+1) 0 (Oc.mk 0 0 zi x.pl.mq b.name A3 n3 c3).aA=w13 at BO3 BE3 E3 O7 FF ⊢;have HFE:=Lib.hid (show Ey e s l=({s with mg:=upC s.mg 0,no:=s.no+1,sN:=Er e.c.dR s.sN ⟨p.tuple,b.name,nx,s.gN,s.no+1⟩},⟨0,0,zi,s.mq,b.name,ob⟩)by
      unfold Ey;rw[OE.out,if_pos rfl,<-HP.out];simp only[ao4];rw[<-HNE.out])
     obtain⟨x1,x2,x3⟩:=HX.out;rw[x1,x2]at E3;rw[x3]at BO3;go_wp2;rw[HFE.out];exact atI _ rfl BO3.out BE3.out E3.out HI.out.ct HM.out rfl rfl ⟨rfl,rfl,rfl,rfl,rfl,N3.out,O7.out⟩ ND.out rfl hqW.1 FF.out
end
section
variable {W W':au} {q:Nat} {e:En} {s:qK} {x:Eg} {q2 g:Nat} {sl:List (Option Fw)}
theorem kI6:oV 24 6 (Lp (bG 6 0)):=⟨⟨_,Tryz.underlying24,rfl⟩,by kernel_rfl,by kernel_rfl,jJ _⟩
structure At where
 kind:Int
 Zq:Option aU
 Qh:Nat
 NJ:Nat
 op:qX
 name:List UInt8
 well:Bool
def At.aA(x:At):Array aC:=#[.int .i64 x.kind,.slice x.Zq x.Qh x.NJ]++(x.op.aA ++ #[.string (bV x.name),.bool x.well])
theorem At.ak(x:At):x.aA.size=34:=by simp[At.aA,qX.ak]
@[go_sem]theorem At.eu(x:At):eu x.aA=34:=At.ak x
theorem At.Bw(x:At):x.aA[0]? = some (.int .i64 x.kind):=by simp[At.aA,aG]
theorem At.avo(x:At):x.aA[1]? = some (.slice x.Zq x.Qh x.NJ):=by simp[At.aA,aG]
theorem At.avp(x:At):x.aA.extract 2 32=x.op.aA:=by simp[At.aA,dA,qX.ak,qj,uq]
theorem At.zX(x:At):x.aA[32]? = some (.string (bV x.name)):=by simp[At.aA,aG,qX.ak]
theorem At.atL(x:At):x.aA[33]? = some (.bool x.well):=by simp[At.aA,aG,qX.ak]
structure AtR(W:au)(a:At)(u:Ac):Prop where
 kind:a.kind=u.kind
 fr:gy W W.heap.size a.Zq a.Qh u.frame
 NJ:a.Qh<=a.NJ/\a.NJ<=9223372036854775807/\a.Qh<=1000000
 op:a.op=u.op
 name:a.name=u.name
 well:a.well=u.well
theorem BF{w1 w2:au}{o:Oc}{x':Eg}{sl':List (Option Fw)}{u:qK×Ou}(h:yY W q e s x q2 g sl)(hb:aN W.heap.size W w1)(hl:W.heap.size+1<w1.heap.size)(hou:OuR w1.heap.size w2 o u.2)(hE:yY w2 q e u.1 x' q2 g sl')(hsl:sl'.length=sl.length)(hr:∀b∈nZ x',b∈nZ x\/w1.heap.size<=b)(hf:jE [q,q2,g] w1 w2):
 Zp W q e x q2 g sl u (.returned (.agg o.aA)) (gT w2 (W.heap.size+1) 0 o.aA):=by
 have hq:=h.b.lt;have YE:=h.b.FT;have hs:=hb.size;have hf2:=yT w2 (W.heap.size+1) 0 o.aA;have hx:∀b∈nZ x',b∉[W.heap.size+1]:=by
  intro b hm;rcases hr b hm with h1|h1
  ·have:=YE b h1;simp;omega
  ·simp;omega
 refine⟨o,x',sl',rfl,?_,hE.frm hf2 (by simp;omega) (by simp;omega) (by simp;omega) hx,hsl,fun b hm=>(hr b hm).imp id (fun h1=>by omega),((jE.jq (F:=[q,q2,g]) hb).qh hf).trans hf2 (fun k hk=>.inr (by simp at hk;omega))⟩;have h2:=hou.keep hf2 (by simp;omega);exact⟨h2.err,h2.jw,h2.zi,h2.mq,h2.name,h2.n,iG h2.vU hs⟩
def Oc.bad(k:Int):Oc:=⟨k,0,false,0,[],none,0,0⟩
theorem adg(B:Nat)(W:au)(k:Int):OuR B W (Oc.bad k) {Hw with err:=k}:=⟨rfl,rfl,rfl,rfl,rfl,rfl,World.ownsRow_nil _ _ _ _⟩
theorem ap'(B:Nat)(W:au):OuR B W uL Hw:=⟨rfl,rfl,rfl,rfl,rfl,rfl,World.ownsRow_nil _ _ _ _⟩
theorem yY.atM(h:yY W q e s x q2 g sl)(n:Int):yY (W.setCell ⟨q,77,none⟩ (.int .i64 n)) q e {s with gN:=n} ({x with gN:=n}:Eg) q2 g sl:=by
 have hb:=h.b.eg.eG 77 (.int .i64 n);rw[Eg.afz]at hb;have:=h.num ((jE.refl [q] W).set ⟨q,77,none⟩ (.int .i64 n) (.inl (by simp))) n x.no x.mg hb;rw[h.b.no,h.b.mg]at this;have e1:({x with gN:=n,no:=s.no,mg:=s.mg}:Eg)={x with gN:=n}:=by rw[<-h.b.no,<-h.b.mg]
 rw[e1]at this;exact this
theorem aij{M:Int}(h:yY W q e s x q2 g sl)(hi:oG M e s)(hM:M<1152921504606846976)(a:At)(u:Ac)(ha:AtR W a u)(hk:u.kind=1):
 aR aj 25 #[.pointer (some ⟨q,0,none⟩),.agg a.aA] W (Zp W q e x q2 g sl (Ey e s u.frame)):=by
 have Z0:=Lib.hid (((Bx.start W).new a.aA 66).new uL.aA 58);rw[show(W.alloc (.cells a.aA 66)).heap.size=W.heap.size+1 by simp]at Z0;have f0:=(Z0.out.b1.aI.1 0).trans (At.Bw a);rw[ha.kind,hk]at f0;have f1:=(Z0.out.b1.aI.1 1).trans (At.avo a);have th:=Z0.out.b0.there 0 6 (aY (Oc.ak uL).symm);have CF:=Lib.hid (afF (h.go Z0.out.dF) hi hM a.Zq a.Qh a.NJ u.frame ha.NJ.1 ha.NJ.2 (ha.fr.upon Z0.out.dF));have fP:=Z0.out.b0.lt;have hqs:=h.b.lt;have H:=Lib.hid h;clear h;go_enter Tryz.func25,Tryz.ntmps25;go_upto_region 1 with fail
 generalize(W.alloc (.cells a.aA 66)).alloc (.cells uL.aA 58)=w1 at Z0 f0 f1 th CF fP ⊢;have HQ:=Lib.hid hqs;have HL:=Lib.hid fP;clear hqs fP;go_wp2_with (go_at_call 70;(with_reducible refine CF.out.mono ?_);rintro r w2 ⟨o,x',sl',rfl,ho,hE,hsl,YE,hf⟩;have HO:=Lib.hid ho;have HE:=Lib.hid hE;have ND:=Lib.hid hsl;have HR:=Lib.hid YE;have HF:=Lib.hid hf;have BO:=Lib.hid (hf.box Z0.out.b0 (by have:=HQ.out;simp;omega));have th2:=BO.out.there 0 6 (aY (Oc.ak uL).symm);clear ho hE hsl YE hf);refine bodyPost_ret (kOc.zM rfl _ rfl (BO.out.put o.aA (by rw[Oc.ak,Oc.ak])) (Oc.ak _)) rfl ?_;exact BF H.out Z0.out.dF HL.out HO.out HE.out ND.out HR.out HF.out
theorem atN(h:yY W q e s x q2 g sl)(a:At)(u:Ac)(ha:AtR W a u)(hk:u.kind≠1/\u.kind≠2/\u.kind≠3/\u.kind≠4):
 aR aj 25 #[.pointer (some ⟨q,0,none⟩),.agg a.aA] W (Zp W q e x q2 g sl (s,{Hw with err:=1})):=by
 have Z0:=Lib.hid (((Bx.start W).new a.aA 66).new uL.aA 58);rw[show(W.alloc (.cells a.aA 66)).heap.size=W.heap.size+1 by simp]at Z0;have f0:=(Z0.out.b1.aI.1 0).trans (At.Bw a);rw[ha.kind]at f0;have th:=Z0.out.b0.there 0 6 (aY (Oc.ak uL).symm);have fP:=Lib.hid Z0.out.b0.lt;have H:=Lib.hid h;have k1:(u.kind==1)=false:=by simpa using hk.1
 have k2:(u.kind==2)=false:=by simpa using hk.2.1
 have k3:(u.kind==3)=false:=by simpa using hk.2.2.1
 have k4:(u.kind==4)=false:=by simpa using hk.2.2.2
 clear h hk;go_enter Tryz.func25,Tryz.ntmps25;go_upto_region 1 with fail
 generalize(W.alloc (.cells a.aA 66)).alloc (.cells uL.aA 58)=w1 at Z0 f0 th fP ⊢;go_wp2_with fail;refine bodyPost_ret (kOc.zM rfl _ rfl (Z0.out.b0.put (Oc.bad 1).aA (by rw[Oc.ak,Oc.ak])) (Oc.ak _)) rfl ?_;exact BF H.out Z0.out.dF fP.out (adg _ _ 1) (H.out.go Z0.out.dF) rfl (fun b hb=>.inl hb) (jE.refl _ _)
theorem amg{M:Int}(h:yY W q e s x q2 g sl)(hi:oG M e s)(a:At)(u:Ac)(ha:AtR W a u)(hk:u.kind=4):
 aR aj 25 #[.pointer (some ⟨q,0,none⟩),.agg a.aA] W (Zp W q e x q2 g sl (TJ e s)):=by
 have Z0:=Lib.hid (((Bx.start W).new a.aA 66).new uL.aA 58);rw[show(W.alloc (.cells a.aA 66)).heap.size=W.heap.size+1 by simp]at Z0;have f0:=(Z0.out.b1.aI.1 0).trans (At.Bw a);rw[ha.kind,hk]at f0;have th:=Z0.out.b0.there 0 6 (aY (Oc.ak uL).symm);have fP:=Lib.hid Z0.out.b0.lt;have f77:=((h.b.eg.go Z0.out.dF).aI.1 77).trans (Eg.Vk x);have g77:=(h.b.eg.go Z0.out.dF).aI.2.1 77;have H:=Lib.hid h;have HI:=Lib.hid hi;have hti:=hi.ti;have hxt:=h.b.gN;clear h hi;go_enter Tryz.func25,Tryz.ntmps25;go_upto_region 1 with fail
 generalize(W.alloc (.cells a.aA 66)).alloc (.cells uL.aA 58)=w1 at Z0 f0 th fP f77 g77 ⊢;by_cases hT:1099511627776<=s.gN
 ·have q1:decide (x.gN>=1099511627776)=true:=by simp;omega
  have HU:=Lib.hid (show TJ e s=(s,{Hw with err:=7})by unfold TJ;rw[if_pos hT]);clear hT hti hxt g77;go_wp2_with fail;refine bodyPost_ret (kOc.zM rfl _ rfl (Z0.out.b0.put (Oc.bad 7).aA (by rw[Oc.ak,Oc.ak])) (Oc.ak _)) rfl ?_;rw[HU.out];exact BF H.out Z0.out.dF fP.out (adg _ _ 7) (H.out.go Z0.out.dF) rfl (fun b hb=>.inl hb) (jE.refl _ _)
 ·have q1:decide (x.gN>=1099511627776)=false:=by simp;omega
  have HU:=Lib.hid (show TJ e s=({s with gN:=x.gN+1,sN:=MW (x.gN+1) x.cf.kC s.sN},Hw)by unfold TJ;rw[if_neg hT,hxt,H.out.b.cf]);have hw:=jU (x.gN+1) (by omega);have E1:=Lib.hid ((H.out.go Z0.out.dF).atM (x.gN+1));have Wt:jE [q] w1 (w1.setCell ⟨q,77,none⟩ (.int .i64 (x.gN+1))):=(jE.refl [q] w1).set ⟨q,77,none⟩ _ (.inl (by simp));have HF1:=Lib.hid Wt;have B0:=Lib.hid (Wt.box Z0.out.b0 (by have:=H.out.b.lt;simp;omega));clear hT hti hxt Wt;go_upto_region 24 with fail
  clear th f0 f77 g77;generalize w1.setCell ⟨q,77,none⟩ (.int .i64 (x.gN+1))=w2 at E1 HF1 B0 ⊢;have KS:=Lib.hid (fun(w':au) (h4:dL w' q ({x with gN:=x.gN+1}:Eg).aA)=>show w'.cell? ⟨q,74,none⟩=some (.pointer (some ⟨q2,0,none⟩))/\w'.cell? ⟨q,77,none⟩=some (.int .i64 (x.gN+1))/\(Yl (.pointer (some ⟨q,19,none⟩))).run aj w'=.ok (.agg (Lp x.cf.kC)) w' from
   ⟨by
    rw[h4.aI.1 74,Eg.aa8];show some (Value.pointer (x.fl.map fun b=>⟨b,0,none⟩))=_;rw[H.out.b.fl];rfl,(h4.aI.1 77).trans (Eg.Vk _),kI6.DZ h4 19 (Eg.U4 _) (by rw[Eg.ak];omega)⟩)
  have CU:=Lib.hid (afq (E1.out.go (gY _)).b.tb (x.gN+1) x.cf.kC);obtain⟨k1,k2,k3⟩:=KS.out _ (E1.out.b.eg.go (gY _));go_region_held_law (fun w'=>w'.cell? ⟨q,74,none⟩=some (.pointer (some ⟨q2,0,none⟩))/\w'.cell? ⟨q,77,none⟩=some (.int .i64 (x.gN+1))/\(Yl (.pointer (some ⟨q,19,none⟩))).run aj w'=.ok (.agg (Lp x.cf.kC)) w')
   (first|exact KS.out _ (E1.out.b.eg.go (gY _))|exact KS.out _ BQ.out|go_keep)
   (first|(go_at_call 75;(with_reducible refine CU.out.mono ?_);rintro r w3 ⟨⟨A5,c5,rfl⟩,⟨sl',ht,hsl⟩,hf⟩;have HTB:=Lib.hid ht;have ND:=Lib.hid hsl;have HF:=Lib.hid hf;have BQ:=Lib.hid (jE.box hf (E1.out.b.eg.go (gY _)) (by have h1:=H.out.b.nq;simp;omega));have B2:=Lib.hid (jE.box hf (B0.out.go (gY _)) (by have h1:=H.out.b.lt;simp;omega));clear hf ht hsl))
  have th:=B2.out.there 0 6 (aY (Oc.ak uL).symm);have E2:=Lib.hid (yY.rz (E1.out.go (gY _)) HF.out HTB.out ND.out);go_wp2_with fail;refine bodyPost_ret (kOc.zM rfl _ rfl (B2.out.put uL.aA rfl) (Oc.ak _)) rfl ?_;rw[HU.out];exact BF H.out Z0.out.dF fP.out (ap' _ _) E2.out ND.out (fun b hb=>.inl hb) (((HF1.out.lF (F':=[q,q2,g]) (by simp)).qh (jE.jq (gY _))).qh (HF.out.lF (by simp)))
end
section
variable {W W':au} {q:Nat} {e:En} {s:qK} {x:Eg} {q2 g:Nat} {sl:List (Option Fw)}
theorem aik{x:Hl}{well:Bool}{r f:Int}:(vk x well r f).1.name=x.name/\((vk x well r f).2=false->(vk x well r f).1.down=x.down):=by
 unfold vk
 repeat' split
 all_goals simp
theorem abd:∀(l:List Hl)(k:Nat)(y:Hl),k<l.length->y.name=(l.getD k lG).name->y.down=(l.getD k lG).down->nY (l.set k y)=nY l
 | [],_,_,h,_,_=>by cases h
 | a::l,0,y,_,h1,h2=>by
   unfold nY;simp only[List.getD_cons_zero]at h1 h2;simp only[List.set_cons_zero,List.filter_cons,h2];split<;>simp[h1]
 | a::l,k+1,y,h,h1,h2=>by
   have ih:=abd l k y (by simpa using h) (by simpa using h1) (by simpa using h2);unfold nY at ih ⊢;simp only[List.set_cons_succ,List.filter_cons];split<;>simp[ih]
theorem ail{l:List Hl}{n:List UInt8}{well:Bool}{r f:Int}(h:(Lu l n well r f).2.1=false):nY (Lu l n well r f).1=nY l:=by
 unfold Lu at h ⊢;split
 ·rfl
 ·rename_i hp
  rw[if_neg hp]at h;have hk:=aik (x:=l.getD (Ae l n).toNat lG) (well:=well) (r:=r) (f:=f);by_cases hl:(Ae l n).toNat<l.length
  ·exact abd l _ _ hl hk.1 (hk.2 h)
  ·simp only
   rw[List.set_eq_of_length_le (by omega)]
theorem amh(l:List Hl)(s:List UInt8)(a:Bool)(b c:Int):(Lu l s a b c).1.length=l.length:=by
 unfold Lu;split
 ·rfl
 ·simp
theorem Sk{A:Option aU}{n c:Nat}{b:Nat}(h:b∈nZ ({x with Qq:=A,EA:=n,UA:=c}:Eg)):b∈nZ x\/b∈wP A:=by
 rcases dS.1 h with h|h|h|h|h|h
 ·exact .inl (dS.2 (.inl h))
 ·exact .inl (dS.2 (.inr (.inl h)))
 ·exact .inr h
 ·exact .inl (dS.2 (.inr (.inr (.inr (.inl h)))))
 ·exact .inl (dS.2 (.inr (.inr (.inr (.inr (.inl h))))))
 ·exact .inl (dS.2 (.inr (.inr (.inr (.inr (.inr h))))))
theorem Nn.atO{A:Option aU}{n c:Nat}{J9:List Hl}(h:Nn W q e s x q2 g sl)(hR:iO Hl.aA 3 W' W'.heap.size A n J9)(hf:jE [q] W W')(hb:dL W' q ({x with Qq:=A,EA:=n,UA:=c}:Eg).aA)(hA:∀b∈wP A,W.heap.size<=b/\b<W'.heap.size):Nn W' q e {s with nP:=J9} ({x with Qq:=A,EA:=n,UA:=c}:Eg) q2 g sl:=by
 have o:∀b,b∈nZ x->b∉[q]:=fun b hm=>h.out hm
 have hs:=hf.size;have hq:=h.nq;have fP:=h.lt;refine⟨hb,h.key,h.cf,h.mq,h.vs.keep hf (fun b hm=>o b (dS.2 (.inl hm))),h.bk.keep hf (fun b hm=>o b (dS.2 (.inr (.inl hm)))),hR,h.fl,h.tb.keep hf (by simp;omega) (by simp;omega),h.rm,h.nq,fun b hm=>?_,h.gN,h.no,h.mg⟩;rcases Sk hm with hm|hm
 ·have:=h.FT b hm;omega
 ·have:=hA b hm;omega
theorem yY.atO{A:Option aU}{n c:Nat}{J9:List Hl}(h:yY W q e s x q2 g sl)(hR:iO Hl.aA 3 W' W'.heap.size A n J9)(hf:jE [q] W W')(hb:dL W' q ({x with Qq:=A,EA:=n,UA:=c}:Eg).aA)(hA:∀b∈wP A,W.heap.size<=b/\b<W'.heap.size)(hd:nY J9=nY s.nP):yY W' q e {s with nP:=J9} ({x with Qq:=A,EA:=n,UA:=c}:Eg) q2 g sl:=by
 have o:∀b,b∈nZ x->b∉[q]:=fun b hm=>h.b.out hm
 refine⟨h.b.atO hR hf hb hA,?_,?_⟩
 ·have:=h.dn.keep hf (fun b hm=>o b (dS.2 (.inr (.inr (.inr (.inl hm))))))
  rw[<-hd]at this;exact this
 ·have:=h.tt.keep hf (fun b hm=>o b (dS.2 (.inr (.inr (.inr (.inr (.inl hm))))))) (fun b hm=>o b (dS.2 (.inr (.inr (.inr (.inr (.inr hm)))))))
  have he:Ap e {s with nP:=J9}=Ap e s:=by unfold Ap;simp only;rw[hd]
  rw[<-he]at this;exact this
theorem ami{M:Int}(h:yY W q e s x q2 g sl)(hi:oG M e s)(a:At)(u:Ac)(ha:AtR W a u)(hk:u.kind=3):
 aR aj 25 #[.pointer (some ⟨q,0,none⟩),.agg a.aA] W (Zp W q e x q2 g sl (TD e s u.name u.well)):=by
 have Z0:=Lib.hid (((Bx.start W).new a.aA 66).new uL.aA 58);rw[show(W.alloc (.cells a.aA 66)).heap.size=W.heap.size+1 by simp]at Z0;have f0:=(Z0.out.b1.aI.1 0).trans (At.Bw a);rw[ha.kind,hk]at f0;have fP:=Lib.hid Z0.out.b0.lt;have H:=Lib.hid h;have HI:=Lib.hid hi;have HA:=Lib.hid (show a.name=u.name/\a.well=u.well from⟨ha.name,ha.well⟩);have Ue:=sU hi.cn;obtain⟨st,yZ⟩:∃st,st=Lu s.nP u.name u.well x.cf.rise x.cf.fall:=⟨_,rfl⟩
 have hcr:x.cf.rise=e.c.rise/\x.cf.fall=e.c.fall:=by rw[h.b.cf];exact⟨rfl,rfl⟩
 have HST:=Lib.hid (show st=Lu s.nP u.name u.well e.c.rise e.c.fall by rw[yZ,hcr.1,hcr.2]);have CS:=Lib.hid (fun(w:au) (hb:aN W.heap.size W w)=>arG s.nP u.name u.well x.cf.rise x.cf.fall x.Qq x.EA x.UA w (h.b.hl.go hb) (fun y hy=>by have h1:=hi.hl y hy;unfold auu;split at h1<;>omega) (by have h1:=h.b.hl.1;have h2:=hi.few;omega));rw[<-yZ]at CS;unfold aAP at CS;clear h hi yZ hcr Ue;obtain⟨J9,turned,er⟩:=st;simp only at CS;go_enter Tryz.func25,Tryz.ntmps25;go_upto_region 1 with fail
 generalize(W.alloc (.cells a.aA 66)).alloc (.cells uL.aA 58)=w1 at Z0 f0 fP ⊢;go_upto_region 13 with fail
 have KS:=Lib.hid (fun(w':au) (h1:dL w' W.heap.size a.aA) (h4:dL w' q x.aA)=>show w'.cell? ⟨q,72,none⟩=some (.slice x.Qq x.EA x.UA)/\w'.cell? ⟨W.heap.size,32,none⟩=some (.string (bV u.name))/\w'.cell? ⟨W.heap.size,33,none⟩=some (.bool u.well)/\w'.cell? ⟨q,25,none⟩=some (.int .i64 x.cf.rise)/\w'.cell? ⟨q,26,none⟩=some (.int .i64 x.cf.fall)from
  ⟨(h4.aI.1 72).trans (Eg.aa7 _),by rw[h1.aI.1 32,At.zX,HA.out.1],by rw[h1.aI.1 33,At.atL,HA.out.2],(h4.aI.1 25).trans (Eg.U9 _),(h4.aI.1 26).trans (Eg.Va _)⟩)
 go_region_held_law (fun w'=>w'.cell? ⟨q,72,none⟩=some (.slice x.Qq x.EA x.UA)/\w'.cell? ⟨W.heap.size,32,none⟩=some (.string (bV u.name))/\w'.cell? ⟨W.heap.size,33,none⟩=some (.bool u.well)/\w'.cell? ⟨q,25,none⟩=some (.int .i64 x.cf.rise)/\w'.cell? ⟨q,26,none⟩=some (.int .i64 x.cf.fall))
  (first|exact KS.out _ Z0.out.drew.b1 (H.out.b.eg.go Z0.out.drew.dF)|exact KS.out _ Z1.out.b1 (H.out.b.eg.go Z1.out.dF)|go_keep)
  (first|(go_at_call 74;(with_reducible refine(CS.out _ Z0.out.drew.dF).mono ?_);rintro r w2 ⟨A5,c5,rfl,ho,hb⟩;have HO:=Lib.hid ho;have Z1:=Lib.hid (Z0.out.drew.go hb);have HSZ:=Lib.hid (show w1.heap.size<=w2.heap.size from hb.size);have ze:=Lib.hid (show aN w1.heap.size w1 w2 from(gY w1).trans hb);clear hb ho))
 have HO:=Lib.hid (show w2.ownsRow w1.heap.size 100 3 (.slice A5 x.EA c5) x.EA (xG J9)from HO.out);have th:=Z1.out.b0.there 0 6 (aY (Oc.ak uL).symm);by_cases her:er=0
 case neg=>
  have q1:(er != 0)=true:=by simpa using her
  have HU:=Lib.hid (show TD e s u.name u.well=(s,{Hw with err:=er})by unfold TD;rw[<-HST.out];simp only;rw[if_neg her]);clear her;go_wp2_with fail;refine bodyPost_ret (kOc.zM rfl _ rfl (Z1.out.b0.put (Oc.bad er).aA (by rw[Oc.ak,Oc.ak])) (Oc.ak _)) rfl ?_;rw[HU.out];exact BF H.out Z1.out.dF (Nat.lt_of_lt_of_le fP.out HSZ.out) (adg _ _ er) (H.out.go Z1.out.dF) rfl (fun b hb=>.inl hb) (jE.refl _ _)
 obtain rfl:=her;have HU:=Lib.hid (show TD e s u.name u.well=({s with nP:=J9},Hw)by unfold TD;rw[<-HST.out];simp);have HIV:=Lib.hid (show oG M e {s with nP:=J9}by have:=ae9 HI.out u.name u.well;rw[HU.out]at this;exact this);have g72:=(H.out.b.eg.go Z1.out.dF).aI.2.1 72;have uH:=(H.out.b.eg.go Z1.out.dF).eG 72 (.slice A5 x.EA c5);rw[Eg.ah']at uH;have hf3:jE [q] w2 (w2.setCell ⟨q,72,none⟩ (.slice A5 x.EA c5)):=(jE.refl [q] w2).set ⟨q,72,none⟩ _ (.inl (by simp));have HHB:=Lib.hid uH;have HHF:=Lib.hid hf3;have B3:=Lib.hid (hf3.box Z1.out.b0 (by have:=H.out.b.lt;simp;omega));have HFR:=Lib.hid (kZ HO.out);have HLN:=Lib.hid (show J9.length=x.EA by
  have h1:=congrArg (fun r=>r.1.length) HST.out;simp only[amh]at h1;rw[h1];exact H.out.b.hl.1)
 have RH:=Lib.hid (show iO Hl.aA 3 (w2.setCell ⟨q,72,none⟩ (.slice A5 x.EA c5)) (w2.setCell ⟨q,72,none⟩ (.slice A5 x.EA c5)).heap.size A5 x.EA J9 from(iO.iX HLN.out HO.out).keep hf3 (fun b hb=>by have:=HFR.out b hb;have:=H.out.b.lt;have:=Z1.out.dF.size;have:=HSZ.out;have:=Z0.out.dF.size;simp;omega));have HWS:(w2.setCell ⟨q,72,none⟩ (.slice A5 x.EA c5)).heap.size=w2.heap.size:=by simp[World.setCell]
 have HWZ:=Lib.hid HWS;have HFA:=Lib.hid ((jE.jq (F:=[q]) Z1.out.dF).qh hf3);have Ht:=Lib.hid (show W.heap.size<=w1.heap.size from Z0.out.dF.size);have aim:=Lib.hid ((jE.jq (F:=[q]) ze.out).qh hf3);have HBA:=Lib.hid (show∀b∈wP A5,w1.heap.size<=b/\b<(w2.setCell ⟨q,72,none⟩ (.slice A5 x.EA c5)).heap.size from fun b hb=>by rw[HWS];exact HFR.out b hb);cases turned with
 | false=>
   have HD:=Lib.hid (show nY J9=nY s.nP by have:=ail (l:=s.nP) (n:=u.name) (well:=u.well) (r:=e.c.rise) (f:=e.c.fall) (by rw[<-HST.out]);rw[<-HST.out]at this;exact this);have E3:=Lib.hid ((H.out.go Z0.out.dF).atO RH.out aim.out uH HBA.out HD.out);clear hf3 uH th HWS;have th3:=B3.out.there 0 6 (aY (Oc.ak uL).symm);go_upto_region 17 with fail
   generalize w2.setCell ⟨q,72,none⟩ (.slice A5 x.EA c5)=w3 at E3 HHF HFA aim HBA B3 th3 HWZ RH HHB ⊢;go_wp2_with fail;refine bodyPost_ret (kOc.zM rfl _ rfl (B3.out.put uL.aA rfl) (Oc.ak _)) rfl ?_;rw[HU.out];exact BF H.out Z0.out.dF fP.out (ap' _ _) E3.out rfl (fun b hb=>(Sk hb).imp id (fun h=>(HBA.out b h).1)) (aim.out.lF (by simp))
 | true=>
   have E3:=Lib.hid ((H.out.go Z0.out.dF).b.atO RH.out aim.out uH HBA.out);clear hf3 uH th HWS;go_upto_region 17 with fail
   generalize w2.setCell ⟨q,72,none⟩ (.slice A5 x.EA c5)=w3 at E3 HHF HFA aim HBA B3 HWZ RH HHB ⊢;have CB:=Lib.hid (J8 E3.out HIV.out);unfold ac' at CB;go_upto_region 19 with(go_at_call 64;(with_reducible refine CB.out.mono ?_);rintro r w4 ⟨rfl,⟨x',hE,YE⟩,hf⟩;have HE:=Lib.hid hE;have HRW:=Lib.hid YE;have HF:=Lib.hid hf;have B4:=Lib.hid (hf.box B3.out (by have:=H.out.b.lt;simp;omega));have th4:=B4.out.there 0 6 (aY (Oc.ak uL).symm);clear hE YE hf)
   go_wp2_with fail;refine bodyPost_ret (kOc.zM rfl _ rfl (B4.out.put uL.aA rfl) (Oc.ak _)) rfl ?_;rw[HU.out];refine BF H.out Z0.out.dF fP.out (ap' _ _) HE.out rfl (fun b hb=>?_) ((aim.out.qh HF.out).lF (by simp));rcases HRW.out b hb with h1|h1
   ·exact(Sk h1).imp id (fun h=>(HBA.out b h).1)
   ·exact .inr (aP aim.out.size h1)
end
section
variable {W W':au} {q:Nat} {e:En} {s:qK} {x:Eg} {q2 g:Nat} {sl:List (Option Fw)}
@[go_sem]theorem aDC(W:au)(k:Int):(uW 58 #[(3,.int .i64 k)]).run aj W=.ok (.agg (Oc.mk 0 0 false k [] none 0 0).aA) W:=kOc.bd W _ _ _ _ kM (ap2 W _ kM) (by
 refine(iy rfl rfl (by rw[Oc.ak];omega) (Oc.avn _ _)).trans ?_;rfl)
theorem dL.ayH{W:au}{b o:Nat}{c:Array aC}{t:qX}(h:dL W b c)(hc:c.extract o (o+30)=t.aA)(hs:o+30<=c.size):(Ov (.pointer (some ⟨b,o,none⟩))).run aj W=.ok (.agg t.aA) W:=by
 obtain⟨_,_,h3,h4⟩:=h.aI;rw[anT W b o (by rw[h3 o 30 (by unfold eu;omega)];trivial),h4 o 30 (by unfold eu;omega),hc]
theorem afG{F:List Nat}{B n c sz:Nat}{T:bM}{A:Option aU}{xs:List aC}(h:W.ownsRow B T sz (.slice A n c) n xs)(hf:jE F W W')(hF:∀b∈F,b<B):W'.ownsRow B T sz (.slice A n c) n xs:=Bz h hf (fun k hk hm=>by
 have h2:k∈wP A:=by
  cases hA:A with
  | none=>rw[hA]at hk;cases hk
  | some a=>rw[hA]at hk;exact DY.2 ⟨a,rfl,by simpa[jW]using hk⟩
 have h3:=(kZ h k h2).1;have:=hF k hm;omega)
theorem Eg.aDD(h:dL W q x.aA)(pc:Pc):dL (gT W q 70 pc.aA) q ({x with pl:=pc}:Eg).aA:=by
 have:=h.setCells 70 pc.aA.toList;rw[show pc.aA.toList.toArray=pc.aA by simp,Eg.apS]at this;exact this
theorem dL.aty{b:Nat}{pc:Pc}(h:dL W b pc.aA):(yt 32 (.pointer (some ⟨b,0,none⟩))).run aj W=.ok (.agg pc.aA) W:=by
 have:=kPc.DZ h 0 (d:=pc.aA) (by have:=Pc.ak pc;rw[<-this];simp) (by rw[Pc.ak];omega);exact this
theorem oG.atP{M:Int}(h:oG M e s):∀y∈s.nP,y.name.length<=100000:=fun y hy=>by
 have h1:y.name∈s.sW.map (·.name):=by rw[<-h.nm];exact iQ.2 ⟨y,hy,rfl⟩
 obtain⟨z,hz,h2⟩:=iQ.1 h1;have h3:=h.few.2.2 z hz;rw[<-h2];omega
theorem aqa{w4 w5 w6:au}{nP:List Hl}{A:Option aU}{c:Nat}(h1:aN w4.drew.heap.size w4.drew w5)(h2:aN w5.heap.size w5 w6)(hq:q<w4.heap.size)(Q:dL w6 q x.aA)(O:w6.ownsRow w5.heap.size 100 3 (.slice A nP.length c) nP.length (xG nP)):
 ∃A2 n2 c2,dL (w6.setCell ⟨q,72,none⟩ (.slice A nP.length c)) q ({x with Qq:=A2,EA:=n2,UA:=c2}:Eg).aA/\iO Hl.aA 3 (w6.setCell ⟨q,72,none⟩ (.slice A nP.length c)) (w6.setCell ⟨q,72,none⟩ (.slice A nP.length c)).heap.size A2 n2 nP/\(∀b∈wP A2,w4.heap.size<=b/\b<(w6.setCell ⟨q,72,none⟩ (.slice A nP.length c)).heap.size)/\jE [q] w4 (w6.setCell ⟨q,72,none⟩ (.slice A nP.length c)):=by
 have s1:w4.heap.size<=w5.heap.size:=h1.size;have hf:jE [q] w6 (w6.setCell ⟨q,72,none⟩ (.slice A nP.length c)):=(jE.refl [q] w6).set ⟨q,72,none⟩ _ (.inl (by simp));have hb:=Q.eG 72 (.slice A nP.length c);rw[Eg.ah']at hb;have Au:=kZ O;refine⟨A,nP.length,c,hb,(iO.iX rfl O).keep hf (fun b hm=>by have:=Au b hm;simp;omega),fun b hm=>?_,(((jE.jq (F:=[q]) (gY w4)).qh (jE.jq h1)).qh (jE.jq h2)).qh hf⟩;have:=Au b hm;have e1:(w6.setCell ⟨q,72,none⟩ (.slice A nP.length c)).heap.size=w6.heap.size:=by simp[World.setCell]
 rw[e1];omega
theorem abe{p:Pc}{A:Option aU}{n c:Nat}{b:Nat}(h:b∈nZ ({x with pl:=p,Qq:=A,EA:=n,UA:=c}:Eg)):b∈nZ x\/b∈wP p.rA\/b∈wP A:=by
 rcases dS.1 h with h|h|h|h|h|h
 ·exact .inl (dS.2 (.inl h))
 ·exact .inr (.inl h)
 ·exact .inr (.inr h)
 ·exact .inl (dS.2 (.inr (.inr (.inr (.inl h)))))
 ·exact .inl (dS.2 (.inr (.inr (.inr (.inr (.inl h))))))
 ·exact .inl (dS.2 (.inr (.inr (.inr (.inr (.inr h))))))
theorem Nn.aJ4{p:Pc}{A:Option aU}{n c:Nat}{l:List Bk}{J9:List Hl}(h:Nn W q e s x q2 g sl)(hP:iO Bk.aA 27 W' W'.heap.size p.rA p.rN l)(hR:iO Hl.aA 3 W' W'.heap.size A n J9)(hf:jE [q] W W')(hb:dL W' q ({x with pl:=p,Qq:=A,EA:=n,UA:=c}:Eg).aA)(hA:∀b,b∈wP p.rA\/b∈wP A->W.heap.size<=b/\b<W'.heap.size):Nn W' q e {s with mq:=p.mq,sW:=l,nP:=J9} ({x with pl:=p,Qq:=A,EA:=n,UA:=c}:Eg) q2 g sl:=by
 have o:∀b,b∈nZ x->b∉[q]:=fun b hm=>h.out hm
 have hs:=hf.size;have hq:=h.nq;have fP:=h.lt;refine⟨hb,h.key,h.cf,rfl,h.vs.keep hf (fun b hm=>o b (dS.2 (.inl hm))),hP,hR,h.fl,h.tb.keep hf (by simp;omega) (by simp;omega),h.rm,h.nq,fun b hm=>?_,h.gN,h.no,h.mg⟩;rcases abe hm with hm|hm
 ·have:=h.FT b hm;omega
 ·have:=hA b hm;omega
def DoP(w:au)(v:Int)(l:List Bk)(er:Int)(r:kX)(w':au):Prop:=
 ∃A c,r=.returned (.tuple #[.agg (Pc.mk v A l.length c).aA,.int .i64 er])/\w'.ownsRow w.heap.size 62 27 (.slice A l.length c) l.length (dH l)/\aN w.heap.size w w'
theorem aDE{M:Int}(h:yY W q e s x q2 g sl)(hi:oG M e s)(hv:s.mq<9223372036854775807/\-9223372036854775808<=s.mq)(o:qX)(hf:o.bk.ru)(hw:o.w<18446744073709551616){w:au}(hb:aN W.heap.size W w):
 aR aj 71 #[.agg x.pl.aA,.agg o.aA] w (DoP w (doV s.mq s.sW o) (doL s.mq s.sW o) (qE s.mq s.sW o)):=by
 have h1:=h.b.bk.go hb;have hn:=h.b.bk.1;have al9:=hi.few;have:=awk s.sW hi.srt s.mq ⟨hv.2,hv.1⟩ o hf hw x.pl.rA x.pl.rC w (by rw[hn];exact h1) (by omega);rw[hn]at this;have e1:x.pl.aA = #[.int .i64 s.mq,.slice x.pl.rA x.pl.rN x.pl.rC]:=by unfold Pc.aA;rw[h.b.mq]
 rw[e1];exact this
theorem atQ{M:Int}(h:yY W q e s x q2 g sl)(hi:oG M e s)(a:At)(u:Ac)(ha:AtR W a u)(hk:u.kind=2)(hof:u.op.bk.ru)(how:u.op.w<18446744073709551616):
 aR aj 25 #[.pointer (some ⟨q,0,none⟩),.agg a.aA] W (Zp W q e x q2 g sl (opE s u.op)):=by
 have Z0:=Lib.hid (((Bx.start W).new a.aA 66).new uL.aA 58);rw[show(W.alloc (.cells a.aA 66)).heap.size=W.heap.size+1 by simp]at Z0;have f0:=(Z0.out.b1.aI.1 0).trans (At.Bw a);rw[ha.kind,hk]at f0;have fP:=Lib.hid Z0.out.b0.lt;have H:=Lib.hid h;have HI:=Lib.hid hi;have HA:=Lib.hid ha.op;have CD:=Lib.hid (fun(w:au) (hb:aN W.heap.size W w)=>aDE h hi (by obtain⟨p1,p2,_⟩:=xH.1 hi.pl;omega) u.op hof how hb);unfold DoP at CD;obtain⟨v,hv⟩:∃v,v=doV s.mq s.sW u.op:=⟨_,rfl⟩
 obtain⟨l,hl⟩:∃l,l=doL s.mq s.sW u.op:=⟨_,rfl⟩
 obtain⟨er,her⟩:∃er,er=qE s.mq s.sW u.op:=⟨_,rfl⟩
 rw[<-hv,<-hl,<-her]at CD;have HV:=Lib.hid hv;have HL:=Lib.hid hl;have HE:=Lib.hid her;clear h hi hv hl her;go_enter Tryz.func25,Tryz.ntmps25;go_upto_region 1 with fail
 generalize(W.alloc (.cells a.aA 66)).alloc (.cells uL.aA 58)=w1 at Z0 f0 fP ⊢;go_upto_region 5 with fail
 have KS:=Lib.hid (fun(w':au) (h1:dL w' W.heap.size a.aA) (h2:aN W.heap.size W w')=>show(yt 32 (.pointer (some ⟨q,70,none⟩))).run aj w'=.ok (.agg x.pl.aA) w'/\(Ov (.pointer (some ⟨W.heap.size,2,none⟩))).run aj w'=.ok (.agg u.op.aA) w' from
  ⟨H.out.b.aic h2,h1.ayH (o:=2) (by rw[<-HA.out];exact At.avp a) (by rw[At.ak];omega)⟩)
 go_cut [5,6]from 21 to 29 (fun s5 s6 wx=>∃y A c,s5=.pointer (some ⟨y,0,none⟩)/\s6=.int .i64 er/\w1.heap.size<=y/\Bx [(y,(Pc.mk v A l.length c).aA),(W.heap.size+1,uL.aA),(W.heap.size,a.aA)] W wx/\wx.ownsRow w1.heap.size 62 27 (.slice A l.length c) l.length (dH l)/\aN w1.heap.size w1 wx)
 case first=>
  have ZP:=Lib.hid ((Z0.out.new Zn.aA 32).drew);go_region_held_law (fun w'=>(yt 32 (.pointer (some ⟨q,70,none⟩))).run aj w'=.ok (.agg x.pl.aA) w'/\(Ov (.pointer (some ⟨W.heap.size,2,none⟩))).run aj w'=.ok (.agg u.op.aA) w')
   (first|exact KS.out _ ZP.out.b2 ZP.out.dF|exact KS.out _ Z0.out.b1 Z0.out.dF|exact KS.out _ Z0.out.drew.b1 Z0.out.drew.dF|exact KS.out _ (Z0.out.new Zn.aA 32).b2 (Z0.out.new Zn.aA 32).dF|exact KS.out _ Z1.out.b2 Z1.out.dF|exact KS.out _ Z2.out.b1 Z2.out.dF|exact KS.out _ (Z2.out.new Zn.aA 32).b2 (Z2.out.new Zn.aA 32).dF|exact KS.out _ ZQ.out.b2 ZQ.out.dF|exact KS.out _ ZN.out.b2 ZN.out.dF|go_keep)
   (first|(go_at_call 71;(with_reducible refine(CD.out _ ZP.out.dF).mono ?_);rintro r w2 ⟨A5,c5,rfl,ho,hb⟩;have HO:=Lib.hid ho;have Z1:=Lib.hid (ZP.out.go hb);have ze:=Lib.hid hb;have thp:=Z1.out.b0.there 0 2 (aY (Pc.ak Zn).symm);have ZQ:=Lib.hid (Z1.out.put (fun p hp=>Nat.ne_of_lt (Z0.out.2 p hp).2.lt) (Pc.mk v A5 l.length c5).aA (by rw[Pc.ak,Pc.ak]));clear hb ho)|(go_at_call 71;(with_reducible refine(CD.out _ Z0.out.drew.dF).mono ?_);rintro r w2 ⟨A5,c5,rfl,ho,hb⟩;have HO:=Lib.hid ho;have Z2:=Lib.hid (Z0.out.drew.go hb);have ZN:=Lib.hid (Z2.out.new (Pc.mk v A5 l.length c5).aA 32);have ze:=Lib.hid hb;clear hb ho))
  ·go_wp2_with fail
   go_meet
   case rel=>exact⟨w2.heap.size,A5,c5,rfl,rfl,ze.out.size,ZN.out,Bz HO.out (jE.jq (F:=[]) ((Below.refl _ _).alloc (ay _) _)) (fun k hk hm=>by cases hm),((gY w1).trans ze.out).alloc ze.out.size _⟩
  ·go_wp2_with fail
   go_meet
   case rel=>exact⟨w1.heap.size,A5,c5,rfl,rfl,ay _,ZQ.out,iG (afG HO.out (yT w2 w1.heap.size 0 _) (by simp)) (by simp),lq (((Below.refl w1.heap.size w1).alloc (ay _) _).trans (((gY _).trans ze.out).mono (by simp))) w1.heap.size 0 _ (ay _)⟩
 obtain⟨y,A,c,rfl,rfl,hy,Z3,hO,hB⟩:=hcut;have Z3:=Lib.hid Z3;have HO:=Lib.hid hO;have HB:=Lib.hid hB;have HY:=Lib.hid hy;clear hO hB hy CD;generalize wc=w3 at Z3 HO HB ⊢;have th:=Z3.out.b1.there 0 6 (aY (Oc.ak uL).symm);by_cases h0:er=0
 case neg=>
  have q1:(er != 0)=true:=by simpa using h0
  have HU:=Lib.hid (show opE s u.op=(s,{Hw with err:=er})by unfold opE;rw[<-HE.out,if_neg h0]);clear h0;go_wp2_with fail;refine bodyPost_ret (kOc.zM rfl _ rfl (Z3.out.b1.put (Oc.bad er).aA (by rw[Oc.ak,Oc.ak])) (Oc.ak _)) rfl ?_;rw[HU.out];exact BF H.out Z3.out.dF (Nat.lt_of_lt_of_le fP.out HB.out.size) (adg _ _ er) (H.out.go Z3.out.dF) rfl (fun b hb=>.inl hb) (jE.refl _ _)
 obtain rfl:=h0;have HU:=Lib.hid (show opE s u.op=({s with mq:=v,sW:=l,nP:=Fq s.nP (l.map (·.name))},{Hw with mq:=v})by unfold opE;rw[<-HE.out,if_pos rfl,<-HV.out,<-HL.out]);have HIV:=Lib.hid (show oG M e {s with mq:=v,sW:=l,nP:=Fq s.nP (l.map (·.name))}by have:=ao5 HI.out u.op hof how;rw[HU.out]at this;exact this);have hq:=H.out.b.lt;have hyw:W.heap.size+1<y:=Nat.lt_of_lt_of_le fP.out HY.out;have EB:=H.out.b.eg.go Z3.out.dF;have th2:=EB.there 70 2 (by rw[Eg.ak];omega);have lp:=Z3.out.b0.aty;have HB4:=Lib.hid (Eg.aDD EB (Pc.mk v A l.length c));go_upto_region 9 with fail
 have YE:=H.out.b.FT;have F4:=Lib.hid (yT w3 q 70 (Pc.mk v A l.length c).aA);have BY:=Lib.hid (F4.out.box Z3.out.b0 (by simp;omega));have B4:=Lib.hid (F4.out.box Z3.out.b1 (by simp;omega));have O4:=Lib.hid (afG HO.out F4.out (by have:=Z0.out.dF.size;simp;omega));have HR4:=Lib.hid ((H.out.b.hl.go Z3.out.dF).keep F4.out (fun b hb=>by have:=YE b (dS.2 (.inr (.inr (.inl hb))));simp;omega));have HF:=Lib.hid HIV.out.few;have HNN:=Lib.hid HI.out.atP;have HNM:=Lib.hid (show∀z∈l.map (·.name),z.length<=100000 from fun z hz=>by
  obtain⟨b,hb,rfl⟩:=iQ.1 hz;have:=HF.out.2.2 b hb;omega)
 have HLE:=Lib.hid (show x.EA<=100000 by have h1:=H.out.b.hl.1;have h2:=HI.out.few;omega);have HQ3:=Lib.hid (show q<w3.heap.size by have:=Z3.out.dF.size;omega);clear hq hyw EB th2 lp YE th f0;generalize gT w3 q 70 (Pc.mk v A l.length c).aA=w4 at HB4 F4 BY B4 O4 HR4 ⊢;have HQ4:=Lib.hid (show q<w4.heap.size from Nat.lt_of_lt_of_le HQ3.out F4.out.size);have CN:=Lib.hid (afA l v A l.length c w4.drew ((iO.iX rfl O4.out).go (gY _)) (by have:=HF.out.1;simp at this;omega));have f72:=((HB4.out.go (gY _)).aI.1 72).trans (Eg.aa7 _);have lp:=(BY.out.go (gY _)).aty;go_cut []from 38 to 47 (fun wx=>∃A2 n2 c2,dL wx q ({x with pl:=Pc.mk v A l.length c,Qq:=A2,EA:=n2,UA:=c2}:Eg).aA/\iO Hl.aA 3 wx wx.heap.size A2 n2 (Fq s.nP (l.map (·.name)))/\(∀b∈wP A2,w4.heap.size<=b/\b<wx.heap.size)/\jE [q] w4 wx)
 case first=>
  go_region_with (first
   | (go_at_call 73;(with_reducible refine CN.out.mono ?_);rintro r w5 ⟨A2,n2,c2,rfl,hR,hb⟩;have HN5:=Lib.hid hR;have B5:=Lib.hid hb;have Y5:=Lib.hid ((BY.out.go (gY _)).go hb);have Q5:=Lib.hid ((HB4.out.go (gY _)).go hb);have aSu:=(Q5.out.aI.1 72).trans (Eg.aa7 _);have lp5:=Y5.out.aty;have CY:=Lib.hid (aog s.nP (l.map (·.name)) x.Qq x.EA x.UA A2 n2 c2 w5 ((HR4.out.go (gY _)).go hb) hR HLE.out (by have h1:=hR.1;have h2:=HF.out.1;simp at h1 h2;omega) HNN.out HNM.out);clear hR hb)
   | (go_at_call 72;(with_reducible refine CY.out.mono ?_);rintro r w6 ⟨A6,c6,rfl,ho,hb⟩;have O6:=Lib.hid ho;have B6:=Lib.hid hb;have Y6:=Lib.hid (Y5.out.go hb);have Q6:=Lib.hid (Q5.out.go hb);have g72:=Q6.out.aI.2.1 72;have aSv:=(Q6.out.aI.1 72).trans (Eg.aa7 _);have Y7:=Lib.hid (((jE.refl [q] w6).set ⟨q,72,none⟩ (.slice A6 (Fq s.nP (l.map (·.name))).length c6) (.inl (by simp))).box Y6.out (by have h1:=H.out.b.lt;have h2:=fP.out;have h3:=HY.out;simp;omega));clear ho hb))
  all_goals go_wp2_with fail
  all_goals go_meet
  all_goals(have hs:=aqa (x:=({x with pl:=Pc.mk v A l.length c}:Eg)) B5.out B6.out HQ4.out Q6.out O6.out;exact hs)
 obtain⟨A2,n2,c2,yX,hr5,ayI,hf5⟩:=hcut;have s1:=HB.out.size;have F34:jE [q] w1 wc:=((jE.jq (F:=[q]) HB.out).qh F4.out).qh hf5;have hq1:=H.out.b.lt;have s0:=Z0.out.dF.size;have hOf:=kZ O4.out;have E5:=Lib.hid ((H.out.go Z0.out.dF).b.aJ4 (p:=Pc.mk v A l.length c) (((iO.iX rfl O4.out)).keep hf5 (fun b hb=>by have:=hOf b hb;simp;omega)) hr5 F34 yX (fun b hb=>by
  rcases hb with hb|hb
  ·have h1:=hOf b hb;have h2:=hf5.size;omega
  ·have h1:=ayI b hb;have h2:=F4.out.size;omega))
 have aJ6:=Lib.hid ayI;have HOF:=Lib.hid hOf;have aDF:=Lib.hid F34;have hyw:W.heap.size+1<y:=Nat.lt_of_lt_of_le fP.out HY.out;have Y5:=Lib.hid (hf5.box BY.out (by simp;omega));have U5:=Lib.hid (hf5.box B4.out (by simp;omega));have CB:=Lib.hid (J8 (show Nn wc q e {s with mq:=v,sW:=l,nP:=Fq s.nP (l.map (·.name))} _ q2 g sl from E5.out) HIV.out);unfold ac' at CB;have HS4:=Lib.hid (show w1.heap.size<=w4.heap.size from aP HB.out.size F4.out.size);have HYW:=Lib.hid hyw;clear ayI hOf F34 hyw hf5 yX hr5 s1 s0 hq1 CN f72 lp;go_upto_region 11 with(go_at_call 64;(with_reducible refine CB.out.mono ?_);rintro r w7 ⟨rfl,⟨x',hE,YE⟩,hf⟩;have HEE:=Lib.hid hE;have HRW:=Lib.hid YE;have HF7:=Lib.hid hf;have Y7:=Lib.hid (hf.box Y5.out (by have h1:=H.out.b.lt;have h2:=HYW.out;simp;omega));have U7:=Lib.hid (hf.box U5.out (by have h1:=H.out.b.lt;simp;omega));clear hE YE hf)
 have fv:=(Y7.out.aI.1 0).trans (Pc.Yo _);have th:=U7.out.there 0 6 (aY (Oc.ak uL).symm);go_wp2_with fail;refine bodyPost_ret (kOc.zM rfl _ rfl (U7.out.put (Oc.mk 0 0 false v [] none 0 0).aA (by rw[Oc.ak,Oc.ak])) (Oc.ak _)) rfl ?_;rw[HU.out];refine BF H.out Z0.out.dF fP.out ⟨rfl,rfl,rfl,rfl,rfl,rfl,World.ownsRow_nil _ _ _ _⟩ HEE.out rfl (fun b hb=>?_) ((aDF.out.qh HF7.out).lF (by simp));rcases HRW.out b hb with h1|h1
 ·rcases abe h1 with h2|h2|h2
  ·exact .inl h2
  ·exact .inr (HOF.out b h2).1
  ·exact .inr (aP HS4.out (aJ6.out b h2).1)
 ·exact .inr (aP aDF.out.size h1)
end
theorem Np{W:au}{q:Nat}{e:En}{s:qK}{x:Eg}{q2 g:Nat}{sl:List (Option Fw)}{M:Int}(h:yY W q e s x q2 g sl)(hi:oG M e s)(hM:M<1152921504606846976)(a:At)(u:Ac)(ha:AtR W a u)(hof:u.op.bk.ru)(how:u.op.w<18446744073709551616):
 aR aj 25 #[.pointer (some ⟨q,0,none⟩),.agg a.aA] W (Zp W q e x q2 g sl (vW e s u)):=by
 unfold vW;by_cases h1:u.kind=1
 ·rw[if_pos h1];exact aij h hi hM a u ha h1
 rw[if_neg h1];by_cases h2:u.kind=2
 ·rw[if_pos h2];exact atQ h hi a u ha h2 hof how
 rw[if_neg h2];by_cases h3:u.kind=3
 ·rw[if_pos h3];exact ami h hi a u ha h3
 rw[if_neg h3];by_cases h4:u.kind=4
 ·rw[if_pos h4];exact amg h hi a u ha h4
 rw[if_neg h4];exact atN h a u ha ⟨h1,h2,h3,h4⟩
def aqb(w:au)(n:Nat)(l:List (List UInt8))(e:kX)(w':au):Prop:=
 ∃A c,e=.returned (.slice A n c)/\w'.ownsRow w.heap.size 9 1 (.slice A n c) n (l.flatMap fun x=>(txA x).toList)/\aN w.heap.size w w'
@[go_sem]theorem ayJ(w:au):(aft 0 #[]).run aj w=.ok (.slice (some ⟨w.heap.size,0,none⟩) 0 0) (w.alloc (.cells #[] 9)):=by
 obtain⟨i0,oz,mZ,nu,_⟩:=abo;simp[aft,bJ,dJ lK,zeroValue,sizeOf,typeInfo,oz,mZ,nu,fB,newRow,cu];rw[show(lW 0) = #[]by decide];simp
theorem afH(l:List (List UInt8))(A:Option aU)(n c:Nat)(w:au)(hR:RdT w w.heap.size A n l)(hn:n<=100000):
 aR aj 88 #[.slice A n c] w (aqb w n l):=by
 have EI:=hR.1;cases A with
 | some a=>
   have GH:∀W:au,(binOp .eql 69 (.slice (some a) n c) (.slice none 0 0)).run aj W=.ok (.bool false) W:=fun W=>by
    simp only[binOp];simp[run_equal_slice_nil,lK]
   obtain⟨i0,oz,mZ,nu,Ar⟩:=abo;have wX:(jc ⟨#[]⟩).cells.size=1:=rfl;have O1:=Lib.hid (show(w.alloc (.cells #[] 9)).ownsRow w.heap.size 9 1 (.slice (some ⟨w.heap.size,0,none⟩) 0 0) 0 []from World.ownsRow_lit w #[] 0 (ay _) (by unfold maxLen;omega) rfl);have O2:=Lib.hid (hR.alloc (ay _) (.cells #[] 9)).2.1;have UM:=Lib.hid (show 0+n<=maxLen by unfold maxLen;omega);have UN:=Lib.hid (show(0+n)*i0.bytes<=140737488355328 from aP (Nat.mul_le_mul (show 0+n<=100000 by omega) Ar) (by omega));have O3:=Lib.hid (show w.heap.size<=(w.alloc (.cells #[] 9)).heap.size by simp);have ON:=Lib.hid (ER txA (fun x=>by simp[txA,cK]) l);clear hR EI;go_enter Tryz.func88,Tryz.ntmps88;go_wp2_with (at_builtin;refine jI _ rfl (.tmp 5) (.tmp 6) _ rfl w.heap.size 9 i0 (.string ⟨#[]⟩) 1 i0.bytes lK oz mZ nu rfl wX (Nat.succ_pos _) (.slice (some ⟨w.heap.size,0,none⟩) 0 0) 0 [] rfl O1.out w.heap.size (some a) n c ((l.flatMap fun x=>(txA x).toList)) rfl O2.out ON.out UM.out UN.out O3.out ?_;intro v1 w1 kJ AA yj);obtain⟨A',c',hv,_,_⟩:=jT kJ;subst hv;simp only[bB,List.nil_append]at kJ;have hb:=um ((Below.refl w.heap.size w).alloc (ay _) (.cells #[] 9)) AA (ay _) O3.out;go_wp2;go_ret;exact⟨A',c',by simp,kJ,hb⟩
 | none=>
   have h0:n=0:=by
    rcases Nat.eq_zero_or_pos n with h0|h0
    ·exact h0
    ·obtain⟨a,ha,_⟩:=hR.2.1.2 h0;cases ha
   subst h0;have hl:l=[]:=List.eq_nil_of_length_eq_zero EI;subst hl;have GH:∀W:au,(binOp .eql 69 (.slice none 0 c) (.slice none 0 0)).run aj W=.ok (.bool true) W:=fun W=>by
    simp only[binOp];simp[run_equal_slice_nil,lK]
   have FIN:=Lib.hid (show aqb w 0 [] (.returned (.slice none 0 0)) w from⟨none,0,rfl,World.ownsRow_nil _ _ _ _,Below.refl _ _⟩);clear hR EI;go_enter Tryz.func88,Tryz.ntmps88;go_wp2;go_ret;exact FIN.out
theorem avq:∃i:nM,aj.info? 3=some i/\i.zero=some (.int .i64 0)/\i.size=1/\i.bytes<=400:=by
 obtain⟨i,h1,h2,h3,h4⟩:=info_parts (P:=aj) (e:=3) (z:=.int .i64 0) (size:=1) (bytes:=8) (by kernel_rfl);exact⟨i,h1,h2,h3,by omega⟩
theorem aqc:∃i:nM,aj.info? 98=some i/\i.zero=some (.agg oD.aA)/\i.size=20/\i.bytes<=400:=by
 obtain⟨i,h1,h2,h3⟩:=kVp.ahp;refine⟨i,h1,h3,h2,?_⟩;have h4:(aj.info? 98).map (fun i=>decide (i.bytes<=400))=some true:=by kernel_rfl
 rw[h1]at h4;simpa using h4
@[go_sem]theorem avr(w:au):(MV 0 #[]).run aj w=.ok (.slice (some ⟨w.heap.size,0,none⟩) 0 0) (w.alloc (.cells #[] 3)):=by
 obtain⟨i0,oz,mZ,nu,_⟩:=avq;simp[MV,bJ,dJ Tryz.underlying70,zeroValue,sizeOf,typeInfo,oz,mZ,nu,fB,newRow,cu];rw[show(lW 0) = #[]by decide];simp
def ayK(w:au)(n:Nat)(l:List Int)(e:kX)(w':au):Prop:=
 ∃A c,e=.returned (.slice A n c)/\w'.ownsRow w.heap.size 3 1 (.slice A n c) n (l.flatMap fun x=>(GY x).toList)/\aN w.heap.size w w'
theorem ain(l:List Int)(A:Option aU)(n c:Nat)(w:au)(hR:iO GY 1 w w.heap.size A n l)(hn:n<=100000):
 aR aj 89 #[.slice A n c] w (ayK w n l):=by
 have EI:=hR.1;cases A with
 | some a=>
   have GH:∀W:au,(binOp .eql 70 (.slice (some a) n c) (.slice none 0 0)).run aj W=.ok (.bool false) W:=fun W=>by
    simp only[binOp];simp[run_equal_slice_nil,Tryz.underlying70]
   obtain⟨i0,oz,mZ,nu,Ar⟩:=avq;have wX:(aJ .i64 0).cells.size=1:=rfl;have O1:=Lib.hid (show(w.alloc (.cells #[] 3)).ownsRow w.heap.size 3 1 (.slice (some ⟨w.heap.size,0,none⟩) 0 0) 0 []from World.ownsRow_lit w #[] 0 (ay _) (by unfold maxLen;omega) rfl);have O2:=Lib.hid (hR.alloc (ay _) (.cells #[] 3)).2.1;have UM:=Lib.hid (show 0+n<=maxLen by unfold maxLen;omega);have UN:=Lib.hid (show(0+n)*i0.bytes<=140737488355328 from aP (Nat.mul_le_mul (show 0+n<=100000 by omega) Ar) (by omega));have O3:=Lib.hid (show w.heap.size<=(w.alloc (.cells #[] 3)).heap.size by simp);have ON:=Lib.hid (ER GY (fun x=>by simp[GY,cK]) l);clear hR EI;go_enter Tryz.func89,Tryz.ntmps89;go_wp2_with (at_builtin;refine jI _ rfl (.tmp 5) (.tmp 6) _ rfl w.heap.size 3 i0 (.int .i64 0) 1 i0.bytes Tryz.underlying70 oz mZ nu rfl wX (Nat.succ_pos _) (.slice (some ⟨w.heap.size,0,none⟩) 0 0) 0 [] rfl O1.out w.heap.size (some a) n c ((l.flatMap fun x=>(GY x).toList)) rfl O2.out ON.out UM.out UN.out O3.out ?_;intro v1 w1 kJ AA yj);obtain⟨A',c',hv,_,_⟩:=jT kJ;subst hv;simp only[bB,List.nil_append]at kJ;have hb:=um ((Below.refl w.heap.size w).alloc (ay _) (.cells #[] 3)) AA (ay _) O3.out;go_wp2;go_ret;exact⟨A',c',by simp,kJ,hb⟩
 | none=>
   have h0:n=0:=by
    rcases Nat.eq_zero_or_pos n with h0|h0
    ·exact h0
    ·obtain⟨a,ha,_⟩:=hR.2.1.2 h0;cases ha
   subst h0;have hl:l=[]:=List.eq_nil_of_length_eq_zero EI;subst hl;have GH:∀W:au,(binOp .eql 70 (.slice none 0 c) (.slice none 0 0)).run aj W=.ok (.bool true) W:=fun W=>by
    simp only[binOp];simp[run_equal_slice_nil,Tryz.underlying70]
   have FIN:=Lib.hid (show ayK w 0 [] (.returned (.slice none 0 0)) w from⟨none,0,rfl,World.ownsRow_nil _ _ _ _,Below.refl _ _⟩);clear hR EI;go_enter Tryz.func89,Tryz.ntmps89;go_wp2;go_ret;exact FIN.out
def ayL(w:au)(n:Nat)(l:List Vp)(e:kX)(w':au):Prop:=
 ∃A c,e=.returned (.slice A n c)/\w'.ownsRow w.heap.size 98 20 (.slice A n c) n (l.flatMap fun x=>(Vp.aA x).toList)/\aN w.heap.size w w'
theorem afI(l:List Vp)(A:Option aU)(n c:Nat)(w:au)(hR:iO Vp.aA 20 w w.heap.size A n l)(hn:n<=100000):
 aR aj 60 #[.slice A n c] w (ayL w n l):=by
 have EI:=hR.1;cases A with
 | some a=>
   have GH:∀W:au,(binOp .eql 23 (.slice (some a) n c) (.slice none 0 0)).run aj W=.ok (.bool false) W:=fun W=>by
    simp only[binOp];simp[run_equal_slice_nil,Tryz.underlying23]
   obtain⟨i0,oz,mZ,nu,Ar⟩:=aqc;have wX:(bY oD.aA).cells.size=20:=by simp[cu,Vp.ak]
   have O1:=Lib.hid (show(w.alloc (.cells #[] 98)).ownsRow w.heap.size 98 20 (.slice (some ⟨w.heap.size,0,none⟩) 0 0) 0 []from World.ownsRow_lit w #[] 0 (ay _) (by unfold maxLen;omega) rfl);have O2:=Lib.hid (hR.alloc (ay _) (.cells #[] 98)).2.1;have UM:=Lib.hid (show 0+n<=maxLen by unfold maxLen;omega);have UN:=Lib.hid (show(0+n)*i0.bytes<=140737488355328 from aP (Nat.mul_le_mul (show 0+n<=100000 by omega) Ar) (by omega));have O3:=Lib.hid (show w.heap.size<=(w.alloc (.cells #[] 98)).heap.size by simp);have ON:=Lib.hid (ER Vp.aA Vp.cB l);clear hR EI;go_enter Tryz.func60,Tryz.ntmps60;go_wp2_with (at_builtin;refine jI _ rfl (.tmp 5) (.tmp 6) _ rfl w.heap.size 98 i0 (.agg oD.aA) 20 i0.bytes Tryz.underlying23 oz mZ nu rfl wX (Nat.succ_pos _) (.slice (some ⟨w.heap.size,0,none⟩) 0 0) 0 [] rfl O1.out w.heap.size (some a) n c ((l.flatMap fun x=>(Vp.aA x).toList)) rfl O2.out ON.out UM.out UN.out O3.out ?_;intro v1 w1 kJ AA yj);obtain⟨A',c',hv,_,_⟩:=jT kJ;subst hv;simp only[bB,List.nil_append]at kJ;have hb:=um ((Below.refl w.heap.size w).alloc (ay _) (.cells #[] 98)) AA (ay _) O3.out;go_wp2;go_ret;exact⟨A',c',by simp,kJ,hb⟩
 | none=>
   have h0:n=0:=by
    rcases Nat.eq_zero_or_pos n with h0|h0
    ·exact h0
    ·obtain⟨a,ha,_⟩:=hR.2.1.2 h0;cases ha
   subst h0;have hl:l=[]:=List.eq_nil_of_length_eq_zero EI;subst hl;have GH:∀W:au,(binOp .eql 23 (.slice none 0 c) (.slice none 0 0)).run aj W=.ok (.bool true) W:=fun W=>by
    simp only[binOp];simp[run_equal_slice_nil,Tryz.underlying23]
   have FIN:=Lib.hid (show ayL w 0 [] (.returned (.slice none 0 0)) w from⟨none,0,rfl,World.ownsRow_nil _ _ _ _,Below.refl _ _⟩);clear hR EI;go_enter Tryz.func60,Tryz.ntmps60;go_wp2;go_ret;exact FIN.out
theorem avs:(81:bM)<aj.types.size:=of_decide_eq_true (by kernel_rfl)
theorem adh:Maps.Keyed aj 81:=Maps.Keyed.of_law (deep_law_laid aiy (m:=4) (by omega) avs (by kernel_rfl) (by kernel_rfl))
theorem Lg{α β:Type}{f:α->Option β}:∀l:List α,(∀x∈l,∃y,f x=some y)->∃ys,l.mapM f=some ys
 | [],_=>⟨[],rfl⟩
 | x::l,h=>by
   obtain⟨y,hy⟩:=h x (by simp);obtain⟨ys,hys⟩:=Lg l (fun z hz=>h z (by simp[hz]));exact⟨y::ys,by simp[List.mapM_cons,hy,hys]⟩
theorem aio(d:Nat)(z:Int)(h : -9223372036854775808<=z/\z<=9223372036854775807):∃ls,aj.keyLits (d+1) 3 [.int .i64 z]=some ls:=by
 have hw:(Lit.int .i64 z).wf=true:=by simp[Lit.wf,Ke,Kh,lT,nS];omega
 unfold xA;simp only[gQ];rw[if_pos ⟨trivial,hw⟩];exact⟨_,rfl⟩
theorem atS(d:Nat)(b:Bool):∃ls,aj.keyLits (d+1) 4 [.bool b]=some ls:=by
 unfold xA;simp only[Tryz.underlying4];exact⟨_,rfl⟩
theorem aDG(d:Nat)(b:UInt8):∃ls,aj.keyLits (d+1) 5 [bv b]=some ls:=by
 have hb:=b.toNat_lt;have hw:(Lit.int .u8 (b.toNat:Int)).wf=true:=by simp[Lit.wf,Ke,Kh,lT,nS];omega
 unfold xA bv;simp only[Tryz.underlying5];rw[if_pos ⟨trivial,hw⟩];exact⟨_,rfl⟩
theorem ayM(d:Nat)(v:Vector UInt8 16):∃ls,aj.keyLits (d+2) 22 (v.toList.map bv)=some ls:=by
 have hc:aj.cellsOf 22=16:=by kernel_rfl
 have h1:aj.cellsOf 5=1:=by kernel_rfl
 unfold xA;simp only[Tryz.underlying22];rw[if_pos (by rw[hc];simp),h1];obtain⟨ys,hys⟩:=Lg (f:=fun i=>aj.keyLits (d+1) 5 (((v.toList.map bv).drop (i*1)).take 1)) (List.range 16) (fun i hi=>by
  have hi:=eH.1 hi;have e:((v.toList.map bv).drop (i*1)).take 1=[bv v[i]]:=by
   rw[gF,List.drop_eq_getElem_cons (by simpa using hi)];simp
  rw[e];exact aDG d _)
 rw[hys];exact⟨_,rfl⟩
theorem aqd(d:Nat)(a:fu):∃ls,aj.keyLits (d+3) 27 a.aA.toList=some ls:=by
 obtain⟨f1,h1⟩:=atS (d+1) a.j6;obtain⟨f2,h2⟩:=ayM d a.b;have hc:aj.cellsOf 27=17:=by kernel_rfl
 have c1:aj.cellsOf 4=1:=by kernel_rfl
 have c2:aj.cellsOf 22=16:=by kernel_rfl
 have e:a.aA.toList=bQ a.j6::a.b.toList.map bv:=by simp[fu.aA]
 unfold xA;simp only[eZ];rw[if_pos ⟨by rw[hc,e];simp,by simp⟩];obtain⟨ys,hys⟩:=Lg (f:=fun f:nV=>aj.keyLits (d+2) f.type ((a.aA.toList.drop f.offset).take (aj.cellsOf f.type))) (aj.fieldsOf 27).toList (fun f hf=>by
  simp only[jR,eZ]at hf;simp only[bD,fK,or_false]at hf;rcases hf with rfl|rfl
  ·simp only[c1,e];exact⟨f1,h1⟩
  ·simp only[c2,e]
   rw[List.drop_succ_cons,lg,List.take_of_length_le (by simp)];exact⟨f2,h2⟩)
 simp only[jR,eZ]at hys;rw[hys];exact⟨_,rfl⟩
theorem Tu.Yu(t:Tu):t.aA.toList=t.src.aA.toList++(t.dst.aA.toList++[.int .i64 t.aQ,.int .i64 t.kU,.int .i64 t.j4]):=by
 simp[Tu.aA,tuT]
theorem aDH(d:Nat)(t:Tu)(h:Gz t=true):∃ls,aj.keyLits (d+4) 81 t.aA.toList=some ls:=by
 have hh:=h;unfold Gz ZC at hh;simp only[bl,decide_eq_true_eq]at hh;obtain⟨f1,h1⟩:=aqd d t.src;obtain⟨f2,h2⟩:=aqd d t.dst;obtain⟨f3,h3⟩:=aio (d+2) t.aQ (by omega);obtain⟨f4,h4⟩:=aio (d+2) t.kU (by omega);obtain⟨f5,h5⟩:=aio (d+2) t.j4 (by omega);have hc:aj.cellsOf 81=37:=by kernel_rfl
 have c1:aj.cellsOf 27=17:=by kernel_rfl
 have c2:aj.cellsOf 3=1:=by kernel_rfl
 have e:=Tu.Yu t;have l1:t.src.aA.toList.length=17:=by simp[fu.ak]
 have l2:t.dst.aA.toList.length=17:=by simp[fu.ak]
 unfold xA;simp only[jY];rw[if_pos ⟨by rw[hc,e];simp[fu.ak],by simp⟩];obtain⟨ys,hys⟩:=Lg (f:=fun f:nV=>aj.keyLits (d+3) f.type ((t.aA.toList.drop f.offset).take (aj.cellsOf f.type))) (aj.fieldsOf 81).toList (fun f hf=>by
  simp only[jR,jY]at hf;simp only[bD,fK,or_false]at hf;rcases hf with rfl|rfl|rfl|rfl|rfl
  ·simp only[c1,e,lg];rw[Kq l1];exact⟨f1,h1⟩
  ·simp only[c1,e];rw[List.drop_left' l1,Kq l2];exact⟨f2,h2⟩
  ·simp only[c2,e];rw[<-dB,List.drop_left' (by rw[aS,l1,l2])];exact⟨f3,h3⟩
  ·simp only[c2,e];rw[<-dB,show(35:Nat)=(t.src.aA.toList++t.dst.aA.toList).length+1 by rw[aS,l1,l2],List.drop_length_add_append];exact⟨f4,h4⟩
  ·simp only[c2,e];rw[<-dB,show(36:Nat)=(t.src.aA.toList++t.dst.aA.toList).length+2 by rw[aS,l1,l2],List.drop_length_add_append];exact⟨f5,h5⟩)
 simp only[jR,jY]at hys;rw[hys];exact⟨_,rfl⟩
theorem ajR(t:Tu)(h:Gz t=true):∃l,keyOf aj 81 (.agg t.aA)=some l:=by
 obtain⟨d,hd⟩:∃d,aj.types.size+1=d+4:=⟨aj.types.size-3,by have:=avs;have h3:(3:Nat)<aj.types.size:=of_decide_eq_true (by kernel_rfl);omega⟩
 obtain⟨ls,nP⟩:=aDH d t h;have hc:aj.cellsOf 81=37:=by kernel_rfl
 have hk:aj.keyType 81=true:=by kernel_rfl
 have hf:(bY t.aA).formed aj 81=true:=by
  simp[Value.formed,jY,hc,Tu.ak]
 unfold keyOf;simp only[jY];rw[if_pos (by rw[hk,hf];rfl),hd,show(bY t.aA).cells.toList=t.aA.toList from rfl,nP];exact⟨_,rfl⟩
theorem fu.Vo{a b:fu}(h:a.aA=b.aA):a=b:=by
 have h1:=congrArg Array.toList h;simp only[fu.aA,List.cons.injEq,Value.bool.injEq]at h1;cases a;cases b;simp only at h1;obtain⟨rfl,h2⟩:=h1;congr;apply Vector.toList_inj.1;exact(List.map_inj_right (fun x y hxy=>by unfold bv at hxy;injection hxy with _ e;exact UInt8.toNat_inj.1 (by omega))).1 h2
theorem Tu.Vo{a b:Tu}(h:a.aA=b.aA):a=b:=by
 have h1:=Tu.Yu a;rw[h,Tu.Yu b]at h1;obtain⟨e1,h2⟩:=List.append_inj h1 (by simp[fu.ak]);obtain⟨e2,h3⟩:=List.append_inj h2 (by simp[fu.ak]);have g1:=fu.Vo (Ig.1 e1);have g2:=fu.Vo (Ig.1 e2);simp only[List.cons.injEq,Value.int.injEq,true_and,and_true]at h3;cases a;cases b;simp only at g1 g2 h3 ⊢;obtain⟨rfl,rfl,rfl⟩:=h3;rw[g1,g2]
theorem aqe{a b:Tu}{l:Lit}(h1:keyOf aj 81 (.agg a.aA)=some l)(h2:keyOf aj 81 (.agg b.aA)=some l):a=b:=by
 have:=adh.inj h1 h2;injection this with this
 exact Tu.Vo this
def boD:aC->Option (DataW Unit×List MemPlace)
 | .bool b=>some (.lit (.bool b),[])
 | _=>none
theorem ayN{v:aC}{b:Bool}{ps:List MemPlace}(h:boD v=some (.lit (.bool b),ps)):v=.bool b:=by
 unfold boD at h;split at h
 ·simp at h;rw[h.1]
 ·cases h
def LJ(W:au)(M n:Nat)(ks:List Tu):Prop:=
 ∃D:DataW Unit,W.ownsMap aj 81 boD M n D/\Maps.IsMap D/\∀t l,keyOf aj 81 (.agg t.aA)=some l->D.atKey l (.lit (.bool false))=.lit (.bool (decide (t∈ks)))
theorem LJ.new(w:au):LJ (w.alloc (.map #[] 0)) w.heap.size 0 []:=⟨_,World.ownsMap_made w _ _ _,⟨[],rfl⟩,fun t l _=>rfl⟩
theorem LJ.aDI{W W':au}{M n:Nat}{ks:List Tu}(h:LJ W M n ks)(ha:W'.heap[M]? = W.heap[M]?):LJ W' M n ks:=by
 obtain⟨D,⟨es,ck,h1,h2⟩,h3⟩:=h;exact⟨D,⟨es,ck,ha.trans h1,h2⟩,h3⟩
theorem LJ.lt{W:au}{M n:Nat}{ks:List Tu}(h:LJ W M n ks):M<W.heap.size:=by
 obtain⟨D,h1,_⟩:=h;exact h1.lt
theorem LJ.go{W W':au}{M n:Nat}{ks:List Tu}(h:LJ W M n ks)(hb:aN W.heap.size W W'):LJ W' M n ks:=h.aDI (hb.block M h.lt)
theorem amj{w:au}{M n:Nat}{ks:List Tu}(h:LJ w M n ks)(t:Tu)(ht:Gz t=true):
 (Instr.lookup 114 (.map (some M)) (.agg t.aA) false).run aj w=.ok (.bool (decide (t∈ks))) w:=by
 obtain⟨D,h1,h2,h3⟩:=h;obtain⟨l,hl⟩:=ajR t ht;obtain⟨v,ps,qc,hv⟩:=h1.lookup adh Tryz.underlying114 (by kernel_rfl:(zeroValue 4).run aj w=.ok (.bool false) w) (show boD (.bool false)=some (.lit (.bool false),[])from rfl) hl;rw[h3 t l hl]at hv;rw[qc,ayN hv]
theorem Ua{ops:Array iV}{rest:List iV}{o:iV}{a:Act}{Q:Exit->Act->au->Prop}{w:au}(hg:o.guard=none)(m x v:Operand)(IU:o.op=Op.mapUpdate 114 m x v)
 (M n:Nat) (ks:List Tu) (hm:a.eval m=.map (some M)) (Az:LJ w M n ks) (hn:n<=1000000) (t:Tu) (ht:Gz t=true) (hx:a.eval x=.agg t.aA) (hv:a.eval v=.bool true)
 (hK:∀w',LJ w' M (n+1) (t::ks)->w.grownBy w' (some M)->wpList aj ops Q rest (a.put o.dst undef) w'):wpList aj ops Q (o::rest) a w:=by
 obtain⟨D,h1,h2,h3⟩:=Az;obtain⟨l,hl⟩:=ajR t ht;refine wpList_mapUpdate_own w hg m x v _ IU 81 4 adh Tryz.underlying114 boD M n D hm h1 (by unfold maxLen;omega) _ _ l hx hv hl _ [] (show boD (.bool true)=some (.lit (.bool true),[])from rfl) ?_;intro w' k1 k2;refine hK w' ⟨_,k1,h2.put _ _,fun u m hu=>?_⟩ k2;by_cases e:u=t
 ·subst e
  rw[hl]at hu;injection hu with hu
  subst hu;rw[Maps.atKey_put_same h2 (adh.key hl)];simp
 ·rw[Maps.atKey_put_other (fun h=>e (aqe hu (by rw[h];exact hl))),h3 u m hu]
  simp[e]
end Go.Proofs.YtkjojjopamaoiaaGreat
