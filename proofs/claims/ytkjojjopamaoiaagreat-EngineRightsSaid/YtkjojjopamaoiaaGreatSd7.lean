/- Parts. -/
import Derived.Test.YtkjojjopamaoiaaGreatSd6
set_option linter.all false
set_option maxRecDepth 100000
set_option maxHeartbeats 8000000
open Array renaming getElem?_append->aD,getElem?_eq_some_iff->bW,replicate_succ->gH,replicate_zero->gI,mapM->iF,append_assoc->gD,setIfInBounds_append->aM,extract_append->dD,getElem?_extract->dA,ext_getElem?->dZ,replicate->nQ,getElem?_eq_none->aU,range->mF,toList_inj->Ah,size->Array.j,toList->Array.a,getD->Array.b,setIfInBounds->Array.c,extract->Array.m
open Bool renaming and_eq_true->bf,not_eq_true'->nI,true_and->xS,false_and->Ef,eq_iff_iff->bF,false_eq_true->iV,not_false->nO,not_true->sQ
open ByteArray renaming size->ByteArray.j,toList->ByteArray.a,extract->ByteArray.m
open Exists renaming intro->sw
open Go renaming World->ak,TypeId->bE,Value->aB,Ending->lU,Calls->aP,bodyPost_ret->aN,wpQuiet_nil->eG,Addr->aT,run_underlying->dJ,callsIn_wide->nJ,TypeInfo->nW,Oper->iM,Field->oh,run_equal_slice_nil->je,info_parts->zO,wpS_seq->Jb,wpS_region->Df,DataW->vR,MemPlace->oZ,wpAnyH_take->pY
open Go.Act renaming put->lM
open Go.BoundsCode renaming toNat->Go.BoundsCode.g
open Go.Calls renaming mono->Go.Calls.e
open Go.CallsD renaming mono->Go.CallsD.e
open Go.CallsIn renaming mono->Go.CallsIn.e
open Go.DataW renaming trod->kY,trod_struct->om,agg->Go.DataW.d
open Go.Ending renaming returned->Go.Ending.a
open Go.Exit renaming thenS->wm
open Go.Field renaming name->Go.Field.E,offset->Go.Field.X
open Go.FrameMode renaming run->Go.FrameMode.G
open Go.Instr renaming loadAt->cK,fill->fD,buildSlice->bM,storeAt->eU,build->fQ,typeAssert->Ij,slice->Go.Instr.a,extract->Go.Instr.m
open Go.IntKind renaming i64->bU,u16->Eh,wrap->vS,bits->nZ,signed->mq,u64->gB,wrap_u64->jh,min->Kh,max->Ki,i64->Go.IntKind.a
open Go.Lib renaming hid->ab
open Go.Lit renaming int->Go.Lit.b,bool->Go.Lit.e,string->Go.Lit.g
open Go.Obj renaming cells->eO,cells->Go.Obj.D
open Go.Op renaming slice->Go.Op.a,extract->Go.Op.m
open Go.Oper renaming dst->Go.Oper.S
open Go.Operand renaming tmp->Go.Operand.a
open Go.Program renaming cellsOf->Aq,keyLits->xq,fieldsOf->jX,cellsOf->Go.Program.a
open Go.Proofs.Tryz renaming prog->ah,underlying29->nK,underlying3->gV,underlying69->lV,underlying155->Ep,underlying72->Gf,underlying123->Er,underlying22->qH,underlying376->Es,underlying56->cO,underlying58->kS,ntmps134->AJ,underlying86->lW,func25->Mq,ntmps25->Jc,underlying70->oH,underlying23->Gh,underlying27->fB,underlying81->jI,underlying37->oG,underlying35->Gc
open Go.Result renaming andThen->iK,andThen_ok->gQ,ok->Go.Result.Y
open Go.ResultVar renaming tmp->Go.ResultVar.a
open Go.RowKit renaming Below->aL
open Go.RowKit.Below renaming refl->aG,size->Go.RowKit.Below.j,mono->Go.RowKit.Below.e
open Go.RowKit.Hid renaming out->Go.RowKit.Hid.i
open Go.Sem renaming run_bind->jP,run_pure->oJ,run->Go.Sem.G
open Go.Shut renaming out->Go.Shut.i
open Go.Tables renaming info?->Go.Tables.l
open Go.TypeDesc renaming slice->Go.TypeDesc.a,int->Go.TypeDesc.b,bool->Go.TypeDesc.e
open Go.TypeInfo renaming size->Go.TypeInfo.j
open Go.Value renaming int->aI,cells->cZ,slice->bC,ownBlock->jy,oneCell'->dx,agg->cB,string->jk,pointer->sO,bool->bT,okWide->I5,cells->Go.Value.D,slice->Go.Value.a,int->Go.Value.b,pointer->Go.Value.c,agg->Go.Value.d,bool->Go.Value.e,tuple->Go.Value.I,ownBlock->Go.Value.f,oneCell'->Go.Value.h,string->Go.Value.g
open Go.World renaming size_alloc->tQ,ownsRow_nil->fu,setCell->iq,ownsRow_lit->nC,heap->Go.World.a,cell?->Go.World.b,setCell->Go.World.F,ownsRow->Go.World.c,there->Go.World.K,grownBy->Go.World.d
open Go.World.grownBy renaming refl->dQ
open Int renaming toNat_natCast->dU,toNat_of_nonneg->lS,toNat->Int.g
open List renaming mem_singleton->fV,length_cons->bD,length_set->aV,mem_cons_of_mem->j5,findIdx?_eq_some_iff_getElem->gZ,getD_eq_getElem?_getD->au,getElem?_eq_getElem->aC,findIdx?_eq_none_iff->wS,mem_cons->bB,not_mem_nil->fU,any_eq_false->nH,any_eq_true->nY,getElem_mem->fG,length_take->bH,flatMap_append->xk,getElem?_eq_none->aS,set_cons_succ->bK,set_cons_zero->bR,take_succ_cons->jA,take_zero->j6,setIfInBounds_toArray->bL,drop_succ_cons->jU,drop_zero->lH,all_eq_true->fM,mem_range->dV,filter_congr->Gd,mem_filter->mK,size_toArray->dL,length_nil->gP,push_toArray->iT,append_toArray->gU,nil_append->dH,cons_append->gW,length_filter_le->pG,map_append->iY,map_cons->kR,map_nil->oD,length_append->aR,take_succ_eq_append_getElem->dF,take_of_length_le->aJ,replicate->dY,length_map->bV,mem_map->iZ,mem_cons_self->mH,flatMap_cons->jl,getElem?_toArray->dW,drop_take->rQ,eq_nil_of_length_eq_zero->bG,range->bY,take_left'->Kr,append_assoc->cu,drop_of_length_le->gq,length->List.a,getD->List.b,toArray->List.c,take->List.d,drop->List.f,flatMap->List.h,below->List.M,extract->List.m
open List.Perm renaming length_eq->List.Perm.t
open Nat renaming mod_lt->fE,zero_add->bl,le_of_eq->aX,mul_le_mul_right->dz,le_refl->av,lt_succ_self->mV,lt_or_ge->aZ,ne_of_lt->jQ,mul_one->gL,reduceAdd->kT,reduceSub->kU,le_trans->aO,mul_le_mul->gY,zero_le->jf,add_zero->mW,add_sub_cancel_left->kP,min->qI,succ_pos->mY,eq_zero_or_pos->eu,lt_of_lt_of_le->eF
open Ne renaming symm->jB
open Option renaming getD->Option.b
open Or renaming inl->Di,inl->Or.a,inr->Or.b
open UInt8 renaming toNat->UInt8.g
open Vector renaming replicate->bJ,length_toList->nV,toList->Vector.a
namespace Go.Proofs.YtkjojjopamaoiaaGreat
open Go.RowKit
section
variable {W W':ak} {q g:Nat} {key:Vector UInt8 16} {dS:Int} {s:List (Option Fw)} {l:List Fw}
theorem TbR.Ez{hm:Tu->Nat}(h:TbR hm s l)(ho:wP dS l){f x:Fw}{d:Nat}(hd:Found hm Fw.key s f.key d)(hf:qv l f.key=some x)(hl:l.a<s.a)(m:List Fw)(hm':m.Perm (f::yX l f.key)):TbR hm (s.set ((hm f.key+d)%s.a) (some f)) m:=by
 have hN:0<s.a:=by omega
 have hj:(hm f.key+d)%s.a<s.a:=fE _ hN;have hst:=h.stop ho hd;have hel:=h.Qx.t;rw[hf]at hst;obtain⟨h1,h2⟩:=xP hf;obtain⟨z,hz1,hz2⟩:=(ME s).1 (by omega);refine⟨h.tab.put hd hz1 hz2 (fun e=>by rw[e,hst]at hz2;cases hz2),?_⟩;have e1:=zH s _ f hj;have e2:=Qv s _ x hj hst;have e3:=Wo ho h1 (h.Qx.symm.trans e2);rw[h2]at e3;exact e1.trans ((e3.cons f).trans hm'.symm)
theorem PN{fn:Func}{p u v:Tmp}{ty:bE}(h:fn.results = #[.cell p ty,.a u,.a v])(tmps:Array aB)(P:Program)(w:ak):
 (results fn tmps).G P w=((asAddr (tmps.b p undef)).G P w).andThen fun a w₁=>((loadVar ty a).G P w₁).andThen fun x w₂=>.Y (.I #[x,tmps.b u undef,tmps.b v undef]) w₂:=by
 simp only[results,h];simp[jP,iK]
theorem pK.arx{T:bE}{n:Nat}{z:Array aB}{fn:Func}{p u v b:Nat}{W:ak}{c:Array aB}(K:pK T n z)(h:fn.results = #[.cell p T,.a u,.a v])(tmps:Array aB)(hp:tmps.b p undef=.c (some ⟨b,0,none⟩))(hb:dM W b c)(hc:c.j=n):(results fn tmps).G ah W = .Y (.I #[.d c,tmps.b u undef,tmps.b v undef]) W:=by
 obtain⟨_,_,h3,h4⟩:=hb.J;have hl:=K.ld W b 0 (by rw[h3 0 n (by unfold eB;omega)];trivial);rw[h4 0 n (by unfold eB;omega),bl,<-hc,Array.extract_size]at hl;unfold yY at hl;simp only[cK,Instr.sureAddr,jP,oJ,gQ]at hl;rw[PN h,hp];simp[asAddr,iK,hl]
def akD(dS:Int)(l:List Fw)(f:Fw):aB:=
 if AY f then(if(qv l f.key).isNone&&decide (dS<=l.a)then .I #[.d (l.head?.b jw).ay,.e true,.b .a 0]else .I #[.d jw.ay,.e false,.b .a 0])else .I #[.d jw.ay,.e false,.b .a 1]
def ag5(W:ak)(q g:Nat)(key:Vector UInt8 16)(dS:Int)(s:List (Option Fw))(l:List Fw)(f:Fw)(e:lU)(w':ak):Prop:=
 e=.a (akD dS l f)/\(∃s',Ls w' q g key dS s' (Ez dS l f)/\s'.a=s.a)/\jM [q,g] W w'
theorem aai(T:Ls W q g key dS s l)(h1:1<=dS)(h2:dS*2<=s.a)(f:Fw)(hfn:f.E.a<=1000000):
 aP ah 63 #[.c (some ⟨q,0,none⟩),.d f.ay] W (ag5 W q g key dS s l f):=by
 have Z0:=ab (((Bx.start W).new f.ay 86).new jw.ay 86);rw[show(W.alloc (.D f.ay 86)).a.j=W.a.j+1 by simp]at Z0;have CR:=ab (fun w=>Ma f w (by omega));have HT:=ab T;have HLT:=ab T.w.lt;obtain⟨ok,hok⟩:=bZ (AY f);rw[<-hok]at CR;have Dt:=ab hok;clear hok T;go_enter Tryz.func63,Tryz.ntmps63;go_upto_region 1 with fail
 generalize(W.alloc (.D f.ay 86)).alloc (.D jw.ay 86)=w1 at Z0 ⊢;have l1:=kE Z0.i.b1;cases ok
 ·go_wp2_with (go_at_call 48;(with_reducible refine(CR.i _).e ?_);rintro e w2 ⟨rfl,hb⟩;have Z2:=ab (Z0.i.go hb);clear hb l1;have yZ:=Z2.i.R.K 0 41 (aX (Fw.r _).symm))
  have k2:=Z2.i.put (fun p hp=>by rw[fV.1 hp];simp) jw.ay rfl;refine aN (kFw.arx rfl _ rfl (show dM (AO w2 (W.a.j+1) 0 jw) (W.a.j+1) jw.ay from k2.R) (Fw.r _)) rfl ?_;refine⟨by unfold akD;rw[if_neg (by rw[<-Dt.i];simp)];rfl,⟨s,?_,rfl⟩,jM.jD k2.O⟩;unfold Ez;rw[if_neg (by rw[<-Dt.i];simp)];exact HT.i.go k2.O
 ·have hkn:uf f.key:=BH (wW Dt.i.symm)
  have CG:=ab (fun(w:ak) (T:Ls w q g key dS s l)=>La T f.key);obtain⟨o,ho⟩:=bZ (qv l f.key);rw[<-ho]at CG;have HO:=ab ho.symm;have hcg:∀o,anW o = .I #[.d (wH o).rH.ay,.e o.isSome]:=fun _=>rfl
  simp only[hcg]at CG;clear ho hcg;have hcnt:(iA s).a=l.a:=HT.i.r.Qx.t;have hsz:=HT.i.w.sz;obtain⟨n,hn⟩:=bZ l.a;have HNL:=ab hn;have HF:=ab (fun(w':ak) (T:Ls w' q g key dS s l)=>show w'.b ⟨q,17,none⟩=some (.b .a n)/\w'.b ⟨q,16,none⟩=some (.b .a dS)from⟨by rw[T.w.J.2.1,T.r.Qx.t,hn],T.w.J.2.2.1⟩);clear hcnt hn;go_upto_region 6 with(first|(go_at_call 48;(with_reducible refine(CR.i _).e ?_);rintro e w2 ⟨rfl,hb⟩;have HW3:=ab (show W.a.j+1<w2.a.j from(Z0.i.go hb).R.lt);have Z2:=ab ((Z0.i.go hb).new jw.ay 86);clear hb l1;have l2:=pO Z2.i.b2)|(go_at_call 126;(with_reducible refine(CG.i _ (HT.i.go Z2.i.O)).e ?_);rintro e w3 ⟨rfl,hb⟩;have Z3:=ab ((Z2.i.go hb).new (wH o).rH.ay 86);clear hb l2))
  have TA:=ab (HT.i.go Z3.i.O);obtain⟨f17,f16⟩:=HF.i _ TA.i;cases o with
  | some x=>
    go_wp2_with fail;go_quiet (fail);have T1:=ab (show Ls ((w3.alloc (.D (wH (some x)).rH.ay 86)).drewN nq) q g key dS s l from⟨TA.i.w.drewN nq,TA.i.r,TA.i.Y⟩);have XF:=ab (Z3.i.b3.drewN nq);have XR:=ab (Z3.i.b2.drewN nq);have XY:=ab (Z3.i.b1.drewN nq);have FR:=ab (jM.jD (F:=[q,g]) (eH Z3.i.O nq));have HF1:=ab HO.i;generalize(w3.alloc (.D (wH (some x)).rH.ay 86)).drewN nq=wA at T1 XF XR XY FR ⊢;clear f17 f16;go_wp2_with fail;obtain⟨d,hd,hat⟩:=T1.i.Wn f.key;rw[HF1.i]at hat;have hsz1:=T1.i.w.sz;obtain⟨j,hj⟩:=bZ ((hmK key s.a f.key+d)%s.a);have hjl:j<s.a:=by rw[hj];exact fE _ (by omega)
    have CF:=ab (fun(w:ak) (T:Gl w q g key dS s)=>C8 T f.key hkn d hd);rw[<-hj]at CF hat;have HD:=ab hd;have HJ:=ab hj;have HAT:=ab hat;obtain⟨N,hN⟩:=bZ s.a;have HN:=ab hN;have hji:(j:Int)<N:=by omega
    have HJL:=ab hjl;clear hd hj hat hN hjl hsz1;obtain⟨T,ff,n0,E0,es,ew⟩:=uD (wA);have hT:Nonempty T:=⟨n0⟩
    have ES:=ab es;have EW:=ab ew;have l18:∀m,(ff m).b ⟨q,18,none⟩=some (.a (some ⟨g,0,none⟩) N N):=fun m=>by rw[HN.i];exact(T1.i.w.go (es m)).J.1
    have lk:=fun m=>pO (XF.i.go (es m))
    have CG2:=ab (fun m=>CF.i _ (T1.i.w.go (es m)));clear es ew;refine lQ ff (by kernel_rfl) (by kernel_rfl) n0 E0 ?_
    repeat(go_big_quiet_step ((first|(go_at_call 129;(with_reducible refine(CG2.i _).e ?_);rintro e w2 ⟨rfl,hb⟩;exact⟨rfl,EW.i _ ((ES.i _).trans (hb.e (ES.i _).j))⟩))))
    refine eG ?_;rintro _ ⟨m',rfl⟩;have HB:=ab (ES.i m');generalize ff m'=wN at *;clear ES EW E0 hT n0;clear l18 lk;have T2:=ab (T1.i.go HB.i);have F2:=ab (XF.i.go HB.i);have R2:=ab (XR.i.go HB.i);have Y2:=ab (XY.i.go HB.i);have FR2:=ab (FR.i.M HB.i FR.i.j);obtain⟨a1,_,_,_,a5,_,_⟩:=T2.i.w.Xd HJL.i;rw[HAT.i]at a1
    replace a1:wN.b ⟨g,j*42,none⟩=some (.e true):=a1
    have lf:=kE F2.i;have thj:=T2.i.w.sl.K (j*42) 42 (by rw[vE];have:=dz 42 (show j+1<=s.a from HJL.i);omega);have ZW:=ab (show q≠W.a.j+1/\g≠W.a.j+1/\g≠w2.a.j/\w2.a.j≠W.a.j+1 from⟨by have:=HLT.i;omega,by have:=HLT.i;omega,by have:=HLT.i;have:=HW3.i;omega,by have:=HW3.i;omega⟩);have Y3:=ab (Y2.i.gK (o:=j*42) (x:=(Sl.mk true f).ay) (jB ZW.i.2.2.1));have R3:=ab (R2.i.gK (o:=j*42) (x:=(Sl.mk true f).ay) (jB ZW.i.2.1));have ly:=kE Y3.i;have yZ:=R3.i.K 0 41 (aX (Fw.r _).symm);clear a5;go_wp2;refine aN (kFw.arx rfl _ rfl (R3.i.put jw.ay rfl) (Fw.r _)) rfl ?_;have hpf:Ez dS l f=ins kG f (yX l f.key):=by unfold Ez;rw[if_pos Dt.i.symm,if_pos (by rw[HO.i];rfl)]
    have e1:=Ld s j x HJL.i HAT.i;have e2:=zH s j f HJL.i;have hW:=T2.i.w.aiv HJL.i (some f) (iA s).a (by rw[e2.t,e1.t,bD,bD]) rfl;have hR:=T2.i.r.Ez T2.i.Y HD.i HO.i (by have:=T2.i.Y.len;omega) (ins kG f (yX l f.key)) (Cj _ _);rw[<-HJ.i]at hR;refine⟨by unfold akD;rw[if_pos Dt.i.symm,HO.i];rfl,⟨s.set j (some f),⟨⟨hW.h.gK ZW.i.1,hW.sl.gK ZW.i.2.1,hW.ne,hW.sz⟩,?_,T2.i.Y.put h1 f⟩,by rw[aV]⟩,?_⟩
    ·rw[aV,hpf];exact hR
    ·refine jM.grown ?_ (mo (dQ _ (some (W.a.j+1))) 0 jw.ay) (fun k e=>.b (by injection e with e;omega))
     exact jM.grown FR2.i (mo (dQ _ (some g)) (j*42) (Sl.mk true f).ay) (fun k e=>.a (by injection e with e;simp[e]))
  | none=>
   by_cases hfull:dS<=(n:Int)
   ·have t1:decide ((n:Int)>=dS)=true:=by simp;omega
    have t2:decide (dS<=(n:Int))=true:=by simp;omega
    obtain⟨x0,tl,hl0⟩:∃x0 tl,l=x0::tl:=by
     have:=HNL.i;cases l with
     | nil=>simp at this;omega
     | cons x t=>exact⟨x,t,rfl⟩
    have hhd:l.head?.b jw=x0:=by rw[hl0];rfl
    have hct:yX l x0.key=tl:=by have:=HT.i.Y;rw[hl0]at this⊢;exact amY this
    have CO:=ab (fun w (T:Ls w q g key dS s l)=>ab7 w T);rw[hhd]at CO;have CD:=ab (fun w (T:Ls w q g key dS s l)=>Xu T x0.key);rw[hct]at CD;have hfl:dS<=(l.a:Int):=by rw[<-HNL.i];exact hfull
    have HPF:=ab (show Ez dS l f=ins kG f tl by unfold Ez;rw[if_pos Dt.i.symm,if_neg (by rw[HO.i];simp),if_pos hfl,hl0];rfl);have HPC:=ab (show akD dS l f = .I #[.d x0.ay,.e true,.b .a 0]by unfold akD;rw[if_pos Dt.i.symm,HO.i,if_pos (by simpa using hfl),hhd]);have HFT:=ab (show qv tl f.key=none by
     unfold qv;rw[List.find?_eq_none];intro z hz;have:=BD HO.i z (by rw[hl0];exact j5 _ hz);simp[tq,this])
    have HPT:=ab (show Ez dS tl f=ins kG f tl by
     unfold Ez;rw[if_pos Dt.i.symm,if_neg (by rw[HFT.i];simp),if_neg (by have:=HT.i.Y.len;rw[hl0,bD]at this;omega)])
    have HBD:=ab (show((tl.a:Nat):Int)+1<=dS by have:=HT.i.Y.len;rw[hl0,bD]at this;omega);clear hfull hl0 hhd hct hfl;go_wp2_with fail;go_quiet (fail);have TB:=ab (show Ls ((w3.alloc (.D (wH none).rH.ay 86)).drewN nq) q g key dS s l from⟨TA.i.w.drewN nq,TA.i.r,TA.i.Y⟩);have XF0:=ab (Z3.i.b3.drewN nq);have XR0:=ab (Z3.i.b2.drewN nq);have XY0:=ab (Z3.i.b1.drewN nq);have FR0:=ab (jM.jD (F:=[q,g]) (eH Z3.i.O nq));generalize(w3.alloc (.D (wH none).rH.ay 86)).drewN nq=wB at TB XF0 XR0 XY0 FR0 ⊢;clear f17 f16;have HQK:=ab (show w2.a.j≠q/\w2.a.j≠g/\w2.a.j≠W.a.j/\w2.a.j≠W.a.j+1/\W.a.j≠q/\W.a.j≠g/\W.a.j+1≠q/\W.a.j+1≠g by have:=HLT.i;have:=HW3.i;omega);go_upto_region 9 with(first
     | (go_at_call 127;(with_reducible refine(CO.i _ TB.i).e ?_);rintro e w4 ⟨rfl,hb4⟩;have Y4:=ab (XY0.i.go hb4);have th4:=Y4.i.K 0 41 (aX (Fw.r _).symm);have T5:=ab (show Ls (AO w4 w2.a.j 0 x0) q g key dS s l from⟨⟨(TB.i.w.go hb4).h.gK (jB HQK.i.1),(TB.i.w.go hb4).sl.gK (jB HQK.i.2.1),TB.i.w.ne,TB.i.w.sz⟩,TB.i.r,TB.i.Y⟩);have Y5:=ab (show dM (AO w4 w2.a.j 0 x0) w2.a.j x0.ay from Y4.i.put x0.ay (by rw[Fw.r,Fw.r]));have F5:=ab (show dM (AO w4 w2.a.j 0 x0) W.a.j f.ay from(XF0.i.go hb4).gK (b2:=w2.a.j) (o:=0) (x:=x0.ay) (jB HQK.i.2.2.1));have R5:=ab (show dM (AO w4 w2.a.j 0 x0) (W.a.j+1) jw.ay from(XR0.i.go hb4).gK (b2:=w2.a.j) (o:=0) (x:=x0.ay) (jB HQK.i.2.2.2.1));have lk5:=pO Y5.i;have FR5:=ab (show jM [q,g] W (AO w4 w2.a.j 0 x0)from(FR0.i.M hb4 FR0.i.j).grown (mo (dQ w4 (some w2.a.j)) 0 x0.ay) (fun k e=>.b (by injection e with e;have:=HW3.i;omega)));clear hb4)
     | (go_at_call 128;(with_reducible refine(CD.i _ T5.i).e ?_);rintro e wA ⟨rfl,⟨s',T6,hs6⟩,F6⟩;have T1:=ab T6;have HS6:=ab hs6;have XF:=ab (F6.box F5.i (by have:=HQK.i;simp;omega));have XR:=ab (F6.box R5.i (by have:=HQK.i;simp;omega));have XY:=ab (F6.box Y5.i (by have:=HQK.i;simp;omega));have FR:=ab (FR5.i.qA F6);clear lk5 th4 T6 hs6 F6))
    have HF1:=ab HFT.i;obtain⟨n',hn'⟩:=bZ tl.a;have HNP:=ab hn';clear hn';obtain⟨d,hd,hat⟩:=T1.i.Wn f.key;rw[HF1.i]at hat;have hsz1:=T1.i.w.sz;obtain⟨j,hj⟩:=bZ ((hmK key s'.a f.key+d)%s'.a);have hjl:j<s'.a:=by rw[hj];exact fE _ (by omega)
    have CF:=ab (fun(w:ak) (T:Gl w q g key dS s')=>C8 T f.key hkn d hd);rw[<-hj]at CF hat;have HD:=ab hd;have HJ:=ab hj;have HAT:=ab hat;obtain⟨N,hN⟩:=bZ s'.a;have HN:=ab hN;have hji:(j:Int)<N:=by omega
    have HJL:=ab hjl;clear hd hj hat hN hjl hsz1;obtain⟨T,ff,n0,E0,es,ew⟩:=uD (wA);have hT:Nonempty T:=⟨n0⟩
    have ES:=ab es;have EW:=ab ew;have l18:∀m,(ff m).b ⟨q,18,none⟩=some (.a (some ⟨g,0,none⟩) N N):=fun m=>by rw[HN.i];exact(T1.i.w.go (es m)).J.1
    have lk:=fun m=>pO (XF.i.go (es m))
    have CG2:=ab (fun m=>CF.i _ (T1.i.w.go (es m)));clear es ew;refine lQ ff (by kernel_rfl) (by kernel_rfl) n0 E0 ?_
    repeat(go_big_quiet_step ((first|(go_at_call 129;(with_reducible refine(CG2.i _).e ?_);rintro e w2 ⟨rfl,hb⟩;exact⟨rfl,EW.i _ ((ES.i _).trans (hb.e (ES.i _).j))⟩))))
    refine eG ?_;rintro _ ⟨m',rfl⟩;have HB:=ab (ES.i m');generalize ff m'=wN at *;clear ES EW E0 hT n0;clear l18 lk;have T2:=ab (T1.i.go HB.i);have F2:=ab (XF.i.go HB.i);have R2:=ab (XR.i.go HB.i);have Y2:=ab (XY.i.go HB.i);have FR2:=ab (FR.i.M HB.i FR.i.j);obtain⟨a1,_,_,_,a5,_,_⟩:=T2.i.w.Xd HJL.i;rw[HAT.i]at a1
    replace a1:wN.b ⟨g,j*42,none⟩=some (.e false):=a1
    have c17:wN.b ⟨q,17,none⟩=some (.b .a n'):=by rw[T2.i.w.J.2.1,T2.i.r.Qx.t,HNP.i]
    have g17:=T2.i.w.J.2.2.2.1 17;obtain⟨n1,hn1⟩:=bZ (n'+1);have e5:(n':Int)+1=(n1:Int):=by omega
    have hnb:=T2.i.Y.len;have hnl:=HNP.i;have i5:=jW (n1:Int) (by omega);have HN1:=ab hn1;have F3:=ab (F2.i.dP ⟨q,17,none⟩ (.b .a n1) (by have:=HLT.i;show q≠W.a.j;omega));have lf:=kE F3.i;have SL:=ab (T2.i.w.sl.dP ⟨q,17,none⟩ (.b .a n1) T2.i.w.ne);have thj:=SL.i.K (j*42) 42 (by rw[vE];have:=dz 42 (show j+1<=s'.a from HJL.i);omega);have ZW:=ab (show q≠W.a.j+1/\g≠W.a.j+1/\g≠w2.a.j/\w2.a.j≠W.a.j+1/\q≠w2.a.j from⟨by have:=HLT.i;omega,by have:=HLT.i;omega,by have:=HLT.i;have:=HW3.i;omega,by have:=HW3.i;omega,by have:=HLT.i;have:=HW3.i;omega⟩);have Y3:=ab ((Y2.i.dP ⟨q,17,none⟩ (.b .a n1) ZW.i.2.2.2.2).gK (o:=j*42) (x:=(Sl.mk true f).ay) (jB ZW.i.2.2.1));have R3:=ab ((R2.i.dP ⟨q,17,none⟩ (.b .a n1) ZW.i.1).gK (o:=j*42) (x:=(Sl.mk true f).ay) (jB ZW.i.2.1));have ly:=kE Y3.i;have yZ:=R3.i.K 0 41 (aX (Fw.r _).symm);clear a5 hn1 hnb hnl;go_wp2;refine aN (kFw.arx rfl _ rfl (R3.i.put x0.ay (by rw[Fw.r,Fw.r])) (Fw.r _)) rfl ?_;have hnl:=HNP.i;have hhs:=HS6.i;have hbd:=HBD.i;have hpf:Ez dS l f=ins kG f tl:=HPF.i;have hcu:=Xr HF1.i;have e2:=MC s' j f HJL.i HAT.i;have hel:(iA (s'.set j (some f))).a=n1:=by rw[e2.t,bD,T2.i.r.Qx.t,HN1.i,hnl]
    have hR:=T2.i.r.put T2.i.Y HD.i (by omega) (ins kG f tl) (by rw[hcu];exact Cj _ _);rw[<-HJ.i]at hR;have hT1:dM (wN.F ⟨q,17,none⟩ (.b .a n1)) q (Tk.mk key dS (iA (s'.set j (some f))).a (some ⟨g,0,none⟩) s'.a s'.a).ay:=by
     have:=T2.i.w.h.eX 17 (.b .a n1);rw[Tk.Rt]at this;rw[hel];exact this
    have hT2:dM (gX (wN.F ⟨q,17,none⟩ (.b .a n1)) g (j*42) (Sl.mk true f).ay) g (Xb (s'.set j (some f))):=by
     have h5:=SL.i.setCells (j*42) (Sl.mk true f).ay.a;rw[<-UO s' j (some f) HJL.i];simpa[gX,slC,wH]using h5
    refine⟨by rw[HPC.i];rfl,⟨s'.set j (some f),⟨⟨?_,hT2.gK ZW.i.2.1,T2.i.w.ne,by rw[aV];exact T2.i.w.sz⟩,?_,by rw[hpf,<-HPT.i];exact T2.i.Y.put h1 f⟩,by rw[aV,HS6.i]⟩,?_⟩
    ·rw[aV];exact(hT1.gK T2.i.w.ne).gK ZW.i.1
    ·rw[aV,hpf];exact hR
    ·refine jM.grown ?_ (mo (dQ _ (some (W.a.j+1))) 0 x0.ay) (fun k e=>.b (by injection e with e;omega))
     refine jM.grown ?_ (mo (dQ _ (some g)) (j*42) (Sl.mk true f).ay) (fun k e=>.a (by injection e with e;simp[e]));exact FR2.i.set ⟨q,17,none⟩ (.b .a n1) (.a (by simp))
   ·have t1:decide ((n:Int)>=dS)=false:=by simp;omega
    have t2:decide (dS<=(n:Int))=false:=by simp;omega
    have aAa:=ab hfull;clear hfull;go_wp2_with fail;go_quiet (fail);have T1:=ab (show Ls ((w3.alloc (.D (wH none).rH.ay 86)).drewN nq) q g key dS s l from⟨TA.i.w.drewN nq,TA.i.r,TA.i.Y⟩);have XF:=ab (Z3.i.b3.drewN nq);have XR:=ab (Z3.i.b2.drewN nq);have XY:=ab (Z3.i.b1.drewN nq);have FR:=ab (jM.jD (F:=[q,g]) (eH Z3.i.O nq));have HF1:=ab HO.i;generalize(w3.alloc (.D (wH none).rH.ay 86)).drewN nq=wA at T1 XF XR XY FR ⊢;clear f17 f16;go_wp2_with fail;obtain⟨d,hd,hat⟩:=T1.i.Wn f.key;rw[HF1.i]at hat;have hsz1:=T1.i.w.sz;obtain⟨j,hj⟩:=bZ ((hmK key s.a f.key+d)%s.a);have hjl:j<s.a:=by rw[hj];exact fE _ (by omega)
    have CF:=ab (fun(w:ak) (T:Gl w q g key dS s)=>C8 T f.key hkn d hd);rw[<-hj]at CF hat;have HD:=ab hd;have HJ:=ab hj;have HAT:=ab hat;obtain⟨N,hN⟩:=bZ s.a;have HN:=ab hN;have hji:(j:Int)<N:=by omega
    have HJL:=ab hjl;clear hd hj hat hN hjl hsz1;obtain⟨T,ff,n0,E0,es,ew⟩:=uD (wA);have hT:Nonempty T:=⟨n0⟩
    have ES:=ab es;have EW:=ab ew;have l18:∀m,(ff m).b ⟨q,18,none⟩=some (.a (some ⟨g,0,none⟩) N N):=fun m=>by rw[HN.i];exact(T1.i.w.go (es m)).J.1
    have lk:=fun m=>pO (XF.i.go (es m))
    have CG2:=ab (fun m=>CF.i _ (T1.i.w.go (es m)));clear es ew;refine lQ ff (by kernel_rfl) (by kernel_rfl) n0 E0 ?_
    repeat(go_big_quiet_step ((first|(go_at_call 129;(with_reducible refine(CG2.i _).e ?_);rintro e w2 ⟨rfl,hb⟩;exact⟨rfl,EW.i _ ((ES.i _).trans (hb.e (ES.i _).j))⟩))))
    refine eG ?_;rintro _ ⟨m',rfl⟩;have HB:=ab (ES.i m');generalize ff m'=wN at *;clear ES EW E0 hT n0;clear l18 lk;have T2:=ab (T1.i.go HB.i);have F2:=ab (XF.i.go HB.i);have R2:=ab (XR.i.go HB.i);have Y2:=ab (XY.i.go HB.i);have FR2:=ab (FR.i.M HB.i FR.i.j);obtain⟨a1,_,_,_,a5,_,_⟩:=T2.i.w.Xd HJL.i;rw[HAT.i]at a1
    replace a1:wN.b ⟨g,j*42,none⟩=some (.e false):=a1
    have c17:=(HF.i _ T2.i).1;have g17:=T2.i.w.J.2.2.2.1 17;obtain⟨n1,hn1⟩:=bZ (n+1);have e5:(n:Int)+1=(n1:Int):=by omega
    have hnb:=T2.i.Y.len;have hnl:=HNL.i;have i5:=jW (n1:Int) (by omega);have HN1:=ab hn1;have F3:=ab (F2.i.dP ⟨q,17,none⟩ (.b .a n1) (by have:=HLT.i;show q≠W.a.j;omega));have lf:=kE F3.i;have SL:=ab (T2.i.w.sl.dP ⟨q,17,none⟩ (.b .a n1) T2.i.w.ne);have thj:=SL.i.K (j*42) 42 (by rw[vE];have:=dz 42 (show j+1<=s.a from HJL.i);omega);have ZW:=ab (show q≠W.a.j+1/\g≠W.a.j+1/\g≠w2.a.j/\w2.a.j≠W.a.j+1/\q≠w2.a.j from⟨by have:=HLT.i;omega,by have:=HLT.i;omega,by have:=HLT.i;have:=HW3.i;omega,by have:=HW3.i;omega,by have:=HLT.i;have:=HW3.i;omega⟩);have Y3:=ab ((Y2.i.dP ⟨q,17,none⟩ (.b .a n1) ZW.i.2.2.2.2).gK (o:=j*42) (x:=(Sl.mk true f).ay) (jB ZW.i.2.2.1));have R3:=ab ((R2.i.dP ⟨q,17,none⟩ (.b .a n1) ZW.i.1).gK (o:=j*42) (x:=(Sl.mk true f).ay) (jB ZW.i.2.1));have ly:=kE Y3.i;have yZ:=R3.i.K 0 41 (aX (Fw.r _).symm);clear a5 hn1 hnb hnl;go_wp2;refine aN (kFw.arx rfl _ rfl (R3.i.put jw.ay rfl) (Fw.r _)) rfl ?_;have hnl:=HNL.i;have hfu:=aAa.i;have hrl:¬dS<=(l.a:Int):=by omega
    have hpf:Ez dS l f=ins kG f l:=by unfold Ez;rw[if_pos Dt.i.symm,if_neg (by rw[HO.i];simp),if_neg hrl]
    have hcu:=Xr HO.i;have e2:=MC s j f HJL.i HAT.i;have hel:(iA (s.set j (some f))).a=n1:=by rw[e2.t,bD,T2.i.r.Qx.t,HN1.i,hnl]
    have hR:=T2.i.r.put T2.i.Y HD.i (by omega) (ins kG f l) (by rw[hcu];exact Cj _ _);rw[<-HJ.i]at hR;have hT1:dM (wN.F ⟨q,17,none⟩ (.b .a n1)) q (Tk.mk key dS (iA (s.set j (some f))).a (some ⟨g,0,none⟩) s.a s.a).ay:=by
     have:=T2.i.w.h.eX 17 (.b .a n1);rw[Tk.Rt]at this;rw[hel];exact this
    have hT2:dM (gX (wN.F ⟨q,17,none⟩ (.b .a n1)) g (j*42) (Sl.mk true f).ay) g (Xb (s.set j (some f))):=by
     have h5:=SL.i.setCells (j*42) (Sl.mk true f).ay.a;rw[<-UO s j (some f) HJL.i];simpa[gX,slC,wH]using h5
    refine⟨by unfold akD;rw[if_pos Dt.i.symm,HO.i,if_neg (by simp;omega)];rfl,⟨s.set j (some f),⟨⟨?_,hT2.gK ZW.i.2.1,T2.i.w.ne,by rw[aV];exact T2.i.w.sz⟩,?_,T2.i.Y.put h1 f⟩,by rw[aV]⟩,?_⟩
    ·rw[aV];exact(hT1.gK T2.i.w.ne).gK ZW.i.1
    ·rw[aV,hpf];exact hR
    ·refine jM.grown ?_ (mo (dQ _ (some (W.a.j+1))) 0 jw.ay) (fun k e=>.b (by injection e with e;omega))
     refine jM.grown ?_ (mo (dQ _ (some g)) (j*42) (Sl.mk true f).ay) (fun k e=>.a (by injection e with e;simp[e]));exact FR2.i.set ⟨q,17,none⟩ (.b .a n1) (.a (by simp))
end
section
attribute [local go_sem high] jd jL
def avL:ajS 190:=⟨fun c w=>by
 go_enter Tryz.func190,Tryz.ntmps190;go_wp2;go_ret;exact⟨rfl,rfl⟩,fun args w=>by kernel_rfl⟩
def an2(a:fC):qg a=(a.h || !nzB (a.b.a.f 4)):=by rw[K6];cases h:a.h<;>simp[qg,fC.lG,h]
def Mh(a:fC)(w:ak):aP ah 110 #[.d a.ay] w (fT w (.e (qg a))):=by
 have HB:=ab ((aG w.a.j w).alloc (av _) (.D a.ay 27));have x0:=dM.new w a.ay 27;have C:=ab (ah4 _ avL _ 12 12 _ _ _ (by omega) (gu.tail (B:=w.a.j+1) (mV _) x0));have HS:=ab (an2 a);obtain⟨z,hz⟩:=bZ (nzB (a.b.a.f 4));rw[<-hz]at C HS;clear hz;cases h6:a.h
 ·rw[h6]at HS
  go_enter Tryz.func110,Tryz.ntmps110;go_wp2_with fail;refine C.i.e ?_;rintro e w' ⟨rfl,rfl⟩;cases z
  all_goals
   go_wp2;go_ret;exact⟨by rw[HS.i];rfl,HB.i⟩
 ·rw[h6]at HS
  go_enter Tryz.func110,Tryz.ntmps110;go_wp2;go_ret;exact⟨by rw[HS.i];rfl,HB.i⟩
def J9(n a b:Int):Bool:=decide (a<=n)&&decide (n<=b)
def yM(n a b:Int)(w:ak):aP ah 109 #[.b .a n,.b .a a,.b .a b] w fun e w'=>e=.a (.e (J9 n a b))/\w=w':=by
 go_enter Tryz.func109,Tryz.ntmps109;by_cases h1:a<=n<;>by_cases h2:n<=b
 all_goals
  go_wp2;go_ret;exact⟨by simp[J9,h1,h2],rfl⟩
theorem akE(args:Array aB)(w:ak):(callFunc 204 args).G ah w = .Y (.enter 204 args) w:=by kernel_rfl
def ag7(x:Vp)(a:fC)(p q:Int)(ba bp bq:Nat)(w:ak)(ha:dM w ba a.ay)(hp:dM w bp #[.b .a p])(hq:dM w bq #[.b .a q]):
 aP ah 204 #[.d x.ay,.c (some ⟨ba,0,none⟩),.c (some ⟨bp,0,none⟩),.c (some ⟨bq,0,none⟩)] w (fT w (.e (yF a p q x))):=by
 have HB:=ab (fun ob=>(aG w.a.j w).alloc (av _) ob);have na:=ha.lt;have np:=hp.lt;have nq:=hq.lt;obtain⟨a1,a2,a3,a4⟩:=ha.J;obtain⟨p1,p2,p3,p4⟩:=hp.J;obtain⟨q1,q2,q3,q4⟩:=hq.J;clear ha hp hq;go_enter Tryz.func204,Tryz.ntmps204;go_wp2
 all_goals
  go_ret;refine⟨?_,HB.i _⟩;clear HB;simp_all[yF]
def aiw(l:List Vp)(a:fC)(p q:Int):Int:=match zJ l a p q with|some i=>(i:Nat)|none=>-1
def akF(l:List Vp)(a:fC)(p q:Int)(ba bp bq:Nat)(A:Option aT)(n c:Nat)(w:ak)(hR:RdV w w.a.j A n l)(hn:n<=100000)(ha:dM w ba a.ay)(hp:dM w bp #[.b .a p])(hq:dM w bq #[.b .a q]):
 aP ah 203 #[.a A n c,.func (.func 204) #[] #[.c (some ⟨ba,0,none⟩),.c (some ⟨bp,0,none⟩),.c (some ⟨bq,0,none⟩)]] w (fT w (.b .a (aiw l a p q))):=by
 have hen:=akE;have HR:=ab hR;have HN:=ab hR.1;have PR:=ab (fun x W (h:aL w.a.j w W)=>ag7 x a p q ba bp bq W (ha.go h) (hp.go h) (hq.go h));clear hR ha hp hq;go_enter Tryz.func203,Tryz.ntmps203;go_wp2;go_loopw [8] (fun s8 wr=>∃i:Nat,i<=n/\s8=.b .a i/\(∀k,k<i->yF a p q (l.b k oL)=false)/\aL w.a.j w wr) (fun s8 _=>n-(intOf s8).g)
 case atStart=>exact⟨0,by omega,rfl,fun k hk=>by omega,aG _ _⟩
 case round=>
  obtain⟨i,hin,rfl,hno,hb⟩:=hrel;have Gy:=ab hno;have HB:=ab hb;clear hno hb;by_cases hlt:i<n
  ·have hi:(i:Int)<n:=by omega
   obtain⟨b,o,rfl,hbb,hh,hcl⟩:=iE.fH Vp.r oL ((HR.i.M HB.i).lN HB.i.j) hlt;obtain⟨x,hx⟩:=bZ (l.b i oL);rw[<-hx]at hcl;have HX:=ab hx;have CP:=ab (PR.i x _ HB.i);clear hx hbb;cases hq:yF a p q x
   ·have HQ:=ab hq
    rw[hq]at CP;clear hq;go_wp2_with (go_at_call 204;(with_reducible refine CP.i.e ?_);rintro e w1 ⟨rfl,hb1⟩;clear hh hcl;have HB1:=ab hb1;clear hb1);go_roundw
    case rel=>exact⟨i+1,by omega,by go_num,fun k hk=>by
     by_cases hki:k=i
     ·rw[hki,<-HX.i];exact HQ.i
     ·exact Gy.i k (by omega),fJ HB.i HB1.i⟩
    case measure=>simp[intOf]<;>omega
   ·have Vv:=ab (show zJ l a p q=some i from gZ.2 ⟨by rw[HN.i];exact hlt,by
      have:=hq;rw[HX.i,au,aC (by rw[HN.i];exact hlt)]at this;exact this,fun j hj=>by
      have:=Gy.i j hj;rw[au,aC (by rw[HN.i];omega)]at this;simpa using this⟩)
    rw[hq]at CP;clear hq;go_wp2_with (go_at_call 204;(with_reducible refine CP.i.e ?_);rintro e w1 ⟨rfl,hb1⟩;clear hh hcl;have HB1:=ab hb1;clear hb1);go_ret;exact⟨by unfold aiw;rw[Vv.i];rfl,fJ HB.i HB1.i⟩
  ·obtain rfl:i=n:=by omega
   have Vv:=ab (show zJ l a p q=none from wS.2 fun x hx=>by
    obtain⟨j,hj,rfl⟩:=List.getElem_of_mem hx;have:=Gy.i j (by rw[<-HN.i];exact hj);rw[au,aC hj]at this;exact this)
   have hd:decide ((i:Int)<i)=false:=by simp
   go_wp2;go_ret;exact⟨by unfold aiw;rw[Vv.i];rfl,HB.i⟩
def Yr(l:List Vp)(a:fC)(p q:Int):Vp×Bool:=match zJ l a p q with|some i=>(l.b i oL,true)|none=>(oL,false)
def akG{l:List Vp}{a:fC}{p q:Int}{i:Nat}(h:zJ l a p q=some i):i<l.a:=(gZ.1 h).1
theorem Tm(x:Cn)(l:List Vp)(a:fC)(p q:Int)(w:ak)(hR:RdV w w.a.j x.qP x.iX l)(hn:x.iX<=100000):
 aP ah 135 #[.d x.ay,.d a.ay,.b .a p,.b .a q] w (fT w (.I #[.d (Yr l a p q).1.ay,.e (Yr l a p q).2])):=by
 have h0:=((((Bx.start w).new x.ay 29).new a.ay 27).new #[.b .a p] 3).new #[.b .a q] 3;have h1:=h0.new oL.ay 98;simp only[tQ]at h1;have Z:=ab h1;have HR:=ab (h1.rdR hR);have HN:=ab hR.1;clear h0 h1 hR;go_enter Tryz.func135,Tryz.ntmps135;go_upto_region 1 with fail
 generalize(((((w.alloc (.D x.ay 29)).alloc (.D a.ay 27)).alloc (.D #[.b .a p] 3)).alloc (.D #[.b .a q] 3)).alloc (.D oL.ay 98))=w5 at Z HR ⊢;obtain⟨y1,y2,y3,y4⟩:=Z.i.Uh.b3.J;have CI:=ab (akF l a p q _ _ _ x.qP x.iX x.qZ w5 HR.i hn Z.i.b3 Z.i.b2 Z.i.b1);have K8:=ab (show∀r∈[(w.a.j+1+1+1,#[aI .a q]),(w.a.j+1+1,#[aI .a p]),(w.a.j+1,a.ay),(w.a.j,x.ay)],r.1≠w.a.j+1+1+1+1 from fun r hr=>by
  simp only[bB,fU,or_false]at hr;rcases hr with rfl|rfl|rfl|rfl<;>simp only[]<;>omega)
 have HP:=ab (show aiw l a p q=match zJ l a p q with|some i=>(i:Nat)|none=>-1 from rfl);have HV:=ab (show Yr l a p q=match zJ l a p q with|some i=>(l.b i oL,true)|none=>(oL,false)from rfl);cases hf:zJ l a p q with
 | none=>
   rw[hf]at HP HV;rw[HP.i]at CI;simp only at CI;clear hf;go_wp2_with (go_at_call 203;(with_reducible refine CI.i.e ?_);rintro e w6 ⟨rfl,hb⟩;have Z6:=ab (Z.i.go hb);have yZ:=Z6.i.R.K 0 20 (aX (Vp.r oL).symm);clear hb);refine aN (kVp.qW rfl _ rfl (b:=w.a.j+1+1+1+1) (c:=oL.ay) (Z6.i.put K8.i oL.ay rfl).R (Vp.r _)) rfl ?_;rw[HV.i];exact⟨rfl,(Z6.i.put K8.i oL.ay rfl).O⟩
 | some i=>
   have hi:=akG hf;rw[HN.i]at hi;rw[hf]at HP HV;rw[HP.i]at CI;simp only at CI;clear hf;have hi2:(i:Int)<x.iX:=by omega
   obtain⟨b,o,hA,hbb,hh,hcl⟩:=iE.fH Vp.r oL HR.i hi;rw[hA]at HR CI;go_wp2_with (go_at_call 203;(with_reducible refine CI.i.e ?_);rintro e w6 ⟨rfl,hb⟩;have Z6:=ab (Z.i.go hb);have yZ:=Z6.i.R.K 0 20 (aX (Vp.r oL).symm);have HR6:=ab (HR.i.go hb);clear hb;clear y1 y2 y3 y4 hh hcl;obtain⟨y1,y2,y3,y4⟩:=Z6.i.Uh.b3.J;obtain⟨b',o',hA',aLo,hh,hcl⟩:=iE.fH Vp.r oL HR6.i hi;cases hA');refine aN (kVp.qW rfl _ rfl (b:=w.a.j+1+1+1+1) (c:=(l.b i oL).ay) (Z6.i.put K8.i (l.b i oL).ay (by rw[Vp.r,Vp.r])).R (Vp.r _)) rfl ?_;rw[HV.i];exact⟨rfl,(Z6.i.put K8.i (l.b i oL).ay (by rw[Vp.r,Vp.r])).O⟩
theorem arz{l:List Vp}{a:fC}{p q:Int}:(Yr l a p q).2=l.any (yF a p q):=by
 unfold Yr zJ;cases h:l.findIdx? (yF a p q)with
 | none=>
   simp only;symm;rw[nH];exact fun x hx=>by simpa using wS.1 h x hx
 | some i=>
   simp only;symm;obtain⟨h1,h2,_⟩:=gZ.1 h;exact nY.2 ⟨_,fG h1,h2⟩
def Xv(A:Option aT)(n c:Nat):Cn:=⟨A,n,c,0,0,bJ 6 0,0,0,bJ 6 0,nM,nM,0,0,0⟩
@[go_sem]theorem axA(W:ak)(A:Option aT)(n c:Nat):(uW 29 #[(0,.a A n c)]).G ah W = .Y (.d (Xv A n c).ay) W:=
 Qf.bd W _ _ _ _ nK (auF W _ nK) (by
  unfold Rh Cn.ay;rw[oW 0 0 _ _ _ _ rfl rfl (by simp)];simp[fD,Xv])
def iE.aAb{α:Type}{f:α->Array aB}{s:Nat}(hs:∀x,(f x).j=s){w:ak}{B n:Nat}{A:Option aT}{l:List α}(h:iE f s w B A n l){i:Nat}(hi:i<=n):iE f s w B A i (l.d i):=by
 obtain⟨h1,h2,h3⟩:=h;refine⟨by simp;omega,⟨?_,fun hp=>?_⟩,fun a ha h0=>h3 a ha (by omega)⟩
 ·rw[alq f s hs,bH,h1,Nat.min_eq_left hi]
 ·obtain⟨a,ha,hb,hc⟩:=h2.2 (by omega)
  refine⟨a,ha,hb,fun j v hv=>hc j v ?_⟩;rw[<-List.take_append_drop i l,xk];rw[List.getElem?_append_left (by
   rcases aZ j ((l.d i).h fun x=>(f x).a).a with h|h
   ·exact h
   ·rw[aS h]at hv;cases hv)]
  exact hv
def akH{x:Vp}{W:ak}{b:Nat}(h:dM W b x.ay):(rZ (.c (some ⟨b,0,none⟩))).G ah W = .Y (.d x.h.ay) W:=by
 have hs:eB x.ay=20:=Vp.r x;rw[NA W b 0 (of_eq_true (h.J.2.2.1 0 17 (by omega))),h.J.2.2.2 0 17 (by omega),Vp.DX]
def aaj(l:List Vp)(n:Nat)(hl:l.a=n):(zw l=true↔n<=64/\∀i,i<n->EA l i=true):=by
 unfold zw;subst hl;simp
theorem an3(l:List Vp)(A:Option aT)(n c:Nat)(w:ak)(hR:RdV w w.a.j A n l)(hnc:n<=c)(hn:n<=100000):
 aP ah 108 #[.a A n c] w (fT w (.e (zw l))):=by
 have HR:=ab hR;have HN:=ab hR.1;have HS:=ab (aaj l n hR.1);clear hR;go_enter Tryz.func108,Tryz.ntmps108;by_cases h64:64<n
 ·have q:decide ((64:Int)<n)=true:=by simp;omega
  have HF:=ab (show zw l=false by cases h:zw l;rfl;have:=(HS.i.1 h).1;omega);go_wp2;go_ret;exact⟨by rw[HF.i];rfl,aG _ _⟩
 have q:decide ((64:Int)<n)=false:=by simp;omega
 go_wp2;go_loopw [12] (fun s12 wr=>∃i:Nat,i<=n/\s12=.b .a i/\(∀k,k<i->EA l k=true)/\aL w.a.j w wr) (fun s12 _=>n-(intOf s12).g)
 case atStart=>exact⟨0,by omega,rfl,fun k hk=>by omega,aG _ _⟩
 case round=>
  obtain⟨i,hin,rfl,hok,hb⟩:=hrel;have Gy:=ab hok;have HB:=ab hb;clear hok hb;by_cases hlt:i<n
  ·have hi:(i:Int)<n:=by omega
   have hic:(i:Int)<=c:=by omega
   obtain⟨b,o,hA,hbb,hh,hcl⟩:=iE.fH Vp.r oL ((HR.i.M HB.i).lN HB.i.j) hlt;subst hA;obtain⟨x,hx⟩:=bZ (l.b i oL);rw[<-hx]at hcl;have HX:=ab (show EA l i=(ad3 x && !(Yr (l.d i) x.h x.aQ x.S).2)by unfold EA;rw[<-hx,arz]);clear hx;have Z1:=ab ((Bx.start wr).new x.ay 98);have HPC:=ab (HR.i.go HB.i);go_upto_region 6 with fail
   clear hh hcl;generalize wr.alloc (.D x.ay 98)=w2 at Z1 ⊢;obtain⟨y1,y2,y3,y4⟩:=Z1.i.R.J;have CS:=ab (Mh x.h w2);have ZG:=ab (fun w' (hb:aL w2.a.j w2 w')=>Z1.i.go hb);have HV:=ab (show ad3 x=(qg x.h&&(x.aQ==6||x.aQ==17)&&J9 x.S 1 65535)from rfl);cases hv:ad3 x
   ·
    have Gj:=ab (show zw l=false by
     cases h:zw l;rfl;have:=(HS.i.1 h).2 i hlt;rw[HX.i,hv]at this;simp at this)
    rw[hv]at HV;have HZ:=ab HV.i.symm;clear hv HV HX;cases h1:qg x.h
    ·rw[h1]at CS
     go_upto_if 36 with(first|(go_at_call 110;(with_reducible refine CS.i.e ?_);rintro e w3 ⟨rfl,hb⟩;have Z3:=ab (ZG.i _ hb);clear y1 y2 y3 y4;obtain⟨y1,y2,y3,y4⟩:=Z3.i.R.J;clear hb)|(go_at_call 109;(with_reducible refine(yM _ _ _ _).e ?_);rintro e w4 ⟨rfl,rfl⟩))
     go_wp2;go_ret;exact⟨by rw[Gj.i];rfl,fJ HB.i Z3.i.O⟩
    ·rw[h1]at CS HZ
     have HZ2:=ab (show((x.aQ==6||x.aQ==17)&&J9 x.S 1 65535)=false by have:=HZ.i;simpa using this);cases h2:(x.aQ==6)<;>cases h3:(x.aQ==17)<;>cases h4:J9 x.S 1 65535
     all_goals
      rw[h2,h3,h4]at HZ2
      first
       | (exact absurd HZ2.i (by decide))
       | (have h2':(x.aQ != 6) = !(x.aQ==6):=rfl
          have h3':(x.aQ != 17) = !(x.aQ==17):=rfl;rw[h2]at h2';rw[h3]at h3';have CW:=ab (fun W=>yM x.S 1 65535 W);rw[h4]at CW;go_wp2_with (first|(go_at_call 110;(with_reducible refine CS.i.e ?_);rintro e w3 ⟨rfl,hb⟩;have Z3:=ab (ZG.i _ hb);clear y1 y2 y3 y4;obtain⟨y1,y2,y3,y4⟩:=Z3.i.R.J;clear hb)|(go_at_call 109;(with_reducible refine(CW.i _).e ?_);rintro e w4 ⟨rfl,rfl⟩));go_ret;exact⟨by rw[Gj.i];rfl,fJ HB.i Z3.i.O⟩)
   ·rw[hv]at HV HX
    have HZ:=ab HV.i.symm;have HXX:=ab HX.i;clear hv HV HX;have h1:qg x.h=true:=by have:=HZ.i;simp at this;exact this.1.1
    have h4:J9 x.S 1 65535=true:=by have:=HZ.i;simp at this;exact this.2
    have h23:(x.aQ==6||x.aQ==17)=true:=by have:=HZ.i;simp at this;simpa using this.1.2
    have CW:=ab (fun W=>yM x.S 1 65535 W);rw[h4]at CW;rw[h1]at CS;clear h1 h4;cases h2:(x.aQ==6)<;>cases h3:(x.aQ==17)
    all_goals
     rw[h2,h3]at h23
     first
      | (exact absurd h23 (by decide))
      | skip
    all_goals
     clear h23;have h2':(x.aQ != 6) = !(x.aQ==6):=rfl;have h3':(x.aQ != 17) = !(x.aQ==17):=rfl;rw[h2]at h2';rw[h3]at h3';go_upto_region 8 with(first|(go_at_call 110;(with_reducible refine CS.i.e ?_);rintro e w3 ⟨rfl,hb⟩;have Z3:=ab (ZG.i _ hb);clear y1 y2 y3 y4;obtain⟨y1,y2,y3,y4⟩:=Z3.i.R.J;clear hb)|(go_at_call 109;(with_reducible refine(CW.i _).e ?_);rintro e w4 ⟨rfl,rfl⟩))
     clear h2 h3 h2' h3' y1 y2 y3 y4;have F4:=ab (fun(w':ak) (h:Bx [(wr.a.j,x.ay)] wr w')=>show w'.b ⟨wr.a.j,17,none⟩=some (.b .a x.aQ)/\w'.b ⟨wr.a.j,18,none⟩=some (.b .a x.S)/\(rZ (.c (some ⟨wr.a.j,0,none⟩))).G ah w' = .Y (.d x.h.ay) w' from⟨(h.R.J.1 17).trans (Vp.Cv _),(h.R.J.1 18).trans (Vp.KW _),akH h.R⟩);have CV:=ab (fun(w':ak) (h:Bx [(wr.a.j,x.ay)] wr w')=>Tm (Xv (some ⟨b,o,none⟩) i c) (l.d i) x.h x.aQ x.S w' ((HPC.i.go h.O).aAb Vp.r (by show i<=n;omega)) (by show i<=100000;omega));obtain⟨r,hr⟩:=bZ (Yr (l.d i) x.h x.aQ x.S);rw[<-hr]at CV HXX;clear hr;refine xE (Bx.abK ([(wr.a.j,x.ay)]) wr) 14 15 13 5 50 98 oL.ay (by kernel_rfl) rfl rfl rfl rfl rfl (by kernel_rfl) (by kernel_rfl) (by kernel_rfl) (by kernel_rfl) (by kernel_rfl) rfl rfl rfl (fun a w=>by simp[go_sem]) (uh rfl) Z3.i.drew ?_;apply sw;refine⟨fun T f hT es ew=>?_,?_⟩
     ·have EW:=ab ew
      have ES:=ab es;have k1:=fun m=>(F4.i _ (ES.i m)).1
      have k2:=fun m=>(F4.i _ (ES.i m)).2.1
      have k3:=fun m=>(F4.i _ (ES.i m)).2.2
      have CF:=ab (fun m=>CV.i _ (ES.i m));clear es ew;simp only[ng,yI,lq,bK,bR,jA,j6]
      repeat(go_big_quiet_step ((first|(go_at_call 135;(with_reducible refine(CF.i _).e ?_);rintro e w2 ⟨rfl,hb⟩;exact⟨rfl,EW.i _ _ hb⟩))))
      exact eG rfl
     ·intro w9 w8 Ad _ hb
      have ZN:=ab ((Ad.new oL.ay 98).go hb);have hyy:=ab Ad;have hy:=Ad.O.j;have hyv:=ab (fun p (hp:p∈[(wr.a.j,x.ay)])=>((Ad.2 p hp).2.lt:p.1<w9.a.j));generalize w9.a.j=y at *;clear hb Ad;have yZ:=ZN.i.R.K 0 20 (aX (Vp.r oL).symm);refine⟨gX w8 y 0 r.1.ay,?_,?_⟩
      ·simp[go_sem,yZ]
      simp only[lM,bL,bK,bR,jU,lH];have Z5:=ab (ZN.i.put (fun p hp=>jQ (hyv.i p hp)) r.1.ay (by rw[Vp.r,Vp.r]));clear yZ ZN hyy hyv;generalize gX w8 y 0 r.1.ay=w9 at Z5 ⊢;go_step;go_step;go_step;cases hq:r.2
      ·rw[hq]at HXX
       have HYY:=ab (show EA l i=true by rw[HXX.i];rfl);go_wp2;go_roundw
       case rel=>exact⟨i+1,by omega,by go_num,fun k hk=>by
   by_cases hki:k=i
   ·rw[hki];exact HYY.i
   ·exact Gy.i k (by omega),fJ HB.i Z5.i.O⟩
       case measure=>simp[intOf]<;>omega
      ·rw[hq]at HXX
       have Gj:=ab (show zw l=false by
   cases h:zw l;rfl;have:=(HS.i.1 h).2 i hlt;rw[HXX.i]at this;simp at this)
       go_wp2;go_ret;exact⟨by rw[Gj.i];rfl,fJ HB.i Z5.i.O⟩
  ·obtain rfl:i=n:=by omega
   have hd:decide ((i:Int)<i)=false:=by simp
   have HF:=ab (HS.i.2 ⟨by omega,Gy.i⟩);go_wp2;go_ret;exact⟨by rw[HF.i];rfl,HB.i⟩
end
def C9(v:Vector Int 6)(k:Nat):Bool:=J9 (v.a.b k 0) 0 1000000 && !(k==0&&v.a.b k 0 != 0)
def Xw(v:Vector Int 6):Cw v=true↔∀k,k<6->C9 v k=true:=by
 unfold Cw C9 J9;simp only[bf,fM,dV,beq_iff_eq,decide_eq_true_eq,nI,Bool.and_eq_false_imp,bne_eq_false_iff_eq];constructor
 ·intro h k hk
  exact⟨h.2 k hk,fun e=>by rw[e];exact h.1⟩
 ·intro h
  exact⟨(h 0 (by omega)).2 rfl,fun k hk=>(h k hk).1⟩
def Xx(v:aB):Sem aB:=cK 24 v
@[go_sem ↓]theorem axB(v:aB):cK 24 v=Xx v:=rfl
@[go_sem]theorem arB(W:ak)(b o:Nat)(h:vK W b o 6):(Xx (.c (some ⟨b,o,none⟩))).G ah W = .Y (.d (dO W b o 6)) W:=
 jZ W b o 6 _ _ Tryz.underlying24 rfl (by kernel_rfl) h
def avM(v i:aB):Sem aB:=Instr.index 24 v i
@[go_sem ↓]theorem aB8(v i:aB):Instr.index 24 v i=avM v i:=rfl
theorem Xy(v:Vector Int 6)(i:Nat)(hi:i<6)(W:ak):(avM (.d (Lj v)) (.b .a (i:Nat))).G ah W = .Y (.b .a (v.a.b i 0)) W:=by
 have hp:=qc (P:=ah) (e:=3) (by simp only[gV]) (aaQ v i hi) W;obtain⟨i0,hi0,hs⟩:∃i0,ah.l 3=some i0/\i0.j=1:=by
  cases h:ah.l 3 with
  | none=>exact absurd h (by have:(ah.l 3).isSome=true:=by kernel_rfl
                             intro e;rw[e]at this;cases this)
  | some i0=>
    have h1:(ah.l 3).map (·.j)=some 1:=by kernel_rfl
    rw[h]at h1;exact⟨i0,rfl,by simpa using h1⟩
 have h1:(0:Int)<=(i:Int)/\(i:Int)<((6:Nat):Int):=by omega
 have hsz:=run_sizeOf (P:=ah) W hi0;have hc1:ah.a 3=1:=by simp[Aq,hi0,hs]
 rw[hc1]at hsz;simp only[avM,Instr.index,asIntOf,jP,oJ,gQ,dJ Tryz.underlying24,h1,and_self,if_true,hsz,dU,gL,hp]
def an4{n:Int}{i:Nat}(h:n<0\/1000000<n\/(i=0/\n≠0)):(J9 n 0 1000000 && !(i==0&&n != 0))=false:=by
 rcases h with h|h|⟨rfl,h⟩
 ·have:J9 n 0 1000000=false:=by unfold J9;rw[decide_eq_false (by omega)];rfl
  rw[this];rfl
 ·have:J9 n 0 1000000=false:=by unfold J9;rw[decide_eq_false (p:=n<=1000000) (by omega)];simp
  rw[this];rfl
 ·simp[h]
def aix(x:Cn)(l:List Vp):yG x l=(Cw x.kH&&zw l&&(J9 x.j 2 65537&&lT x.j.g)&&J9 x.dS 1 4096&&J9 x.kF 1 100&&J9 x.S 1 100&&(!x.Du.h&&qg x.Du)&&x.h.h&&J9 x.agt 1000 1048576&&J9 x.keep 1 100&&J9 x.Wr 1 1000):=by
 unfold yG J9;rfl
@[go_sem]theorem Cn.aHZ(x:Cn):x.ay[17]? = some (.e x.Du.h):=by simp[Cn.ay,aD,fC.r,gN,jN];rfl
@[go_sem]theorem Cn.aH0(x:Cn):x.ay[34]? = some (.e x.h.h):=by simp[Cn.ay,aD,fC.r,gN,jN];rfl
theorem Yt(x:Cn)(l:List Vp)(w:ak)(hR:RdV w w.a.j x.qP x.iX l)(hnc:x.iX<=x.qZ)(hn:x.iX<=100000):
 aP ah 44 #[.d x.ay] w (fT w (.e (yG x l))):=by
 have Z:=ab ((Bx.start w).new x.ay 29);have HR:=ab (Z.i.rdR hR);have HO:=ab (aix x l);have HI:=ab (Xw x.kH);have RI:=ab (Xy x.kH);clear hR;go_enter Tryz.func44,Tryz.ntmps44;go_upto_region 1 with fail
 generalize w.alloc (.D x.ay 29)=w2 at *;obtain⟨y1,y2,y3,y4⟩:=Z.i.R.J;go_wp2;go_loop [7] (fun s7=>∃i:Nat,i<=6/\s7=.b .a i/\(∀k,k<i->C9 x.kH k=true)) (fun s7=>6-(intOf s7).g)
 case atStart=>exact⟨0,by omega,rfl,fun k hk=>by omega⟩
 case round=>
  obtain⟨i,hi,rfl,hok⟩:=hrel;have Gy:=ab hok;clear hok;by_cases hlt:i<6
  ·have hi2:(i:Int)<6:=by omega
   have ri:=RI.i i hlt;obtain⟨n,hnn⟩:=bZ (x.kH.a.b i 0);have HA:=ab (show C9 x.kH i=(J9 n 0 1000000 && !(i==0&&n != 0))by unfold C9;rw[<-hnn]);rw[<-hnn]at ri;clear hnn;have NOI:=ab (show C9 x.kH i=false->yG x l=false from fun h=>by
    have h2:Cw x.kH=false:=by
     cases hh:Cw x.kH;rfl;have:=HI.i.1 hh i hlt;rw[h]at this;cases this
    rw[HO.i,h2];rfl)
   clear y1 y2 y3 y4 HI RI HO HR;go_wp2
   all_goals
    first
    | (go_ret
       refine⟨?_,Z.i.O⟩;rw[NOI.i (HA.i.trans (an4 ?_))]
       ·rfl
       ·by_cases g1:n<0
        ·exact .a g1
        ·by_cases g2:1000000<n
         ·exact .b (.a g2)
         ·refine .b (.b ⟨by omega,?_⟩)
          intro e;simp_all)
    | (go_round
       case rel=>exact⟨i+1,by omega,by go_num,fun k hk=>by
        by_cases hki:k=i
        ·rw[hki,HA.i];simp[J9];simp_all
        ·exact Gy.i k (by omega)⟩
       case measure=>simp[intOf]<;>omega)
  ·obtain rfl:i=6:=by omega
   have HID:=ab (show Cw x.kH=true from HI.i.2 Gy.i);rw[HID.i,xS]at HO;have VP:=ab (an3 l x.qP x.iX x.qZ w2 HR.i hnc hn);have ZG:=ab (fun w' (hb:aL w2.a.j w2 w')=>Z.i.go hb);have CW:=ab yM;have CS:=ab (fun W=>Mh x.Du W);obtain⟨vl,hvl⟩:∃b,zw l=b:=⟨_,rfl⟩
   obtain⟨sf,hsf⟩:∃b,qg x.Du=b:=⟨_,rfl⟩
   rw[hvl]at VP HO;rw[hsf]at CS HO;clear hvl hsf hi hlt HI RI Gy HID HR;cases hsz:J9 x.j 2 65537
   ·rw[hsz,Ef,Bool.and_false]at HO
    simp only[Ef]at HO;go_wp2_with (first|(go_at_call 108;(with_reducible refine VP.i.e ?_);rintro e w3 ⟨rfl,hb⟩;have Z3:=ab (ZG.i _ hb);clear y1 y2 y3 y4;obtain⟨y1,y2,y3,y4⟩:=Z3.i.R.J;clear hb)|(go_at_call 109;(with_reducible refine(CW.i _ _ _ _).e ?_);rintro e w4 ⟨rfl,rfl⟩))
    all_goals
     go_ret;exact⟨by rw[HO.i];rfl,Z3.i.O⟩
   ·have PR:=ab (show∀W,aP ah 81 #[.b .a x.j] W fun e W'=>e=.a (.e (lT x.j.g))/\W=W' from fun W=>by
     have h1:2<=x.j/\x.j<=65537:=by unfold J9 at hsz;simpa using hsz
     have:=YN (W:=W) x.j.g (by omega)
     rwa [lS (by omega)]at this)
    obtain⟨pn,hpn⟩:∃b,lT x.j.g=b:=⟨_,rfl⟩
    rw[hsz,xS]at HO;simp only[hpn]at HO PR;clear hpn;go_wp2_with (first|(go_at_call 108;(with_reducible refine VP.i.e ?_);rintro e w3 ⟨rfl,hb⟩;have Z3:=ab (ZG.i _ hb);clear y1 y2 y3 y4;obtain⟨y1,y2,y3,y4⟩:=Z3.i.R.J;clear hb)|(go_at_call 109;(with_reducible refine(CW.i _ _ _ _).e ?_);rintro e w4 ⟨rfl,rfl⟩)|(go_at_call 81;(with_reducible refine(PR.i _).e ?_);rintro e w5 ⟨rfl,rfl⟩)|(go_at_call 110;(with_reducible refine(CS.i _).e ?_);rintro e w6 ⟨rfl,hb⟩;have Z4:=ab (Z3.i.go hb);clear y1 y2 y3 y4;obtain⟨y1,y2,y3,y4⟩:=Z4.i.R.J;clear hb))
    all_goals
     go_ret;refine⟨?_,by first|exact Z4.i.O|exact Z3.i.O⟩;rw[HO.i];clear HO VP PR CW CS ZG y1 y2 y3 y4;simp_all
section
open Go.RowKit Go.Shelf
attribute [local go_sem] Oper.semAt_some
variable {W W':ak} {q g:Nat} {key:Vector UInt8 16} {dS:Int} {s:List (Option Fw)} {l:List Fw}
def EJ(now:Int)(kH:Vector Int 6)(l:List Fw):List Fw:=l.filter fun x=>Ew x.vV x.seen now kH
def Ie(l:List Fw)(o:List Fw):List Fw:=o.foldl (fun l x=>yX l x.key) l
theorem aak:∀(o l:List Fw),Ie l o=l.filter fun x=>!(o.any fun y=>tq y.key x)
 | [],l=>by show l=_;exact(List.filter_eq_self.2 (fun _ _=>rfl)).symm
 | y::o,l=>by
   have h:Ie l (y::o)=Ie (yX l y.key) o:=rfl;rw[h,aak o,yX,List.filter_filter];apply Gd;intro x _;simp[List.any_cons,Bool.and_comm]
theorem ab9{now:Int}{kH:Vector Int 6}{l o:List Fw}(hl:wP dS l)(ho:o.Perm (EJ now kH l)):Ie l o=MS now kH l:=by
 rw[aak];unfold MS;apply Gd;intro x hx;congr 1;have hm:∀y,y∈o↔y∈l/\Ew y.vV y.seen now kH=true:=fun y=>by rw[ho.mem_iff];unfold EJ;exact mK
 cases hc:Ew x.vV x.seen now kH with
 | true=>rw[nY];exact⟨x,(hm x).2 ⟨hx,hc⟩,by simp[tq]⟩
 | false=>
   rw[nH];intro y hy hk;obtain⟨h1,h2⟩:=(hm y).1 hy;have hk:x.key=y.key:=by simpa[tq]using hk
   have e1:=hl.Wn h1;have e2:=hl.Wn hx;rw[hk]at e2;rw[e1]at e2;injection e2 with e2
   rw[e2,hc]at h2;cases h2
theorem Bo{F:List Nat}{base n size:Nat}{e:bE}{v:aB}{xs:List aB}(h:W.c base e size v n xs)(hf:jM F W W')(hn:∀k,v.f=some k->k∉F):W'.c base e size v n xs:=by
 refine⟨h.1,?_⟩;rcases h.2 with h0|⟨g,cap,cur,hv,hb,hg,hr⟩
 ·exact .a h0
 ·exact .b ⟨g,cap,cur,hv,hb,by rw[hf.block g (bW.1 hg).1 (hn g (by rw[hv];rfl))];exact hg,hr⟩
theorem an5{W:ak}{b:Nat}{v:Vector Int 6}(h:dM W b (Lj v)):(Xx (.c (some ⟨b,0,none⟩))).G ah W = .Y (.d (Lj v)) W:=by
 have hs:eB (Lj v)=6:=jN v;rw[arB W b 0 (of_eq_true (h.J.2.2.1 0 6 (by omega))),h.J.2.2.2 0 6 (by omega)];have:(Lj v).m 0 6=Lj v:=by have:=jN v;rw[<-this];simp
 rw[bl,this]
def stV(now:Int)(kH:Vector Int 6)(pre:List OkF):List Fw:=EJ now kH (pre.map (·.1))
theorem aeG(T:Ls W q g key dS s l)(now:Int)(kH:Vector Int 6):
 aP ah 75 #[.c (some ⟨q,0,none⟩),.b .a now,.d (Lj kH)] W fun e w'=>(∃A c,e=.a (.a A (EJ now kH l).a c))/\(∃s',Ls w' q g key dS s' (MS now kH l)/\s'.a=s.a)/\jM [q,g] W w':=by
 refine(nJ (n:=8)).1 ?_;have hs:=T.w.sz;have hlt:=T.w.lt;obtain⟨i0,hi,hz0,hz1,hzb⟩:=agj;have HT:=ab T;clear T;refine callsIn_of_wp_marks Tryz.func75 rfl trivial ?_ rfl;have hfn:∀f,Fence.wide.fn f:=fun _=>trivial
 simp only[Tryz.ntmps75,dL,bD,gP,kT,kU,gH,gI,iT,gU,dH,gW];gi_wp2_with (gi_at_call 132;refine(nJ.2 (Rx q _)).e ?_;rintro e w' ⟨rfl,rfl⟩);have hw1:(W.alloc (.D #[.b .a now] 3)).a.j=W.a.j+1:=by simp
 have hw2:((W.alloc (.D #[.b .a now] 3)).alloc (.D (Lj kH) 24)).a.j=W.a.j+1+1:=by simp
 have hw3:(((W.alloc (.D #[.b .a now] 3)).alloc (.D (Lj kH) 24)).alloc (.D #[.a none 0 0] 34)).a.j=W.a.j+1+1+1:=by simp
 have Z4:=ab (((((Bx.start W).new #[.b .a now] 3).new (Lj kH) 24).new #[.a none 0 0] 34).new #[.c (some ⟨q,0,none⟩)] 121);have bO:=(Boxed.new ((W.alloc (.D #[.b .a now] 3)).alloc (.D (Lj kH) 24)) 34 (.a none 0 0)).alloc (.D #[.c (some ⟨q,0,none⟩)] 121);rw[hw3,hw2,hw1]at Z4;rw[hw2]at bO;have hs4:((((W.alloc (.D #[.b .a now] 3)).alloc (.D (Lj kH) 24)).alloc (.D #[.a none 0 0] 34)).alloc (.D #[.c (some ⟨q,0,none⟩)] 121)).a.j=W.a.j+1+1+1+1:=by simp
 generalize(((W.alloc (.D #[.b .a now] 3)).alloc (.D (Lj kH) 24)).alloc (.D #[.a none 0 0] 34)).alloc (.D #[.c (some ⟨q,0,none⟩)] 121)=W4 at Z4 hs4 bO ⊢;clear hw1 hw2 hw3;refine wpIn_rangeFunc_ownH rfl (by omega) (gf:=202) (lb:=#[.c (some ⟨W.a.j+1+1+1,0,none⟩)]) rfl trivial (fun args w=>rfl)
  (Mf Fence.wide 7 trivial rfl (by omega) (W.a.j+1+1+1) W.a.j W4 (by omega) (by omega) (Z4.i.R.J.1 0) (HT.i.go Z4.i.O) hlt) (fun h k=>Below.trans h k) (belowK_b (by omega)) (aG _ _) (fun _=>rfl)
  (fun(pre:List OkF) X=>((∃v,Boxed X (W.a.j+1+1) 34 v/\X.c (W.a.j+1+1) 86 41 v (stV now kH pre).a ((stV now kH pre).h fun x=>x.ay.a)/\True)/\dM X W.a.j #[.b .a now]/\dM X (W.a.j+1) (Lj kH))/\aL W.a.j W X)
  (fun _ _ _=>False)
  (OwnFrom.and (OwnFrom.and (Own.from (holdsRow_own (W.a.j+1+1) (W.a.j+1+1) 34 86 41 (fun pre:List OkF=>(stV now kH pre).a) (fun pre:List OkF=>(stV now kH pre).h fun x=>x.ay.a) (fun _ _=>True)) _) (fun s X Y row hs hg hr=>⟨zP _ _ () X Y row hs.1 hg (fun r e=>(hr r e).2),zP _ _ () X Y row hs.2 hg (fun r e=>(hr r e).2)⟩)) (ownFrom_below (av _) (by omega)))
  (fun _ _ _ _ _ hs _ _=>hs)
  ⟨⟨⟨_,bO,fu _ _ _ _,trivial⟩,Z4.i.b3,Z4.i.b2⟩,Z4.i.O⟩
  (fun x a' X=>∃Bq,W.a.j+1+1<Bq/\dM X Bq x.1.ay/\a'={tmps:=#[.c (some ⟨q,0,none⟩),.b .a now,.d (Lj kH),undef,.c (some ⟨W.a.j,0,none⟩),.c (some ⟨W.a.j+1,0,none⟩),.a none 0 0,.c (some ⟨W.a.j+1+1,0,none⟩),.c (some ⟨Bq,0,none⟩),undef,undef,.c (some ⟨q,0,none⟩),.func (.func 202) #[] #[.c (some ⟨W.a.j+1+1+1,0,none⟩)],.d x.1.ay,undef,undef,undef,undef,undef,undef,undef,undef,undef,undef,undef,undef,undef,undef,undef,undef,undef,undef,undef,undef,undef,undef,undef,undef,undef],defers:=[]})
  (fun x a' _ X Y row hs hg hr=>by obtain⟨Bq,h1,h2,h3⟩:=hs;exact⟨Bq,h1,zP Bq x.1.ay () X Y row h2 hg (fun r e=>(hr r e).2),h3⟩)
  ?assign ?body ?done ?stop
 case assign=>
  rintro q' pre x X K ⟨⟨⟨v,hv,hrow,_⟩,h1,h2⟩,hB⟩ hK;gi_wp2;refine hK _ _ ((KeepsOthers.alloc _ _).from _) ((aG _ X).alloc hB.j _) ⟨⟨⟨v,hv.alloc _,hrow.alloc _,trivial⟩,h1.alloc _,h2.alloc _⟩,hB.alloc hB.j _⟩ ⟨X.a.j,hv.lt,dM.new X _ _,rfl⟩
 case body=>
  rintro q' pre x a' X hq ⟨r,hr⟩ ⟨⟨⟨v,hv,hrow,_⟩,h1,h2⟩,hB⟩ ⟨Bq,hBq,bX,rfl⟩ hlt';have HSL:=ab (show(stV now kH pre).a<=100000 by
   have e1:(stV now kH pre).a<=pre.a:=by unfold stV EJ;exact aO (pG _ _) (by simp)
   omega)
  have Et:=ab (show stV now kH (pre++[x])=if Ew x.1.vV x.1.seen now kH then stV now kH pre++[x.1]else stV now kH pre by
   unfold stV EJ;rw[iY,List.filter_append];simp only[kR,oD,List.filter_cons,List.filter_nil];split<;>simp)
  obtain⟨st,hst⟩:=bZ (Ew x.1.vV x.1.seen now kH);have CS:=ab (ajg (s:=x.1.vV) (seen:=x.1.seen) (now:=now) (v:=kH) (W:=X));rw[<-hst]at CS Et;have f38:=(bX.J.1 38).trans (Fw.agi x.1);have f39:=(bX.J.1 39).trans (Fw.abl x.1);have f0:=h1.J.1 0;have l6:=an5 h2;have HB:=ab hB;have H1:=ab h1;have H2:=ab h2;have HX:=ab bX;have HV:=ab hv;have HR:=ab hrow;clear hst hB h1 h2 bX hv hrow;cases st
  ·gi_wp2_with (gi_at_call 150;refine(CallsIn.inRound q' (nJ.2 CS.i)).e ?_;rintro e w1 ⟨rfl,hb⟩;have IK:=ab hb;clear hb)
   refine⟨FT (jM.jD (F:=[]) IK.i) (by intro k hk;cases hk),(IK.i.e HB.i.j),⟨⟨v,Boxed.amG HV.i IK.i HV.i.lt,?_,trivial⟩,H1.i.go IK.i,H2.i.go IK.i⟩,HB.i.trans (IK.i.e HB.i.j)⟩;rw[show stV now kH (pre++[x])=stV now kH pre from Et.i];exact jE HR.i IK.i
  ·have hby:((stV now kH pre).a+1)*i0.bytes<=140737488355328:=aO (gY (show(stV now kH pre).a+1<=100002 by have:=HSL.i;omega) hzb) (by omega)
   have HN1:=ab (show x.1.ay.a.a=1*41 by simp[Fw.r]);have HNC:=ab (fun(W:ak) (j:Nat) (u:aB) (hu:x.1.ay.a[j]? = some u)=>show(W.alloc (.D x.1.ay 86)).b ((⟨W.a.j,0,none⟩:aT).add j)=some u by
    rw[Addr.add_mid,bl,lX,<-Array.getElem?_toList];exact hu)
   have Gy:=ab (show∀u∈x.1.ay.a,u.h=true from fun u hu=>by have:=Fw.dw x.1;rw[Array.all_eq_true']at this;exact this u (by simpa using hu));gi_wp2_with (first
    | (gi_at_call 150;refine(CallsIn.inRound q' (nJ.2 CS.i)).e ?_;rintro e w1 ⟨rfl,hb⟩;have IK:=ab hb;have HV1:=ab (Boxed.amG HV.i hb HV.i.lt);have HR1:=ab (jE HR.i hb);have l1:=kE (HX.i.go hb);have c1:=HV1.i.cell;clear hb l6 f0 f38 f39)
    | (gi_at_builtin;go_loud (refine wpListIn_append_own _ rfl _ _ 34 rfl (W.a.j+1+1) 86 i0 (.d jw.ay) 41 i0.bytes Tryz.underlying34 hi hz0 hz1 rfl (by simp[cZ,Fw.r]) (by decide) _ _ _ rfl (HR1.i.alloc _) ⟨w1.a.j,0,none⟩ 1 1 x.1.ay.a rfl HN1.i (HNC.i w1) Gy.i (by have:=HSL.i;unfold maxLen;omega) hby (by have:=HV1.i.lt;simp;omega) ?_;intro v' w2 hown' hgrow _;obtain⟨g',cap',rfl⟩:=ownsRow_succ hown';obtain⟨hv1,hv2,hr2,hk2,hb2⟩:=HV1.i.appended (by decide) HR1.i (by have:=HV1.i.lt;omega) (av _) hown' hgrow;have hc1:=hv1.cell;have hf1:=hv1.frozen)))
   refine⟨(FT (jM.jD (F:=[]) IK.i) (by intro k hk;cases hk)).trans (hk2.from _),(IK.i.e HB.i.j).trans (hb2.e (by omega)),⟨⟨_,hv2,?_,trivial⟩,(H1.i.go IK.i).M hb2 (by omega),(H2.i.go IK.i).M hb2 (by omega)⟩,(HB.i.trans (IK.i.e HB.i.j)).trans (hb2.e (by omega))⟩;rw[show stV now kH (pre++[x])=stV now kH pre++[x.1]from Et.i,aR,xk];simpa using hr2
 case done=>
  rintro D ys X hD hS ⟨⟨⟨v,hv,hrow,_⟩,h1,h2⟩,hB⟩ hK;rename_i K0 KA TT;refine KA _ _ (wpIn_wide.2 ?_);have hO:(stV now kH ys).Perm (EJ now kH l):=by
   unfold stV;rw[hS];exact HT.i.r.Qx.filter _
  obtain⟨o,ho⟩:=bZ (stV now kH ys);rw[<-ho]at hO hrow;obtain⟨A,c,rfl,_⟩:=jG hrow;have hB2:=hB;have T0:=ab (HT.i.go hB);have cV:=hv.cell;have HO:=ab hO;have HB:=ab hB;have HD:=ab hD;have HK:=ab hK;have HV:=ab hv;have TS:=ab hrow;have HLO:=ab (show o.a<=100000 by
   have e1:=hO.t;have e2:(EJ now kH l).a<=l.a:=pG _ _;have e3:=HT.i.r.Qx.t;have e4:=FQ s;omega)
  obtain⟨m,hm⟩:=bZ o.a;rw[<-hm]at TS HV cV HLO;have HM:=ab hm;clear hO ho hD hK hv hrow hB hB2 h1 h2 hS hm KA K0 TT;have HOF:=ab (fun w2 (hf:jM [q,g] X w2)=>Bo TS.i hf (fun b e=>by have:=(TS.i.lt b e).1;simp;omega));have HVF:=ab (fun w2 (hf:jM [q,g] X w2)=>show Boxed w2 (W.a.j+1+1) 34 (.a A m c)from(hf.block _ HV.i.lt (by simp;omega)).trans HV.i);go_wp2_with fail;go_loopw [27] (fun v wr=>∃k:Nat,k<=m/\v=.b .a k/\(∃s',Ls wr q g key dS s' (Ie l (o.d k))/\s'.a=s.a)/\jM [q,g] X wr) (fun v _=>m-(intOf v).g)
  case atStart=>exact⟨0,jf _,rfl,⟨s,T0.i,rfl⟩,jM.refl _ _⟩
  case round=>
   obtain⟨k,hk,rfl,⟨s',hT,hsl⟩,hfr⟩:=hrel;by_cases hlt3:k<m
   ·have hki:(k:Int)<m:=by omega
    have i1:=jW ((k:Int)+1) (by have:=HLO.i;omega);have hR:=iE.iG (f:=Fw.ay) HM.i.symm (HOF.i wr hfr);obtain⟨b,o0,rfl,hbl,a1,a2⟩:=hR.fH Fw.r jw hlt3;obtain⟨y,hy⟩:=bZ (o.b k jw);rw[<-hy]at a2;have hcut:Ie l (o.d (k+1))=yX (Ie l (o.d k)) y.key:=by
     rw[dF (by rw[<-HM.i];exact hlt3)];unfold Ie;rw[List.foldl_append,hy,au,aC (by rw[<-HM.i];exact hlt3)];rfl
    have aE5:=ab hcut;have BY:=dM.new wr y.ay 86;have lk:=pO BY;have hba:=(aG wr.a.j wr).alloc (av _) (.D y.ay 86);have CD:=ab (Xu (hT.go hba) y.key);have HFR:=ab (hfr.M hba hfr.j);have HSL:=ab hsl;clear hy hcut BY hba hT hfr hsl hR hbl;go_wp2_with (go_at_call 128;(with_reducible refine CD.i.e ?_);rintro e w2 ⟨rfl,⟨s2,T2,hs2⟩,F2⟩;have T3:=ab T2;have S3:=ab hs2;have F3:=ab F2;clear T2 hs2 F2 lk a1 a2);go_roundw
    case rel=>exact⟨k+1,by omega,by simp,⟨s2,by rw[aE5.i];exact T3.i,by rw[S3.i,HSL.i]⟩,HFR.i.qA F3.i⟩
    case measure=>simp[intOf];omega
   ·obtain rfl:k=m:=by omega
    have hd:decide ((k:Int)<k)=false:=by simp
    have hfull:Ie l (o.d k)=MS now kH l:=by
     rw[aJ (by rw[<-HM.i];exact av _)];exact ab9 HT.i.Y HO.i
    rw[hfull]at hT;have cV2:=(HVF.i wr hfr).cell;have HBX:=ab (HVF.i wr hfr);have HOW:=ab (HOF.i wr hfr);have SF:=ab (Me (EJ now kH l) o dS (HT.i.Y.sub List.filter_sublist) HO.i (by have:=HLO.i;have:=HM.i;omega) wr (W.a.j+1+1) A c (by rw[<-HM.i];exact HOW.i));rw[<-HM.i]at SF;have HTT:=ab hT;have HSS:=ab hsl;have HFR:=ab hfr;have HLS:=ab (show k=(EJ now kH l).a by rw[HM.i];exact HO.i.t);clear hT hsl hfr hfull cV;go_wp2_with (go_at_call 151;(with_reducible refine SF.i.e ?_);rintro e w2 ⟨rfl,ho2,hg2⟩;have HG2:=ab hg2;have cV3:=(HBX.i.kept hg2 (HBX.i.not_row (by decide) HOW.i)).cell;clear ho2 hg2 cV2);have HDB:some D≠(bC A k c).f:=fun e=>by
     rcases TS.i.2 with⟨h0,_⟩|⟨g',cap,cur,hv,_,hg,_⟩
     ·rw[h0]at e;cases e
     ·rw[hv]at e
      have e2:D=g':=by simpa[jy]using e
      rw[<-e2,HK.i]at hg;cases hg
    have hDX:D<X.a.j:=(bW.1 HK.i).1;have hXW:=HB.i.j;have hfs:=HFR.i.j;have hDq:D≠q/\D≠g:=by have:=HD.i;omega
    have HDK:=ab (show w2.a[D]? = some (.deferred (some []))from(HG2.i.block D (by omega) HDB).trans ((HFR.i.block D hDX (by simp;omega)).trans HK.i));have hbx:∀b c',dM wr b c'->b<W.a.j->dM w2 b c':=fun b c' h hb=>by
     obtain⟨t,ht⟩:=h;exact⟨t,(HG2.i.block b (by omega) (fun e=>by have:=(TS.i.lt b e.symm).1;omega)).trans ht⟩
    have hPB:=belowK_b (w:=W) (av _) w2 D;refine⟨by simp,.a ⟨_,_,rfl,run_takeDeferred HDK.i,?_⟩⟩;refine⟨_,results_tmp rfl _ _ _,⟨A,c,by rw[<-HLS.i];rfl⟩,⟨s',⟨⟨Xq (hbx _ _ HTT.i.w.h hlt.1) HDK.i _,Xq (hbx _ _ HTT.i.w.sl hlt.2) HDK.i _,HTT.i.w.ne,HTT.i.w.sz⟩,HTT.i.r,HTT.i.Y⟩,HSS.i⟩,?_⟩;have F1:jM [q,g] W wr:=(jM.jD HB.i).qA HFR.i;have F2:jM [q,g] W w2:=F1.grown HG2.i (fun b e=>.b (by have:=(TS.i.lt b e).1;omega));exact F2.M (hPB _ _ (by have:=HD.i;omega) HDK.i rfl rfl) (av _)
 case stop=>
  rintro D c pre X _ _ h _;exact h.elim
end
def ab'{g n:Nat}{q:List Nat}{ch ch':Nat->Nat->Nat}{m:Mg}{i:Nat}(h:ch i=ch' i):sW g n q ch m i=sW g n q ch' m i:=by
 unfold sW;rw[h]
theorem aeH{n:Nat}{q:List Nat}{ch ch':Nat->Nat->Nat}(hq:q≠[])(h:∀i,i<q.a->ch i=ch' i):Fu n q ch=Fu n q ch':=by
 have:∀j,wD (mh q) n q ch j=wD (mh q) n q ch' j:=by
  intro j
  induction j with
  | zero=>rfl
  | succ j ih=>
    unfold wD;rw[ih,ab' (h _ (fE _ (List.length_pos_iff.2 hq)))]
 unfold Fu;rw[this]
def akI(key:Vector UInt8 16)(n:Nat)(x:pR):Tr:=⟨x.q,0,(DT key x.E n:Nat),(AL key x.E n:Nat),0⟩
def qw{α β:Type}(f:α->β)(l:List α)(i:Nat)(d:β)(e:α)(hi:i<l.a):(l.map f).b i d=f (l.b i e):=by
 rw[au,au,List.getElem?_map,aC hi];rfl
def akJ(key:Vector UInt8 16)(n:Nat)(r:List pR)(hr:r≠[])(h0:∀x∈r,0<x.q):
 FiL (mh (r.map fun x=>x.q.g)) n (r.map fun x=>x.q.g) (r.map fun x=>DT key x.E n) (r.map fun x=>AL key x.E n) ⟨(r.map fun x=>x.q.g).map fun _=>0,dY n (-1),n⟩ (r.map (akI key n)):=by
 refine⟨by simp,by simp,fun i hi=>?_⟩;rw[bV]at hi;have hm:r.b i lJ∈r:=by rw[au,aC hi];exact fG _
 have hx:=h0 _ hm;rw[qw (akI key n) r i zM lJ hi,qw _ r i 0 lJ hi,qw _ r i 0 lJ hi,qw _ r i 0 lJ hi];have hz:((r.map fun x=>x.q.g).map fun _=>0).b i 0=0:=by
  rw[qw _ _ i 0 0 (by simpa using hi)]
 refine⟨?_,rfl,rfl,?_,?_,0,rfl,jf _,fun t ht=>absurd ht (Nat.not_lt_zero _)⟩
 ·show(r.b i lJ).q=_
  omega
 ·show(0:Int)=_
  rw[hz];rfl
 ·show((r.map fun x=>x.q.g).map fun _=>0).b i 0<_
  rw[hz];obtain⟨j,hj,e⟩:=DU (q:=r.map fun x=>x.q.g) (by simpa using hr) (by
   intro y hy;obtain⟨x,hx2,rfl⟩:=iZ.1 hy;have:=h0 x hx2;omega)
  rw[<-e];rw[bV]at hj;rw[qw _ r j 0 lJ hj];have hm2:r.b j lJ∈r:=by rw[au,aC hj];exact fG _
  have:=h0 _ hm2;omega
def yN(l:List pR):List pR:=l.filter fun x=>decide (x.q≠0)
def ag8{l:List pR}{k:Nat}{x:pR}(hx:x=l.b k lJ)(hk:k<l.a):yN (l.d (k+1))=yN (l.d k)++(if x.q=0 then []else [x]):=by
 have e:l.d (k+1)=l.d k++[x]:=by rw[hx];exact(lY lJ l k hk).symm
 rw[e];unfold yN;rw[List.filter_append];congr 1;by_cases h:x.q=0
 ·rw[if_pos h,List.filter_cons_of_neg (by simp[h])];rfl
 ·rw[if_neg h,List.filter_cons_of_pos (by simp[h])];rfl
def aeI(key:Vector UInt8 16)(n:Nat)(l:List pR)(h:yN l≠[]):uL key n l=⟨(yN l).map (·.E),Fu n ((yN l).map fun x=>x.q.g) (IY ((yN l).map fun x=>DT key x.E n) ((yN l).map fun x=>AL key x.E n) n)⟩:=by
 unfold uL;simp only;rw[if_neg (show¬(l.filter fun x=>decide (x.q≠0))=[]from h)];congr 1;refine aeH (fun e=>h (List.map_eq_nil_iff.1 e)) fun i hi=>?_
 rw[bV]at hi;funext t;have hi2:i<(yN l).a:=hi;unfold chF IY;rw[qw (fun x=>DT key x.E n) _ i 0 lJ hi2,qw (fun x=>AL key x.E n) _ i 0 lJ hi2];have e:((l.filter fun x=>decide (x.q≠0)).map (·.E)).b i []=((yN l).b i lJ).E:=qw _ _ i _ lJ hi2;rw[e]
def Tp(key:Vector UInt8 16)(n:Nat)(l:List pR)(h:yN l=[]):uL key n l=⟨[],[]⟩:=by
 unfold uL;simp only;rw[if_pos (show(l.filter fun x=>decide (x.q≠0))=[]from h)]
def nmC(s:List UInt8):Array aB:=#[.g (bP s)]
theorem PW(s:List UInt8):(nmC s).j=1:=rfl
theorem an6:∃i:nW,ah.l 9=some i/\i.zero=some (.g {data:=#[]})/\i.j=1/\i.bytes<=400:=by
 cases h:ah.l 9 with
 | none=>exact absurd h (by have:(ah.l 9).isSome=true:=by kernel_rfl
                            intro e;rw[e]at this;cases this)
 | some i=>
   have h1:(ah.l 9).map (·.j)=some 1:=by kernel_rfl
   have h2:(ah.l 9).map (fun i=>decide (i.bytes<=400))=some true:=by kernel_rfl
   have h3:(ah.l 9).map (·.zero)=some (some (.g {data:=#[]})):=by kernel_rfl
   rw[h]at h1 h2 h3;simp at h1 h2 h3;exact⟨i,rfl,h3,h1,h2⟩
def aiy:abt 69 9 nmC 1:=by
 obtain⟨i0,hi0,hz0,hz1,hzb⟩:=an6;exact⟨i0,_,lV,hi0,hz0,hz1,rfl,by omega,by omega,PW,fun s=>by simp[nmC,dx]⟩
theorem an7:∃i:nW,ah.l 155=some i/\i.zero=some (.d zM.ay)/\i.j=5/\i.bytes<=400:=by
 cases h:ah.l 155 with
 | none=>exact absurd h (by have:(ah.l 155).isSome=true:=by kernel_rfl
                            intro e;rw[e]at this;cases this)
 | some i=>
   have h1:(ah.l 155).map (·.j)=some 5:=by kernel_rfl
   have h2:(ah.l 155).map (fun i=>decide (i.bytes<=400))=some true:=by kernel_rfl
   have h3:(ah.l 155).map (·.zero)=some (some (.d zM.ay)):=by kernel_rfl
   rw[h]at h1 h2 h3;simp at h1 h2 h3;exact⟨i,rfl,h3,h1,h2⟩
def arC:abt 149 155 Tr.ay 5:=by
 obtain⟨i0,hi0,hz0,hz1,hzb⟩:=an7;exact⟨i0,_,Tryz.underlying149,hi0,hz0,hz1,Tr.r zM,by omega,by omega,Tr.r,Tr.dw⟩
def aeJ(n:Nat)(ps:Array (Nat×aB)):Sem aB:=bM 69 n ps
@[go_sem ↓]theorem aAf(n:Nat)(ps:Array (Nat×aB)):bM 69 n ps=aeJ n ps:=rfl
@[go_sem]theorem avN(w:ak)(s:List UInt8):(aeJ 1 #[(0,.g (bP s))]).G ah w = .Y (.a (some ⟨w.a.j,0,none⟩) 1 1) (w.alloc (.D (nmC s) 9)):=by
 obtain⟨i0,hi0,hz0,hz1,hzb⟩:=an6;simp[aeJ,bM,dJ lV,zeroValue,sizeOf,typeInfo,hi0,hz0,hz1,fD,newRow,cZ,agl,nmC]
def as6(n:Nat)(ps:Array (Nat×aB)):Sem aB:=bM 149 n ps
@[go_sem ↓]theorem aAg(n:Nat)(ps:Array (Nat×aB)):bM 149 n ps=as6 n ps:=rfl
@[go_sem]theorem avO(w:ak)(x:Tr):(as6 1 #[(0,.d x.ay)]).G ah w = .Y (.a (some ⟨w.a.j,0,none⟩) 1 1) (w.alloc (.D x.ay 155)):=by
 obtain⟨i0,hi0,hz0,hz1,hzb⟩:=an7;exact sD w _ _ i0 _ 5 Tryz.underlying149 hi0 hz0 hz1 (Tr.r _) (by omega) (by omega) _ (Tr.r x)
@[go_sem]theorem aAh(W:ak)(qY offset skip:Int):(uW 155 #[(0,.b .a qY),(2,.b .a offset),(3,.b .a skip)]).G ah W = .Y (.d (Tr.mk qY 0 offset skip 0).ay) W:=
 kTr.bd W _ _ _ _ Ep (aEO W _ Ep) (by
  show fD _ (#[aI .a 0,.b .a 0,.b .a 0,.b .a 0,.b .a 0] ++ #[]) [(0,.b .a qY),(2,.b .a offset),(3,.b .a skip)]=_;rw[oW 0 0 _ _ _ _ rfl rfl (by simp),oW 2 2 _ _ _ _ rfl rfl (by simp),oW 3 3 _ _ _ _ rfl rfl (by simp)];simp[fD,Tr.ay])
def Xz{α:Type}{f:α->Array aB}{sz:Nat}{e t:bE}{L:List (Nat×Array aB)}{w0 W:ak}{v:aB}{l ys:List α}(T:abt t e f sz){ops:Array iM}{rest:List iM}{o:iM}{a:Act}{Q:Exit->Act->ak->Prop}(hgd:o.guard=none)(s x:Operand)
 (ho:o.op=.call {callee:=.builtin .append,args:=#[s,x],argTypes:=#[t,t]}) (hs:a.eval s=v) (H:Rz f sz e L w0 W v l) {C:Nat} {A:Option aT} {m c:Nat} (hx:a.eval x=.a A m c) (hr:iE f sz W C A m ys)
 (hlen:l.a+m<=1000000)
 (h:∀A' n' c' w',Rz f sz e L w0 w' (.a A' n' c') (l++ys)->W.d w' v.f->((bC A' n' c').f=v.f\/(bC A' n' c').f=some W.a.j)->wpList ah ops Q rest (a.put o.S (.a A' n' c')) w'):wpList ah ops Q (o::rest) a W:=by
 refine wpList_plain hgd fun K hK=>?_
 obtain⟨i,z,ht,hi,hz,h1,h2,h3,h4,h5,h6⟩:=T;have hm:=hr.1;refine Ku W s x t ho w0.a.j e i z sz i.bytes ht hi hz h1 rfl h2 h3 v l.a _ hs H.vL C A m c _ hx hr.2.1 (Fa f h6 ys) (by unfold maxLen;omega) (aO (gY hlen h4) (by omega)) H.O.j ?_;intro v1 w1 k1 k2 k3;rw[acN,<-hm,<-aR]at k1;have hk:=H.grown k2 k1 k3;obtain⟨A',c',rfl⟩:=hk.Cr;exact hK _ _ (h A' _ c' w1 hk k2 k3)
def Ka(v1 v2:aB):Prop:=∀g,v1.f=some g->v2.f≠some g
def Ka.symm{v1 v2:aB}(h:Ka v1 v2):Ka v2 v1:=fun g h1 h2=>h g h2 h1
theorem Tq{w w':ak}{base size n:Nat}{e:bE}{v1 v1' v2:aB}{xs:List aB}(h2:w.c base e size v2 n xs)(ha:Ka v1 v2)(hg:w.d w' v1.f)(hat:v1'.f=v1.f\/v1'.f=some w.a.j):
 w'.c base e size v2 n xs/\Ka v1' v2:=by
 refine⟨h2.kept hg ?_,fun g h1 hh=>?_⟩
 ·cases hv:v2.f with
  | none=>exact .a rfl
  | some g=>exact .b (fun e'=>ha g e'.symm hv)
 ·rcases hat with h|h
  ·exact ha g (h ▸ h1) hh
  ·rw[h]at h1
   injection h1 with h1
   have:=(h2.lt g hh).2;omega
def Rz.an8{α:Type}{f:α->Array aB}{sz:Nat}{e:bE}{L:List (Nat×Array aB)}{w0 W W':ak}{v v1 v1':aB}{l:List α}(h:Rz f sz e L w0 W v l)(ha:Ka v1 v)(hg:W.d W' v1.f)(hat:v1'.f=v1.f\/v1'.f=some W.a.j)
 (hb:aL w0.a.j w0 W') (hL:∀p∈L,dM W' p.1 p.2):Rz f sz e L w0 W' v l/\Ka v1' v:=
 ⟨⟨(Tq h.vL ha hg hat).1,hb,fun p hp=>⟨hL p hp,(h.r p hp).2⟩⟩,(Tq h.vL ha hg hat).2⟩
structure Tc where
 tF:Option aT
 rW:Nat
 Da:Nat
 ru:Option aT
 qC:Nat
 yK:Nat
def Tc.ay(x:Tc):Array aB:=#[.a x.tF x.rW x.Da,.a x.ru x.qC x.yK]
def Tc.r(x:Tc):x.ay.j=2:=by simp[Tc.ay]
def Tc.dw(x:Tc):x.ay.all (·.h)=true:=by simp[Tc.ay,dx]
@[go_sem]theorem Tc.FU(x:Tc):x.ay[0]? = some (.a x.tF x.rW x.Da):=by simp[Tc.ay,aD]
@[go_sem]theorem Tc.yL(x:Tc):x.ay[1]? = some (.a x.ru x.qC x.yK):=by simp[Tc.ay,aD]
def Dx:Tc:=⟨none,0,0,none,0,0⟩
@[go_sem]theorem aAi:cB #[bC none 0 0,bC none 0 0]=cB Dx.ay:=rfl
@[go_sem]theorem avQ:eO #[bC none 0 0,bC none 0 0] 72=eO Dx.ay 72:=rfl
def kTc:pK 72 2 Dx.ay:=⟨⟨_,Gf,rfl⟩,by kernel_rfl,by kernel_rfl,Tc.r _⟩
@[go_sem ↓]theorem aLs(v:aB):cK 72 v=yY 72 v:=rfl
@[go_sem ↓]theorem aLt(v x:aB):eU 72 v x=zQ 72 v x:=rfl
@[go_sem]theorem aH2(W:ak)(b o:Nat)(x:Tc)(h:W.K b o 2):(zQ 72 (.c (some ⟨b,o,none⟩)) (.d x.ay)).G ah W = .Y () (gX W b o x.ay):=kTc.st W b o x.ay h (Tc.r x) (Tc.dw x)
@[go_sem ↓]theorem aLu(ps:Array (Nat×aB)):fQ 72 ps=uW 72 ps:=rfl
def aE6(w:ak)(fs:Array oh)(h:ah.underlying 72=some (.struct fs)):(iF (fun f=>Prod.mk f.X <$> sizeOf f.type) fs:Sem (Array (Nat×Nat))).G ah w = .Y #[(0,1),(1,1)] w:=by
 have e:=Gf;rw[h]at e;cases e;show _=_
 kernel_rfl
@[go_sem]theorem aAj(W:ak)(tF:Option aT)(rW:Nat)(Da:Nat)(ru:Option aT)(qC:Nat)(yK:Nat):(uW 72 #[(0,.a tF rW Da),(1,.a ru qC yK)]).G ah W = .Y (.d (Tc.mk tF rW Da ru qC yK).ay) W:=kTc.bd W _ _ _ _ Gf (aE6 W _ Gf) (by
 refine vo (Tc.r _) ?_ ?_
 ·simp[r9,cZ]
 ·simp[rF,cZ,Tc.ay]<;>(simp only[<-gD];rfl))
def TlR(W:ak)(A1:Option aT)(n1:Nat)(A2:Option aT)(n2:Nat)(t:Tl):Prop:=
 iE nmC 1 W W.a.j A1 n1 t.h/\n2=t.uR.a/\((n2=0/\A2=none)\/∃g d,A2=some ⟨g,0,none⟩/\dM W g d/\SlA d t.uR)
def TlP(w:ak)(t:Tl)(e:lU)(w':ak):Prop:=
 ∃A1 n1 c1 A2 n2 c2,e=.a (.I #[.d #[.a A1 n1 c1,.a A2 n2 c2],.b .a 0])/\TlR w' A1 n1 A2 n2 t/\aL w.a.j w w'/\(∀a,A1=some a->w.a.j<=a.block/\a.block<w'.a.j)/\∀a,A2=some a->w.a.j<=a.block/\a.block<w'.a.j
structure BuS(key:Vector UInt8 16)(n k8:Nat)(w4:ak)(r:List pR)(AN:Option aT)(nN cN:Nat)(AT:Option aT)(nT cT:Nat)(W:ak):Prop where
 zn:Rz nmC 1 9 [(k8,(Tc.mk AN nN cN none 0 0).ay)] w4 W (.a AN nN cN) (r.map (·.E))
 zt:Rz Tr.ay 5 155 [(k8,(Tc.mk AN nN cN none 0 0).ay)] w4 W (.a AT nT cT) (r.map (akI key n))
 ap:Ka (.a AN nN cN) (.a AT nT cT)
def BuS.start(key:Vector UInt8 16)(n:Nat)(w4:ak):BuS key n w4.a.j w4 [] none 0 0 none 0 0 (w4.alloc (.D Dx.ay 72)):=
 ⟨(Rz.nil w4).new Dx.ay _,(Rz.nil w4).new Dx.ay _,fun g h=>by cases h⟩
def BuS.alloc{key:Vector UInt8 16}{n k8:Nat}{w4:ak}{r:List pR}{AN:Option aT}{nN cN:Nat}{AT:Option aT}{nT cT:Nat}{W:ak}(h:BuS key n k8 w4 r AN nN cN AT nT cT W)(o:Obj):BuS key n k8 w4 r AN nN cN AT nT cT (W.alloc o):=⟨h.zn.alloc o,h.zt.alloc o,h.ap⟩
def BuS.go{key:Vector UInt8 16}{n k8:Nat}{w4:ak}{r:List pR}{AN:Option aT}{nN cN:Nat}{AT:Option aT}{nT cT:Nat}{W W':ak}(h:BuS key n k8 w4 r AN nN cN AT nT cT W)(hb:aL W.a.j W W'):BuS key n k8 w4 r AN nN cN AT nT cT W':=⟨h.zn.go hb,h.zt.go hb,h.ap⟩
def iE.aAk{α:Type}{f:α->Array aB}{s:Nat}(x:α)(hs:∀x,(f x).j=s)(w:ak)(t:bE)(k:Nat)(hk:w.a.j=k):iE f s (w.alloc (.D (f x) t)) (w.alloc (.D (f x) t)).a.j (some ⟨k,0,none⟩) 1 [x]:=by
 subst hk;exact iE.one x hs w t
def aeK{F:List Nat}{W W':ak}{base size n:Nat}{e:bE}{v:aB}{xs:List aB}(h:W.c base e size v n xs)(hf:jM F W W')(hn:∀g,v.f=some g->g∉F):W'.c base e size v n xs:=by
 refine⟨h.1,?_⟩;rcases h.2 with h0|⟨g,cap,cur,rfl,h2,h3,h4⟩
 ·exact .a h0
 ·exact .b ⟨g,cap,cur,rfl,h2,(hf.block g (bW.1 h3).1 (hn g rfl)).trans h3,h4⟩
def Tc.aE7(AN:Option aT)(nN cN:Nat)(A9:Option aT)(n9 c9:Nat):(Tc.mk AN nN cN none 0 0).ay.c 1 (.a A9 n9 c9)=(Tc.mk AN nN cN A9 n9 c9).ay:=by simp[Tc.ay]
def avR{W:ak}{base n c:Nat}{e:bE}{A:Option aT}{l:List Tr}(h:W.c base e 5 (.a A n c) n (l.h fun x=>x.ay.a))(hl:l.a=n)(hn:0<n):∃gt cur,A=some ⟨gt,0,none⟩/\dM W gt cur/\TrA cur l/\n<=c/\base<=gt:=by
 have hr:=iE.iG hl h;rcases h.2 with⟨hv,h0⟩|⟨g,cap,cur,hv,h2,h3,h4,h5,h6,h7⟩
 ·omega
 ·injection hv with e1 e2 e3
  subst e1 e3;refine⟨g,cur,rfl,⟨_,h3⟩,fun i hi j hj=>?_,h4,h2⟩;obtain⟨b,o,hA,_,hc⟩:=iE.cell Tr.r zM hr (show i<n by omega);cases hA;have h8:=hc j hj;rw[bl]at h8;rw[<-h8];exact((show dM W g cur from⟨_,h3⟩).J.1 (i*5+j)).symm
def aeL(key:Vector UInt8 16)(n:Nat)(r:List pR)(h:lT n=true):adi n r.a (IY (r.map fun x=>DT key x.E n) (r.map fun x=>AL key x.E n) n):=by
 intro i hi;have h2:=xw h;unfold IY;rw[qw _ r i 0 lJ hi,qw _ r i 0 lJ hi];obtain⟨s1,s2⟩:=VL key (r.b i lJ).E h2;exact⟨fun t=>Qt (by omega),fun j hj=>Vq h s1 s2 hj⟩
def Tc.aAl(AN:Option aT)(nN cN:Nat)(A9:Option aT)(n9 c9:Nat):(Tc.mk AN nN cN none 0 0).ay.c 0 (.a A9 n9 c9)=(Tc.mk A9 n9 c9 none 0 0).ay:=by simp[Tc.ay]
def BuS.aE8{k8:Nat}{w4 w9:ak}{l:List (List UInt8)}{AN:Option aT}{nN cN:Nat}{A9:Option aT}{n9 c9:Nat}(hk:k8=w4.a.j)(h:Rz nmC 1 9 [(k8,(Tc.mk AN nN cN none 0 0).ay)] w4 w9 (.a A9 n9 c9) l):
 Rz nmC 1 9 [(k8,(Tc.mk A9 n9 c9 none 0 0).ay)] w4 (w9.F ⟨k8,0,none⟩ (.a A9 n9 c9)) (.a A9 n9 c9) l:=by
 have:=h.am7 (aX hk.symm) (fun p hp=>by cases hp) 0 (.a A9 n9 c9);rw[Tc.aAl]at this;exact this
def BuS.aE9{k8:Nat}{w4 w9:ak}{l:List Tr}{AN:Option aT}{nN cN:Nat}{AT:Option aT}{nT cT:Nat}(hk:k8=w4.a.j)(h:Rz Tr.ay 5 155 [(k8,(Tc.mk AN nN cN none 0 0).ay)] w4 w9 (.a AT nT cT) l)(A9:Option aT)(n9 c9:Nat):
 Rz Tr.ay 5 155 [(k8,(Tc.mk A9 n9 c9 none 0 0).ay)] w4 (w9.F ⟨k8,0,none⟩ (.a A9 n9 c9)) (.a AT nT cT) l:=by
 have:=h.am7 (aX hk.symm) (fun p hp=>by cases hp) 0 (.a A9 n9 c9);rw[Tc.aAl]at this;exact this
theorem aeM(key:Vector UInt8 16)(n:Nat)(hp:lT n=true)(hn:n<=65537)(l:List pR)(hk:ark l)(hnm:∀x∈l,x.E.a<=1000000)(A:Option aT)(m c:Nat)(w:ak)(hR:iE pR.ay 2 w w.a.j A m l):
 aP ah 27 #[.d (jc key),.b .a n,.a A m c] w (TlP w (uL key n l)):=by
 have hl:=hR.1;have hm:m<=1024:=by have:=hk.2.2;omega
 have Z0:=ab (((Bx.start w).new (jc key) 22).new Dx.ay 72);have hs1:(w.alloc (.D (jc key) 22)).a.j=w.a.j+1:=by simp
 rw[hs1]at Z0;obtain⟨k1,hk1⟩:=bZ (w.a.j+1);have SO:=ab (fun(W:ak) (h:iE pR.ay 2 W W.a.j A m l)=>ab4 l hk.1 A m c W h (by omega));have MA:=ab (fun(W:ak) (A':Option aT) (c':Nat) (h:iE pR.ay 2 W W.a.j A' m l)=>aku l hk A' m c' W h);have PR:=ab (fun(W:ak)=>YN (W:=W) n hn);rw[hp]at PR;have R0:=ab ((hR.up (.D (jc key) 22)).up (.D Dx.ay 72));have t1:decide ((n:Int)>65537)=false:=by simp;omega
 have t2:decide ((65537:Int)<n)=false:=by simp;omega
 have t3:decide (65537<n)=false:=by simp;omega
 have HK:=ab hk;have HNM:=ab hnm;have HP:=ab hp;have HL:=ab hl;clear hk hnm hp hl hR hs1;rw[<-hk1]at Z0;have HK1:=ab hk1;go_enter Tryz.func27,Tryz.ntmps27;go_upto_region 1 with fail
 rw[<-HK1.i];generalize(w.alloc (.D (jc key) 22)).alloc (.D Dx.ay 72)=w1 at Z0 R0 ⊢;clear hk1;go_upto_region 4 with(first|(go_at_call 80;(with_reducible refine(SO.i _ R0.i).e ?_);rintro e w2 ⟨A2,c2,rfl,hr2,hb2⟩;have R2:=ab hr2;have Z2:=ab (Z0.i.go hb2);clear hr2 hb2)|(go_at_call 81;(with_reducible refine(PR.i _).e ?_);rintro e w3 ⟨rfl,rfl⟩)|(go_at_call 82;(with_reducible refine(MA.i _ A2 c2 R2.i).e ?_);rintro e w4 ⟨rfl,hb4⟩;have R4:=ab (R2.i.go hb4);have Z4:=ab (Z2.i.go hb4);clear hb4))
 obtain⟨k8,hk8⟩:=bZ w4.a.j;have BS:=ab (BuS.start key n w4);rw[<-hk8]at BS;have HK8:=ab hk8;go_upto_region 6 with fail
 rw[<-HK8.i];generalize w4.alloc (.D Dx.ay 72)=w5 at BS ⊢;clear hk8;go_wp2_with fail;go_loopw [31,9] (fun i v wr=>∃(k:Nat)(AN:Option aT)(nN cN:Nat)(AT:Option aT) (nT cT:Nat),k<=m/\i=.b .a k/\v=.a AT nT cT/\BuS key n k8 w4 (yN (l.d k)) AN nN cN AT nT cT wr)
  (fun i _ _=>m-(intOf i).g)
 case atStart=>exact⟨0,none,0,0,none,0,0,jf _,rfl,rfl,BS.i⟩
 case round=>
  obtain⟨k,AN,nN,cN,AT,nT,cT,hkm,rfl,rfl,hbs⟩:=hrel;have B0:=ab hbs;clear hbs;by_cases hlt:k<m
  ·have hki:(k:Int)<m:=by omega
   have RW:=ab (R4.i.M B0.i.zn.O);obtain⟨b,o,hA,hbb,hh,hc⟩:=iE.fH pR.BF lJ RW.i hlt;subst hA;obtain⟨x,hx⟩:=bZ (l.b k lJ);rw[<-hx]at hc;have hxm:x∈l:=by rw[hx,au,aC (by rw[HL.i];omega),Option.getD_some];exact fG _
   have hq1:=(HK.i.2.1 x hxm).1;have HXN:=ab (HNM.i x hxm);have Et:=ab (ag8 hx (show k<l.a by rw[HL.i];exact hlt));have B1:=ab (B0.i.alloc (.D x.ay 151));have X1:=ab (dM.new wr x.ay 151);have f0:∀i,(wr.alloc (.D x.ay 151)).b ⟨wr.a.j,i,none⟩=x.ay[i]?:=X1.i.J.1;have s0:=(f0 0).trans (pR.Ea x);have s1:=(f0 1).trans (pR.aq8 x);clear hx hbb hxm f0;by_cases hq:x.q=0
   ·have t1:decide (x.q>0)=false:=by simp[hq]
    have t2:decide (0<x.q)=false:=by simp[hq]
    have HQ:=ab hq;clear hq;go_wp2_with fail;go_roundw
    case rel=>
     have e:=Et.i;rw[if_pos HQ.i,List.append_nil]at e;exact⟨k+1,_,_,_,_,_,_,by omega,by simp,rfl,by rw[e];exact B1.i⟩
    case measure=>simp[intOf];omega
   ·have t1:decide (x.q>0)=true:=by simp;omega
    have t2:decide (0<x.q)=true:=by simp;omega
    have HQ:=ab hq;clear hq;obtain⟨r,hr⟩:=bZ (yN (l.d k));rw[<-hr]at B0 B1 Et;have HR:=ab hr;have HRL:=ab (show r.a+1<=1000000 by
     rw[hr];have h1:=pG (fun x:pR=>decide (x.q≠0)) (l.d k);have h2:=List.length_take_le k l;have h3:(yN (l.d k)).a<=(l.d k).a:=h1;omega)
    clear hr;obtain⟨po,hpo⟩:=bZ (DT key x.E n);obtain⟨ps,hps⟩:=bZ (AL key x.E n);have PO:=ab (agW key x.E n (xw HP.i) (by omega) HXN.i);rw[<-hpo,<-hps]at PO;have HTR:=ab (show akI key n x=Tr.mk x.q 0 (po:Nat) (ps:Nat) 0 by unfold akI;rw[hpo,hps]);clear hpo hps;have l1:=Xh.ni (Z4.i.b1.go B1.i.zn.O) (dN _);have HKX:=ab (show k8≠wr.a.j from fun e=>by have:=B0.i.zn.R.lt;omega);have HNX:=ab (show∀g,(bC AN nN cN).f=some g->g≠wr.a.j from fun g e=>by have:=(B0.i.zn.lt e).2;omega);have HTX:=ab (show∀g,(bC AT nT cT).f=some g->g≠wr.a.j from fun g e=>by have:=(B0.i.zt.lt e).2;omega);obtain⟨kx,hkx⟩:=bZ wr.a.j;rw[<-hkx]at HKX HNX HTX X1;have aFa:=ab hkx;clear hkx;go_upto_region 10 with fail
    rw[<-aFa.i]at s0 s1 ⊢;generalize wr.alloc (.D x.ay 151)=w6 at s0 s1 l1 B1 X1 ⊢;go_wp2_with (first
     | (go_at_call 83;(with_reducible refine(PO.i _).e ?_);rintro e w7 ⟨rfl,hb7⟩;have B7:=ab (B1.i.go hb7);have X7:=ab (X1.i.go hb7);clear s0 s1 l1 hb7;have s0:=(X7.i.J.1 0).trans (pR.Ea x);have s1:=(X7.i.J.1 1).trans (pR.aq8 x);have s2:=(B7.i.zn.R.J.1 0).trans (Tc.FU _))
     | (refine Xz aiy rfl (.a 47) (.a 50) rfl rfl (B7.i.alloc (.D (nmC x.E) 9)).zn rfl (iE.one x.E PW w7 9) (by rw[bV];exact HRL.i) ?_;intro A9 n9 c9 w9 h9 g9 a9;have N9:=ab h9;have T9:=ab ((B7.i.alloc (.D (nmC x.E) 9)).zt.an8 B7.i.ap g9 a9 h9.O (fun p hp=>(h9.r p hp).1));have X9:=ab ((X7.i.alloc (.D (nmC x.E) 9)).grown g9 (fun e=>HNX.i kx e.symm rfl));clear s0 s1 s2 h9 g9 a9;have s3:=N9.i.R.J.1 0;have s4:=N9.i.R.J.2.1 0;rw[Tc.FU]at s3;have N10:=ab (BuS.aE8 HK8.i N9.i);have T10:=ab (BuS.aE9 HK8.i T9.i.1 A9 n9 c9);have X10:=ab (X9.i.dP ⟨k8,0,none⟩ (.a A9 n9 c9) HKX.i);have s1:=(X10.i.J.1 1).trans (pR.aq8 x))
     | (refine Xz arC rfl (.a 53) (.a 59) rfl rfl (T10.i.alloc (.D (Tr.mk x.q 0 (po:Nat) (ps:Nat) 0).ay 155)) rfl (iE.aAk (Tr.mk x.q 0 (po:Nat) (ps:Nat) 0) Tr.r (w9.F ⟨k8,0,none⟩ (.a A9 n9 c9)) 155 w9.a.j (by simp)) (by rw[bV];exact HRL.i) ?_;intro A11 n11 c11 w11 h11 g11 a11;have T11:=ab h11;have N11:=ab ((N10.i.alloc (.D (Tr.mk x.q 0 (po:Nat) (ps:Nat) 0).ay 155)).an8 T9.i.2.symm g11 a11 h11.O (fun p hp=>(h11.r p hp).1));clear h11 g11 a11))
    go_roundw
    case rel=>
     have e:=Et.i;rw[if_neg HQ.i]at e;refine⟨k+1,A9,n9,c9,A11,n11,c11,by omega,by simp,rfl,?_⟩;rw[e];refine⟨?_,?_,N11.i.2.symm⟩
     ·rw[iY];exact N11.i.1
     ·rw[iY,kR,oD,HTR.i];exact T11.i
    case measure=>simp[intOf];omega
  ·obtain rfl:k=m:=by omega
   have hd:decide ((k:Int)<k)=false:=by simp
   have HRW:yN (l.d k)=yN l:=by rw[aJ (by rw[HL.i];omega)]
   rw[HRW]at B0;obtain⟨r,hr⟩:=bZ (yN l);rw[<-hr]at B0;have hnT:=B0.i.zt.len;rw[bV]at hnT;have BX1:=ab (Z4.i.R.go B0.i.zn.O);have HKS:=ab (show w.a.j<=k1/\k1<w4.a.j/\w4.a.j=k8/\k8<wr.a.j from⟨by rw[HK1.i];omega,Z4.i.R.lt,HK8.i.symm,B0.i.zn.R.lt⟩);have TH1:=BX1.i.K 0 2 (aX (Tc.r _).symm);have HR:=ab hr;have HNB:=ab (show∀g,(bC AN nN cN).f=some g->w4.a.j<=g/\g≠k8 from fun g e=>⟨(B0.i.zn.lt e).1,fun e2=>by
    have:=(B0.i.zn.r _ (mH ..)).2;exact this (by rw[e,e2])⟩)
   by_cases h0:r=[]
   ·have z1:decide ((nT:Int)=0)=true:=by simp[hnT,h0]
    have z2:((nT:Int)==0)=true:=by simp[hnT,h0]
    have z3:decide (nT=0)=true:=by simp[hnT,h0]
    have z4:(nT==0)=true:=by simp[hnT,h0]
    have ld:=kTc.ni B0.i.zn.R (Tc.r _);have H0:=ab h0;clear hnT h0 hr HRW;obtain⟨X,hX⟩:=bZ (Tc.mk AN nN cN none 0 0);rw[<-hX]at ld;have HX:=ab hX;clear hX;go_wp2_with fail;refine aN (kTc.qW rfl _ rfl (BX1.i.put X.ay (by rw[Tc.r,Tc.r])) (Tc.r _)) rfl ?_;have F:=jM.VO (F:=[k1]) (mo (dQ wr (some k1)) 0 X.ay) (fun g e=>.a (by injection e with e;simp[e]));refine⟨AN,nN,cN,none,0,0,by rw[HX.i];rfl,⟨?_,?_,?_⟩,?_,(fun a e=>by have h1:=(HNB.i a.block (by rw[e];rfl)).1;have h2:=Z4.i.O.j;have h3:=(B0.i.zn.lt (k:=a.block) (by rw[e];rfl)).2;have h4:=F.j;omega),fun a e=>by cases e⟩
    ·have:=aeK B0.i.zn.vL F (fun g e hm=>by
      have h1:=(HNB.i g e).1;have h2:=HKS.i;simp at hm;omega)
     rw[Tp _ _ _ (by rw[<-HR.i,H0.i])];have h2:=B0.i.zn.len;rw[<-h2]at this;have h3:=iE.iG (by rw[h2]) this;rw[H0.i]at h3;exact h3
    ·rw[Tp _ _ _ (by rw[<-HR.i,H0.i])];rfl
    ·exact .a ⟨rfl,rfl⟩
    ·refine(fJ Z4.i.O B0.i.zn.O).trans ?_
     exact F.uq (fun g hg=>by simp at hg;have:=HKS.i;omega) (aO Z4.i.O.j B0.i.zn.O.j)
   ·have hpos:0<r.a:=List.length_pos_iff.2 h0
    have hz:¬(nT:Int)=0:=by omega
    have z1:decide ((nT:Int)=0)=false:=by simpa using hz
    have z2:((nT:Int)==0)=false:=by simpa using hz
    have z3:decide (nT=0)=false:=by simp;omega
    have z4:(nT==0)=false:=by simp;omega
    obtain⟨gt,cur,hAT,hbt,htr,hcap,hgt⟩:=avR (by have:=B0.i.zt.vL;rwa [bV,<-hnT]at this) (by rw[bV,hnT]) (by omega);subst hAT;have HGK:=ab (show gt≠k8 from fun e=>(B0.i.zt.r _ (mH ..)).2 (by rw[<-e];rfl));have HGN:=ab (show∀g,(bC AN nN cN).f=some g->g≠gt from fun g e e2=>B0.i.ap g e (by rw[e2];rfl));have HGT:=ab (show gt<wr.a.j/\w4.a.j<=gt from⟨hbt.lt,hgt⟩);have hn1:1<=n:=by have:=xw HP.i;omega
    have RE:=ab (ag1 n hn1 (by omega) wr.a.j 1 (-1) (wr.alloc (.D (sZ [-1]) 3)) (dM.new wr _ _));have hq0:∀x∈r,0<x.q:=by
     intro x hx;rw[hr]at hx;obtain⟨h1,h2⟩:=mK.1 hx;have:=(HK.i.2.1 x h1).1;simp at h2;omega
    have hrl:r.a<=1024:=by rw[hr];have:(yN l).a<=l.a:=pG _ _;have:=HK.i.2.2;omega
    have hgr:mh (r.map fun x=>x.q.g)<=100000000:=by
     obtain⟨i,hi,e⟩:=DU (q:=r.map fun x=>x.q.g) (by simpa using h0) (by
      intro y hy;obtain⟨x,hx,rfl⟩:=iZ.1 hy;have:=hq0 x hx;omega)
     rw[<-e];rw[bV]at hi;rw[qw _ r i 0 lJ hi];have hm2:r.b i lJ∈yN l:=by rw[<-hr,au,aC hi];exact fG _
     have:=(HK.i.2.1 _ (mK.1 hm2).1).2;omega
    have FI:=ab (fun(W:ak) (sb:Nat) (d:Array aB) (hc:dM W gt cur) (hd:dM W sb d) (hne:gt≠sb) (hS:SlA d (dY n (-1)))=>
     agY gt sb nT cT n n (mh (r.map fun x=>x.q.g)) (r.map fun x=>x.q.g) (r.map fun x=>DT key x.E n) (r.map fun x=>AL key x.E n) cur d (r.map (akI key n)) W rfl hc hd hne (by rw[bV,hnT]) htr hS (akJ key n r h0 hq0) (by omega) (by omega) hcap hn1 (by omega) (av _)
      (by intro y hy;obtain⟨x,hx,rfl⟩:=iZ.1 hy;have:=hq0 x hx;omega) hgr
      (by intro i hi;rw[qw _ r i 0 lJ (by omega)];have:=amt key (r.b i lJ).E (xw HP.i);omega)
      (by intro i hi;rw[qw _ r i 0 lJ (by omega)];have:=(VL key (r.b i lJ).E (xw HP.i)).2;omega)
      (by rw[hnT];exact aeL key n r HP.i))
    have HFV:=ab (adD (n:=n) (q:=r.map fun x=>x.q.g) (ch:=IY (r.map fun x=>DT key x.E n) (r.map fun x=>AL key x.E n) n) (by simpa using h0) (by intro y hy;obtain⟨x,hx,rfl⟩:=iZ.1 hy;have:=hq0 x hx;omega) (by rw[bV];exact aeL key n r HP.i)).1;have HT:=ab (show uL key n l=⟨r.map (·.E),Fu n (r.map fun x=>x.q.g) (IY (r.map fun x=>DT key x.E n) (r.map fun x=>AL key x.E n) n)⟩by rw[aeI key n l (by rw[<-hr];exact h0),<-hr]);generalize Fu n (r.map fun x=>x.q.g) (IY (r.map fun x=>DT key x.E n) (r.map fun x=>AL key x.E n) n)=fv at FI HFV HT;have BT0:=ab hbt;have hw1:(wr.alloc (.D (sZ [-1]) 3)).a.j=wr.a.j+1:=by simp
    have HW1:=ab hw1;clear hnT h0 hpos hz hbt htr hcap hgt hq0 hrl hgr hr HRW hw1;go_wp2_with (first
     | (go_at_call 84;go_loud ((with_reducible refine RE.i.e ?_);rintro e w2 ⟨g,d,hg1,rfl,hb2,hds,hsl,hbel⟩;have HG:=ab (show wr.a.j<g by rw[HW1.i]at hg1;omega);have K2:=ab ((B0.i.zn.R.alloc (.D (sZ [-1]) 3)).go hbel);have X2:=ab ((BX1.i.alloc (.D (sZ [-1]) 3)).go hbel);have T2:=ab ((BT0.i.alloc (.D (sZ [-1]) 3)).go hbel);have F2:=ab (((jM.refl [k8,gt,k1] wr).alloc (.D (sZ [-1]) 3)).M hbel (by rw[HW1.i];omega));have HSL:=ab hsl;have K3:=ab (show dM (w2.F ⟨k8,1,none⟩ (.a (some ⟨g,0,none⟩) n n)) k8 (Tc.mk AN nN cN (some ⟨g,0,none⟩) n n).ay by have:=K2.i.eX 1 (.a (some ⟨g,0,none⟩) n n);rwa [Tc.aE7]at this);have s1:=K2.i.J.1 1;rw[Tc.yL]at s1;have s2:=K2.i.J.2.1 1;have s3:=K3.i.J.1 1;rw[Tc.yL]at s3;have FX:=ab (FI.i (w2.F ⟨k8,1,none⟩ (.a (some ⟨g,0,none⟩) n n)) g d (T2.i.dP ⟨k8,1,none⟩ _ HGK.i.symm) (hb2.dP ⟨k8,1,none⟩ _ (by have:=HG.i;have:=HKS.i;show k8≠g;omega)) (by have:=HG.i;have:=HGT.i;omega) hsl);clear hg1 hb2 hds hsl hbel))
     | (go_at_call 85;(with_reducible refine FX.i.e ?_);rintro e w5 ⟨rfl,⟨d5,hd5,aAm⟩,hfr⟩;have K5:=ab (hfr.box K3.i (by have:=HGK.i;have:=HG.i;have:=HKS.i;simp;omega));have X5:=ab (hfr.box (X2.i.dP ⟨k8,1,none⟩ (.a (some ⟨g,0,none⟩) n n) (by have:=HKS.i;show k8≠k1;omega)) (by have:=HG.i;have:=HGT.i;have:=HKS.i;simp;omega));have F5:=ab ((F2.i.set ⟨k8,1,none⟩ (.a (some ⟨g,0,none⟩) n n) (.a (by simp))).trans hfr (fun x hx=>by have:=HG.i;simp at hx⊢;omega));have D5:=ab hd5;have SD5:=ab aAm;clear s1 s2 s3 hd5 aAm hfr;have ld:=kTc.ni K5.i (Tc.r _);have th:=X5.i.K 0 2 (aX (Tc.r _).symm)))
    refine aN (kTc.qW rfl _ rfl (X5.i.put (Tc.mk AN nN cN (some ⟨g,0,none⟩) n n).ay (by rw[Tc.r,Tc.r])) (Tc.r _)) rfl ?_;have F:=F5.i.grown (mo (dQ w5 (some k1)) 0 (Tc.mk AN nN cN (some ⟨g,0,none⟩) n n).ay) (fun j e=>.a (by injection e with e;simp[e]));refine⟨AN,nN,cN,some ⟨g,0,none⟩,n,n,rfl,⟨?_,by rw[HT.i];exact HFV.i.symm,.b ⟨g,d5,rfl,D5.i.gK (by have:=HG.i;have:=HKS.i;omega),by rw[HT.i];exact SD5.i⟩⟩,?_,(fun a e=>by have h1:=(HNB.i a.block (by rw[e];rfl)).1;have h2:=Z4.i.O.j;have h3:=(B0.i.zn.lt (k:=a.block) (by rw[e];rfl)).2;have h4:=F.j;omega),fun a e=>by injection e with e;subst e;have h1:=HG.i;have h2:=Z4.i.O.j;have h3:=B0.i.zn.O.j;have h4:=(D5.i.gK (b2:=k1) (o:=0) (x:=(Tc.mk AN nN cN (some ⟨g,0,none⟩) n n).ay) (by have:=HG.i;have:=HKS.i;omega)).lt;exact⟨by show _<=g;omega,h4⟩⟩
    ·have:=aeK B0.i.zn.vL F (fun g e hm=>by
       have h1:=HNB.i g e;have h2:=HKS.i;have h3:=HGN.i g e;simp at hm;omega)
     rw[HT.i];have h2:=B0.i.zn.len;rw[<-h2]at this;exact iE.iG (by rw[h2]) this
    ·refine(fJ Z4.i.O B0.i.zn.O).trans ?_
     exact F.uq (fun g hg=>by simp at hg;have:=HKS.i;have:=HGT.i;omega) (aO Z4.i.O.j B0.i.zn.O.j)
def as8:Option (List UInt8)->aB
 | none=>.I #[.g (bP []),.e false]
 | some s=>.I #[.g (bP s),.e true]
def aAn(t:Tl):Prop:=∀j,j<t.uR.a->∃i,i<t.h.a/\t.uR.b j 0=(i:Int)
def ag9(t:Tl)(ok:aAn t)(h:Nat)(hh:h<18446744073709551616)(A1:Option aT)(n1 c1:Nat)(A2:Option aT)(n2 c2:Nat)(w:ak)(hT:TlR w A1 n1 A2 n2 t)(hn2:n2<=100000)(hn1:n1<=100000):
 aP ah 35 #[.d (Tc.mk A1 n1 c1 A2 n2 c2).ay,.b .u64 h] w (fT w (as8 (Ir t h))):=by
 obtain⟨hN,hs,hS⟩:=hT;have X0:=ab (dM.new w (Tc.mk A1 n1 c1 A2 n2 c2).ay 72);have B0:=ab ((aG w.a.j w).alloc (av _) (.D (Tc.mk A1 n1 c1 A2 n2 c2).ay 72));have N0:=ab (hN.up (.D (Tc.mk A1 n1 c1 A2 n2 c2).ay 72));have f0:=(X0.i.J.1 0).trans (Tc.FU _);have f1:=(X0.i.J.1 1).trans (Tc.yL _);by_cases h0:n2=0
 ·have z1:decide ((n2:Int)=0)=true:=by simp[h0]
  have z2:((n2:Int)==0)=true:=by simp[h0]
  have z3:decide (n2=0)=true:=by simp[h0]
  have z4:(n2==0)=true:=by simp[h0]
  have HP:=ab (show Ir t h=none by unfold Ir;rw[<-hs,if_pos h0]);clear h0 hs hS hN;go_enter Tryz.func35,Tryz.ntmps35;go_wp2;go_ret2;exact⟨by rw[HP.i];rfl,B0.i⟩
 ·have hz:¬(n2:Int)=0:=by omega
  have z1:decide ((n2:Int)=0)=false:=by simpa using hz
  have z2:((n2:Int)==0)=false:=by simpa using hz
  have z3:decide (n2=0)=false:=by simpa using h0
  have z4:(n2==0)=false:=by simpa using h0
  obtain⟨g,d,hA,hd,hsl⟩:∃g d,A2=some ⟨g,0,none⟩/\dM w g d/\SlA d t.uR:=by
   rcases hS with⟨e,_⟩|hS
   ·exact absurd e h0
   ·exact hS
  subst hA;obtain⟨j,hj⟩:=bZ (h%n2);have hjl:j<n2:=by rw[hj];exact fE _ (by omega)
  have hji:(j:Int)<n2:=by omega
  obtain⟨i,hi,hv⟩:=ok j (by rw[<-hs];exact hjl);obtain⟨b,o,hA1,_,hc⟩:=iE.cell PW [] N0.i (show i<n1 by rw[<-hN.1];exact hi);have hii:(i:Int)<n1:=by rw[<-hN.1];omega
  subst hA1;obtain⟨s,hsn⟩:=bZ (t.h.b i []);have f3:=hc 0 (by omega);rw[<-hsn,mW,gL]at f3
  replace f3:(w.alloc (.D (Tc.mk (some ⟨b,o,none⟩) n1 c1 (some ⟨g,0,none⟩) n2 c2).ay 72)).b ⟨b,o+i,none⟩=some (.g (bP s)):=f3
  have f2:=(hd.alloc (.D (Tc.mk (some ⟨b,o,none⟩) n1 c1 (some ⟨g,0,none⟩) n2 c2).ay 72)).J.1 j;rw[hsl j (by rw[<-hs];exact hjl),hv]at f2;have HP:=ab (show Ir t h=some s by unfold Ir;rw[<-hs,if_neg h0,<-hj,hv,dU,hsn]);have e1:(h:Int)%(n2:Int)=(j:Int):=by rw[hj];omega
  have e2:Int.tmod (h:Int) (n2:Int)=(j:Int):=by rw[Int.tmod_eq_emod_of_nonneg (by omega)];exact e1
  have u1:=anV n2 (by omega);have u2:=anV j (by omega);have i1:=jW (n2:Int) (by omega);have h0':¬n2=0:=h0;clear hj hs hS hN hc hsn hv hi hd hsl h0;go_enter Tryz.func35,Tryz.ntmps35;go_wp2_with fail;go_quiet (fail);go_wp2;go_ret2;exact⟨by rw[HP.i];rfl,eH B0.i _⟩
abbrev aeN(o:Option Nat):aB:=.c (o.map fun b=>⟨b,0,none⟩)
structure Pc where
 lD:Int
 rA:Option aT
 rN:Nat
 rC:Nat
def Pc.ay(x:Pc):Array aB:=#[.b .a x.lD,.a x.rA x.rN x.rC]
def Pc.r(x:Pc):x.ay.j=2:=by simp[Pc.ay]
def Pc.dw(x:Pc):x.ay.all (·.h)=true:=by simp[Pc.ay,dx]
@[go_sem]theorem Pc.eB(x:Pc):eB x.ay=2:=Pc.r x
@[go_sem]theorem Pc.all(x:Pc):x.ay.m 0 2=x.ay:=by have:=Pc.r x;rw[<-this];simp
@[go_sem]theorem Pc.acd(x:Pc):x.ay[0]? = some (.b .a x.lD):=by simp[Pc.ay,aD]
@[go_sem]theorem Pc.an'(x:Pc):x.ay[1]? = some (.a x.rA x.rN x.rC):=by simp[Pc.ay,aD]
def Pc.aiB(x:Pc)(A:Option aT)(n c:Nat):x.ay.c 1 (.a A n c)=({x with rA:=A,rN:=n,rC:=c}:Pc).ay:=by simp[Pc.ay,aM]
def Yu:Pc:=⟨0,none,0,0⟩
@[go_sem]theorem aAo:cB #[aI bU 0,bC none 0 0]=cB Yu.ay:=rfl
@[go_sem]theorem avS:eO #[aI bU 0,bC none 0 0] 32=eO Yu.ay 32:=rfl
def kPc:pK 32 2 Yu.ay:=⟨⟨_,Tryz.underlying32,rfl⟩,by kernel_rfl,by kernel_rfl,Pc.r _⟩
@[go_sem ↓]theorem arE(v:aB):cK 32 v=yY 32 v:=rfl
@[go_sem ↓]theorem aLF(v x:aB):eU 32 v x=zQ 32 v x:=rfl
@[go_sem]theorem aH8(W:ak)(b o:Nat)(h:vK W b o 2):(yY 32 (.c (some ⟨b,o,none⟩))).G ah W = .Y (.d (dO W b o 2)) W:=kPc.ld W b o h
@[go_sem]theorem aFe(W:ak)(c:Array aB)(x:Pc)(b:Nat)(hb:b=W.a.j)(hc:eB c=2):(zQ 32 (.c (some ⟨b,0,none⟩)) (.d x.ay)).G ah (W.alloc (.D c 32)) = .Y () (W.alloc (.D x.ay 32)):=kPc.stN W c x.ay b hb hc (Pc.r x) (Pc.dw x)
@[go_sem]theorem aH9(W:ak)(b o:Nat)(x:Pc)(h:W.K b o 2):(zQ 32 (.c (some ⟨b,o,none⟩)) (.d x.ay)).G ah W = .Y () (gX W b o x.ay):=kPc.st W b o x.ay h (Pc.r x) (Pc.dw x)
@[go_sem ↓]theorem aLG(ps:Array (Nat×aB)):fQ 32 ps=uW 32 ps:=rfl
structure Eg where
 key:Vector UInt8 16
 cf:Cn
 pl:Pc
 Qh:Option aT
 EK:Nat
 Uq:Nat
 dnA:Option aT
 dnN:Nat
 dnC:Nat
 fl:Option Nat
 h:Tc
 fK:Int
 no:Int
 S:Vector Int 11
def Eg.ay(x:Eg):Array aB:=jc x.key++(x.cf.ay++(x.pl.ay++(#[.a x.Qh x.EK x.Uq,.a x.dnA x.dnN x.dnC,aeN x.fl]++(x.h.ay++(#[.b .a x.fK,.b .a x.no]++yD x.S)))))
def Eg.r(x:Eg):x.ay.j=90:=by simp[Eg.ay,Cn.r,Pc.r,Tc.r,dN,ko]
@[go_sem]theorem Eg.abY(x:Eg):x.ay.m 0 16=jc x.key:=by simp[Eg.ay,dD,Cn.r,Pc.r,Tc.r,dN,ko,qB,uw]
@[go_sem]theorem Eg.as9(x:Eg):x.ay.m 16 70=x.cf.ay:=by simp[Eg.ay,dD,Cn.r,Pc.r,Tc.r,dN,ko,qB,uw]
@[go_sem]theorem Eg.aiC(x:Eg):x.ay.m 70 72=x.pl.ay:=by simp[Eg.ay,dD,Cn.r,Pc.r,Tc.r,dN,ko,qB,uw]
@[go_sem]theorem Eg.aam(x:Eg):x.ay[72]? = some (.a x.Qh x.EK x.Uq):=by simp[Eg.ay,aD,Cn.r,Pc.r,Tc.r,dN,ko]
@[go_sem]theorem Eg.aoa(x:Eg):x.ay[73]? = some (.a x.dnA x.dnN x.dnC):=by simp[Eg.ay,aD,Cn.r,Pc.r,Tc.r,dN,ko]
@[go_sem]theorem Eg.aan(x:Eg):x.ay[74]? = some (aeN x.fl):=by simp[Eg.ay,aD,Cn.r,Pc.r,Tc.r,dN,ko]
@[go_sem]theorem Eg.aob(x:Eg):x.ay.m 75 77=x.h.ay:=by simp[Eg.ay,dD,Cn.r,Pc.r,Tc.r,dN,ko,qB,uw]
@[go_sem]theorem Eg.UQ(x:Eg):x.ay[77]? = some (.b .a x.fK):=by simp[Eg.ay,aD,Cn.r,Pc.r,Tc.r,dN,ko]
@[go_sem]theorem Eg.aoc(x:Eg):x.ay[78]? = some (.b .a x.no):=by simp[Eg.ay,aD,Cn.r,Pc.r,Tc.r,dN,ko]
@[go_sem]theorem Eg.aod(x:Eg):x.ay.m 79 90=yD x.S:=by simp[Eg.ay,dD,Cn.r,Pc.r,Tc.r,dN,ko,qB,uw]
def Eg.aha(x:Eg)(A:Option aT)(n c:Nat):x.ay.c 72 (.a A n c)=({x with Qh:=A,EK:=n,Uq:=c}:Eg).ay:=by simp[Eg.ay,aM,Cn.r,Pc.r,Tc.r,dN,ko]
def Eg.avT(x:Eg)(A:Option aT)(n c:Nat):x.ay.c 73 (.a A n c)=({x with dnA:=A,dnN:=n,dnC:=c}:Eg).ay:=by simp[Eg.ay,aM,Cn.r,Pc.r,Tc.r,dN,ko]
def Eg.avU(x:Eg)(v:Option Nat):x.ay.c 74 (aeN v)=({x with fl:=v}:Eg).ay:=by simp[Eg.ay,aM,Cn.r,Pc.r,Tc.r,dN,ko]
def Eg.aeO(x:Eg)(v:Int):x.ay.c 77 (.b .a v)=({x with fK:=v}:Eg).ay:=by simp[Eg.ay,aM,Cn.r,Pc.r,Tc.r,dN,ko]
def Eg.aoe(x:Eg)(v:Int):x.ay.c 78 (.b .a v)=({x with no:=v}:Eg).ay:=by simp[Eg.ay,aM,Cn.r,Pc.r,Tc.r,dN,ko]
def aFf:Eg:=⟨(bJ 16 0),Rh,Yu,none,0,0,none,0,0,none,Dx,0,0,(bJ 11 0)⟩
def kEg:pK 123 90 aFf.ay:=⟨⟨_,Er,rfl⟩,by kernel_rfl,by kernel_rfl,Eg.r _⟩
@[go_sem ↓]theorem aLI(v:aB):cK 123 v=yY 123 v:=rfl
@[go_sem ↓]theorem aLJ(v x:aB):eU 123 v x=zQ 123 v x:=rfl
@[go_sem ↓]theorem aLK(ps:Array (Nat×aB)):fQ 123 ps=uW 123 ps:=rfl
def aFg(w:ak)(fs:Array oh)(h:ah.underlying 123=some (.struct fs)):(iF (fun f=>Prod.mk f.X <$> sizeOf f.type) fs:Sem (Array (Nat×Nat))).G ah w = .Y #[(0,16),(16,54),(70,2),(72,1),(73,1),(74,1),(75,2),(77,1),(78,1),(79,11)] w:=by
 have e:=Er;rw[h]at e;cases e;show _=_
 kernel_rfl
def Eg.arF(x:Eg)(v:Vector UInt8 16):sV x.ay 0 (jc v)=({x with key:=v}:Eg).ay:=by
 unfold Eg.ay;exact Hu (by rw[dN,dN])
def Eg.avV(x:Eg)(v:Cn):sV x.ay 16 v.ay=({x with cf:=v}:Eg).ay:=by
 unfold Eg.ay;exact re (by rw[Cn.r,Cn.r]) 16 (dN _)
def Eg.aof(x:Eg)(v:Pc):sV x.ay 70 v.ay=({x with pl:=v}:Eg).ay:=by
 unfold Eg.ay;have:=re (p:=jc x.key++x.cf.ay) (q:=x.pl.ay) (r:=#[.a x.Qh x.EK x.Uq,.a x.dnA x.dnN x.dnC,aeN x.fl]++(x.h.ay++(#[.b .a x.fK,.b .a x.no]++yD x.S))) (v:=v.ay) (by rw[Pc.r,Pc.r]) 70 (by simp[Cn.r,dN]);simpa[gD]using this
def Eg.avW(x:Eg)(v:Tc):sV x.ay 75 v.ay=({x with h:=v}:Eg).ay:=by
 unfold Eg.ay;have:=re (p:=jc x.key++x.cf.ay++x.pl.ay ++ #[.a x.Qh x.EK x.Uq,.a x.dnA x.dnN x.dnC,aeN x.fl]) (q:=x.h.ay) (r:=#[.b .a x.fK,.b .a x.no]++yD x.S) (v:=v.ay) (by rw[Tc.r,Tc.r]) 75 (by simp[Cn.r,dN,Pc.r]);simpa[gD]using this
def Eg.arG(x:Eg)(v:Vector Int 11):sV x.ay 79 (yD v)=({x with S:=v}:Eg).ay:=by
 unfold Eg.ay;have:=re (p:=jc x.key++x.cf.ay++x.pl.ay ++ #[.a x.Qh x.EK x.Uq,.a x.dnA x.dnN x.dnC,aeN x.fl]++x.h.ay ++ #[.b .a x.fK,.b .a x.no]) (q:=yD x.S) (r:=#[]) (v:=yD v) (by rw[ko,ko]) 79 (by simp[Cn.r,dN,Pc.r,Tc.r]);simpa[gD]using this
@[go_sem]theorem aog(W:ak)(key:Vector UInt8 16)(cf:Cn)(pl:Pc)(A:Option aT)(n c:Nat)(ti no:Int)(ct:Vector Int 11):(uW 123 #[(0,.d (jc key)),(1,.d cf.ay),(2,.d pl.ay),(3,.a A n c),(7,.b .a ti),(8,.b .a no),(9,.d (yD ct))]).G ah W = .Y (.d (Eg.mk key cf pl A n c none 0 0 none Dx ti no ct).ay) W:=kEg.bd W _ _ _ _ Er (aFg W _ Er) (by
 refine(tu rfl (dN _) (by rw[Eg.r];omega) (Eg.arF _ _)).trans ?_;refine(tu rfl (Cn.r _) (by rw[Eg.r];omega) (Eg.avV _ _)).trans ?_;refine(tu rfl (Pc.r _) (by rw[Eg.r];omega) (Eg.aof _ _)).trans ?_;refine(iB rfl rfl (by rw[Eg.r];omega) (Eg.aha _ _ _ _)).trans ?_;refine(iB rfl rfl (by rw[Eg.r];omega) (Eg.aeO _ _)).trans ?_;refine(iB rfl rfl (by rw[Eg.r];omega) (Eg.aoe _ _)).trans ?_;refine(tu rfl (ko _) (by rw[Eg.r];omega) (Eg.arG _ _)).trans ?_;rfl)
def Eg.PX(x:Eg)(j:Nat)(hj:j<54):x.ay[16+j]? = x.cf.ay[j]?:=by
 have h:=Eg.as9 x;have h2:(x.ay.m 16 70)[j]? = x.cf.ay[j]?:=by rw[h]
 rw[dA,if_pos (by rw[Eg.r];omega)]at h2;exact h2
def Eg.PY(x:Eg)(a b:Nat)(hb:a<=b/\b<=54):x.ay.m (16+a) (16+b)=x.cf.ay.m a b:=by
 apply dZ;intro j;rw[dA,dA,Eg.r,Cn.r];by_cases h:j<b-a
 ·rw[if_pos (by omega),if_pos (by omega),Nat.add_assoc];exact Eg.PX x (a+j) (by omega)
 ·rw[if_neg (by omega),if_neg (by omega)]
def Eg.aoh(x:Eg)(j:Nat)(hj:j<11):x.ay[79+j]? = some (.b .a (x.S.a.b j 0)):=by
 have h:=Eg.aod x;have h2:(x.ay.m 79 90)[j]? = (yD x.S)[j]?:=by rw[h]
 rw[dA,if_pos (by rw[Eg.r];omega),V7 _ _ hj]at h2;exact h2
def Eg.acd(x:Eg):x.ay[70]? = some (.b .a x.pl.lD):=by
 have h2:(x.ay.m 70 72)[0]? = x.pl.ay[0]?:=by rw[Eg.aiC]
 rwa [dA,if_pos (by rw[Eg.r];omega),Pc.acd]at h2
def Eg.FU(x:Eg):x.ay[75]? = some (.a x.h.tF x.h.rW x.h.Da):=by
 have h2:(x.ay.m 75 77)[0]? = x.h.ay[0]?:=by rw[Eg.aob]
 rwa [dA,if_pos (by rw[Eg.r];omega),Tc.FU]at h2
def Eg.yL(x:Eg):x.ay[76]? = some (.a x.h.ru x.h.qC x.h.yK):=by
 have h2:(x.ay.m 75 77)[1]? = x.h.ay[1]?:=by rw[Eg.aob]
 rwa [dA,if_pos (by rw[Eg.r];omega),Tc.yL]at h2
def Eg.KX(x:Eg):x.ay[16]? = some (.a x.cf.qP x.cf.iX x.cf.qZ):=(Eg.PX x 0 (by omega)).trans (Cn.KX x.cf)
def Eg.Hr(x:Eg):x.ay[17]? = some (.b .a x.cf.j):=(Eg.PX x 1 (by omega)).trans (Cn.Hr x.cf)
def Eg.OL(x:Eg):x.ay[25]? = some (.b .a x.cf.kF):=(Eg.PX x 9 (by omega)).trans (Cn.OL x.cf)
def Eg.OO(x:Eg):x.ay[26]? = some (.b .a x.cf.S):=(Eg.PX x 10 (by omega)).trans (Cn.OO x.cf)
def Eg.UF(x:Eg):x.ay.m 19 25=Lj x.cf.kH:=(Eg.PY x 3 9 (by omega)).trans (Cn.UF x.cf)
def Eg.agu(x:Eg):x.ay.m 27 33=Bl x.cf.Bw:=(Eg.PY x 11 17 (by omega)).trans (Cn.agu x.cf)
def Eg.aby(x:Eg):x.ay.m 33 50=x.cf.Du.ay:=(Eg.PY x 17 34 (by omega)).trans (Cn.aby x.cf)
def Eg.agv(x:Eg):x.ay.m 50 67=x.cf.h.ay:=(Eg.PY x 34 51 (by omega)).trans (Cn.agv x.cf)
section
def wM(A:Option aT):List Nat:=match A with|some a=>[a.block]|none=>[]
theorem Ec{A:Option aT}{b:Nat}:b∈wM A↔∃a,A=some a/\a.block=b:=by
 unfold wM;cases A with
 | none=>simp
 | some a=>simp[eq_comm]
def sI(x:Eg):List Nat:=wM x.cf.qP++(wM x.pl.rA++(wM x.Qh++(wM x.dnA++(wM x.h.tF++wM x.h.ru))))
def dX{x:Eg}{b:Nat}:b∈sI x↔b∈wM x.cf.qP\/b∈wM x.pl.rA\/b∈wM x.Qh\/b∈wM x.dnA\/b∈wM x.h.tF\/b∈wM x.h.ru:=by simp[sI]
def lF{W:ak}{base sz n k c:Nat}{T:bE}{A:Option aT}{xs:List aB}(h:W.c base T sz (.a A n c) k xs):∀b∈wM A,base<=b/\b<W.a.j:=fun b hb=>by
 obtain⟨a,rfl,rfl⟩:=Ec.1 hb;exact h.lt a.block rfl
def UR{W W':ak}{B sz n:Nat}{A:Option aT}{xs:List aB}{F:List Nat}(h:Rd W B sz A n xs)(hB:B<=W.a.j)(hf:jM F W W')(hn:∀b∈wM A,b∉F):Rd W' W'.a.j sz A n xs:=by
 refine⟨h.1,fun h0=>?_⟩;obtain⟨a,hA,hb,hc⟩:=h.2 h0;have hs:=hf.j;refine⟨a,hA,by omega,fun j u hu=>?_⟩;have h1:=hc j u hu;have h2:=hf.block a.block (by omega) (hn _ (Ec.2 ⟨a,hA,rfl⟩));unfold World.cell? at h1 ⊢;rw[Bv]at h1 ⊢;rw[h2];exact h1
def iE.keep{α:Type}{f:α->Array aB}{sz:Nat}{W W':ak}{n:Nat}{A:Option aT}{l:List α}{F:List Nat}(h:iE f sz W W.a.j A n l)(hf:jM F W W')(hn:∀b∈wM A,b∉F):iE f sz W' W'.a.j A n l:=⟨h.1,UR h.2.1 (av _) hf hn,h.2.2⟩
def Ls.keep{W W':ak}{q g:Nat}{key:Vector UInt8 16}{dS:Int}{s:List (Option Fw)}{l:List Fw}{F:List Nat}(h:Ls W q g key dS s l)(hf:jM F W W')(h1:q∉F)(h2:g∉F):Ls W' q g key dS s l:=⟨⟨hf.box h.w.h h1,hf.box h.w.sl h2,h.w.ne,h.w.sz⟩,h.r,h.Y⟩
def TlR.keep{W W':ak}{A1 A2:Option aT}{n1 n2:Nat}{t:Tl}{F:List Nat}(h:TlR W A1 n1 A2 n2 t)(hf:jM F W W')(h1:∀b∈wM A1,b∉F)(h2:∀b∈wM A2,b∉F):TlR W' A1 n1 A2 n2 t:=by
 obtain⟨k1,k2,k3⟩:=h;refine⟨k1.keep hf h1,k2,?_⟩;rcases k3 with k3|⟨g,d,rfl,k4,k5⟩
 ·exact .a k3
 ·exact .b ⟨g,d,rfl,hf.box k4 (h2 g (by simp[wM])),k5⟩
def TlR.go{W W':ak}{A1 A2:Option aT}{n1 n2:Nat}{t:Tl}(h:TlR W A1 n1 A2 n2 t)(hb:aL W.a.j W W'):TlR W' A1 n1 A2 n2 t:=h.keep (F:=[]) (jM.jD hb) (fun _ _ h=>by cases h) (fun _ _ h=>by cases h)
structure Ni(W:ak)(q:Nat)(e:En)(s:rE)(x:Eg)(q2 g:Nat)(sl:List (Option Fw)):Prop where
 eg:dM W q x.ay
 key:x.key=e.key
 cf:x.cf={e.c with qP:=x.cf.qP,iX:=x.cf.iX,qZ:=x.cf.qZ}
 lD:x.pl.lD=s.lD
 vs:iE Vp.ay 20 W W.a.j x.cf.qP x.cf.iX e.vs
 bk:iE Bk.ay 27 W W.a.j x.pl.rA x.pl.rN s.qO
 hl:iE Hl.ay 3 W W.a.j x.Qh x.EK s.r
 fl:x.fl=some q2
 h:Ls W q2 g e.key e.c.dS sl s.h
 rm:e.c.dS*2<=sl.a
 nq:q≠q2/\q≠g
 Nj:∀b∈sI x,b<W.a.j/\b≠q/\b≠q2/\b≠g
 fK:x.fK=s.fK
 no:x.no=s.no
 S:x.S=s.S
structure Ag(W:ak)(q:Nat)(e:En)(s:rE)(x:Eg)(q2 g:Nat)(sl:List (Option Fw)):Prop where
 b:Ni W q e s x q2 g sl
 dn:iE txA 1 W W.a.j x.dnA x.dnN (oC s.r)
 tt:TlR W x.h.tF x.h.rW x.h.ru x.h.qC (Af e s)
variable {W W':ak} {q:Nat} {e:En} {s:rE} {x:Eg} {q2 g:Nat} {sl:List (Option Fw)}
theorem Ni.go(h:Ni W q e s x q2 g sl)(hb:aL W.a.j W W'):Ni W' q e s x q2 g sl:=
 ⟨h.eg.go hb,h.key,h.cf,h.lD,h.vs.go hb,h.bk.go hb,h.hl.go hb,h.fl,h.h.go hb,h.rm,h.nq,fun b hm=>by have:=h.Nj b hm;have:=hb.j;omega,h.fK,h.no,h.S⟩
theorem Ag.go(h:Ag W q e s x q2 g sl)(hb:aL W.a.j W W'):Ag W' q e s x q2 g sl:=⟨h.b.go hb,h.dn.go hb,h.tt.go hb⟩
theorem Ni.lt(h:Ni W q e s x q2 g sl):q<W.a.j/\q2<W.a.j/\g<W.a.j:=⟨h.eg.lt,h.h.w.lt⟩
theorem Ni.i(h:Ni W q e s x q2 g sl){b:Nat}(hb:b∈sI x):b∉[q]:=by have:=h.Nj b hb;simp;omega
theorem Ni.ajf(h:Ni W q e s x q2 g sl){A:Option aT}{n c:Nat}{t:Tc}(hf:jM [q] W W')(hb:dM W' q ({x with dnA:=A,dnN:=n,dnC:=c,h:=t}:Eg).ay)(hr:∀b,b∈wM A\/b∈wM t.tF\/b∈wM t.ru->b∈sI x\/W.a.j<=b/\b<W'.a.j):Ni W' q e s ({x with dnA:=A,dnN:=n,dnC:=c,h:=t}:Eg) q2 g sl:=by
 have hs:=hf.j;have hlt:=h.lt;refine⟨hb,h.key,h.cf,h.lD,h.vs.keep hf (fun b hm=>h.i (dX.2 (.a hm))),h.bk.keep hf (fun b hm=>h.i (dX.2 (.b (.a hm)))),h.hl.keep hf (fun b hm=>h.i (dX.2 (.b (.b (.a hm))))),h.fl,h.h.keep hf (by have:=h.nq;simp;omega) (by have:=h.nq;simp;omega),h.rm,h.nq,fun b hm=>?_,h.fK,h.no,h.S⟩;have key:b∈sI x\/W.a.j<=b/\b<W'.a.j:=by
  rcases dX.1 hm with hm|hm|hm|hm|hm|hm
  ·exact .a (dX.2 (.a hm))
  ·exact .a (dX.2 (.b (.a hm)))
  ·exact .a (dX.2 (.b (.b (.a hm))))
  ·exact hr b (.a hm)
  ·exact hr b (.b (.a hm))
  ·exact hr b (.b (.b hm))
 rcases key with hm|hm
 ·have:=h.Nj b hm;omega
 ·omega
theorem qm.Uz{M:Int}(h:qm M e s):s.qO.a<=1024/\s.r.a<=1024/\∀y∈s.qO,y.E.a<=24:=by
 have h1:=(xC.1 h.pl)
 have h2:s.r.a=s.qO.a:=by have:=congrArg List.length h.nm;simpa using this
 refine⟨h1.2.2.1,by have:=h1.2.2.1;omega,fun y hy=>?_⟩;have h3:=(h1.2.2.2.1 y hy).1;unfold Bk.yh oI at h3;simp only[bf,decide_eq_true_eq]at h3;exact h3.1.1.1.2.2
theorem aao{M:Int}(h:qm M e s)(ls:List (List UInt8)):ark (lg ls s.qO)/\∀y∈lg ls s.qO,y.E.a<=1000000:=by
 have hf:=h.Uz;refine⟨⟨?_,?_,?_⟩,?_⟩
 ·unfold Xk lg
  rw[List.pairwise_map];exact h.srt.imp (fun{a b} hab=>by first|exact hab|exact ZB hab)
 ·intro y hy
  unfold lg at hy;obtain⟨z,_,rfl⟩:=iZ.1 hy;have:=ash z.w;unfold GZ;simp only;split<;>omega
 ·unfold lg;rw[bV];exact hf.1
 ·intro y hy
  unfold lg at hy;obtain⟨z,hz,rfl⟩:=iZ.1 hy;have:=hf.2.2 z hz;unfold GZ;simp only;omega
theorem arH(l:List (List UInt8)):(l.h fun x=>(txA x).a)=l.map fun s=>jk (bP s):=by
 induction l with
 | nil=>rfl
 | cons a l ih=>rw[jl,kR,ih];rfl
theorem iE.st{B n:Nat}{A:Option aT}{l:List (List UInt8)}(h:iE txA 1 W B A n l):aaW W B A n l:=by
 have:=h.2.1;rw[arH]at this;exact this
theorem aap(l:List Hl):(oC l).a<=l.a:=by unfold oC;rw[bV];exact pG _ _
theorem pK.Ed{T:bE}{n b:Nat}{z c d:Array aB}(K:pK T n z)(h:dM W b c)(o:Nat)(hc:c.m o (o+n)=d)(hs:o+n<=c.j):(yY T (.c (some ⟨b,o,none⟩))).G ah W = .Y (.d d) W:=by
 obtain⟨_,_,h3,h4⟩:=h.J;rw[K.ld W b o (by rw[h3 o n (by unfold eB;omega)];trivial),h4 o n (by unfold eB;omega),hc]
theorem Eg.akK{x:Eg}(h:dM W q x.ay):W.rangeAt q 0 (x.key.a.map bv):=by
 intro j v hj;have hj6:j<16:=by
  rcases aZ j 16 with h1|h1
  ·exact h1
  ·rw[aS (by simpa using h1)]at hj;cases hj
 have h2:(x.ay.m 0 16)[j]? = (jc x.key)[j]?:=by rw[Eg.abY]
 rw[dA,if_pos (by rw[Eg.r];omega)]at h2;rw[h.J.1,h2];unfold jc;rw[dW];exact hj
theorem ahb(key:Vector UInt8 16)(n:Nat)(hp:lT n=true)(hn:n<=65537)(l:List pR)(hk:ark l)(hnm:∀x∈l,x.E.a<=1000000)(A:Option aT)(m c:Nat)(w:ak)(hR:iE pR.ay 2 w w.a.j A m l):
 aP ah 27 #[.d (key.a.map bv).c,.b .a n,.a A m c] w fun e w'=>∃t:Tc,e=.a (.I #[.d t.ay,.b .a 0])/\TlR w' t.tF t.rW t.ru t.qC (uL key n l)/\aL w.a.j w w'/\∀b,b∈wM t.tF\/b∈wM t.ru->w.a.j<=b/\b<w'.a.j:=by
 refine(aeM key n hp hn l hk hnm A m c w hR).e ?_;rintro e w' ⟨A1,n1,c1,A2,n2,c2,rfl,h1,h2,h3,h4⟩;refine⟨⟨A1,n1,c1,A2,n2,c2⟩,rfl,h1,h2,fun b hb=>?_⟩;rcases hb with hb|hb
 ·obtain⟨a,ha,rfl⟩:=Ec.1 hb;exact h3 a ha
 ·obtain⟨a,ha,rfl⟩:=Ec.1 hb;exact h4 a ha
def ace(W:ak)(q:Nat)(e:En)(s:rE)(x:Eg)(q2 g:Nat)(sl:List (Option Fw))(r:lU)(W':ak):Prop:=
 r=.a (.I #[])/\(∃x',Ag W' q e s x' q2 g sl/\∀b∈sI x',b∈sI x\/W.a.j<=b)/\jM [q] W W'
theorem Kc{M:Int}(h:Ni W q e s x q2 g sl)(hi:qm M e s):aP ah 64 #[.c (some ⟨q,0,none⟩)] W (ace W q e s x q2 g sl):=by
 have aaK:=hi.Uz;obtain⟨⟨sz2,szb,szp⟩,_⟩:=tC hi.cn;have hhn:=h.hl.1;have hbn:=h.bk.1;have CD:=ab (al8 s.r x.Qh x.EK x.Uq W h.hl (by omega));unfold TxP at CD;have f72:=(h.eg.J.1 72).trans (Eg.aam x);have H:=ab h;have HI:=ab hi;have HSH:=ab (aao hi (oC s.r));have HDN:=ab (aap s.r);have aAp:=ab aaK;have HSZ:=ab (show(0<=e.c.j/\e.c.j<=65537)/\lT e.c.j.g=true from⟨⟨by omega,szb⟩,szp⟩);have HHN:=ab hhn;have HBN:=ab hbn;clear hi h aaK sz2 szb szp hhn hbn;go_enter Tryz.func64,Tryz.ntmps64;go_upto_region 1 with(go_at_call 130;(with_reducible refine CD.i.e ?_);rintro r w1 ⟨A,n,c,rfl,hn,ho,hb⟩;have aFi:=(H.i.eg.go hb).J.2.1 73;have f73:=((H.i.eg.go hb).J.1 73).trans (Eg.aoa x);have H1:=ab (H.i.go hb);have O1:=ab ho;have N1:=ab hn;have F1:=ab (jM.jD (F:=[q]) hb);clear hb ho hn f72)
 obtain⟨x1,hx1⟩:∃x1:Eg,x1={x with dnA:=A,dnN:=n,dnC:=c}:=⟨_,rfl⟩
 have hb1:dM (w1.F ⟨q,73,none⟩ (.a A n c)) q x1.ay:=by
  have:=H1.i.eg.eX 73 (.a A n c);rw[Eg.avT]at this;rw[hx1];exact this
 have hf1:jM [q] W (w1.F ⟨q,73,none⟩ (.a A n c)):=F1.i.set ⟨q,73,none⟩ _ (.a (by simp));have HF1:=ab hf1;have HFR:=ab (lF O1.i);have RDN:=ab (show iE txA 1 (w1.F ⟨q,73,none⟩ (.a A n c)) (w1.F ⟨q,73,none⟩ (.a A n c)).a.j A n (oC s.r)from(iE.iG N1.i O1.i).keep ((jM.refl [q] w1).set ⟨q,73,none⟩ _ (.a (by simp))) (fun b hb=>by have:=lF O1.i b hb;have:=H.i.lt;simp;omega));have RBK:=ab (H.i.bk.keep hf1 (fun b hm=>H.i.i (dX.2 (.b (.a hm)))));have HSW:=ab (show W.a.j<=w1.a.j from F1.i.j);have HWS:(w1.F ⟨q,73,none⟩ (.a A n c)).a.j=w1.a.j:=by simp[iq]
 have HWZ:=ab HWS;have HB1:=ab hb1;generalize w1.F ⟨q,73,none⟩ (.a A n c)=w2 at HF1 RDN RBK HWZ HB1 ⊢;clear hb1 hf1 HWS O1 H1 f73 aFi CD F1;have K1:=ab (fun(w':ak) (t:Tc) (h:dM w' q ({x1 with h:=t}:Eg).ay)=>show w'.rangeAt q 0 (e.key.a.map bv)/\w'.b ⟨q,17,none⟩=some (.b .a e.c.j)/\(yY 32 (.c (some ⟨q,70,none⟩))).G ah w' = .Y (.d x.pl.ay) w'/\w'.b ⟨q,73,none⟩=some (.a A n c)by
  subst hx1;have hk:x.key=e.key:=H.i.key;have hs:x.cf.j=e.c.j:=by rw[H.i.cf]
  refine⟨?_,?_,kPc.Ed h 70 (Eg.aiC _) (by rw[Eg.r];omega),(h.J.1 73).trans (Eg.aoa _)⟩
  ·have hr:=Eg.akK h;rw[<-hk];exact hr
  ·rw[<-hs];exact(h.J.1 17).trans (Eg.Hr _))
 have HBX:=ab (show dM w2.drew q ({x1 with h:=x.h}:Eg).ay by have:=HB1.i.drew;rw[hx1]at this⊢;exact this);obtain⟨k1,k2,k3,k4⟩:=K1.i _ _ HBX.i;have hxb:=HBN.i;have hdl:=N1.i;have CS:=ab (af6 s.qO (fun y hy=>HI.i.fi y hy) x.pl.lD x.pl.rA x.pl.rC (oC s.r) A c w2.drew (by rw[hxb];exact RBK.i.asb) (by rw[hdl];exact RDN.i.asb.st) (by have:=aAp.i;omega) (by have:=aAp.i;have:=HDN.i;omega));rw[hxb,hdl]at CS;unfold aa' at CS
 replace CS:=ab (show aP ah 28 #[.d x.pl.ay,.a A n c] w2.drew _ from CS.i)
 have CM:=ab (fun w (A:Option aT) (m c:Nat) (hR:iE pR.ay 2 w w.a.j A m (lg (oC s.r) s.qO))=>ahb e.key e.c.j.g HSZ.i.2 (by have:=HSZ.i.1;omega) _ HSH.i.1 HSH.i.2 A m c w hR);rw[show((e.c.j.g:Nat):Int)=e.c.j from lS HSZ.i.1.1]at CM;have HX1:=ab hx1;clear hx1 hxb hdl;have hU:=qH;have hI:(ah.l 22).map (·.j)=some (e.key.a.map bv).a:=by rw[bV,nV];kernel_rfl
 go_region_held_law (fun w'=>w'.rangeAt q 0 (e.key.a.map bv)/\w'.b ⟨q,17,none⟩=some (.b .a e.c.j)/\(yY 32 (.c (some ⟨q,70,none⟩))).G ah w' = .Y (.d x.pl.ay) w'/\w'.b ⟨q,73,none⟩=some (.a A n c))
  (first|exact K1.i _ _ HBX.i|exact K1.i _ _ HB3.i|exact K1.i _ _ HB4.i|exact K1.i _ _ HB5.i|go_keep)
  (first
  | (go_at_call 28;(with_reducible refine CS.i.e ?_);rintro r w3 ⟨A3,c3,rfl,ho3,hb3⟩;have HB3:=ab (HBX.i.go hb3);have CM3:=ab (CM.i w3 A3 _ c3 (iE.iG rfl ho3));have BL3:=ab hb3;clear ho3 hb3)
  | (go_at_call 27;(with_reducible refine CM3.i.e ?_);rintro r w4 ⟨t,rfl,ht,hb4,hf4⟩;have HB4:=ab (HB3.i.go hb4);have HT4:=ab ht;have BL4:=ab (fJ BL3.i hb4);have HF4:=ab hf4;have th:=HB4.i.K 75 2 (by rw[Eg.r];omega);have HB5:=ab (show dM (gX w4 q 75 t.ay) q ({x1 with h:=t}:Eg).ay by have:=HB4.i.setCells 75 t.ay.a;rw[show t.ay.a.c=t.ay by simp,Eg.avW]at this;exact this);clear ht hb4 hf4))
 have BW:=ab (fJ ((aG w2.a.j w2).drew) BL4.i);have F4:jM [q] W w4:=HF1.i.M BW.i HF1.i.j;have F5:jM [q] W (gX w4 q 75 t.ay):=F4.grown (mo (dQ w4 (some q)) 75 t.ay) (fun k e=>.a (by injection e with e;simp[e]));have FS:jM [q] w4 (gX w4 q 75 t.ay):=(jM.refl [q] w4).grown (mo (dQ w4 (some q)) 75 t.ay) (fun k e=>.a (by injection e with e;simp[e]));have hsz:=BW.i.j;have aLR:=BL3.i.j;have hw1:=HSW.i;have hwz:=HWZ.i;have hs5:=FS.j;have hq:=H.i.lt;have hnew:∀b,b∈wM A\/b∈wM t.tF\/b∈wM t.ru->W.a.j<=b/\b<(gX w4 q 75 t.ay).a.j:=fun b hm=>by
  rcases hm with hm|hm
  ·have:=HFR.i b hm;omega
  ·have:=HF4.i b hm
   have h3:w2.drew.a.j=w2.a.j:=rfl;omega
 go_end0;refine⟨rfl,⟨{x with dnA:=A,dnN:=n,dnC:=c,h:=t},⟨H.i.ajf F5 (by have:=HB5.i;rw[HX1.i]at this;exact this) (fun b hm=>.b (hnew b hm)),?_,?_⟩,fun b hm=>?_⟩,F5⟩
 ·have h1:=(RDN.i.go BW.i)
  exact h1.keep FS (fun b hm=>by have:=(hnew b (.a hm)).1;simp;omega)
 ·exact HT4.i.keep FS (fun b hm=>by have:=(hnew b (.b (.a hm))).1;simp;omega) (fun b hm=>by have:=(hnew b (.b (.b hm))).1;simp;omega)
 ·rcases dX.1 hm with hm|hm|hm|hm|hm|hm
  ·exact .a (dX.2 (.a hm))
  ·exact .a (dX.2 (.b (.a hm)))
  ·exact .a (dX.2 (.b (.b (.a hm))))
  ·exact .b (hnew b (.a hm)).1
  ·exact .b (hnew b (.b (.a hm))).1
  ·exact .b (hnew b (.b (.b hm))).1
end
def aeP(l:List Bk)(v:Int)(A:Option aT)(n c:Nat)(w:ak)(hR:iE Bk.ay 27 w w.a.j A n l)(hn:n<=100000):
 aP ah 73 #[.d (Pc.mk v A n c).ay] w fun e w'=>∃A' n' c',e=.a (.a A' n' c')/\iE txA 1 w' w'.a.j A' n' (l.map (·.E))/\aL w.a.j w w':=by
 have Z0:=ab ((Rz.nil (f:=nmC) (sz:=1) (e:=9) w).new (Pc.mk v A n c).ay 32);have HL:=ab hR.1;have HR:=ab hR;have f1:=(Z0.i.R.J.1 1).trans (Pc.an' _);clear hR;go_enter Tryz.func73,Tryz.ntmps73;go_upto_region 1 with fail
 generalize w.alloc (.D (Pc.mk v A n c).ay 32)=w1 at Z0 f1 ⊢;go_wp2_with fail;go_loopw [3,9] (fun v3 v9 wr=>∃k A' n' c',k<=n/\v9=.b .a (k:Nat)/\v3=.a A' n' c'/\Rz nmC 1 9 [(w.a.j,(Pc.mk v A n c).ay)] w wr (.a A' n' c') ((l.d k).map (·.E))) (fun _ v9 _=>n-(intOf v9).g)
 case atStart=>exact⟨0,none,0,0,jf _,rfl,rfl,Z0.i⟩
 case round=>
  obtain⟨k,A1,n1,c1,hk,rfl,rfl,hz⟩:=hrel;by_cases hlt:k<n
  ·have hki:(k:Int)<n:=by omega
   have i1:=jW ((k:Int)+1) (by omega);have hr:=(HR.i.M hz.O).lN (B':=wr.a.j) hz.O.j;obtain⟨b,o,rfl,hbl,a1,a2⟩:=hr.fH Bk.r iO hlt;obtain⟨x,hx⟩:=bZ (l.b k iO);rw[<-hx]at a2;have HS:=ab (show(l.d (k+1)).map (·.E)=(l.d k).map (·.E)++[x.E]by
    rw[dF (by rw[HL.i];exact hlt),iY,hx,au,aC (by rw[HL.i];exact hlt)];rfl)
   have HZ:=ab hz;have Z2:=ab (hz.alloc (.D x.ay 62));have Z3:=ab (Z2.i.alloc (.D (nmC x.E) 9));have RO:=ab (iE.one (f:=nmC) x.E PW (wr.alloc (.D x.ay 62)) 9);simp only[tQ]at RO;have HGL:=ab (show((l.d k).map (·.E)).a+1<=1000000 by rw[bV,bH];omega);have BX:=dM.new wr x.ay 62;have f0:=(BX.J.1 0).trans (Bk.nS x);clear hx hz hr BX hbl;go_wp2_with (at_builtin;refine Rf aiy rfl (.a 13) (.a 16) rfl rfl Z3.i rfl RO.i HGL.i ?_;intro A5 n5 c5 w5 h5 h6;have Z5:=ab h5;clear h5 h6);go_roundw
   case rel=>exact⟨k+1,A5,n5,c5,by omega,by simp,rfl,by rw[HS.i];exact Z5.i⟩
   case measure=>simp[intOf];omega
  ·obtain rfl:k=n:=by omega
   have hd:decide ((k:Int)<k)=false:=by simp
   have HZ:=ab hz;clear hz;go_wp2;go_ret;have h1:=HZ.i;rw[aJ (by rw[HL.i];exact av _)]at h1;exact⟨A1,n1,c1,rfl,h1.rd,h1.O⟩
section
variable {W W':ak} {q:Nat} {e:En} {s:rE} {x:Eg} {q2 g:Nat} {sl:List (Option Fw)}
def Tt(k:Int):aB:=.iface 219 (.b .a k)
def aAr(r:Option (Bk×Bool)):lU:=match r with
 | some (b,h)=>.a (.I #[.d b.ay,.e h])
 | none=>.panicked [{v:=Tt 8,recovered:=false}]
theorem dM.acf{W:ak}{b o:Nat}{c:Array aB}{t:Tu}(h:dM W b c)(hc:c.m o (o+37)=t.ay)(hs:o+37<=c.j):(uM (.c (some ⟨b,o,none⟩))).G ah W = .Y (.d t.ay) W:=by
 obtain⟨_,_,h3,h4⟩:=h.J;rw[Ot W b o (by rw[h3 o 37 (by unfold eB;omega)];trivial),h4 o 37 (by unfold eB;omega),hc]
theorem Ni.aoi(h:Ni W q e s x q2 g sl){W':ak}(hb:aL W.a.j W W'):W'.b ⟨q,74,none⟩=some (.c (some ⟨q2,0,none⟩)):=by
 rw[(h.eg.go hb).J.1 74,Eg.aan];show some (sO (x.fl.map fun b=>⟨b,0,none⟩))=_;rw[h.fl];rfl
theorem Ni.ahc(h:Ni W q e s x q2 g sl){W':ak}(hb:aL W.a.j W W'):(yY 32 (.c (some ⟨q,70,none⟩))).G ah W' = .Y (.d x.pl.ay) W':=kPc.Ed (h.eg.go hb) 70 (Eg.aiC _) (by rw[Eg.r];omega)
theorem Ag.Wn(h:Ag W q e s x q2 g sl){M:Int}(hi:qm M e s){W':ak}(hb:aL W.a.j W W')(n:List UInt8)(K:Bool)(b:Bk)(h1:tJ s.qO n=K)(h2:qD s.qO n=b):aP ah 33 #[.d x.pl.ay,.g (bP n)] W' fun e w'=>e=.a (.I #[.d b.ay,.e K])/\aL W'.a.j W' w':=
 ajF s.qO hi.srt n x.pl.lD x.pl.rA x.pl.rN x.pl.rC W' (h.b.bk.go hb) (by have:=hi.Uz;have:=h.b.bk.1;omega) K b h1 h2
theorem aoj(k:Vector UInt8 16)(l:List UInt8):yw k l<18446744073709551616:=by
 have key:∀(ws:List Nat)(st:S4),st.Y->(∀n∈ws,n<18446744073709551616)->(ws.foldl Vu st).Y:=by
  intro ws
  induction ws with
  | nil=>intro st h _;exact h
  | cons n ws ih=>intro st h hw;exact ih _ (aaV h (hw n (by simp))) (fun m hm=>hw m (j5 _ hm))
 unfold yw al3;exact apP (NV 4 _ (aaU (key _ _ (ahI k) (YP _ l _ rfl (fE _ (by decide)))) (by decide)))
theorem aok(r:Option (List UInt8)):as8 r = .I #[.g (bP (r.b [])),.e r.isSome]:=by cases r<;>rfl
theorem avY{M:Int}(hi:qm M e s):aAn (Af e s)/\(Af e s).uR.a<=65537/\(Af e s).h.a<=1024:=by
 obtain⟨⟨_,szb,szp⟩,_⟩:=tC hi.cn;have h0:∀y∈lg (oC s.r) s.qO,0<=y.q:=fun y hy=>((aao hi (oC s.r)).1.2.1 y hy).1
 have hnl:(Af e s).h.a<=1024:=by
  have h1:=hi.Uz.1;unfold Af uL;simp only;split
  ·simp
  ·simp only[bV]
   refine aO (pG _ _) ?_;unfold lg;rw[bV];exact h1
 rcases YZ (key:=e.key) szp h0 with⟨h1,h2⟩|⟨h1,h2⟩
 ·refine⟨fun j hj=>?_,?_,hnl⟩
  ·have:(Af e s).uR.a=0:=by unfold Af;rw[h1];rfl
   omega
  ·have:(Af e s).uR.a=0:=by unfold Af;rw[h1];rfl
   omega
 ·refine⟨fun j hj=>h2 j (by unfold Af at hj;rwa [h1]at hj),?_,hnl⟩
  have:(Af e s).uR.a=e.c.j.g:=h1;omega
theorem kBk:pK 62 27 iO.ay:=⟨⟨_,Tryz.underlying62,rfl⟩,by kernel_rfl,by kernel_rfl,Bk.r _⟩
theorem dM.avZ{W:ak}{b:Nat}{y:Bk}(h:dM W b y.ay):(Jj (.c (some ⟨b,0,none⟩))).G ah W = .Y (.d y.ay) W:=by
 have:=kBk.Ed h 0 (d:=y.ay) (by have:=Bk.r y;rw[<-this];simp) (by rw[Bk.r];omega);exact this
theorem Yv{M:Int}(h:Ag W q e s x q2 g sl)(hi:qm M e s)(t:Tu)(ht:uf t):aP ah 136 #[.c (some ⟨q,0,none⟩),.d t.ay] W fun r W'=>r=aAr (JY e s t)/\aL W.a.j W W':=by
 have Z0:=ab (((Bx.start W).new t.ay 81).new iO.ay 62);rw[show(W.alloc (.D t.ay 81)).a.j=W.a.j+1 by simp]at Z0;have H:=ab h;have HI:=ab hi;have HT:=ab ht;obtain⟨o,ho⟩:=bZ (qv s.h t);have HO:=ab ho;have CG:=ab (fun(w:ak) (hb:aL W.a.j W w)=>La (H.i.b.h.go hb) t);rw[<-ho]at CG;have hcg:∀o,anW o = .I #[.d (wH o).rH.ay,.e o.isSome]:=fun _=>rfl
 simp only[hcg]at CG;clear h hi ht ho hcg;go_enter Tryz.func136,Tryz.ntmps136;go_upto_region 1 with fail
 generalize(W.alloc (.D t.ay 81)).alloc (.D iO.ay 62)=w1 at Z0 ⊢;refine xE (Bx.abK ([(W.a.j+1,iO.ay),(W.a.j,t.ay)]) W) 9 10 8 6 22 86 jw.ay (by kernel_rfl) rfl rfl rfl rfl rfl (by kernel_rfl) (by kernel_rfl) (by kernel_rfl) (by kernel_rfl) (by kernel_rfl) rfl rfl rfl (fun a w=>by simp[go_sem]) (uh rfl) Z0.i.drew ?_;apply sw;refine⟨fun T f hT es ew=>?_,?_⟩
 ·have EW:=ab ew
  have ES:=ab es;have l1:=fun m=>qh (ES.i m).b1
  have l2:=fun m=>H.i.b.aoi (ES.i m).O
  have CF:=ab (fun m=>CG.i _ (ES.i m).O);clear es ew;simp only[ng,yI,lq,bK,bR,jA,j6]
  repeat(go_big_quiet_step ((first|(go_at_call 126;(with_reducible refine(CF.i _).e ?_);rintro e w2 ⟨rfl,hb⟩;exact⟨rfl,EW.i _ _ hb⟩))))
  exact eG rfl
 ·intro w9 w8 Ad _ hb
  have ZN:=ab ((Ad.new jw.ay 86).go hb);have hyy:=ab Ad;have hy:=Ad.O.j;have hyv:=ab (fun p (hp:p∈[(W.a.j+1,iO.ay),(W.a.j,t.ay)])=>((Ad.2 p hp).2.lt:p.1<w9.a.j));generalize w9.a.j=y at *;clear hb Ad;have yZ:=ZN.i.R.K 0 41 (aX (Fw.r jw).symm);refine⟨gX w8 y 0 (wH o).rH.ay,?_,?_⟩
  ·simp[go_sem,yZ];rfl
  simp only[lM,bL,bK,bR,jU,lH];have Z5:=ab (ZN.i.put (fun p hp=>jQ (hyv.i p hp)) (wH o).rH.ay (by rw[Fw.r,Fw.r]));have HYB:=ab (fun p hp=>hyv.i p hp);clear yZ ZN hyy hyv;generalize gX w8 y 0 (wH o).rH.ay=w9 at Z5 ⊢;go_step;go_step;go_step;have hlt:=H.i.b.lt;have hyW:W.a.j<=y:=by have:=HYB.i (W.a.j,t.ay) (by simp);simp at this;omega
  obtain⟨z,hz⟩:=bZ ((match o with|some f=>!xM (oC s.r) f.E|none=>false));go_upto_region 2 with fail
  go_cut [33]from 23 to 32 (fun s33 wx=>s33=.e z/\Bx [(y,(wH o).rH.ay),(W.a.j+1,iO.ay),(W.a.j,t.ay)] W wx)
  case first=>
   cases o with
   | none=>
     go_wp2_with fail;go_quiet (fail);go_wp2_with fail;go_meet
     case rel=>exact⟨by rw[hz],Z5.i.go (eH (aG _ _) nq)⟩
   | some f=>
     have CC:=ab (fun n=>NW (oC s.r) f.E x.dnA x.dnC (w9.drewN n) (by rw[H.i.dn.1];exact(H.i.dn.go (Z5.i.O.trans ((eH (aG W.a.j _) n).e (av _)))).st) (by have:=aap s.r;have:=HI.i.Uz;omega));rw[H.i.dn.1]at CC;have f73:=((H.i.b.eg.go Z5.i.O).J.1 73).trans (Eg.aoa x);have f37:=(Z5.i.R.J.1 37).trans (Fw.abk f);go_wp2_with fail;go_quiet ((go_at_call 87;(with_reducible refine(CC.i _).e ?_);rintro e w2 ⟨rfl,rfl⟩;exact⟨rfl,_,rfl⟩));go_wp2_with fail;go_meet
     case rel=>exact⟨by rw[hz],Z5.i.go (eH (aG _ _) nq)⟩
  obtain⟨rfl,Z6⟩:=hcut;have Z6:=ab Z6;generalize wc=w10 at Z6 ⊢;clear Z5 CG;go_upto_if 33 with fail
  go_cut []from 34 to 45 (fun wx=>Px s t=none/\Bx [(W.a.j+1,iO.ay),(W.a.j,t.ay)] W wx)
  case first=>
   cases z with
   | false=>
     have HN:Px s t=none:=by
      unfold Px;rw[<-HO.i];cases o with
      | none=>rfl
      | some f=>simp only at hz⊢;rw[<-hz];simp
     go_wp2_with fail;go_meet
     case rel=>exact⟨HN,Z6.i.sub (L':=[(W.a.j+1,iO.ay),(W.a.j,t.ay)]) (by simp)⟩
   | true=>
     cases o with
     | none=>cases hz
     | some fl=>
       have HD:=ab (show xM (oC s.r) fl.E=false by simpa using hz.symm);obtain⟨K,hK⟩:=rT (tJ s.qO fl.E);obtain⟨b,hb⟩:=rT (qD s.qO fl.E);have CP:=ab (fun w (hb':aL W.a.j W w)=>H.i.Wn HI.i hb' fl.E K b hK hb);have HK:=ab hK;have IK:=ab hb;have HO2:=ab HO.i;have Z6:=ab (show Bx [(y,fl.ay),(W.a.j+1,iO.ay),(W.a.j,t.ay)] W w10 from Z6.i);clear hK hb hz;go_upto_region 3 with fail
       refine xE (Bx.abK ([(y,fl.ay),(W.a.j+1,iO.ay),(W.a.j,t.ay)]) W) 10 11 9 8 43 62 iO.ay (by kernel_rfl) rfl rfl rfl rfl rfl (by kernel_rfl) (by kernel_rfl) (by kernel_rfl) (by kernel_rfl) (by kernel_rfl) rfl rfl rfl (fun a w=>by simp[go_sem]) (uh rfl) Z6.i.drew ?_;apply sw;refine⟨fun T f hT es ew=>?_,?_⟩
       ·have EW:=ab ew
        have ES:=ab es;have l1:=fun m=>H.i.b.ahc (ES.i m).O
        have l2:=fun m=>((ES.i m).R.J.1 37).trans (Fw.abk fl)
        have CF:=ab (fun m=>CP.i _ (ES.i m).O);clear es ew;simp only[ng,yI,lq,bK,bR,jA,j6]
        repeat(go_big_quiet_step ((first|(go_at_call 33;(with_reducible refine(CF.i _).e ?_);rintro e w2 ⟨rfl,hb⟩;exact⟨rfl,EW.i _ _ hb⟩))))
        exact eG rfl
       ·intro w9 w8 Ad _ hb
        have ZN:=ab ((Ad.new iO.ay 62).go hb);have hyy:=ab Ad;have hy:=Ad.O.j;have hyv:=ab (fun p (hp:p∈[(y,fl.ay),(W.a.j+1,iO.ay),(W.a.j,t.ay)])=>((Ad.2 p hp).2.lt:p.1<w9.a.j));generalize w9.a.j=y_1 at *;clear hb Ad;have yZ:=ZN.i.R.K 0 27 (aX (Bk.r iO).symm);refine⟨gX w8 y_1 0 b.ay,?_,?_⟩
        ·simp[go_sem,yZ];rfl
        simp only[lM,bL,bK,bR,jU,lH];have Z7:=ab (ZN.i.put (fun p hp=>jQ (hyv.i p hp)) b.ay (by rw[Bk.r,Bk.r]));have HYC:=ab (fun p hp=>hyv.i p hp);clear yZ ZN hyy hyv CP;generalize gX w8 y_1 0 b.ay=w11 at Z7 ⊢;go_step;go_step;go_step;cases K with
        | false=>
          have HN:=ab (show Px s t=none by unfold Px;rw[<-HO2.i];simp only;rw[HK.i];rfl);go_wp2_with fail;go_meet
          case rel=>exact⟨HN.i,Z7.i.sub (L':=[(W.a.j+1,iO.ay),(W.a.j,t.ay)]) (by simp)⟩
        | true=>
          have HN:=ab (show JY e s t=some (b,true)by
           have:Px s t=some fl.E:=avs HO2.i.symm HK.i HD.i;unfold JY;rw[this];simp only;rw[IK.i])
          have lb:=Z7.i.R.avZ;have th:=Z7.i.b2.K 0 27 (aX (Bk.r iO).symm);have Z8:=ab ((Z7.i.sub (L':=[(W.a.j+1,iO.ay),(W.a.j,t.ay)]) (by simp)).put (fun p hp=>by simp at hp;subst hp;simp) b.ay (by rw[Bk.r,Bk.r]));go_wp2;refine aN (kBk.qW rfl _ rfl Z8.i.R (Bk.r _)) rfl ?_;rw[HN.i];exact⟨rfl,Z8.i.O⟩
  obtain⟨hn,Zc⟩:=hcut;have HN:=ab hn;have Zc:=ab Zc;have hok:=avY HI.i;obtain⟨hh,hhe⟩:∃v,v=yw e.key (GH t):=⟨_,rfl⟩
  have hhl:hh<18446744073709551616:=by rw[hhe];exact aoj _ _
  have CH:=ab (fun w=>Tf e.key t HT.i w);rw[<-hhe]at CH;obtain⟨r,hr⟩:=bZ (Ir (Af e s) hh);have CK:=ab (fun w (hb:aL W.a.j W w)=>show aP ah 35 #[.d x.h.ay,.b .u64 (hh:Nat)] w fun e w'=>e=.a (.I #[.g (bP (r.b [])),.e r.isSome])/\aL w.a.j w w' by
   rw[<-aok,hr];exact ag9 (Af e s) hok.1 hh hhl x.h.tF x.h.rW x.h.Da x.h.ru x.h.qC x.h.yK w (H.i.tt.go hb) (by have:=H.i.tt.2.1;omega) (by have:=H.i.tt.1.1;omega))
  have HRR:=ab (show Ir (Af e s) (aie e t)=r by rw[hr,hhe];rfl);clear hn hok hhe hhl hr Z6 hz hyW;generalize wc=w12 at Zc ⊢;go_wp2_with fail;obtain⟨T,f,n0,E0,es,ew⟩:=uD (w12);have hT:Nonempty T:=⟨n0⟩
  have ES:=ab es;have EW:=ab ew;have l1:=fun m=>qh (Zc.i.go (es m)).b1
  have l2:=fun m=>kTc.Ed (H.i.b.eg.go (Zc.i.go (es m)).O) 75 (Eg.aob _) (by rw[Eg.r];omega)
  have l3:∀m,(yY 22 (.c (some ⟨q,0,none⟩))).G ah (f m) = .Y (.d (jc e.key)) (f m):=fun m=>by have:=Xh.Ed (H.i.b.eg.go (Zc.i.go (es m)).O) 0 (Eg.abY _) (by rw[Eg.r];omega);rw[H.i.b.key]at this;exact this
  have CK2:=ab (fun m=>CK.i (f m) (Zc.i.go (es m)).O);clear es ew;refine lQ f (by kernel_rfl) (by kernel_rfl) n0 E0 ?_
  repeat(go_big_quiet_step ((first|(go_at_call 36;(with_reducible refine(CH.i _).e ?_);rintro e w2 ⟨rfl,hb⟩;exact⟨rfl,EW.i _ ((ES.i _).trans (hb.e (ES.i _).j))⟩)|(go_at_call 35;(with_reducible refine(CK2.i _).e ?_);rintro e w2 ⟨rfl,hb⟩;exact⟨rfl,EW.i _ ((ES.i _).trans (hb.e (ES.i _).j))⟩))))
  refine eG ?_;rintro _ ⟨m',rfl⟩;have HB:=ab (ES.i m');generalize f m'=wN at *;clear ES EW E0 hT n0;clear l1 l2 l3 CK2;have Z9:=ab (Zc.i.go HB.i);clear Zc HB CK CH;cases r with
  | none=>
    have HE:=ab (show JY e s t=none by unfold JY;rw[HN.i];simp only;rw[HRR.i];rfl);go_wp2;rw[HE.i];exact⟨rfl,rfl,Z9.i.O⟩
  | some n=>
    obtain⟨K,hK⟩:=rT (tJ s.qO n);obtain⟨b,hb⟩:=rT (qD s.qO n);have HE:=ab (show JY e s t=some (b,false)by unfold JY;rw[HN.i];simp only;rw[HRR.i,Option.map_some,hb]);have CP:=ab (H.i.Wn HI.i Z9.i.O n K b hK hb);have l1:=H.i.b.ahc Z9.i.O;clear hK hb;go_wp2_with (go_at_call 33;(with_reducible refine CP.i.e ?_);rintro r w13 ⟨rfl,aAs⟩;have Z10:=ab ((Z9.i.go aAs).new b.ay 62);have lb:=Z10.i.R.avZ;have th:=Z10.i.b1.K 0 27 (aX (Bk.r iO).symm);clear aAs l1);have Z8:=ab ((Z10.i.sub (L':=[(W.a.j+1,iO.ay),(W.a.j,t.ay)]) (by simp)).put (fun p hp=>by simp at hp;subst hp;simp) b.ay (by rw[Bk.r,Bk.r]));refine aN (kBk.qW rfl _ rfl Z8.i.R (Bk.r _)) rfl ?_;rw[HE.i];exact⟨rfl,Z8.i.O⟩
end
section
attribute [local go_sem high] jd jL
def aAt:ajS 351:=⟨fun c w=>by
 go_enter Tryz.func351,Tryz.ntmps351;go_wp2;go_ret;exact⟨rfl,rfl⟩,fun args w=>by kernel_rfl⟩
theorem akL(s:Bool)(a:fC)(w:ak):aP ah 307 #[.e s,.d a.ay] w (fT w (.e (a.h==s&&(s||a.lG)))):=by
 have HB:=ab ((aG w.a.j w).alloc (av _) (.D a.ay 27));have x0:=dM.new w a.ay 27;have C:=ab (ah4 _ aAt _ 12 12 _ _ _ (by omega) (gu.tail (B:=w.a.j+1) (mV _) x0));have HS:=ab (K6 a);obtain⟨z,hz⟩:=bZ (nzB (a.b.a.f 4));rw[<-hz]at C HS;clear hz;have HZ:=ab (show a.lG = !z by rw[HS.i];simp);rw[HZ.i];obtain⟨x1,x2,x3,x4⟩:=x0.J;have a0:=fC.nS a;cases s<;>cases h6:a.h
 all_goals
  rw[h6]at a0;go_enter Tryz.func307,Tryz.ntmps307
  first
   | (go_wp2
      go_ret;exact⟨rfl,HB.i⟩)
   | (go_wp2_with fail
      refine C.i.e ?_;rintro e w' ⟨rfl,rfl⟩;cases z
      all_goals
       go_wp2;go_ret;exact⟨rfl,HB.i⟩)
theorem XB(W:ak)(A:Option aT)(n c:Nat)(l:List UInt8)(k:Nat)(hk:k+1<n)(hnc:n<=c)(hc:c<=9223372036854775807/\n<=1000000)(hr:gu W W.a.j A n l):aP ah 312 #[.a A n c,.b .a k] W (fT W (.b .u16 (eY l k:Nat))):=by
 have hl:=hr.len;have h0:=ab (vP l k);have h1:(k:Int)+2<=c:=by omega
 have h2:(k:Int)<=(k:Int)+2:=by omega
 obtain⟨m,hm⟩:∃m:Nat,m=k+2:=⟨_,rfl⟩
 have h3:(k:Int)+2=m:=by omega
 have w1:=jW ((k:Int)+2) (by omega);have h4:(k:Int)<=m:=by omega
 have h5:(m:Int)<=c:=by omega
 have P:=hr.ad6 (z:=k) (b:=m) (c:=c) (by omega) (by omega) hnc;have e2:(l.d m).f k=(l.f k).d 2:=by rw[rQ,hm,kP]
 rw[e2]at P;have C:=ab (Nu _ (m-k) (c-k) _ W (by omega) (by omega) P);rw[JN l k (by omega)]at C;have h6:Eh.wrap (eY l k:Nat)=(eY l k:Nat):=by have:=h0.i;simp[vS,nZ,mq];omega
 generalize eY l k=x at *;clear P hr e2 hm;go_enter Tryz.func312,Tryz.ntmps312;go_wp2_with (go_at_call 180;with_reducible refine C.i.e ?_;rintro e w' ⟨rfl,hb⟩);go_ret
 first
 | exact⟨rfl,hb⟩
 | exact⟨congrArg (fun z=>Ending.returned (.b .u16 z)) h6,hb⟩
theorem Ig{B:Nat}{L:List (Nat×Array aB)}{w0 W:ak}{A:Option aT}{c:Nat}{bs:List UInt8}(h:Ly B L w0 W (.a A bs.a c) bs)(k z:Nat)(hz:z<=65535)(hk:k+2<=bs.a)(hl:bs.a<=1000000):aP ah 310 #[.a A bs.a c,.b .a k,.b .u16 z] W fun e W'=>e=.a (.I #[])/\Ly B L w0 W' (.a A bs.a c) (sM bs k (qF z)):=by
 obtain⟨g,hg1,hg2,hg3,hg4,hg5⟩:=h.h (by omega);subst hg1;have LD:=ab h.drew;have q7:gB.wrap (z:Int)=(z:Int):=by rw[jh];omega
 have PZ:=ab (fun W=>wO z hz W);rw[vD z hz]at PZ;obtain⟨n,hn⟩:=bZ bs.a;have HN:=ab hn;rw[<-hn]at LD hg3 hk hl ⊢;have k1:(k:Int)<=n:=by omega
 have HP:=ab (show 0<2->∃g',(some ⟨g,0,none⟩:Option aT)=some ⟨g',0,none⟩/\vQ (some ⟨g,0,none⟩) k c 1=some ⟨g',k,none⟩from fun _=>⟨g,rfl,Rq (n:=0) (by omega)⟩);have HZ:=ab (show k+2<=bs.a by omega);have HM:=ab (show 2=qI 2 (n-k)by show 2=min 2 (n-k);omega);clear hn hg2 h;go_enter Tryz.func310,Tryz.ntmps310;go_wp2_with fail;go_region_held_law (fun _=>True) (trivial)
  (first
  | (go_at_call 184;(with_reducible refine(PZ.i _).e ?_);rintro e w9 ⟨A9,rfl,ho,hb⟩;have R9:=ab (DW ho (aG _ _));have L9:=ab (LD.i.go hb);clear ho hb)
  | (refine Pw (o:=⟨some 12,_,_,_,_,_⟩) rfl (.a 8) (.a 11) rfl (some ⟨g,0,none⟩) n c L9.i k 2 (vQ (some ⟨g,0,none⟩) k c 1) (n-k) (c-k) rfl A9 2 2 rfl R9.i HM.i HP.i HZ.i ?_;intro w10 h10 h11;have L10:=ab h10;clear h10 h11))
 go_wp2;go_end0;exact⟨rfl,L10.i⟩
end
structure Pz where
 h:Int
 j:Int
 S:Int
def Pz.ay(x:Pz):Array aB:=#[.b .a x.h,.b .a x.j,.b .a x.S]
def Pz.r(x:Pz):x.ay.j=3:=by simp[Pz.ay]
def Pz.dw(x:Pz):x.ay.all (·.h)=true:=by simp[Pz.ay,dx]
@[go_sem]theorem Pz.eB(x:Pz):eB x.ay=3:=Pz.r x
@[go_sem]theorem Pz.DX(x:Pz):x.ay[0]? = some (.b .a x.h):=by simp[Pz.ay,aD]
@[go_sem]theorem Pz.Hr(x:Pz):x.ay[1]? = some (.b .a x.j):=by simp[Pz.ay,aD]
@[go_sem]theorem Pz.KW(x:Pz):x.ay[2]? = some (.b .a x.S):=by simp[Pz.ay,aD]
def Pz.aeQ(x:Pz)(v:Int):x.ay.c 0 (.b .a v)=({x with h:=v}:Pz).ay:=by simp[Pz.ay,aM]
def Pz.aeR(x:Pz)(v:Int):x.ay.c 2 (.b .a v)=({x with S:=v}:Pz).ay:=by simp[Pz.ay,aM]
def acg:Pz:=⟨0,0,0⟩
@[go_sem]theorem aAu:cB #[aI bU 0,aI bU 0,aI bU 0]=cB acg.ay:=rfl
@[go_sem]theorem av0:eO #[aI bU 0,aI bU 0,aI bU 0] 376=eO acg.ay 376:=rfl
def kPz:pK 376 3 acg.ay:=⟨⟨_,Es,rfl⟩,by kernel_rfl,by kernel_rfl,Pz.r _⟩
@[go_sem ↓]theorem aLU(v:aB):cK 376 v=yY 376 v:=rfl
@[go_sem ↓]theorem aLV(v x:aB):eU 376 v x=zQ 376 v x:=rfl
@[go_sem]theorem aFk(W:ak)(c:Array aB)(x:Pz)(b:Nat)(hb:b=W.a.j)(hc:eB c=3):(zQ 376 (.c (some ⟨b,0,none⟩)) (.d x.ay)).G ah (W.alloc (.D c 376)) = .Y () (W.alloc (.D x.ay 376)):=kPz.stN W c x.ay b hb hc (Pz.r x) (Pz.dw x)
@[go_sem]theorem aIe(W:ak)(b o:Nat)(x:Pz)(h:W.K b o 3):(zQ 376 (.c (some ⟨b,o,none⟩)) (.d x.ay)).G ah W = .Y () (gX W b o x.ay):=kPz.st W b o x.ay h (Pz.r x) (Pz.dw x)
@[go_sem ↓]theorem aLW(ps:Array (Nat×aB)):fQ 376 ps=uW 376 ps:=rfl
def aFl(w:ak)(fs:Array oh)(h:ah.underlying 376=some (.struct fs)):(iF (fun f=>Prod.mk f.X <$> sizeOf f.type) fs:Sem (Array (Nat×Nat))).G ah w = .Y #[(0,1),(1,1),(2,1)] w:=by
 have e:=Es;rw[h]at e;cases e;show _=_
 kernel_rfl
@[go_sem]theorem aAv(W:ak)(iI:Int)(size:Int)(lZ:Int):(uW 376 #[(0,.b .a iI),(1,.b .a size),(2,.b .a lZ)]).G ah W = .Y (.d (Pz.mk iI size lZ).ay) W:=kPz.bd W _ _ _ _ Es (aFl W _ Es) (by
 refine vo (Pz.r _) ?_ ?_
 ·simp[r9,cZ]
 ·simp[rF,cZ,Pz.ay]<;>(simp only[<-gD];rfl))
def Bp(p:Pk)(dst:Bool):Pz:=⟨(p.Dv+if p.I.h.h then 8 else 12)+(if dst then(if p.I.h.h then 16 else 4)else 0),if p.I.h.h then 16 else 4,p.rP+if dst then 2 else 0⟩
def aeS(p:Pk)(dst:Bool)(h1:0<=p.Dv/\p.Dv<=10000000)(h2:0<=p.rP/\p.rP<=10000000)(w:ak):aP ah 309 #[.d p.ay,.e dst] w (fT w (.d (Bp p dst).ay)):=by
 have h0:=((Bx.start w).new p.ay 83).new acg.ay 376;rw[show(w.alloc (.D p.ay 83)).a.j=w.a.j+1 by simp]at h0;have Z0:=ab h0;have HV:=ab (show Bp p dst=⟨(p.Dv+if p.I.h.h then 8 else 12)+(if dst then(if p.I.h.h then 16 else 4)else 0),if p.I.h.h then 16 else 4,p.rP+if dst then 2 else 0⟩from rfl);clear h0;have KS:=ab (fun(w':ak) (h:dM w' w.a.j p.ay)=>show w'.b ⟨w.a.j,1,none⟩=some (.e p.I.h.h)/\w'.b ⟨w.a.j,39,none⟩=some (.b .a p.Dv)/\w'.b ⟨w.a.j,40,none⟩=some (.b .a p.rP)from⟨(h.J.1 1).trans (by simp[Pk.ay,Tu.ay,aD,fC.r,Tu.r];rfl),(h.J.1 39).trans (Pk.am1 p),(h.J.1 40).trans (Pk.am2 p)⟩);go_enter Tryz.func309,Tryz.ntmps309;go_upto_region 1 with fail
 generalize(w.alloc (.D p.ay 83)).alloc (.D acg.ay 376)=w0 at Z0 ⊢;obtain⟨f1,f2,f3⟩:=KS.i _ Z0.i.b1;have q1:=jW (p.Dv+12) (by omega);have q2:=jW (p.Dv+8) (by omega);have P0:=ab (Z0.i.new (Pz.mk (p.Dv+12) 4 p.rP).ay 376);have hy:=Z0.i.R.lt;go_upto_region 2 with fail
 generalize w0.alloc (.D (Pz.mk (p.Dv+12) 4 p.rP).ay 376)=w1 at P0 ⊢;generalize w0.a.j=y at P0 hy ⊢;clear f1 f2 f3;obtain⟨f1,f2,f3⟩:=KS.i _ P0.i.b2;cases hs:p.I.h.h
 case false=>
  rw[hs]at f1;cases hd:dst
  case false=>
   go_upto_region 7 with fail
   have l5:=kPz.ni P0.i.R (Pz.r _);have yZ:=P0.i.b1.K 0 3 (aX (Pz.r acg).symm);have ZF:=ab ((P0.i.swap).put (fun r hr=>by
    simp only[bB,fU,or_false]at hr;rcases hr with rfl|rfl<;>simp only[]<;>omega) (Pz.mk (p.Dv+12) 4 p.rP:Pz).ay (by rw[Pz.r,Pz.r]))
   go_wp2;refine aN (kPz.zI rfl _ rfl ZF.i.R (Pz.r _)) rfl ?_;refine⟨?_,ZF.i.O⟩;simp[Bp,hs,hd]
  case true=>
   have c0:=(P0.i.R.J.1 0).trans (Pz.DX _);have c1:=(P0.i.R.J.1 1).trans (Pz.Hr _);have z0:=P0.i.R.J.2.1 0;have q5:=jW (p.Dv+12+4) (by omega);have P1:=P0.i.set (fun r hr=>by
    simp only[bB,fU,or_false]at hr;rcases hr with rfl|rfl<;>simp only[]<;>omega) 0 (.b .a (p.Dv+12+4))
   rw[Pz.aeQ]at P1;have P1:=ab P1;go_upto_region 6 with fail
   clear c0 c1 z0;generalize w1.F ⟨y,0,none⟩ (.b .a (p.Dv+12+4))=w8 at P1 ⊢;have c2:=(P1.i.R.J.1 2).trans (Pz.KW _);have z2:=P1.i.R.J.2.1 2;have q6:=jW (p.rP+2) (by omega);have P2:=P1.i.set (fun r hr=>by
    simp only[bB,fU,or_false]at hr;rcases hr with rfl|rfl<;>simp only[]<;>omega) 2 (.b .a (p.rP+2))
   rw[Pz.aeR]at P2;have P2:=ab P2;go_upto_region 7 with fail
   clear c2 z2;generalize w8.F ⟨y,2,none⟩ (.b .a (p.rP+2))=w9 at P2 ⊢;have l5:=kPz.ni P2.i.R (Pz.r _);have yZ:=P2.i.b1.K 0 3 (aX (Pz.r acg).symm);have ZF:=ab ((P2.i.swap).put (fun r hr=>by
    simp only[bB,fU,or_false]at hr;rcases hr with rfl|rfl<;>simp only[]<;>omega) (Pz.mk (p.Dv+12+4) 4 (p.rP+2):Pz).ay (by rw[Pz.r,Pz.r]))
   go_wp2;refine aN (kPz.zI rfl _ rfl ZF.i.R (Pz.r _)) rfl ?_;refine⟨?_,ZF.i.O⟩;simp[Bp,hs,hd]
 case true=>
  rw[hs]at f1;have aFm:=P0.i.R.K 0 3 (aX (Pz.r _).symm);have Q0:=ab (P0.i.put (fun r hr=>by
   simp only[bB,fU,or_false]at hr;rcases hr with rfl|rfl<;>simp only[]<;>omega) (Pz.mk (p.Dv+8) 16 p.rP).ay (by rw[Pz.r,Pz.r]))
  go_upto_region 4 with fail
  clear f1 f2 f3 aFm;generalize gX w1 y 0 (Pz.mk (p.Dv+8) 16 p.rP).ay=w2 at Q0 ⊢;cases hd:dst
  case false=>
   go_upto_region 7 with fail
   have l5:=kPz.ni Q0.i.R (Pz.r _);have yZ:=Q0.i.b1.K 0 3 (aX (Pz.r acg).symm);have ZF:=ab ((Q0.i.swap).put (fun r hr=>by
    simp only[bB,fU,or_false]at hr;rcases hr with rfl|rfl<;>simp only[]<;>omega) (Pz.mk (p.Dv+8) 16 p.rP:Pz).ay (by rw[Pz.r,Pz.r]))
   go_wp2;refine aN (kPz.zI rfl _ rfl ZF.i.R (Pz.r _)) rfl ?_;refine⟨?_,ZF.i.O⟩;simp[Bp,hs,hd]
  case true=>
   have c0:=(Q0.i.R.J.1 0).trans (Pz.DX _);have c1:=(Q0.i.R.J.1 1).trans (Pz.Hr _);have z0:=Q0.i.R.J.2.1 0;have q5:=jW (p.Dv+8+16) (by omega);have P1:=Q0.i.set (fun r hr=>by
    simp only[bB,fU,or_false]at hr;rcases hr with rfl|rfl<;>simp only[]<;>omega) 0 (.b .a (p.Dv+8+16))
   rw[Pz.aeQ]at P1;have P1:=ab P1;go_upto_region 6 with fail
   clear c0 c1 z0;generalize w2.F ⟨y,0,none⟩ (.b .a (p.Dv+8+16))=w8 at P1 ⊢;have c2:=(P1.i.R.J.1 2).trans (Pz.KW _);have z2:=P1.i.R.J.2.1 2;have q6:=jW (p.rP+2) (by omega);have P2:=P1.i.set (fun r hr=>by
    simp only[bB,fU,or_false]at hr;rcases hr with rfl|rfl<;>simp only[]<;>omega) 2 (.b .a (p.rP+2))
   rw[Pz.aeR]at P2;have P2:=ab P2;go_upto_region 7 with fail
   clear c2 z2;generalize w8.F ⟨y,2,none⟩ (.b .a (p.rP+2))=w9 at P2 ⊢;have l5:=kPz.ni P2.i.R (Pz.r _);have yZ:=P2.i.b1.K 0 3 (aX (Pz.r acg).symm);have ZF:=ab ((P2.i.swap).put (fun r hr=>by
    simp only[bB,fU,or_false]at hr;rcases hr with rfl|rfl<;>simp only[]<;>omega) (Pz.mk (p.Dv+8+16) 16 (p.rP+2):Pz).ay (by rw[Pz.r,Pz.r]))
   go_wp2;refine aN (kPz.zI rfl _ rfl ZF.i.R (Pz.r _)) rfl ?_;refine⟨?_,ZF.i.O⟩;simp[Bp,hs,hd]
section
attribute [local go_sem high] jd jL
@[go_sem]theorem Pk.av1(x:Pk):x.ay[1]? = some (.e x.I.h.h):=by simp[Pk.ay,Tu.ay,aD,fC.r,Tu.r];rfl
@[go_sem]theorem Pk.aAw(x:Pk):x.ay[35]? = some (.b .a x.I.aQ):=by simp[Pk.ay,Tu.ay,tuT,aD,fC.r,Tu.r]
theorem XC(l:List UInt8)(A:Option aT)(n c:Nat)(w:ak)(hR:gu w w.a.j A n l)(hn:n<=1073741824):
 aP ah 308 #[.a A n c] w (ClY w n l):=by
 have hll:=hR.len;cases A with
 | some a=>
   have hnil:∀W:ak,(binOp .eql 56 (.a (some a) n c) (.a none 0 0)).G ah W = .Y (.e false) W:=fun W=>by
    simp only[binOp];simp[je,cO]
   obtain⟨i0,hi0,hz0,hz1,hzb⟩:=zO Jf;have hz2:(aI .u8 0).D.j=1:=rfl;have O1:=ab (show(w.alloc (.D #[] 5)).c w.a.j 5 1 (.a (some ⟨w.a.j,0,none⟩) 0 0) 0 []from nC w #[] 0 (av _) (by unfold maxLen;omega) rfl);have O2:=ab (hR.alloc (av _) (.D #[] 5));have Uy:=ab (show 0+n<=maxLen by unfold maxLen;omega);have Qo:=ab (show(0+n)*1<=140737488355328 by omega);have O3:=ab (show w.a.j<=(w.alloc (.D #[] 5)).a.j by simp);have ON:=ab (Gs l);clear hR hll;go_enter Tryz.func308,Tryz.ntmps308;go_wp2_with (at_builtin;refine jC _ rfl (.a 5) (.a 6) _ rfl w.a.j 5 i0 (.b .u8 0) 1 1 cO hi0 hz0 hz1 hzb hz2 (mY _) (.a (some ⟨w.a.j,0,none⟩) 0 0) 0 [] rfl O1.i w.a.j (some a) n c (l.map bv) rfl O2.i ON.i Uy.i Qo.i O3.i ?_;intro v1 w1 hown1 hg1 xu);obtain⟨A',c',hv,_,_⟩:=jG hown1;subst hv;simp only[bl,dH]at hown1;have hb:=sS ((aG w.a.j w).alloc (av _) (.D #[] 5)) hg1 (av _) O3.i;go_wp2;go_ret;exact⟨A',c',by simp,hown1,hb⟩
 | none=>
   have h0:n=0:=by
    rcases eu n with h0|h0
    ·exact h0
    ·obtain⟨a,ha,_⟩:=hR.2 h0;cases ha
   subst h0;have hl:l=[]:=bG hll;subst hl;have hnil:∀W:ak,(binOp .eql 56 (.a none 0 c) (.a none 0 0)).G ah W = .Y (.e true) W:=fun W=>by
    simp only[binOp];simp[je,cO]
   have FIN:=ab (show ClY w 0 [] (.a (.a none 0 0)) w from⟨none,0,rfl,fu _ _ _ _,aG _ _⟩);clear hR hll;go_enter Tryz.func308,Tryz.ntmps308;go_wp2;go_ret;exact FIN.i
def ahd{l:List UInt8}{p:Pk}(h:anm l p)(dst:Bool):Bp p dst=⟨(aeg p dst:Nat),(wF p:Nat),(H9 p dst:Nat)⟩/\aeg p dst+wF p<=p.Ht.g/\H9 p dst+2<=p.Ht.g/\wF p<=16/\4<=wF p:=by
 obtain⟨_,h1,h2,h3,h4,_⟩:=h;unfold Bp aeg wF H9;rcases h3 with h3|h3
 ·rw[if_pos h3]at h4
  cases hs:p.I.h.h<;>cases dst<;>rw[hs]at h2<;>simp at h2⊢<;> omega
 ·rw[if_neg (by rw[h3];decide)]at h4
  cases hs:p.I.h.h<;>cases dst<;>rw[hs]at h2<;>simp at h2⊢<;> omega
def akM(l:List UInt8)(a:fC)(q:Int)(dst:Bool):List UInt8×Int:=(abP l a q dst,if SH l a q then 0 else 1)
theorem XD(w:ak)(A:Option aT)(n c:Nat)(l:List UInt8)(a:fC)(q:Int)(dst:Bool)(hnc:n<=c)(hc:c<=9223372036854775807/\n<=1000000)(hr:gu w w.a.j A n l):aP ah 267 #[.a A n c,.d a.ay,.b .a q,.e dst] w (aj5 w (akM l a q dst)):=by
 have Z0:=ab ((Bx.start w).new a.ay 27);have HR:=ab hr;have hl:=ab hr.len;have CR:=ab (JX _ A n c l hnc (by omega) (Z0.i.Pf hr));have HV:=ab (show abP l a q dst=if SH l a q then rw3 l (wE l) a q.g dst else []from rfl);have HK:=ab (show SH l a q=((wE l).kind==0&&(a.h==(wE l).I.h.h&&((wE l).I.h.h||a.lG))&&(decide (0<=q)&&decide (q<=65535)))from rfl);have HF:=ab (Pq (l:=l));clear hr;go_enter Tryz.func267,Tryz.ntmps267;go_upto_region 1 with fail
 generalize w.alloc (.D a.ay 27)=w1 at Z0 CR ⊢;obtain⟨p,hp⟩:=bZ (wE l);have HP:=ab hp;unfold PkP at CR;rw[<-hp]at CR HV HK HF;clear hp;go_upto_region 2 with(go_at_call 32;(with_reducible refine CR.i.e ?_);rintro e w2 ⟨rfl,hb⟩;have Z2:=ab ((Z0.i.go hb).new p.ay 83);have HY:=ab (Z0.i.go hb).R.lt;clear hb)
 generalize w2.alloc (.D p.ay 83)=w3 at Z2 ⊢;generalize w2.a.j=y at *;have KS:=ab (fun(w':ak) (h:Bx [(y,p.ay),(w.a.j,a.ay)] w w')=>show w'.b ⟨y,0,none⟩=some (.b .a p.kind)/\w'.b ⟨y,1,none⟩=some (.e p.I.h.h)/\(rZ (.c (some ⟨w.a.j,0,none⟩))).G ah w' = .Y (.d a.ay) w' from⟨(h.R.J.1 0).trans (Pk.DY p),(h.R.J.1 1).trans (Pk.av1 p),h.b1.aij⟩);obtain⟨f1,f2,f3⟩:=KS.i _ Z2.i;have CO:=ab (akL p.I.h.h a w3);have ZG:=ab (fun w' (hb:aL w3.a.j w3 w')=>Z2.i.go hb);have NO:=ab (show SH l a q=false->akM l a q dst=([],1)from fun h=>by unfold akM;rw[HV.i,h];rfl);cases hk0:(p.kind==0)
 ·have k1:(p.kind != 0)=true:=by rw[bne,hk0];rfl
  have HN:=ab (NO.i (by rw[HK.i,hk0];rfl));clear hk0;go_wp2;go_ret2;rw[HN.i];exact⟨none,0,0,rfl,Lr _,Z2.i.O⟩
 have k1:(p.kind != 0)=false:=by rw[bne,hk0];rfl
 cases ho:(a.h==p.I.h.h&&(p.I.h.h||a.lG))
 ·rw[ho]at CO
  have HN:=ab (NO.i (by rw[HK.i,hk0,ho];rfl));clear hk0 ho;go_wp2_with (go_at_call 307;(with_reducible refine CO.i.e ?_);rintro e w4 ⟨rfl,hb⟩;have Z4:=ab (ZG.i _ hb);clear hb);go_ret2;rw[HN.i];exact⟨none,0,0,rfl,Lr _,Z4.i.O⟩
 rw[ho]at CO;by_cases hq:0<=q/\q<=65535
 ·obtain⟨hq0,hq1⟩:=hq
  have Dt:=ab (show SH l a q=true by rw[HK.i,hk0,ho,decide_eq_true hq0,decide_eq_true hq1];rfl);have HVO:=ab (show akM l a q dst=(rw3 l p a q.g dst,0)by unfold akM;rw[HV.i,Dt.i];rfl);have q1:decide (q<0)=false:=by simp;omega
  have q2:decide ((65535:Int)<q)=false:=by simp;omega
  have FN:=HF.i (by simpa using hk0);have HFN:=ab FN;obtain⟨g0,g1,g2,gp,g3,g4⟩:=FN;have g5:0<=p.Ht/\p.Ht<=n:=by have:=hl.i;split at g2<;>split at g3<;>omega
  obtain⟨en,hen⟩:∃m:Nat,p.Ht=(m:Int):=⟨p.Ht.g,by omega⟩
  have HEN:=ab hen;have en1:en<=n:=by omega
  have av2:=ab (show a.h=p.I.h.h by have:=ho;simp only[bf,beq_iff_eq]at this;exact this.1);clear hk0 ho g0 gp g1 g2 g3 g4 g5;go_upto_region 4 with(go_at_call 307;(with_reducible refine CO.i.e ?_);rintro e w4 ⟨rfl,hb⟩;have Z4:=ab (ZG.i _ hb);clear hb)
  have K2:=ab (fun(w':ak) (h:dM w' y p.ay)=>show w'.b ⟨y,41,none⟩=some (.b .a (en:Nat))/\w'.b ⟨y,35,none⟩=some (.b .a p.I.aQ)/\w'.b ⟨y,39,none⟩=some (.b .a p.Dv)/\w'.b ⟨y,40,none⟩=some (.b .a p.rP)from⟨(h.J.1 41).trans ((Pk.aqz p).trans (by rw[HEN.i])),(h.J.1 35).trans (Pk.aAw p),(h.J.1 39).trans (Pk.am1 p),(h.J.1 40).trans (Pk.am2 p)⟩);obtain⟨e1,_,_,_⟩:=K2.i _ Z4.i.R;have en2:(en:Int)<=c:=by omega
  have CB:=ab (XC (l.d en) A en c w4 ((Z4.i.Pf HR.i).upN en1) (by omega));go_upto_region 5 with(go_at_call 308;(with_reducible refine CB.i.e ?_);rintro e w5 ⟨A5,c5,rfl,UM,hb5⟩;have L5:=ab (Ly.ant (w0:=w) (L:=[(y,p.ay),(w.a.j,a.ay)]) UM Z4.i.O.j (Z4.i.O.trans (hb5.e Z4.i.O.j)) (fun r hr=>⟨((Z4.i.go hb5).2 r hr).2,(Z4.i.2 r hr).2.lt⟩));clear UM hb5)
  clear e1 f1 f2 f3;have l10:=kPk.ni L5.i.R (Pk.r _);have Gj:=HFN.i;have CF:=ab (aeS p dst ⟨by have:=Gj.Dv;omega,by have h1:=Gj.rP;have h2:=Gj.Ht;have h3:=Gj.len;have:=hl.i;split at h1<;>split at h2<;>omega⟩ ⟨by have h1:=Gj.rP;have h2:=Gj.Dv;split at h1<;>omega,by have h2:=Gj.Ht;have h3:=Gj.len;have:=hl.i;split at h2<;>omega⟩ w5);clear Gj;go_upto_region 6 with(go_at_call 309;(with_reducible refine CF.i.e ?_);rintro e w6 ⟨rfl,hb⟩;have HW6:=ab (L5.i.go hb).R.lt;have L6:=ab ((L5.i.go hb).new (Bp p dst).ay 376);clear hb)
  clear l10;obtain⟨pv,p1,p2,p3,p4⟩:=ahd HFN.i dst;rw[HEN.i,dU]at p1 p2;rw[pv]at L6;obtain⟨pa,hpa⟩:∃v,v=aeg p dst:=⟨_,rfl⟩
  obtain⟨ps,hps⟩:∃v,v=wF p:=⟨_,rfl⟩
  obtain⟨pp,hpp⟩:∃v,v=H9 p dst:=⟨_,rfl⟩
  have HPA:=ab hpa;have HPS:=ab hps;have HPP:=ab hpp;rw[<-hpa,<-hps,<-hpp]at L6;rw[<-hpa,<-hps]at p1;rw[<-hpp]at p2;rw[<-hps]at p3 p4;have PV:=ab (pv.trans (by rw[<-hpa,<-hps,<-hpp]:_=(⟨(pa:Nat),(ps:Nat),(pp:Nat)⟩:Pz)));rw[PV.i];clear hpa hps hpp pv;have hy6:y<w6.a.j:=HW6.i;clear HW6;generalize w6.alloc (.D (Pz.mk (pa:Nat) (ps:Nat) (pp:Nat)).ay 376)=w7 at L6 ⊢;generalize w6.a.j=y7 at L6 ⊢;have a0:=(L6.i.R.J.1 0).trans (Pz.DX _);have a1:=(L6.i.R.J.1 1).trans (Pz.Hr _);obtain⟨m1,hm1⟩:∃m:Nat,m=pa+ps:=⟨_,rfl⟩
  have s1:=jW ((pa:Int)+(ps:Int)) (by omega);have s2:(pa:Int)+(ps:Int)=m1:=by omega
  rw[s2]at s1;have s3:(pa:Int)<=m1:=by omega
  have s4:(m1:Int)<=c:=by omega
  have s5:(ps:Int)<=16:=by omega
  have HM1:=ab hm1;clear hm1;go_quiet (fail);obtain⟨wz,hwz⟩:=bZ (w7.drewN nq);have L7:=ab (show Ly w.a.j [(y7,(Pz.mk (pa:Nat) (ps:Nat) (pp:Nat)).ay),(y,p.ay),(w.a.j,a.ay)] w wz (.a A5 en c5) (l.d en)by rw[hwz];exact L6.i.go (eH (aG _ _) nq));rw[<-hwz];clear hwz a0 a1 L6;have HLE:=ab (show(l.d en).a=en by rw[bH,hl.i];omega);obtain⟨g,hg1,hg2,hg3,hg4,hg5⟩:=L7.i.h (by rw[HLE.i];omega);subst hg1;clear hg2;have RTo:=ab ((Ng (o:=0) L7.i.b2 a (by have:=fC.r a;rw[<-this];simp)).upN p3);have s6:(pa:Int)<=en:=by omega
  have HP:=ab (show 0<ps->∃g',(some ⟨g,0,none⟩:Option aT)=some ⟨g',0,none⟩/\vQ (some ⟨g,0,none⟩) pa c5 1=some ⟨g',pa,none⟩from fun _=>⟨g,rfl,Rq (n:=0) (by omega)⟩);have HM:=ab (show ps=qI ps (en-pa)by show ps=min ps (en-pa);omega);have HZ:=ab (show pa+ps<=(l.d en).a by rw[HLE.i];exact p1);have a0:=(L7.i.R.J.1 0).trans (Pz.DX _);go_upto_region 8 with(refine Nh rfl (.a 65) (.a 66) rfl L7.i pa ps rfl rfl RTo.i HM.i HP.i HZ.i ?_;intro w8 h8 h9;have L8:=ab h8;clear h8 h9)
  clear a0 HP HM HZ s6 RTo L7;obtain⟨o1,ho1⟩:∃o,o=sM (l.d en) pa ((a.b.a.d ps).d ps):=⟨_,rfl⟩
  have HO1:=ab ho1;have HL1:=ab (show o1.a=en by rw[ho1,FK (by simp;rw[hl.i];omega),HLE.i]);rw[<-ho1]at L8;clear ho1;obtain⟨qn,hqn⟩:∃v:Nat,q=(v:Int):=⟨q.g,by omega⟩
  have HQN:=ab hqn;subst hqn;have q7:gB.wrap (qn:Int)=(qn:Int):=by rw[jh];omega
  have PZ:=ab (fun W=>wO qn (by omega) W);rw[vD qn (by omega)]at PZ;have s6:(pp:Int)<=en:=by omega
  have HP:=ab (show 0<2->∃g',(some ⟨g,0,none⟩:Option aT)=some ⟨g',0,none⟩/\vQ (some ⟨g,0,none⟩) pp c5 1=some ⟨g',pp,none⟩from fun _=>⟨g,rfl,Rq (n:=0) (by omega)⟩);have HM:=ab (show 2=qI 2 (en-pp)by show 2=min 2 (en-pp);omega);have HZ:=ab (show pp+2<=o1.a by rw[HL1.i];exact p2);have KP:=ab (fun(w':ak) (h:dM w' y7 (Pz.mk (pa:Nat) (ps:Nat) (pp:Nat)).ay)=>show w'.b ⟨y7,2,none⟩=some (.b .a (pp:Nat))from(h.J.1 2).trans (Pz.KW _));have a2:=KP.i _ L8.i.R;go_region_held_law (fun w'=>w'.b ⟨y7,2,none⟩=some (.b .a (pp:Nat)))
   (first|exact KP.i _ L8.i.R.drew|exact KP.i _ L9.i.R|exact KP.i _ L10.i.R|go_keep)
   (first
   | (go_at_call 184;(with_reducible refine(PZ.i _).e ?_);rintro e w9 ⟨A9,rfl,ho,hb⟩;have R9:=ab (DW ho (aG _ _));have L9:=ab (L8.i.drew.go hb);clear ho hb)
   | (refine Pw (o:=⟨some 75,_,_,_,_,_⟩) rfl (.a 71) (.a 74) rfl (some ⟨g,0,none⟩) en c5 L9.i pp 2 (vQ (some ⟨g,0,none⟩) pp c5 1) (en-pp) (c5-pp) rfl A9 2 2 rfl R9.i HM.i HP.i HZ.i ?_;intro w10 h10 h11;have L10:=ab h10;clear h10 h11))
  clear a2 q7 s6 HP HM HZ KP PZ L8;obtain⟨o2,ho2⟩:∃o,o=sM o1 pp ((qF (qn:Int)).d 2):=⟨_,rfl⟩
  have HO2:=ab ho2;have HL2:=ab (show o2.a=en by rw[ho2,FK (by rw[HL1.i];exact p2),HL1.i]);rw[<-ho2]at L10;clear ho2;have a6:=(L10.i.b2.J.1 0).trans (fC.nS a);have Gj:=HFN.i;obtain⟨N,hN⟩:∃N:Nat,p.Dv=(N:Int):=⟨p.Dv.g,by have:=Gj.Dv;omega⟩
  obtain⟨S,hS⟩:∃S:Nat,p.rP=(S:Int):=⟨p.rP.g,by have:=Gj.Dv;have:=Gj.rP;split at this<;>omega⟩
  have hNS:N+20<=S:=by have:=Gj.rP;split at this<;>omega
  have aLY:14<=N:=by have:=Gj.Dv;omega
  obtain⟨pl,hpl⟩:∃v,v=D6 p.I.aQ:=⟨_,rfl⟩
  have aLZ:S+pl+2<=en/\6<=pl/\pl<=16:=by
   have h1:=Gj.Ht;have h2:=HEN.i;rw[hpl];unfold D6;rcases Gj.pro with h|h<;>rw[h]at h1⊢<;> simp at h1⊢<;> omega
  have HP6:=ab (show(if p.I.aQ=6 then(16:Int)else if p.I.aQ=17 then 6 else 0)=(pl:Int)by rw[hpl];unfold D6;split;rfl;split<;>rfl);have HPL:=ab hpl;have HNN:=ab hN;have HSS:=ab hS;clear Gj hpl;obtain⟨o3,ho3⟩:∃o,o=if a.h then o2 else sM o2 (N+10) (qF ((oK (eY l (N+10)) ((l.d (pa+ps)).f pa) (a.b.a.d ps):Nat):Int)):=⟨_,rfl⟩
  have HO3:=ab ho3;have HL3:=ab (show o3.a=en by rw[ho3];split;exact HL2.i;rw[FK (by rw[HL2.i];show N+10+2<=en;omega),HL2.i]);clear ho3;rw[show m1-pa=ps by omega];go_upto_if 78 with fail
  go_cut []from 76 to 91 (fun wx=>Ly w.a.j [(y7,(Pz.mk (pa:Nat) (ps:Nat) (pp:Nat)).ay),(y,p.ay),(w.a.j,a.ay)] w wx (.a (some ⟨g,0,none⟩) en c5) o3)
  case first=>
   cases h6:a.h
   case true=>
    rw[h6]at HO3;have L12:=ab L10;go_wp2;go_meet
    case rel=>rw[HO3.i];exact L12.i.i
   case false=>
    rw[h6]at HO3;have hpe:ps%2=0:=by rw[HPS.i];unfold wF;split<;>rfl
    obtain⟨nk,hnk⟩:∃v,v=N+10:=⟨_,rfl⟩
    have e10:(N:Int)+10=(nk:Int):=by omega
    have i10:=jW (nk:Int) (by omega);have RI:=ab (fun(w':ak) (h:Ly w.a.j [(y7,(Pz.mk (pa:Nat) (ps:Nat) (pp:Nat)).ay),(y,p.ay),(w.a.j,a.ay)] w w' (.a (some ⟨g,0,none⟩) en c5) o2)=>show gu w' w'.a.j A n l from HR.i.upon h.o.O);have CS:=ab (XB _ A n c l nk (by omega) hnc hc (RI.i _ L10.i.drew));have CC:=ab (fun(w':ak) (h:Ly w.a.j [(y7,(Pz.mk (pa:Nat) (ps:Nat) (pp:Nat)).ay),(y,p.ay),(w.a.j,a.ay)] w w' (.a (some ⟨g,0,none⟩) en c5) o2)=>Jy w' (vQ A pa c 1) (some ⟨w.a.j,1,none⟩) (m1-pa) (c-pa) 16 w'.a.j w'.a.j (eY l nk) ((l.d m1).f pa) (a.b.a.d ps) (vP l nk) (by omega) (by omega) ((RI.i w' h).ad6 (by omega) (by omega) hnc) (by rw[show m1-pa=ps by omega];exact(Ng (o:=0) h.b2 a (by have:=fC.r a;rw[<-this];simp)).upN p3));rw[show m1-pa=ps by omega]at CC;rw[HM1.i]at CC;obtain⟨cn,hcn⟩:∃v,v=oK (eY l nk) ((l.d (pa+ps)).f pa) (a.b.a.d ps):=⟨_,rfl⟩
    have aFr:cn<=65535:=by rw[hcn];exact DR _ _ _ (vP l nk)
    rw[<-hcn]at CC;have HO4:=ab (show o3=sM o2 nk (qF (cn:Int))by rw[HO3.i,hcn,hnk];rfl);obtain⟨n2,hn2⟩:∃v,v=o2.a:=⟨_,rfl⟩
    have CT:=ab (fun(w':ak) (h:Ly w.a.j [(y7,(Pz.mk (pa:Nat) (ps:Nat) (pp:Nat)).ay),(y,p.ay),(w.a.j,a.ay)] w w' (.a (some ⟨g,0,none⟩) en c5) o2)=>Ig (bs:=o2) (by rw[HL2.i];exact h) nk cn aFr (by rw[HL2.i];omega) (by rw[HL2.i];omega));rw[HL2.i,<-HO4.i]at CT;have K39:=ab (fun(w':ak) (bs:List UInt8) (h:Ly w.a.j [(y7,(Pz.mk (pa:Nat) (ps:Nat) (pp:Nat)).ay),(y,p.ay),(w.a.j,a.ay)] w w' (.a (some ⟨g,0,none⟩) en c5) bs)=>show w'.b ⟨y,39,none⟩=some (.b .a (N:Nat))by rw[(K2.i _ h.b1).2.2.1,HNN.i]);have f39:=K39.i _ _ L10.i;clear hcn hnk hn2 a6;go_upto_region 10 with fail
    go_region_held_law (fun w'=>w'.b ⟨y,39,none⟩=some (.b .a (N:Nat)))
     (first|exact K39.i _ _ L10.i.drew|exact K39.i _ _ L11.i|exact K39.i _ _ L13.i|go_keep)
     (first
     | (go_at_call 312;(with_reducible refine CS.i.e ?_);rintro e w11 ⟨rfl,hb⟩;have L11:=ab (L10.i.drew.go hb);clear hb)
     | (go_at_call 311;(with_reducible refine(CC.i _ L11.i).e ?_);rintro e w12 ⟨rfl,rfl⟩)
     | (go_at_call 310;(with_reducible refine(CT.i _ L11.i).e ?_);rintro e w13 ⟨rfl,h13⟩;have L13:=ab h13;clear h13))
    go_wp2;go_meet
    case rel=>exact L13.i
  have L3:=ab hcut;have aFt:ps%2=0:=by rw[HPS.i];unfold wF;split<;>rfl
  clear hcut L10 a6;have K4:=ab (fun(w':ak) (h:Ly w.a.j [(y7,(Pz.mk (pa:Nat) (ps:Nat) (pp:Nat)).ay),(y,p.ay),(w.a.j,a.ay)] w w' (.a (some ⟨g,0,none⟩) en c5) o3)=>show w'.b ⟨y,40,none⟩=some (.b .a (S:Nat))/\w'.b ⟨y,35,none⟩=some (.b .a p.I.aQ)/\w'.b ⟨y7,2,none⟩=some (.b .a (pp:Nat))/\gu w' w'.a.j A n l from⟨by rw[(K2.i _ h.b1).2.2.2,HSS.i],(K2.i _ h.b1).2.1,(h.R.J.1 2).trans (Pz.KW _),HR.i.upon h.o.O⟩);obtain⟨sa,hsa⟩:∃v,v=S+pl:=⟨_,rfl⟩
  have eS:(S:Int)+(pl:Int)=(sa:Int):=by omega
  have iS:=jW (sa:Int) (by omega);have Uu:=ab hsa;clear hsa;have CP:=ab (fun w=>ajU p.I.aQ w);rw[HP6.i]at CP;go_wp2_with fail;obtain⟨T,f,n0,E0,es,ew⟩:=uD (wc);have hT:Nonempty T:=⟨n0⟩
  have ES:=ab es;have EW:=ab ew;have l1:=fun m=>(K4.i _ (L3.i.go (es m))).1
  have l2:=fun m=>(K4.i _ (L3.i.go (es m))).2.1
  clear es ew;refine lQ f (by kernel_rfl) (by kernel_rfl) n0 E0 ?_
  repeat(go_big_quiet_step ((first|(go_at_call 313;(with_reducible refine(CP.i _).e ?_);rintro e w2 ⟨rfl,hb⟩;exact⟨rfl,EW.i _ ((ES.i _).trans (hb.e (ES.i _).j))⟩))))
  refine eG ?_;rintro _ ⟨m',rfl⟩;have HB:=ab (ES.i m');generalize f m'=wN at *;clear ES EW E0 hT n0;clear l1 l2;have L4:=ab (L3.i.go HB.i);clear L3 HB CP;obtain⟨z2,e35,f2,RA⟩:=K4.i _ L4.i;clear z2;have CS:=ab (XB _ A n c l sa (by omega) hnc hc RA);obtain⟨was,arI⟩:∃v,v=eY l sa:=⟨_,rfl⟩
  have aoo:was<=65535:=by rw[arI];exact vP l sa
  rw[<-arI]at CS;have aAx:=ab arI;obtain⟨u,hu⟩:=bZ ((p.I.aQ==17));have HU:=ab hu;obtain⟨z,hz⟩:=bZ (decide (was=0));have HZ0:=ab hz;have u1:(p.I.aQ==17)=u:=hu.symm;have u2:decide (p.I.aQ=17)=u:=by rw[hu];rfl
  have z1:((was:Int)==0)=z:=by rw[hz,bF,beq_iff_eq,decide_eq_true_iff];omega
  have z2:decide ((was:Int)=0)=z:=by rw[hz,bF,decide_eq_true_iff,decide_eq_true_iff];omega
  have z3:(was==0)=z:=by rw[hz,bF,beq_iff_eq,decide_eq_true_iff]
  clear hu hz arI RA;go_upto_region 14 with(go_at_call 312;(with_reducible refine CS.i.e ?_);rintro e w11 ⟨rfl,hb⟩;have L5:=ab (L4.i.go hb);clear hb e35 f2;obtain⟨_,e35,f2,RA⟩:=K4.i _ L5.i)
  clear CS L4;obtain⟨fr,hfr⟩:∃v,v=(l.d (pa+ps)).f pa:=⟨_,rfl⟩
  obtain⟨tw,htw⟩:∃v,v=a.b.a.d ps:=⟨_,rfl⟩
  obtain⟨pq,hpq⟩:∃v,v=pp+2:=⟨_,rfl⟩
  obtain⟨cs,hcs⟩:∃v,v=oK (oK was fr tw) ((l.d pq).f pp) ((o3.d pq).f pp):=⟨_,rfl⟩
  have hc1:=DR fr tw was aoo;have hcs2:cs<=65535:=by rw[hcs];exact DR _ _ _ hc1
  have eP:(pp:Int)+2=(pq:Int):=by omega
  have iP:=jW (pq:Int) (by omega);have b1:(pp:Int)<=pq:=by omega
  have b2:(pq:Int)<=c:=by omega
  have b3:(pq:Int)<=c5:=by omega
  have CC1:=ab (fun(w':ak) (h:Ly w.a.j [(y7,(Pz.mk (pa:Nat) (ps:Nat) (pp:Nat)).ay),(y,p.ay),(w.a.j,a.ay)] w w' (.a (some ⟨g,0,none⟩) en c5) o3)=>Jy w' (vQ A pa c 1) (some ⟨w.a.j,1,none⟩) ps (c-pa) 16 w'.a.j w'.a.j was fr tw aoo aFt (by omega) (by have:=((K4.i _ h).2.2.2).ad6 (z:=pa) (b:=m1) (by omega) (by omega) hnc;rw[show m1-pa=ps by omega,HM1.i]at this;rw[hfr];exact this) (by rw[htw];exact(Ng (o:=0) h.b2 a (by have:=fC.r a;rw[<-this];simp)).upN p3));have CC2:=ab (fun(w':ak) (h:Ly w.a.j [(y7,(Pz.mk (pa:Nat) (ps:Nat) (pp:Nat)).ay),(y,p.ay),(w.a.j,a.ay)] w w' (.a (some ⟨g,0,none⟩) en c5) o3)=>Jy w' (vQ A pp c 1) (vQ (some ⟨g,0,none⟩) pp c5 1) (pq-pp) (c-pp) (c5-pp) w'.a.j w'.a.j (oK was fr tw) ((l.d pq).f pp) ((o3.d pq).f pp) hc1 (by omega) (by omega) (((K4.i _ h).2.2.2).ad6 (by omega) (by omega) hnc) (h.rd.ad6 (by omega) (by omega) hg3));rw[<-hcs]at CC2;have HE3:=ab (show rw2 l p a qn dst=o3 by
   have e1:rw1 l p a qn dst=o2:=by
    have e0:Pp qn=(qF (qn:Int)).d 2:=by simp[Pp,qF]
    unfold rw1;rw[<-HPA.i,<-HPS.i,<-HPP.i,e0,HO2.i,HO1.i,HEN.i,dU,List.take_take,Nat.min_self]
   unfold rw2;rw[e1,HO3.i,HNN.i,dU];have h6:p.I.h.h=a.h:=by have:=av2.i;exact this.symm
   rw[h6];split
   ·rfl
   ·have e2:Zy l p dst=(l.d (pa+ps)).f pa:=by unfold Zy;rw[<-HPA.i,<-HPS.i,rQ,kP]
    rw[e2,<-HPS.i];rfl)
  have HRS:=ab (show ah' l p a qn dst=cs by
   have e2:Zy l p dst=fr:=by unfold Zy;rw[<-HPA.i,<-HPS.i,hfr,rQ,kP]
   have e3:(o3.d pq).f pp=Pp qn:=by
    have e0:(qF (qn:Int)).d 2=Pp qn:=by simp[Pp,qF]
    have k2:(o2.d pq).f pp=Pp qn:=by
     have:=aj4 (l:=o1) (k:=pp) (b:=(qF (qn:Int)).d 2) (by rw[HL1.i];exact p2);rw[rQ,show pq-pp=2 by omega,HO2.i,<-e0];exact this
    rw[HO3.i];split
    ·exact k2
    ·rw[rQ,anl (by rw[HL2.i];show N+10+2<=en;omega) (.b (by show N+10+2<=pp;have h1:=HPP.i;unfold H9 at h1;rw[HSS.i]at h1;omega)),<-rQ];exact k2
   unfold ah';rw[e2,<-HPS.i,<-HPP.i,HSS.i,dU,<-HPL.i,<-Uu.i,<-aAx.i,<-htw,hcs,e3];congr 1;rw[rQ,show pq-pp=2 by omega])
  have HC2:=ab hcs2;have CC1:=ab (fun n=>CC1.i (w11.drewN n) (L5.i.go (eH (aG _ _) n)));have CC2:=ab (fun n=>CC2.i (w11.drewN n) (L5.i.go (eH (aG _ _) n)));have HR3:=ab (show rw3 l p a qn dst=if p.I.aQ=17/\was=0 then o3 else sM o3 sa (Pp (if p.I.aQ=17/\cs=0 then 65535 else cs))by
   unfold rw3;rw[HE3.i,HRS.i,HSS.i,dU,<-HPL.i,<-Uu.i,<-aAx.i])
  clear hfr htw hpq hcs aoo hcs2;cases u
  case false=>
   have hp:p.I.aQ≠17:=by have:=HU.i;intro e;rw[e]at this;cases this
   have HRW:=ab (show rw3 l p a qn dst=sM o3 sa (qF (cs:Int))by rw[HR3.i,if_neg (fun h=>hp h.1),if_neg (fun h=>hp h.1)];simp[Pp,qF]);clear hp;go_upto_region 16 with fail
   go_quiet ((first|(go_at_call 311;(with_reducible refine(CC1.i _).e ?_);rintro e w2 ⟨rfl,rfl⟩;exact⟨rfl,_,rfl⟩)|(go_at_call 311;(with_reducible refine(CC2.i _).e ?_);rintro e w2 ⟨rfl,rfl⟩;exact⟨rfl,_,rfl⟩)));have L7:=ab (L5.i.go (eH (aG _ _) nq));generalize w11.drewN nq=wN at L7 ⊢;have CT:=ab (Ig (bs:=o3) (by rw[HL3.i];exact L7.i) sa cs (by exact HC2.i) (by rw[HL3.i];omega) (by rw[HL3.i];omega));rw[HL3.i]at CT;clear CC1 CC2 L5;go_wp2_with (go_at_call 310;(with_reducible refine CT.i.e ?_);rintro e w13 ⟨rfl,h13⟩;have L13:=ab h13;clear h13);go_ret2;exact⟨some ⟨g,0,none⟩,en,c5,by rw[HVO.i];rfl,by rw[HVO.i];show gu _ _ _ _ (rw3 l p a qn dst);rw[HRW.i];exact L13.i.rd,L13.i.o.O⟩
  case true=>
   have hp:p.I.aQ=17:=by have:=HU.i;simpa using this.symm
   cases z
   case true=>
    have hw:was=0:=by have:=HZ0.i;simpa using this.symm
    have HRW:=ab (show rw3 l p a qn dst=o3 by rw[HR3.i,if_pos ⟨hp,hw⟩]);clear hp hw CC1 CC2;go_wp2;go_ret2;exact⟨some ⟨g,0,none⟩,en,c5,by rw[HVO.i];rfl,by rw[HVO.i];show gu _ _ _ _ (rw3 l p a qn dst);rw[HRW.i];exact L5.i.rd,L5.i.o.O⟩
   case false=>
    have hw:was≠0:=by have:=HZ0.i;intro e;rw[e]at this;cases this
    by_cases hc0:cs=0
    ·have HRW:=ab (show rw3 l p a qn dst=sM o3 sa (qF ((65535:Nat):Int))by rw[HR3.i,if_neg (fun h=>hw h.2),if_pos ⟨hp,hc0⟩];rfl)
     have q1:((cs:Int)==0)=true:=by rw[hc0];rfl
     have q2:decide ((cs:Int)=0)=true:=by rw[hc0];rfl
     clear hp hw hc0;go_upto_region 16 with fail
     go_quiet ((first|(go_at_call 311;(with_reducible refine(CC1.i _).e ?_);rintro e w2 ⟨rfl,rfl⟩;exact⟨rfl,_,rfl⟩)|(go_at_call 311;(with_reducible refine(CC2.i _).e ?_);rintro e w2 ⟨rfl,rfl⟩;exact⟨rfl,_,rfl⟩)));have L7:=ab (L5.i.go (eH (aG _ _) nq));generalize w11.drewN nq=wN at L7 ⊢;have CT:=ab (Ig (bs:=o3) (by rw[HL3.i];exact L7.i) sa 65535 (by exact av _) (by rw[HL3.i];omega) (by rw[HL3.i];omega));rw[HL3.i,show((65535:Nat):Int)=65535 from rfl]at CT;clear CC1 CC2 L5;go_wp2_with (go_at_call 310;(with_reducible refine CT.i.e ?_);rintro e w13 ⟨rfl,h13⟩;have L13:=ab h13;clear h13);go_ret2;exact⟨some ⟨g,0,none⟩,en,c5,by rw[HVO.i];rfl,by rw[HVO.i];show gu _ _ _ _ (rw3 l p a qn dst);rw[HRW.i];exact L13.i.rd,L13.i.o.O⟩
    ·have HRW:=ab (show rw3 l p a qn dst=sM o3 sa (qF (cs:Int))by rw[HR3.i,if_neg (fun h=>hw h.2),if_neg (fun h=>hc0 h.2)];simp[Pp,qF])
     have q1:((cs:Int)==0)=false:=by rw[beq_eq_false_iff_ne];omega
     have q2:decide ((cs:Int)=0)=false:=by rw[decide_eq_false_iff_not];omega
     clear hp hw hc0;go_upto_region 16 with fail
     go_quiet ((first|(go_at_call 311;(with_reducible refine(CC1.i _).e ?_);rintro e w2 ⟨rfl,rfl⟩;exact⟨rfl,_,rfl⟩)|(go_at_call 311;(with_reducible refine(CC2.i _).e ?_);rintro e w2 ⟨rfl,rfl⟩;exact⟨rfl,_,rfl⟩)));have L7:=ab (L5.i.go (eH (aG _ _) nq));generalize w11.drewN nq=wN at L7 ⊢;have CT:=ab (Ig (bs:=o3) (by rw[HL3.i];exact L7.i) sa cs (by exact HC2.i) (by rw[HL3.i];omega) (by rw[HL3.i];omega));rw[HL3.i]at CT;clear CC1 CC2 L5;go_wp2_with (go_at_call 310;(with_reducible refine CT.i.e ?_);rintro e w13 ⟨rfl,h13⟩;have L13:=ab h13;clear h13);go_ret2;exact⟨some ⟨g,0,none⟩,en,c5,by rw[HVO.i];rfl,by rw[HVO.i];show gu _ _ _ _ (rw3 l p a qn dst);rw[HRW.i];exact L13.i.rd,L13.i.o.O⟩
 ·have HN:=ab (NO.i (by rw[HK.i];simp;intro _ _ _;omega))
  clear hk0 ho;go_wp2_with (go_at_call 307;(with_reducible refine CO.i.e ?_);rintro e w4 ⟨rfl,hb⟩;have Z4:=ab (ZG.i _ hb);clear hb)
  all_goals
   first
   | (go_ret2
      rw[HN.i];exact⟨none,0,0,rfl,Lr _,Z4.i.O⟩)
   | (exfalso;omega)
def akN(w:ak)(A:Option aT)(n c:Nat)(l:List UInt8)(a:fC)(q:Int)(hnc:n<=c)(hc:c<=9223372036854775807/\n<=1000000)(hr:gu w w.a.j A n l):aP ah 205 #[.a A n c,.d a.ay,.b .a q] w (aj5 w (akM l a q true)):=by
 have X0:=ab (dM.new w a.ay 27);have B0:=ab ((aG w.a.j w).alloc (av _) (.D a.ay 27));have CR:=ab (XD (w.alloc (.D a.ay 27)) A n c l a q true hnc hc (hr.upon B0.i));have la:=X0.i.aij;unfold aj5 at CR;clear hr;go_enter Tryz.func205,Tryz.ntmps205;go_wp2_with (go_at_call 267;(with_reducible refine CR.i.e ?_);rintro e w2 ⟨A2,n2,c2,rfl,hr2,hb2⟩;have R2:=ab hr2;have B2:=ab hb2;clear hr2 hb2 la)
 trace_state
 go_ret2;exact⟨A2,n2,c2,rfl,R2.i,fJ B0.i B2.i⟩
end
section
variable {W W':ak} {q:Nat} {e:En} {s:rE} {x:Eg} {q2 g:Nat} {sl:List (Option Fw)}
def aFv(W:ak)(r:Int×List UInt8)(e':lU)(W':ak):Prop:=(r.1=0/\IV W r.2 e' W')\/(r.1≠0/\e'=.panicked [{v:=Tt r.1,recovered:=false}]/\aL W.a.j W W')
theorem aFw:pK 25 6 (Bl (bJ 6 0)):=⟨⟨_,Tryz.underlying25,rfl⟩,by kernel_rfl,by kernel_rfl,gN _⟩
theorem dM.atb{W:ak}{b o:Nat}{c:Array aB}{m:Vector UInt8 6}(h:dM W b c)(hc:c.m o (o+6)=Bl m)(hs:o+6<=c.j):(AZ (.c (some ⟨b,o,none⟩))).G ah W = .Y (.d (Bl m)) W:=aFw.Ed h o hc hs
theorem dM.Tv{W:ak}{b o:Nat}{c:Array aB}{a:fC}(h:dM W b c)(hc:c.m o (o+17)=a.ay)(hs:o+17<=c.j):(rZ (.c (some ⟨b,o,none⟩))).G ah W = .Y (.d a.ay) W:=abx.Ed h o hc hs
theorem Bk.arK(b:Bk):b.ay.m 19 (19+6)=Bl b.Bw:=Bk.ahz b
theorem UU{l:List UInt8}{k E:Nat}{b:List UInt8}(h:l.a<=E)(hk:k+b.a<=E):(sM l k b).a<=E:=by unfold sM;simp;omega
theorem arL{l:List UInt8}{a:fC}{n:Int}:(abP l a n true).a<=l.a:=by
 cases h:SH l a n with
 | false=>unfold abP;rw[h];simp
 | true=>
   have hk:(wE l).kind=0:=by unfold SH at h;simp only[bf,beq_iff_eq]at h;exact h.1.1
   have F:=Pq hk;unfold abP;rw[if_pos h];generalize wE l=p at F;have hl:=F.len;have f2:=F.Dv;have f3:=F.rP;have f5:=F.Ht;have f4:=F.pro;obtain⟨E,hE⟩:=bZ p.Ht.g
   suffices (rw3 l p a n.g true).a<=E by omega
   have hS:p.rP.g+8<=E:=by split at f5<;>omega
   have hb:(a.b.a.d (wF p)).a<=wF p:=by rw[bH];omega
   have ha:aeg p true+wF p<=E:=by
    unfold aeg wF;cases hs:p.I.h.h<;>simp[hs]at f3⊢<;> omega
   have hp:H9 p true+2<=E:=by unfold H9;simp;omega
   have hn:p.Dv.g+12<=E:=by split at f3<;>omega
   have hq:p.rP.g+D6 p.I.aQ+2<=E:=by
    unfold D6;rcases f4 with e|e<;>simp[e]at f5⊢<;> omega
   have l1:(rw1 l p a n.g true).a<=E:=UU (UU (by rw[bH];omega) (by omega)) (by rw[WM];omega);have l2:(rw2 l p a n.g true).a<=E:=by
    unfold rw2;split
    ·exact l1
    ·exact UU l1 (by rw[WM];omega)
   unfold rw3;split
   ·exact l2
   ·exact UU l2 (by rw[WM];omega)
theorem akO(ts:List Tg):(ts.h Al).a=4*ts.a:=by
 induction ts with
 | nil=>rfl
 | cons t ts ih=>rw[jl,aR,ih,bD];show 4+_=_;omega
theorem aop(l:List UInt8)(a b:fC):(Iy l a b).1.a<=200000:=by
 have ht:=(WT l).2;have hp:∀k,(qN (mO l).1.S (mO l).1.h (mO l).1.fP k).a<=22:=fun k=>by
  unfold qN;rw[aR,aR,aR,akO];simp only[nV,qF,bD,gP];omega
 have h40:∀y:Sx,(wX y).a=40:=fun y=>by simp[wX]
 have h20:∀y:Fo,(uj y).a=20:=fun y=>by simp[uj,aeh,D7]
 unfold Iy;by_cases h1:(mO l).2≠0
 ·rw[if_pos h1];simp
 rw[if_neg h1];by_cases h2:(Am (mO l).1.oM (l.f (mO l).1.fH)).Y=false
 ·rw[if_pos h2];simp
 rw[if_neg h2];by_cases h3:anq a b=false
 ·rw[if_pos h3];simp
 rw[if_neg h3];have hk:∀k:Nat,((l.f (mO l).1.fH).d k).a<=k:=fun k=>by simp;omega
 by_cases h4:a.h=true
 ·rw[if_pos h4]
  by_cases h5:(Am (mO l).1.oM (l.f (mO l).1.fH)).dB>65535
  ·rw[if_pos h5];simp
  ·rw[if_neg h5]
   have:=hp 34525;have:=hk (Am (mO l).1.oM (l.f (mO l).1.fH)).dB.g;simp only[aR,h40];omega
 ·rw[if_neg h4]
  by_cases h5:20+(Am (mO l).1.oM (l.f (mO l).1.fH)).dB>65535
  ·rw[if_pos h5];simp
  ·rw[if_neg h5]
   have:=hp 2048;have:=hk (Am (mO l).1.oM (l.f (mO l).1.fH)).dB.g;simp only[aR,h20];omega
def aeT(e:En)(b:Bk):fC:=if b.h.h then e.c.h else e.c.Du
theorem akP(h:Ag W q e s x q2 g sl)(v:Vp)(b:Bk)(t:Tu)(A:Option aT)(n c:Nat)(l:List UInt8)(hnc:n<=c)(hc:c<=9223372036854775807/\n<=1000000)(hr:gu W W.a.j A n l):
 aP ah 137 #[.c (some ⟨q,0,none⟩),.d v.ay,.d b.ay,.d t.ay,.a A n c] W (aFv W (Py e v b t l)):=by
 have Z0:=ab ((((Bx.start W).new v.ay 98).new b.ay 62).new t.ay 81);have e1:(W.alloc (.D v.ay 98)).a.j=W.a.j+1:=by simp
 have e2:((W.alloc (.D v.ay 98)).alloc (.D b.ay 62)).a.j=W.a.j+1+1:=by simp
 rw[e2,e1]at Z0;clear e1 e2;have H:=ab h;have HR:=ab hr;have hl:=ab hr.len;have HOE:=ab (show Py e v b t l=if v.Wq then(if(Iy l (aeT e b) b.h).2=0 then(0,FM (Iy l (aeT e b) b.h).1 b.Bw e.c.Bw)else(10,[]))else if b.h.h=t.S.h then(0,FM (abP l b.h b.S true) b.Bw e.c.Bw)else(9,[])from rfl);have hcf:=h.b.cf;have aFx:=ab (show x.cf.Bw=e.c.Bw by rw[hcf]);have aAy:=ab (show x.cf.Du=e.c.Du by rw[hcf]);have av2:=ab (show x.cf.h=e.c.h by rw[hcf]);clear h hr hcf;have CT:=ab (fun(w:ak) (B:Option aT) (m d:Nat) (bs:List UInt8) (hm:m<=1000000) (hR:gu w w.a.j B m bs)=>abS w B m d bs b.Bw e.c.Bw hm hR);have K1:=ab (fun(w:ak) (hb:aL (W.a.j+1+1+1) w w)=>True.intro);have KM:=ab (fun(w:ak) (h1:dM w (W.a.j+1) b.ay) (h2:aL W.a.j W w)=>show(AZ (.c (some ⟨W.a.j+1,19,none⟩))).G ah w = .Y (.d (Bl b.Bw)) w/\(AZ (.c (some ⟨q,27,none⟩))).G ah w = .Y (.d (Bl e.c.Bw)) w from⟨h1.atb (Bk.arK b) (by rw[Bk.r];omega),by have:=(H.i.b.eg.go h2).atb (o:=27) (Eg.agu x) (by rw[Eg.r];omega);rw[aFx.i]at this;exact this⟩);have f19:=(Z0.i.b2.J.1 19).trans (Vp.ajN v);go_enter Tryz.func137,Tryz.ntmps137;go_upto_region 1 with fail
 generalize((W.alloc (.D v.ay 98)).alloc (.D b.ay 62)).alloc (.D t.ay 81)=w1 at Z0 f19 ⊢;cases hv:v.Wq
 ·rw[hv]at f19 HOE
  have f1:=(Z0.i.b1.J.1 1).trans (Bk.DK b);have f17:=(Z0.i.R.J.1 17).trans (Tu.amJ t);by_cases h6:b.h.h=t.S.h
  ·have HE:=ab (show Py e v b t l=(0,FM (abP l b.h b.S true) b.Bw e.c.Bw)by rw[HOE.i,if_neg (by simp),if_pos h6])
   have q1:(b.h.h != t.S.h)=false:=by rw[h6];simp
   have q2:(b.h.h==t.S.h)=true:=by rw[h6];simp
   have la:=Z0.i.b1.Tv (o:=1) (a:=b.h) (Bk.GV b) (by rw[Bk.r];omega);have lp:=(Z0.i.b1.J.1 18).trans (Bk.alv b);have CN:=ab (akN w1 A n c l b.h b.S hnc hc (Z0.i.Pf HR.i));unfold aj5 at CN;clear h6 hv;go_upto_region 5 with(go_at_call 205;(with_reducible refine CN.i.e ?_);rintro r w2 ⟨A2,n2,c2,rfl,hr2,hb2⟩;have Z2:=ab (Z0.i.go hb2);have R2:=ab hr2;clear hr2 hb2 la lp f1 f17 f19)
   have CTT:=ab (CT.i w2.drew A2 n2 c2 _ (by have h1:=R2.i.len;have h2:(abP l b.h b.S true).a=n2:=h1;have:=arL (l:=l) (a:=b.h) (n:=b.S);have:=hl.i;omega) R2.i);obtain⟨k1,k2⟩:=KM.i _ Z2.i.drew.b1 Z2.i.drew.O;go_region_held_law (fun w'=>(AZ (.c (some ⟨W.a.j+1,19,none⟩))).G ah w' = .Y (.d (Bl b.Bw)) w'/\(AZ (.c (some ⟨q,27,none⟩))).G ah w' = .Y (.d (Bl e.c.Bw)) w')
    (first|exact KM.i _ Z2.i.drew.b1 Z2.i.drew.O|exact KM.i _ Z3.i.b1 Z3.i.O|go_keep)
    (first|(go_at_call 206;(with_reducible refine CTT.i.e ?_);rintro r w3 ⟨A3,n3,c3,rfl,hn3,ho3,hb3⟩;have Z3:=ab (Z2.i.drew.go hb3);have N3:=ab hn3;have O3:=ab ho3;clear hn3 ho3 hb3))
   go_wp2;go_ret;rw[HE.i];exact .a ⟨rfl,A3,n3,c3,rfl,N3.i,iH O3.i Z2.i.O.j,Z3.i.O⟩
  ·have HE:=ab (show Py e v b t l=(9,[])by rw[HOE.i,if_neg (by simp),if_neg h6])
   have q1:(b.h.h != t.S.h)=true:=by simpa using h6
   have q2:(b.h.h==t.S.h)=false:=by simpa using h6
   clear h6 hv;go_wp2;rw[HE.i];exact⟨rfl,.b ⟨by decide,rfl,Z0.i.O⟩⟩
 ·rw[hv]at f19 HOE
  have f1:=(Z0.i.b1.J.1 1).trans (Bk.DK b);have la:=Z0.i.b1.Tv (o:=1) (a:=b.h) (Bk.GV b) (by rw[Bk.r];omega);have l4:(rZ (.c (some ⟨q,33,none⟩))).G ah w1 = .Y (.d e.c.Du.ay) w1:=by have:=(H.i.b.eg.go Z0.i.O).Tv (o:=33) (Eg.aby x) (by rw[Eg.r];omega);rw[aAy.i]at this;exact this
  have l6:∀w',aL W.a.j W w'->(rZ (.c (some ⟨q,50,none⟩))).G ah w' = .Y (.d e.c.h.ay) w':=fun w' hb=>by have:=(H.i.b.eg.go hb).Tv (o:=50) (Eg.agv x) (by rw[Eg.r];omega);rw[av2.i]at this;exact this
  have L6:=ab l6;clear hv l6;obtain⟨vL,how⟩:∃o,o=aeT e b:=⟨_,rfl⟩
  rw[<-how]at HOE;have HOW:=ab how;clear how;have Z1:=ab (Z0.i.new e.c.Du.ay 27);have HY:=ab (fun p hp=>(Z0.i.2 p hp).2.lt);go_upto_region 7 with fail
  generalize w1.alloc (.D e.c.Du.ay 27)=w2 at Z1 ⊢;generalize w1.a.j=y at *;have HYW:=ab (show W.a.j+1+1<y from HY.i (W.a.j+1+1,t.ay) (by simp));have f1:=(Z1.i.b2.J.1 1).trans (Bk.DK b);go_upto_if 52 with fail
  go_cut []from 52 to 57 (fun wx=>Bx [(y,vL.ay),(W.a.j+1+1,t.ay),(W.a.j+1,b.ay),(W.a.j,v.ay)] W wx)
  case first=>
   cases h6:b.h.h
   ·have HO2:=ab (show vL=e.c.Du by rw[HOW.i];unfold aeT;rw[h6];rfl)
    rw[h6]at f1;clear h6;go_wp2_with fail;go_meet
    case rel=>rw[HO2.i];exact Z1.i
   ·have HO2:=ab (show vL=e.c.h by rw[HOW.i];unfold aeT;rw[h6];rfl)
    rw[h6]at f1;have l6:=L6.i _ Z1.i.O;have th:=Z1.i.R.K 0 17 (aX (fC.r _).symm);clear h6;go_wp2_with fail;go_meet
    case rel=>
     have:=Z1.i.put (fun p hp=>by have:=HYW.i;simp at hp;rcases hp with rfl|rfl|rfl<;>simp<;>omega) e.c.h.ay (by rw[fC.r,fC.r]);rw[HO2.i];exact this
  have Z3:=ab hcut;clear hcut Z1 f1 la l4;generalize wc=w3 at Z3 ⊢;have la:=Z3.i.b2.Tv (o:=1) (a:=b.h) (Bk.GV b) (by rw[Bk.r];omega);have lo:=Z3.i.R.Tv (o:=0) (a:=vL) (by have:=fC.r vL;rw[bl,<-this];simp) (by rw[fC.r];omega);have CW:=ab (agN w3 A n c l vL b.h hnc hc (Z3.i.Pf HR.i));unfold aj5 at CW;obtain⟨wy,Qe⟩:∃z,z=(Iy l vL b.h).2:=⟨_,rfl⟩
  have Ol:=ab Qe;rw[<-Qe]at CW HOE;have HWL:=ab (aop l vL b.h);by_cases h0:wy=0
  ·have HE:=ab (show Py e v b t l=(0,FM (Iy l vL b.h).1 b.Bw e.c.Bw)by rw[HOE.i,if_pos rfl,if_pos h0])
   have q1:(wy != 0)=false:=by simp[h0]
   clear h0 Qe;go_upto_region 12 with(go_at_call 207;(with_reducible refine CW.i.e ?_);rintro r w4 ⟨A2,n2,c2,rfl,hr2,hb2⟩;have Z4:=ab (Z3.i.go hb2);have R2:=ab hr2;clear hr2 hb2 la lo f19)
   have CTT:=ab (CT.i w4.drew A2 n2 c2 _ (by have h1:=R2.i.len;have:=HWL.i;omega) R2.i);obtain⟨k1,k2⟩:=KM.i _ Z4.i.drew.b2 Z4.i.drew.O;go_region_held_law (fun w'=>(AZ (.c (some ⟨W.a.j+1,19,none⟩))).G ah w' = .Y (.d (Bl b.Bw)) w'/\(AZ (.c (some ⟨q,27,none⟩))).G ah w' = .Y (.d (Bl e.c.Bw)) w')
    (first|exact KM.i _ Z4.i.drew.b2 Z4.i.drew.O|exact KM.i _ Z5.i.b2 Z5.i.O|go_keep)
    (first|(go_at_call 206;(with_reducible refine CTT.i.e ?_);rintro r w5 ⟨A3,n3,c3,rfl,hn3,ho3,hb3⟩;have Z5:=ab (Z4.i.drew.go hb3);have N3:=ab hn3;have O3:=ab ho3;clear hn3 ho3 hb3))
   go_wp2;go_ret;rw[HE.i];exact .a ⟨rfl,A3,n3,c3,rfl,N3.i,iH O3.i Z4.i.O.j,Z5.i.O⟩
  ·have HE:=ab (show Py e v b t l=(10,[])by rw[HOE.i,if_pos rfl,if_neg h0])
   have q1:(wy != 0)=true:=by simpa using h0
   clear h0 Qe;go_wp2_with (go_at_call 207;(with_reducible refine CW.i.e ?_);rintro r w4 ⟨A2,n2,c2,rfl,hr2,hb2⟩;have Z4:=ab (Z3.i.go hb2);clear hr2 hb2 la lo f19);rw[HE.i];exact⟨rfl,.b ⟨by decide,rfl,Z4.i.O⟩⟩
end
structure Oc where
 err:Int
 lu:Int
 GN:Bool
 lD:Int
 E:List UInt8
 XE:Option aT
 Yw:Nat
 akQ:Nat
def Oc.ay(x:Oc):Array aB:=#[.b .a x.err,.b .a x.lu,.e x.GN,.b .a x.lD,.g (bP x.E),.a x.XE x.Yw x.akQ]
def Oc.r(x:Oc):x.ay.j=6:=by simp[Oc.ay]
def Oc.dw(x:Oc):x.ay.all (·.h)=true:=by simp[Oc.ay,dx]
@[go_sem]theorem Oc.eB(x:Oc):eB x.ay=6:=Oc.r x
@[go_sem]theorem Oc.aaq(x:Oc):x.ay[1]? = some (.b .a x.lu):=by simp[Oc.ay,aD]
def uO:Oc:=⟨0,0,false,0,[],none,0,0⟩
@[go_sem]theorem aAz:cB #[aI bU 0,aI bU 0,bT false,aI bU 0,jk {data:=#[]},bC none 0 0]=cB uO.ay:=rfl
@[go_sem]theorem av4:eO #[aI bU 0,aI bU 0,bT false,aI bU 0,jk {data:=#[]},bC none 0 0] 58=eO uO.ay 58:=rfl
def kOc:pK 58 6 uO.ay:=⟨⟨_,kS,rfl⟩,by kernel_rfl,by kernel_rfl,Oc.r _⟩
@[go_sem ↓]theorem aL5(v:aB):cK 58 v=yY 58 v:=rfl
@[go_sem ↓]theorem aL6(v x:aB):eU 58 v x=zQ 58 v x:=rfl
@[go_sem]theorem aFy(W:ak)(c:Array aB)(x:Oc)(b:Nat)(hb:b=W.a.j)(hc:eB c=6):(zQ 58 (.c (some ⟨b,0,none⟩)) (.d x.ay)).G ah (W.alloc (.D c 58)) = .Y () (W.alloc (.D x.ay 58)):=kOc.stN W c x.ay b hb hc (Oc.r x) (Oc.dw x)
@[go_sem]theorem aIk(W:ak)(b o:Nat)(x:Oc)(h:W.K b o 6):(zQ 58 (.c (some ⟨b,o,none⟩)) (.d x.ay)).G ah W = .Y () (gX W b o x.ay):=kOc.st W b o x.ay h (Oc.r x) (Oc.dw x)
@[go_sem ↓]theorem aL7(ps:Array (Nat×aB)):fQ 58 ps=uW 58 ps:=rfl
def aoq(w:ak)(fs:Array oh)(h:ah.underlying 58=some (.struct fs)):(iF (fun f=>Prod.mk f.X <$> sizeOf f.type) fs:Sem (Array (Nat×Nat))).G ah w = .Y #[(0,1),(1,1),(2,1),(3,1),(4,1),(5,1)] w:=by
 have e:=kS;rw[h]at e;cases e;show _=_
 kernel_rfl
@[go_sem]theorem aFz(W:ak):(uW 58 #[]).G ah W = .Y (.d uO.ay) W:=kOc.bd0 W _ kS ⟨_,aoq W _ kS⟩
def Oc.aAA(x:Oc)(v:Int):x.ay.c 0 (.b .a v)=({x with err:=v}:Oc).ay:=by simp[Oc.ay]
def Oc.aor(x:Oc)(v:Int):x.ay.c 1 (.b .a v)=({x with lu:=v}:Oc).ay:=by simp[Oc.ay]
def Oc.aAB(x:Oc)(v:Bool):x.ay.c 2 (.e v)=({x with GN:=v}:Oc).ay:=by simp[Oc.ay]
def Oc.atd(x:Oc)(v:Int):x.ay.c 3 (.b .a v)=({x with lD:=v}:Oc).ay:=by simp[Oc.ay]
def Oc.av5(x:Oc)(v:List UInt8):x.ay.c 4 (.g (bP v))=({x with E:=v}:Oc).ay:=by simp[Oc.ay]
def Oc.aAC(x:Oc)(A:Option aT)(n c:Nat):x.ay.c 5 (.a A n c)=({x with XE:=A,Yw:=n,akQ:=c}:Oc).ay:=by simp[Oc.ay]
@[go_sem]theorem aCg(W:ak)(h:Bool)(v:Int)(n:List UInt8)(A:Option aT)(m c:Nat):(uW 58 #[(2,.e h),(3,.b .a v),(4,.g (bP n)),(5,.a A m c)]).G ah W = .Y (.d (Oc.mk 0 0 h v n A m c).ay) W:=kOc.bd W _ _ _ _ kS (aoq W _ kS) (by
 refine(iB rfl rfl (by rw[Oc.r];omega) (Oc.aAB _ _)).trans ?_;refine(iB rfl rfl (by rw[Oc.r];omega) (Oc.atd _ _)).trans ?_;refine(iB rfl rfl (by rw[Oc.r];omega) (Oc.av5 _ _)).trans ?_;refine(iB rfl rfl (by rw[Oc.r];omega) (Oc.aAC _ _ _ _)).trans ?_;rfl)
@[go_sem]theorem aAD(W:ak)(k:Int):(uW 58 #[(1,.b .a k)]).G ah W = .Y (.d (Oc.mk 0 k false 0 [] none 0 0).ay) W:=kOc.bd W _ _ _ _ kS (aoq W _ kS) (by
 refine(iB rfl rfl (by rw[Oc.r];omega) (Oc.aor _ _)).trans ?_;rfl)
@[go_sem]theorem aAE(W:ak)(k:Int):(uW 58 #[(0,.b .a k)]).G ah W = .Y (.d (Oc.mk k 0 false 0 [] none 0 0).ay) W:=kOc.bd W _ _ _ _ kS (aoq W _ kS) (by
 refine(iB rfl rfl (by rw[Oc.r];omega) (Oc.aAA _ _)).trans ?_;rfl)
def aos(v:Vector Int 11)(k:Nat)(hk:k<11)(n:Int):(yD v).c k (.b .a n)=yD (v.set k n):=by
 unfold yD;rw[bL,<-List.map_set];congr 2
 try grind
def arM(v:Vector Int 11)(k:Nat)(hk:k<11):upC v k=v.set k (v.a.b k 0+1):=by
 apply Vector.ext;intro i hi;have:v.a.b k 0=v[k]:=by simp[au,hk]
 rw[this];unfold upC;rw[Vector.getElem_ofFn,Vector.getElem_set];simp only[Fin.getElem_fin];by_cases h:k=i
 ·subst h;simp
 ·have h2:¬((i:Int)=(k:Int)):=by omega
  rw[if_neg h2,if_neg h]
def Eg.arN(x:Eg)(k:Nat)(hk:k<11):x.ay.c (79+k) (.b .a (x.S.a.b k 0+1))=({x with S:=upC x.S k}:Eg).ay:=by
 obtain⟨P,hP,h⟩:∃P:Array aB,P.j=79/\∀v,({x with S:=v}:Eg).ay=P++yD v:=⟨jc x.key++x.cf.ay++x.pl.ay ++ #[.a x.Qh x.EK x.Uq,.a x.dnA x.dnN x.dnC,aeN x.fl]++x.h.ay ++ #[.b .a x.fK,.b .a x.no],by simp[dN,Cn.r,Pc.r,Tc.r],fun v=>by simp[Eg.ay,gD]⟩
 have h0:x.ay=P++yD x.S:=h x.S;rw[h0,h,aM,if_neg (by omega),hP,kP,aos _ _ hk,arM _ _ hk]
def Oc.why(k:Int):Oc:=⟨0,k,false,0,[],none,0,0⟩
def aci(v:aB)(xT:bE)(w:ak):(Ij (.iface 219 v) xT 219 true).G ah w = .Y (.I #[v,.e true]) w:=by
 have h:=Tryz.underlying219;simp[Ij,dJ h]
def ahe{w:ak}{q0 qb q:Nat}{o:Oc}{x:Eg}{k:Nat}(hk:k<11)(hr:o.lu=k)(hO:dM w q0 o.ay)(hB:dM w qb #[.c (some ⟨q,0,none⟩)])(hE:dM w q x.ay)(hc:0<=x.S.a.b k 0/\x.S.a.b k 0+1<=9223372036854775807):
 CallsD ah 134 #[.c (some ⟨q0,0,none⟩),.c (some ⟨qb,0,none⟩)] .returning w fun e u' w'=>e=.a (.I #[])/\u'=.returning/\w'=(w.F ⟨q,79+k,none⟩ (.b .a (x.S.a.b k 0+1))).drew:=by
 have o1:=(hO.J.1 1).trans (Oc.aaq o);rw[hr]at o1;have b0:=hB.J.1 0;have b1:=hE.J.1 (79+k);rw[Eg.aoh x k hk]at b1;have b2:=hE.J.2.1 (79+k);have hw:=jW (x.S.a.b k 0+1) (by omega);generalize x.S.a.b k 0=n at *;refine callsD_of_wpS Tryz.func134 rfl fun c₀ cs hu=>?_
 simp only[AJ,dL,bD,gP,kT,kU,gH,gI,iT,gU,dH,gW];apply Jb;apply Jb;apply Df;simp[wpOpsS,go_sem,recoverD,hu,AJ,wm];apply Jb;apply Df;simp[wpOpsS,go_sem,recoverD,hu,AJ,wm];refine wpS_cond (t:=false) (by simp[Act.eval,nQ]) ?_;simp only[iV,if_false];refine wpS_of_wp (wp_skip ?_);simp only[wm];refine wpS_of_wp ?_;have hk0:(0:Int)<=(k:Int):=by omega
 have hk1:(k:Int)<11:=by omega
 go_upto_region 6 with fail
 go_region;cases c₀;simp_all[bodyPostS,results,Tryz.results134]
def acj{w:ak}{q0 qb q:Nat}{c:Array aB}{x:Eg}{k:Nat}(kG:List PanicEntry)(hk:k<11)(hcs:c.j=6)(hO:dM w q0 c)(hB:dM w qb #[.c (some ⟨q,0,none⟩)])(hE:dM w q x.ay)(hn1:qb≠q0)(hn2:q≠q0)(hc:0<=x.S.a.b k 0/\x.S.a.b k 0+1<=9223372036854775807):
 CallsD ah 134 #[.c (some ⟨q0,0,none⟩),.c (some ⟨qb,0,none⟩)] (.panicking ({v:=Tt k,recovered:=false}::kG)) w fun e u' w'=>e=.a (.I #[])/\u'=.panicking ({v:=Tt k,recovered:=true}::kG)/\w'=((gX w q0 0 (Oc.why k).ay).F ⟨q,79+k,none⟩ (.b .a (x.S.a.b k 0+1))).drew:=by
 have hth:w.K q0 0 6:=hO.K 0 6 (by omega);have hO2:=hO.put (Oc.why k).ay (by rw[Oc.r,hcs]);have o1:=(hO2.J.1 1).trans (Oc.aaq _);rw[show(Oc.why (k:Int)).lu=k from rfl]at o1;have b0:=(hB.gK (o:=0) (x:=(Oc.why k).ay) hn1).J.1 0;have b1:=(hE.gK (o:=0) (x:=(Oc.why k).ay) hn2).J.1 (79+k);rw[Eg.aoh x k hk]at b1;have b2:=(hE.gK (o:=0) (x:=(Oc.why k).ay) hn2).J.2.1 (79+k);have hw:=jW (x.S.a.b k 0+1) (by omega);generalize x.S.a.b k 0=n at *;refine callsD_of_wpS Tryz.func134 rfl fun c₀ cs hu=>?_
 simp only[AJ,dL,bD,gP,kT,kU,gH,gI,iT,gU,dH,gW];apply Jb;apply Jb;apply Df;simp[wpOpsS,go_sem,recoverD,hu,AJ,wm];apply Jb;apply Df;simp[wpOpsS,go_sem,recoverD,hu,AJ,wm,Tt];refine wpS_cond (t:=true) (by simp[Act.eval,nQ]) ?_;simp only[if_true];refine wpS_of_wp ?_;have hty:=fun v xT w=>aci v xT w
 have Ck:(Oc.mk 0 (k:Int) false 0 [] none 0 0).ay=(Oc.why k).ay:=rfl;go_wp2;simp only[wm,Ck];refine wpS_of_wp ?_;have hk0:(0:Int)<=(k:Int):=by omega
 have hk1:(k:Int)<11:=by omega
 generalize gX w q0 0 (Oc.why k).ay=w2 at *;go_upto_region 6 with fail
 go_region;exact⟨rfl,_,rfl,_,results_none rfl _ _ _,rfl,rfl,rfl⟩
section
variable {W W':ak} {q:Nat} {e:En} {s:rE} {x:Eg} {q2 g:Nat} {sl:List (Option Fw)}
theorem aou(p:Int)(l:List UInt8):0<=(JU p l).1.vw/\(JU p l).1.vw<64:=by
 unfold JU qM
 repeat' split
 all_goals simp[ra]
 all_goals omega
theorem aov(l:List UInt8):0<=(wE l).vw/\(wE l).vw<64:=by
 have h:=aou;unfold wE xQ Na
 repeat' split
 all_goals first|exact h _ _|simp[OU]
theorem aow{v:Vector Int 11}{M:Int}(h:∀n∈v.a,0<=n/\n<=M){k:Nat}(hk:k<11):0<=v.a.b k 0/\v.a.b k 0<=M:=by
 refine h _ ?_;rw[au,aC (by simpa using hk),Option.getD_some];exact fG _
theorem Ag.num(h:Ag W q e s x q2 g sl)(hf:jM [q] W W')(ti n:Int)(v:Vector Int 11)(hb:dM W' q ({x with fK:=ti,no:=n,S:=v}:Eg).ay):Ag W' q e {s with fK:=ti,no:=n,S:=v} ({x with fK:=ti,no:=n,S:=v}:Eg) q2 g sl:=by
 have o:∀b,b∈sI x->b∉[q]:=fun b hm=>h.b.i hm
 have hs:=hf.j;have hq:=h.b.nq;refine⟨⟨hb,h.b.key,h.b.cf,h.b.lD,h.b.vs.keep hf (fun b hm=>o b (dX.2 (.a hm))),h.b.bk.keep hf (fun b hm=>o b (dX.2 (.b (.a hm)))),h.b.hl.keep hf (fun b hm=>o b (dX.2 (.b (.b (.a hm))))),h.b.fl,h.b.h.keep hf (by simp;omega) (by simp;omega),h.b.rm,h.b.nq,fun b hm=>by have:=h.b.Nj b hm;omega,rfl,rfl,rfl⟩,h.dn.keep hf (fun b hm=>o b (dX.2 (.b (.b (.b (.a hm)))))),h.tt.keep hf (fun b hm=>o b (dX.2 (.b (.b (.b (.b (.a hm))))))) (fun b hm=>o b (dX.2 (.b (.b (.b (.b (.b hm)))))))⟩
theorem Ag.rH{sl':List (Option Fw)}{l':List Fw}(h:Ag W q e s x q2 g sl)(hf:jM [q2,g] W W')(ht:Ls W' q2 g e.key e.c.dS sl' l')(hl:sl'.a=sl.a):Ag W' q e {s with h:=l'} x q2 g sl':=by
 have o:∀b,b∈sI x->b∉[q2,g]:=fun b hm=>by have:=h.b.Nj b hm;simp;omega
 have hs:=hf.j;have hq:=h.b.nq;refine⟨⟨hf.box h.b.eg (by simp;omega),h.b.key,h.b.cf,h.b.lD,h.b.vs.keep hf (fun b hm=>o b (dX.2 (.a hm))),h.b.bk.keep hf (fun b hm=>o b (dX.2 (.b (.a hm)))),h.b.hl.keep hf (fun b hm=>o b (dX.2 (.b (.b (.a hm))))),h.b.fl,ht,by rw[hl];exact h.b.rm,h.b.nq,fun b hm=>by have:=h.b.Nj b hm;omega,h.b.fK,h.b.no,h.b.S⟩,h.dn.keep hf (fun b hm=>o b (dX.2 (.b (.b (.b (.a hm)))))),h.tt.keep hf (fun b hm=>o b (dX.2 (.b (.b (.b (.b (.a hm))))))) (fun b hm=>o b (dX.2 (.b (.b (.b (.b (.b hm)))))))⟩
structure OuR(B:Nat)(W:ak)(o:Oc)(u:Ou):Prop where
 err:o.err=u.err
 lu:o.lu=u.lu
 GN:o.GN=u.GN
 lD:o.lD=u.lD
 E:o.E=u.E
 n:o.Yw=u.i.a
 vL:W.c B 5 1 (.a o.XE o.Yw o.akQ) o.Yw (u.i.map bv)
def Yx(W:ak)(q:Nat)(e:En)(x:Eg)(q2 g:Nat)(sl:List (Option Fw))(u:rE×Ou)(r:lU)(W':ak):Prop:=
 ∃o x' sl',r=.a (.d (Oc.ay o))/\OuR W.a.j W' o u.2/\Ag W' q e u.1 x' q2 g sl'/\sl'.a=sl.a/\(∀b∈sI x',b∈sI x\/W.a.j<=b)/\jM [q,q2,g] W W'
theorem OuR.keep{B:Nat}{o:Oc}{u:Ou}{F:List Nat}(h:OuR B W o u)(hf:jM F W W')(hF:∀b∈F,b<B):OuR B W' o u:=
 ⟨h.err,h.lu,h.GN,h.lD,h.E,h.n,Bo h.vL hf (fun k hk hm=>by
  have h2:k∈wM o.XE:=by
   cases hA:o.XE with
   | none=>rw[hA]at hk;cases hk
   | some a=>rw[hA]at hk;exact Ec.2 ⟨a,rfl,by simpa[jy]using hk⟩
  have h3:=(lF h.vL k h2).1;have:=hF k hm;omega)⟩
theorem Ag.count(h:Ag W q e s x q2 g sl){k:Nat}(hk:k<11):Ag (W.F ⟨q,79+k,none⟩ (.b .a (x.S.a.b k 0+1))).drew q e {s with S:=upC s.S k} ({x with S:=upC x.S k}:Eg) q2 g sl:=by
 have hb:=h.b.eg.eX (79+k) (.b .a (x.S.a.b k 0+1));rw[Eg.arN x k hk]at hb;have hf:jM [q] W (W.F ⟨q,79+k,none⟩ (.b .a (x.S.a.b k 0+1))).drew:=((jM.refl [q] W).set ⟨q,79+k,none⟩ _ (.a (by simp))).drewN 1;have:=h.num hf x.fK x.no (upC x.S k) (hb.go (eH (aG _ _) 1));rw[h.b.fK,h.b.no,h.b.S]at this;rw[h.b.S];rw[<-h.b.fK,<-h.b.no]at this ⊢;exact this
theorem UW{M:Int}{w:ak}{c:Array aB}{l:List UInt8}(tmps:Array aB)(r:Int)(ht:tmps.b 4 undef=.c (some ⟨W.a.j+1,0,none⟩))(hO:dM w (W.a.j+1) c)(hc:c.j=6)(hB:dM w W.a.j #[.c (some ⟨q,0,none⟩)])(h:Ag W q e s x q2 g sl)(hi:qm M e s)(hM:M<1152921504606846976)(hr:(EH e s l).lu=r)(h0:r≠0)(hl:aL W.a.j W w):
 bodyPostD ah Tryz.f70 (Yx W q e x q2 g sl (EI e s l)) (Exit.panic [{v:=Tt r,recovered:=false}]) {tmps:=tmps,defers:=[{target:=Target.fn (Fn.func 134) #[sO (some ⟨W.a.j+1,0,none⟩),sO (some ⟨W.a.j,0,none⟩)],args:=#[]}]} w:=by
 have h1:=agP e s l;rw[hr]at h1;obtain⟨k,rfl⟩:∃k:Nat,r=k:=⟨r.g,by omega⟩
 have hk:k<11:=by omega
 have hu:EI e s l=({s with S:=upC s.S k},{Ia with lu:=k}):=by unfold EI;rw[hr,if_neg h0]
 have hlt:=h.b.lt;have hcn:=aow hi.ct hk;rw[<-h.b.S]at hcn;have hE:=h.b.eg.go hl;refine leaves_cons (f:=134) (args:=#[.c (some ⟨W.a.j+1,0,none⟩),.c (some ⟨W.a.j,0,none⟩)]) (by simp) (by simp[go_sem]) ?_;refine(acj [] hk hc hO hB hE (by omega) (by omega) (by omega)).e ?_;have hl2:=lI hl (W.a.j+1) 0 (Oc.why k).ay (by omega);have hO2:=hO.put (Oc.why k).ay (by rw[Oc.r,hc]);generalize gX w (W.a.j+1) 0 (Oc.why k).ay=w2 at *;rintro r u' w'' ⟨rfl,rfl,rfl⟩;have hE2:=(h.go hl2).count (k:=k) hk;have hf:jM [q] w2 (w2.F ⟨q,79+k,none⟩ (.b .a (x.S.a.b k 0+1))).drew:=((jM.refl [q] w2).set ⟨q,79+k,none⟩ _ (.a (by simp))).drewN 1;refine⟨_,kOc.zI (fn:=Tryz.f70) (p:=4) (by kernel_rfl) tmps ht (hf.box hO2 (by simp;omega)) (Oc.r _),?_⟩;rw[hu];exact⟨_,_,sl,rfl,⟨rfl,rfl,rfl,rfl,rfl,rfl,fu _ _ _ _⟩,hE2,rfl,fun b hb=>.a hb,(jM.jD hl2).trans (hf.lN (by simp)) (fun g hg=>.a hg)⟩
theorem arO{M:Int}{w:ak}{s':rE}{x':Eg}{sl':List (Option Fw)}{o:Oc}{u:rE×Ou}(tmps:Array aB)(ht:tmps.b 4 undef=.c (some ⟨W.a.j+1,0,none⟩))(hO:dM w (W.a.j+1) o.ay)(hB:dM w W.a.j #[.c (some ⟨q,0,none⟩)])(h:Ag w q e s' x' q2 g sl')(hct:∀n∈s'.S.a,0<=n/\n<=M)(hM:M<1152921504606846976)(hr:o.lu=0)(hu:u.1={s' with S:=upC s'.S 0})(hou:OuR W.a.j w o u.2)(hsl:sl'.a=sl.a)(hrw:sI x'=sI x)(hq:q<W.a.j)(hl:jM [q,q2,g] W w):
 bodyPostD ah Tryz.f70 (Yx W q e x q2 g sl u) Exit.ret {tmps:=tmps,defers:=[{target:=Target.fn (Fn.func 134) #[sO (some ⟨W.a.j+1,0,none⟩),sO (some ⟨W.a.j,0,none⟩)],args:=#[]}]} w:=by
 have hcn:=aow hct (k:=0) (by omega);rw[<-h.b.S]at hcn;refine leaves_cons (f:=134) (args:=#[.c (some ⟨W.a.j+1,0,none⟩),.c (some ⟨W.a.j,0,none⟩)]) (by simp) (by simp[go_sem]) ?_;refine(ahe (k:=0) (by omega) hr hO hB h.b.eg (by omega)).e ?_;rintro r u' w'' ⟨rfl,rfl,rfl⟩;have hE2:Ag _ q e {s' with S:=upC s'.S 0} ({x' with S:=upC x'.S 0}:Eg) q2 g sl':=h.count (k:=0) (by omega);have hf:jM [q] w (w.F ⟨q,79+0,none⟩ (.b .a (x'.S.a.b 0 0+1))).drew:=((jM.refl [q] w).set ⟨q,79+0,none⟩ _ (.a (by simp))).drewN 1;refine⟨_,kOc.zI (fn:=Tryz.f70) (p:=4) (by kernel_rfl) tmps ht (hf.box hO (by simp;omega)) (Oc.r _),?_⟩;refine⟨_,({x' with S:=upC x'.S 0}:Eg),sl',rfl,hou.keep hf (by simp;omega),?_,hsl,fun b hb=>.a (by rw[<-hrw];exact hb),hl.trans hf (fun g hg=>.a (by simp at hg;simp[hg]))⟩;rw[hu];exact hE2
end
section
variable {W W':ak} {q:Nat} {e:En} {s:rE} {x:Eg} {q2 g:Nat} {sl:List (Option Fw)}
theorem Ni.av6(h:Ni W q e s x q2 g sl){W':ak}(hb:aL W.a.j W W'):(yY 29 (.c (some ⟨q,16,none⟩))).G ah W' = .Y (.d x.cf.ay) W':=Qf.Ed (h.eg.go hb) 16 (Eg.as9 _) (by rw[Eg.r];omega)
theorem Bx.b4{a1 a2 a3 a4 p:Nat×Array aB}{L:List (Nat×Array aB)}{W0 W:ak}(h:Bx (a1::a2::a3::a4::p::L) W0 W):dM W p.1 p.2:=(h.2 p (by simp)).2
theorem Bx.b5{a1 a2 a3 a4 a5 p:Nat×Array aB}{L:List (Nat×Array aB)}{W0 W:ak}(h:Bx (a1::a2::a3::a4::a5::p::L) W0 W):dM W p.1 p.2:=(h.2 p (by simp)).2
theorem Pk.aiD(p:Pk)(j:Nat)(hj:j<37):p.ay[1+j]? = p.I.ay[j]?:=by
 have h:=Pk.JM p;rw[<-h,dA,if_pos (by rw[Pk.r];omega)]
theorem Pk.arP(p:Pk):p.ay.m 18 (18+17)=p.I.S.ay:=by
 apply dZ;intro j;rcases aZ j 17 with hj|hj
 ·rw[oz p.ay 18 17 j hj (by rw[Pk.r];omega),show 18+j=1+(j+17)by omega,Pk.aiD p (j+17) (by omega),Tu.JG _ j hj]
 ·rw[aU (by rw[Array.size_extract,Pk.r];omega),aU (by rw[fC.r];exact hj)]
def nxO(o:Option Fw)(pr:Int)(fl:Nat):Int:=match o with|some y=>ahA y.vV fl|none=>aaM pr fl
theorem arQ(s:rE)(p:Pk)(fl:Nat)(h:p.vw=fl):aif s p=nxO (qv s.h p.I) p.I.aQ fl:=by
 unfold aif nxO;rw[h,dU];cases qv s.h p.I<;>rfl
theorem Ag.aAF(h:Ag W q e s x q2 g sl)(n:Int):Ag (W.F ⟨q,78,none⟩ (.b .a n)) q e {s with no:=n} ({x with no:=n}:Eg) q2 g sl:=by
 have hb:=h.b.eg.eX 78 (.b .a n);rw[Eg.aoe]at hb;have:=h.num ((jM.refl [q] W).set ⟨q,78,none⟩ (.b .a n) (.a (by simp))) x.fK n x.S hb;rw[h.b.fK,h.b.S]at this;have e1:({x with fK:=s.fK,no:=n,S:=s.S}:Eg)={x with no:=n}:=by rw[<-h.b.fK,<-h.b.S]
 rw[e1]at this;exact this
@[go_sem]theorem axG(W:ak)(t:Tu)(n:List UInt8)(st se no:Int):(aue #[(0,.d t.ay),(1,.g (bP n)),(2,.b .a st),(3,.b .a se),(4,.b .a no)]).G ah W = .Y (.d (Fw.mk t n st se no).ay) W:=kFw.bd W _ _ _ _ lW (azZ W _ lW) (by
 refine vo (Fw.r _) ?_ ?_
 ·simp[r9,cZ,Tu.r]
 ·simp[rF,cZ,Fw.ay,fwT])
theorem iC(w:ak):aL w.a.j w w.drew:=eH (aG _ _) 1
theorem Ag.frm{F:List Nat}(h:Ag W q e s x q2 g sl)(hf:jM F W W')(h1:q∉F)(h2:q2∉F)(h3:g∉F)(o:∀b∈sI x,b∉F):Ag W' q e s x q2 g sl:=by
 have hs:=hf.j;refine⟨⟨hf.box h.b.eg h1,h.b.key,h.b.cf,h.b.lD,h.b.vs.keep hf (fun b hm=>o b (dX.2 (.a hm))),h.b.bk.keep hf (fun b hm=>o b (dX.2 (.b (.a hm)))),h.b.hl.keep hf (fun b hm=>o b (dX.2 (.b (.b (.a hm))))),h.b.fl,h.b.h.keep hf h2 h3,h.b.rm,h.b.nq,fun b hm=>by have:=h.b.Nj b hm;omega,h.b.fK,h.b.no,h.b.S⟩,h.dn.keep hf (fun b hm=>o b (dX.2 (.b (.b (.b (.a hm)))))),h.tt.keep hf (fun b hm=>o b (dX.2 (.b (.b (.b (.b (.a hm))))))) (fun b hm=>o b (dX.2 (.b (.b (.b (.b (.b hm)))))))⟩
theorem yO(w:ak)(b o:Nat)(c:Array aB):jM [b] w (gX w b o c):=(jM.refl [b] w).grown (mo (dQ w (some b)) o c) (fun k e=>.a (by injection e with e;simp[e]))
theorem P5{F:List Nat}{B n c:Nat}{A:Option aT}{xs:List aB}(h:W.c B 5 1 (.a A n c) n xs)(hf:jM F W W')(hF:∀b∈F,b<B):W'.c B 5 1 (.a A n c) n xs:=Bo h hf (fun k hk hm=>by
 have h2:k∈wM A:=by
  cases hA:A with
  | none=>rw[hA]at hk;cases hk
  | some a=>rw[hA]at hk;exact Ec.2 ⟨a,rfl,by simpa[jy]using hk⟩
 have h3:=(lF h k h2).1;have:=hF k hm;omega)
theorem akR{c:Cn}{l:List Vp}(h:yG c l=true):l.a<=64:=by
 unfold yG zw at h;simp only[bf,decide_eq_true_eq]at h;obtain⟨⟨⟨⟨⟨⟨⟨⟨⟨⟨_,h0⟩,_⟩,_⟩,_⟩,_⟩,_⟩,_⟩,_⟩,_⟩,_⟩:=h;exact h0.1
theorem aeU{M:Int}(h:Ag W q e s x q2 g sl)(hi:qm M e s)(hM:M<1152921504606846976)(A:Option aT)(n c:Nat)(l:List UInt8)(hnc:n<=c)(hc:c<=9223372036854775807/\n<=1000000)(hr:gu W W.a.j A n l):
 aP ah 70 #[.c (some ⟨q,0,none⟩),.a A n c] W (Yx W q e x q2 g sl (EI e s l)):=by
 have Z0:=ab (((Bx.start W).new #[.c (some ⟨q,0,none⟩)] 43).new uO.ay 58);rw[show(W.alloc (.D #[.c (some ⟨q,0,none⟩)] 43)).a.j=W.a.j+1 by simp]at Z0;have H:=ab h;have HI:=ab hi;have HM:=ab hM;have HR:=ab hr;have CP:=ab (fun(w:ak) (hb:aL W.a.j W w)=>JX w A n c l hnc (by omega) (hr.upon hb));have KB:=ab (fun(w:ak) (h:dM w W.a.j #[.c (some ⟨q,0,none⟩)])=>show w.b ⟨W.a.j,0,none⟩=some (.c (some ⟨q,0,none⟩))from h.J.1 0);have HK:=ab (ain l);have HFL:=ab (aov l);have Dt:=ab (fun h=>azI (l:=l) h);have hmf:∀(fn:Fn)(first cap:Array aB)(w:ak),(Instr.makeFunc fn first cap).G ah w = .Y (.func fn first cap) w:=fun _ _ _ _=>rfl
 obtain⟨p,hp⟩:=bZ (wE l);have HP:=ab hp;unfold PkP at CP;rw[<-hp]at CP HK HFL Dt;clear h hi hM hr hp;go_enter_defers Tryz.func70,Tryz.ntmps70;go_upto_region 2 with fail
 generalize(W.alloc (.D #[.c (some ⟨q,0,none⟩)] 43)).alloc (.D uO.ay 58)=w1 at Z0 ⊢;go_upto_region 3 with(go_at_call 32;(with_reducible refine(CP.i _ Z0.i.O).e ?_);rintro r w2 ⟨rfl,hb2⟩;have Z1:=ab ((Z0.i.go hb2).new p.ay 83);have hy:=ab (Z0.i.go hb2).R.lt;clear hb2)
 generalize w2.alloc (.D p.ay 83)=w3 at Z1 ⊢;generalize w2.a.j=y at *;have f0:=(Z1.i.R.J.1 0).trans (Pk.DY p);by_cases hk:p.kind=0
 case neg=>
  have q1:(p.kind != 0)=true:=by simpa using hk
  have HW:=ab (show(EH e s l).lu=p.kind by unfold EH;rw[<-HP.i,if_neg hk]);have HK0:=ab hk;clear hk;go_wp2_with fail;exact UW _ p.kind rfl Z1.i.b1 (Oc.r _) Z1.i.b2 H.i HI.i HM.i HW.i HK0.i Z1.i.O
 have q1:(p.kind != 0)=false:=by simpa using hk
 obtain⟨hpt,hpp⟩:=Dt.i hk;have HT:=ab (BH hpt);have HTK:=ab hpt;have HK0:=ab hk;clear hpt hpp hk Dt HK;obtain⟨v,hv⟩:=bZ (Yr e.vs p.I.S p.I.aQ p.I.iQ);have CV:=ab (fun(w:ak) (hb:aL W.a.j W w)=>Tm x.cf e.vs p.I.S p.I.aQ p.I.iQ w (H.i.b.vs.go hb) (by have h1:=H.i.b.vs.1;have h2:=akR HI.i.cn;omega));rw[<-hv]at CV;have HV:=ab hv;clear hv;obtain⟨vp,vok⟩:=v;simp only at CV;go_upto_region 5 with fail
 refine xE (Bx.abK ([(y,p.ay),(W.a.j+1,uO.ay),(W.a.j,#[.c (some ⟨q,0,none⟩)])]) W) 17 18 16 6 39 98 oL.ay (by kernel_rfl) rfl rfl rfl rfl rfl (by kernel_rfl) (by kernel_rfl) (by kernel_rfl) (by kernel_rfl) (by kernel_rfl) rfl rfl rfl (fun a w=>by simp[go_sem]) (uh rfl) Z1.i.drew ?_;apply sw;refine⟨fun T f hT es ew=>?_,?_⟩
 ·have EW:=ab ew
  have ES:=ab es;have l1:=fun m=>KB.i _ (ES.i m).b2
  have l2:=fun m=>H.i.b.av6 (ES.i m).O
  have l3:=fun m=>(ES.i m).R.Tv (o:=18) (a:=p.I.S) (Pk.arP p) (by rw[Pk.r];omega)
  have l4:=fun m=>((ES.i m).R.J.1 35).trans ((Pk.aiD p 34 (by omega)).trans (Tu.VZ _))
  have l5:=fun m=>((ES.i m).R.J.1 37).trans ((Pk.aiD p 36 (by omega)).trans (Tu.abh _))
  have CF:=ab (fun m=>CV.i _ (ES.i m).O);clear es ew;simp only[ng,yI,lq,bK,bR,jA,j6]
  repeat(go_big_quiet_step ((first|(go_at_call 135;(with_reducible refine(CF.i _).e ?_);rintro e w2 ⟨rfl,hb⟩;exact⟨rfl,EW.i _ _ hb⟩))))
  exact eG rfl
 intro w9 w8 Ad _ hb;have ZN:=ab ((Ad.new oL.ay 98).go hb);have hyv:=ab (fun z (hz:z∈[(y,p.ay),(W.a.j+1,uO.ay),(W.a.j,#[.c (some ⟨q,0,none⟩)])])=>((Ad.2 z hz).2.lt:z.1<w9.a.j));generalize w9.a.j=y2 at *;clear hb Ad;have yZ:=ZN.i.R.K 0 20 (aX (Vp.r oL).symm);refine⟨gX w8 y2 0 vp.ay,?_,?_⟩
 ·simp[go_sem,yZ]
 simp only[lM,bL,bK,bR,jU,lH];have Z2:=ab (ZN.i.put (fun p hp=>jQ (hyv.i p hp)) vp.ay (by rw[Vp.r,Vp.r]));clear yZ ZN;generalize gX w8 y2 0 vp.ay=w4 at Z2 ⊢;go_step;go_step;go_step;cases vok with
 | false=>
   have HW:=ab (show(EH e s l).lu=7 by
    have h1:=HV.i;unfold Yr at h1;unfold EH;rw[<-HP.i,if_pos HK0.i];cases hf:zJ e.vs p.I.S p.I.aQ p.I.iQ with
    | none=>rfl
    | some i=>rw[hf]at h1;cases h1)
   go_wp2_with fail;exact UW _ 7 rfl Z2.i.b2 (Oc.r _) Z2.i.b3 H.i HI.i HM.i HW.i (by decide) Z2.i.O
 | true=>
   obtain⟨i,hi1,hi2⟩:∃i,zJ e.vs p.I.S p.I.aQ p.I.iQ=some i/\vp=e.vs.b i oL:=by
    have h1:=HV.i;unfold Yr at h1;cases hf:zJ e.vs p.I.S p.I.aQ p.I.iQ with
    | none=>rw[hf]at h1;cases h1
    | some i=>rw[hf]at h1;injection h1 with h1 _;exact⟨i,rfl,h1⟩
   have HI1:=ab hi1;have HI2:=ab hi2;clear hi1 hi2 HV CV;obtain⟨bb,hbb⟩:=bZ (JY e s p.I);have CB:=ab (fun(w:ak) (hb:aL W.a.j W w)=>Yv (H.i.go hb) HI.i p.I HT.i);rw[<-hbb]at CB;have IK:=ab hbb;clear hbb;have lt1:=Z2.i.b1.acf (o:=1) (Pk.JM p) (by rw[Pk.r];omega);have le1:=KB.i _ Z2.i.b3;cases bb with
   | none=>
     have CB2:=ab (show∀(w:ak),aL W.a.j W w->aP ah 136 #[.c (some ⟨q,0,none⟩),.d p.I.ay] w (fun r w'=>r=.panicked [{v:=Tt 8,recovered:=false}]/\aL w.a.j w w')from CB.i);have HW:=ab (show(EH e s l).lu=8 by
      unfold EH;rw[<-HP.i,if_pos HK0.i,HI1.i];simp only;rw[<-IK.i])
     go_wp2_with (go_at_call 136;(with_reducible refine(CB2.i _ Z2.i.O).e ?_);rintro r w5 ⟨rfl,hb5⟩;have Z3:=ab (Z2.i.go hb5);clear hb5);exact UW _ 8 rfl Z3.i.b2 (Oc.r _) Z3.i.b3 H.i HI.i HM.i HW.i (by decide) Z3.i.O
   | some bh=>
     obtain⟨b,GN⟩:=bh;have CB2:=ab (show∀(w:ak),aL W.a.j W w->aP ah 136 #[.c (some ⟨q,0,none⟩),.d p.I.ay] w (fun r w'=>r=.a (.I #[.d b.ay,.e GN])/\aL w.a.j w w')from CB.i);go_upto_region 9 with(go_at_call 136;(with_reducible refine(CB2.i _ Z2.i.O).e ?_);rintro r w5 ⟨rfl,hb5⟩;have Z3:=ab ((Z2.i.go hb5).new b.ay 62);have aAH:=ab (fun p hp=>((Z2.i.go hb5).2 p hp).2.lt);clear hb5)
     generalize w5.alloc (.D b.ay 62)=w6 at Z3 ⊢;generalize w5.a.j=y3 at *;clear lt1 le1 CB CB2;have HY3:=ab (fun z (hz:z∈[(y2,vp.ay),(y,p.ay),(W.a.j+1,uO.ay),(W.a.j,#[.c (some ⟨q,0,none⟩)])])=>(aAH.i z hz:z.1<y3));clear aAH;obtain⟨ot,hot⟩:=bZ (Py e vp b p.I l);have CO:=ab (fun(w:ak) (hb:aL W.a.j W w)=>akP (H.i.go hb) vp b p.I A n c l hnc hc (HR.i.upon hb));rw[<-hot]at CO;have HOT:=ab hot;clear hot;have lt1:=Z3.i.b2.acf (o:=1) (Pk.JM p) (by rw[Pk.r];omega);have le1:=KB.i _ Z3.i.b4;have lv1:=kVp.Ed Z3.i.b1 0 (d:=vp.ay) (by have:=Vp.r vp;rw[<-this];simp) (by rw[Vp.r];omega);have lb1:=Z3.i.R.avZ;by_cases ho:ot.1=0
     case neg=>
      have HW:=ab (show(EH e s l).lu=ot.1 by
       unfold EH;rw[<-HP.i,if_pos HK0.i,HI1.i];simp only;rw[<-IK.i];simp only;rw[<-HI2.i,<-HOT.i,if_neg ho])
      have HO:=ab ho;have CO2:=ab (fun(w:ak) (hb:aL W.a.j W w)=>(CO.i w hb).e (R':=fun r w'=>r=.panicked [{v:=Tt ot.1,recovered:=false}]/\aL w.a.j w w') (fun r w' h=>h.elim (fun h=>absurd h.1 ho) (fun h=>h.2)));clear ho CO;go_wp2_with (go_at_call 137;(with_reducible refine(CO2.i _ Z3.i.O).e ?_);rintro r w7 ⟨rfl,hb5⟩;have Z4:=ab (Z3.i.go hb5);clear hb5);exact UW _ ot.1 rfl Z4.i.b3 (Oc.r _) Z4.i.b4 H.i HI.i HM.i HW.i HO.i Z4.i.O
     obtain⟨ok,ob⟩:=ot;obtain rfl:ok=0:=ho;have CO2:=ab (fun(w:ak) (hb:aL W.a.j W w)=>(CO.i w hb).e (R':=IV w ob) (fun r w' h=>h.elim (fun h=>h.2) (fun h=>absurd rfl h.1)));clear CO;have Ol:=ab (show EH e s l=⟨0,ob,b,GN⟩by
      unfold EH;rw[<-HP.i,if_pos HK0.i,HI1.i];simp only;rw[<-IK.i];simp only;rw[<-HI2.i,<-HOT.i,if_pos rfl])
     have HNL:=ab (show b.E.a<=1000000 by
      have h1:=HI.i.Uz.2.2 b (aq3 HI.i IK.i.symm).1;omega)
     clear IK HOT HI1 HI2;obtain⟨fl,hfl⟩:∃k:Nat,p.vw=k:=⟨p.vw.g,by have:=HFL.i;omega⟩
     have aox:fl<64:=by have:=HFL.i;omega
     have HFN:=ab hfl;have CG:=ab (fun(w:ak)=>aje fl p.I.aQ w aox);have CX:=ab (fun(st:Int) (w:ak)=>alX fl st w aox);clear aox hfl HFL;go_upto_region 10 with(go_at_call 137;(with_reducible refine(CO2.i _ Z3.i.O).e ?_);rintro r w7 ⟨A3,n3,c3,rfl,hn3,ho3,hb5⟩;have Z4:=ab (Z3.i.go hb5);have N3:=ab hn3;have O3:=ab (iH ho3 (Nat.le_of_lt Z3.i.R.lt));clear hb5 hn3 ho3)
     clear lt1 le1 lv1 lb1 CO2;have lp1:=(Z4.i.b2.J.1 35).trans ((Pk.aiD p 34 (by omega)).trans (Tu.VZ _));have lf1:=(Z4.i.b2.J.1 38).trans (Pk.OT p);rw[HFN.i]at lf1;go_upto_region 11 with(go_at_call 138;(with_reducible refine(CG.i _).e ?_);rintro r w8 ⟨rfl,rfl⟩)
     clear CG lp1 lf1;obtain⟨o,ho⟩:=bZ (qv s.h p.I);have HO:=ab ho;have CF0:=ab (fun(w:ak) (hb:aL W.a.j W w)=>La (H.i.b.h.go hb) p.I);rw[<-ho]at CF0;have hcg:∀o,anW o = .I #[.d (wH o).rH.ay,.e o.isSome]:=fun _=>rfl
     simp only[hcg]at CF0;clear hcg ho;refine xE (S:=fun w=>Bx [(y3,b.ay),(y2,vp.ay),(y,p.ay),(W.a.j+1,uO.ay),(W.a.j,#[.c (some ⟨q,0,none⟩)])] W w/\aL w7.a.j w7 w) (fun a b h hb=>⟨h.1.go hb,h.2.trans (hb.e h.2.j)⟩) 10 11 9 12 72 86 jw.ay (by kernel_rfl) rfl rfl rfl rfl rfl (by kernel_rfl) (by kernel_rfl) (by kernel_rfl) (by kernel_rfl) (by kernel_rfl) rfl rfl rfl (fun a w=>by simp[go_sem]) (uh rfl) ⟨Z4.i.drew,eH (aG _ _) 1⟩ ?_;apply sw;refine⟨fun T f hT es ew=>?_,?_⟩
     ·have EW:=ab ew
      have ES:=ab es;have l1:=fun m=>KB.i _ (ES.i m).1.b4
      have l2:=fun m=>H.i.b.aoi (ES.i m).1.O
      have l3:=fun m=>(ES.i m).1.b2.acf (o:=1) (Pk.JM p) (by rw[Pk.r];omega)
      have CF:=ab (fun m=>CF0.i _ (ES.i m).1.O);clear es ew;simp only[ng,yI,lq,bK,bR,jA,j6]
      repeat(go_big_quiet_step ((first|(go_at_call 126;(with_reducible refine(CF.i _).e ?_);rintro e w2 ⟨rfl,hb⟩;exact⟨rfl,EW.i _ _ hb⟩))))
      exact eG rfl
     intro w9 w8 Ad av7 hb;have O4:=ab (Bo O3.i (jM.jD (F:=[]) av7.2) (fun k hk hm=>by cases hm));have ZN:=ab ((Ad.1.new jw.ay 86).go hb);have hyv:=ab (fun z (hz:z∈[(y3,b.ay),(y2,vp.ay),(y,p.ay),(W.a.j+1,uO.ay),(W.a.j,#[.c (some ⟨q,0,none⟩)])])=>((Ad.1.2 z hz).2.lt:z.1<w9.a.j));have hy7:=Ad.2.j;generalize w9.a.j=y4 at *;have Yz:=av7.2;have yZ:=ZN.i.R.K 0 41 (aX (Fw.r jw).symm);refine⟨gX w8 y4 0 (wH o).rH.ay,?_,?_⟩
     ·simp[go_sem,yZ];rfl
     simp only[lM,bL,bK,bR,jU,lH];have Z5:=ab (ZN.i.put (fun p hp=>jQ (hyv.i p hp)) (wH o).rH.ay (by rw[Fw.r,Fw.r]));have O5:=ab (Bo O3.i (jM.jD (F:=[]) (lI Yz y4 0 (wH o).rH.ay hy7)) (fun k hk hm=>by cases hm));have HYW:=ab (show W.a.j+1<y/\y<y3 from⟨hy.i,HY3.i (y,p.ay) (by simp)⟩);clear yZ ZN hyv Ad av7 hb Yz hy7 O4 O3 Z4 CF0;generalize gX w8 y4 0 (wH o).rH.ay=w10 at Z5 O5 ⊢;go_step;go_step;go_step;obtain⟨nx,hnx⟩:=bZ (aif s p);have HNX:=ab (hnx.trans (arQ s p fl HFN.i));rw[<-HO.i]at HNX;have HNE:=ab hnx;clear hnx;go_upto_if 73 with fail
     go_cut [11]from 74 to 78 (fun s11 wx=>s11=.b .a nx/\wx=w10)
     case first=>
      cases o with
      | none=>
        go_wp2_with fail;go_meet
        case rel=>exact⟨by rw[HNX.i];rfl,rfl⟩
      | some f1=>
        have ls:=(Z5.i.R.J.1 38).trans (Fw.agi f1);have lf:=(Z5.i.b3.J.1 38).trans (Pk.OT p);rw[HFN.i]at lf;go_wp2_with (go_at_call 139;(with_reducible refine(CX.i _ _).e ?_);rintro r w8 ⟨rfl,rfl⟩);go_meet
        case rel=>exact⟨by rw[HNX.i];rfl,rfl⟩
     obtain⟨rfl,hcut⟩:=hcut;rw[hcut];clear hcut CX HNX;have le1:=KB.i _ Z5.i.b5;have g78:=(H.i.b.eg.go Z5.i.O).J.2.1 78;have c78:=((H.i.b.eg.go Z5.i.O).J.1 78).trans (Eg.aoc x);have hwr:=jW (x.no+1) (by have h1:=HI.i.no;have h2:=H.i.b.no;have h3:=HM.i;omega);go_upto_region 15 with fail
     have E1:=ab ((H.i.go Z5.i.O).aAF (x.no+1));have hf1:jM [q] w10 (w10.F ⟨q,78,none⟩ (.b .a (x.no+1))):=(jM.refl [q] w10).set ⟨q,78,none⟩ _ (.a (by simp));have hqW:=H.i.b.lt;have hyw:=HYW.i;have BE:=ab (hf1.box Z5.i.b5 (by simp;omega));have BO:=ab (hf1.box Z5.i.b4 (by simp;omega));have BP:=ab (hf1.box Z5.i.b3 (by simp;omega));have BB:=ab (hf1.box Z5.i.b1 (by simp;omega));have F1:=ab ((jM.jD (F:=[q]) Z5.i.O).qA hf1);have O6:=ab (P5 O5.i hf1 (by simp;omega));have HX:=ab (show x.no=s.no/\x.fK=s.fK/\x.pl.lD=s.lD from⟨H.i.b.no,H.i.b.fK,H.i.b.lD⟩);clear hf1 hqW hyw le1 g78 c78 hwr O5 Z5;generalize w10.F ⟨q,78,none⟩ (.b .a (x.no+1))=w11 at E1 BE BO BP BB F1 O6 ⊢;have KS:=ab (fun(w':ak) (h1:dM w' W.a.j #[.c (some ⟨q,0,none⟩)]) (h2:dM w' y p.ay) (h3:dM w' y3 b.ay) (h4:dM w' q ({x with no:=x.no+1}:Eg).ay)=>show w'.b ⟨W.a.j,0,none⟩=some (.c (some ⟨q,0,none⟩))/\w'.b ⟨q,74,none⟩=some (.c (some ⟨q2,0,none⟩))/\(uM (.c (some ⟨y,1,none⟩))).G ah w' = .Y (.d p.I.ay) w'/\w'.b ⟨y3,0,none⟩=some (.g (bP b.E))/\w'.b ⟨q,77,none⟩=some (.b .a x.fK)/\w'.b ⟨q,78,none⟩=some (.b .a (x.no+1))from
      ⟨KB.i w' h1,by
       rw[h4.J.1 74,Eg.aan];show some (sO (x.fl.map fun b=>⟨b,0,none⟩))=_;rw[H.i.b.fl];rfl,h2.acf (o:=1) (Pk.JM p) (by rw[Pk.r];omega),(h3.J.1 0).trans (Bk.nS b),(h4.J.1 77).trans (Eg.UQ _),(h4.J.1 78).trans (Eg.aoc _)⟩)
     have HN:=ab (tC HI.i.cn);have CU:=ab (aai (E1.i.go (iC _)).b.h (by have:=HN.i;omega) E1.i.b.rm ⟨p.I,b.E,nx,x.fK,x.no+1⟩ HNL.i);unfold ag5 at CU;refine wp_region_noPanic ?_;go_region_held_law (fun w'=>w'.b ⟨W.a.j,0,none⟩=some (.c (some ⟨q,0,none⟩))/\w'.b ⟨q,74,none⟩=some (.c (some ⟨q2,0,none⟩))/\(uM (.c (some ⟨y,1,none⟩))).G ah w' = .Y (.d p.I.ay) w'/\w'.b ⟨y3,0,none⟩=some (.g (bP b.E))/\w'.b ⟨q,77,none⟩=some (.b .a x.fK)/\w'.b ⟨q,78,none⟩=some (.b .a (x.no+1)))
      (first|exact KS.i _ (BE.i.go (iC _)) (BP.i.go (iC _)) (BB.i.go (iC _)) (E1.i.b.eg.go (iC _))|exact KS.i _ BE2.i BP2.i BB2.i BQ2.i|go_keep)
      (first|(go_at_call 63;(with_reducible refine CU.i.e ?_);rintro r w12 ⟨rfl,⟨sl',ht,hsl⟩,hf⟩;have HTB:=ab ht;have HSL:=ab hsl;have HF:=ab hf;have BE2:=ab (jM.box hf (BE.i.go (iC _)) (by have h1:=H.i.b.lt;have h2:=HYW.i;simp;omega));have BO2:=ab (jM.box hf (BO.i.go (iC _)) (by have h1:=H.i.b.lt;have h2:=HYW.i;simp;omega));have BP2:=ab (jM.box hf (BP.i.go (iC _)) (by have h1:=H.i.b.lt;have h2:=HYW.i;simp;omega));have BB2:=ab (jM.box hf (BB.i.go (iC _)) (by have h1:=H.i.b.lt;have h2:=HYW.i;simp;omega));have BQ2:=ab (jM.box hf (E1.i.b.eg.go (iC _)) (by have h1:=H.i.b.nq;simp;omega));clear hf ht hsl))
     refine NoPanic.normal ?_;have E2:=ab (Ag.rH (E1.i.go (iC _)) HF.i HTB.i HSL.i);have le2:=KB.i _ BE2.i;have lv2:=(BQ2.i.J.1 70).trans (Eg.acd _);have ln2:=(BB2.i.J.1 0).trans (Bk.nS b);have th2:=BO2.i.K 0 6 (aX (Oc.r uO).symm);go_upto_region 16 with fail
     go_region;have hqW:=H.i.b.lt;have hyw:=HYW.i;have hrw:=H.i.b.Nj;have G1:=ab (show jM [W.a.j+1] w12 (gX w12.drew (W.a.j+1) 0 (Oc.mk 0 0 GN x.pl.lD b.E A3 n3 c3).ay)from(jM.jD (F:=[W.a.j+1]) (iC w12)).qA (yO w12.drew (W.a.j+1) 0 _));have BO3:=ab ((BO2.i.go (iC _)).put (Oc.mk 0 0 GN x.pl.lD b.E A3 n3 c3).ay (by rw[Oc.r,Oc.r]));have BE3:=ab (G1.i.box BE2.i (by simp));have E3:=ab (E2.i.frm G1.i (by simp;omega) (by simp;omega) (by simp;omega) (fun b hb=>by have:=hrw b hb;simp;omega));have O7:=ab (iH (P5 (P5 (P5 O6.i (jM.jD (F:=[]) (iC _)) (by simp)) HF.i (by simp;omega)) G1.i (by simp;omega)) (show W.a.j<=y3 by omega));have FF:=ab (show jM [q,q2,g] W (gX w12.drew (W.a.j+1) 0 (Oc.mk 0 0 GN x.pl.lD b.E A3 n3 c3).ay)from(((F1.i.lN (F':=[q,q2,g]) (by simp)).qA (jM.jD (iC _))).qA (HF.i.lN (by simp))).trans G1.i (fun j hj=>.b (by simp at hj;omega)));generalize gX w12.drew (W.a.j+1) 0 (Oc.mk 0 0 GN x.pl.lD b.E A3 n3 c3).ay=w13 at BO3 BE3 E3 O7 FF ⊢;have HFE:=ab (show EI e s l=({s with S:=upC s.S 0,no:=s.no+1,h:=Ez e.c.dS s.h ⟨p.I,b.E,nx,s.fK,s.no+1⟩},⟨0,0,GN,s.lD,b.E,ob⟩)by
      unfold EI;rw[Ol.i,if_pos rfl,<-HP.i];simp only[anu];rw[<-HNE.i])
     obtain⟨x1,x2,x3⟩:=HX.i;rw[x1,x2]at E3;rw[x3]at BO3;go_wp2;rw[HFE.i];exact arO _ rfl BO3.i BE3.i E3.i HI.i.ct HM.i rfl rfl ⟨rfl,rfl,rfl,rfl,rfl,N3.i,O7.i⟩ HSL.i rfl hqW.1 FF.i
end
section
variable {W W':ak} {q:Nat} {e:En} {s:rE} {x:Eg} {q2 g:Nat} {sl:List (Option Fw)}
theorem kI6:pK 24 6 (Lj (bJ 6 0)):=⟨⟨_,Tryz.underlying24,rfl⟩,by kernel_rfl,by kernel_rfl,jN _⟩
structure At where
 kind:Int
 frA:Option aT
 Yy:Nat
 XG:Nat
 op:su
 E:List UInt8
 well:Bool
def At.ay(x:At):Array aB:=#[.b .a x.kind,.a x.frA x.Yy x.XG]++(x.op.ay ++ #[.g (bP x.E),.e x.well])
theorem At.r(x:At):x.ay.j=34:=by simp[At.ay,su.r]
@[go_sem]theorem At.eB(x:At):eB x.ay=34:=At.r x
theorem At.DY(x:At):x.ay[0]? = some (.b .a x.kind):=by simp[At.ay,aD]
theorem At.aAI(x:At):x.ay[1]? = some (.a x.frA x.Yy x.XG):=by simp[At.ay,aD]
theorem At.aAJ(x:At):x.ay.m 2 32=x.op.ay:=by simp[At.ay,dD,su.r,qB,uw]
theorem At.Ea(x:At):x.ay[32]? = some (.g (bP x.E)):=by simp[At.ay,aD,su.r]
theorem At.arR(x:At):x.ay[33]? = some (.e x.well):=by simp[At.ay,aD,su.r]
structure AtR(W:ak)(a:At)(u:Ac):Prop where
 kind:a.kind=u.kind
 fr:gu W W.a.j a.frA a.Yy u.frame
 XG:a.Yy<=a.XG/\a.XG<=9223372036854775807/\a.Yy<=1000000
 op:a.op=u.op
 E:a.E=u.E
 well:a.well=u.well
theorem Br{w1 w2:ak}{o:Oc}{x':Eg}{sl':List (Option Fw)}{u:rE×Ou}(h:Ag W q e s x q2 g sl)(hb:aL W.a.j W w1)(hl:W.a.j+1<w1.a.j)(hou:OuR w1.a.j w2 o u.2)(hE:Ag w2 q e u.1 x' q2 g sl')(hsl:sl'.a=sl.a)(hr:∀b∈sI x',b∈sI x\/w1.a.j<=b)(hf:jM [q,q2,g] w1 w2):
 Yx W q e x q2 g sl u (.a (.d o.ay)) (gX w2 (W.a.j+1) 0 o.ay):=by
 have hq:=h.b.lt;have hrw:=h.b.Nj;have hs:=hb.j;have hf2:=yO w2 (W.a.j+1) 0 o.ay;have hx:∀b∈sI x',b∉[W.a.j+1]:=by
  intro b hm;rcases hr b hm with h1|h1
  ·have:=hrw b h1;simp;omega
  ·simp;omega
 refine⟨o,x',sl',rfl,?_,hE.frm hf2 (by simp;omega) (by simp;omega) (by simp;omega) hx,hsl,fun b hm=>(hr b hm).imp id (fun h1=>by omega),((jM.jD (F:=[q,q2,g]) hb).qA hf).trans hf2 (fun k hk=>.b (by simp at hk;omega))⟩;have h2:=hou.keep hf2 (by simp;omega);exact⟨h2.err,h2.lu,h2.GN,h2.lD,h2.E,h2.n,iH h2.vL hs⟩
def Oc.bad(k:Int):Oc:=⟨k,0,false,0,[],none,0,0⟩
theorem aco(B:Nat)(W:ak)(k:Int):OuR B W (Oc.bad k) {Ia with err:=k}:=⟨rfl,rfl,rfl,rfl,rfl,rfl,fu _ _ _ _⟩
theorem aoy(B:Nat)(W:ak):OuR B W uO Ia:=⟨rfl,rfl,rfl,rfl,rfl,rfl,fu _ _ _ _⟩
theorem Ag.arS(h:Ag W q e s x q2 g sl)(n:Int):Ag (W.F ⟨q,77,none⟩ (.b .a n)) q e {s with fK:=n} ({x with fK:=n}:Eg) q2 g sl:=by
 have hb:=h.b.eg.eX 77 (.b .a n);rw[Eg.aeO]at hb;have:=h.num ((jM.refl [q] W).set ⟨q,77,none⟩ (.b .a n) (.a (by simp))) n x.no x.S hb;rw[h.b.no,h.b.S]at this;have e1:({x with fK:=n,no:=s.no,S:=s.S}:Eg)={x with fK:=n}:=by rw[<-h.b.no,<-h.b.S]
 rw[e1]at this;exact this
theorem ahf{M:Int}(h:Ag W q e s x q2 g sl)(hi:qm M e s)(hM:M<1152921504606846976)(a:At)(u:Ac)(ha:AtR W a u)(hk:u.kind=1):
 aP ah 25 #[.c (some ⟨q,0,none⟩),.d a.ay] W (Yx W q e x q2 g sl (EI e s u.frame)):=by
 have Z0:=ab (((Bx.start W).new a.ay 66).new uO.ay 58);rw[show(W.alloc (.D a.ay 66)).a.j=W.a.j+1 by simp]at Z0;have f0:=(Z0.i.b1.J.1 0).trans (At.DY a);rw[ha.kind,hk]at f0;have f1:=(Z0.i.b1.J.1 1).trans (At.aAI a);have th:=Z0.i.R.K 0 6 (aX (Oc.r uO).symm);have CF:=ab (aeU (h.go Z0.i.O) hi hM a.frA a.Yy a.XG u.frame ha.XG.1 ha.XG.2 (ha.fr.upon Z0.i.O));have hlt:=Z0.i.R.lt;have hqs:=h.b.lt;have H:=ab h;clear h;go_enter Mq,Jc;go_upto_region 1 with fail
 generalize(W.alloc (.D a.ay 66)).alloc (.D uO.ay 58)=w1 at Z0 f0 f1 th CF hlt ⊢;have HQ:=ab hqs;have HL:=ab hlt;clear hqs hlt;go_wp2_with (go_at_call 70;(with_reducible refine CF.i.e ?_);rintro r w2 ⟨o,x',sl',rfl,ho,hE,hsl,hrw,hf⟩;have HO:=ab ho;have HE:=ab hE;have HSL:=ab hsl;have HR:=ab hrw;have HF:=ab hf;have BO:=ab (hf.box Z0.i.R (by have:=HQ.i;simp;omega));have th2:=BO.i.K 0 6 (aX (Oc.r uO).symm);clear ho hE hsl hrw hf);refine aN (kOc.zI rfl _ rfl (BO.i.put o.ay (by rw[Oc.r,Oc.r])) (Oc.r _)) rfl ?_;exact Br H.i Z0.i.O HL.i HO.i HE.i HSL.i HR.i HF.i
theorem arT(h:Ag W q e s x q2 g sl)(a:At)(u:Ac)(ha:AtR W a u)(hk:u.kind≠1/\u.kind≠2/\u.kind≠3/\u.kind≠4):
 aP ah 25 #[.c (some ⟨q,0,none⟩),.d a.ay] W (Yx W q e x q2 g sl (s,{Ia with err:=1})):=by
 have Z0:=ab (((Bx.start W).new a.ay 66).new uO.ay 58);rw[show(W.alloc (.D a.ay 66)).a.j=W.a.j+1 by simp]at Z0;have f0:=(Z0.i.b1.J.1 0).trans (At.DY a);rw[ha.kind]at f0;have th:=Z0.i.R.K 0 6 (aX (Oc.r uO).symm);have hlt:=ab Z0.i.R.lt;have H:=ab h;have k1:(u.kind==1)=false:=by simpa using hk.1
 have k2:(u.kind==2)=false:=by simpa using hk.2.1
 have k3:(u.kind==3)=false:=by simpa using hk.2.2.1
 have k4:(u.kind==4)=false:=by simpa using hk.2.2.2
 clear h hk;go_enter Mq,Jc;go_upto_region 1 with fail
 generalize(W.alloc (.D a.ay 66)).alloc (.D uO.ay 58)=w1 at Z0 f0 th hlt ⊢;go_wp2_with fail;refine aN (kOc.zI rfl _ rfl (Z0.i.R.put (Oc.bad 1).ay (by rw[Oc.r,Oc.r])) (Oc.r _)) rfl ?_;exact Br H.i Z0.i.O hlt.i (aco _ _ 1) (H.i.go Z0.i.O) rfl (fun b hb=>.a hb) (jM.refl _ _)
theorem akS{M:Int}(h:Ag W q e s x q2 g sl)(hi:qm M e s)(a:At)(u:Ac)(ha:AtR W a u)(hk:u.kind=4):
 aP ah 25 #[.c (some ⟨q,0,none⟩),.d a.ay] W (Yx W q e x q2 g sl (SK e s)):=by
 have Z0:=ab (((Bx.start W).new a.ay 66).new uO.ay 58);rw[show(W.alloc (.D a.ay 66)).a.j=W.a.j+1 by simp]at Z0;have f0:=(Z0.i.b1.J.1 0).trans (At.DY a);rw[ha.kind,hk]at f0;have th:=Z0.i.R.K 0 6 (aX (Oc.r uO).symm);have hlt:=ab Z0.i.R.lt;have f77:=((h.b.eg.go Z0.i.O).J.1 77).trans (Eg.UQ x);have g77:=(h.b.eg.go Z0.i.O).J.2.1 77;have H:=ab h;have HI:=ab hi;have hti:=hi.ti;have hxt:=h.b.fK;clear h hi;go_enter Mq,Jc;go_upto_region 1 with fail
 generalize(W.alloc (.D a.ay 66)).alloc (.D uO.ay 58)=w1 at Z0 f0 th hlt f77 g77 ⊢;by_cases hT:1099511627776<=s.fK
 ·have q1:decide (x.fK>=1099511627776)=true:=by simp;omega
  have HU:=ab (show SK e s=(s,{Ia with err:=7})by unfold SK;rw[if_pos hT]);clear hT hti hxt g77;go_wp2_with fail;refine aN (kOc.zI rfl _ rfl (Z0.i.R.put (Oc.bad 7).ay (by rw[Oc.r,Oc.r])) (Oc.r _)) rfl ?_;rw[HU.i];exact Br H.i Z0.i.O hlt.i (aco _ _ 7) (H.i.go Z0.i.O) rfl (fun b hb=>.a hb) (jM.refl _ _)
 ·have q1:decide (x.fK>=1099511627776)=false:=by simp;omega
  have HU:=ab (show SK e s=({s with fK:=x.fK+1,h:=MS (x.fK+1) x.cf.kH s.h},Ia)by unfold SK;rw[if_neg hT,hxt,H.i.b.cf]);have hw:=jW (x.fK+1) (by omega);have E1:=ab ((H.i.go Z0.i.O).arS (x.fK+1));have hf1:jM [q] w1 (w1.F ⟨q,77,none⟩ (.b .a (x.fK+1))):=(jM.refl [q] w1).set ⟨q,77,none⟩ _ (.a (by simp));have HF1:=ab hf1;have B0:=ab (hf1.box Z0.i.R (by have:=H.i.b.lt;simp;omega));clear hT hti hxt hf1;go_upto_region 24 with fail
  clear th f0 f77 g77;generalize w1.F ⟨q,77,none⟩ (.b .a (x.fK+1))=w2 at E1 HF1 B0 ⊢;have KS:=ab (fun(w':ak) (h4:dM w' q ({x with fK:=x.fK+1}:Eg).ay)=>show w'.b ⟨q,74,none⟩=some (.c (some ⟨q2,0,none⟩))/\w'.b ⟨q,77,none⟩=some (.b .a (x.fK+1))/\(Xx (.c (some ⟨q,19,none⟩))).G ah w' = .Y (.d (Lj x.cf.kH)) w' from
   ⟨by
    rw[h4.J.1 74,Eg.aan];show some (sO (x.fl.map fun b=>⟨b,0,none⟩))=_;rw[H.i.b.fl];rfl,(h4.J.1 77).trans (Eg.UQ _),kI6.Ed h4 19 (Eg.UF _) (by rw[Eg.r];omega)⟩)
  have CU:=ab (aeG (E1.i.go (iC _)).b.h (x.fK+1) x.cf.kH);obtain⟨k1,k2,k3⟩:=KS.i _ (E1.i.b.eg.go (iC _));go_region_held_law (fun w'=>w'.b ⟨q,74,none⟩=some (.c (some ⟨q2,0,none⟩))/\w'.b ⟨q,77,none⟩=some (.b .a (x.fK+1))/\(Xx (.c (some ⟨q,19,none⟩))).G ah w' = .Y (.d (Lj x.cf.kH)) w')
   (first|exact KS.i _ (E1.i.b.eg.go (iC _))|exact KS.i _ BQ.i|go_keep)
   (first|(go_at_call 75;(with_reducible refine CU.i.e ?_);rintro r w3 ⟨⟨A5,c5,rfl⟩,⟨sl',ht,hsl⟩,hf⟩;have HTB:=ab ht;have HSL:=ab hsl;have HF:=ab hf;have BQ:=ab (jM.box hf (E1.i.b.eg.go (iC _)) (by have h1:=H.i.b.nq;simp;omega));have B2:=ab (jM.box hf (B0.i.go (iC _)) (by have h1:=H.i.b.lt;simp;omega));clear hf ht hsl))
  have th:=B2.i.K 0 6 (aX (Oc.r uO).symm);have E2:=ab (Ag.rH (E1.i.go (iC _)) HF.i HTB.i HSL.i);go_wp2_with fail;refine aN (kOc.zI rfl _ rfl (B2.i.put uO.ay rfl) (Oc.r _)) rfl ?_;rw[HU.i];exact Br H.i Z0.i.O hlt.i (aoy _ _) E2.i HSL.i (fun b hb=>.a hb) (((HF1.i.lN (F':=[q,q2,g]) (by simp)).qA (jM.jD (iC _))).qA (HF.i.lN (by simp)))
end
section
variable {W W':ak} {q:Nat} {e:En} {s:rE} {x:Eg} {q2 g:Nat} {sl:List (Option Fw)}
theorem ahg{x:Hl}{well:Bool}{r f:Int}:(vk x well r f).1.E=x.E/\((vk x well r f).2=false->(vk x well r f).1.down=x.down):=by
 unfold vk
 repeat' split
 all_goals simp
theorem aar:∀(l:List Hl)(k:Nat)(y:Hl),k<l.a->y.E=(l.b k kQ).E->y.down=(l.b k kQ).down->oC (l.set k y)=oC l
 | [],_,_,h,_,_=>by cases h
 | a::l,0,y,_,h1,h2=>by
   unfold oC;simp only[List.getD_cons_zero]at h1 h2;simp only[bR,List.filter_cons,h2];split<;>simp[h1]
 | a::l,k+1,y,h,h1,h2=>by
   have ih:=aar l k y (by simpa using h) (by simpa using h1) (by simpa using h2);unfold oC at ih ⊢;simp only[bK,List.filter_cons];split<;>simp[ih]
theorem ahh{l:List Hl}{n:List UInt8}{well:Bool}{r f:Int}(h:(Lm l n well r f).2.1=false):oC (Lm l n well r f).1=oC l:=by
 unfold Lm at h ⊢;split
 ·rfl
 ·rename_i hp
  rw[if_neg hp]at h;have hk:=ahg (x:=l.b (zT l n).g kQ) (well:=well) (r:=r) (f:=f);by_cases hl:(zT l n).g<l.a
  ·exact aar l _ _ hl hk.1 (hk.2 h)
  ·simp only
   rw[List.set_eq_of_length_le (by omega)]
theorem akT(l:List Hl)(s:List UInt8)(a:Bool)(b c:Int):(Lm l s a b c).1.a=l.a:=by
 unfold Lm;split
 ·rfl
 ·simp
theorem Ry{A:Option aT}{n c:Nat}{b:Nat}(h:b∈sI ({x with Qh:=A,EK:=n,Uq:=c}:Eg)):b∈sI x\/b∈wM A:=by
 rcases dX.1 h with h|h|h|h|h|h
 ·exact .a (dX.2 (.a h))
 ·exact .a (dX.2 (.b (.a h)))
 ·exact .b h
 ·exact .a (dX.2 (.b (.b (.b (.a h)))))
 ·exact .a (dX.2 (.b (.b (.b (.b (.a h))))))
 ·exact .a (dX.2 (.b (.b (.b (.b (.b h))))))
theorem Ni.arU{A:Option aT}{n c:Nat}{Ke:List Hl}(h:Ni W q e s x q2 g sl)(hR:iE Hl.ay 3 W' W'.a.j A n Ke)(hf:jM [q] W W')(hb:dM W' q ({x with Qh:=A,EK:=n,Uq:=c}:Eg).ay)(hA:∀b∈wM A,W.a.j<=b/\b<W'.a.j):Ni W' q e {s with r:=Ke} ({x with Qh:=A,EK:=n,Uq:=c}:Eg) q2 g sl:=by
 have o:∀b,b∈sI x->b∉[q]:=fun b hm=>h.i hm
 have hs:=hf.j;have hq:=h.nq;have hlt:=h.lt;refine⟨hb,h.key,h.cf,h.lD,h.vs.keep hf (fun b hm=>o b (dX.2 (.a hm))),h.bk.keep hf (fun b hm=>o b (dX.2 (.b (.a hm)))),hR,h.fl,h.h.keep hf (by simp;omega) (by simp;omega),h.rm,h.nq,fun b hm=>?_,h.fK,h.no,h.S⟩;rcases Ry hm with hm|hm
 ·have:=h.Nj b hm;omega
 ·have:=hA b hm;omega
theorem Ag.arU{A:Option aT}{n c:Nat}{Ke:List Hl}(h:Ag W q e s x q2 g sl)(hR:iE Hl.ay 3 W' W'.a.j A n Ke)(hf:jM [q] W W')(hb:dM W' q ({x with Qh:=A,EK:=n,Uq:=c}:Eg).ay)(hA:∀b∈wM A,W.a.j<=b/\b<W'.a.j)(hd:oC Ke=oC s.r):Ag W' q e {s with r:=Ke} ({x with Qh:=A,EK:=n,Uq:=c}:Eg) q2 g sl:=by
 have o:∀b,b∈sI x->b∉[q]:=fun b hm=>h.b.i hm
 refine⟨h.b.arU hR hf hb hA,?_,?_⟩
 ·have:=h.dn.keep hf (fun b hm=>o b (dX.2 (.b (.b (.b (.a hm))))))
  rw[<-hd]at this;exact this
 ·have:=h.tt.keep hf (fun b hm=>o b (dX.2 (.b (.b (.b (.b (.a hm))))))) (fun b hm=>o b (dX.2 (.b (.b (.b (.b (.b hm)))))))
  have he:Af e {s with r:=Ke}=Af e s:=by unfold Af;simp only;rw[hd]
  rw[<-he]at this;exact this
theorem akU{M:Int}(h:Ag W q e s x q2 g sl)(hi:qm M e s)(a:At)(u:Ac)(ha:AtR W a u)(hk:u.kind=3):
 aP ah 25 #[.c (some ⟨q,0,none⟩),.d a.ay] W (Yx W q e x q2 g sl (SI e s u.E u.well)):=by
 have Z0:=ab (((Bx.start W).new a.ay 66).new uO.ay 58);rw[show(W.alloc (.D a.ay 66)).a.j=W.a.j+1 by simp]at Z0;have f0:=(Z0.i.b1.J.1 0).trans (At.DY a);rw[ha.kind,hk]at f0;have hlt:=ab Z0.i.R.lt;have H:=ab h;have HI:=ab hi;have HA:=ab (show a.E=u.E/\a.well=u.well from⟨ha.E,ha.well⟩);have hnn:=tC hi.cn;obtain⟨st,hst⟩:=bZ (Lm s.r u.E u.well x.cf.kF x.cf.S);have hcr:x.cf.kF=e.c.kF/\x.cf.S=e.c.S:=by rw[h.b.cf];exact⟨rfl,rfl⟩
 have HST:=ab (show st=Lm s.r u.E u.well e.c.kF e.c.S by rw[hst,hcr.1,hcr.2]);have CS:=ab (fun(w:ak) (hb:aL W.a.j W w)=>apS s.r u.E u.well x.cf.kF x.cf.S x.Qh x.EK x.Uq w (h.b.hl.go hb) (fun y hy=>by have h1:=hi.hl y hy;unfold asx;split at h1<;>omega) (by have h1:=h.b.hl.1;have h2:=hi.Uz;omega));rw[<-hst]at CS;unfold ayl at CS;clear h hi hst hcr hnn;obtain⟨Ke,turned,er⟩:=st;simp only at CS;go_enter Mq,Jc;go_upto_region 1 with fail
 generalize(W.alloc (.D a.ay 66)).alloc (.D uO.ay 58)=w1 at Z0 f0 hlt ⊢;go_upto_region 13 with fail
 have KS:=ab (fun(w':ak) (h1:dM w' W.a.j a.ay) (h4:dM w' q x.ay)=>show w'.b ⟨q,72,none⟩=some (.a x.Qh x.EK x.Uq)/\w'.b ⟨W.a.j,32,none⟩=some (.g (bP u.E))/\w'.b ⟨W.a.j,33,none⟩=some (.e u.well)/\w'.b ⟨q,25,none⟩=some (.b .a x.cf.kF)/\w'.b ⟨q,26,none⟩=some (.b .a x.cf.S)from
  ⟨(h4.J.1 72).trans (Eg.aam _),by rw[h1.J.1 32,At.Ea,HA.i.1],by rw[h1.J.1 33,At.arR,HA.i.2],(h4.J.1 25).trans (Eg.OL _),(h4.J.1 26).trans (Eg.OO _)⟩)
 go_region_held_law (fun w'=>w'.b ⟨q,72,none⟩=some (.a x.Qh x.EK x.Uq)/\w'.b ⟨W.a.j,32,none⟩=some (.g (bP u.E))/\w'.b ⟨W.a.j,33,none⟩=some (.e u.well)/\w'.b ⟨q,25,none⟩=some (.b .a x.cf.kF)/\w'.b ⟨q,26,none⟩=some (.b .a x.cf.S))
  (first|exact KS.i _ Z0.i.drew.b1 (H.i.b.eg.go Z0.i.drew.O)|exact KS.i _ Z1.i.b1 (H.i.b.eg.go Z1.i.O)|go_keep)
  (first|(go_at_call 74;(with_reducible refine(CS.i _ Z0.i.drew.O).e ?_);rintro r w2 ⟨A5,c5,rfl,ho,hb⟩;have HO:=ab ho;have Z1:=ab (Z0.i.drew.go hb);have HSZ:=ab (show w1.a.j<=w2.a.j from hb.j);have HB2:=ab (show aL w1.a.j w1 w2 from(iC w1).trans hb);clear hb ho))
 have HO:=ab (show w2.c w1.a.j 100 3 (.a A5 x.EK c5) x.EK (xB Ke)from HO.i);have th:=Z1.i.R.K 0 6 (aX (Oc.r uO).symm);by_cases her:er=0
 case neg=>
  have q1:(er != 0)=true:=by simpa using her
  have HU:=ab (show SI e s u.E u.well=(s,{Ia with err:=er})by unfold SI;rw[<-HST.i];simp only;rw[if_neg her]);clear her;go_wp2_with fail;refine aN (kOc.zI rfl _ rfl (Z1.i.R.put (Oc.bad er).ay (by rw[Oc.r,Oc.r])) (Oc.r _)) rfl ?_;rw[HU.i];exact Br H.i Z1.i.O (eF hlt.i HSZ.i) (aco _ _ er) (H.i.go Z1.i.O) rfl (fun b hb=>.a hb) (jM.refl _ _)
 obtain rfl:=her;have HU:=ab (show SI e s u.E u.well=({s with r:=Ke},Ia)by unfold SI;rw[<-HST.i];simp);have HIV:=ab (show qm M e {s with r:=Ke}by have:=aep HI.i u.E u.well;rw[HU.i]at this;exact this);have g72:=(H.i.b.eg.go Z1.i.O).J.2.1 72;have hb3:=(H.i.b.eg.go Z1.i.O).eX 72 (.a A5 x.EK c5);rw[Eg.aha]at hb3;have hf3:jM [q] w2 (w2.F ⟨q,72,none⟩ (.a A5 x.EK c5)):=(jM.refl [q] w2).set ⟨q,72,none⟩ _ (.a (by simp));have HHB:=ab hb3;have HHF:=ab hf3;have B3:=ab (hf3.box Z1.i.R (by have:=H.i.b.lt;simp;omega));have HFR:=ab (lF HO.i);have HLN:=ab (show Ke.a=x.EK by
  have h1:=congrArg (fun r=>r.1.a) HST.i;simp only[akT]at h1;rw[h1];exact H.i.b.hl.1)
 have RH:=ab (show iE Hl.ay 3 (w2.F ⟨q,72,none⟩ (.a A5 x.EK c5)) (w2.F ⟨q,72,none⟩ (.a A5 x.EK c5)).a.j A5 x.EK Ke from(iE.iG HLN.i HO.i).keep hf3 (fun b hb=>by have:=HFR.i b hb;have:=H.i.b.lt;have:=Z1.i.O.j;have:=HSZ.i;have:=Z0.i.O.j;simp;omega));have HWS:(w2.F ⟨q,72,none⟩ (.a A5 x.EK c5)).a.j=w2.a.j:=by simp[iq]
 have HWZ:=ab HWS;have HFA:=ab ((jM.jD (F:=[q]) Z1.i.O).qA hf3);have EP:=ab (show W.a.j<=w1.a.j from Z0.i.O.j);have ahi:=ab ((jM.jD (F:=[q]) HB2.i).qA hf3);have HBA:=ab (show∀b∈wM A5,w1.a.j<=b/\b<(w2.F ⟨q,72,none⟩ (.a A5 x.EK c5)).a.j from fun b hb=>by rw[HWS];exact HFR.i b hb);cases turned with
 | false=>
   have HD:=ab (show oC Ke=oC s.r by have:=ahh (l:=s.r) (n:=u.E) (well:=u.well) (r:=e.c.kF) (f:=e.c.S) (by rw[<-HST.i]);rw[<-HST.i]at this;exact this);have E3:=ab ((H.i.go Z0.i.O).arU RH.i ahi.i hb3 HBA.i HD.i);clear hf3 hb3 th HWS;have th3:=B3.i.K 0 6 (aX (Oc.r uO).symm);go_upto_region 17 with fail
   generalize w2.F ⟨q,72,none⟩ (.a A5 x.EK c5)=w3 at E3 HHF HFA ahi HBA B3 th3 HWZ RH HHB ⊢;go_wp2_with fail;refine aN (kOc.zI rfl _ rfl (B3.i.put uO.ay rfl) (Oc.r _)) rfl ?_;rw[HU.i];exact Br H.i Z0.i.O hlt.i (aoy _ _) E3.i rfl (fun b hb=>(Ry hb).imp id (fun h=>(HBA.i b h).1)) (ahi.i.lN (by simp))
 | true=>
   have E3:=ab ((H.i.go Z0.i.O).b.arU RH.i ahi.i hb3 HBA.i);clear hf3 hb3 th HWS;go_upto_region 17 with fail
   generalize w2.F ⟨q,72,none⟩ (.a A5 x.EK c5)=w3 at E3 HHF HFA ahi HBA B3 HWZ RH HHB ⊢;have CB:=ab (Kc E3.i HIV.i);unfold ace at CB;go_upto_region 19 with(go_at_call 64;(with_reducible refine CB.i.e ?_);rintro r w4 ⟨rfl,⟨x',hE,hrw⟩,hf⟩;have HE:=ab hE;have HRW:=ab hrw;have HF:=ab hf;have B4:=ab (hf.box B3.i (by have:=H.i.b.lt;simp;omega));have th4:=B4.i.K 0 6 (aX (Oc.r uO).symm);clear hE hrw hf)
   go_wp2_with fail;refine aN (kOc.zI rfl _ rfl (B4.i.put uO.ay rfl) (Oc.r _)) rfl ?_;rw[HU.i];refine Br H.i Z0.i.O hlt.i (aoy _ _) HE.i rfl (fun b hb=>?_) ((ahi.i.qA HF.i).lN (by simp));rcases HRW.i b hb with h1|h1
   ·exact(Ry h1).imp id (fun h=>(HBA.i b h).1)
   ·exact .b (aO ahi.i.j h1)
end
section
variable {W W':ak} {q:Nat} {e:En} {s:rE} {x:Eg} {q2 g:Nat} {sl:List (Option Fw)}
@[go_sem]theorem aAL(W:ak)(k:Int):(uW 58 #[(3,.b .a k)]).G ah W = .Y (.d (Oc.mk 0 0 false k [] none 0 0).ay) W:=kOc.bd W _ _ _ _ kS (aoq W _ kS) (by
 refine(iB rfl rfl (by rw[Oc.r];omega) (Oc.atd _ _)).trans ?_;rfl)
theorem dM.av'{W:ak}{b o:Nat}{c:Array aB}{t:su}(h:dM W b c)(hc:c.m o (o+30)=t.ay)(hs:o+30<=c.j):(Og (.c (some ⟨b,o,none⟩))).G ah W = .Y (.d t.ay) W:=by
 obtain⟨_,_,h3,h4⟩:=h.J;rw[aml W b o (by rw[h3 o 30 (by unfold eB;omega)];trivial),h4 o 30 (by unfold eB;omega),hc]
theorem aeV{F:List Nat}{B n c sz:Nat}{T:bE}{A:Option aT}{xs:List aB}(h:W.c B T sz (.a A n c) n xs)(hf:jM F W W')(hF:∀b∈F,b<B):W'.c B T sz (.a A n c) n xs:=Bo h hf (fun k hk hm=>by
 have h2:k∈wM A:=by
  cases hA:A with
  | none=>rw[hA]at hk;cases hk
  | some a=>rw[hA]at hk;exact Ec.2 ⟨a,rfl,by simpa[jy]using hk⟩
 have h3:=(lF h k h2).1;have:=hF k hm;omega)
theorem Eg.aAM(h:dM W q x.ay)(pc:Pc):dM (gX W q 70 pc.ay) q ({x with pl:=pc}:Eg).ay:=by
 have:=h.setCells 70 pc.ay.a;rw[show pc.ay.a.c=pc.ay by simp,Eg.aof]at this;exact this
theorem dM.arE{b:Nat}{pc:Pc}(h:dM W b pc.ay):(yY 32 (.c (some ⟨b,0,none⟩))).G ah W = .Y (.d pc.ay) W:=by
 have:=kPc.Ed h 0 (d:=pc.ay) (by have:=Pc.r pc;rw[<-this];simp) (by rw[Pc.r];omega);exact this
theorem qm.arV{M:Int}(h:qm M e s):∀y∈s.r,y.E.a<=100000:=fun y hy=>by
 have h1:y.E∈s.qO.map (·.E):=by rw[<-h.nm];exact iZ.2 ⟨y,hy,rfl⟩
 obtain⟨z,hz,h2⟩:=iZ.1 h1;have h3:=h.Uz.2.2 z hz;rw[<-h2];omega
theorem aoz{w4 w5 w6:ak}{mR:List Hl}{A:Option aT}{c:Nat}(h1:aL w4.drew.a.j w4.drew w5)(h2:aL w5.a.j w5 w6)(hq:q<w4.a.j)(Q:dM w6 q x.ay)(O:w6.c w5.a.j 100 3 (.a A mR.a c) mR.a (xB mR)):
 ∃A2 n2 c2,dM (w6.F ⟨q,72,none⟩ (.a A mR.a c)) q ({x with Qh:=A2,EK:=n2,Uq:=c2}:Eg).ay/\iE Hl.ay 3 (w6.F ⟨q,72,none⟩ (.a A mR.a c)) (w6.F ⟨q,72,none⟩ (.a A mR.a c)).a.j A2 n2 mR/\(∀b∈wM A2,w4.a.j<=b/\b<(w6.F ⟨q,72,none⟩ (.a A mR.a c)).a.j)/\jM [q] w4 (w6.F ⟨q,72,none⟩ (.a A mR.a c)):=by
 have s1:w4.a.j<=w5.a.j:=h1.j;have hf:jM [q] w6 (w6.F ⟨q,72,none⟩ (.a A mR.a c)):=(jM.refl [q] w6).set ⟨q,72,none⟩ _ (.a (by simp));have hb:=Q.eX 72 (.a A mR.a c);rw[Eg.aha]at hb;have hfr:=lF O;refine⟨A,mR.a,c,hb,(iE.iG rfl O).keep hf (fun b hm=>by have:=hfr b hm;simp;omega),fun b hm=>?_,(((jM.jD (F:=[q]) (iC w4)).qA (jM.jD h1)).qA (jM.jD h2)).qA hf⟩;have:=hfr b hm;have e1:(w6.F ⟨q,72,none⟩ (.a A mR.a c)).a.j=w6.a.j:=by simp[iq]
 rw[e1];omega
theorem aas{p:Pc}{A:Option aT}{n c:Nat}{b:Nat}(h:b∈sI ({x with pl:=p,Qh:=A,EK:=n,Uq:=c}:Eg)):b∈sI x\/b∈wM p.rA\/b∈wM A:=by
 rcases dX.1 h with h|h|h|h|h|h
 ·exact .a (dX.2 (.a h))
 ·exact .b (.a h)
 ·exact .b (.b h)
 ·exact .a (dX.2 (.b (.b (.b (.a h)))))
 ·exact .a (dX.2 (.b (.b (.b (.b (.a h))))))
 ·exact .a (dX.2 (.b (.b (.b (.b (.b h))))))
theorem Ni.aFG{p:Pc}{A:Option aT}{n c:Nat}{l:List Bk}{Ke:List Hl}(h:Ni W q e s x q2 g sl)(hP:iE Bk.ay 27 W' W'.a.j p.rA p.rN l)(hR:iE Hl.ay 3 W' W'.a.j A n Ke)(hf:jM [q] W W')(hb:dM W' q ({x with pl:=p,Qh:=A,EK:=n,Uq:=c}:Eg).ay)(hA:∀b,b∈wM p.rA\/b∈wM A->W.a.j<=b/\b<W'.a.j):Ni W' q e {s with lD:=p.lD,qO:=l,r:=Ke} ({x with pl:=p,Qh:=A,EK:=n,Uq:=c}:Eg) q2 g sl:=by
 have o:∀b,b∈sI x->b∉[q]:=fun b hm=>h.i hm
 have hs:=hf.j;have hq:=h.nq;have hlt:=h.lt;refine⟨hb,h.key,h.cf,rfl,h.vs.keep hf (fun b hm=>o b (dX.2 (.a hm))),hP,hR,h.fl,h.h.keep hf (by simp;omega) (by simp;omega),h.rm,h.nq,fun b hm=>?_,h.fK,h.no,h.S⟩;rcases aas hm with hm|hm
 ·have:=h.Nj b hm;omega
 ·have:=hA b hm;omega
def DoP(w:ak)(v:Int)(l:List Bk)(er:Int)(r:lU)(w':ak):Prop:=
 ∃A c,r=.a (.I #[.d (Pc.mk v A l.a c).ay,.b .a er])/\w'.c w.a.j 62 27 (.a A l.a c) l.a (dK l)/\aL w.a.j w w'
theorem aAN{M:Int}(h:Ag W q e s x q2 g sl)(hi:qm M e s)(hv:s.lD<9223372036854775807/\-9223372036854775808<=s.lD)(o:su)(hf:o.bk.oQ)(hw:o.w<18446744073709551616){w:ak}(hb:aL W.a.j W w):
 aP ah 71 #[.d x.pl.ay,.d o.ay] w (DoP w (doV s.lD s.qO o) (doL s.lD s.qO o) (qL s.lD s.qO o)):=by
 have h1:=h.b.bk.go hb;have hn:=h.b.bk.1;have aaK:=hi.Uz;have:=at5 s.qO hi.srt s.lD ⟨hv.2,hv.1⟩ o hf hw x.pl.rA x.pl.rC w (by rw[hn];exact h1) (by omega);rw[hn]at this;have e1:x.pl.ay = #[.b .a s.lD,.a x.pl.rA x.pl.rN x.pl.rC]:=by unfold Pc.ay;rw[h.b.lD]
 rw[e1];exact this
theorem arW{M:Int}(h:Ag W q e s x q2 g sl)(hi:qm M e s)(a:At)(u:Ac)(ha:AtR W a u)(hk:u.kind=2)(hof:u.op.bk.oQ)(how:u.op.w<18446744073709551616):
 aP ah 25 #[.c (some ⟨q,0,none⟩),.d a.ay] W (Yx W q e x q2 g sl (opE s u.op)):=by
 have Z0:=ab (((Bx.start W).new a.ay 66).new uO.ay 58);rw[show(W.alloc (.D a.ay 66)).a.j=W.a.j+1 by simp]at Z0;have f0:=(Z0.i.b1.J.1 0).trans (At.DY a);rw[ha.kind,hk]at f0;have hlt:=ab Z0.i.R.lt;have H:=ab h;have HI:=ab hi;have HA:=ab ha.op;have CD:=ab (fun(w:ak) (hb:aL W.a.j W w)=>aAN h hi (by obtain⟨p1,p2,_⟩:=xC.1 hi.pl;omega) u.op hof how hb);unfold DoP at CD;obtain⟨v,hv⟩:=bZ (doV s.lD s.qO u.op);obtain⟨l,hl⟩:=bZ (doL s.lD s.qO u.op);obtain⟨er,her⟩:=bZ (qL s.lD s.qO u.op);rw[<-hv,<-hl,<-her]at CD;have HV:=ab hv;have HL:=ab hl;have HE:=ab her;clear h hi hv hl her;go_enter Mq,Jc;go_upto_region 1 with fail
 generalize(W.alloc (.D a.ay 66)).alloc (.D uO.ay 58)=w1 at Z0 f0 hlt ⊢;go_upto_region 5 with fail
 have KS:=ab (fun(w':ak) (h1:dM w' W.a.j a.ay) (h2:aL W.a.j W w')=>show(yY 32 (.c (some ⟨q,70,none⟩))).G ah w' = .Y (.d x.pl.ay) w'/\(Og (.c (some ⟨W.a.j,2,none⟩))).G ah w' = .Y (.d u.op.ay) w' from
  ⟨H.i.b.ahc h2,h1.av' (o:=2) (by rw[<-HA.i];exact At.aAJ a) (by rw[At.r];omega)⟩)
 go_cut [5,6]from 21 to 29 (fun s5 s6 wx=>∃y A c,s5=.c (some ⟨y,0,none⟩)/\s6=.b .a er/\w1.a.j<=y/\Bx [(y,(Pc.mk v A l.a c).ay),(W.a.j+1,uO.ay),(W.a.j,a.ay)] W wx/\wx.c w1.a.j 62 27 (.a A l.a c) l.a (dK l)/\aL w1.a.j w1 wx)
 case first=>
  have ZP:=ab ((Z0.i.new Yu.ay 32).drew);go_region_held_law (fun w'=>(yY 32 (.c (some ⟨q,70,none⟩))).G ah w' = .Y (.d x.pl.ay) w'/\(Og (.c (some ⟨W.a.j,2,none⟩))).G ah w' = .Y (.d u.op.ay) w')
   (first|exact KS.i _ ZP.i.b2 ZP.i.O|exact KS.i _ Z0.i.b1 Z0.i.O|exact KS.i _ Z0.i.drew.b1 Z0.i.drew.O|exact KS.i _ (Z0.i.new Yu.ay 32).b2 (Z0.i.new Yu.ay 32).O|exact KS.i _ Z1.i.b2 Z1.i.O|exact KS.i _ Z2.i.b1 Z2.i.O|exact KS.i _ (Z2.i.new Yu.ay 32).b2 (Z2.i.new Yu.ay 32).O|exact KS.i _ ZQ.i.b2 ZQ.i.O|exact KS.i _ ZN.i.b2 ZN.i.O|go_keep)
   (first|(go_at_call 71;(with_reducible refine(CD.i _ ZP.i.O).e ?_);rintro r w2 ⟨A5,c5,rfl,ho,hb⟩;have HO:=ab ho;have Z1:=ab (ZP.i.go hb);have HB2:=ab hb;have thp:=Z1.i.R.K 0 2 (aX (Pc.r Yu).symm);have ZQ:=ab (Z1.i.put (fun p hp=>jQ (Z0.i.2 p hp).2.lt) (Pc.mk v A5 l.a c5).ay (by rw[Pc.r,Pc.r]));clear hb ho)|(go_at_call 71;(with_reducible refine(CD.i _ Z0.i.drew.O).e ?_);rintro r w2 ⟨A5,c5,rfl,ho,hb⟩;have HO:=ab ho;have Z2:=ab (Z0.i.drew.go hb);have ZN:=ab (Z2.i.new (Pc.mk v A5 l.a c5).ay 32);have HB2:=ab hb;clear hb ho))
  ·go_wp2_with fail
   go_meet
   case rel=>exact⟨w2.a.j,A5,c5,rfl,rfl,HB2.i.j,ZN.i,Bo HO.i (jM.jD (F:=[]) ((aG _ _).alloc (av _) _)) (fun k hk hm=>by cases hm),((iC w1).trans HB2.i).alloc HB2.i.j _⟩
  ·go_wp2_with fail
   go_meet
   case rel=>exact⟨w1.a.j,A5,c5,rfl,rfl,av _,ZQ.i,iH (aeV HO.i (yO w2 w1.a.j 0 _) (by simp)) (by simp),lI (((aG w1.a.j w1).alloc (av _) _).trans (((iC _).trans HB2.i).e (by simp))) w1.a.j 0 _ (av _)⟩
 obtain⟨y,A,c,rfl,rfl,hy,Z3,hO,hB⟩:=hcut;have Z3:=ab Z3;have HO:=ab hO;have HB:=ab hB;have HY:=ab hy;clear hO hB hy CD;generalize wc=w3 at Z3 HO HB ⊢;have th:=Z3.i.b1.K 0 6 (aX (Oc.r uO).symm);by_cases h0:er=0
 case neg=>
  have q1:(er != 0)=true:=by simpa using h0
  have HU:=ab (show opE s u.op=(s,{Ia with err:=er})by unfold opE;rw[<-HE.i,if_neg h0]);clear h0;go_wp2_with fail;refine aN (kOc.zI rfl _ rfl (Z3.i.b1.put (Oc.bad er).ay (by rw[Oc.r,Oc.r])) (Oc.r _)) rfl ?_;rw[HU.i];exact Br H.i Z3.i.O (eF hlt.i HB.i.j) (aco _ _ er) (H.i.go Z3.i.O) rfl (fun b hb=>.a hb) (jM.refl _ _)
 obtain rfl:=h0;have HU:=ab (show opE s u.op=({s with lD:=v,qO:=l,r:=Fx s.r (l.map (·.E))},{Ia with lD:=v})by unfold opE;rw[<-HE.i,if_pos rfl,<-HV.i,<-HL.i]);have HIV:=ab (show qm M e {s with lD:=v,qO:=l,r:=Fx s.r (l.map (·.E))}by have:=anv HI.i u.op hof how;rw[HU.i]at this;exact this);have hq:=H.i.b.lt;have hyw:W.a.j+1<y:=eF hlt.i HY.i;have EB:=H.i.b.eg.go Z3.i.O;have th2:=EB.K 70 2 (by rw[Eg.r];omega);have lp:=Z3.i.R.arE;have HB4:=ab (Eg.aAM EB (Pc.mk v A l.a c));go_upto_region 9 with fail
 have hrw:=H.i.b.Nj;have F4:=ab (yO w3 q 70 (Pc.mk v A l.a c).ay);have BY:=ab (F4.i.box Z3.i.R (by simp;omega));have B4:=ab (F4.i.box Z3.i.b1 (by simp;omega));have O4:=ab (aeV HO.i F4.i (by have:=Z0.i.O.j;simp;omega));have HR4:=ab ((H.i.b.hl.go Z3.i.O).keep F4.i (fun b hb=>by have:=hrw b (dX.2 (.b (.b (.a hb))));simp;omega));have HF:=ab HIV.i.Uz;have HNN:=ab HI.i.arV;have HNM:=ab (show∀z∈l.map (·.E),z.a<=100000 from fun z hz=>by
  obtain⟨b,hb,rfl⟩:=iZ.1 hz;have:=HF.i.2.2 b hb;omega)
 have HLE:=ab (show x.EK<=100000 by have h1:=H.i.b.hl.1;have h2:=HI.i.Uz;omega);have HQ3:=ab (show q<w3.a.j by have:=Z3.i.O.j;omega);clear hq hyw EB th2 lp hrw th f0;generalize gX w3 q 70 (Pc.mk v A l.a c).ay=w4 at HB4 F4 BY B4 O4 HR4 ⊢;have HQ4:=ab (show q<w4.a.j from eF HQ3.i F4.i.j);have CN:=ab (aeP l v A l.a c w4.drew ((iE.iG rfl O4.i).go (iC _)) (by have:=HF.i.1;simp at this;omega));have f72:=((HB4.i.go (iC _)).J.1 72).trans (Eg.aam _);have lp:=(BY.i.go (iC _)).arE;go_cut []from 38 to 47 (fun wx=>∃A2 n2 c2,dM wx q ({x with pl:=Pc.mk v A l.a c,Qh:=A2,EK:=n2,Uq:=c2}:Eg).ay/\iE Hl.ay 3 wx wx.a.j A2 n2 (Fx s.r (l.map (·.E)))/\(∀b∈wM A2,w4.a.j<=b/\b<wx.a.j)/\jM [q] w4 wx)
 case first=>
  go_region_with (first
   | (go_at_call 73;(with_reducible refine CN.i.e ?_);rintro r w5 ⟨A2,n2,c2,rfl,hR,hb⟩;have HN5:=ab hR;have B5:=ab hb;have Y5:=ab ((BY.i.go (iC _)).go hb);have Q5:=ab ((HB4.i.go (iC _)).go hb);have aMl:=(Q5.i.J.1 72).trans (Eg.aam _);have lp5:=Y5.i.arE;have CY:=ab (amH s.r (l.map (·.E)) x.Qh x.EK x.Uq A2 n2 c2 w5 ((HR4.i.go (iC _)).go hb) hR HLE.i (by have h1:=hR.1;have h2:=HF.i.1;simp at h1 h2;omega) HNN.i HNM.i);clear hR hb)
   | (go_at_call 72;(with_reducible refine CY.i.e ?_);rintro r w6 ⟨A6,c6,rfl,ho,hb⟩;have O6:=ab ho;have B6:=ab hb;have Y6:=ab (Y5.i.go hb);have Q6:=ab (Q5.i.go hb);have g72:=Q6.i.J.2.1 72;have aMm:=(Q6.i.J.1 72).trans (Eg.aam _);have Y7:=ab (((jM.refl [q] w6).set ⟨q,72,none⟩ (.a A6 (Fx s.r (l.map (·.E))).a c6) (.a (by simp))).box Y6.i (by have h1:=H.i.b.lt;have h2:=hlt.i;have h3:=HY.i;simp;omega));clear ho hb))
  all_goals go_wp2_with fail
  all_goals go_meet
  all_goals(have hs:=aoz (x:=({x with pl:=Pc.mk v A l.a c}:Eg)) B5.i B6.i HQ4.i Q6.i O6.i;exact hs)
 obtain⟨A2,n2,c2,hb5,hr5,awc,hf5⟩:=hcut;have s1:=HB.i.j;have F34:jM [q] w1 wc:=((jM.jD (F:=[q]) HB.i).qA F4.i).qA hf5;have hq1:=H.i.b.lt;have s0:=Z0.i.O.j;have hOf:=lF O4.i;have E5:=ab ((H.i.go Z0.i.O).b.aFG (p:=Pc.mk v A l.a c) (((iE.iG rfl O4.i)).keep hf5 (fun b hb=>by have:=hOf b hb;simp;omega)) hr5 F34 hb5 (fun b hb=>by
  rcases hb with hb|hb
  ·have h1:=hOf b hb;have h2:=hf5.j;omega
  ·have h1:=awc b hb;have h2:=F4.i.j;omega))
 have aFI:=ab awc;have HOF:=ab hOf;have aAO:=ab F34;have hyw:W.a.j+1<y:=eF hlt.i HY.i;have Y5:=ab (hf5.box BY.i (by simp;omega));have U5:=ab (hf5.box B4.i (by simp;omega));have CB:=ab (Kc (show Ni wc q e {s with lD:=v,qO:=l,r:=Fx s.r (l.map (·.E))} _ q2 g sl from E5.i) HIV.i);unfold ace at CB;have HS4:=ab (show w1.a.j<=w4.a.j from aO HB.i.j F4.i.j);have HYW:=ab hyw;clear awc hOf F34 hyw hf5 hb5 hr5 s1 s0 hq1 CN f72 lp;go_upto_region 11 with(go_at_call 64;(with_reducible refine CB.i.e ?_);rintro r w7 ⟨rfl,⟨x',hE,hrw⟩,hf⟩;have HEE:=ab hE;have HRW:=ab hrw;have HF7:=ab hf;have Y7:=ab (hf.box Y5.i (by have h1:=H.i.b.lt;have h2:=HYW.i;simp;omega));have U7:=ab (hf.box U5.i (by have h1:=H.i.b.lt;simp;omega));clear hE hrw hf)
 have fv:=(Y7.i.J.1 0).trans (Pc.acd _);have th:=U7.i.K 0 6 (aX (Oc.r uO).symm);go_wp2_with fail;refine aN (kOc.zI rfl _ rfl (U7.i.put (Oc.mk 0 0 false v [] none 0 0).ay (by rw[Oc.r,Oc.r])) (Oc.r _)) rfl ?_;rw[HU.i];refine Br H.i Z0.i.O hlt.i ⟨rfl,rfl,rfl,rfl,rfl,rfl,fu _ _ _ _⟩ HEE.i rfl (fun b hb=>?_) ((aAO.i.qA HF7.i).lN (by simp));rcases HRW.i b hb with h1|h1
 ·rcases aas h1 with h2|h2|h2
  ·exact .a h2
  ·exact .b (HOF.i b h2).1
  ·exact .b (aO HS4.i (aFI.i b h2).1)
 ·exact .b (aO aAO.i.j h1)
end
def ahj{W:ak}{q:Nat}{e:En}{s:rE}{x:Eg}{q2 g:Nat}{sl:List (Option Fw)}{M:Int}(h:Ag W q e s x q2 g sl)(hi:qm M e s)(hM:M<1152921504606846976)(a:At)(u:Ac)(ha:AtR W a u)(hof:u.op.bk.oQ)(how:u.op.w<18446744073709551616):
 aP ah 25 #[.c (some ⟨q,0,none⟩),.d a.ay] W (Yx W q e x q2 g sl (D8 e s u)):=by
 unfold D8;by_cases h1:u.kind=1
 ·rw[if_pos h1];exact ahf h hi hM a u ha h1
 rw[if_neg h1];by_cases h2:u.kind=2
 ·rw[if_pos h2];exact arW h hi a u ha h2 hof how
 rw[if_neg h2];by_cases h3:u.kind=3
 ·rw[if_pos h3];exact akU h hi a u ha h3
 rw[if_neg h3];by_cases h4:u.kind=4
 ·rw[if_pos h4];exact akS h hi a u ha h4
 rw[if_neg h4];exact arT h a u ha ⟨h1,h2,h3,h4⟩
def aoA(w:ak)(n:Nat)(l:List (List UInt8))(e:lU)(w':ak):Prop:=
 ∃A c,e=.a (.a A n c)/\w'.c w.a.j 9 1 (.a A n c) n (l.h fun x=>(txA x).a)/\aL w.a.j w w'
@[go_sem]theorem awd(w:ak):(aeJ 0 #[]).G ah w = .Y (.a (some ⟨w.a.j,0,none⟩) 0 0) (w.alloc (.D #[] 9)):=by
 obtain⟨i0,hi0,hz0,hz1,_⟩:=aax;simp[aeJ,bM,dJ lV,zeroValue,sizeOf,typeInfo,hi0,hz0,hz1,fD,newRow,cZ];rw[show(mF 0) = #[]by decide];simp
theorem aeW(l:List (List UInt8))(A:Option aT)(n c:Nat)(w:ak)(hR:RdT w w.a.j A n l)(hn:n<=100000):
 aP ah 88 #[.a A n c] w (aoA w n l):=by
 have hll:=hR.1;cases A with
 | some a=>
   have hnil:∀W:ak,(binOp .eql 69 (.a (some a) n c) (.a none 0 0)).G ah W = .Y (.e false) W:=fun W=>by
    simp only[binOp];simp[je,lV]
   obtain⟨i0,hi0,hz0,hz1,hzb⟩:=aax;have hz2:(jk ⟨#[]⟩).D.j=1:=rfl;have O1:=ab (show(w.alloc (.D #[] 9)).c w.a.j 9 1 (.a (some ⟨w.a.j,0,none⟩) 0 0) 0 []from nC w #[] 0 (av _) (by unfold maxLen;omega) rfl);have O2:=ab (hR.alloc (av _) (.D #[] 9)).2.1;have Uy:=ab (show 0+n<=maxLen by unfold maxLen;omega);have Qo:=ab (show(0+n)*i0.bytes<=140737488355328 from aO (gY (show 0+n<=100000 by omega) hzb) (by omega));have O3:=ab (show w.a.j<=(w.alloc (.D #[] 9)).a.j by simp);have ON:=ab (Fa txA (fun x=>by simp[txA,dx]) l);clear hR hll;go_enter Tryz.func88,Tryz.ntmps88;go_wp2_with (at_builtin;refine jC _ rfl (.a 5) (.a 6) _ rfl w.a.j 9 i0 (.g ⟨#[]⟩) 1 i0.bytes lV hi0 hz0 hz1 rfl hz2 (mY _) (.a (some ⟨w.a.j,0,none⟩) 0 0) 0 [] rfl O1.i w.a.j (some a) n c ((l.h fun x=>(txA x).a)) rfl O2.i ON.i Uy.i Qo.i O3.i ?_;intro v1 w1 hown1 hg1 xu);obtain⟨A',c',hv,_,_⟩:=jG hown1;subst hv;simp only[bl,dH]at hown1;have hb:=sS ((aG w.a.j w).alloc (av _) (.D #[] 9)) hg1 (av _) O3.i;go_wp2;go_ret;exact⟨A',c',by simp,hown1,hb⟩
 | none=>
   have h0:n=0:=by
    rcases eu n with h0|h0
    ·exact h0
    ·obtain⟨a,ha,_⟩:=hR.2.1.2 h0;cases ha
   subst h0;have hl:l=[]:=bG hll;subst hl;have hnil:∀W:ak,(binOp .eql 69 (.a none 0 c) (.a none 0 0)).G ah W = .Y (.e true) W:=fun W=>by
    simp only[binOp];simp[je,lV]
   have FIN:=ab (show aoA w 0 [] (.a (.a none 0 0)) w from⟨none,0,rfl,fu _ _ _ _,aG _ _⟩);clear hR hll;go_enter Tryz.func88,Tryz.ntmps88;go_wp2;go_ret;exact FIN.i
def ate:∃i:nW,ah.l 3=some i/\i.zero=some (.b .a 0)/\i.j=1/\i.bytes<=400:=by
 obtain⟨i,h1,h2,h3,h4⟩:=zO (P:=ah) (e:=3) (z:=.b .a 0) (size:=1) (bytes:=8) (by kernel_rfl);exact⟨i,h1,h2,h3,by omega⟩
def aoB:∃i:nW,ah.l 98=some i/\i.zero=some (.d oL.ay)/\i.j=20/\i.bytes<=400:=by
 obtain⟨i,h1,h2,h3⟩:=kVp.ags;refine⟨i,h1,h3,h2,?_⟩;have h4:(ah.l 98).map (fun i=>decide (i.bytes<=400))=some true:=by kernel_rfl
 rw[h1]at h4;simpa using h4
@[go_sem]theorem atf(w:ak):(MP 0 #[]).G ah w = .Y (.a (some ⟨w.a.j,0,none⟩) 0 0) (w.alloc (.D #[] 3)):=by
 obtain⟨i0,hi0,hz0,hz1,_⟩:=ate;simp[MP,bM,dJ oH,zeroValue,sizeOf,typeInfo,hi0,hz0,hz1,fD,newRow,cZ];rw[show(mF 0) = #[]by decide];simp
def awe(w:ak)(n:Nat)(l:List Int)(e:lU)(w':ak):Prop:=
 ∃A c,e=.a (.a A n c)/\w'.c w.a.j 3 1 (.a A n c) n (l.h fun x=>(Ho x).a)/\aL w.a.j w w'
theorem ahk(l:List Int)(A:Option aT)(n c:Nat)(w:ak)(hR:iE Ho 1 w w.a.j A n l)(hn:n<=100000):
 aP ah 89 #[.a A n c] w (awe w n l):=by
 have hll:=hR.1;cases A with
 | some a=>
   have hnil:∀W:ak,(binOp .eql 70 (.a (some a) n c) (.a none 0 0)).G ah W = .Y (.e false) W:=fun W=>by
    simp only[binOp];simp[je,oH]
   obtain⟨i0,hi0,hz0,hz1,hzb⟩:=ate;have hz2:(aI .a 0).D.j=1:=rfl;have O1:=ab (show(w.alloc (.D #[] 3)).c w.a.j 3 1 (.a (some ⟨w.a.j,0,none⟩) 0 0) 0 []from nC w #[] 0 (av _) (by unfold maxLen;omega) rfl);have O2:=ab (hR.alloc (av _) (.D #[] 3)).2.1;have Uy:=ab (show 0+n<=maxLen by unfold maxLen;omega);have Qo:=ab (show(0+n)*i0.bytes<=140737488355328 from aO (gY (show 0+n<=100000 by omega) hzb) (by omega));have O3:=ab (show w.a.j<=(w.alloc (.D #[] 3)).a.j by simp);have ON:=ab (Fa Ho (fun x=>by simp[Ho,dx]) l);clear hR hll;go_enter Tryz.func89,Tryz.ntmps89;go_wp2_with (at_builtin;refine jC _ rfl (.a 5) (.a 6) _ rfl w.a.j 3 i0 (.b .a 0) 1 i0.bytes oH hi0 hz0 hz1 rfl hz2 (mY _) (.a (some ⟨w.a.j,0,none⟩) 0 0) 0 [] rfl O1.i w.a.j (some a) n c ((l.h fun x=>(Ho x).a)) rfl O2.i ON.i Uy.i Qo.i O3.i ?_;intro v1 w1 hown1 hg1 xu);obtain⟨A',c',hv,_,_⟩:=jG hown1;subst hv;simp only[bl,dH]at hown1;have hb:=sS ((aG w.a.j w).alloc (av _) (.D #[] 3)) hg1 (av _) O3.i;go_wp2;go_ret;exact⟨A',c',by simp,hown1,hb⟩
 | none=>
   have h0:n=0:=by
    rcases eu n with h0|h0
    ·exact h0
    ·obtain⟨a,ha,_⟩:=hR.2.1.2 h0;cases ha
   subst h0;have hl:l=[]:=bG hll;subst hl;have hnil:∀W:ak,(binOp .eql 70 (.a none 0 c) (.a none 0 0)).G ah W = .Y (.e true) W:=fun W=>by
    simp only[binOp];simp[je,oH]
   have FIN:=ab (show awe w 0 [] (.a (.a none 0 0)) w from⟨none,0,rfl,fu _ _ _ _,aG _ _⟩);clear hR hll;go_enter Tryz.func89,Tryz.ntmps89;go_wp2;go_ret;exact FIN.i
def awf(w:ak)(n:Nat)(l:List Vp)(e:lU)(w':ak):Prop:=
 ∃A c,e=.a (.a A n c)/\w'.c w.a.j 98 20 (.a A n c) n (l.h fun x=>(Vp.ay x).a)/\aL w.a.j w w'
theorem aeX(l:List Vp)(A:Option aT)(n c:Nat)(w:ak)(hR:iE Vp.ay 20 w w.a.j A n l)(hn:n<=100000):
 aP ah 60 #[.a A n c] w (awf w n l):=by
 have hll:=hR.1;cases A with
 | some a=>
   have hnil:∀W:ak,(binOp .eql 23 (.a (some a) n c) (.a none 0 0)).G ah W = .Y (.e false) W:=fun W=>by
    simp only[binOp];simp[je,Gh]
   obtain⟨i0,hi0,hz0,hz1,hzb⟩:=aoB;have hz2:(cB oL.ay).D.j=20:=by simp[cZ,Vp.r]
   have O1:=ab (show(w.alloc (.D #[] 98)).c w.a.j 98 20 (.a (some ⟨w.a.j,0,none⟩) 0 0) 0 []from nC w #[] 0 (av _) (by unfold maxLen;omega) rfl);have O2:=ab (hR.alloc (av _) (.D #[] 98)).2.1;have Uy:=ab (show 0+n<=maxLen by unfold maxLen;omega);have Qo:=ab (show(0+n)*i0.bytes<=140737488355328 from aO (gY (show 0+n<=100000 by omega) hzb) (by omega));have O3:=ab (show w.a.j<=(w.alloc (.D #[] 98)).a.j by simp);have ON:=ab (Fa Vp.ay Vp.dw l);clear hR hll;go_enter Tryz.func60,Tryz.ntmps60;go_wp2_with (at_builtin;refine jC _ rfl (.a 5) (.a 6) _ rfl w.a.j 98 i0 (.d oL.ay) 20 i0.bytes Gh hi0 hz0 hz1 rfl hz2 (mY _) (.a (some ⟨w.a.j,0,none⟩) 0 0) 0 [] rfl O1.i w.a.j (some a) n c ((l.h fun x=>(Vp.ay x).a)) rfl O2.i ON.i Uy.i Qo.i O3.i ?_;intro v1 w1 hown1 hg1 xu);obtain⟨A',c',hv,_,_⟩:=jG hown1;subst hv;simp only[bl,dH]at hown1;have hb:=sS ((aG w.a.j w).alloc (av _) (.D #[] 98)) hg1 (av _) O3.i;go_wp2;go_ret;exact⟨A',c',by simp,hown1,hb⟩
 | none=>
   have h0:n=0:=by
    rcases eu n with h0|h0
    ·exact h0
    ·obtain⟨a,ha,_⟩:=hR.2.1.2 h0;cases ha
   subst h0;have hl:l=[]:=bG hll;subst hl;have hnil:∀W:ak,(binOp .eql 23 (.a none 0 c) (.a none 0 0)).G ah W = .Y (.e true) W:=fun W=>by
    simp only[binOp];simp[je,Gh]
   have FIN:=ab (show awf w 0 [] (.a (.a none 0 0)) w from⟨none,0,rfl,fu _ _ _ _,aG _ _⟩);clear hR hll;go_enter Tryz.func60,Tryz.ntmps60;go_wp2;go_ret;exact FIN.i
def atg:(81:bE)<ah.types.j:=of_decide_eq_true (by kernel_rfl)
def acp:Maps.Keyed ah 81:=Maps.Keyed.of_law (deep_law_laid ahs (m:=4) (by omega) atg (by kernel_rfl) (by kernel_rfl))
theorem Le{α β:Type}{f:α->Option β}:∀l:List α,(∀x∈l,∃y,f x=some y)->∃ys,l.mapM f=some ys
 | [],_=>⟨[],rfl⟩
 | x::l,h=>by
   obtain⟨y,hy⟩:=h x (by simp);obtain⟨ys,hys⟩:=Le l (fun z hz=>h z (by simp[hz]));exact⟨y::ys,by simp[List.mapM_cons,hy,hys]⟩
def ahl(d:Nat)(z:Int)(h : -9223372036854775808<=z/\z<=9223372036854775807):∃ls,ah.keyLits (d+1) 3 [.b .a z]=some ls:=by
 have hw:(Lit.int .a z).wf=true:=by simp[Lit.wf,Kh,Ki,mq,nZ];omega
 unfold xq;simp only[gV];rw[if_pos ⟨trivial,hw⟩];exact⟨_,rfl⟩
def arX(d:Nat)(b:Bool):∃ls,ah.keyLits (d+1) 4 [.e b]=some ls:=by
 unfold xq;simp only[Tryz.underlying4];exact⟨_,rfl⟩
def aAP(d:Nat)(b:UInt8):∃ls,ah.keyLits (d+1) 5 [bv b]=some ls:=by
 have hb:=b.toNat_lt;have hw:(Lit.int .u8 (b.g:Int)).wf=true:=by simp[Lit.wf,Kh,Ki,mq,nZ];omega
 unfold xq bv;simp only[Tryz.underlying5];rw[if_pos ⟨trivial,hw⟩];exact⟨_,rfl⟩
def awg(d:Nat)(v:Vector UInt8 16):∃ls,ah.keyLits (d+2) 22 (v.a.map bv)=some ls:=by
 have hc:ah.a 22=16:=by kernel_rfl
 have h1:ah.a 5=1:=by kernel_rfl
 unfold xq;simp only[qH];rw[if_pos (by rw[hc];simp),h1];obtain⟨ys,hys⟩:=Le (f:=fun i=>ah.keyLits (d+1) 5 (((v.a.map bv).f (i*1)).d 1)) (bY 16) (fun i hi=>by
  have hi:=dV.1 hi;have e:((v.a.map bv).f (i*1)).d 1=[bv v[i]]:=by
   rw[gL,List.drop_eq_getElem_cons (by simpa using hi)];simp
  rw[e];exact aAP d _)
 rw[hys];exact⟨_,rfl⟩
def aoC(d:Nat)(a:fC):∃ls,ah.keyLits (d+3) 27 a.ay.a=some ls:=by
 obtain⟨f1,h1⟩:=arX (d+1) a.h;obtain⟨f2,h2⟩:=awg d a.b;have hc:ah.a 27=17:=by kernel_rfl
 have c1:ah.a 4=1:=by kernel_rfl
 have c2:ah.a 22=16:=by kernel_rfl
 have e:a.ay.a=bT a.h::a.b.a.map bv:=by simp[fC.ay]
 unfold xq;simp only[fB];rw[if_pos ⟨by rw[hc,e];simp,by simp⟩];obtain⟨ys,hys⟩:=Le (f:=fun f:oh=>ah.keyLits (d+2) f.type ((a.ay.a.f f.X).d (ah.a f.type))) (ah.fieldsOf 27).a (fun f hf=>by
  simp only[jX,fB]at hf;simp only[bB,fU,or_false]at hf;rcases hf with rfl|rfl
  ·simp only[c1,e];exact⟨f1,h1⟩
  ·simp only[c2,e]
   rw[jU,lH,aJ (by simp)];exact⟨f2,h2⟩)
 simp only[jX,fB]at hys;rw[hys];exact⟨_,rfl⟩
def Tu.XH(t:Tu):t.ay.a=t.h.ay.a++(t.S.ay.a++[.b .a t.aQ,.b .a t.jv,.b .a t.iQ]):=by
 simp[Tu.ay,tuT]
def aAQ(d:Nat)(t:Tu)(h:Ev t=true):∃ls,ah.keyLits (d+4) 81 t.ay.a=some ls:=by
 have hh:=h;unfold Ev XW at hh;simp only[bf,decide_eq_true_eq]at hh;obtain⟨f1,h1⟩:=aoC d t.h;obtain⟨f2,h2⟩:=aoC d t.S;obtain⟨f3,h3⟩:=ahl (d+2) t.aQ (by omega);obtain⟨f4,h4⟩:=ahl (d+2) t.jv (by omega);obtain⟨f5,h5⟩:=ahl (d+2) t.iQ (by omega);have hc:ah.a 81=37:=by kernel_rfl
 have c1:ah.a 27=17:=by kernel_rfl
 have c2:ah.a 3=1:=by kernel_rfl
 have e:=Tu.XH t;have l1:t.h.ay.a.a=17:=by simp[fC.r]
 have l2:t.S.ay.a.a=17:=by simp[fC.r]
 unfold xq;simp only[jI];rw[if_pos ⟨by rw[hc,e];simp[fC.r],by simp⟩];obtain⟨ys,hys⟩:=Le (f:=fun f:oh=>ah.keyLits (d+3) f.type ((t.ay.a.f f.X).d (ah.a f.type))) (ah.fieldsOf 81).a (fun f hf=>by
  simp only[jX,jI]at hf;simp only[bB,fU,or_false]at hf;rcases hf with rfl|rfl|rfl|rfl|rfl
  ·simp only[c1,e,lH];rw[Kr l1];exact⟨f1,h1⟩
  ·simp only[c1,e];rw[List.drop_left' l1,Kr l2];exact⟨f2,h2⟩
  ·simp only[c2,e];rw[<-cu,List.drop_left' (by rw[aR,l1,l2])];exact⟨f3,h3⟩
  ·simp only[c2,e];rw[<-cu,show(35:Nat)=(t.h.ay.a++t.S.ay.a).a+1 by rw[aR,l1,l2],List.drop_length_add_append];exact⟨f4,h4⟩
  ·simp only[c2,e];rw[<-cu,show(36:Nat)=(t.h.ay.a++t.S.ay.a).a+2 by rw[aR,l1,l2],List.drop_length_add_append];exact⟨f5,h5⟩)
 simp only[jX,jI]at hys;rw[hys];exact⟨_,rfl⟩
def aiE(t:Tu)(h:Ev t=true):∃l,keyOf ah 81 (.d t.ay)=some l:=by
 obtain⟨d,hd⟩:∃d,ah.types.j+1=d+4:=⟨ah.types.j-3,by have:=atg;have h3:(3:Nat)<ah.types.j:=of_decide_eq_true (by kernel_rfl);omega⟩
 obtain⟨ls,mR⟩:=aAQ d t h;have hc:ah.a 81=37:=by kernel_rfl
 have hk:ah.keyType 81=true:=by kernel_rfl
 have hf:(cB t.ay).formed ah 81=true:=by
  simp[Value.formed,jI,hc,Tu.r]
 unfold keyOf;simp only[jI];rw[if_pos (by rw[hk,hf];rfl),hd,show(cB t.ay).D.a=t.ay.a from rfl,mR];exact⟨_,rfl⟩
def fC.UY{a b:fC}(h:a.ay=b.ay):a=b:=by
 have h1:=congrArg Array.toList h;simp only[fC.ay,List.cons.injEq,Value.bool.injEq]at h1;cases a;cases b;simp only at h1;obtain⟨rfl,h2⟩:=h1;congr;apply Vector.toList_inj.1;exact(List.map_inj_right (fun x y hxy=>by unfold bv at hxy;injection hxy with _ e;exact UInt8.toNat_inj.1 (by omega))).1 h2
def Tu.UY{a b:Tu}(h:a.ay=b.ay):a=b:=by
 have h1:=Tu.XH a;rw[h,Tu.XH b]at h1;obtain⟨e1,h2⟩:=List.append_inj h1 (by simp[fC.r]);obtain⟨e2,h3⟩:=List.append_inj h2 (by simp[fC.r]);have g1:=fC.UY (Ah.1 e1);have g2:=fC.UY (Ah.1 e2);simp only[List.cons.injEq,Value.int.injEq,true_and,and_true]at h3;cases a;cases b;simp only at g1 g2 h3 ⊢;obtain⟨rfl,rfl,rfl⟩:=h3;rw[g1,g2]
def aoD{a b:Tu}{l:Lit}(h1:keyOf ah 81 (.d a.ay)=some l)(h2:keyOf ah 81 (.d b.ay)=some l):a=b:=by
 have:=acp.inj h1 h2;injection this with this
 exact Tu.UY this
def boD:aB->Option (vR Unit×List oZ)
 | .e b=>some (.lit (.e b),[])
 | _=>none
def awh{v:aB}{b:Bool}{ps:List oZ}(h:boD v=some (.lit (.e b),ps)):v=.e b:=by
 unfold boD at h;split at h
 ·simp at h;rw[h.1]
 ·cases h
def Lu(W:ak)(M n:Nat)(ks:List Tu):Prop:=
 ∃D:vR Unit,W.ownsMap ah 81 boD M n D/\Maps.IsMap D/\∀t l,keyOf ah 81 (.d t.ay)=some l->D.atKey l (.lit (.e false))=.lit (.e (decide (t∈ks)))
def Lu.new(w:ak):Lu (w.alloc (.map #[] 0)) w.a.j 0 []:=⟨_,World.ownsMap_made w _ _ _,⟨[],rfl⟩,fun t l _=>rfl⟩
def Lu.aAR{W W':ak}{M n:Nat}{ks:List Tu}(h:Lu W M n ks)(ha:W'.a[M]? = W.a[M]?):Lu W' M n ks:=by
 obtain⟨D,⟨es,ck,h1,h2⟩,h3⟩:=h;exact⟨D,⟨es,ck,ha.trans h1,h2⟩,h3⟩
def Lu.lt{W:ak}{M n:Nat}{ks:List Tu}(h:Lu W M n ks):M<W.a.j:=by
 obtain⟨D,h1,_⟩:=h;exact h1.lt
def Lu.go{W W':ak}{M n:Nat}{ks:List Tu}(h:Lu W M n ks)(hb:aL W.a.j W W'):Lu W' M n ks:=h.aAR (hb.block M h.lt)
def akV{w:ak}{M n:Nat}{ks:List Tu}(h:Lu w M n ks)(t:Tu)(ht:Ev t=true):
 (Instr.lookup 114 (.map (some M)) (.d t.ay) false).G ah w = .Y (.e (decide (t∈ks))) w:=by
 obtain⟨D,h1,h2,h3⟩:=h;obtain⟨l,hl⟩:=aiE t ht;obtain⟨v,ps,hrun,hv⟩:=h1.lookup acp Tryz.underlying114 (by kernel_rfl:(zeroValue 4).G ah w = .Y (.e false) w) (show boD (.e false)=some (.lit (.e false),[])from rfl) hl;rw[h3 t l hl]at hv;rw[hrun,awh hv]
def Tw{ops:Array iM}{rest:List iM}{o:iM}{a:Act}{Q:Exit->Act->ak->Prop}{w:ak}(hg:o.guard=none)(m x v:Operand)(IU:o.op=Op.mapUpdate 114 m x v)
 (M n:Nat) (ks:List Tu) (hm:a.eval m=.map (some M)) (hown:Lu w M n ks) (hn:n<=1000000) (t:Tu) (ht:Ev t=true) (hx:a.eval x=.d t.ay) (hv:a.eval v=.e true)
 (hK:∀w',Lu w' M (n+1) (t::ks)->w.d w' (some M)->wpList ah ops Q rest (a.put o.S undef) w'):wpList ah ops Q (o::rest) a w:=by
 obtain⟨D,h1,h2,h3⟩:=hown;obtain⟨l,hl⟩:=aiE t ht;refine wpList_mapUpdate_own w hg m x v _ IU 81 4 acp Tryz.underlying114 boD M n D hm h1 (by unfold maxLen;omega) _ _ l hx hv hl _ [] (show boD (.e true)=some (.lit (.e true),[])from rfl) ?_;intro w' k1 k2;refine hK w' ⟨_,k1,h2.put _ _,fun u m hu=>?_⟩ k2;by_cases e:u=t
 ·subst e
  rw[hl]at hu;injection hu with hu
  subst hu;rw[Maps.atKey_put_same h2 (acp.key hl)];simp
 ·rw[Maps.atKey_put_other (fun h=>e (aoD hu (by rw[h];exact hl))),h3 u m hu]
  simp[e]
def Bx.ajf{L:List (Nat×Array aB)}{W0 W W':ak}{M:Nat}(h:Bx L W0 W)(hg:W.d W' (some M))(hM:W0.a.j<=M)(hL:∀p∈L,p.1≠M):Bx L W0 W':=
 ⟨sS h.1 hg hM h.1.j,fun p hp=>⟨(h.2 p hp).1,(h.2 p hp).2.grown hg (fun e=>hL p hp (by injection e))⟩⟩
def EL(l:List Fw)(k:Nat):List Tu:=((l.d k).map (·.key)).reverse
def aeY{l:List Fw}{k:Nat}(hk:k<l.a):(l.b k jw).key::EL l k=EL l (k+1):=by
 unfold EL;rw[dF hk,iY,List.reverse_append,sj hk];rfl
def ahm(l:List Fw)(k:Nat):decide ((l.b k jw).key∈EL l k)=J5 l k:=by
 unfold EL J5;rw[bF];simp only[List.mem_reverse,iZ,decide_eq_true_eq,nY,tq]
def BI{W:ak}{b:Nat}{x:Fw}(h:dM W b x.ay):(uM (.c (some ⟨b,0,none⟩))).G ah W = .Y (.d x.key.ay) W:=by
 have hs:eB x.ay=41:=Fw.r x;rw[Ot W b 0 (of_eq_true (h.J.2.2.1 0 37 (by omega))),h.J.2.2.2 0 37 (by omega),bl,Fw.JI]
def Ee(x:Cn)(vs:List Vp)(X:Sh)(s:rE)(w:ak)(hV:iE Vp.ay 20 w w.a.j x.qP x.iX vs)(hvc:x.iX<=x.qZ)(hvn:x.iX<=100000)(hS:StR w w.a.j X s)(hbl:s.qO.a<=100000)(hhl:s.r.a<=100000)(hfl:s.h.a<=100000)(J:Bool)(hJ:xG x vs s=J):
 aP ah 15 #[.d x.ay,.d X.ay] w (fT w (.e J)):=by
 obtain⟨vv,⟨bA,bn,bc⟩,⟨gA,gn,gc⟩,⟨fA,fn,fc⟩,tk,nn,ct⟩:=X;obtain rfl:vv=s.lD:=hS.lD;obtain rfl:tk=s.fK:=hS.fK;obtain rfl:nn=s.no:=hS.no;obtain rfl:ct=s.S:=hS.S;have hbn:s.qO.a=bn:=hS.b.1;have hgn:s.r.a=gn:=hS.h.1;have hfn:s.h.a=fn:=hS.f.1;have HBN:=ab hbn;have HGN:=ab hgn;have HFN:=ab hfn;have HS:=ab hS;have HLS:=ab (show bn<=100000/\gn<=100000/\fn<=100000 by omega);obtain⟨K1,hK1⟩:∃K,yG x vs=K:=⟨_,rfl⟩
 obtain⟨K2,hK2⟩:∃K,rU s.lD s.qO=K:=⟨_,rfl⟩
 obtain⟨K3,hK3⟩:∃K,decide (gn=bn)=K:=⟨_,rfl⟩
 obtain⟨K4,hK4⟩:∃K,decide ((fn:Int)<=x.dS)=K:=⟨_,rfl⟩
 obtain⟨KN,hKN⟩:∃K,WZ s=K:=⟨_,rfl⟩
 obtain⟨KH,hKH⟩:∃K,(bY gn).all (J4 x s)=K:=⟨_,rfl⟩
 obtain⟨KF,hKF⟩:∃K,(bY fn).all (IX s)=K:=⟨_,rfl⟩
 have HJ:=ab (show J=((K1&&(K2&&(K3&&K4)))&&(KN&&(KH&&KF)))by rw[<-hJ,<-hK1,<-hK2,<-hK3,<-hK4,<-hKN,<-hKH,<-hKF,<-hbn,<-hgn,<-hfn];rfl);have HKN:=ab hKN;have HKH:=ab hKH;have HKF:=ab hKF;have q3:((gn:Int) != (bn:Int)) = !K3:=by rw[<-hK3];by_cases h:gn=bn<;>simp[h];omega
 have q4:decide (x.dS<(fn:Int)) = !K4:=by rw[<-hK4];by_cases h:(fn:Int)<=x.dS<;>simp[h]<;>omega
 have HK3:=ab hK3;clear hJ hK4 hKN hKH hKF hbn hgn hfn hbl hhl hfl hK3;have h0:=((Bx.start w).new x.ay 29).new (Sh.mk s.lD ⟨bA,bn,bc⟩ ⟨gA,gn,gc⟩ ⟨fA,fn,fc⟩ s.fK s.no s.S).ay 37;rw[show(w.alloc (.D x.ay 29)).a.j=w.a.j+1 by simp]at h0;have Z0:=ab h0;clear h0;obtain⟨XA,hXA⟩:∃A,A=(Sh.mk s.lD ⟨bA,bn,bc⟩ ⟨gA,gn,gc⟩ ⟨fA,fn,fc⟩ s.fK s.no s.S).ay:=⟨_,rfl⟩
 have XF:=ab (show XA.m 0 2 = #[.b .a s.lD,.a bA bn bc]/\XA[0]? = some (.b .a s.lD)/\XA[1]? = some (.a bA bn bc)/\XA[2]? = some (.a gA gn gc)/\XA[3]? = some (.a fA fn fc)/\XA[4]? = some (.b .a s.fK)/\XA[5]? = some (.b .a s.no)/\∀j,j<11->XA[6+j]? = some (.b .a (s.S.a.b j 0))by
  rw[hXA];exact⟨Sh.Hg _,Sh.nS _,Sh.DK _,Sh.RV _,Sh.adt _,Sh.ahZ _,Sh.ah0 _,fun j hj=>Sh.adV _ j hj⟩)
 have CC:=ab (fun w1 (hb:aL w.a.j w w1)=>Yt x vs w1 (hV.go hb) hvc hvn);have CP:=ab (fun w1 (hb:aL w.a.j w w1)=>agk s.qO HS.i.oQ s.lD bA bn bc w1 (HS.i.b.go hb) (by have:=HLS.i;omega) K2 hK2);rw[hK1]at CC;have XS:=ab (show XA.j=17 by rw[hXA];exact Sh.r _);clear hK1 hK2 hV hS;go_enter Tryz.func15,Tryz.ntmps15;go_upto_region 1 with fail
 generalize(w.alloc (.D x.ay 29)).alloc (.D (Sh.mk s.lD ⟨bA,bn,bc⟩ ⟨gA,gn,gc⟩ ⟨fA,fn,fc⟩ s.fK s.no s.S).ay 37)=w0 at Z0 ⊢;rw[<-hXA]at Z0;clear hXA;obtain⟨x1,x2,x3,x4⟩:=Z0.i.b1.J;go_wp2_with fail
 (with_reducible refine(CC.i _ Z0.i.O).e ?_)
 rintro e w1 ⟨rfl,hb1⟩;have Z1:=ab (Z0.i.go hb1);clear hb1 x1 x2 x3 x4;cases K1
 ·skip
  go_wp2;go_ret;exact⟨by rw[HJ.i];rfl,Z1.i.O⟩
 obtain⟨e0,e1,e2,e3,e4,e5,e6,e7⟩:=XF.i;obtain⟨y1,y2,y3,y4⟩:=Z1.i.R.J;have hys:eB XA=17:=by have:=Z1.i.R;unfold eB;exact XS.i
 go_wp2_with fail
 (with_reducible refine(CP.i _ Z1.i.O).e ?_)
 rintro e w2 ⟨rfl,hb2⟩;have Z2:=ab (Z1.i.go hb2);clear hb2 y1 y2 y3 y4;cases K2
 ·skip
  go_wp2;go_ret;exact⟨by rw[HJ.i];rfl,Z2.i.O⟩
 obtain⟨x1,x2,x3,x4⟩:=Z2.i.b1.J;obtain⟨y1,y2,y3,y4⟩:=Z2.i.R.J;have z2:=Cn.OJ x;cases K3
 ·simp only[nO]at q3
  go_wp2;go_ret;exact⟨by rw[HJ.i];rfl,Z2.i.O⟩
 cases K4
 ·simp only[nO]at q4
  go_wp2;go_ret;exact⟨by rw[HJ.i];rfl,Z2.i.O⟩
 simp only[sQ]at q3 q4;obtain⟨a1,ha1⟩:∃a,decide (s.fK<0)=a:=⟨_,rfl⟩
 obtain⟨a2,ha2⟩:∃a,decide (1099511627776<s.fK)=a:=⟨_,rfl⟩
 obtain⟨a3,ha3⟩:∃a,decide (s.no<0)=a:=⟨_,rfl⟩
 obtain⟨a4,ha4⟩:∃a,decide (1152921504606846976<s.no)=a:=⟨_,rfl⟩
 obtain⟨a5,ha5⟩:∃a,s.S.a.any wG=a:=⟨_,rfl⟩
 have P7:=ab (show KN=(!a1&&(!a2&&(!a3&&(!a4 && !a5))))by
  rw[<-HKN.i,<-ha1,<-ha2,<-ha3,<-ha4,<-ha5,aiq];unfold WZ XW;rw[bF];simp only[bf,decide_eq_true_eq,nI,decide_eq_false_iff_not,Bool.not_not];constructor
  ·rintro⟨h1,h2,h3⟩;exact⟨by omega,by omega,by omega,by omega,h3⟩
  ·rintro⟨h1,h2,h3,h4,h5⟩;exact⟨by omega,by omega,h5⟩)
 have CA:=ab (avu (some ⟨w.a.j+1,6,none⟩) 11 11 w2.a.j w2 s.S.a (by omega) (by have:=RdI.box (l:=s.S.a) (o:=6) Z2.i.R (fun j hj=>e7 j (by simpa using hj));rw[nV]at this;exact this));rw[ha5]at CA;clear ha5;cases a1;rotate_left
 ·skip
  go_wp2;go_ret;exact⟨by rw[HJ.i,P7.i];rfl,Z2.i.O⟩
 cases a2;rotate_left
 ·skip
  go_wp2;go_ret;exact⟨by rw[HJ.i,P7.i];rfl,Z2.i.O⟩
 cases a3;rotate_left
 ·skip
  go_wp2;go_ret;exact⟨by rw[HJ.i,P7.i];rfl,Z2.i.O⟩
 cases a4;rotate_left
 ·skip
  go_wp2;go_ret;exact⟨by rw[HJ.i,P7.i];rfl,Z2.i.O⟩
 go_wp2_with fail
 (with_reducible refine CA.i.e ?_)
 rintro e w3 ⟨rfl,rfl⟩;cases a5;rotate_left
 ·skip
  go_wp2;go_ret;exact⟨by rw[HJ.i,P7.i];rfl,Z2.i.O⟩
 have HJ:=ab (show J=(KH&&KF)by rw[HJ.i,P7.i];simp);have hgb:=of_decide_eq_true HK3.i;subst hgb;clear ha1 ha2 ha3 ha4 q3 q4 P7 HKN CA HK3;go_wp2;clear x1 x2 x3 x4 y1 y2 y3 y4 z2;go_loopw [64] (fun s64 wr=>∃i:Nat,i<=gn/\s64=.b .a i/\Bx [(w.a.j+1,XA),(w.a.j,x.ay)] w wr/\∀k,k<i->J4 x s k=true) (fun s64 _=>gn-(intOf s64).g)
 case atStart=>exact⟨0,by omega,rfl,Z2.i,fun k hk=>by omega⟩
 case round=>
  obtain⟨i,hin,rfl,hz,hall⟩:=hrel;have ZR:=ab hz;have HA:=ab hall;clear hz hall;by_cases hlt:i<gn
  ·have hlt2:(i:Int)<gn:=by omega
   have hgs:gn<=100000:=HLS.i.2.1;obtain⟨y,hy⟩:=rT (s.r.b i kQ);obtain⟨b,o,rfl,_,hh,hcl,_,_⟩:=iE.hl (show RdH wr wr.a.j gA gn s.r from HS.i.h.go ZR.i.O) hlt;rw[hy]at hcl;have ZY:=ab (ZR.i.new y.ay 100);go_upto_region 8 with fail
   generalize wr.alloc (.D y.ay 100)=w5 at ZY ⊢;generalize wr.a.j=py at ZY ⊢;clear hh hcl;obtain⟨b2,o2,rfl,_,hc2⟩:=iE.cell Bk.r iO (show iE Bk.ay 27 w5 w5.a.j bA gn s.qO from HS.i.b.go ZY.i.O) hlt;have n0:=(hc2 0 (by omega)).trans (Bk.nS _);rw[mW]at n0;clear hc2;obtain⟨nm,hnm⟩:∃n,(s.qO.b i iO).E=n:=⟨_,rfl⟩
   rw[hnm]at n0;obtain⟨x1,x2,x3,x4⟩:=ZY.i.b2.J;obtain⟨y1,y2,y3,y4⟩:=ZY.i.b1.J;obtain⟨u1,u2,u3,u4⟩:=ZY.i.R.J;have d0:=Hl.nS y;have d1:=Hl.DK y;have d2:=Hl.RV y;obtain⟨t1,ht1⟩:∃a,(y.E==nm)=a:=⟨_,rfl⟩
   obtain⟨t2,ht2⟩:∃a,decide (y.G<0)=a:=⟨_,rfl⟩
   have T1:(y.E != nm) = !t1:=by rw[<-ht1];rfl
   have T2:decide (y.E=nm)=t1:=by rw[<-ht1];rw[bF];simp
   have T3:decide (y.E≠nm) = !t1:=by rw[<-ht1];rw[bF];simp
   have T4:(!decide (y.E=nm)) = !t1:=by rw[T2]
   obtain⟨t3,ht3⟩:∃a,decide ((if y.down then x.kF else x.S)<=y.G)=a:=⟨_,rfl⟩
   have HI:=ab (show J4 x s i=(t1&&(!t2 && !t3))by
    unfold J4 anH;rw[hy,hnm,ht1,<-ht2,<-ht3];congr 1;congr 1<;>(rw[bF];simp))
   have c1:=Cn.OO x;have c2:=Cn.OL x;clear hy hnm;cases hd:y.down<;>rw[hd]at d1 ht3
   all_goals
    simp only[iV,if_false,if_true]at ht3;go_upto_region 11 with fail
    have HF:=ab (show(t1&&(!t2 && !t3))=false->KH=false from fun h=>by rw[<-HKH.i];exact ji _ i _ hlt (by rw[HI.i,h]));cases t1
    ·simp only[sQ,nO]at T1 T3 T4
     go_quiet (fail);go_wp2;go_ret;exact⟨by rw[HJ.i,HF.i rfl];rfl,ZY.i.O.trans (eH (aG _ _) _)⟩
    simp only[sQ,nO]at T1 T3 T4;cases t2;rotate_left
    ·go_quiet (fail)
     go_wp2;go_ret;exact⟨by rw[HJ.i,HF.i rfl];rfl,ZY.i.O.trans (eH (aG _ _) _)⟩
    cases t3;rotate_left
    ·go_quiet (fail)
     go_wp2;go_ret;exact⟨by rw[HJ.i,HF.i rfl];rfl,ZY.i.O.trans (eH (aG _ _) _)⟩
    go_quiet (fail);go_wp2;go_roundw
    case rel=>exact⟨i+1,by omega,by go_num,ZY.i.Uh.drewN _,fun k hk=>by
     by_cases hki:k=i
     ·rw[hki];exact HI.i
     ·exact HA.i k (by omega)⟩
    case measure=>simp[intOf]<;>omega
  ·obtain rfl:i=gn:=by omega
   have HF:=ab (show KH=true by rw[<-HKH.i,fM];exact fun k hk=>HA.i k (dV.1 hk));have HJ:=ab (show J=KF by rw[HJ.i,HF.i];rfl);have hnl:¬(i:Int)<i:=by omega
   clear hlt HA HF HKH;obtain⟨y1,y2,y3,y4⟩:=ZR.i.R.J;have hmm:=fun n w=>Iu (P:=ah) Tryz.underlying114 n w
   go_upto_region 15 with fail
   have M0:=ab (Lu.new wr);have ZM:=ab (ZR.i.alloc (.map #[] 0));have HM:=ab (show w.a.j<=wr.a.j/\∀p∈[(w.a.j+1,XA),(w.a.j,x.ay)],p.1≠wr.a.j from⟨ZR.i.O.j,fun p hp=>by have:=(ZR.i.2 p hp).2.lt;omega⟩);generalize wr.alloc (.map #[] 0)=w6 at M0 ZM ⊢;generalize wr.a.j=M at M0 HM ⊢;clear y1 y2 y3 y4 hmm;obtain⟨y1,y2,y3,y4⟩:=ZM.i.R.J;go_wp2;clear y1 y2 y3 y4;go_loopw [104] (fun awm wr=>∃k:Nat,k<=fn/\awm=.b .a k/\Bx [(w.a.j+1,XA),(w.a.j,x.ay)] w wr/\Lu wr M k (EL s.h k)/\∀j,j<k->IX s j=true) (fun awm _=>fn-(intOf awm).g)
   case atStart=>exact⟨0,by omega,rfl,ZM.i,M0.i,fun k hk=>by omega⟩
   case round=>
    obtain⟨k,hkn,rfl,hz,hm,hall⟩:=hrel;have ZR:=ab hz;have MR:=ab hm;have HA:=ab hall;clear hz hm hall;by_cases hkt:k<fn;rotate_left
    ·obtain rfl:k=fn:=by omega
     have HF:=ab (show KF=true by rw[<-HKF.i,fM];exact fun j hj=>HA.i j (dV.1 hj));have hnl:¬(k:Int)<k:=by omega
     go_wp2;go_ret;exact⟨by rw[HJ.i,HF.i];rfl,ZR.i.O⟩
    have hlt2:(k:Int)<fn:=by omega
    obtain⟨b,o,rfl,hbl,hh,hcl⟩:=iE.fw (show iE Fw.ay 41 wr wr.a.j fA fn s.h from HS.i.f.go ZR.i.O) hkt;obtain⟨y,hy⟩:=rT (s.h.b k jw);rw[hy]at hcl;have HYN:=ab (HS.i.V9 _ (yc jw s.h k (by rw[HFN.i];exact hkt)));rw[hy]at HYN;have ZY:=ab (ZR.i.new y.ay 86);have MY:=ab (MR.i.go ((aG _ _).alloc (av _) (.D y.ay 86)));go_upto_region 18 with fail
    generalize wr.alloc (.D y.ay 86)=w7 at ZY MY ⊢;generalize wr.a.j=py at ZY ⊢;clear hh hcl hbl;have hfs:fn<=100000:=HLS.i.2.2;obtain⟨c1,hc1⟩:∃c,AY y=c:=⟨_,rfl⟩
    obtain⟨c2,hc2⟩:∃c,decide (s.fK<y.seen)=c:=⟨_,rfl⟩
    obtain⟨c3,hc3⟩:∃c,decide (y.no<1)=c:=⟨_,rfl⟩
    obtain⟨c4,hc4⟩:∃c,decide (s.no<y.no)=c:=⟨_,rfl⟩
    obtain⟨c5,hc5⟩:∃c,decide (y.key∈EL s.h k)=c:=⟨_,rfl⟩
    obtain⟨pv,hpv⟩:∃p,s.h.b (k-1) jw=p:=⟨_,rfl⟩
    have HI:=ab (show IX s k=(c1&&(!c2&&(!c3&&(!c4&&(!c5&&(decide (k=0)||kG pv y))))))by
     unfold IX;have hkk:=ahm s.h k;rw[hy]at hkk ⊢;rw[<-hkk,hc5,hc1,hpv,<-hc2,<-hc3,<-hc4];have g1:decide (y.seen<=s.fK) = !decide (s.fK<y.seen):=by rw[bF];simp
     have g2:decide (1<=y.no) = !decide (y.no<1):=by rw[bF];simp
     have g3:decide (y.no<=s.no) = !decide (s.no<y.no):=by rw[bF];simp
     rw[g1,g2,g3])
    have FR:=ab (fun W=>Ma y W HYN.i);rw[hc1]at FR;have HC1:=ab hc1;have HPV:=ab hpv;have HYY:=ab hy;have KEY:=ab (aeY (l:=s.h) (k:=k) (by rw[HFN.i];exact hkt));clear hy hc1 hpv;obtain⟨T,f,n0,E0,es,ew⟩:=uD (w7);have hT:Nonempty T:=⟨n0⟩
    have ES:=ab es;have EW:=ab ew;clear es ew;have l1:=fun m=>kE (ZY.i.go (ES.i m)).R
    have l3:∀m,(f m).b ⟨py,39,none⟩=some (.b .a y.seen):=fun m=>((ZY.i.go (ES.i m)).R.J.1 39).trans (Fw.abl y)
    have l4:∀m,(f m).b ⟨py,40,none⟩=some (.b .a y.no):=fun m=>((ZY.i.go (ES.i m)).R.J.1 40).trans (Fw.MJ y)
    have l5:∀m,(f m).b ⟨w.a.j+1,4,none⟩=some (.b .a s.fK):=fun m=>((ZY.i.go (ES.i m)).b1.J.1 4).trans XF.i.2.2.2.2.2.1
    have l6:∀m,(f m).b ⟨w.a.j+1,5,none⟩=some (.b .a s.no):=fun m=>((ZY.i.go (ES.i m)).b1.J.1 5).trans XF.i.2.2.2.2.2.2.1
    have l7:∀m,(f m).b ⟨w.a.j+1,3,none⟩=some (.a (some ⟨b,o,none⟩) fn fc):=fun m=>((ZY.i.go (ES.i m)).b1.J.1 3).trans XF.i.2.2.2.2.1
    have l8:∀m,(uM (.c (some ⟨py,0,none⟩))).G ah (f m) = .Y (.d y.key.ay) (f m):=fun m=>BI (ZY.i.go (ES.i m)).R
    cases c1;rotate_left;have L9:=ab (fun W (h:Lu W M k (EL s.h k))=>show(Instr.lookup 114 (.map (some M)) (.d y.key.ay) false).G ah W = .Y (.e c5) W by rw[akV h y.key (wW HC1.i),hc5]);have l9:=fun m=>L9.i (f m) (MY.i.go (ES.i m))
    clear hc5;cases c2;cases c3;cases c4;cases c5
    all_goals try(
     have HF:=ab (show KF=false by rw[<-HKF.i];exact ji _ k _ hkt (by rw[HI.i];simp));refine lQ f (by kernel_rfl) (by kernel_rfl) n0 E0 ?_
     repeat(go_big_quiet_step ((first|(go_at_call 48;(with_reducible refine(FR.i _).e ?_);rintro e w2 ⟨rfl,hb⟩;exact⟨rfl,EW.i _ ((ES.i _).trans (hb.e (ES.i _).j))⟩))))
     refine eG ?_;rintro _ ⟨m',rfl⟩;have HB:=ab (ES.i m');generalize f m'=wN at *;clear ES EW E0 hT n0;go_wp2;go_ret;exact⟨by rw[HJ.i,HF.i];rfl,(ZY.i.go HB.i).O⟩)
    have Dt:=ab (Eb HC1.i);by_cases hk0:k=0
    ·have t0:decide (0<(k:Int))=false:=by simp;omega
     have HI:=ab (show IX s k=true by rw[HI.i];simp[hk0]);have HG:=ab (show IX s k=true by exact HI.i);refine lQ f (by kernel_rfl) (by kernel_rfl) n0 E0 ?_
     repeat(go_big_quiet_step ((first|(go_at_call 48;(with_reducible refine(FR.i _).e ?_);rintro e w2 ⟨rfl,hb⟩;exact⟨rfl,EW.i _ ((ES.i _).trans (hb.e (ES.i _).j))⟩))))
     refine eG ?_;rintro _ ⟨m',rfl⟩;have HB:=ab (ES.i m');generalize f m'=wN at *;clear ES EW E0 hT n0;clear l1 l3 l4 l5 l6 l7 l8 l9;have ZN:=ab (ZY.i.go HB.i);have MN:=ab (MY.i.go HB.i);have l8:=BI ZN.i.R;have TK:=ab (wW HC1.i);have HK1:=ab (show k<=1000000 by omega);go_wp2_with (refine Tw rfl (.a 152) (.a 154) (.const (.e true)) rfl M k (EL s.h k) rfl MN.i HK1.i y.key TK.i rfl rfl ?_;intro w9 h1 h2;have M9:=ab h1;have Z9:=ab (ZN.i.Uh.ajf h2 HM.i.1 HM.i.2);clear h1 h2);go_roundw
     case rel=>exact⟨k+1,by omega,by go_num,Z9.i,by rw[<-KEY.i,HYY.i];exact M9.i,fun j hj=>by
      by_cases hjk:j=k
      ·rw[hjk];exact HG.i
      ·exact HA.i j (by omega)⟩
     case measure=>simp[intOf]<;>omega
    have t0:decide (0<(k:Int))=true:=by simp;omega
    have t00:decide (0<k)=true:=decide_eq_true (by omega);have hkp:0<k:=by omega
    have HOP:=ab (show AY pv=true by
     have:=HA.i (k-1) (by omega);unfold IX at this;rw[HPV.i]at this;simp only[bf]at this;exact this.1)
    have HON:=ab (Eb HOP.i);have CO:=ab (fun W=>Tj pv y HON.i.1 Dt.i.1 HON.i.2 Dt.i.2 W);obtain⟨j,hj⟩:∃j:Nat,j=k-1:=⟨_,rfl⟩
    have i1:(k:Int)-1=(j:Int):=by omega
    have i2:(j:Int)<fn:=by omega
    rw[<-hj]at HPV;have HJK:=ab (show j<fn by omega);clear hj;have la:∀m,(ML (.c (some ⟨b,o+j*41,none⟩))).G ah (f m) = .Y (.d pv.ay) (f m):=fun m=>by
     obtain⟨b',o',e,_,hh,hcl⟩:=iE.fw (show iE Fw.ay 41 (f m) (f m).a.j (some ⟨b,o,none⟩) fn s.h from HS.i.f.go (ZY.i.go (ES.i m)).O) HJK.i;injection e with e
     injection e with e1 e2
     subst e1 e2;rw[HPV.i]at hcl;rw[abn _ _ _ hh,hcl]
    obtain⟨c7,hc7⟩:∃c,kG pv y=c:=⟨_,rfl⟩
    rw[hc7]at CO HI;have HOL:=ab hc7;clear hc7;cases c7
    ·have hk9:=hk0
     have HF:=ab (show KF=false by rw[<-HKF.i];exact ji _ k _ hkt (by rw[HI.i];simp[hk9]));refine lQ f (by kernel_rfl) (by kernel_rfl) n0 E0 ?_
     repeat(go_big_quiet_step ((first|(go_at_call 48;(with_reducible refine(FR.i _).e ?_);rintro e w2 ⟨rfl,hb⟩;exact⟨rfl,EW.i _ ((ES.i _).trans (hb.e (ES.i _).j))⟩)|(go_at_call 49;(with_reducible refine(CO.i _).e ?_);rintro e w2 ⟨rfl,hb⟩;exact⟨rfl,EW.i _ ((ES.i _).trans (hb.e (ES.i _).j))⟩))))
     refine eG ?_;rintro _ ⟨m',rfl⟩;have HB:=ab (ES.i m');generalize f m'=wN at *;clear ES EW E0 hT n0;go_wp2;go_ret;exact⟨by rw[HJ.i,HF.i];rfl,(ZY.i.go HB.i).O⟩
    have HG:=ab (show IX s k=true by rw[HI.i];simp[HOL.i]);refine lQ f (by kernel_rfl) (by kernel_rfl) n0 E0 ?_
    repeat(go_big_quiet_step ((first|(go_at_call 48;(with_reducible refine(FR.i _).e ?_);rintro e w2 ⟨rfl,hb⟩;exact⟨rfl,EW.i _ ((ES.i _).trans (hb.e (ES.i _).j))⟩)|(go_at_call 49;(with_reducible refine(CO.i _).e ?_);rintro e w2 ⟨rfl,hb⟩;exact⟨rfl,EW.i _ ((ES.i _).trans (hb.e (ES.i _).j))⟩))))
    refine eG ?_;rintro _ ⟨m',rfl⟩;have HB:=ab (ES.i m');generalize f m'=wN at *;clear ES EW E0 hT n0;clear l1 l3 l4 l5 l6 l7 l8 l9;have ZN:=ab (ZY.i.go HB.i);have MN:=ab (MY.i.go HB.i);have l8:=BI ZN.i.R;have TK:=ab (wW HC1.i);have HK1:=ab (show k<=1000000 by omega);go_wp2_with (refine Tw rfl (.a 152) (.a 154) (.const (.e true)) rfl M k (EL s.h k) rfl MN.i HK1.i y.key TK.i rfl rfl ?_;intro w9 h1 h2;have M9:=ab h1;have Z9:=ab (ZN.i.Uh.ajf h2 HM.i.1 HM.i.2);clear h1 h2);go_roundw
    case rel=>exact⟨k+1,by omega,by go_num,Z9.i,by rw[<-KEY.i,HYY.i];exact M9.i,fun j hj=>by
     by_cases hjk:j=k
     ·rw[hjk];exact HG.i
     ·exact HA.i j (by omega)⟩
    case measure=>simp[intOf]<;>omega
section
variable {W W':ak} {q:Nat} {e:En} {s:rE} {x:Eg} {q2 g:Nat} {sl:List (Option Fw)}
theorem Ih{B sz n c p:Nat}{T:bE}{A:Option aT}{xs:List aB}(h:W.c B T sz (.a A n c) n xs)(hf:jM [p] W W')(hp:p<B):W'.c B T sz (.a A n c) n xs:=Bo h hf (fun k hk hm=>by simp at hm;subst hm;have:=h.lt _ hk;omega)
structure StO(B:Nat)(W:ak)(X:Sh)(s:rE):Prop where
 lD:X.lD=s.lD
 bn:s.qO.a=X.b.n
 b:W.c B 62 27 (.a X.b.A X.b.n X.b.c) X.b.n (s.qO.h fun y=>y.ay.a)
 hn:s.r.a=X.h.n
 h:W.c B 100 3 (.a X.h.A X.h.n X.h.c) X.h.n (s.r.h fun y=>y.ay.a)
 fn:s.h.a=X.f.n
 f:W.c B 86 41 (.a X.f.A X.f.n X.f.c) X.f.n (s.h.h fun y=>y.ay.a)
 fK:X.fK=s.fK
 no:X.no=s.no
 S:X.S=s.S
def awq(W:ak)(s:rE)(r:lU)(W':ak):Prop:=∃X:Sh,r=.a (.d X.ay)/\StO W.a.j W' X s/\aL W.a.j W W'
theorem kSh:pK 37 17 Hf.ay:=⟨⟨_,oG,rfl⟩,by kernel_rfl,by kernel_rfl,Sh.r _⟩
@[go_sem]theorem aAU(W:ak)(lD:Int)(A1:Option aT)(n1 c1:Nat)(A2:Option aT)(n2 c2:Nat)(A3:Option aT)(n3 c3:Nat)(t n:Int)(v:Vector Int 11):(auk #[(0,.d (Pc.mk lD A1 n1 c1).ay),(1,.a A2 n2 c2),(2,.a A3 n3 c3),(3,.b .a t),(4,.b .a n),(5,.d (v.a.map (aI .a)).c)]).G ah W = .Y (.d (Sh.mk lD ⟨A1,n1,c1⟩ ⟨A2,n2,c2⟩ ⟨A3,n3,c3⟩ t n v).ay) W:=kSh.bd W _ _ _ _ oG (Zd W _ oG) (by
 refine vo (Sh.r _) ?_ ?_
 ·simp[r9,cZ,Pc.r]
 ·simp[rF,cZ,Pc.ay,Sh.ay,shT,yD])
theorem Eg.akW{x:Eg}(h:dM W q x.ay):W.rangeAt q 79 (x.S.a.map (aI .a)):=by
 intro j v hj;have hj6:j<11:=by
  rcases aZ j 11 with h1|h1
  ·exact h1
  ·rw[aS (by simpa using h1)]at hj;cases hj
 have h2:(x.ay.m 79 90)[j]? = (yD x.S)[j]?:=by rw[Eg.aod]
 rw[dA,if_pos (by rw[Eg.r];omega)]at h2;rw[h.J.1,h2];unfold yD;rw[dW];exact hj
theorem Tx{M:Int}(h:Ag W q e s x q2 g sl)(hi:qm M e s):aP ah 20 #[.c (some ⟨q,0,none⟩)] W (awq W s):=by
 have Z0:=ab ((Bx.start W).new Hf.ay 37);have H:=ab h;have HI:=ab hi;have HN:=ab (show s.qO.a=x.pl.rN/\s.r.a=x.EK from⟨h.b.bk.1,h.b.hl.1⟩);have HF:=ab hi.Uz;have SZ:=ab (show W.a.j<(W.alloc (.D Hf.ay 37)).a.j by simp);clear h hi;go_enter Tryz.func20,Tryz.ntmps20;go_upto_region 1 with fail
 generalize W.alloc (.D Hf.ay 37)=w0 at Z0 SZ ⊢;have l1:=kPc.Ed (H.i.b.eg.go Z0.i.O) 70 (Eg.aiC _) (by rw[Eg.r];omega);go_upto_region 2 with fail
 have Z1:=ab (Z0.i.new x.pl.ay 32);have SZ1:=ab (show w0.a.j<(w0.alloc (.D x.pl.ay 32)).a.j by simp);generalize w0.alloc (.D x.pl.ay 32)=w1 at Z1 SZ1 ⊢;have NP:=ab (show w0.a.j≠W.a.j by have:=SZ.i;omega);generalize w0.a.j=p at Z1 SZ SZ1 NP ⊢;clear l1;have f1:=(Z1.i.R.J.1 1).trans (Pc.an' x.pl);have CB:=ab (xO s.qO x.pl.rA x.pl.rC w1 (by have h1:=H.i.b.bk.go Z1.i.O;rw[HN.i.1];exact h1) (by have:=HF.i;omega));unfold aa7 at CB;rw[HN.i.1]at CB;go_upto_region 3 with(go_at_call 61;(with_reducible refine CB.i.e ?_);rintro r w2 ⟨A1,c1,rfl,ho,hb⟩;have g1:=(Z1.i.R.go hb).J.2.1 1;have f1:=((Z1.i.R.go hb).J.1 1).trans (Pc.an' x.pl);have Z2:=ab (Z1.i.go hb);have O1:=ab ho;have SZ2:=ab hb.j;clear ho hb)
 have Z3:=ab (Z2.i.set (fun r hr=>by simp at hr;subst hr;have:=SZ.i;simp;omega) 1 (.a A1 x.pl.rN c1));rw[Pc.aiB]at Z3;have O3:=ab (Bo O1.i ((jM.refl [p] w2).set ⟨p,1,none⟩ (.a A1 x.pl.rN c1) (.a (by simp))) (fun k hk hm=>by have:=lF O1.i;simp at hm;subst hm;have:=O1.i.lt _ hk;have:=SZ1.i;omega));have SZ3:=ab (show w1.a.j<=(w2.F ⟨p,1,none⟩ (.a A1 x.pl.rN c1)).a.j by have:=SZ2.i;simp[iq];exact this);generalize w2.F ⟨p,1,none⟩ (.a A1 x.pl.rN c1)=w3 at Z3 O3 SZ3 ⊢;clear f1 g1;have KS:=ab (fun(w':ak) (h0:dM w' p ({x.pl with rA:=A1,rN:=x.pl.rN,rC:=c1}:Pc).ay) (h1:dM w' q x.ay)=>show(yY 32 (.c (some ⟨p,0,none⟩))).G ah w' = .Y (.d (Pc.mk x.pl.lD A1 x.pl.rN c1).ay) w'/\w'.b ⟨q,72,none⟩=some (.a x.Qh x.EK x.Uq)/\w'.b ⟨q,74,none⟩=some (.c (some ⟨q2,0,none⟩))/\w'.b ⟨q,77,none⟩=some (.b .a x.fK)/\w'.b ⟨q,78,none⟩=some (.b .a x.no)/\w'.rangeAt q 79 (x.S.a.map (aI .a))from
  ⟨kPc.Ed h0 0 (Pc.all _) (by rw[Pc.r];omega),(h1.J.1 72).trans (Eg.aam _),by rw[h1.J.1 74,Eg.aan,H.i.b.fl];rfl,(h1.J.1 77).trans (Eg.UQ _),(h1.J.1 78).trans (Eg.aoc _),Eg.akW h1⟩)
 have CH:=ab (fun(w:ak) (hb:aL W.a.j W w)=>MG s.r x.Qh x.EK x.Uq w (H.i.b.hl.go hb) (by have:=HF.i;have:=HN.i;omega));have CL:=ab (fun(w:ak) (hb:aL W.a.j W w)=>ag3 (H.i.b.h.go hb));unfold ClP at CH;have hU:=Gc;have hI:(ah.l 35).map (·.j)=some (x.S.a.map (aI .a)).a:=by rw[bV,nV];kernel_rfl
 go_region_held_law (fun w'=>(yY 32 (.c (some ⟨p,0,none⟩))).G ah w' = .Y (.d (Pc.mk x.pl.lD A1 x.pl.rN c1).ay) w'/\w'.b ⟨q,72,none⟩=some (.a x.Qh x.EK x.Uq)/\w'.b ⟨q,74,none⟩=some (.c (some ⟨q2,0,none⟩))/\w'.b ⟨q,77,none⟩=some (.b .a x.fK)/\w'.b ⟨q,78,none⟩=some (.b .a x.no)/\w'.rangeAt q 79 (x.S.a.map (aI .a)))
  (first|exact KS.i _ Z3.i.drew.R (H.i.b.eg.go Z3.i.drew.O)|exact KS.i _ Z4.i.R (H.i.b.eg.go Z4.i.O)|exact KS.i _ Z5.i.R (H.i.b.eg.go Z5.i.O)|exact KS.i _ Z6.i.b1 (H.i.b.eg.go Z6.i.O)|go_keep)
  (first
  | (go_at_call 59;(with_reducible refine(CH.i _ Z3.i.drew.O).e ?_);rintro r w4 ⟨A2,c2,rfl,ho,hb⟩;have Z4:=ab (Z3.i.drew.go hb);have O2:=ab ho;have S4:=ab (show w3.a.j<=w4.a.j from hb.j);have B4:=ab (show aL w3.a.j w3 w4 from(iC w3).trans hb);clear ho hb)
  | (go_at_call 65;(with_reducible refine(CL.i _ Z4.i.O).e ?_);rintro r w5 ⟨A3,c3,rfl,ho,hb⟩;have Z5:=ab (Z4.i.go hb);have O5:=ab ho;have B5:=ab hb;have th:=Z5.i.b1.K 0 17 (aX (Sh.r Hf).symm);have Z6:=ab (show Bx [(W.a.j,(Sh.mk x.pl.lD ⟨A1,x.pl.rN,c1⟩ ⟨A2,x.EK,c2⟩ ⟨A3,s.h.a,c3⟩ x.fK x.no x.S).ay),(p,({x.pl with rA:=A1,rN:=x.pl.rN,rC:=c1}:Pc).ay)] W (amN w5 W.a.j 0 (Sh.mk x.pl.lD ⟨A1,x.pl.rN,c1⟩ ⟨A2,x.EK,c2⟩ ⟨A3,s.h.a,c3⟩ x.fK x.no x.S))from Z5.i.swap.put (fun r hr=>by rw[fV.1 hr];exact NP.i) _ (by rw[Sh.r,Sh.r]));clear ho hb))
 have FS:=ab (show jM [W.a.j] w5 (amN w5 W.a.j 0 (Sh.mk x.pl.lD ⟨A1,x.pl.rN,c1⟩ ⟨A2,x.EK,c2⟩ ⟨A3,s.h.a,c3⟩ x.fK x.no x.S))from yO w5 W.a.j 0 _);have hs:=SZ.i;have hs1:=SZ1.i;have hs3:=SZ3.i;have hs4:=S4.i;have hw:=Z3.i.O.j;go_wp2_with fail;refine aN (kSh.zI rfl _ rfl Z6.i.R (Sh.r _)) rfl ?_;refine⟨_,rfl,⟨H.i.b.lD,HN.i.1,?_,HN.i.2,?_,rfl,?_,H.i.b.fK,H.i.b.no,H.i.b.S⟩,Z6.i.O⟩
 ·exact iH (Ih (jE (jE O3.i B4.i) B5.i) FS.i (by omega)) (by omega)
 ·exact iH (Ih (jE O2.i B5.i) FS.i (by simp;omega)) (by simp;omega)
 ·exact iH (Ih O5.i FS.i (by omega)) (by omega)
theorem StO.r{M:Int}{B:Nat}{X:Sh}(h:StO B W X s)(hi:qm M e s):StR W W.a.j X s:=by
 have hf:=hi.Uz;have hl:=hi.fl.len;obtain⟨_,⟨r1,r2⟩,_⟩:=tC hi.cn;have h1:=h.bn;have h2:=h.hn;have h3:=h.fn;refine⟨h.lD,iE.iG h.bn h.b,iE.iG h.hn h.h,iE.iG h.fn h.f,h.fK,h.no,h.S,hi.fi,fun y hy=>?_,fun y hy=>?_,by omega,by omega,by omega⟩
 ·have hm:y.E∈s.qO.map (·.E):=by rw[<-hi.nm];exact iZ.2 ⟨y,hy,rfl⟩
  obtain⟨b,hb,e⟩:=iZ.1 hm;have:=hf.2.2 b hb;rw[<-e];omega
 ·have:=hi.fl.Y y hy
  unfold AY oI at this;simp only[bf,decide_eq_true_eq]at this;omega
end
def Eg.OP(x:Eg)(A:Option aT)(n c:Nat):x.ay.c 16 (.a A n c)=({x with cf:={x.cf with qP:=A,iX:=n,qZ:=c}}:Eg).ay:=by simp[Eg.ay,aM,Cn.r,Pc.r,Tc.r,dN,ko,Cn.OP]
def Eg.aiB(x:Eg)(A:Option aT)(n c:Nat):x.ay.c 71 (.a A n c)=({x with pl:={x.pl with rA:=A,rN:=n,rC:=c}}:Eg).ay:=by simp[Eg.ay,aM,Cn.r,Pc.r,Tc.r,dN,ko,Pc.aiB]
def Eg.an'(x:Eg):x.ay[71]? = some (.a x.pl.rA x.pl.rN x.pl.rC):=by simp[Eg.ay,aD,Cn.r,Pc.r,Tc.r,dN,ko,Pc.ay]
def Ni.rH{W W':ak}{q:Nat}{e:En}{s:rE}{x:Eg}{q2 g:Nat}{sl sl':List (Option Fw)}{l':List Fw}(h:Ni W q e s x q2 g sl)(hf:jM [q2,g] W W')(ht:Ls W' q2 g e.key e.c.dS sl' l')(hl:sl'.a=sl.a):Ni W' q e {s with h:=l'} x q2 g sl':=by
 have o:∀b,b∈sI x->b∉[q2,g]:=fun b hm=>by have:=h.Nj b hm;simp;omega
 have hs:=hf.j;have hq:=h.nq;exact⟨hf.box h.eg (by simp;omega),h.key,h.cf,h.lD,h.vs.keep hf (fun b hm=>o b (dX.2 (.a hm))),h.bk.keep hf (fun b hm=>o b (dX.2 (.b (.a hm)))),h.hl.keep hf (fun b hm=>o b (dX.2 (.b (.b (.a hm))))),h.fl,ht,by rw[hl];exact h.rm,h.nq,fun b hm=>by have:=h.Nj b hm;omega,h.fK,h.no,h.S⟩
def aeZ{W:ak}{b o:Nat}{c:Array aB}{xs:List aB}(h:dM W b c)(hc:∀j,j<xs.a->c[o+j]? = xs[j]?):W.rangeAt b o xs:=by
 intro j v hj;have hlt:j<xs.a:=by
  rcases aZ j xs.a with h1|h1
  ·exact h1
  ·rw[aS h1]at hj;cases hj
 rw[h.J.1,hc j hlt,hj]
def aoE{W:ak}{b:Nat}{xs:List aB}(h:dM W b xs.c):W.rangeAt b 0 xs:=aeZ h (fun j _=>by rw[bl,dW])
@[go_sem]theorem aAV(W:ak)(key:Vector UInt8 16)(cf:Cn)(pl:Pc)(A:Option aT)(n c:Nat)(ti no:Int)(ct:Vector Int 11):(uW 123 #[(0,.d (key.a.map bv).c),(1,.d cf.ay),(2,.d pl.ay),(3,.a A n c),(7,.b .a ti),(8,.b .a no),(9,.d (ct.a.map (aI .a)).c)]).G ah W = .Y (.d (Eg.mk key cf pl A n c none 0 0 none Dx ti no ct).ay) W:=aog W key cf pl A n c ti no ct
def aoF(X:Sh)(j:Nat)(h:j<11):X.ay[6+j]? = (X.S.a.map (aI .a))[j]?:=by
 rw[Sh.adV X j h];simp[au,h]
def P9(W:ak)(key:Vector UInt8 16)(c:Cn)(vs:List Vp)(s:rE)(r:lU)(W':ak):Prop:=
 ∃q x q2 g sl,r=.a (.I #[.c (some ⟨q,0,none⟩),.b .a 0])/\Ag W' q ⟨key,c,vs⟩ s x q2 g sl/\aL W.a.j W W'/\(W.a.j<=q/\W.a.j<=q2/\W.a.j<=g)/\∀b∈sI x,W.a.j<=b
def Qa(key:Vector UInt8 16)(c:Cn)(vs:List Vp)(X:Sh)(s:rE)(w:ak)(hV:iE Vp.ay 20 w w.a.j c.qP c.iX vs)(hvc:c.iX<=c.qZ)(hvn:c.iX<=100000)(hS:StR w w.a.j X s)(hbl:s.qO.a<=100000)(hhl:s.r.a<=100000)(hfl:s.h.a<=100000)(hJ:xG c vs s=false):
 aP ah 19 #[.d (jc key),.d c.ay,.d X.ay] w (fT w (.I #[.c none,.b .a 1])):=by
 have h0:=(((Bx.start w).new (jc key) 22).new c.ay 29).new X.ay 37;rw[show((w.alloc (.D (jc key) 22)).alloc (.D c.ay 29)).a.j=w.a.j+2 by simp,show(w.alloc (.D (jc key) 22)).a.j=w.a.j+1 by simp]at h0;have Z0:=ab h0;have CR:=ab (fun w1 (hb:aL w.a.j w w1)=>Ee c vs X s w1 (hV.go hb) hvc hvn (hS.go hb) hbl hhl hfl false hJ);clear h0 hV hvc hvn hS hbl hhl hfl hJ;go_enter Tryz.func19,Tryz.ntmps19;go_upto_region 1 with fail
 generalize((w.alloc (.D (jc key) 22)).alloc (.D c.ay 29)).alloc (.D X.ay 37)=w0 at Z0 ⊢;obtain⟨x1,x2,x3,x4⟩:=Z0.i.b1.J;obtain⟨y1,y2,y3,y4⟩:=Z0.i.R.J;go_wp2_with (go_at_call 15;(with_reducible refine(CR.i _ Z0.i.O).e ?_);rintro e w1 ⟨rfl,hb1⟩;have Z1:=ab (Z0.i.go hb1);clear hb1);go_ret2;exact⟨rfl,Z1.i.O⟩
def Mi(key:Vector UInt8 16)(c:Cn)(vs:List Vp)(X:Sh)(s:rE)(w:ak)(hV:iE Vp.ay 20 w w.a.j c.qP c.iX vs)(hvc:c.iX<=c.qZ)(hvn:c.iX<=100000)(hS:StR w w.a.j X s)(hJ:xG c vs s=true):
 aP ah 19 #[.d (jc key),.d c.ay,.d X.ay] w (P9 w key c vs s):=by
 have hi:=Xa key hJ hS.oQ;have aaK:=hi.Uz;have hlen:=hi.fl.len;obtain⟨_,⟨hr1,hr2⟩,_⟩:=tC hi.cn;simp only at hlen hr1 hr2;have h0:=(((Bx.start w).new (jc key) 22).new c.ay 29).new X.ay 37;rw[show((w.alloc (.D (jc key) 22)).alloc (.D c.ay 29)).a.j=w.a.j+2 by simp,show(w.alloc (.D (jc key) 22)).a.j=w.a.j+1 by simp]at h0;have Z0:=ab h0;have CR:=ab (fun w1 (hb:aL w.a.j w w1)=>Ee c vs X s w1 (hV.go hb) hvc hvn (hS.go hb) (by omega) (by omega) (by omega) true hJ);have HI:=ab hi;have HS:=ab hS;have HV:=ab hV;have HVN:=ab hvn;have HFW:=ab aaK;have HRM:=ab (show(1<=c.dS/\c.dS<=4096)/\s.h.a<=4096 by omega);clear h0 hV hvc hvn hS hJ hi aaK hlen hr1 hr2;go_enter Tryz.func19,Tryz.ntmps19;go_upto_region 1 with fail
 have SZ0:=ab (show w.a.j+2<(((w.alloc (.D (jc key) 22)).alloc (.D c.ay 29)).alloc (.D X.ay 37)).a.j by simp);generalize((w.alloc (.D (jc key) 22)).alloc (.D c.ay 29)).alloc (.D X.ay 37)=w0 at Z0 SZ0 ⊢;rw[show w.a.j+1+1=w.a.j+2 from rfl];obtain⟨x1,x2,x3,x4⟩:=Z0.i.b1.J;obtain⟨y1,y2,y3,y4⟩:=Z0.i.R.J;go_upto_region 3 with(go_at_call 15;(with_reducible refine(CR.i _ Z0.i.O).e ?_);rintro e w1 ⟨rfl,hb1⟩;have Z1:=ab (Z0.i.go hb1);have SZ1:=ab (eF SZ0.i hb1.j);clear hb1)
 clear x1 x2 x3 x4 y1 y2 y3 y4;have KS:=ab (fun(w':ak) (h:Bx [(w.a.j+2,X.ay),(w.a.j+1,c.ay),(w.a.j,jc key)] w w')=>show w'.rangeAt w.a.j 0 (key.a.map bv)/\(yY 29 (.c (some ⟨w.a.j+1,0,none⟩))).G ah w' = .Y (.d c.ay) w'/\(yY 32 (.c (some ⟨w.a.j+2,0,none⟩))).G ah w' = .Y (.d (Pc.mk X.lD X.b.A X.b.n X.b.c).ay) w'/\w'.b ⟨w.a.j+2,2,none⟩=some (.a X.h.A X.h.n X.h.c)/\w'.b ⟨w.a.j+2,4,none⟩=some (.b .a X.fK)/\w'.b ⟨w.a.j+2,5,none⟩=some (.b .a X.no)/\w'.rangeAt (w.a.j+2) 6 (X.S.a.map (aI .a))by
  refine⟨aoE h.b2,Qf.ni h.b1 (Cn.r _),kPc.Ed h.R 0 (Sh.Hg X) (by rw[Sh.r];omega),(h.R.J.1 2).trans (Sh.RV X),(h.R.J.1 4).trans (Sh.ahZ X),(h.R.J.1 5).trans (Sh.ah0 X),?_⟩;exact aeZ (o:=6) h.R (fun j hj=>aoF X j (by simpa using hj)))
 have CH:=ab (fun(w1:ak) (hb:aL w.a.j w w1)=>MG s.r X.h.A X.h.n X.h.c w1 (HS.i.h.go hb) (by have:=HS.i.h.1;have:=HFW.i;omega));unfold ClP at CH;have hU:=qH;have hI:(ah.l 22).map (·.j)=some (key.a.map bv).a:=by rw[bV,nV];kernel_rfl
 have hU2:=Gc;have hI2:(ah.l 35).map (·.j)=some (X.S.a.map (aI .a)).a:=by rw[bV,nV];kernel_rfl
 refine wp_region_held_drew (S:=(fun w'=>w'.rangeAt w.a.j 0 (key.a.map bv)/\(yY 29 (.c (some ⟨w.a.j+1,0,none⟩))).G ah w' = .Y (.d c.ay) w'/\(yY 32 (.c (some ⟨w.a.j+2,0,none⟩))).G ah w' = .Y (.d (Pc.mk X.lD X.b.A X.b.n X.b.c).ay) w'/\w'.b ⟨w.a.j+2,2,none⟩=some (.a X.h.A X.h.n X.h.c)/\w'.b ⟨w.a.j+2,4,none⟩=some (.b .a X.fK)/\w'.b ⟨w.a.j+2,5,none⟩=some (.b .a X.no)/\w'.rangeAt (w.a.j+2) 6 (X.S.a.map (aI .a)))) (by kernel_rfl) ?_ (fun hHeld=>?_)
 ·exact KS.i _ Z1.i.drew
 refine pY (i:=0) rfl (by kernel_rfl) (by kernel_rfl) (by kernel_rfl) (fun _ _ _ h=>h) (yieldsIf_load_mid (by rfl) 22 (.a 3) rfl (w.a.j) 0 rfl (key.a.map bv) _ (fun w' h=>h.1) hU rfl hI) (by assumption) ?_
 try simp only[lM,bL,bR,bK]
 refine pY (i:=11) (v:=?_) rfl (by kernel_rfl) (by kernel_rfl) (by kernel_rfl) (fun _ _ _ h=>h) (Di ⟨by rfl,?_⟩) (by assumption) ?_;rotate_left
 ·intro w' hSw
  try dsimp only at hSw
  go_simp
  try with_reducible rfl
 try simp only[lM,bL,bR,bK]
 refine pY (i:=12) rfl (by kernel_rfl) (by kernel_rfl) (by kernel_rfl) (fun _ _ _ h=>h) (yieldsIf_load_mid (by rfl) 35 (.a 26) rfl (w.a.j+2) 6 rfl (X.S.a.map (aI .a)) _ (fun w' h=>h.2.2.2.2.2.2) hU2 rfl hI2) (by assumption) ?_
 try simp only[lM,bL,bR,bK]
 refine pY (i:=4) (v:=?_) rfl (by kernel_rfl) (by kernel_rfl) (by kernel_rfl) (fun _ _ _ h=>h) (Di ⟨by rfl,?_⟩) (by assumption) ?_;rotate_left
 ·intro w' hSw
  try dsimp only at hSw
  go_simp
  try with_reducible rfl
 try simp only[lM,bL,bR,bK]
 refine pY (i:=5) (v:=?_) rfl (by kernel_rfl) (by kernel_rfl) (by kernel_rfl) (fun _ _ _ h=>h) (Di ⟨by rfl,?_⟩) (by assumption) ?_;rotate_left
 ·intro w' hSw
  try dsimp only at hSw
  go_simp
  try with_reducible rfl
 try simp only[lM,bL,bR,bK]
 refine pY (i:=7) (v:=?_) rfl (by kernel_rfl) (by kernel_rfl) (by kernel_rfl) (fun _ _ _ h=>h) (Di ⟨by rfl,?_⟩) (by assumption) ?_;rotate_left
 ·intro w' hSw
  try dsimp only at hSw
  go_simp
  try with_reducible rfl
 try simp only[lM,bL,bR,bK]
 refine pY (i:=8) (v:=?_) rfl (by kernel_rfl) (by kernel_rfl) (by kernel_rfl) (fun _ _ _ h=>h) (Di ⟨by rfl,?_⟩) (by assumption) ?_;rotate_left
 ·intro w' hSw
  try dsimp only at hSw
  go_simp
  try with_reducible rfl
 try simp only[lM,bL,bR,bK]
 refine pY (i:=9) (v:=?_) rfl (by kernel_rfl) (by kernel_rfl) (by kernel_rfl) (fun _ _ _ h=>h) (Di ⟨by rfl,?_⟩) (by assumption) ?_;rotate_left
 ·intro w' hSw
  try dsimp only at hSw
  go_simp
  try with_reducible rfl
 try simp only[lM,bL,bR,bK]
 refine pY (i:=10) (v:=?_) rfl (by kernel_rfl) (by kernel_rfl) (by kernel_rfl) (fun _ _ _ h=>h) (Di ⟨by rfl,?_⟩) (by assumption) ?_;rotate_left
 ·intro w' hSw
  try dsimp only at hSw
  go_simp
  try with_reducible rfl
 try simp only[lM,bL,bR,bK]
 refine pY (i:=2) (v:=?_) rfl (by kernel_rfl) (by kernel_rfl) (by kernel_rfl) (fun _ _ _ h=>h) (Di ⟨by rfl,?_⟩) (by assumption) ?_;rotate_left
 ·intro w' hSw
  try dsimp only at hSw
  go_simp
  try with_reducible rfl
 try simp only[lM,bL,bR,bK]
 refine pY (i:=1) (v:=.d c.ay) rfl (by kernel_rfl) (by kernel_rfl) (by kernel_rfl) (fun _ _ _ h=>h) (Di ⟨by rfl,fun w' hSw=>?_⟩) (by assumption) ?_
 ·have hrun:=hSw.2.1
  clear hSw;go_simp
 try simp only[lM,bL,bR,bK]
 refine pY (i:=3) (v:=.d (Pc.mk X.lD X.b.A X.b.n X.b.c).ay) rfl (by kernel_rfl) (by kernel_rfl) (by kernel_rfl) (fun _ _ _ h=>h) (Di ⟨by rfl,fun w' hSw=>?_⟩) (by assumption) ?_
 ·have hrun:=hSw.2.2.1
  clear hSw;go_simp
 try simp only[lM,bL,bR,bK]
 refine wpAnyH_ready (rs:=[6]) (by kernel_rfl) (by simp) ?_;refine AllReadyH.cons rfl (fun K hK=>?_) AllReadyH.nil;go_simp;go_wp2_with (go_at_call 59;(with_reducible refine(CH.i _ Z1.i.drew.O).e ?_);rintro r w2 ⟨A1,c1,rfl,ho,hb⟩;have Z2:=ab (Z1.i.drew.go hb);have O2:=ab ho;have SZ2:=ab (show w1.a.j<=w2.a.j from hb.j);clear ho hb);clear hHeld;refine hK.i _ _ (KS.i _ Z2.i) (fun hHeld=>?_);clear hK K
 try simp only[lM,bL,bR,bK]
 refine pY (i:=13) (v:=?_) rfl (by kernel_rfl) (by kernel_rfl) (by kernel_rfl) (fun _ _ _ h=>h) (Di ⟨by rfl,?_⟩) (by assumption) ?_;rotate_left
 ·intro w' hSw
  try dsimp only at hSw
  go_simp
  try with_reducible rfl
 try simp only[lM,bL,bR,bK]
 refine wpAnyH_ready (rs:=[14]) (by kernel_rfl) (by simp) ?_;refine AllReadyH.cons rfl (fun K hK=>?_) AllReadyH.nil;go_simp;clear hHeld;refine hK.i _ _ (KS.i _ (Z2.i.alloc _)) (fun hHeld=>?_);clear hK K;refine pY (i:=15) (v:=?_) rfl (by kernel_rfl) (by kernel_rfl) (by kernel_rfl) (fun _ _ _ h=>h) (Di ⟨by rfl,?_⟩) (by assumption) ?_;rotate_left
 ·intro w' hSw
  try dsimp only at hSw
  go_simp
  try with_reducible rfl
 try simp only[lM,bL,bR,bK]
 refine wpAnyH_done (by kernel_rfl) ?_ _;have ZE:=ab (Z2.i.new (Eg.mk key c ⟨X.lD,X.b.A,X.b.n,X.b.c⟩ A1 X.h.n c1 none 0 0 none Dx X.fK X.no X.S).ay 123);have O3:=ab (vM O2.i (.D (Eg.mk key c ⟨X.lD,X.b.A,X.b.n,X.b.c⟩ A1 X.h.n c1 none 0 0 none Dx X.fK X.no X.S).ay 123));have SZ3:=ab (show w2.a.j<(w2.alloc (.D (Eg.mk key c ⟨X.lD,X.b.A,X.b.n,X.b.c⟩ A1 X.h.n c1 none 0 0 none Dx X.fK X.no X.S).ay 123)).a.j by simp);clear hHeld;go_upto_region 4 with fail
 generalize w2.alloc (.D (Eg.mk key c ⟨X.lD,X.b.A,X.b.n,X.b.c⟩ A1 X.h.n c1 none 0 0 none Dx X.fK X.no X.S).ay 123)=w3 at ZE O3 SZ3 ⊢;have HQ:=ab (show w1.a.j<=w2.a.j from SZ2.i);have HF1:=ab (lF O2.i);have Ey:=ab (show w.a.j<=w1.a.j from Z1.i.O.j);clear SZ2 O2 Z2;generalize w2.a.j=q at ZE SZ3 HQ HF1 ⊢;clear KS CH hU hI hU2 hI2;have HNE:=ab (show∀p∈[(w.a.j+2,X.ay),(w.a.j+1,c.ay),(w.a.j,jc key)],p.1≠q from fun p hp=>by
  have h1:=SZ1.i;have h2:=HQ.i;simp at hp;rcases hp with rfl|rfl|rfl<;>simp<;>omega)
 have CV:=ab (aeX vs c.qP c.iX c.qZ w3 (HV.i.go ZE.i.O) HVN.i);unfold awf at CV;have fv:=(ZE.i.b2.J.1 0).trans (Cn.KX c);go_upto_region 5 with(go_at_call 60;(with_reducible refine CV.i.e ?_);rintro r w4 ⟨A2,c2,rfl,ho,hb⟩;have g16:=(ZE.i.R.go hb).J.2.1 16;have f16:=((ZE.i.R.go hb).J.1 16).trans (Eg.KX _);have Z4:=ab (ZE.i.go hb);have O4:=ab ho;have B4:=ab hb;clear ho hb)
 have Z5:=ab (Z4.i.set HNE.i 16 (.a A2 c.iX c2));rw[Eg.OP]at Z5;have F5:=ab (show jM [q] w3 (w4.F ⟨q,16,none⟩ (.a A2 c.iX c2))from(jM.jD (F:=[q]) B4.i).set ⟨q,16,none⟩ _ (.a (by simp)));have F45:=ab (show jM [q] w4 (w4.F ⟨q,16,none⟩ (.a A2 c.iX c2))from(jM.refl [q] w4).set ⟨q,16,none⟩ _ (.a (by simp)));generalize w4.F ⟨q,16,none⟩ (.a A2 c.iX c2)=w5 at Z5 F5 F45 ⊢;clear g16 f16 fv CV;have O5:=ab (Ih O4.i F45.i SZ3.i);have HBN:=ab (show s.qO.a=X.b.n from HS.i.b.1);have CB:=ab (xO s.qO X.b.A X.b.c w5 (by have h1:=HS.i.b.go Z5.i.O;rw[<-HBN.i]at h1;exact h1) (by have:=HFW.i;omega));unfold aa7 at CB;rw[HBN.i]at CB;have fb:=(Z5.i.b1.J.1 1).trans (Sh.DK X);go_upto_region 6 with(go_at_call 61;(with_reducible refine CB.i.e ?_);rintro r w6 ⟨A3,c3,rfl,ho,hb⟩;have g71:=(Z5.i.R.go hb).J.2.1 71;have f71:=((Z5.i.R.go hb).J.1 71).trans (Eg.an' _);have Z6:=ab (Z5.i.go hb);have O6:=ab ho;have B6:=ab hb;clear ho hb)
 have Z7:=ab (Z6.i.set HNE.i 71 (.a A3 X.b.n c3));rw[Eg.aiB]at Z7;have F7:=ab (show jM [q] w5 (w6.F ⟨q,71,none⟩ (.a A3 X.b.n c3))from(jM.jD (F:=[q]) B6.i).set ⟨q,71,none⟩ _ (.a (by simp)));have F67:=ab (show jM [q] w6 (w6.F ⟨q,71,none⟩ (.a A3 X.b.n c3))from(jM.refl [q] w6).set ⟨q,71,none⟩ _ (.a (by simp)));generalize w6.F ⟨q,71,none⟩ (.a A3 X.b.n c3)=w7 at Z7 F7 F67 ⊢;clear g71 f71 fb CB;have O7:=ab (Ih O6.i F67.i (eF SZ3.i F5.i.j));have CF:=ab (akw key c.dS.g (by have:=HRM.i;omega) (by have:=HRM.i;omega) w7);rw[show((c.dS.g:Nat):Int)=c.dS from lS (by have:=HRM.i;omega)]at CF;unfold as4 at CF;have lk:=Xh.ni Z7.i.b3 (dN _);have fr:=(Z7.i.b2.J.1 2).trans (Cn.OJ c);go_upto_region 7 with(go_at_call 62;(with_reducible refine CF.i.e ?_);rintro r w8 ⟨q2,g,sl,rfl,ht,hrm,hq2,hg,hb⟩;have g74:=(Z7.i.R.go hb).J.2.1 74;have f74:=((Z7.i.R.go hb).J.1 74).trans (Eg.aan _);have Z8:=ab (Z7.i.go hb);have T8:=ab ht;have HQ2:=ab hq2;have HG:=ab hg;have RM:=ab hrm;have B8:=ab hb;clear ht hq2 hg hrm hb)
 have Z9:=ab (Z8.i.set HNE.i 74 (aeN (some q2)));rw[Eg.avU]at Z9;change Hid (Bx _ w (w8.F ⟨q,74,none⟩ (.c (some ⟨q2,0,none⟩))))at Z9;have F9:=ab (show jM [q] w8 (w8.F ⟨q,74,none⟩ (.c (some ⟨q2,0,none⟩)))from(jM.refl [q] w8).set ⟨q,74,none⟩ _ (.a (by simp)));generalize w8.F ⟨q,74,none⟩ (.c (some ⟨q2,0,none⟩))=w9 at Z9 F9 ⊢;clear g74 f74 fr lk CF;obtain⟨x9,hx9,zx⟩:∃x9:Eg,x9=Eg.mk key {c with qP:=A2,iX:=c.iX,qZ:=c2} ⟨X.lD,A3,X.b.n,c3⟩ A1 X.h.n c1 none 0 0 (some q2) Dx X.fK X.no X.S/\Bx ((q,x9.ay)::[(w.a.j+2,X.ay),(w.a.j+1,c.ay),(w.a.j,jc key)]) w w9:=⟨_,rfl,Z9.i⟩
 have HX9:=ab hx9;have ZX:=ab zx;clear hx9 zx Z9;have G79:=ab (show jM [q] w7 w9 from(jM.jD (F:=[q]) B8.i).qA F9.i);have G59:=ab (F7.i.qA G79.i);have G39:=ab (F5.i.qA G59.i);have SS:=ab (show w.a.j<=w1.a.j/\w1.a.j<=q/\q<w3.a.j/\w3.a.j<=w4.a.j/\w4.a.j<=w5.a.j/\w5.a.j<=w6.a.j/\w6.a.j<=w7.a.j/\w7.a.j<=w8.a.j/\w8.a.j<=w9.a.j/\w7.a.j<=q2/\w7.a.j<=g/\q2<w8.a.j/\g<w8.a.j from⟨Ey.i,HQ.i,SZ3.i,B4.i.j,F45.i.j,B6.i.j,F67.i.j,B8.i.j,F9.i.j,HQ2.i,HG.i,T8.i.w.lt.1,T8.i.w.lt.2⟩);have HR9:=ab (show∀b∈sI x9,(w.a.j<=b/\b<w9.a.j)/\b≠q/\b≠q2/\b≠g from fun b hb=>by
  have hss:=SS.i;rw[HX9.i]at hb;rcases dX.1 hb with hb|hb|hb|hb|hb|hb
  ·have:=lF O4.i b hb;omega
  ·have:=lF O6.i b hb;omega
  ·have:=HF1.i b hb;have h2:w1.drew.a.j=w1.a.j:=rfl;omega
  ·cases hb
  ·cases hb
  ·cases hb)
 have E9:=ab (show Ni w9 q ⟨key,c,vs⟩ {s with h:=[]} x9 q2 g sl by
  have hss:=SS.i;have h4:=lF O4.i;have h6:=lF O6.i;have h1:=HF1.i;have h2:w1.drew.a.j=w1.a.j:=rfl;refine⟨ZX.i.R,by rw[HX9.i],by rw[HX9.i],by rw[HX9.i];exact HS.i.lD,?_,?_,?_,by rw[HX9.i],T8.i.keep F9.i (by simp;omega) (by simp;omega),RM.i,by omega,fun b hb=>by have:=HR9.i b hb;omega,by rw[HX9.i];exact HS.i.fK,by rw[HX9.i];exact HS.i.no,by rw[HX9.i];exact HS.i.S⟩
  ·rw[HX9.i]
   exact(iE.iG HV.i.1 O5.i).keep G59.i (fun b hb=>by have:=h4 b hb;simp;omega)
  ·rw[HX9.i]
   exact(iE.iG HBN.i O7.i).keep G79.i (fun b hb=>by have:=h6 b hb;simp;omega)
  ·rw[HX9.i]
   exact(iE.iG HS.i.h.1 O3.i).keep G39.i (fun b hb=>by have:=h1 b hb;simp;omega))
 clear O3 O5 O7 O4 O6 G39 G59 G79 F5 F45 F7 F67 F9 B4 B6 B8 HF1 Ey HQ HQ2 HG RM T8 Z7 Z8 Z6 Z5 Z4 ZE;have ff:=(ZX.i.b1.J.1 3).trans (Sh.adt X);have HFN:=ab (show s.h.a=X.f.n from HS.i.f.1);go_wp2;clear ff;go_loopw [58] (fun s58 wr=>∃(k:Nat)(sl':List (Option Fw)),k<=X.f.n/\s58=.b .a k/\Ls wr q2 g key c.dS sl' (s.h.d k)/\sl'.a=sl.a/\jM [q2,g] w9 wr) (fun s58 _=>X.f.n-(intOf s58).g)
 case atStart=>exact⟨0,sl,by omega,rfl,by have:=E9.i.h;exact this,rfl,jM.refl _ _⟩
 case round=>
  obtain⟨k,sl',hkn,rfl,ht,hsl,hf⟩:=hrel;have HT:=ab ht;have HSL:=ab hsl;have HF:=ab hf;have BW:=ab (show aL w.a.j w wr from ZX.i.O.trans (hf.uq (fun b hb=>by have:=SS.i;simp at hb;omega) ZX.i.O.j));have EB:=ab (show Ni wr q ⟨key,c,vs⟩ {s with h:=s.h.d k} x9 q2 g sl' from E9.i.rH hf ht hsl);clear ht hsl hf;have hfs:X.f.n<=4096:=by have:=HRM.i;have:=HFN.i;omega
  by_cases hkt:k<X.f.n
  ·have hlt2:(k:Int)<X.f.n:=by omega
   have RF:=ab (show iE Fw.ay 41 wr wr.a.j X.f.A X.f.n s.h from HS.i.f.go BW.i);obtain⟨b,o,hA,hbl,hh,hcl⟩:=iE.fw RF.i hkt;have HPN:=ab (anI (k:=k) HI.i.fl (show k<s.h.a by rw[HFN.i];exact hkt));simp only at HPN;obtain⟨y,hy⟩:=rT (s.h.b k jw);have HYN:=ab (show y.E.a<=1000000 by
    have:=HI.i.fl.Y y (by rw[<-hy];exact yc jw s.h k (by rw[HFN.i];exact hkt));unfold AY oI at this;simp only[bf,decide_eq_true_eq]at this;omega)
   rw[hy]at hcl HPN;have EY:=ab (EB.i.go ((aG _ _).alloc (av _) (.D y.ay 86)));have BY:=ab (dM.new wr y.ay 86);have FY:=ab (HF.i.alloc (.D y.ay 86));have SY:=ab (show w9.a.j<=wr.a.j from HF.i.j);rw[hA];go_upto_region 10 with fail
   generalize wr.alloc (.D y.ay 86)=w11 at EY BY FY ⊢;have HPY:=ab (show wr.a.j∉[q2,g]by have:=SS.i;have:=SY.i;simp;omega);have KP:=ab (fun(w':ak) (h0:dM w' wr.a.j y.ay) (h1:dM w' q x9.ay)=>show(ML (.c (some ⟨wr.a.j,0,none⟩))).G ah w' = .Y (.d y.ay) w'/\w'.b ⟨q,74,none⟩=some (.c (some ⟨q2,0,none⟩))from⟨kE h0,by rw[h1.J.1 74,Eg.aan,E9.i.fl];rfl⟩);have CU:=ab (aai (EY.i.go (iC _)).h (by have:=HRM.i;exact this.1.1) (EY.i.go (iC _)).rm y HYN.i);unfold ag5 at CU;have HQN:=ab (show q∉[q2,g]by have:=SS.i;simp;omega);clear hh hcl hbl hy;go_region_held_law (fun w'=>(ML (.c (some ⟨wr.a.j,0,none⟩))).G ah w' = .Y (.d y.ay) w'/\w'.b ⟨q,74,none⟩=some (.c (some ⟨q2,0,none⟩)))
    (first|exact KP.i _ BY.i.drew (EY.i.go (iC _)).eg|exact KP.i _ (F12.i.box BY.i.drew HPY.i) (F12.i.box (EY.i.go (iC _)).eg HQN.i)|go_keep)
    (first|(go_at_call 63;(with_reducible refine CU.i.e ?_);rintro r w12 ⟨rfl,⟨sl2,ht2,hl2⟩,hf2⟩;have F12:=ab hf2;have T12:=ab ht2;have L12:=ab hl2;clear hf2 ht2 hl2))
   go_wp2;go_roundw
   case rel=>exact⟨k+1,sl2,by omega,by go_num,by have:=T12.i;rw[HPN.i]at this;exact this,by rw[L12.i];exact HSL.i,(FY.i.drewN 1).qA F12.i⟩
   case measure=>simp[intOf]<;>omega
  ·obtain rfl:k=X.f.n:=by omega
   have hnl:¬((X.f.n:Nat):Int)<X.f.n:=by omega
   have EB2:=ab (show Ni wr q ⟨key,c,vs⟩ s x9 q2 g sl' by
    have:=EB.i;rw[aJ (by have:=HFN.i;omega)]at this;exact this)
   have CB:=ab (Kc EB2.i HI.i);unfold ace at CB;clear hkt;go_wp2_with (go_at_call 64;(with_reducible refine CB.i.e ?_);rintro r w13 ⟨rfl,⟨x',hE,hrw⟩,hf⟩;have HE:=ab hE;have HRW:=ab hrw;have HFB:=ab hf;clear hE hrw hf);go_ret2;have hss:=SS.i;have hsw:=BW.i.j;exact⟨q,x',q2,g,sl',rfl,HE.i,BW.i.trans (HFB.i.uq (fun b hb=>by simp at hb;omega) hsw),by omega,fun b hb=>by
    rcases HRW.i b hb with h|h
    ·exact(HR9.i b h).1.1
    ·omega⟩
section
def aiF(W:ak):StR W W.a.j Hf zq:=⟨rfl,iE.nil _ _,iE.nil _ _,iE.nil _ _,rfl,rfl,rfl,(fun y hy=>by cases hy),(fun y hy=>by cases hy),(fun y hy=>by cases hy),by simp[Hf,DV],by simp[Hf,DV],by simp[Hf,DV]⟩
def P9.aFS{w w1:ak}{key:Vector UInt8 16}{c:Cn}{vs:List Vp}{s:rE}{r:lU}{W':ak}(h:P9 w1 key c vs s r W')(hb:aL w.a.j w w1):P9 w key c vs s r W':=by
 obtain⟨q,x,q2,g,sl,h1,h2,h3,h4,h5⟩:=h;have:=hb.j;exact⟨q,x,q2,g,sl,h1,h2,hb.trans (h3.e hb.j),by omega,fun b hm=>by have:=h5 b hm;omega⟩
def akX{c:Cn}{vs:List Vp}(h:yG c vs=true):xG c vs zq=true:=(ZJ (bJ 16 0) h).right (by omega)
def akY(key:Vector UInt8 16)(c:Cn)(vs:List Vp)(w:ak)(hV:iE Vp.ay 20 w w.a.j c.qP c.iX vs)(hvc:c.iX<=c.qZ)(hvn:c.iX<=100000)(hJ:yG c vs=true):
 aP ah 23 #[.d (jc key),.d c.ay] w (P9 w key c vs zq):=by
 have h0:=((Bx.start w).new (jc key) 22).new c.ay 29;rw[show(w.alloc (.D (jc key) 22)).a.j=w.a.j+1 by simp]at h0;have Z0:=ab h0;have CR:=ab (fun w1 (hb:aL w.a.j w w1)=>Mi key c vs Hf zq w1 (hV.go hb) hvc hvn (aiF w1) (akX hJ));clear h0 hV hvc hvn hJ;go_enter Tryz.func23,Tryz.ntmps23;go_upto_region 1 with fail
 generalize(w.alloc (.D (jc key) 22)).alloc (.D c.ay 29)=w0 at Z0 ⊢;have l1:=Xh.ni Z0.i.b1 (dN _);have l2:=Qf.ni Z0.i.R (Cn.r _);go_wp2_with (go_at_call 19;(with_reducible refine(CR.i _ Z0.i.O).e ?_);rintro e w1 ⟨q,x,q2,g,sl,rfl,h2,h3,h4,h5⟩;have H:=ab (show P9 w key c vs zq (.a (.I #[.c (some ⟨q,0,none⟩),.b .a 0])) w1 from P9.aFS ⟨q,x,q2,g,sl,rfl,h2,h3,h4,h5⟩ Z0.i.O);clear h2 h3 h4 h5);go_ret2;exact H.i
def aoI(key:Vector UInt8 16)(c:Cn)(vs:List Vp)(w:ak)(hV:iE Vp.ay 20 w w.a.j c.qP c.iX vs)(hvc:c.iX<=c.qZ)(hvn:c.iX<=100000)(hJ:yG c vs=false):
 aP ah 23 #[.d (jc key),.d c.ay] w (fT w (.I #[.c none,.b .a 1])):=by
 have h0:=((Bx.start w).new (jc key) 22).new c.ay 29;rw[show(w.alloc (.D (jc key) 22)).a.j=w.a.j+1 by simp]at h0;have Z0:=ab h0;have CR:=ab (fun w1 (hb:aL w.a.j w w1)=>Qa key c vs Hf zq w1 (hV.go hb) hvc hvn (aiF w1) (by simp[zq]) (by simp[zq]) (by simp[zq]) (by unfold xG W9;rw[hJ];rfl));clear h0 hV hvc hvn hJ;go_enter Tryz.func23,Tryz.ntmps23;go_upto_region 1 with fail
 generalize(w.alloc (.D (jc key) 22)).alloc (.D c.ay 29)=w0 at Z0 ⊢;have l1:=Xh.ni Z0.i.b1 (dN _);have l2:=Qf.ni Z0.i.R (Cn.r _);go_wp2_with (go_at_call 19;(with_reducible refine(CR.i _ Z0.i.O).e ?_);rintro e w1 ⟨rfl,hb1⟩;have Z1:=ab (Z0.i.go hb1);clear hb1);go_ret2;exact⟨rfl,Z1.i.O⟩
structure TbO(B:Nat)(W:ak)(X:Tc)(t:Tl):Prop where
 nn:t.h.a=X.rW
 n:W.c B 9 1 (.a X.tF X.rW X.Da) X.rW (t.h.h fun y=>(txA y).a)
 sn:t.uR.a=X.qC
 s:W.c B 3 1 (.a X.ru X.qC X.yK) X.qC (t.uR.h fun y=>(Ho y).a)
def aAY(W:ak)(t:Tl)(r:lU)(W':ak):Prop:=∃X:Tc,r=.a (.d X.ay)/\TbO W.a.j W' X t/\aL W.a.j W W'
def TlR.aFT{W:ak}{A1 A2:Option aT}{n1 n2:Nat}{t:Tl}(h:TlR W A1 n1 A2 n2 t):RdI W W.a.j A2 n2 t.uR:=by
 obtain⟨_,h2,h3⟩:=h;subst h2;rcases h3 with⟨h4,rfl⟩|⟨g,d,rfl,h4,h5⟩
 ·rw[bG h4];exact iE.nil _ _
 ·exact RdI.box h4 (fun j hj=>by rw[bl];exact h5 j hj)
def TlR.texts{W:ak}{A1 A2:Option aT}{n1 n2:Nat}{t:Tl}(h:TlR W A1 n1 A2 n2 t):RdT W W.a.j A1 n1 t.h:=h.1
variable {W W':ak} {q:Nat} {e:En} {s:rE} {x:Eg} {q2 g:Nat} {sl:List (Option Fw)}
theorem ahn(t:Tl)(hE:dM W q x.ay)(hT:RdT W W.a.j x.h.tF x.h.rW t.h)(hI:RdI W W.a.j x.h.ru x.h.qC t.uR)(hn:t.h.a<=100000)(hs:t.uR.a<=100000):aP ah 31 #[.c (some ⟨q,0,none⟩)] W (aAY W t):=by
 have Z0:=ab ((Bx.start W).new Dx.ay 72);have HE:=ab hE;have HT:=ab hT;have HI:=ab hI;have HN:=ab (show t.h.a=x.h.rW/\t.uR.a=x.h.qC from⟨hT.1,hI.1⟩);have HS:=ab (show x.h.rW<=100000/\x.h.qC<=100000 by rw[<-HN.i.1,<-HN.i.2];exact⟨hn,hs⟩);clear hE hT hI hn hs;go_enter Tryz.func31,Tryz.ntmps31;go_upto_region 1 with fail
 have SZ0:=ab (show W.a.j<(W.alloc (.D Dx.ay 72)).a.j by simp);generalize W.alloc (.D Dx.ay 72)=w0 at Z0 SZ0 ⊢;have KS:=ab (fun(w':ak) (h1:dM w' q x.ay)=>show w'.b ⟨q,75,none⟩=some (.a x.h.tF x.h.rW x.h.Da)/\w'.b ⟨q,76,none⟩=some (.a x.h.ru x.h.qC x.h.yK)from⟨(h1.J.1 75).trans (Eg.FU x),(h1.J.1 76).trans (Eg.yL x)⟩);have CN:=ab (fun(w:ak) (hb:aL W.a.j W w)=>aeW t.h x.h.tF x.h.rW x.h.Da w (HT.i.go hb) HS.i.1);have CI:=ab (fun(w:ak) (hb:aL W.a.j W w)=>ahk t.uR x.h.ru x.h.qC x.h.yK w (HI.i.go hb) HS.i.2);unfold aoA at CN;unfold awe at CI;go_region_held_law (fun w'=>w'.b ⟨q,75,none⟩=some (.a x.h.tF x.h.rW x.h.Da)/\w'.b ⟨q,76,none⟩=some (.a x.h.ru x.h.qC x.h.yK))
  (first|exact KS.i _ (HE.i.go Z0.i.drew.O)|exact KS.i _ (HE.i.go Z1.i.O)|exact KS.i _ (HE.i.go Z2.i.O)|exact KS.i _ (HE.i.go Z3.i.O)|go_keep)
  (first
  | (go_at_call 88;(with_reducible refine(CN.i _ Z0.i.drew.O).e ?_);rintro r w1 ⟨A1,c1,rfl,ho,hb⟩;have Z1:=ab (Z0.i.drew.go hb);have O1:=ab ho;have S1:=ab (show w0.a.j<=w1.a.j from hb.j);clear ho hb)
  | (go_at_call 89;(with_reducible refine(CI.i _ Z1.i.O).e ?_);rintro r w2 ⟨A2,c2,rfl,ho,hb⟩;have Z2:=ab (Z1.i.go hb);have O2:=ab ho;have B2:=ab hb;have th:=Z2.i.R.K 0 2 (aX (Tc.r Dx).symm);have Z3:=ab (show Bx [(W.a.j,(Tc.mk A1 x.h.rW c1 A2 x.h.qC c2).ay)] W (gX w2 W.a.j 0 (Tc.mk A1 x.h.rW c1 A2 x.h.qC c2).ay)from Z2.i.put (fun r hr=>by cases hr) _ (by rw[Tc.r,Tc.r]));clear ho hb))
 have FS:=ab (show jM [W.a.j] w2 (gX w2 W.a.j 0 (Tc.mk A1 x.h.rW c1 A2 x.h.qC c2).ay)from yO w2 W.a.j 0 _);have hs0:=SZ0.i;have hs1:=S1.i;go_wp2_with fail;refine aN (kTc.zI rfl _ rfl Z3.i.R (Tc.r _)) rfl ?_;refine⟨_,rfl,⟨HN.i.1,?_,HN.i.2,?_⟩,Z3.i.O⟩
 ·exact iH (Ih (jE O1.i B2.i) FS.i (by simp;omega)) (by simp;omega)
 ·exact iH (Ih O2.i FS.i (by omega)) (by omega)
end
section
open Go.ChangeShapes Go.WideShapes Go.ChangeAt Go.RowKit Go.Deep
def bA(b:UInt8):Array aB:=#[bv b]
def zf:At:=⟨0,none,0,0,⟨0,iO,[],0⟩,[],false⟩
section
variable {H:Type} {enc:bE×aB->H} {w:ak} {base:Nat} {held:Bool} {fuel:Nat} {cs:List aB} {x:vR H×List oZ}
theorem arZ(h:kY enc ah w base (fun _=>true) held fuel 98 cs=some x):∃v:Vp,cs=v.ay.a/\True:=by
 obtain⟨xs,n,_,_,hl,hxl,hf⟩:=om Tryz.underlying98 h;rw[show ah.a 98=20 by kernel_rfl]at hl;obtain⟨y0,h0⟩:=Dr hxl hf 0 _ rfl;obtain⟨y1,h1⟩:=Dr hxl hf 1 _ rfl;obtain⟨y2,h2⟩:=Dr hxl hf 2 _ rfl;obtain⟨y3,h3⟩:=Dr hxl hf 3 _ rfl;obtain⟨a,ha⟩:=Fv h0;obtain⟨p,hp,_,_⟩:=nE (by kernel_rfl) h1;obtain⟨q,hq,_,_⟩:=nE (by kernel_rfl) h2;obtain⟨t,ht,_⟩:=DataW.trod_bool (by kernel_rfl) h3;have c0:(cs.f 0).d 17=a.ay.a:=ha;have c1:(cs.f 17).d 1=[.b .a p]:=hp;have c2:(cs.f 18).d 1=[.b .a q]:=hq;have c3:(cs.f 19).d 1=[.e t]:=ht;refine⟨⟨a,p,q,t⟩,?_,trivial⟩;have e:=rP cs 0 17;rw[c0,rP cs (0+17) 1,c1,rP cs (0+17+1) 1,c2,rP cs (0+17+1+1) 1,c3,gq (i:=0+17+1+1+1) (by omega)]at e;simpa[Vp.ay]using e
theorem ar0(h:kY enc ah w base (fun _=>true) held fuel 29 cs=some x):∃(c:Cn)(l:List Vp),cs=c.ay.a/\iE Vp.ay 20 w w.a.j c.qP c.iX l/\c.iX<=c.qZ/\c.qZ<=9223372036854775807:=by
 obtain⟨xs,n,_,_,hl,hxl,hf⟩:=om nK h;rw[show ah.a 29=54 by kernel_rfl]at hl;obtain⟨y0,h0⟩:=Dr hxl hf 0 _ rfl;obtain⟨y1,h1⟩:=Dr hxl hf 1 _ rfl;obtain⟨y2,h2⟩:=Dr hxl hf 2 _ rfl;obtain⟨y3,h3⟩:=Dr hxl hf 3 _ rfl;obtain⟨y4,h4⟩:=Dr hxl hf 4 _ rfl;obtain⟨y5,h5⟩:=Dr hxl hf 5 _ rfl;obtain⟨y6,h6⟩:=Dr hxl hf 6 _ rfl;obtain⟨y7,h7⟩:=Dr hxl hf 7 _ rfl;obtain⟨y8,h8⟩:=Dr hxl hf 8 _ rfl;obtain⟨y9,h9⟩:=Dr hxl hf 9 _ rfl;obtain⟨y10,h10⟩:=Dr hxl hf 10 _ rfl;obtain⟨y11,h11⟩:=Dr hxl hf 11 _ rfl;obtain⟨A,k,c,l,hs,hnc,hc,hll,hrd,hsp,_⟩:=Ky Vp.ay (fun _=>True) 20 Vp.r (by kernel_rfl:ah.underlying _=some (.a 98)) (by kernel_rfl) (by omega) (fun n cs y hy=>arZ hy) h0;obtain⟨z1,e1,_,_⟩:=nE (by kernel_rfl) h1;obtain⟨z2,e2,_,_⟩:=nE (by kernel_rfl) h2;obtain⟨z3,e3⟩:=Zx (k:=6) (e:=3) (by kernel_rfl) (by kernel_rfl) (by kernel_rfl) (by kernel_rfl) h3;obtain⟨z4,e4,_,_⟩:=nE (by kernel_rfl) h4;obtain⟨z5,e5,_,_⟩:=nE (by kernel_rfl) h5;obtain⟨z6,e6⟩:=Nv (k:=6) (e:=5) (by kernel_rfl) (by kernel_rfl) (by kernel_rfl) (by kernel_rfl) h6;obtain⟨z7,e7⟩:=Fv h7;obtain⟨z8,e8⟩:=Fv h8;obtain⟨z9,e9,_,_⟩:=nE (by kernel_rfl) h9;obtain⟨za,ea,_,_⟩:=nE (by kernel_rfl) h10;obtain⟨zb,eb,_,_⟩:=nE (by kernel_rfl) h11;have c0:(cs.f 0).d 1=[.a A k c]:=hs;have c1:(cs.f 1).d 1=[.b .a z1]:=e1;have c2:(cs.f 2).d 1=[.b .a z2]:=e2;have c3:(cs.f 3).d 6=z3.a.map (aI .a):=e3;have c4:(cs.f 9).d 1=[.b .a z4]:=e4;have c5:(cs.f 10).d 1=[.b .a z5]:=e5;have c6:(cs.f 11).d 6=z6.a.map bv:=e6;have c7:(cs.f 17).d 17=z7.ay.a:=e7;have c8:(cs.f 34).d 17=z8.ay.a:=e8;have c9:(cs.f 51).d 1=[.b .a z9]:=e9;have ca:(cs.f 52).d 1=[.b .a za]:=ea;have cb:(cs.f 53).d 1=[.b .a zb]:=eb;refine⟨⟨A,k,c,z1,z2,z3,z4,z5,z6,z7,z8,z9,za,zb⟩,l,?_,⟨hll,hrd,hsp⟩,hnc,hc⟩;have e:=rP cs 0 1;rw[c0,rP cs (0+1) 1,c1,rP cs (0+1+1) 1,c2,rP cs (0+1+1+1) 6,c3,rP cs (0+1+1+1+6) 1,c4,rP cs (0+1+1+1+6+1) 1,c5,rP cs (0+1+1+1+6+1+1) 6,c6,rP cs (0+1+1+1+6+1+1+6) 17,c7,rP cs (0+1+1+1+6+1+1+6+17) 17,c8,rP cs (0+1+1+1+6+1+1+6+17+17) 1,c9,rP cs (0+1+1+1+6+1+1+6+17+17+1) 1,ca,rP cs (0+1+1+1+6+1+1+6+17+17+1+1) 1,cb,gq (i:=0+1+1+1+6+1+1+6+17+17+1+1+1) (by omega)]at e;simpa[Cn.ay,Lj,Bl]using e
end
section
variable {H:Type} {enc:bE×aB->H} {W:ak} {base:Nat} {v:aB} {d:vR H} {ps:List oZ} {held:Bool}
theorem aoJ(hval:I5 ah W .any base 22 v)(h:DataW.Trod enc ah W 0 (fun _=>true) held 22 v d ps):∃k:Vector UInt8 16,v=.d (jc k):=by
 obtain⟨cs,rfl⟩:∃cs,v=.d cs:=by
  simp only[I5,qH]at hval;obtain⟨cs,h1,_⟩:=hval;exact⟨cs,h1⟩
 obtain⟨fuel,hf⟩:=h;obtain⟨k,hk⟩:=Nv (k:=16) (e:=5) (by kernel_rfl) (by kernel_rfl) (by kernel_rfl) (by kernel_rfl) hf;have hc:cs.a=k.a.map bv:=hk;exact⟨k,by unfold jc;rw[<-hc]⟩
theorem ar1(hval:I5 ah W .any base 29 v)(h:DataW.Trod enc ah W 0 (fun _=>true) held 29 v d ps):∃(c:Cn)(l:List Vp),v=.d c.ay/\iE Vp.ay 20 W W.a.j c.qP c.iX l/\c.iX<=c.qZ/\c.qZ<=9223372036854775807:=by
 obtain⟨cs,rfl,_⟩:=okWide_struct nK hval;obtain⟨fuel,hf⟩:=h;obtain⟨c,l,hcs,hr⟩:=ar0 hf;have hc:cs.a=c.ay.a:=hcs;exact⟨c,l,by rw[Ah.1 hc],hr⟩
end
end
structure OcR(W:ak)(o:Oc)(u:Ou):Prop where
 err:o.err=u.err
 lu:o.lu=u.lu
 GN:o.GN=u.GN
 lD:o.lD=u.lD
 E:o.E=u.E
 i:gu W W.a.j o.XE o.Yw u.i
def OuR.rd{B:Nat}{W:ak}{o:Oc}{u:Ou}(h:OuR B W o u):OcR W o u:=⟨h.err,h.lu,h.GN,h.lD,h.E,gu.iG h.vL⟩
def OcR.go{W W':ak}{o:Oc}{u:Ou}(h:OcR W o u)(hb:aL W.a.j W W'):OcR W' o u:=⟨h.err,h.lu,h.GN,h.lD,h.E,h.i.upon hb⟩
def akZ(c:Cn)(w:ak):aP ah 13 #[.d c.ay] w (fT w (.e (decide (c.iX<=20)&&decide (c.j<=260)))):=by
 have Z0:=ab ((Bx.start w).new c.ay 29);obtain⟨k1,h1⟩:∃k,decide (c.iX<=20)=k:=⟨_,rfl⟩
 obtain⟨k2,h2⟩:∃k,decide (c.j<=260)=k:=⟨_,rfl⟩
 have h1':decide ((c.iX:Int)<=20)=k1:=by rw[<-h1,decide_eq_decide];omega
 go_enter Tryz.func13,Tryz.ntmps13;go_upto_region 1 with fail
 generalize w.alloc (.D c.ay 29)=w1 at Z0 ⊢;obtain⟨x1,x2,x3,x4⟩:=Z0.i.R.J;cases k1
 ·go_wp2
  go_ret;exact⟨by rw[h1];rfl,Z0.i.O⟩
 cases k2
 ·go_wp2
  go_ret;exact⟨by rw[h1,h2];rfl,Z0.i.O⟩
 go_wp2;go_ret;exact⟨by rw[h1,h2];rfl,Z0.i.O⟩
def vF(l:List UInt8):fC:=⟨false,qE 16 l⟩
def aoK:Cn:=⟨none,1,1,7,9,Vector.ofFn fun i=>if i.val=0 then 0 else 5,1,1,bJ 6 0,nM,⟨true,bJ 16 0⟩,1000,2,5⟩
def IZ:Vp:=⟨vF [5,6,7,8],6,80,false⟩
def zh:En:=⟨qE 16 [1],aoK,[IZ]⟩
def ak0:Bk:=⟨[97],vF [10,0,0,9],8080,bJ 6 0,4607182418800017408,false⟩
def awF:List UInt8:=[0,0,0,0,0,0,0,0,0,0,0,0,8,0,69,0,0,42,0,0,64,0,64,6,42,187,1,2,3,4,5,6,7,8,3,232,0,80,0,0,0,0,0,0,0,0,80,2,0,0,51,44,0,0,104,105]
def awW:List UInt8:=[0,0,0,0,0,0,0,0,0,0,0,0,8,0,69,0,0,42,0,0,64,0,64,6,44,192,1,2,3,4,10,0,0,9,3,232,31,144,0,0,0,0,0,0,0,0,80,2,0,0,21,241,0,0,104,105]
def acF:Ac:=⟨1,awF,⟨0,iO,[],0⟩,[],false⟩
def acA:Ac:=⟨2,[],⟨1,ak0,[],0⟩,[],false⟩
def acH(n:List UInt8):Ac:=⟨3,[],⟨0,iO,[],0⟩,n,false⟩
def acK(k:Int):Ac:=⟨k,[],⟨0,iO,[],0⟩,[],false⟩
def aw0:rE×Ou:=D8 zh zq acF
def aw1:rE×Ou:=D8 zh aw0.1 acA
def aw2:rE×Ou:=D8 zh aw1.1 acF
def aw3:rE×Ou:=D8 zh aw2.1 acF
def aw4:rE×Ou:=D8 zh aw3.1 (acH [98])
def aw5:rE×Ou:=D8 zh aw4.1 (acH [97])
def aw6:rE×Ou:=D8 zh aw5.1 acF
def aw7:rE×Ou:=D8 zh aw6.1 (acK 4)
def UZ:rE×Ou:=D8 zh aw7.1 (acK 9)
def atj:yG aoK [IZ]=true:=by decide +kernel
def aFV:aw0.2={Ia with lu:=8}:=by decide +kernel
def aFW:aw1.2.lD=1:=by decide +kernel
def aoL:aw2.2=⟨0,0,false,1,[97],awW⟩:=by decide +kernel
def aFX:aw3.2.GN=true:=by decide +kernel
def aFY:aw4.2.err=5:=by decide +kernel
def aFZ:aw5.2.err=0:=by decide +kernel
def aF0:aw6.2.lu=8:=by decide +kernel
def aF1:aw7.2.err=0:=by decide +kernel
def aF2:UZ.2.err=1:=by decide +kernel
def ak1:UZ.1.no=2/\UZ.1.fK=1/\UZ.1.S[8]=2/\UZ.1.h.a=1/\(Af zh UZ.1).uR.a=0:=by decide +kernel
end Go.Proofs.YtkjojjopamaoiaaGreat
