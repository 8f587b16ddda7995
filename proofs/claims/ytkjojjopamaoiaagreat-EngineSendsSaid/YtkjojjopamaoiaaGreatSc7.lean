/- Parts. -/
import Derived.Test.YtkjojjopamaoiaaGreatSc6
import Derived.Lib.SlBytesConst
set_option linter.unusedSimpArgs false
set_option linter.unusedVariables false
set_option linter.unusedSectionVars false
set_option maxRecDepth 100000
set_option maxHeartbeats 8000000
open Array renaming getElem?_extract->cu,getElem?_eq_none->aW,size_extract->jA,getElem?_append->aD,extract_append->bZ,range->mK,toList_inj->Ic,setIfInBounds_append->aL,mapM->iI,append_assoc->gD,getElem?_toList->dH,size->Array.j,toList->Array.a,getD->Array.b,setIfInBounds->Array.c
open Bool renaming and_eq_true->bf,eq_iff_iff->dG,not_false->rW,not_true->vJ,not_eq_true'->oO,true_and->BF,false_and->Ej
open ByteArray renaming size->ByteArray.j,toList->ByteArray.a
open Go renaming World->ak,Value->aB,Addr->aV,Calls->aR,wpQuiet_nil->iw,bodyPost_ret->aO,TypeId->bL,Ending->lJ,run_underlying->dK,run_equal_slice_nil->jk,Field->oz,DataW->Ay,MemPlace->uw,wpAnyH_take->qd
open Go.Act renaming put->mE
open Go.Addr renaming add->rU,add_mid->iL
open Go.BoundsCode renaming toNat->Go.BoundsCode.e
open Go.Calls renaming mono->Go.Calls.g
open Go.DataW renaming trod->mM,trod_struct->vL,trod_bool->IY,agg->Go.DataW.d
open Go.Ending renaming returned->Go.Ending.a
open Go.Field renaming name->Go.Field.F,type->Go.Field.p
open Go.FloatKind renaming f64->j5
open Go.Instr renaming buildSlice->bJ,fill->fJ,storeAt->eY,build->fU,slice->Go.Instr.a
open Go.IntKind renaming min->J4,max->J5,signed->mH,bits->oH,u8->aX,i64->bT,i64->Go.IntKind.a,u8->Go.IntKind.b
open Go.Lib renaming hid->ab
open Go.Lit renaming int->Go.Lit.b,bool->Go.Lit.e,string->Go.Lit.g
open Go.Obj renaming cells->Go.Obj.D
open Go.Op renaming slice->Go.Op.a
open Go.Oper renaming type->Go.Oper.p
open Go.Operand renaming tmp->Go.Operand.a
open Go.Program renaming keyLits->xZ,fieldsOf->jr,cellsOf->Go.Program.a
open Go.Proofs.Tryz renaming prog->ah,underlying86->nM,func25->LX,ntmps25->I7,underlying58->kW,underlying69->mq,underlying70->oP,underlying23->Gm,underlying3->fI,underlying5->lX,underlying22->qK,underlying27->fG,underlying81->jN,underlying37->qM,underlying35->Gi,underlying98->tu,underlying29->nO,underlying56->dD,underlying66->mD,underlying64->wG,underlying62->oN,underlying83->qN
open Go.RowKit renaming Below->aM
open Go.RowKit.Below renaming refl->aG,size->Go.RowKit.Below.j,mono->Go.RowKit.Below.g
open Go.RowKit.Hid renaming out->Go.RowKit.Hid.i
open Go.Sem renaming run->Go.Sem.O
open Go.Shut renaming out->Go.Shut.i
open Go.Tables renaming info?->Go.Tables.l
open Go.TypeDesc renaming slice->Go.TypeDesc.a,int->Go.TypeDesc.b,pointer->Go.TypeDesc.c,bool->Go.TypeDesc.e,string->Go.TypeDesc.g
open Go.TypeInfo renaming size->Go.TypeInfo.j
open Go.Value renaming cells->dz,ownBlock->j6,pointer->tJ,string->iK,oneCell'->dA,int->aI,agg->cO,bool->bP,okWide->IV,float->wO,cells->Go.Value.D,slice->Go.Value.a,int->Go.Value.b,pointer->Go.Value.c,agg->Go.Value.d,tuple->Go.Value.K,bool->Go.Value.e,string->Go.Value.g
open Go.World renaming ownsRow_nil->fQ,setCell->iA,ownsRow_lit->qD,heap->Go.World.a,cell?->Go.World.b,setCell->Go.World.I,ownsRow->Go.World.c,there->Go.World.S
open Int renaming toNat->Int.e
open List renaming set_cons_succ->bH,set_cons_zero->bQ,take_succ_cons->jV,take_zero->kC,setIfInBounds_toArray->bI,drop_succ_cons->jW,drop_zero->lN,mem_map->jf,nil_append->dJ,eq_nil_of_length_eq_zero->bF,range->eu,mem_range->fq,mem_cons->bD,not_mem_nil->gu,take_of_length_le->aK,take_left'->yQ,drop_left'->yS,append_assoc->bM,length_append->aQ,any_eq_true->uH,all_eq_true->gq,getElem?_eq_none->aT,getElem?_toArray->eO,length_map->bW,mem_singleton->fO,getD_eq_getElem?_getD->au,map_cons->kV,drop_of_length_le->jg,getElem?_eq_getElem->aC,length_set->aS,length->List.a,take->List.E,getD->List.b,toArray->List.c,drop->List.G,flatMap->List.d,below->List.Y
open List.cons renaming injEq->xD
open Nat renaming lt_or_ge->aZ,le_of_eq->aU,ne_of_lt->iO,lt_of_lt_of_le->fE,le_trans->aP,le_refl->av,mul_le_mul->iq,succ_pos->nG,zero_add->bC,eq_zero_or_pos->eB,add_zero->kQ,zero_le->jo,below->Nat.Y
open Option renaming toList->Option.a,getD->Option.b
open Or renaming inl->DI,inr->Or.a,inl->Or.b
open UInt8 renaming ofNat->aJ,toNat->UInt8.e
open Vector renaming replicate->bG,length_toList->nZ,ofFn->EP,toList->Vector.a
namespace Go.Proofs.YtkjojjopamaoiaaGreat
open Go.RowKit
section
variable {W W':ak} {q:Nat} {e:En} {s:qE} {x:Eg} {q2 g:Nat} {sl:List (Option Fw)}
theorem MO.av1(h:MO W q e s x q2 g sl){W':ak}(hb:aM W.a.j W W'):(yU 29 (.c (some ⟨q,16,none⟩))).O ah W'=.ok (.d x.cf.ay) W':=VO.Ei (h.eg.go hb) 16 (Eg.as4 _) (by rw[Eg.J];omega)
theorem Bx.b4{a1 a2 a3 a4 p:Nat×Array aB}{L:List (Nat×Array aB)}{W0 W:ak}(h:Bx (a1::a2::a3::a4::p::L) W0 W):dP W p.1 p.2:=(h.2 p (by simp)).2
theorem Bx.b5{a1 a2 a3 a4 a5 p:Nat×Array aB}{L:List (Nat×Array aB)}{W0 W:ak}(h:Bx (a1::a2::a3::a4::a5::p::L) W0 W):dP W p.1 p.2:=(h.2 p (by simp)).2
theorem Pk.Xb(p:Pk)(j:Nat)(hj:j<37):p.ay[1+j]? = p.K.ay[j]?:=by
 have h:=Pk.JE p;rw[<-h,cu,if_pos (by rw[Pk.J];omega)]
theorem Pk.aiu(p:Pk):p.ay.extract 18 (18+17)=p.K.dst.ay:=by
 apply Array.ext_getElem?;intro j;rcases aZ j 17 with hj|hj
 ·rw[oL p.ay 18 17 j hj (by rw[Pk.J];omega),show 18+j=1+(j+17)by omega,Pk.Xb p (j+17) (by omega),Tu.LC _ j hj]
 ·rw[aW (by rw[jA,Pk.J];omega),aW (by rw[fD.J];exact hj)]
def nxO(o:Option Fw)(pr:Int)(fl:Nat):Int:=match o with|some y=>ahm y.yF fl|none=>aao pr fl
theorem arD(s:qE)(p:Pk)(fl:Nat)(h:p.sW=fl):ah0 s p=nxO (qp s.tQ p.K) p.K.aN fl:=by
 unfold ah0 nxO;rw[h,Int.toNat_natCast];cases qp s.tQ p.K<;>rfl
theorem Ab.aAp(h:Ab W q e s x q2 g sl)(n:Int):Ab (W.I ⟨q,78,none⟩ (.b .a n)) q e {s with no:=n} ({x with no:=n}:Eg) q2 g sl:=by
 have hb:=h.b.eg.fC 78 (.b .a n);rw[Eg.an6]at hb;have:=h.num ((jP.refl [q] W).set ⟨q,78,none⟩ (.b .a n) (.b (by simp))) x.ig n x.mV hb;rw[h.b.ig,h.b.mV]at this;have e1:({x with ig:=s.ig,no:=n,mV:=s.mV}:Eg)={x with no:=n}:=by rw[<-h.b.ig,<-h.b.mV]
 rw[e1]at this;exact this
@[go_sem]theorem axw(W:ak)(t:Tu)(n:List UInt8)(st se no:Int):(aub #[(0,.d t.ay),(1,.g (bK n)),(2,.b .a st),(3,.b .a se),(4,.b .a no)]).O ah W=.ok (.d (Fw.mk t n st se no).ay) W:=kFw.bd W _ _ _ _ nM (azJ W _ nM) (by
 refine vV (Fw.J _) ?_ ?_
 ·simp[sF,dz,Tu.J]
 ·simp[rM,dz,Fw.ay,fwT])
theorem iJ(w:ak):aM w.a.j w w.drew:=eD (aG _ _) 1
theorem Ab.frm{F:List Nat}(h:Ab W q e s x q2 g sl)(hf:jP F W W')(h1:q∉F)(h2:q2∉F)(h3:g∉F)(o:∀b∈qY x,b∉F):Ab W' q e s x q2 g sl:=by
 have hs:=hf.j;refine⟨⟨hf.box h.b.eg h1,h.b.key,h.b.cf,h.b.nP,h.b.vs.keep hf (fun b hm=>o b (dX.2 (.b hm))),h.b.h.keep hf (fun b hm=>o b (dX.2 (.a (.b hm)))),h.b.hl.keep hf (fun b hm=>o b (dX.2 (.a (.a (.b hm))))),h.b.fl,h.b.tb.keep hf h2 h3,h.b.rm,h.b.nq,fun b hm=>by have:=h.b.IL b hm;omega,h.b.ig,h.b.no,h.b.mV⟩,h.dn.keep hf (fun b hm=>o b (dX.2 (.a (.a (.a (.b hm)))))),h.tt.keep hf (fun b hm=>o b (dX.2 (.a (.a (.a (.a (.b hm))))))) (fun b hm=>o b (dX.2 (.a (.a (.a (.a (.a hm)))))))⟩
theorem zM(w:ak)(b o:Nat)(c:Array aB):jP [b] w (gV w b o c):=(jP.refl [b] w).grown (mG (World.grownBy.refl w (some b)) o c) (fun k e=>.b (by injection e with e;simp[e]))
theorem OQ{F:List Nat}{B n c:Nat}{A:Option aV}{xs:List aB}(h:W.c B 5 1 (.a A n c) n xs)(hf:jP F W W')(hF:∀b∈F,b<B):W'.c B 5 1 (.a A n c) n xs:=Ci h hf (fun k hk hm=>by
 have h2:k∈xG A:=by
  cases hA:A with
  | none=>rw[hA]at hk;cases hk
  | some a=>rw[hA]at hk;exact Eh.2 ⟨a,rfl,by simpa[j6]using hk⟩
 have h3:=(lM h k h2).1;have:=hF k hm;omega)
theorem akI{c:Cn}{l:List Vp}(h:zA c l=true):l.a<=64:=by
 unfold zA zY at h;simp only[bf,decide_eq_true_eq]at h;obtain⟨⟨⟨⟨⟨⟨⟨⟨⟨⟨_,h0⟩,_⟩,_⟩,_⟩,_⟩,_⟩,_⟩,_⟩,_⟩,_⟩:=h;exact h0.1
theorem aeB{M:Int}(h:Ab W q e s x q2 g sl)(hi:og M e s)(hM:M<1152921504606846976)(A:Option aV)(n c:Nat)(l:List UInt8)(hnc:n<=c)(hc:c<=9223372036854775807/\n<=1000000)(hr:gG W W.a.j A n l):
 aR ah 70 #[.c (some ⟨q,0,none⟩),.a A n c] W (XU W q e x q2 g sl (Dr e s l)):=by
 have Z0:=ab (((Bx.start W).new #[.c (some ⟨q,0,none⟩)] 43).new vk.ay 58);rw[show(W.alloc (.D #[.c (some ⟨q,0,none⟩)] 43)).a.j=W.a.j+1 by simp]at Z0;have H:=ab h;have HI:=ab hi;have HM:=ab hM;have HR:=ab hr;have CP:=ab (fun(w:ak) (hb:aM W.a.j W w)=>zD w A n c l hnc (by omega) (hr.upon hb));have KB:=ab (fun(w:ak) (h:dP w W.a.j #[.c (some ⟨q,0,none⟩)])=>show w.b ⟨W.a.j,0,none⟩=some (.c (some ⟨q,0,none⟩))from h.R.1 0);have HK:=ab (aia l);have HFL:=ab (aom l);have Kl:=ab (fun h=>azs (l:=l) h);have hmf:∀(fn:Fn)(first cap:Array aB)(w:ak),(Instr.makeFunc fn first cap).O ah w=.ok (.func fn first cap) w:=fun _ _ _ _=>rfl
 obtain⟨p,hp⟩:=cB (lW l);have HP:=ab hp;unfold PkP at CP;rw[<-hp]at CP HK HFL Kl;clear h hi hM hr hp;go_enter_defers Tryz.func70,Tryz.ntmps70;go_upto_region 2 with fail
 generalize(W.alloc (.D #[.c (some ⟨q,0,none⟩)] 43)).alloc (.D vk.ay 58)=w1 at Z0 ⊢;go_upto_region 3 with(go_at_call 32;(with_reducible refine(CP.i _ Z0.i.X).g ?_);rintro r w2 ⟨rfl,hb2⟩;have Z1:=ab ((Z0.i.go hb2).new p.ay 83);have hy:=ab (Z0.i.go hb2).Z.lt;clear hb2)
 generalize w2.alloc (.D p.ay 83)=w3 at Z1 ⊢;generalize w2.a.j=y at *;have f0:=(Z1.i.Z.R.1 0).trans (Pk.zB p);by_cases hk:p.kind=0
 case neg=>
  have q1:(p.kind != 0)=true:=by simpa using hk
  have HW:=ab (show(oW e s l).jm=p.kind by unfold oW;rw[<-HP.i,if_neg hk]);have HK0:=ab hk;clear hk;go_wp2_with fail;exact Ul _ p.kind rfl Z1.i.b1 (Oc.J _) Z1.i.b2 H.i HI.i HM.i HW.i HK0.i Z1.i.X
 have q1:(p.kind != 0)=false:=by simpa using hk
 obtain⟨hpt,hpp⟩:=Kl.i hk;have HT:=ab (Cw hpt);have HTK:=ab hpt;have HK0:=ab hk;clear hpt hpp hk Kl HK;obtain⟨v,hv⟩:=cB (XM e.vs p.K.dst p.K.aN p.K.iG);have CV:=ab (fun(w:ak) (hb:aM W.a.j W w)=>Ro x.cf e.vs p.K.dst p.K.aN p.K.iG w (H.i.b.vs.go hb) (by have h1:=H.i.b.vs.1;have h2:=akI HI.i.cn;omega));rw[<-hv]at CV;have HV:=ab hv;clear hv;obtain⟨vp,vok⟩:=v;simp only at CV;go_upto_region 5 with fail
 refine yw (Bx.abg ([(y,p.ay),(W.a.j+1,vk.ay),(W.a.j,#[.c (some ⟨q,0,none⟩)])]) W) 17 18 16 6 39 98 mJ.ay (by kernel_rfl) rfl rfl rfl rfl rfl (by kernel_rfl) (by kernel_rfl) (by kernel_rfl) (by kernel_rfl) (by kernel_rfl) rfl rfl rfl (fun a w=>by simp[go_sem]) (uL rfl) Z1.i.drew ?_;apply Exists.intro;refine⟨fun T f hT es ew=>?_,?_⟩
 ·have EW:=ab ew
  have ES:=ab es;have l1:=fun m=>KB.i _ (ES.i m).b2
  have l2:=fun m=>H.i.b.av1 (ES.i m).X
  have l3:=fun m=>(ES.i m).Z.LU (o:=18) (a:=p.K.dst) (Pk.aiu p) (by rw[Pk.J];omega)
  have l4:=fun m=>((ES.i m).Z.R.1 35).trans ((Pk.Xb p 34 (by omega)).trans (Tu.Qc _))
  have l5:=fun m=>((ES.i m).Z.R.1 37).trans ((Pk.Xb p 36 (by omega)).trans (Tu.Qd _))
  have CF:=ab (fun m=>CV.i _ (ES.i m).X);clear es ew;simp only[nI,zC,lI,bH,bQ,jV,kC]
  repeat(go_big_quiet_step ((first|(go_at_call 135;(with_reducible refine(CF.i _).g ?_);rintro e w2 ⟨rfl,hb⟩;exact⟨rfl,EW.i _ _ hb⟩))))
  exact iw rfl
 intro w9 w8 Bg _ hb;have ZN:=ab ((Bg.new mJ.ay 98).go hb);have hyv:=ab (fun z (hz:z∈[(y,p.ay),(W.a.j+1,vk.ay),(W.a.j,#[.c (some ⟨q,0,none⟩)])])=>((Bg.2 z hz).2.lt:z.1<w9.a.j));generalize w9.a.j=y2 at *;clear hb Bg;have zS:=ZN.i.Z.S 0 20 (aU (Vp.J mJ).symm);refine⟨gV w8 y2 0 vp.ay,?_,?_⟩
 ·simp[go_sem,zS]
 simp only[mE,bI,bH,bQ,jW,lN];have Z2:=ab (ZN.i.put (fun p hp=>iO (hyv.i p hp)) vp.ay (by rw[Vp.J,Vp.J]));clear zS ZN;generalize gV w8 y2 0 vp.ay=w4 at Z2 ⊢;go_step;go_step;go_step;cases vok with
 | false=>
   have HW:=ab (show(oW e s l).jm=7 by
    have h1:=HV.i;unfold XM at h1;unfold oW;rw[<-HP.i,if_pos HK0.i];cases hf:sQ e.vs p.K.dst p.K.aN p.K.iG with
    | none=>rfl
    | some i=>rw[hf]at h1;cases h1)
   go_wp2_with fail;exact Ul _ 7 rfl Z2.i.b2 (Oc.J _) Z2.i.b3 H.i HI.i HM.i HW.i (by decide) Z2.i.X
 | true=>
   obtain⟨i,hi1,hi2⟩:∃i,sQ e.vs p.K.dst p.K.aN p.K.iG=some i/\vp=e.vs.b i mJ:=by
    have h1:=HV.i;unfold XM at h1;cases hf:sQ e.vs p.K.dst p.K.aN p.K.iG with
    | none=>rw[hf]at h1;cases h1
    | some i=>rw[hf]at h1;injection h1 with h1 _;exact⟨i,rfl,h1⟩
   have HI1:=ab hi1;have HI2:=ab hi2;clear hi1 hi2 HV CV;obtain⟨bb,hbb⟩:=cB (Ef e s p.K);have CB:=ab (fun(w:ak) (hb:aM W.a.j W w)=>XT (H.i.go hb) HI.i p.K HT.i);rw[<-hbb]at CB;have IC:=ab hbb;clear hbb;have lt1:=Z2.i.b1.abW (o:=1) (Pk.JE p) (by rw[Pk.J];omega);have le1:=KB.i _ Z2.i.b3;cases bb with
   | none=>
     have CB2:=ab (show∀(w:ak),aM W.a.j W w->aR ah 136 #[.c (some ⟨q,0,none⟩),.d p.K.ay] w (fun r w'=>r=.panicked [{v:=Rs 8,recovered:=false}]/\aM w.a.j w w')from CB.i);have HW:=ab (show(oW e s l).jm=8 by
      unfold oW;rw[<-HP.i,if_pos HK0.i,HI1.i];simp only;rw[<-IC.i])
     go_wp2_with (go_at_call 136;(with_reducible refine(CB2.i _ Z2.i.X).g ?_);rintro r w5 ⟨rfl,hb5⟩;have Z3:=ab (Z2.i.go hb5);clear hb5);exact Ul _ 8 rfl Z3.i.b2 (Oc.J _) Z3.i.b3 H.i HI.i HM.i HW.i (by decide) Z3.i.X
   | some bh=>
     obtain⟨b,Bo⟩:=bh;have CB2:=ab (show∀(w:ak),aM W.a.j W w->aR ah 136 #[.c (some ⟨q,0,none⟩),.d p.K.ay] w (fun r w'=>r=.a (.K #[.d b.ay,.e Bo])/\aM w.a.j w w')from CB.i);go_upto_region 9 with(go_at_call 136;(with_reducible refine(CB2.i _ Z2.i.X).g ?_);rintro r w5 ⟨rfl,hb5⟩;have Z3:=ab ((Z2.i.go hb5).new b.ay 62);have aAr:=ab (fun p hp=>((Z2.i.go hb5).2 p hp).2.lt);clear hb5)
     generalize w5.alloc (.D b.ay 62)=w6 at Z3 ⊢;generalize w5.a.j=y3 at *;clear lt1 le1 CB CB2;have HY3:=ab (fun z (hz:z∈[(y2,vp.ay),(y,p.ay),(W.a.j+1,vk.ay),(W.a.j,#[.c (some ⟨q,0,none⟩)])])=>(aAr.i z hz:z.1<y3));clear aAr;obtain⟨ot,hot⟩:=cB (DU e vp b p.K l);have CO:=ab (fun(w:ak) (hb:aM W.a.j W w)=>akH (H.i.go hb) vp b p.K A n c l hnc hc (HR.i.upon hb));rw[<-hot]at CO;have HOT:=ab hot;clear hot;have lt1:=Z3.i.b2.abW (o:=1) (Pk.JE p) (by rw[Pk.J];omega);have le1:=KB.i _ Z3.i.b4;have lv1:=kVp.Ei Z3.i.b1 0 (d:=vp.ay) (by have:=Vp.J vp;rw[<-this];simp) (by rw[Vp.J];omega);have lb1:=Z3.i.Z.avU;by_cases ho:ot.1=0
     case neg=>
      have HW:=ab (show(oW e s l).jm=ot.1 by
       unfold oW;rw[<-HP.i,if_pos HK0.i,HI1.i];simp only;rw[<-IC.i];simp only;rw[<-HI2.i,<-HOT.i,if_neg ho])
      have HO:=ab ho;have CO2:=ab (fun(w:ak) (hb:aM W.a.j W w)=>(CO.i w hb).g (R':=fun r w'=>r=.panicked [{v:=Rs ot.1,recovered:=false}]/\aM w.a.j w w') (fun r w' h=>h.elim (fun h=>absurd h.1 ho) (fun h=>h.2)));clear ho CO;go_wp2_with (go_at_call 137;(with_reducible refine(CO2.i _ Z3.i.X).g ?_);rintro r w7 ⟨rfl,hb5⟩;have Z4:=ab (Z3.i.go hb5);clear hb5);exact Ul _ ot.1 rfl Z4.i.b3 (Oc.J _) Z4.i.b4 H.i HI.i HM.i HW.i HO.i Z4.i.X
     obtain⟨ok,ob⟩:=ot;obtain rfl:ok=0:=ho;have CO2:=ab (fun(w:ak) (hb:aM W.a.j W w)=>(CO.i w hb).g (R':=Le w ob) (fun r w' h=>h.elim (fun h=>h.2) (fun h=>absurd rfl h.1)));clear CO;have NC:=ab (show oW e s l=⟨0,ob,b,Bo⟩by
      unfold oW;rw[<-HP.i,if_pos HK0.i,HI1.i];simp only;rw[<-IC.i];simp only;rw[<-HI2.i,<-HOT.i,if_pos rfl])
     have HNL:=ab (show b.F.a<=1000000 by
      have h1:=HI.i.few.2.2 b (abF HI.i IC.i.symm).1;omega)
     clear IC HOT HI1 HI2;obtain⟨fl,hfl⟩:∃k:Nat,p.sW=k:=⟨p.sW.e,by have:=HFL.i;omega⟩
     have aop:fl<64:=by have:=HFL.i;omega
     have HFN:=ab hfl;have CG:=ab (fun(w:ak)=>ai5 fl p.K.aN w aop);have CX:=ab (fun(st:Int) (w:ak)=>alQ fl st w aop);clear aop hfl HFL;go_upto_region 10 with(go_at_call 137;(with_reducible refine(CO2.i _ Z3.i.X).g ?_);rintro r w7 ⟨A3,n3,c3,rfl,hn3,ho3,hb5⟩;have Z4:=ab (Z3.i.go hb5);have N3:=ab hn3;have O3:=ab (iU ho3 (Nat.le_of_lt Z3.i.Z.lt));clear hb5 hn3 ho3)
     clear lt1 le1 lv1 lb1 CO2;have lp1:=(Z4.i.b2.R.1 35).trans ((Pk.Xb p 34 (by omega)).trans (Tu.Qc _));have lf1:=(Z4.i.b2.R.1 38).trans (Pk.JD p);rw[HFN.i]at lf1;go_upto_region 11 with(go_at_call 138;(with_reducible refine(CG.i _).g ?_);rintro r w8 ⟨rfl,rfl⟩)
     clear CG lp1 lf1;obtain⟨o,ho⟩:=cB (qp s.tQ p.K);have HO:=ab ho;have CF0:=ab (fun(w:ak) (hb:aM W.a.j W w)=>KU (H.i.b.tb.go hb) p.K);rw[<-ho]at CF0;have hcg:∀o,anN o = .K #[.d (xB o).rP.ay,.e o.isSome]:=fun _=>rfl
     simp only[hcg]at CF0;clear hcg ho;refine yw (S:=fun w=>Bx [(y3,b.ay),(y2,vp.ay),(y,p.ay),(W.a.j+1,vk.ay),(W.a.j,#[.c (some ⟨q,0,none⟩)])] W w/\aM w7.a.j w7 w) (fun a b h hb=>⟨h.1.go hb,h.2.trans (hb.g h.2.j)⟩) 10 11 9 12 72 86 lu.ay (by kernel_rfl) rfl rfl rfl rfl rfl (by kernel_rfl) (by kernel_rfl) (by kernel_rfl) (by kernel_rfl) (by kernel_rfl) rfl rfl rfl (fun a w=>by simp[go_sem]) (uL rfl) ⟨Z4.i.drew,eD (aG _ _) 1⟩ ?_;apply Exists.intro;refine⟨fun T f hT es ew=>?_,?_⟩
     ·have EW:=ab ew
      have ES:=ab es;have l1:=fun m=>KB.i _ (ES.i m).1.b4
      have l2:=fun m=>H.i.b.an' (ES.i m).1.X
      have l3:=fun m=>(ES.i m).1.b2.abW (o:=1) (Pk.JE p) (by rw[Pk.J];omega)
      have CF:=ab (fun m=>CF0.i _ (ES.i m).1.X);clear es ew;simp only[nI,zC,lI,bH,bQ,jV,kC]
      repeat(go_big_quiet_step ((first|(go_at_call 126;(with_reducible refine(CF.i _).g ?_);rintro e w2 ⟨rfl,hb⟩;exact⟨rfl,EW.i _ _ hb⟩))))
      exact iw rfl
     intro w9 w8 Bg av2 hb;have O4:=ab (Ci O3.i (jP.jF (F:=[]) av2.2) (fun k hk hm=>by cases hm));have ZN:=ab ((Bg.1.new lu.ay 86).go hb);have hyv:=ab (fun z (hz:z∈[(y3,b.ay),(y2,vp.ay),(y,p.ay),(W.a.j+1,vk.ay),(W.a.j,#[.c (some ⟨q,0,none⟩)])])=>((Bg.1.2 z hz).2.lt:z.1<w9.a.j));have hy7:=Bg.2.j;generalize w9.a.j=y4 at *;have Tm:=av2.2;have zS:=ZN.i.Z.S 0 41 (aU (Fw.J lu).symm);refine⟨gV w8 y4 0 (xB o).rP.ay,?_,?_⟩
     ·simp[go_sem,zS];rfl
     simp only[mE,bI,bH,bQ,jW,lN];have Z5:=ab (ZN.i.put (fun p hp=>iO (hyv.i p hp)) (xB o).rP.ay (by rw[Fw.J,Fw.J]));have O5:=ab (Ci O3.i (jP.jF (F:=[]) (lQ Tm y4 0 (xB o).rP.ay hy7)) (fun k hk hm=>by cases hm));have HYW:=ab (show W.a.j+1<y/\y<y3 from⟨hy.i,HY3.i (y,p.ay) (by simp)⟩);clear zS ZN hyv Bg av2 hb Tm hy7 O4 O3 Z4 CF0;generalize gV w8 y4 0 (xB o).rP.ay=w10 at Z5 O5 ⊢;go_step;go_step;go_step;obtain⟨nx,hnx⟩:=cB (ah0 s p);have HNX:=ab (hnx.trans (arD s p fl HFN.i));rw[<-HO.i]at HNX;have HNE:=ab hnx;clear hnx;go_upto_if 73 with fail
     go_cut [11]from 74 to 78 (fun s11 wx=>s11=.b .a nx/\wx=w10)
     case first=>
      cases o with
      | none=>
        go_wp2_with fail;go_meet
        case rel=>exact⟨by rw[HNX.i];rfl,rfl⟩
      | some f1=>
        have ls:=(Z5.i.Z.R.1 38).trans (Fw.afP f1);have lf:=(Z5.i.b3.R.1 38).trans (Pk.JD p);rw[HFN.i]at lf;go_wp2_with (go_at_call 139;(with_reducible refine(CX.i _ _).g ?_);rintro r w8 ⟨rfl,rfl⟩);go_meet
        case rel=>exact⟨by rw[HNX.i];rfl,rfl⟩
     obtain⟨rfl,hcut⟩:=hcut;rw[hcut];clear hcut CX HNX;have le1:=KB.i _ Z5.i.b5;have g78:=(H.i.b.eg.go Z5.i.X).R.2.1 78;have c78:=((H.i.b.eg.go Z5.i.X).R.1 78).trans (Eg.an4 x);have hwr:=jY (x.no+1) (by have h1:=HI.i.no;have h2:=H.i.b.no;have h3:=HM.i;omega);go_upto_region 15 with fail
     have E1:=ab ((H.i.go Z5.i.X).aAp (x.no+1));have hf1:jP [q] w10 (w10.I ⟨q,78,none⟩ (.b .a (x.no+1))):=(jP.refl [q] w10).set ⟨q,78,none⟩ _ (.b (by simp));have hqW:=H.i.b.lt;have hyw:=HYW.i;have BE:=ab (hf1.box Z5.i.b5 (by simp;omega));have BO:=ab (hf1.box Z5.i.b4 (by simp;omega));have BP:=ab (hf1.box Z5.i.b3 (by simp;omega));have BB:=ab (hf1.box Z5.i.b1 (by simp;omega));have F1:=ab ((jP.jF (F:=[q]) Z5.i.X).qy hf1);have O6:=ab (OQ O5.i hf1 (by simp;omega));have HX:=ab (show x.no=s.no/\x.ig=s.ig/\x.pl.nP=s.nP from⟨H.i.b.no,H.i.b.ig,H.i.b.nP⟩);clear hf1 hqW hyw le1 g78 c78 hwr O5 Z5;generalize w10.I ⟨q,78,none⟩ (.b .a (x.no+1))=w11 at E1 BE BO BP BB F1 O6 ⊢;have KS:=ab (fun(w':ak) (h1:dP w' W.a.j #[.c (some ⟨q,0,none⟩)]) (h2:dP w' y p.ay) (h3:dP w' y3 b.ay) (h4:dP w' q ({x with no:=x.no+1}:Eg).ay)=>show w'.b ⟨W.a.j,0,none⟩=some (.c (some ⟨q,0,none⟩))/\w'.b ⟨q,74,none⟩=some (.c (some ⟨q2,0,none⟩))/\(yh (.c (some ⟨y,1,none⟩))).O ah w'=.ok (.d p.K.ay) w'/\w'.b ⟨y3,0,none⟩=some (.g (bK b.F))/\w'.b ⟨q,77,none⟩=some (.b .a x.ig)/\w'.b ⟨q,78,none⟩=some (.b .a (x.no+1))from
      ⟨KB.i w' h1,by
       rw[h4.R.1 74,Eg.Zu];show some (tJ (x.fl.map fun b=>⟨b,0,none⟩))=_;rw[H.i.b.fl];rfl,h2.abW (o:=1) (Pk.JE p) (by rw[Pk.J];omega),(h3.R.1 0).trans (Bk.qW b),(h4.R.1 77).trans (Eg.Ui _),(h4.R.1 78).trans (Eg.an4 _)⟩)
     have HN:=ab (uj HI.i.cn);have CU:=ab (Zo (E1.i.go (iJ _)).b.tb (by have:=HN.i;omega) E1.i.b.rm ⟨p.K,b.F,nx,x.ig,x.no+1⟩ HNL.i);unfold agJ at CU;refine wp_region_noPanic ?_;go_region_held_law (fun w'=>w'.b ⟨W.a.j,0,none⟩=some (.c (some ⟨q,0,none⟩))/\w'.b ⟨q,74,none⟩=some (.c (some ⟨q2,0,none⟩))/\(yh (.c (some ⟨y,1,none⟩))).O ah w'=.ok (.d p.K.ay) w'/\w'.b ⟨y3,0,none⟩=some (.g (bK b.F))/\w'.b ⟨q,77,none⟩=some (.b .a x.ig)/\w'.b ⟨q,78,none⟩=some (.b .a (x.no+1)))
      (first|exact KS.i _ (BE.i.go (iJ _)) (BP.i.go (iJ _)) (BB.i.go (iJ _)) (E1.i.b.eg.go (iJ _))|exact KS.i _ BE2.i BP2.i BB2.i BQ2.i|go_keep)
      (first|(go_at_call 63;(with_reducible refine CU.i.g ?_);rintro r w12 ⟨rfl,⟨sl',ht,hsl⟩,hf⟩;have HTB:=ab ht;have HSL:=ab hsl;have HF:=ab hf;have BE2:=ab (jP.box hf (BE.i.go (iJ _)) (by have h1:=H.i.b.lt;have h2:=HYW.i;simp;omega));have BO2:=ab (jP.box hf (BO.i.go (iJ _)) (by have h1:=H.i.b.lt;have h2:=HYW.i;simp;omega));have BP2:=ab (jP.box hf (BP.i.go (iJ _)) (by have h1:=H.i.b.lt;have h2:=HYW.i;simp;omega));have BB2:=ab (jP.box hf (BB.i.go (iJ _)) (by have h1:=H.i.b.lt;have h2:=HYW.i;simp;omega));have BQ2:=ab (jP.box hf (E1.i.b.eg.go (iJ _)) (by have h1:=H.i.b.nq;simp;omega));clear hf ht hsl))
     refine NoPanic.normal ?_;have E2:=ab (Ab.rP (E1.i.go (iJ _)) HF.i HTB.i HSL.i);have le2:=KB.i _ BE2.i;have lv2:=(BQ2.i.R.1 70).trans (Eg.abU _);have ln2:=(BB2.i.R.1 0).trans (Bk.qW b);have th2:=BO2.i.S 0 6 (aU (Oc.J vk).symm);go_upto_region 16 with fail
     go_region;have hqW:=H.i.b.lt;have hyw:=HYW.i;have hrw:=H.i.b.IL;have G1:=ab (show jP [W.a.j+1] w12 (gV w12.drew (W.a.j+1) 0 (Oc.mk 0 0 Bo x.pl.nP b.F A3 n3 c3).ay)from(jP.jF (F:=[W.a.j+1]) (iJ w12)).qy (zM w12.drew (W.a.j+1) 0 _));have BO3:=ab ((BO2.i.go (iJ _)).put (Oc.mk 0 0 Bo x.pl.nP b.F A3 n3 c3).ay (by rw[Oc.J,Oc.J]));have BE3:=ab (G1.i.box BE2.i (by simp));have E3:=ab (E2.i.frm G1.i (by simp;omega) (by simp;omega) (by simp;omega) (fun b hb=>by have:=hrw b hb;simp;omega));have O7:=ab (iU (OQ (OQ (OQ O6.i (jP.jF (F:=[]) (iJ _)) (by simp)) HF.i (by simp;omega)) G1.i (by simp;omega)) (show W.a.j<=y3 by omega));have FF:=ab (show jP [q,q2,g] W (gV w12.drew (W.a.j+1) 0 (Oc.mk 0 0 Bo x.pl.nP b.F A3 n3 c3).ay)from(((F1.i.lD (F':=[q,q2,g]) (by simp)).qy (jP.jF (iJ _))).qy (HF.i.lD (by simp))).trans G1.i (fun j hj=>.a (by simp at hj;omega)));generalize gV w12.drew (W.a.j+1) 0 (Oc.mk 0 0 Bo x.pl.nP b.F A3 n3 c3).ay=w13 at BO3 BE3 E3 O7 FF ⊢;have HFE:=ab (show Dr e s l=({s with mV:=upC s.mV 0,no:=s.no+1,tQ:=ED e.c.dV s.tQ ⟨p.K,b.F,nx,s.ig,s.no+1⟩},⟨0,0,Bo,s.nP,b.F,ob⟩)by
      unfold Dr;rw[NC.i,if_pos rfl,<-HP.i];simp only[anc];rw[<-HNE.i])
     obtain⟨x1,x2,x3⟩:=HX.i;rw[x1,x2]at E3;rw[x3]at BO3;go_wp2;rw[HFE.i];exact arC _ rfl BO3.i BE3.i E3.i HI.i.ct HM.i rfl rfl ⟨rfl,rfl,rfl,rfl,rfl,N3.i,O7.i⟩ HSL.i rfl hqW.1 FF.i
end
section
variable {W W':ak} {q:Nat} {e:En} {s:qE} {x:Eg} {q2 g:Nat} {sl:List (Option Fw)}
theorem kI6:pQ 24 6 (K9 (bG 6 0)):=⟨⟨_,Tryz.underlying24,rfl⟩,by kernel_rfl,by kernel_rfl,jR _⟩
structure At where
 kind:Int
 Um:Option aV
 IW:Nat
 Gc:Nat
 op:rJ
 F:List UInt8
 h:Bool
def At.ay(x:At):Array aB:=#[.b .a x.kind,.a x.Um x.IW x.Gc]++(x.op.ay ++ #[.g (bK x.F),.e x.h])
theorem At.J(x:At):x.ay.j=34:=by simp[At.ay,rJ.J]
@[go_sem]theorem At.eU(x:At):eU x.ay=34:=At.J x
theorem At.zB(x:At):x.ay[0]? = some (.b .a x.kind):=by simp[At.ay,aD]
theorem At.aoq(x:At):x.ay[1]? = some (.a x.Um x.IW x.Gc):=by simp[At.ay,aD]
theorem At.as9(x:At):x.ay.extract 2 32=x.op.ay:=by simp[At.ay,bZ,rJ.J,qA,uR]
theorem At.zJ(x:At):x.ay[32]? = some (.g (bK x.F)):=by simp[At.ay,aD,rJ.J]
theorem At.arE(x:At):x.ay[33]? = some (.e x.h):=by simp[At.ay,aD,rJ.J]
structure AtR(W:ak)(a:At)(u:Ac):Prop where
 kind:a.kind=u.kind
 fr:gG W W.a.j a.Um a.IW u.frame
 Gc:a.IW<=a.Gc/\a.Gc<=9223372036854775807/\a.IW<=1000000
 op:a.op=u.op
 F:a.F=u.F
 h:a.h=u.h
theorem Ck{w1 w2:ak}{o:Oc}{x':Eg}{sl':List (Option Fw)}{u:qE×Ou}(h:Ab W q e s x q2 g sl)(hb:aM W.a.j W w1)(hl:W.a.j+1<w1.a.j)(hou:OuR w1.a.j w2 o u.2)(hE:Ab w2 q e u.1 x' q2 g sl')(hsl:sl'.a=sl.a)(hr:∀b∈qY x',b∈qY x\/w1.a.j<=b)(hf:jP [q,q2,g] w1 w2):
 XU W q e x q2 g sl u (.a (.d o.ay)) (gV w2 (W.a.j+1) 0 o.ay):=by
 have hq:=h.b.lt;have hrw:=h.b.IL;have hs:=hb.j;have hf2:=zM w2 (W.a.j+1) 0 o.ay;have hx:∀b∈qY x',b∉[W.a.j+1]:=by
  intro b hm;rcases hr b hm with h1|h1
  ·have:=hrw b h1;simp;omega
  ·simp;omega
 refine⟨o,x',sl',rfl,?_,hE.frm hf2 (by simp;omega) (by simp;omega) (by simp;omega) hx,hsl,fun b hm=>(hr b hm).imp id (fun h1=>by omega),((jP.jF (F:=[q,q2,g]) hb).qy hf).trans hf2 (fun k hk=>.a (by simp at hk;omega))⟩;have h2:=hou.keep hf2 (by simp;omega);exact⟨h2.err,h2.jm,h2.Bo,h2.nP,h2.F,h2.n,iU h2.vM hs⟩
def Oc.bad(k:Int):Oc:=⟨k,0,false,0,[],none,0,0⟩
theorem ab0(B:Nat)(W:ak)(k:Int):OuR B W (Oc.bad k) {Hr with err:=k}:=⟨rfl,rfl,rfl,rfl,rfl,rfl,fQ _ _ _ _⟩
theorem aor(B:Nat)(W:ak):OuR B W vk Hr:=⟨rfl,rfl,rfl,rfl,rfl,rfl,fQ _ _ _ _⟩
theorem Ab.arF(h:Ab W q e s x q2 g sl)(n:Int):Ab (W.I ⟨q,77,none⟩ (.b .a n)) q e {s with ig:=n} ({x with ig:=n}:Eg) q2 g sl:=by
 have hb:=h.b.eg.fC 77 (.b .a n);rw[Eg.aev]at hb;have:=h.num ((jP.refl [q] W).set ⟨q,77,none⟩ (.b .a n) (.b (by simp))) n x.no x.mV hb;rw[h.b.no,h.b.mV]at this;have e1:({x with ig:=n,no:=s.no,mV:=s.mV}:Eg)={x with ig:=n}:=by rw[<-h.b.no,<-h.b.mV]
 rw[e1]at this;exact this
theorem agW{M:Int}(h:Ab W q e s x q2 g sl)(hi:og M e s)(hM:M<1152921504606846976)(a:At)(u:Ac)(ha:AtR W a u)(hk:u.kind=1):
 aR ah 25 #[.c (some ⟨q,0,none⟩),.d a.ay] W (XU W q e x q2 g sl (Dr e s u.frame)):=by
 have Z0:=ab (((Bx.start W).new a.ay 66).new vk.ay 58);rw[show(W.alloc (.D a.ay 66)).a.j=W.a.j+1 by simp]at Z0;have f0:=(Z0.i.b1.R.1 0).trans (At.zB a);rw[ha.kind,hk]at f0;have f1:=(Z0.i.b1.R.1 1).trans (At.aoq a);have th:=Z0.i.Z.S 0 6 (aU (Oc.J vk).symm);have CF:=ab (aeB (h.go Z0.i.X) hi hM a.Um a.IW a.Gc u.frame ha.Gc.1 ha.Gc.2 (ha.fr.upon Z0.i.X));have hlt:=Z0.i.Z.lt;have hqs:=h.b.lt;have H:=ab h;clear h;go_enter LX,I7;go_upto_region 1 with fail
 generalize(W.alloc (.D a.ay 66)).alloc (.D vk.ay 58)=w1 at Z0 f0 f1 th CF hlt ⊢;have HQ:=ab hqs;have HL:=ab hlt;clear hqs hlt;go_wp2_with (go_at_call 70;(with_reducible refine CF.i.g ?_);rintro r w2 ⟨o,x',sl',rfl,ho,hE,hsl,hrw,hf⟩;have HO:=ab ho;have HE:=ab hE;have HSL:=ab hsl;have HR:=ab hrw;have HF:=ab hf;have BO:=ab (hf.box Z0.i.Z (by have:=HQ.i;simp;omega));have th2:=BO.i.S 0 6 (aU (Oc.J vk).symm);clear ho hE hsl hrw hf);refine aO (kOc.Aj rfl _ rfl (BO.i.put o.ay (by rw[Oc.J,Oc.J])) (Oc.J _)) rfl ?_;exact Ck H.i Z0.i.X HL.i HO.i HE.i HSL.i HR.i HF.i
theorem arG(h:Ab W q e s x q2 g sl)(a:At)(u:Ac)(ha:AtR W a u)(hk:u.kind≠1/\u.kind≠2/\u.kind≠3/\u.kind≠4):
 aR ah 25 #[.c (some ⟨q,0,none⟩),.d a.ay] W (XU W q e x q2 g sl (s,{Hr with err:=1})):=by
 have Z0:=ab (((Bx.start W).new a.ay 66).new vk.ay 58);rw[show(W.alloc (.D a.ay 66)).a.j=W.a.j+1 by simp]at Z0;have f0:=(Z0.i.b1.R.1 0).trans (At.zB a);rw[ha.kind]at f0;have th:=Z0.i.Z.S 0 6 (aU (Oc.J vk).symm);have hlt:=ab Z0.i.Z.lt;have H:=ab h;have k1:(u.kind==1)=false:=by simpa using hk.1
 have k2:(u.kind==2)=false:=by simpa using hk.2.1
 have k3:(u.kind==3)=false:=by simpa using hk.2.2.1
 have k4:(u.kind==4)=false:=by simpa using hk.2.2.2
 clear h hk;go_enter LX,I7;go_upto_region 1 with fail
 generalize(W.alloc (.D a.ay 66)).alloc (.D vk.ay 58)=w1 at Z0 f0 th hlt ⊢;go_wp2_with fail;refine aO (kOc.Aj rfl _ rfl (Z0.i.Z.put (Oc.bad 1).ay (by rw[Oc.J,Oc.J])) (Oc.J _)) rfl ?_;exact Ck H.i Z0.i.X hlt.i (ab0 _ _ 1) (H.i.go Z0.i.X) rfl (fun b hb=>.b hb) (jP.refl _ _)
theorem akJ{M:Int}(h:Ab W q e s x q2 g sl)(hi:og M e s)(a:At)(u:Ac)(ha:AtR W a u)(hk:u.kind=4):
 aR ah 25 #[.c (some ⟨q,0,none⟩),.d a.ay] W (XU W q e x q2 g sl (Rh e s)):=by
 have Z0:=ab (((Bx.start W).new a.ay 66).new vk.ay 58);rw[show(W.alloc (.D a.ay 66)).a.j=W.a.j+1 by simp]at Z0;have f0:=(Z0.i.b1.R.1 0).trans (At.zB a);rw[ha.kind,hk]at f0;have th:=Z0.i.Z.S 0 6 (aU (Oc.J vk).symm);have hlt:=ab Z0.i.Z.lt;have f77:=((h.b.eg.go Z0.i.X).R.1 77).trans (Eg.Ui x);have g77:=(h.b.eg.go Z0.i.X).R.2.1 77;have H:=ab h;have HI:=ab hi;have hti:=hi.ti;have hxt:=h.b.ig;clear h hi;go_enter LX,I7;go_upto_region 1 with fail
 generalize(W.alloc (.D a.ay 66)).alloc (.D vk.ay 58)=w1 at Z0 f0 th hlt f77 g77 ⊢;by_cases hT:1099511627776<=s.ig
 ·have q1:decide (x.ig>=1099511627776)=true:=by simp;omega
  have HU:=ab (show Rh e s=(s,{Hr with err:=7})by unfold Rh;rw[if_pos hT]);clear hT hti hxt g77;go_wp2_with fail;refine aO (kOc.Aj rfl _ rfl (Z0.i.Z.put (Oc.bad 7).ay (by rw[Oc.J,Oc.J])) (Oc.J _)) rfl ?_;rw[HU.i];exact Ck H.i Z0.i.X hlt.i (ab0 _ _ 7) (H.i.go Z0.i.X) rfl (fun b hb=>.b hb) (jP.refl _ _)
 ·have q1:decide (x.ig>=1099511627776)=false:=by simp;omega
  have HU:=ab (show Rh e s=({s with ig:=x.ig+1,tQ:=Mt (x.ig+1) x.cf.kK s.tQ},Hr)by unfold Rh;rw[if_neg hT,hxt,H.i.b.cf]);have hw:=jY (x.ig+1) (by omega);have E1:=ab ((H.i.go Z0.i.X).arF (x.ig+1));have hf1:jP [q] w1 (w1.I ⟨q,77,none⟩ (.b .a (x.ig+1))):=(jP.refl [q] w1).set ⟨q,77,none⟩ _ (.b (by simp));have HF1:=ab hf1;have B0:=ab (hf1.box Z0.i.Z (by have:=H.i.b.lt;simp;omega));clear hT hti hxt hf1;go_upto_region 24 with fail
  clear th f0 f77 g77;generalize w1.I ⟨q,77,none⟩ (.b .a (x.ig+1))=w2 at E1 HF1 B0 ⊢;have KS:=ab (fun(w':ak) (h4:dP w' q ({x with ig:=x.ig+1}:Eg).ay)=>show w'.b ⟨q,74,none⟩=some (.c (some ⟨q2,0,none⟩))/\w'.b ⟨q,77,none⟩=some (.b .a (x.ig+1))/\(WV (.c (some ⟨q,19,none⟩))).O ah w'=.ok (.d (K9 x.cf.kK)) w' from
   ⟨by
    rw[h4.R.1 74,Eg.Zu];show some (tJ (x.fl.map fun b=>⟨b,0,none⟩))=_;rw[H.i.b.fl];rfl,(h4.R.1 77).trans (Eg.Ui _),kI6.Ei h4 19 (Eg.TY _) (by rw[Eg.J];omega)⟩)
  have CU:=ab (ael (E1.i.go (iJ _)).b.tb (x.ig+1) x.cf.kK);obtain⟨k1,k2,k3⟩:=KS.i _ (E1.i.b.eg.go (iJ _));go_region_held_law (fun w'=>w'.b ⟨q,74,none⟩=some (.c (some ⟨q2,0,none⟩))/\w'.b ⟨q,77,none⟩=some (.b .a (x.ig+1))/\(WV (.c (some ⟨q,19,none⟩))).O ah w'=.ok (.d (K9 x.cf.kK)) w')
   (first|exact KS.i _ (E1.i.b.eg.go (iJ _))|exact KS.i _ BQ.i|go_keep)
   (first|(go_at_call 75;(with_reducible refine CU.i.g ?_);rintro r w3 ⟨⟨A5,c5,rfl⟩,⟨sl',ht,hsl⟩,hf⟩;have HTB:=ab ht;have HSL:=ab hsl;have HF:=ab hf;have BQ:=ab (jP.box hf (E1.i.b.eg.go (iJ _)) (by have h1:=H.i.b.nq;simp;omega));have B2:=ab (jP.box hf (B0.i.go (iJ _)) (by have h1:=H.i.b.lt;simp;omega));clear hf ht hsl))
  have th:=B2.i.S 0 6 (aU (Oc.J vk).symm);have E2:=ab (Ab.rP (E1.i.go (iJ _)) HF.i HTB.i HSL.i);go_wp2_with fail;refine aO (kOc.Aj rfl _ rfl (B2.i.put vk.ay rfl) (Oc.J _)) rfl ?_;rw[HU.i];exact Ck H.i Z0.i.X hlt.i (aor _ _) E2.i HSL.i (fun b hb=>.b hb) (((HF1.i.lD (F':=[q,q2,g]) (by simp)).qy (jP.jF (iJ _))).qy (HF.i.lD (by simp)))
end
section
variable {W W':ak} {q:Nat} {e:En} {s:qE} {x:Eg} {q2 g:Nat} {sl:List (Option Fw)}
theorem agX{x:Hl}{well:Bool}{r f:Int}:(vS x well r f).1.F=x.F/\((vS x well r f).2=false->(vS x well r f).1.down=x.down):=by
 unfold vS
 repeat' split
 all_goals simp
theorem Zy:∀(l:List Hl)(k:Nat)(y:Hl),k<l.a->y.F=(l.b k lY).F->y.down=(l.b k lY).down->oM (l.set k y)=oM l
 | [],_,_,h,_,_=>by cases h
 | a::l,0,y,_,h1,h2=>by
   unfold oM;simp only[List.getD_cons_zero]at h1 h2;simp only[bQ,List.filter_cons,h2];split<;>simp[h1]
 | a::l,k+1,y,h,h1,h2=>by
   have ih:=Zy l k y (by simpa using h) (by simpa using h1) (by simpa using h2);unfold oM at ih ⊢;simp only[bH,List.filter_cons];split<;>simp[ih]
theorem agY{l:List Hl}{n:List UInt8}{well:Bool}{r f:Int}(h:(Ld l n well r f).2.1=false):oM (Ld l n well r f).1=oM l:=by
 unfold Ld at h ⊢;split
 ·rfl
 ·rename_i hp
  rw[if_neg hp]at h;have hk:=agX (x:=l.b (AL l n).e lY) (well:=well) (r:=r) (f:=f);by_cases hl:(AL l n).e<l.a
  ·exact Zy l _ _ hl hk.1 (hk.2 h)
  ·simp only
   rw[List.set_eq_of_length_le (by omega)]
theorem akK(l:List Hl)(s:List UInt8)(a:Bool)(b c:Int):(Ld l s a b c).1.a=l.a:=by
 unfold Ld;split
 ·rfl
 ·simp
theorem QA{A:Option aV}{n c:Nat}{b:Nat}(h:b∈qY ({x with Pg:=A,EL:=n,Tj:=c}:Eg)):b∈qY x\/b∈xG A:=by
 rcases dX.1 h with h|h|h|h|h|h
 ·exact .b (dX.2 (.b h))
 ·exact .b (dX.2 (.a (.b h)))
 ·exact .a h
 ·exact .b (dX.2 (.a (.a (.a (.b h)))))
 ·exact .b (dX.2 (.a (.a (.a (.a (.b h))))))
 ·exact .b (dX.2 (.a (.a (.a (.a (.a h))))))
theorem MO.arH{A:Option aV}{n c:Nat}{JZ:List Hl}(h:MO W q e s x q2 g sl)(hR:iT Hl.ay 3 W' W'.a.j A n JZ)(hf:jP [q] W W')(hb:dP W' q ({x with Pg:=A,EL:=n,Tj:=c}:Eg).ay)(hA:∀b∈xG A,W.a.j<=b/\b<W'.a.j):MO W' q e {s with J:=JZ} ({x with Pg:=A,EL:=n,Tj:=c}:Eg) q2 g sl:=by
 have o:∀b,b∈qY x->b∉[q]:=fun b hm=>h.i hm
 have hs:=hf.j;have hq:=h.nq;have hlt:=h.lt;refine⟨hb,h.key,h.cf,h.nP,h.vs.keep hf (fun b hm=>o b (dX.2 (.b hm))),h.h.keep hf (fun b hm=>o b (dX.2 (.a (.b hm)))),hR,h.fl,h.tb.keep hf (by simp;omega) (by simp;omega),h.rm,h.nq,fun b hm=>?_,h.ig,h.no,h.mV⟩;rcases QA hm with hm|hm
 ·have:=h.IL b hm;omega
 ·have:=hA b hm;omega
theorem Ab.arH{A:Option aV}{n c:Nat}{JZ:List Hl}(h:Ab W q e s x q2 g sl)(hR:iT Hl.ay 3 W' W'.a.j A n JZ)(hf:jP [q] W W')(hb:dP W' q ({x with Pg:=A,EL:=n,Tj:=c}:Eg).ay)(hA:∀b∈xG A,W.a.j<=b/\b<W'.a.j)(hd:oM JZ=oM s.J):Ab W' q e {s with J:=JZ} ({x with Pg:=A,EL:=n,Tj:=c}:Eg) q2 g sl:=by
 have o:∀b,b∈qY x->b∉[q]:=fun b hm=>h.b.i hm
 refine⟨h.b.arH hR hf hb hA,?_,?_⟩
 ·have:=h.dn.keep hf (fun b hm=>o b (dX.2 (.a (.a (.a (.b hm))))))
  rw[<-hd]at this;exact this
 ·have:=h.tt.keep hf (fun b hm=>o b (dX.2 (.a (.a (.a (.a (.b hm))))))) (fun b hm=>o b (dX.2 (.a (.a (.a (.a (.a hm)))))))
  have he:Bj e {s with J:=JZ}=Bj e s:=by unfold Bj;simp only;rw[hd]
  rw[<-he]at this;exact this
theorem akL{M:Int}(h:Ab W q e s x q2 g sl)(hi:og M e s)(a:At)(u:Ac)(ha:AtR W a u)(hk:u.kind=3):
 aR ah 25 #[.c (some ⟨q,0,none⟩),.d a.ay] W (XU W q e x q2 g sl (Rf e s u.F u.h)):=by
 have Z0:=ab (((Bx.start W).new a.ay 66).new vk.ay 58);rw[show(W.alloc (.D a.ay 66)).a.j=W.a.j+1 by simp]at Z0;have f0:=(Z0.i.b1.R.1 0).trans (At.zB a);rw[ha.kind,hk]at f0;have hlt:=ab Z0.i.Z.lt;have H:=ab h;have HI:=ab hi;have HA:=ab (show a.F=u.F/\a.h=u.h from⟨ha.F,ha.h⟩);have hnn:=uj hi.cn;obtain⟨st,hst⟩:=cB (Ld s.J u.F u.h x.cf.kI x.cf.fall);have hcr:x.cf.kI=e.c.kI/\x.cf.fall=e.c.fall:=by rw[h.b.cf];exact⟨rfl,rfl⟩
 have HST:=ab (show st=Ld s.J u.F u.h e.c.kI e.c.fall by rw[hst,hcr.1,hcr.2]);have CS:=ab (fun(w:ak) (hb:aM W.a.j W w)=>apG s.J u.F u.h x.cf.kI x.cf.fall x.Pg x.EL x.Tj w (h.b.hl.go hb) (fun y hy=>by have h1:=hi.hl y hy;unfold asg;split at h1<;>omega) (by have h1:=h.b.hl.1;have h2:=hi.few;omega));rw[<-hst]at CS;unfold ax6 at CS;clear h hi hst hcr hnn;obtain⟨JZ,turned,er⟩:=st;simp only at CS;go_enter LX,I7;go_upto_region 1 with fail
 generalize(W.alloc (.D a.ay 66)).alloc (.D vk.ay 58)=w1 at Z0 f0 hlt ⊢;go_upto_region 13 with fail
 have KS:=ab (fun(w':ak) (h1:dP w' W.a.j a.ay) (h4:dP w' q x.ay)=>show w'.b ⟨q,72,none⟩=some (.a x.Pg x.EL x.Tj)/\w'.b ⟨W.a.j,32,none⟩=some (.g (bK u.F))/\w'.b ⟨W.a.j,33,none⟩=some (.e u.h)/\w'.b ⟨q,25,none⟩=some (.b .a x.cf.kI)/\w'.b ⟨q,26,none⟩=some (.b .a x.cf.fall)from
  ⟨(h4.R.1 72).trans (Eg.Zt _),by rw[h1.R.1 32,At.zJ,HA.i.1],by rw[h1.R.1 33,At.arE,HA.i.2],(h4.R.1 25).trans (Eg.Ua _),(h4.R.1 26).trans (Eg.Ub _)⟩)
 go_region_held_law (fun w'=>w'.b ⟨q,72,none⟩=some (.a x.Pg x.EL x.Tj)/\w'.b ⟨W.a.j,32,none⟩=some (.g (bK u.F))/\w'.b ⟨W.a.j,33,none⟩=some (.e u.h)/\w'.b ⟨q,25,none⟩=some (.b .a x.cf.kI)/\w'.b ⟨q,26,none⟩=some (.b .a x.cf.fall))
  (first|exact KS.i _ Z0.i.drew.b1 (H.i.b.eg.go Z0.i.drew.X)|exact KS.i _ Z1.i.b1 (H.i.b.eg.go Z1.i.X)|go_keep)
  (first|(go_at_call 74;(with_reducible refine(CS.i _ Z0.i.drew.X).g ?_);rintro r w2 ⟨A5,c5,rfl,ho,hb⟩;have HO:=ab ho;have Z1:=ab (Z0.i.drew.go hb);have HSZ:=ab (show w1.a.j<=w2.a.j from hb.j);have HB2:=ab (show aM w1.a.j w1 w2 from(iJ w1).trans hb);clear hb ho))
 have HO:=ab (show w2.c w1.a.j 100 3 (.a A5 x.EL c5) x.EL (yg JZ)from HO.i);have th:=Z1.i.Z.S 0 6 (aU (Oc.J vk).symm);by_cases her:er=0
 case neg=>
  have q1:(er != 0)=true:=by simpa using her
  have HU:=ab (show Rf e s u.F u.h=(s,{Hr with err:=er})by unfold Rf;rw[<-HST.i];simp only;rw[if_neg her]);clear her;go_wp2_with fail;refine aO (kOc.Aj rfl _ rfl (Z1.i.Z.put (Oc.bad er).ay (by rw[Oc.J,Oc.J])) (Oc.J _)) rfl ?_;rw[HU.i];exact Ck H.i Z1.i.X (fE hlt.i HSZ.i) (ab0 _ _ er) (H.i.go Z1.i.X) rfl (fun b hb=>.b hb) (jP.refl _ _)
 obtain rfl:=her;have HU:=ab (show Rf e s u.F u.h=({s with J:=JZ},Hr)by unfold Rf;rw[<-HST.i];simp);have HIV:=ab (show og M e {s with J:=JZ}by have:=adY HI.i u.F u.h;rw[HU.i]at this;exact this);have g72:=(H.i.b.eg.go Z1.i.X).R.2.1 72;have hb3:=(H.i.b.eg.go Z1.i.X).fC 72 (.a A5 x.EL c5);rw[Eg.agP]at hb3;have hf3:jP [q] w2 (w2.I ⟨q,72,none⟩ (.a A5 x.EL c5)):=(jP.refl [q] w2).set ⟨q,72,none⟩ _ (.b (by simp));have HHB:=ab hb3;have HHF:=ab hf3;have B3:=ab (hf3.box Z1.i.Z (by have:=H.i.b.lt;simp;omega));have HFR:=ab (lM HO.i);have HLN:=ab (show JZ.a=x.EL by
  have h1:=congrArg (fun r=>r.1.a) HST.i;simp only[akK]at h1;rw[h1];exact H.i.b.hl.1)
 have RH:=ab (show iT Hl.ay 3 (w2.I ⟨q,72,none⟩ (.a A5 x.EL c5)) (w2.I ⟨q,72,none⟩ (.a A5 x.EL c5)).a.j A5 x.EL JZ from(iT.jh HLN.i HO.i).keep hf3 (fun b hb=>by have:=HFR.i b hb;have:=H.i.b.lt;have:=Z1.i.X.j;have:=HSZ.i;have:=Z0.i.X.j;simp;omega));have HWS:(w2.I ⟨q,72,none⟩ (.a A5 x.EL c5)).a.j=w2.a.j:=by simp[iA]
 have HWZ:=ab HWS;have HFA:=ab ((jP.jF (F:=[q]) Z1.i.X).qy hf3);have Ho:=ab (show W.a.j<=w1.a.j from Z0.i.X.j);have agZ:=ab ((jP.jF (F:=[q]) HB2.i).qy hf3);have HBA:=ab (show∀b∈xG A5,w1.a.j<=b/\b<(w2.I ⟨q,72,none⟩ (.a A5 x.EL c5)).a.j from fun b hb=>by rw[HWS];exact HFR.i b hb);cases turned with
 | false=>
   have HD:=ab (show oM JZ=oM s.J by have:=agY (l:=s.J) (n:=u.F) (well:=u.h) (r:=e.c.kI) (f:=e.c.fall) (by rw[<-HST.i]);rw[<-HST.i]at this;exact this);have E3:=ab ((H.i.go Z0.i.X).arH RH.i agZ.i hb3 HBA.i HD.i);clear hf3 hb3 th HWS;have th3:=B3.i.S 0 6 (aU (Oc.J vk).symm);go_upto_region 17 with fail
   generalize w2.I ⟨q,72,none⟩ (.a A5 x.EL c5)=w3 at E3 HHF HFA agZ HBA B3 th3 HWZ RH HHB ⊢;go_wp2_with fail;refine aO (kOc.Aj rfl _ rfl (B3.i.put vk.ay rfl) (Oc.J _)) rfl ?_;rw[HU.i];exact Ck H.i Z0.i.X hlt.i (aor _ _) E3.i rfl (fun b hb=>(QA hb).imp id (fun h=>(HBA.i b h).1)) (agZ.i.lD (by simp))
 | true=>
   have E3:=ab ((H.i.go Z0.i.X).b.arH RH.i agZ.i hb3 HBA.i);clear hf3 hb3 th HWS;go_upto_region 17 with fail
   generalize w2.I ⟨q,72,none⟩ (.a A5 x.EL c5)=w3 at E3 HHF HFA agZ HBA B3 HWZ RH HHB ⊢;have CB:=ab (JX E3.i HIV.i);unfold abV at CB;go_upto_region 19 with(go_at_call 64;(with_reducible refine CB.i.g ?_);rintro r w4 ⟨rfl,⟨x',hE,hrw⟩,hf⟩;have HE:=ab hE;have HRW:=ab hrw;have HF:=ab hf;have B4:=ab (hf.box B3.i (by have:=H.i.b.lt;simp;omega));have th4:=B4.i.S 0 6 (aU (Oc.J vk).symm);clear hE hrw hf)
   go_wp2_with fail;refine aO (kOc.Aj rfl _ rfl (B4.i.put vk.ay rfl) (Oc.J _)) rfl ?_;rw[HU.i];refine Ck H.i Z0.i.X hlt.i (aor _ _) HE.i rfl (fun b hb=>?_) ((agZ.i.qy HF.i).lD (by simp));rcases HRW.i b hb with h1|h1
   ·exact(QA h1).imp id (fun h=>(HBA.i b h).1)
   ·exact .a (aP agZ.i.j h1)
end
section
variable {W W':ak} {q:Nat} {e:En} {s:qE} {x:Eg} {q2 g:Nat} {sl:List (Option Fw)}
@[go_sem]theorem aAt(W:ak)(k:Int):(vK 58 #[(3,.b .a k)]).O ah W=.ok (.d (Oc.mk 0 0 false k [] none 0 0).ay) W:=kOc.bd W _ _ _ _ kW (aoh W _ kW) (by
 refine(iE rfl rfl (by rw[Oc.J];omega) (Oc.as8 _ _)).trans ?_;rfl)
theorem dP.av4{W:ak}{b o:Nat}{c:Array aB}{t:rJ}(h:dP W b c)(hc:c.extract o (o+30)=t.ay)(hs:o+30<=c.j):(Nw (.c (some ⟨b,o,none⟩))).O ah W=.ok (.d t.ay) W:=by
 obtain⟨_,_,h3,h4⟩:=h.R;rw[amg W b o (by rw[h3 o 30 (by unfold eU;omega)];trivial),h4 o 30 (by unfold eU;omega),hc]
theorem aeC{F:List Nat}{B n c sz:Nat}{T:bL}{A:Option aV}{xs:List aB}(h:W.c B T sz (.a A n c) n xs)(hf:jP F W W')(hF:∀b∈F,b<B):W'.c B T sz (.a A n c) n xs:=Ci h hf (fun k hk hm=>by
 have h2:k∈xG A:=by
  cases hA:A with
  | none=>rw[hA]at hk;cases hk
  | some a=>rw[hA]at hk;exact Eh.2 ⟨a,rfl,by simpa[j6]using hk⟩
 have h3:=(lM h k h2).1;have:=hF k hm;omega)
theorem Eg.aAu(h:dP W q x.ay)(pc:Pc):dP (gV W q 70 pc.ay) q ({x with pl:=pc}:Eg).ay:=by
 have:=h.setCells 70 pc.ay.a;rw[show pc.ay.a.c=pc.ay by simp,Eg.an7]at this;exact this
theorem dP.arp{b:Nat}{pc:Pc}(h:dP W b pc.ay):(yU 32 (.c (some ⟨b,0,none⟩))).O ah W=.ok (.d pc.ay) W:=by
 have:=kPc.Ei h 0 (d:=pc.ay) (by have:=Pc.J pc;rw[<-this];simp) (by rw[Pc.J];omega);exact this
theorem og.arI{M:Int}(h:og M e s):∀y∈s.J,y.F.a<=100000:=fun y hy=>by
 have h1:y.F∈s.h.map (·.F):=by rw[<-h.nm];exact jf.2 ⟨y,hy,rfl⟩
 obtain⟨z,hz,h2⟩:=jf.1 h1;have h3:=h.few.2.2 z hz;rw[<-h2];omega
theorem aos{w4 w5 w6:ak}{oq:List Hl}{A:Option aV}{c:Nat}(h1:aM w4.drew.a.j w4.drew w5)(h2:aM w5.a.j w5 w6)(hq:q<w4.a.j)(Q:dP w6 q x.ay)(O:w6.c w5.a.j 100 3 (.a A oq.a c) oq.a (yg oq)):
 ∃A2 n2 c2,dP (w6.I ⟨q,72,none⟩ (.a A oq.a c)) q ({x with Pg:=A2,EL:=n2,Tj:=c2}:Eg).ay/\iT Hl.ay 3 (w6.I ⟨q,72,none⟩ (.a A oq.a c)) (w6.I ⟨q,72,none⟩ (.a A oq.a c)).a.j A2 n2 oq/\(∀b∈xG A2,w4.a.j<=b/\b<(w6.I ⟨q,72,none⟩ (.a A oq.a c)).a.j)/\jP [q] w4 (w6.I ⟨q,72,none⟩ (.a A oq.a c)):=by
 have s1:w4.a.j<=w5.a.j:=h1.j;have hf:jP [q] w6 (w6.I ⟨q,72,none⟩ (.a A oq.a c)):=(jP.refl [q] w6).set ⟨q,72,none⟩ _ (.b (by simp));have hb:=Q.fC 72 (.a A oq.a c);rw[Eg.agP]at hb;have hfr:=lM O;refine⟨A,oq.a,c,hb,(iT.jh rfl O).keep hf (fun b hm=>by have:=hfr b hm;simp;omega),fun b hm=>?_,(((jP.jF (F:=[q]) (iJ w4)).qy (jP.jF h1)).qy (jP.jF h2)).qy hf⟩;have:=hfr b hm;have e1:(w6.I ⟨q,72,none⟩ (.a A oq.a c)).a.j=w6.a.j:=by simp[iA]
 rw[e1];omega
theorem Zz{p:Pc}{A:Option aV}{n c:Nat}{b:Nat}(h:b∈qY ({x with pl:=p,Pg:=A,EL:=n,Tj:=c}:Eg)):b∈qY x\/b∈xG p.rA\/b∈xG A:=by
 rcases dX.1 h with h|h|h|h|h|h
 ·exact .b (dX.2 (.b h))
 ·exact .a (.b h)
 ·exact .a (.a h)
 ·exact .b (dX.2 (.a (.a (.a (.b h)))))
 ·exact .b (dX.2 (.a (.a (.a (.a (.b h))))))
 ·exact .b (dX.2 (.a (.a (.a (.a (.a h))))))
theorem MO.av5{p:Pc}{A:Option aV}{n c:Nat}{l:List Bk}{JZ:List Hl}(h:MO W q e s x q2 g sl)(hP:iT Bk.ay 27 W' W'.a.j p.rA p.rN l)(hR:iT Hl.ay 3 W' W'.a.j A n JZ)(hf:jP [q] W W')(hb:dP W' q ({x with pl:=p,Pg:=A,EL:=n,Tj:=c}:Eg).ay)(hA:∀b,b∈xG p.rA\/b∈xG A->W.a.j<=b/\b<W'.a.j):MO W' q e {s with nP:=p.nP,h:=l,J:=JZ} ({x with pl:=p,Pg:=A,EL:=n,Tj:=c}:Eg) q2 g sl:=by
 have o:∀b,b∈qY x->b∉[q]:=fun b hm=>h.i hm
 have hs:=hf.j;have hq:=h.nq;have hlt:=h.lt;refine⟨hb,h.key,h.cf,rfl,h.vs.keep hf (fun b hm=>o b (dX.2 (.b hm))),hP,hR,h.fl,h.tb.keep hf (by simp;omega) (by simp;omega),h.rm,h.nq,fun b hm=>?_,h.ig,h.no,h.mV⟩;rcases Zz hm with hm|hm
 ·have:=h.IL b hm;omega
 ·have:=hA b hm;omega
def DoP(w:ak)(v:Int)(l:List Bk)(er:Int)(r:lJ)(w':ak):Prop:=
 ∃A c,r=.a (.K #[.d (Pc.mk v A l.a c).ay,.b .a er])/\w'.c w.a.j 62 27 (.a A l.a c) l.a (dL l)/\aM w.a.j w w'
theorem aAv{M:Int}(h:Ab W q e s x q2 g sl)(hi:og M e s)(hv:s.nP<9223372036854775807/\-9223372036854775808<=s.nP)(o:rJ)(hf:o.h.sD)(hw:o.w<18446744073709551616){w:ak}(hb:aM W.a.j W w):
 aR ah 71 #[.d x.pl.ay,.d o.ay] w (DoP w (doV s.nP s.h o) (doL s.nP s.h o) (qU s.nP s.h o)):=by
 have h1:=h.b.h.go hb;have hn:=h.b.h.1;have akC:=hi.few;have:=atX s.h hi.srt s.nP ⟨hv.2,hv.1⟩ o hf hw x.pl.rA x.pl.rC w (by rw[hn];exact h1) (by omega);rw[hn]at this;have e1:x.pl.ay = #[.b .a s.nP,.a x.pl.rA x.pl.rN x.pl.rC]:=by unfold Pc.ay;rw[h.b.nP]
 rw[e1];exact this
theorem arJ{M:Int}(h:Ab W q e s x q2 g sl)(hi:og M e s)(a:At)(u:Ac)(ha:AtR W a u)(hk:u.kind=2)(hof:u.op.h.sD)(how:u.op.w<18446744073709551616):
 aR ah 25 #[.c (some ⟨q,0,none⟩),.d a.ay] W (XU W q e x q2 g sl (opE s u.op)):=by
 have Z0:=ab (((Bx.start W).new a.ay 66).new vk.ay 58);rw[show(W.alloc (.D a.ay 66)).a.j=W.a.j+1 by simp]at Z0;have f0:=(Z0.i.b1.R.1 0).trans (At.zB a);rw[ha.kind,hk]at f0;have hlt:=ab Z0.i.Z.lt;have H:=ab h;have HI:=ab hi;have HA:=ab ha.op;have CD:=ab (fun(w:ak) (hb:aM W.a.j W w)=>aAv h hi (by obtain⟨p1,p2,_⟩:=vT.1 hi.pl;omega) u.op hof how hb);unfold DoP at CD;obtain⟨v,hv⟩:=cB (doV s.nP s.h u.op);obtain⟨l,hl⟩:=cB (doL s.nP s.h u.op);obtain⟨er,her⟩:=cB (qU s.nP s.h u.op);rw[<-hv,<-hl,<-her]at CD;have HV:=ab hv;have HL:=ab hl;have HE:=ab her;clear h hi hv hl her;go_enter LX,I7;go_upto_region 1 with fail
 generalize(W.alloc (.D a.ay 66)).alloc (.D vk.ay 58)=w1 at Z0 f0 hlt ⊢;go_upto_region 5 with fail
 have KS:=ab (fun(w':ak) (h1:dP w' W.a.j a.ay) (h2:aM W.a.j W w')=>show(yU 32 (.c (some ⟨q,70,none⟩))).O ah w'=.ok (.d x.pl.ay) w'/\(Nw (.c (some ⟨W.a.j,2,none⟩))).O ah w'=.ok (.d u.op.ay) w' from
  ⟨H.i.b.agR h2,h1.av4 (o:=2) (by rw[<-HA.i];exact At.as9 a) (by rw[At.J];omega)⟩)
 go_cut [5,6]from 21 to 29 (fun s5 s6 wx=>∃y A c,s5=.c (some ⟨y,0,none⟩)/\s6=.b .a er/\w1.a.j<=y/\Bx [(y,(Pc.mk v A l.a c).ay),(W.a.j+1,vk.ay),(W.a.j,a.ay)] W wx/\wx.c w1.a.j 62 27 (.a A l.a c) l.a (dL l)/\aM w1.a.j w1 wx)
 case first=>
  have ZP:=ab ((Z0.i.new XQ.ay 32).drew);go_region_held_law (fun w'=>(yU 32 (.c (some ⟨q,70,none⟩))).O ah w'=.ok (.d x.pl.ay) w'/\(Nw (.c (some ⟨W.a.j,2,none⟩))).O ah w'=.ok (.d u.op.ay) w')
   (first|exact KS.i _ ZP.i.b2 ZP.i.X|exact KS.i _ Z0.i.b1 Z0.i.X|exact KS.i _ Z0.i.drew.b1 Z0.i.drew.X|exact KS.i _ (Z0.i.new XQ.ay 32).b2 (Z0.i.new XQ.ay 32).X|exact KS.i _ Z1.i.b2 Z1.i.X|exact KS.i _ Z2.i.b1 Z2.i.X|exact KS.i _ (Z2.i.new XQ.ay 32).b2 (Z2.i.new XQ.ay 32).X|exact KS.i _ ZQ.i.b2 ZQ.i.X|exact KS.i _ ZN.i.b2 ZN.i.X|go_keep)
   (first|(go_at_call 71;(with_reducible refine(CD.i _ ZP.i.X).g ?_);rintro r w2 ⟨A5,c5,rfl,ho,hb⟩;have HO:=ab ho;have Z1:=ab (ZP.i.go hb);have HB2:=ab hb;have thp:=Z1.i.Z.S 0 2 (aU (Pc.J XQ).symm);have ZQ:=ab (Z1.i.put (fun p hp=>iO (Z0.i.2 p hp).2.lt) (Pc.mk v A5 l.a c5).ay (by rw[Pc.J,Pc.J]));clear hb ho)|(go_at_call 71;(with_reducible refine(CD.i _ Z0.i.drew.X).g ?_);rintro r w2 ⟨A5,c5,rfl,ho,hb⟩;have HO:=ab ho;have Z2:=ab (Z0.i.drew.go hb);have ZN:=ab (Z2.i.new (Pc.mk v A5 l.a c5).ay 32);have HB2:=ab hb;clear hb ho))
  ·go_wp2_with fail
   go_meet
   case rel=>exact⟨w2.a.j,A5,c5,rfl,rfl,HB2.i.j,ZN.i,Ci HO.i (jP.jF (F:=[]) ((aG _ _).alloc (av _) _)) (fun k hk hm=>by cases hm),((iJ w1).trans HB2.i).alloc HB2.i.j _⟩
  ·go_wp2_with fail
   go_meet
   case rel=>exact⟨w1.a.j,A5,c5,rfl,rfl,av _,ZQ.i,iU (aeC HO.i (zM w2 w1.a.j 0 _) (by simp)) (by simp),lQ (((aG w1.a.j w1).alloc (av _) _).trans (((iJ _).trans HB2.i).g (by simp))) w1.a.j 0 _ (av _)⟩
 obtain⟨y,A,c,rfl,rfl,hy,Z3,hO,hB⟩:=hcut;have Z3:=ab Z3;have HO:=ab hO;have HB:=ab hB;have HY:=ab hy;clear hO hB hy CD;generalize wc=w3 at Z3 HO HB ⊢;have th:=Z3.i.b1.S 0 6 (aU (Oc.J vk).symm);by_cases h0:er=0
 case neg=>
  have q1:(er != 0)=true:=by simpa using h0
  have HU:=ab (show opE s u.op=(s,{Hr with err:=er})by unfold opE;rw[<-HE.i,if_neg h0]);clear h0;go_wp2_with fail;refine aO (kOc.Aj rfl _ rfl (Z3.i.b1.put (Oc.bad er).ay (by rw[Oc.J,Oc.J])) (Oc.J _)) rfl ?_;rw[HU.i];exact Ck H.i Z3.i.X (fE hlt.i HB.i.j) (ab0 _ _ er) (H.i.go Z3.i.X) rfl (fun b hb=>.b hb) (jP.refl _ _)
 obtain rfl:=h0;have HU:=ab (show opE s u.op=({s with nP:=v,h:=l,J:=FC s.J (l.map (·.F))},{Hr with nP:=v})by unfold opE;rw[<-HE.i,if_pos rfl,<-HV.i,<-HL.i]);have HIV:=ab (show og M e {s with nP:=v,h:=l,J:=FC s.J (l.map (·.F))}by have:=ane HI.i u.op hof how;rw[HU.i]at this;exact this);have hq:=H.i.b.lt;have hyw:W.a.j+1<y:=fE hlt.i HY.i;have EB:=H.i.b.eg.go Z3.i.X;have th2:=EB.S 70 2 (by rw[Eg.J];omega);have lp:=Z3.i.Z.arp;have HB4:=ab (Eg.aAu EB (Pc.mk v A l.a c));go_upto_region 9 with fail
 have hrw:=H.i.b.IL;have F4:=ab (zM w3 q 70 (Pc.mk v A l.a c).ay);have BY:=ab (F4.i.box Z3.i.Z (by simp;omega));have B4:=ab (F4.i.box Z3.i.b1 (by simp;omega));have O4:=ab (aeC HO.i F4.i (by have:=Z0.i.X.j;simp;omega));have HR4:=ab ((H.i.b.hl.go Z3.i.X).keep F4.i (fun b hb=>by have:=hrw b (dX.2 (.a (.a (.b hb))));simp;omega));have HF:=ab HIV.i.few;have HNN:=ab HI.i.arI;have HNM:=ab (show∀z∈l.map (·.F),z.a<=100000 from fun z hz=>by
  obtain⟨b,hb,rfl⟩:=jf.1 hz;have:=HF.i.2.2 b hb;omega)
 have HLE:=ab (show x.EL<=100000 by have h1:=H.i.b.hl.1;have h2:=HI.i.few;omega);have HQ3:=ab (show q<w3.a.j by have:=Z3.i.X.j;omega);clear hq hyw EB th2 lp hrw th f0;generalize gV w3 q 70 (Pc.mk v A l.a c).ay=w4 at HB4 F4 BY B4 O4 HR4 ⊢;have HQ4:=ab (show q<w4.a.j from fE HQ3.i F4.i.j);have CN:=ab (aew l v A l.a c w4.drew ((iT.jh rfl O4.i).go (iJ _)) (by have:=HF.i.1;simp at this;omega));have f72:=((HB4.i.go (iJ _)).R.1 72).trans (Eg.Zt _);have lp:=(BY.i.go (iJ _)).arp;go_cut []from 38 to 47 (fun wx=>∃A2 n2 c2,dP wx q ({x with pl:=Pc.mk v A l.a c,Pg:=A2,EL:=n2,Tj:=c2}:Eg).ay/\iT Hl.ay 3 wx wx.a.j A2 n2 (FC s.J (l.map (·.F)))/\(∀b∈xG A2,w4.a.j<=b/\b<wx.a.j)/\jP [q] w4 wx)
 case first=>
  go_region_with (first
   | (go_at_call 73;(with_reducible refine CN.i.g ?_);rintro r w5 ⟨A2,n2,c2,rfl,hR,hb⟩;have HN5:=ab hR;have B5:=ab hb;have Y5:=ab ((BY.i.go (iJ _)).go hb);have Q5:=ab ((HB4.i.go (iJ _)).go hb);have aMa:=(Q5.i.R.1 72).trans (Eg.Zt _);have lp5:=Y5.i.arp;have CY:=ab (amC s.J (l.map (·.F)) x.Pg x.EL x.Tj A2 n2 c2 w5 ((HR4.i.go (iJ _)).go hb) hR HLE.i (by have h1:=hR.1;have h2:=HF.i.1;simp at h1 h2;omega) HNN.i HNM.i);clear hR hb)
   | (go_at_call 72;(with_reducible refine CY.i.g ?_);rintro r w6 ⟨A6,c6,rfl,ho,hb⟩;have O6:=ab ho;have B6:=ab hb;have Y6:=ab (Y5.i.go hb);have Q6:=ab (Q5.i.go hb);have g72:=Q6.i.R.2.1 72;have aMb:=(Q6.i.R.1 72).trans (Eg.Zt _);have Y7:=ab (((jP.refl [q] w6).set ⟨q,72,none⟩ (.a A6 (FC s.J (l.map (·.F))).a c6) (.b (by simp))).box Y6.i (by have h1:=H.i.b.lt;have h2:=hlt.i;have h3:=HY.i;simp;omega));clear ho hb))
  all_goals go_wp2_with fail
  all_goals go_meet
  all_goals(have hs:=aos (x:=({x with pl:=Pc.mk v A l.a c}:Eg)) B5.i B6.i HQ4.i Q6.i O6.i;exact hs)
 obtain⟨A2,n2,c2,hb5,hr5,av6,hf5⟩:=hcut;have s1:=HB.i.j;have F34:jP [q] w1 wc:=((jP.jF (F:=[q]) HB.i).qy F4.i).qy hf5;have hq1:=H.i.b.lt;have s0:=Z0.i.X.j;have hOf:=lM O4.i;have E5:=ab ((H.i.go Z0.i.X).b.av5 (p:=Pc.mk v A l.a c) (((iT.jh rfl O4.i)).keep hf5 (fun b hb=>by have:=hOf b hb;simp;omega)) hr5 F34 hb5 (fun b hb=>by
  rcases hb with hb|hb
  ·have h1:=hOf b hb;have h2:=hf5.j;omega
  ·have h1:=av6 b hb;have h2:=F4.i.j;omega))
 have aFv:=ab av6;have HOF:=ab hOf;have aAw:=ab F34;have hyw:W.a.j+1<y:=fE hlt.i HY.i;have Y5:=ab (hf5.box BY.i (by simp;omega));have U5:=ab (hf5.box B4.i (by simp;omega));have CB:=ab (JX (show MO wc q e {s with nP:=v,h:=l,J:=FC s.J (l.map (·.F))} _ q2 g sl from E5.i) HIV.i);unfold abV at CB;have HS4:=ab (show w1.a.j<=w4.a.j from aP HB.i.j F4.i.j);have HYW:=ab hyw;clear av6 hOf F34 hyw hf5 hb5 hr5 s1 s0 hq1 CN f72 lp;go_upto_region 11 with(go_at_call 64;(with_reducible refine CB.i.g ?_);rintro r w7 ⟨rfl,⟨x',hE,hrw⟩,hf⟩;have HEE:=ab hE;have HRW:=ab hrw;have HF7:=ab hf;have Y7:=ab (hf.box Y5.i (by have h1:=H.i.b.lt;have h2:=HYW.i;simp;omega));have U7:=ab (hf.box U5.i (by have h1:=H.i.b.lt;simp;omega));clear hE hrw hf)
 have fv:=(Y7.i.R.1 0).trans (Pc.abU _);have th:=U7.i.S 0 6 (aU (Oc.J vk).symm);go_wp2_with fail;refine aO (kOc.Aj rfl _ rfl (U7.i.put (Oc.mk 0 0 false v [] none 0 0).ay (by rw[Oc.J,Oc.J])) (Oc.J _)) rfl ?_;rw[HU.i];refine Ck H.i Z0.i.X hlt.i ⟨rfl,rfl,rfl,rfl,rfl,rfl,fQ _ _ _ _⟩ HEE.i rfl (fun b hb=>?_) ((aAw.i.qy HF7.i).lD (by simp));rcases HRW.i b hb with h1|h1
 ·rcases Zz h1 with h2|h2|h2
  ·exact .b h2
  ·exact .a (HOF.i b h2).1
  ·exact .a (aP HS4.i (aFv.i b h2).1)
 ·exact .a (aP aAw.i.j h1)
end
theorem Xc{W:ak}{q:Nat}{e:En}{s:qE}{x:Eg}{q2 g:Nat}{sl:List (Option Fw)}{M:Int}(h:Ab W q e s x q2 g sl)(hi:og M e s)(hM:M<1152921504606846976)(a:At)(u:Ac)(ha:AtR W a u)(hof:u.op.h.sD)(how:u.op.w<18446744073709551616):
 aR ah 25 #[.c (some ⟨q,0,none⟩),.d a.ay] W (XU W q e x q2 g sl (xO e s u)):=by
 unfold xO;by_cases h1:u.kind=1
 ·rw[if_pos h1];exact agW h hi hM a u ha h1
 rw[if_neg h1];by_cases h2:u.kind=2
 ·rw[if_pos h2];exact arJ h hi a u ha h2 hof how
 rw[if_neg h2];by_cases h3:u.kind=3
 ·rw[if_pos h3];exact akL h hi a u ha h3
 rw[if_neg h3];by_cases h4:u.kind=4
 ·rw[if_pos h4];exact akJ h hi a u ha h4
 rw[if_neg h4];exact arG h a u ha ⟨h1,h2,h3,h4⟩
def aot(w:ak)(n:Nat)(l:List (List UInt8))(e:lJ)(w':ak):Prop:=
 ∃A c,e=.a (.a A n c)/\w'.c w.a.j 9 1 (.a A n c) n (l.d fun x=>(txA x).a)/\aM w.a.j w w'
@[go_sem]theorem av7(w:ak):(aeo 0 #[]).O ah w=.ok (.a (some ⟨w.a.j,0,none⟩) 0 0) (w.alloc (.D #[] 9)):=by
 obtain⟨i0,hi0,hz0,hz1,_⟩:=ZU;simp[aeo,bJ,dK mq,zeroValue,sizeOf,typeInfo,hi0,hz0,hz1,fJ,newRow,dz];rw[show(mK 0) = #[]by decide];simp
theorem aeD(l:List (List UInt8))(A:Option aV)(n c:Nat)(w:ak)(hR:RdT w w.a.j A n l)(hn:n<=100000):
 aR ah 88 #[.a A n c] w (aot w n l):=by
 have hll:=hR.1;cases A with
 | some a=>
   have hnil:∀W:ak,(binOp .eql 69 (.a (some a) n c) (.a none 0 0)).O ah W=.ok (.e false) W:=fun W=>by
    simp only[binOp];simp[jk,mq]
   obtain⟨i0,hi0,hz0,hz1,hzb⟩:=ZU;have hz2:(iK ⟨#[]⟩).D.j=1:=rfl;have O1:=ab (show(w.alloc (.D #[] 9)).c w.a.j 9 1 (.a (some ⟨w.a.j,0,none⟩) 0 0) 0 []from qD w #[] 0 (av _) (by unfold maxLen;omega) rfl);have O2:=ab (hR.alloc (av _) (.D #[] 9)).2.1;have TD:=ab (show 0+n<=maxLen by unfold maxLen;omega);have TJ:=ab (show(0+n)*i0.bytes<=140737488355328 from aP (iq (show 0+n<=100000 by omega) hzb) (by omega));have O3:=ab (show w.a.j<=(w.alloc (.D #[] 9)).a.j by simp);have ON:=ab (Fa txA (fun x=>by simp[txA,dA]) l);clear hR hll;go_enter Tryz.func88,Tryz.ntmps88;go_wp2_with (at_builtin;refine jQ _ rfl (.a 5) (.a 6) _ rfl w.a.j 9 i0 (.g ⟨#[]⟩) 1 i0.bytes mq hi0 hz0 hz1 rfl hz2 (nG _) (.a (some ⟨w.a.j,0,none⟩) 0 0) 0 [] rfl O1.i w.a.j (some a) n c ((l.d fun x=>(txA x).a)) rfl O2.i ON.i TD.i TJ.i O3.i ?_;intro v1 w1 hown1 hg1 yN);obtain⟨A',c',hv,_,_⟩:=j3 hown1;subst hv;simp only[bC,dJ]at hown1;have hb:=uO ((aG w.a.j w).alloc (av _) (.D #[] 9)) hg1 (av _) O3.i;go_wp2;go_ret;exact⟨A',c',by simp,hown1,hb⟩
 | none=>
   have h0:n=0:=by
    rcases eB n with h0|h0
    ·exact h0
    ·obtain⟨a,ha,_⟩:=hR.2.1.2 h0;cases ha
   subst h0;have hl:l=[]:=bF hll;subst hl;have hnil:∀W:ak,(binOp .eql 69 (.a none 0 c) (.a none 0 0)).O ah W=.ok (.e true) W:=fun W=>by
    simp only[binOp];simp[jk,mq]
   have FIN:=ab (show aot w 0 [] (.a (.a none 0 0)) w from⟨none,0,rfl,fQ _ _ _ _,aG _ _⟩);clear hR hll;go_enter Tryz.func88,Tryz.ntmps88;go_wp2;go_ret;exact FIN.i
theorem ata:∃i:TypeInfo,ah.l 3=some i/\i.zero=some (.b .a 0)/\i.j=1/\i.bytes<=400:=by
 obtain⟨i,h1,h2,h3,h4⟩:=info_parts (P:=ah) (e:=3) (z:=.b .a 0) (size:=1) (bytes:=8) (by kernel_rfl);exact⟨i,h1,h2,h3,by omega⟩
theorem aou:∃i:TypeInfo,ah.l 98=some i/\i.zero=some (.d mJ.ay)/\i.j=20/\i.bytes<=400:=by
 obtain⟨i,h1,h2,h3⟩:=kVp.af3;refine⟨i,h1,h3,h2,?_⟩;have h4:(ah.l 98).map (fun i=>decide (i.bytes<=400))=some true:=by kernel_rfl
 rw[h1]at h4;simpa using h4
@[go_sem]theorem atb(w:ak):(Ms 0 #[]).O ah w=.ok (.a (some ⟨w.a.j,0,none⟩) 0 0) (w.alloc (.D #[] 3)):=by
 obtain⟨i0,hi0,hz0,hz1,_⟩:=ata;simp[Ms,bJ,dK oP,zeroValue,sizeOf,typeInfo,hi0,hz0,hz1,fJ,newRow,dz];rw[show(mK 0) = #[]by decide];simp
def av8(w:ak)(n:Nat)(l:List Int)(e:lJ)(w':ak):Prop:=
 ∃A c,e=.a (.a A n c)/\w'.c w.a.j 3 1 (.a A n c) n (l.d fun x=>(GU x).a)/\aM w.a.j w w'
theorem ag0(l:List Int)(A:Option aV)(n c:Nat)(w:ak)(hR:iT GU 1 w w.a.j A n l)(hn:n<=100000):
 aR ah 89 #[.a A n c] w (av8 w n l):=by
 have hll:=hR.1;cases A with
 | some a=>
   have hnil:∀W:ak,(binOp .eql 70 (.a (some a) n c) (.a none 0 0)).O ah W=.ok (.e false) W:=fun W=>by
    simp only[binOp];simp[jk,oP]
   obtain⟨i0,hi0,hz0,hz1,hzb⟩:=ata;have hz2:(aI .a 0).D.j=1:=rfl;have O1:=ab (show(w.alloc (.D #[] 3)).c w.a.j 3 1 (.a (some ⟨w.a.j,0,none⟩) 0 0) 0 []from qD w #[] 0 (av _) (by unfold maxLen;omega) rfl);have O2:=ab (hR.alloc (av _) (.D #[] 3)).2.1;have TD:=ab (show 0+n<=maxLen by unfold maxLen;omega);have TJ:=ab (show(0+n)*i0.bytes<=140737488355328 from aP (iq (show 0+n<=100000 by omega) hzb) (by omega));have O3:=ab (show w.a.j<=(w.alloc (.D #[] 3)).a.j by simp);have ON:=ab (Fa GU (fun x=>by simp[GU,dA]) l);clear hR hll;go_enter Tryz.func89,Tryz.ntmps89;go_wp2_with (at_builtin;refine jQ _ rfl (.a 5) (.a 6) _ rfl w.a.j 3 i0 (.b .a 0) 1 i0.bytes oP hi0 hz0 hz1 rfl hz2 (nG _) (.a (some ⟨w.a.j,0,none⟩) 0 0) 0 [] rfl O1.i w.a.j (some a) n c ((l.d fun x=>(GU x).a)) rfl O2.i ON.i TD.i TJ.i O3.i ?_;intro v1 w1 hown1 hg1 yN);obtain⟨A',c',hv,_,_⟩:=j3 hown1;subst hv;simp only[bC,dJ]at hown1;have hb:=uO ((aG w.a.j w).alloc (av _) (.D #[] 3)) hg1 (av _) O3.i;go_wp2;go_ret;exact⟨A',c',by simp,hown1,hb⟩
 | none=>
   have h0:n=0:=by
    rcases eB n with h0|h0
    ·exact h0
    ·obtain⟨a,ha,_⟩:=hR.2.1.2 h0;cases ha
   subst h0;have hl:l=[]:=bF hll;subst hl;have hnil:∀W:ak,(binOp .eql 70 (.a none 0 c) (.a none 0 0)).O ah W=.ok (.e true) W:=fun W=>by
    simp only[binOp];simp[jk,oP]
   have FIN:=ab (show av8 w 0 [] (.a (.a none 0 0)) w from⟨none,0,rfl,fQ _ _ _ _,aG _ _⟩);clear hR hll;go_enter Tryz.func89,Tryz.ntmps89;go_wp2;go_ret;exact FIN.i
def av9(w:ak)(n:Nat)(l:List Vp)(e:lJ)(w':ak):Prop:=
 ∃A c,e=.a (.a A n c)/\w'.c w.a.j 98 20 (.a A n c) n (l.d fun x=>(Vp.ay x).a)/\aM w.a.j w w'
theorem aeE(l:List Vp)(A:Option aV)(n c:Nat)(w:ak)(hR:iT Vp.ay 20 w w.a.j A n l)(hn:n<=100000):
 aR ah 60 #[.a A n c] w (av9 w n l):=by
 have hll:=hR.1;cases A with
 | some a=>
   have hnil:∀W:ak,(binOp .eql 23 (.a (some a) n c) (.a none 0 0)).O ah W=.ok (.e false) W:=fun W=>by
    simp only[binOp];simp[jk,Gm]
   obtain⟨i0,hi0,hz0,hz1,hzb⟩:=aou;have hz2:(cO mJ.ay).D.j=20:=by simp[dz,Vp.J]
   have O1:=ab (show(w.alloc (.D #[] 98)).c w.a.j 98 20 (.a (some ⟨w.a.j,0,none⟩) 0 0) 0 []from qD w #[] 0 (av _) (by unfold maxLen;omega) rfl);have O2:=ab (hR.alloc (av _) (.D #[] 98)).2.1;have TD:=ab (show 0+n<=maxLen by unfold maxLen;omega);have TJ:=ab (show(0+n)*i0.bytes<=140737488355328 from aP (iq (show 0+n<=100000 by omega) hzb) (by omega));have O3:=ab (show w.a.j<=(w.alloc (.D #[] 98)).a.j by simp);have ON:=ab (Fa Vp.ay Vp.dx l);clear hR hll;go_enter Tryz.func60,Tryz.ntmps60;go_wp2_with (at_builtin;refine jQ _ rfl (.a 5) (.a 6) _ rfl w.a.j 98 i0 (.d mJ.ay) 20 i0.bytes Gm hi0 hz0 hz1 rfl hz2 (nG _) (.a (some ⟨w.a.j,0,none⟩) 0 0) 0 [] rfl O1.i w.a.j (some a) n c ((l.d fun x=>(Vp.ay x).a)) rfl O2.i ON.i TD.i TJ.i O3.i ?_;intro v1 w1 hown1 hg1 yN);obtain⟨A',c',hv,_,_⟩:=j3 hown1;subst hv;simp only[bC,dJ]at hown1;have hb:=uO ((aG w.a.j w).alloc (av _) (.D #[] 98)) hg1 (av _) O3.i;go_wp2;go_ret;exact⟨A',c',by simp,hown1,hb⟩
 | none=>
   have h0:n=0:=by
    rcases eB n with h0|h0
    ·exact h0
    ·obtain⟨a,ha,_⟩:=hR.2.1.2 h0;cases ha
   subst h0;have hl:l=[]:=bF hll;subst hl;have hnil:∀W:ak,(binOp .eql 23 (.a none 0 c) (.a none 0 0)).O ah W=.ok (.e true) W:=fun W=>by
    simp only[binOp];simp[jk,Gm]
   have FIN:=ab (show av9 w 0 [] (.a (.a none 0 0)) w from⟨none,0,rfl,fQ _ _ _ _,aG _ _⟩);clear hR hll;go_enter Tryz.func60,Tryz.ntmps60;go_wp2;go_ret;exact FIN.i
theorem atc:(81:bL)<ah.types.j:=of_decide_eq_true (by kernel_rfl)
theorem ab1:Maps.Keyed ah 81:=Maps.Keyed.of_law (deep_law_laid ahb (m:=4) (by omega) atc (by kernel_rfl) (by kernel_rfl))
theorem KY{α β:Type}{f:α->Option β}:∀l:List α,(∀x∈l,∃y,f x=some y)->∃ys,l.mapM f=some ys
 | [],_=>⟨[],rfl⟩
 | x::l,h=>by
   obtain⟨y,hy⟩:=h x (by simp);obtain⟨ys,hys⟩:=KY l (fun z hz=>h z (by simp[hz]));exact⟨y::ys,by simp[List.mapM_cons,hy,hys]⟩
theorem ag1(d:Nat)(z:Int)(h : -9223372036854775808<=z/\z<=9223372036854775807):∃ls,ah.keyLits (d+1) 3 [.b .a z]=some ls:=by
 have hw:(Lit.int .a z).wf=true:=by simp[Lit.wf,J4,J5,mH,oH];omega
 unfold xZ;simp only[fI];rw[if_pos ⟨trivial,hw⟩];exact⟨_,rfl⟩
theorem arK(d:Nat)(b:Bool):∃ls,ah.keyLits (d+1) 4 [.e b]=some ls:=by
 unfold xZ;simp only[Tryz.underlying4];exact⟨_,rfl⟩
theorem aAx(d:Nat)(b:UInt8):∃ls,ah.keyLits (d+1) 5 [bv b]=some ls:=by
 have hb:=b.toNat_lt;have hw:(Lit.int .b (b.e:Int)).wf=true:=by simp[Lit.wf,J4,J5,mH,oH];omega
 unfold xZ bv;simp only[lX];rw[if_pos ⟨trivial,hw⟩];exact⟨_,rfl⟩
theorem av'(d:Nat)(v:Vector UInt8 16):∃ls,ah.keyLits (d+2) 22 (v.a.map bv)=some ls:=by
 have hc:ah.a 22=16:=by kernel_rfl
 have h1:ah.a 5=1:=by kernel_rfl
 unfold xZ;simp only[qK];rw[if_pos (by rw[hc];simp),h1];obtain⟨ys,hys⟩:=KY (f:=fun i=>ah.keyLits (d+1) 5 (((v.a.map bv).G (i*1)).E 1)) (eu 16) (fun i hi=>by
  have hi:=fq.1 hi;have e:((v.a.map bv).G (i*1)).E 1=[bv v[i]]:=by
   rw[Nat.mul_one,List.drop_eq_getElem_cons (by simpa using hi)];simp
  rw[e];exact aAx d _)
 rw[hys];exact⟨_,rfl⟩
theorem aov(d:Nat)(a:fD):∃ls,ah.keyLits (d+3) 27 a.ay.a=some ls:=by
 obtain⟨f1,h1⟩:=arK (d+1) a.h;obtain⟨f2,h2⟩:=av' d a.b;have hc:ah.a 27=17:=by kernel_rfl
 have c1:ah.a 4=1:=by kernel_rfl
 have c2:ah.a 22=16:=by kernel_rfl
 have e:a.ay.a=bP a.h::a.b.a.map bv:=by simp[fD.ay]
 unfold xZ;simp only[fG];rw[if_pos ⟨by rw[hc,e];simp,by simp⟩];obtain⟨ys,hys⟩:=KY (f:=fun f:oz=>ah.keyLits (d+2) f.p ((a.ay.a.G f.offset).E (ah.a f.p))) (ah.fieldsOf 27).a (fun f hf=>by
  simp only[jr,fG]at hf;simp only[bD,gu,or_false]at hf;rcases hf with rfl|rfl
  ·simp only[c1,e];exact⟨f1,h1⟩
  ·simp only[c2,e]
   rw[jW,lN,aK (by simp)];exact⟨f2,h2⟩)
 simp only[jr,fG]at hys;rw[hys];exact⟨_,rfl⟩
theorem Tu.Xd(t:Tu):t.ay.a=t.h.ay.a++(t.dst.ay.a++[.b .a t.aN,.b .a t.kg,.b .a t.iG]):=by
 simp[Tu.ay,tuT]
theorem aAy(d:Nat)(t:Tu)(h:Gz t=true):∃ls,ah.keyLits (d+4) 81 t.ay.a=some ls:=by
 have hh:=h;unfold Gz Yf at hh;simp only[bf,decide_eq_true_eq]at hh;obtain⟨f1,h1⟩:=aov d t.h;obtain⟨f2,h2⟩:=aov d t.dst;obtain⟨f3,h3⟩:=ag1 (d+2) t.aN (by omega);obtain⟨f4,h4⟩:=ag1 (d+2) t.kg (by omega);obtain⟨f5,h5⟩:=ag1 (d+2) t.iG (by omega);have hc:ah.a 81=37:=by kernel_rfl
 have c1:ah.a 27=17:=by kernel_rfl
 have c2:ah.a 3=1:=by kernel_rfl
 have e:=Tu.Xd t;have l1:t.h.ay.a.a=17:=by simp[fD.J]
 have l2:t.dst.ay.a.a=17:=by simp[fD.J]
 unfold xZ;simp only[jN];rw[if_pos ⟨by rw[hc,e];simp[fD.J],by simp⟩];obtain⟨ys,hys⟩:=KY (f:=fun f:oz=>ah.keyLits (d+3) f.p ((t.ay.a.G f.offset).E (ah.a f.p))) (ah.fieldsOf 81).a (fun f hf=>by
  simp only[jr,jN]at hf;simp only[bD,gu,or_false]at hf;rcases hf with rfl|rfl|rfl|rfl|rfl
  ·simp only[c1,e,lN];rw[yQ l1];exact⟨f1,h1⟩
  ·simp only[c1,e];rw[yS l1,yQ l2];exact⟨f2,h2⟩
  ·simp only[c2,e];rw[<-bM,yS (by rw[aQ,l1,l2])];exact⟨f3,h3⟩
  ·simp only[c2,e];rw[<-bM,show(35:Nat)=(t.h.ay.a++t.dst.ay.a).a+1 by rw[aQ,l1,l2],List.drop_length_add_append];exact⟨f4,h4⟩
  ·simp only[c2,e];rw[<-bM,show(36:Nat)=(t.h.ay.a++t.dst.ay.a).a+2 by rw[aQ,l1,l2],List.drop_length_add_append];exact⟨f5,h5⟩)
 simp only[jr,jN]at hys;rw[hys];exact⟨_,rfl⟩
theorem aiv(t:Tu)(h:Gz t=true):∃l,keyOf ah 81 (.d t.ay)=some l:=by
 obtain⟨d,hd⟩:∃d,ah.types.j+1=d+4:=⟨ah.types.j-3,by have:=atc;have h3:(3:Nat)<ah.types.j:=of_decide_eq_true (by kernel_rfl);omega⟩
 obtain⟨ls,oq⟩:=aAy d t h;have hc:ah.a 81=37:=by kernel_rfl
 have hk:ah.keyType 81=true:=by kernel_rfl
 have hf:(cO t.ay).formed ah 81=true:=by
  simp[Value.formed,jN,hc,Tu.J]
 unfold keyOf;simp only[jN];rw[if_pos (by rw[hk,hf];rfl),hd,show(cO t.ay).D.a=t.ay.a from rfl,oq];exact⟨_,rfl⟩
theorem fD.Un{a b:fD}(h:a.ay=b.ay):a=b:=by
 have h1:=congrArg Array.toList h;simp only[fD.ay,xD,Value.bool.injEq]at h1;cases a;cases b;simp only at h1;obtain⟨rfl,h2⟩:=h1;congr;apply Vector.toList_inj.1;exact(List.map_inj_right (fun x y hxy=>by unfold bv at hxy;injection hxy with _ e;exact UInt8.toNat_inj.1 (by omega))).1 h2
theorem Tu.Un{a b:Tu}(h:a.ay=b.ay):a=b:=by
 have h1:=Tu.Xd a;rw[h,Tu.Xd b]at h1;obtain⟨e1,h2⟩:=List.append_inj h1 (by simp[fD.J]);obtain⟨e2,h3⟩:=List.append_inj h2 (by simp[fD.J]);have g1:=fD.Un (Ic.1 e1);have g2:=fD.Un (Ic.1 e2);simp only[xD,Value.int.injEq,true_and,and_true]at h3;cases a;cases b;simp only at g1 g2 h3 ⊢;obtain⟨rfl,rfl,rfl⟩:=h3;rw[g1,g2]
theorem aow{a b:Tu}{l:Lit}(h1:keyOf ah 81 (.d a.ay)=some l)(h2:keyOf ah 81 (.d b.ay)=some l):a=b:=by
 have:=ab1.inj h1 h2;injection this with this
 exact Tu.Un this
def boD:aB->Option (Ay Unit×List uw)
 | .e b=>some (.lit (.e b),[])
 | _=>none
theorem awc{v:aB}{b:Bool}{ps:List uw}(h:boD v=some (.lit (.e b),ps)):v=.e b:=by
 unfold boD at h;split at h
 ·simp at h;rw[h.1]
 ·cases h
def Lh(W:ak)(M n:Nat)(ks:List Tu):Prop:=
 ∃D:Ay Unit,W.ownsMap ah 81 boD M n D/\Maps.IsMap D/\∀t l,keyOf ah 81 (.d t.ay)=some l->D.atKey l (.lit (.e false))=.lit (.e (decide (t∈ks)))
theorem Lh.new(w:ak):Lh (w.alloc (.map #[] 0)) w.a.j 0 []:=⟨_,World.ownsMap_made w _ _ _,⟨[],rfl⟩,fun t l _=>rfl⟩
theorem Lh.aAz{W W':ak}{M n:Nat}{ks:List Tu}(h:Lh W M n ks)(ha:W'.a[M]? = W.a[M]?):Lh W' M n ks:=by
 obtain⟨D,⟨es,ck,h1,h2⟩,h3⟩:=h;exact⟨D,⟨es,ck,ha.trans h1,h2⟩,h3⟩
theorem Lh.lt{W:ak}{M n:Nat}{ks:List Tu}(h:Lh W M n ks):M<W.a.j:=by
 obtain⟨D,h1,_⟩:=h;exact h1.lt
theorem Lh.go{W W':ak}{M n:Nat}{ks:List Tu}(h:Lh W M n ks)(hb:aM W.a.j W W'):Lh W' M n ks:=h.aAz (hb.block M h.lt)
theorem akM{w:ak}{M n:Nat}{ks:List Tu}(h:Lh w M n ks)(t:Tu)(ht:Gz t=true):
 (Instr.lookup 114 (.map (some M)) (.d t.ay) false).O ah w=.ok (.e (decide (t∈ks))) w:=by
 obtain⟨D,h1,h2,h3⟩:=h;obtain⟨l,hl⟩:=aiv t ht;obtain⟨v,ps,hrun,hv⟩:=h1.lookup ab1 Tryz.underlying114 (by kernel_rfl:(zeroValue 4).O ah w=.ok (.e false) w) (show boD (.e false)=some (.lit (.e false),[])from rfl) hl;rw[h3 t l hl]at hv;rw[hrun,awc hv]
theorem Rt{ops:Array Oper}{rest:List Oper}{o:Oper}{a:Act}{Q:Exit->Act->ak->Prop}{w:ak}(hg:o.guard=none)(m x v:Operand)(II:o.op=Op.mapUpdate 114 m x v)
 (M n:Nat) (ks:List Tu) (hm:a.eval m=.map (some M)) (hown:Lh w M n ks) (hn:n<=1000000) (t:Tu) (ht:Gz t=true) (hx:a.eval x=.d t.ay) (hv:a.eval v=.e true)
 (hK:∀w',Lh w' M (n+1) (t::ks)->w.grownBy w' (some M)->wpList ah ops Q rest (a.put o.dst undef) w'):wpList ah ops Q (o::rest) a w:=by
 obtain⟨D,h1,h2,h3⟩:=hown;obtain⟨l,hl⟩:=aiv t ht;refine wpList_mapUpdate_own w hg m x v _ II 81 4 ab1 Tryz.underlying114 boD M n D hm h1 (by unfold maxLen;omega) _ _ l hx hv hl _ [] (show boD (.e true)=some (.lit (.e true),[])from rfl) ?_;intro w' k1 k2;refine hK w' ⟨_,k1,h2.put _ _,fun u m hu=>?_⟩ k2;by_cases e:u=t
 ·subst e
  rw[hl]at hu;injection hu with hu
  subst hu;rw[Maps.atKey_put_same h2 (ab1.key hl)];simp
 ·rw[Maps.atKey_put_other (fun h=>e (aow hu (by rw[h];exact hl))),h3 u m hu]
  simp[e]
theorem Bx.acV{L:List (Nat×Array aB)}{W0 W W':ak}{M:Nat}(h:Bx L W0 W)(hg:W.grownBy W' (some M))(hM:W0.a.j<=M)(hL:∀p∈L,p.1≠M):Bx L W0 W':=
 ⟨uO h.1 hg hM h.1.j,fun p hp=>⟨(h.2 p hp).1,(h.2 p hp).2.grown hg (fun e=>hL p hp (by injection e))⟩⟩
def EO(l:List Fw)(k:Nat):List Tu:=((l.E k).map (·.key)).reverse
theorem aeF{l:List Fw}{k:Nat}(hk:k<l.a):(l.b k lu).key::EO l k=EO l (k+1):=by
 unfold EO;rw[List.take_succ_eq_append_getElem hk,List.map_append,List.reverse_append,vH hk];rfl
theorem ag2(l:List Fw)(k:Nat):decide ((l.b k lu).key∈EO l k)=Y9 l k:=by
 unfold EO Y9;rw[dG];simp only[List.mem_reverse,jf,decide_eq_true_eq,uH,uQ]
theorem QB{W:ak}{b:Nat}{x:Fw}(h:dP W b x.ay):(yh (.c (some ⟨b,0,none⟩))).O ah W=.ok (.d x.key.ay) W:=by
 have hs:eU x.ay=41:=Fw.J x;rw[TM W b 0 (of_eq_true (h.R.2.2.1 0 37 (by omega))),h.R.2.2.2 0 37 (by omega),bC,Fw.QX]
theorem J3(x:Cn)(vs:List Vp)(X:Sh)(s:qE)(w:ak)(hV:iT Vp.ay 20 w w.a.j x.qF x.gT vs)(hvc:x.gT<=x.qX)(hvn:x.gT<=100000)(hS:StR w w.a.j X s)(hbl:s.h.a<=100000)(hhl:s.J.a<=100000)(hfl:s.tQ.a<=100000)(J:Bool)(hJ:Ap x vs s=J):
 aR ah 15 #[.d x.ay,.d X.ay] w (gY w (.e J)):=by
 obtain⟨vv,⟨bA,bn,bc⟩,⟨gA,gn,gc⟩,⟨fA,fn,fc⟩,tk,nn,ct⟩:=X;obtain rfl:vv=s.nP:=hS.nP;obtain rfl:tk=s.ig:=hS.ig;obtain rfl:nn=s.no:=hS.no;obtain rfl:ct=s.mV:=hS.mV;have hbn:s.h.a=bn:=hS.b.1;have hgn:s.J.a=gn:=hS.h.1;have hfn:s.tQ.a=fn:=hS.f.1;have HBN:=ab hbn;have HGN:=ab hgn;have HFN:=ab hfn;have HS:=ab hS;have HLS:=ab (show bn<=100000/\gn<=100000/\fn<=100000 by omega);obtain⟨K1,hK1⟩:∃K,zA x vs=K:=⟨_,rfl⟩
 obtain⟨K2,hK2⟩:∃K,zf s.nP s.h=K:=⟨_,rfl⟩
 obtain⟨K3,hK3⟩:∃K,decide (gn=bn)=K:=⟨_,rfl⟩
 obtain⟨K4,hK4⟩:∃K,decide ((fn:Int)<=x.dV)=K:=⟨_,rfl⟩
 obtain⟨KN,hKN⟩:∃K,ad8 s=K:=⟨_,rfl⟩
 obtain⟨KH,hKH⟩:∃K,(eu gn).all (JO x s)=K:=⟨_,rfl⟩
 obtain⟨KF,hKF⟩:∃K,(eu fn).all (SK s)=K:=⟨_,rfl⟩
 have HJ:=ab (show J=((K1&&(K2&&(K3&&K4)))&&(KN&&(KH&&KF)))by rw[<-hJ,<-hK1,<-hK2,<-hK3,<-hK4,<-hKN,<-hKH,<-hKF,<-hbn,<-hgn,<-hfn];rfl);have HKN:=ab hKN;have HKH:=ab hKH;have HKF:=ab hKF;have q3:((gn:Int) != (bn:Int)) = !K3:=by rw[<-hK3];by_cases h:gn=bn<;>simp[h];omega
 have q4:decide (x.dV<(fn:Int)) = !K4:=by rw[<-hK4];by_cases h:(fn:Int)<=x.dV<;>simp[h]<;>omega
 have HK3:=ab hK3;clear hJ hK4 hKN hKH hKF hbn hgn hfn hbl hhl hfl hK3;have h0:=((Bx.start w).new x.ay 29).new (Sh.mk s.nP ⟨bA,bn,bc⟩ ⟨gA,gn,gc⟩ ⟨fA,fn,fc⟩ s.ig s.no s.mV).ay 37;rw[show(w.alloc (.D x.ay 29)).a.j=w.a.j+1 by simp]at h0;have Z0:=ab h0;clear h0;obtain⟨XA,hXA⟩:∃A,A=(Sh.mk s.nP ⟨bA,bn,bc⟩ ⟨gA,gn,gc⟩ ⟨fA,fn,fc⟩ s.ig s.no s.mV).ay:=⟨_,rfl⟩
 have XF:=ab (show XA.extract 0 2 = #[.b .a s.nP,.a bA bn bc]/\XA[0]? = some (.b .a s.nP)/\XA[1]? = some (.a bA bn bc)/\XA[2]? = some (.a gA gn gc)/\XA[3]? = some (.a fA fn fc)/\XA[4]? = some (.b .a s.ig)/\XA[5]? = some (.b .a s.no)/\∀j,j<11->XA[6+j]? = some (.b .a (s.mV.a.b j 0))by
  rw[hXA];exact⟨Sh.NK _,Sh.qW _,Sh.Ij _,Sh.Ya _,Sh.ahp _,Sh.amG _,Sh.amH _,fun j hj=>Sh.ahN _ j hj⟩)
 have CC:=ab (fun w1 (hb:aM w.a.j w w1)=>XO x vs w1 (hV.go hb) hvc hvn);have CP:=ab (fun w1 (hb:aM w.a.j w w1)=>afT s.h HS.i.sD s.nP bA bn bc w1 (HS.i.b.go hb) (by have:=HLS.i;omega) K2 hK2);rw[hK1]at CC;have XS:=ab (show XA.j=17 by rw[hXA];exact Sh.J _);clear hK1 hK2 hV hS;go_enter Tryz.func15,Tryz.ntmps15;go_upto_region 1 with fail
 generalize(w.alloc (.D x.ay 29)).alloc (.D (Sh.mk s.nP ⟨bA,bn,bc⟩ ⟨gA,gn,gc⟩ ⟨fA,fn,fc⟩ s.ig s.no s.mV).ay 37)=w0 at Z0 ⊢;rw[<-hXA]at Z0;clear hXA;obtain⟨x1,x2,x3,x4⟩:=Z0.i.b1.R;go_wp2_with fail
 (with_reducible refine(CC.i _ Z0.i.X).g ?_)
 rintro e w1 ⟨rfl,hb1⟩;have Z1:=ab (Z0.i.go hb1);clear hb1 x1 x2 x3 x4;cases K1
 ·skip
  go_wp2;go_ret;exact⟨by rw[HJ.i];rfl,Z1.i.X⟩
 obtain⟨e0,e1,e2,e3,e4,e5,e6,e7⟩:=XF.i;obtain⟨y1,y2,y3,y4⟩:=Z1.i.Z.R;have hys:eU XA=17:=by have:=Z1.i.Z;unfold eU;exact XS.i
 go_wp2_with fail
 (with_reducible refine(CP.i _ Z1.i.X).g ?_)
 rintro e w2 ⟨rfl,hb2⟩;have Z2:=ab (Z1.i.go hb2);clear hb2 y1 y2 y3 y4;cases K2
 ·skip
  go_wp2;go_ret;exact⟨by rw[HJ.i];rfl,Z2.i.X⟩
 obtain⟨x1,x2,x3,x4⟩:=Z2.i.b1.R;obtain⟨y1,y2,y3,y4⟩:=Z2.i.Z.R;have z2:=Cn.TV x;cases K3
 ·simp only[rW]at q3
  go_wp2;go_ret;exact⟨by rw[HJ.i];rfl,Z2.i.X⟩
 cases K4
 ·simp only[rW]at q4
  go_wp2;go_ret;exact⟨by rw[HJ.i];rfl,Z2.i.X⟩
 simp only[vJ]at q3 q4;obtain⟨a1,ha1⟩:∃a,decide (s.ig<0)=a:=⟨_,rfl⟩
 obtain⟨a2,ha2⟩:∃a,decide (1099511627776<s.ig)=a:=⟨_,rfl⟩
 obtain⟨a3,ha3⟩:∃a,decide (s.no<0)=a:=⟨_,rfl⟩
 obtain⟨a4,ha4⟩:∃a,decide (1152921504606846976<s.no)=a:=⟨_,rfl⟩
 obtain⟨a5,ha5⟩:∃a,s.mV.a.any Bw=a:=⟨_,rfl⟩
 have ag3:=ab (show KN=(!a1&&(!a2&&(!a3&&(!a4 && !a5))))by
  rw[<-HKN.i,<-ha1,<-ha2,<-ha3,<-ha4,<-ha5,aqT];unfold ad8 Yf;rw[dG];simp only[bf,decide_eq_true_eq,oO,decide_eq_false_iff_not,Bool.not_not];constructor
  ·rintro⟨h1,h2,h3⟩;exact⟨by omega,by omega,by omega,by omega,h3⟩
  ·rintro⟨h1,h2,h3,h4,h5⟩;exact⟨by omega,by omega,h5⟩)
 have CA:=ab (avn (some ⟨w.a.j+1,6,none⟩) 11 11 w2.a.j w2 s.mV.a (by omega) (by have:=RdI.box (l:=s.mV.a) (o:=6) Z2.i.Z (fun j hj=>e7 j (by simpa using hj));rw[nZ]at this;exact this));rw[ha5]at CA;clear ha5;cases a1;rotate_left
 ·skip
  go_wp2;go_ret;exact⟨by rw[HJ.i,ag3.i];rfl,Z2.i.X⟩
 cases a2;rotate_left
 ·skip
  go_wp2;go_ret;exact⟨by rw[HJ.i,ag3.i];rfl,Z2.i.X⟩
 cases a3;rotate_left
 ·skip
  go_wp2;go_ret;exact⟨by rw[HJ.i,ag3.i];rfl,Z2.i.X⟩
 cases a4;rotate_left
 ·skip
  go_wp2;go_ret;exact⟨by rw[HJ.i,ag3.i];rfl,Z2.i.X⟩
 go_wp2_with fail
 (with_reducible refine CA.i.g ?_)
 rintro e w3 ⟨rfl,rfl⟩;cases a5;rotate_left
 ·skip
  go_wp2;go_ret;exact⟨by rw[HJ.i,ag3.i];rfl,Z2.i.X⟩
 have HJ:=ab (show J=(KH&&KF)by rw[HJ.i,ag3.i];simp);have hgb:=of_decide_eq_true HK3.i;subst hgb;clear ha1 ha2 ha3 ha4 q3 q4 ag3 HKN CA HK3;go_wp2;clear x1 x2 x3 x4 y1 y2 y3 y4 z2;go_loopw [64] (fun s64 wr=>∃i:Nat,i<=gn/\s64=.b .a i/\Bx [(w.a.j+1,XA),(w.a.j,x.ay)] w wr/\∀k,k<i->JO x s k=true) (fun s64 _=>gn-(intOf s64).e)
 case atStart=>exact⟨0,by omega,rfl,Z2.i,fun k hk=>by omega⟩
 case round=>
  obtain⟨i,hin,rfl,hz,hall⟩:=hrel;have ZR:=ab hz;have HA:=ab hall;clear hz hall;by_cases hlt:i<gn
  ·have hlt2:(i:Int)<gn:=by omega
   have hgs:gn<=100000:=HLS.i.2.1;obtain⟨y,hy⟩:=uP (s.J.b i lY);obtain⟨b,o,rfl,_,hh,hcl,_,_⟩:=iT.hl (show RdH wr wr.a.j gA gn s.J from HS.i.h.go ZR.i.X) hlt;rw[hy]at hcl;have ZY:=ab (ZR.i.new y.ay 100);go_upto_region 8 with fail
   generalize wr.alloc (.D y.ay 100)=w5 at ZY ⊢;generalize wr.a.j=py at ZY ⊢;clear hh hcl;obtain⟨b2,o2,rfl,_,hc2⟩:=iT.cell Bk.J jq (show iT Bk.ay 27 w5 w5.a.j bA gn s.h from HS.i.b.go ZY.i.X) hlt;have n0:=(hc2 0 (by omega)).trans (Bk.qW _);rw[kQ]at n0;clear hc2;obtain⟨nm,hnm⟩:∃n,(s.h.b i jq).F=n:=⟨_,rfl⟩
   rw[hnm]at n0;obtain⟨x1,x2,x3,x4⟩:=ZY.i.b2.R;obtain⟨y1,y2,y3,y4⟩:=ZY.i.b1.R;obtain⟨u1,u2,u3,u4⟩:=ZY.i.Z.R;have d0:=Hl.qW y;have d1:=Hl.Ij y;have d2:=Hl.Ya y;obtain⟨t1,ht1⟩:∃a,(y.F==nm)=a:=⟨_,rfl⟩
   obtain⟨t2,ht2⟩:∃a,decide (y.O<0)=a:=⟨_,rfl⟩
   have T1:(y.F != nm) = !t1:=by rw[<-ht1];rfl
   have T2:decide (y.F=nm)=t1:=by rw[<-ht1];rw[dG];simp
   have T3:decide (y.F≠nm) = !t1:=by rw[<-ht1];rw[dG];simp
   have T4:(!decide (y.F=nm)) = !t1:=by rw[T2]
   cases hd:y.down
   ·obtain⟨t3,ht3⟩:∃a,decide (x.fall<=y.O)=a:=⟨_,rfl⟩
    have HI:=ab (show JO x s i=(t1&&(!t2 && !t3))by
     unfold JO anA;rw[hy,hnm,hd,ht1,<-ht2,<-ht3];congr 1;congr 1<;>(rw[dG];simp))
    have c1:=Cn.Ub x;rw[hd]at d1;clear hy hnm;go_upto_region 11 with fail
    cases t1
    ·have HF:=ab (show KH=false by rw[<-HKH.i];exact jw _ i _ hlt (by rw[HI.i];simp))
     simp only[vJ,rW]at T1 T3 T4;go_quiet (fail);go_wp2;go_ret;exact⟨by rw[HJ.i,HF.i];rfl,ZY.i.X.trans (eD (aG _ _) _)⟩
    simp only[vJ,rW]at T1 T3 T4;cases t2;rotate_left
    ·have HF:=ab (show KH=false by rw[<-HKH.i];exact jw _ i _ hlt (by rw[HI.i];simp))
     go_quiet (fail);go_wp2;go_ret;exact⟨by rw[HJ.i,HF.i];rfl,ZY.i.X.trans (eD (aG _ _) _)⟩
    cases t3;rotate_left
    ·have HF:=ab (show KH=false by rw[<-HKH.i];exact jw _ i _ hlt (by rw[HI.i];simp))
     go_quiet (fail);go_wp2;go_ret;exact⟨by rw[HJ.i,HF.i];rfl,ZY.i.X.trans (eD (aG _ _) _)⟩
    have HK:=ab (show JO x s i=true by rw[HI.i];rfl);go_quiet (fail);go_wp2;go_roundw
    case rel=>exact⟨i+1,by omega,by go_num,ZY.i.TS.drewN _,fun k hk=>by
     by_cases hki:k=i
     ·rw[hki];exact HK.i
     ·exact HA.i k (by omega)⟩
    case measure=>simp[intOf]<;>omega
   ·obtain⟨t3,ht3⟩:∃a,decide (x.kI<=y.O)=a:=⟨_,rfl⟩
    have HI:=ab (show JO x s i=(t1&&(!t2 && !t3))by
     unfold JO anA;rw[hy,hnm,hd,ht1,<-ht2,<-ht3];congr 1;congr 1<;>(rw[dG];simp))
    have c1:=Cn.Ua x;rw[hd]at d1;clear hy hnm;go_upto_region 11 with fail
    cases t1
    ·have HF:=ab (show KH=false by rw[<-HKH.i];exact jw _ i _ hlt (by rw[HI.i];simp))
     simp only[vJ,rW]at T1 T3 T4;go_quiet (fail);go_wp2;go_ret;exact⟨by rw[HJ.i,HF.i];rfl,ZY.i.X.trans (eD (aG _ _) _)⟩
    simp only[vJ,rW]at T1 T3 T4;cases t2;rotate_left
    ·have HF:=ab (show KH=false by rw[<-HKH.i];exact jw _ i _ hlt (by rw[HI.i];simp))
     go_quiet (fail);go_wp2;go_ret;exact⟨by rw[HJ.i,HF.i];rfl,ZY.i.X.trans (eD (aG _ _) _)⟩
    cases t3;rotate_left
    ·have HF:=ab (show KH=false by rw[<-HKH.i];exact jw _ i _ hlt (by rw[HI.i];simp))
     go_quiet (fail);go_wp2;go_ret;exact⟨by rw[HJ.i,HF.i];rfl,ZY.i.X.trans (eD (aG _ _) _)⟩
    have HK:=ab (show JO x s i=true by rw[HI.i];rfl);go_quiet (fail);go_wp2;go_roundw
    case rel=>exact⟨i+1,by omega,by go_num,ZY.i.TS.drewN _,fun k hk=>by
     by_cases hki:k=i
     ·rw[hki];exact HK.i
     ·exact HA.i k (by omega)⟩
    case measure=>simp[intOf]<;>omega
  ·obtain rfl:i=gn:=by omega
   have HF:=ab (show KH=true by rw[<-HKH.i,gq];exact fun k hk=>HA.i k (fq.1 hk));have HJ:=ab (show J=KF by rw[HJ.i,HF.i];rfl);have hnl:¬(i:Int)<i:=by omega
   clear hlt HA HF HKH;obtain⟨y1,y2,y3,y4⟩:=ZR.i.Z.R;have hmm:=fun n w=>Im (P:=ah) Tryz.underlying114 n w
   go_upto_region 15 with fail
   have M0:=ab (Lh.new wr);have ZM:=ab (ZR.i.alloc (.map #[] 0));have HM:=ab (show w.a.j<=wr.a.j/\∀p∈[(w.a.j+1,XA),(w.a.j,x.ay)],p.1≠wr.a.j from⟨ZR.i.X.j,fun p hp=>by have:=(ZR.i.2 p hp).2.lt;omega⟩);generalize wr.alloc (.map #[] 0)=w6 at M0 ZM ⊢;generalize wr.a.j=M at M0 HM ⊢;clear y1 y2 y3 y4 hmm;obtain⟨y1,y2,y3,y4⟩:=ZM.i.Z.R;go_wp2;clear y1 y2 y3 y4;go_loopw [104] (fun awd wr=>∃k:Nat,k<=fn/\awd=.b .a k/\Bx [(w.a.j+1,XA),(w.a.j,x.ay)] w wr/\Lh wr M k (EO s.tQ k)/\∀j,j<k->SK s j=true) (fun awd _=>fn-(intOf awd).e)
   case atStart=>exact⟨0,by omega,rfl,ZM.i,M0.i,fun k hk=>by omega⟩
   case round=>
    obtain⟨k,hkn,rfl,hz,hm,hall⟩:=hrel;have ZR:=ab hz;have MR:=ab hm;have HA:=ab hall;clear hz hm hall;by_cases hkt:k<fn;rotate_left
    ·obtain rfl:k=fn:=by omega
     have HF:=ab (show KF=true by rw[<-HKF.i,gq];exact fun j hj=>HA.i j (fq.1 hj));have hnl:¬(k:Int)<k:=by omega
     go_wp2;go_ret;exact⟨by rw[HJ.i,HF.i];rfl,ZR.i.X⟩
    have hlt2:(k:Int)<fn:=by omega
    obtain⟨b,o,rfl,hbl,hh,hcl⟩:=iT.fw (show iT Fw.ay 41 wr wr.a.j fA fn s.tQ from HS.i.f.go ZR.i.X) hkt;obtain⟨y,hy⟩:=uP (s.tQ.b k lu);rw[hy]at hcl;have HYN:=ab (HS.i.amK _ (Fb lu s.tQ k (by rw[HFN.i];exact hkt)));rw[hy]at HYN;have ZY:=ab (ZR.i.new y.ay 86);have MY:=ab (MR.i.go ((aG _ _).alloc (av _) (.D y.ay 86)));go_upto_region 18 with fail
    generalize wr.alloc (.D y.ay 86)=w7 at ZY MY ⊢;generalize wr.a.j=py at ZY ⊢;clear hh hcl hbl;have hfs:fn<=100000:=HLS.i.2.2;obtain⟨c1,hc1⟩:∃c,EA y=c:=⟨_,rfl⟩
    obtain⟨c2,hc2⟩:∃c,decide (s.ig<y.seen)=c:=⟨_,rfl⟩
    obtain⟨c3,hc3⟩:∃c,decide (y.no<1)=c:=⟨_,rfl⟩
    obtain⟨c4,hc4⟩:∃c,decide (s.no<y.no)=c:=⟨_,rfl⟩
    obtain⟨c5,hc5⟩:∃c,decide (y.key∈EO s.tQ k)=c:=⟨_,rfl⟩
    obtain⟨pv,hpv⟩:∃p,s.tQ.b (k-1) lu=p:=⟨_,rfl⟩
    have HI:=ab (show SK s k=(c1&&(!c2&&(!c3&&(!c4&&(!c5&&(decide (k=0)||mo pv y))))))by
     unfold SK;have hkk:=ag2 s.tQ k;rw[hy]at hkk ⊢;rw[<-hkk,hc5,hc1,hpv,<-hc2,<-hc3,<-hc4];have g1:decide (y.seen<=s.ig) = !decide (s.ig<y.seen):=by rw[dG];simp
     have g2:decide (1<=y.no) = !decide (y.no<1):=by rw[dG];simp
     have g3:decide (y.no<=s.no) = !decide (s.no<y.no):=by rw[dG];simp
     rw[g1,g2,g3])
    have FR:=ab (fun W=>LG y W HYN.i);rw[hc1]at FR;have HC1:=ab hc1;have HPV:=ab hpv;have HYY:=ab hy;have KEY:=ab (aeF (l:=s.tQ) (k:=k) (by rw[HFN.i];exact hkt));clear hy hc1 hpv;obtain⟨T,f,n0,E0,es,ew⟩:=yL (w7);have hT:Nonempty T:=⟨n0⟩
    have ES:=ab es;have EW:=ab ew;clear es ew;have l1:=fun m=>kU (ZY.i.go (ES.i m)).Z
    have l3:∀m,(f m).b ⟨py,39,none⟩=some (.b .a y.seen):=fun m=>((ZY.i.go (ES.i m)).Z.R.1 39).trans (Fw.afQ y)
    have l4:∀m,(f m).b ⟨py,40,none⟩=some (.b .a y.no):=fun m=>((ZY.i.go (ES.i m)).Z.R.1 40).trans (Fw.aaQ y)
    have l5:∀m,(f m).b ⟨w.a.j+1,4,none⟩=some (.b .a s.ig):=fun m=>((ZY.i.go (ES.i m)).b1.R.1 4).trans XF.i.2.2.2.2.2.1
    have l6:∀m,(f m).b ⟨w.a.j+1,5,none⟩=some (.b .a s.no):=fun m=>((ZY.i.go (ES.i m)).b1.R.1 5).trans XF.i.2.2.2.2.2.2.1
    have l7:∀m,(f m).b ⟨w.a.j+1,3,none⟩=some (.a (some ⟨b,o,none⟩) fn fc):=fun m=>((ZY.i.go (ES.i m)).b1.R.1 3).trans XF.i.2.2.2.2.1
    have l8:∀m,(yh (.c (some ⟨py,0,none⟩))).O ah (f m)=.ok (.d y.key.ay) (f m):=fun m=>QB (ZY.i.go (ES.i m)).Z
    cases c1;rotate_left;have L9:=ab (fun W (h:Lh W M k (EO s.tQ k))=>show(Instr.lookup 114 (.map (some M)) (.d y.key.ay) false).O ah W=.ok (.e c5) W by rw[akM h y.key (xV HC1.i),hc5]);have l9:=fun m=>L9.i (f m) (MY.i.go (ES.i m))
    clear hc5;cases c2;cases c3;cases c4;cases c5
    all_goals try(
     have HF:=ab (show KF=false by rw[<-HKF.i];exact jw _ k _ hkt (by rw[HI.i];simp));refine qh f (by kernel_rfl) (by kernel_rfl) n0 E0 ?_
     repeat(go_big_quiet_step ((first|(go_at_call 48;(with_reducible refine(FR.i _).g ?_);rintro e w2 ⟨rfl,hb⟩;exact⟨rfl,EW.i _ ((ES.i _).trans (hb.g (ES.i _).j))⟩))))
     refine iw ?_;rintro _ ⟨m',rfl⟩;have HB:=ab (ES.i m');generalize f m'=wN at *;clear ES EW E0 hT n0;go_wp2;go_ret;exact⟨by rw[HJ.i,HF.i];rfl,(ZY.i.go HB.i).X⟩)
    have Kl:=ab (KV HC1.i);by_cases hk0:k=0
    ·have t0:decide (0<(k:Int))=false:=by simp;omega
     have HI:=ab (show SK s k=true by rw[HI.i];simp[hk0]);have HG:=ab (show SK s k=true by exact HI.i);refine qh f (by kernel_rfl) (by kernel_rfl) n0 E0 ?_
     repeat(go_big_quiet_step ((first|(go_at_call 48;(with_reducible refine(FR.i _).g ?_);rintro e w2 ⟨rfl,hb⟩;exact⟨rfl,EW.i _ ((ES.i _).trans (hb.g (ES.i _).j))⟩))))
     refine iw ?_;rintro _ ⟨m',rfl⟩;have HB:=ab (ES.i m');generalize f m'=wN at *;clear ES EW E0 hT n0;clear l1 l3 l4 l5 l6 l7 l8 l9;have ZN:=ab (ZY.i.go HB.i);have MN:=ab (MY.i.go HB.i);have l8:=QB ZN.i.Z;have TK:=ab (xV HC1.i);have HK1:=ab (show k<=1000000 by omega);go_wp2_with (refine Rt rfl (.a 152) (.a 154) (.const (.e true)) rfl M k (EO s.tQ k) rfl MN.i HK1.i y.key TK.i rfl rfl ?_;intro w9 h1 h2;have M9:=ab h1;have Z9:=ab (ZN.i.TS.acV h2 HM.i.1 HM.i.2);clear h1 h2);go_roundw
     case rel=>exact⟨k+1,by omega,by go_num,Z9.i,by rw[<-KEY.i,HYY.i];exact M9.i,fun j hj=>by
      by_cases hjk:j=k
      ·rw[hjk];exact HG.i
      ·exact HA.i j (by omega)⟩
     case measure=>simp[intOf]<;>omega
    have t0:decide (0<(k:Int))=true:=by simp;omega
    have t00:decide (0<k)=true:=decide_eq_true (by omega);have hkp:0<k:=by omega
    have HOP:=ab (show EA pv=true by
     have:=HA.i (k-1) (by omega);unfold SK at this;rw[HPV.i]at this;simp only[bf]at this;exact this.1)
    have HON:=ab (KV HOP.i);have CO:=ab (fun W=>Rn pv y HON.i.1 Kl.i.1 HON.i.2 Kl.i.2 W);obtain⟨j,hj⟩:∃j:Nat,j=k-1:=⟨_,rfl⟩
    have i1:(k:Int)-1=(j:Int):=by omega
    have i2:(j:Int)<fn:=by omega
    rw[<-hj]at HPV;have HJK:=ab (show j<fn by omega);clear hj;have la:∀m,(Qe (.c (some ⟨b,o+j*41,none⟩))).O ah (f m)=.ok (.d pv.ay) (f m):=fun m=>by
     obtain⟨b',o',e,_,hh,hcl⟩:=iT.fw (show iT Fw.ay 41 (f m) (f m).a.j (some ⟨b,o,none⟩) fn s.tQ from HS.i.f.go (ZY.i.go (ES.i m)).X) HJK.i;injection e with e
     injection e with e1 e2
     subst e1 e2;rw[HPV.i]at hcl;rw[ahM _ _ _ hh,hcl]
    obtain⟨c7,hc7⟩:∃c,mo pv y=c:=⟨_,rfl⟩
    rw[hc7]at CO HI;have HOL:=ab hc7;clear hc7;cases c7
    ·have hk9:=hk0
     have HF:=ab (show KF=false by rw[<-HKF.i];exact jw _ k _ hkt (by rw[HI.i];simp[hk9]));refine qh f (by kernel_rfl) (by kernel_rfl) n0 E0 ?_
     repeat(go_big_quiet_step ((first|(go_at_call 48;(with_reducible refine(FR.i _).g ?_);rintro e w2 ⟨rfl,hb⟩;exact⟨rfl,EW.i _ ((ES.i _).trans (hb.g (ES.i _).j))⟩)|(go_at_call 49;(with_reducible refine(CO.i _).g ?_);rintro e w2 ⟨rfl,hb⟩;exact⟨rfl,EW.i _ ((ES.i _).trans (hb.g (ES.i _).j))⟩))))
     refine iw ?_;rintro _ ⟨m',rfl⟩;have HB:=ab (ES.i m');generalize f m'=wN at *;clear ES EW E0 hT n0;go_wp2;go_ret;exact⟨by rw[HJ.i,HF.i];rfl,(ZY.i.go HB.i).X⟩
    have HG:=ab (show SK s k=true by rw[HI.i];simp[HOL.i]);refine qh f (by kernel_rfl) (by kernel_rfl) n0 E0 ?_
    repeat(go_big_quiet_step ((first|(go_at_call 48;(with_reducible refine(FR.i _).g ?_);rintro e w2 ⟨rfl,hb⟩;exact⟨rfl,EW.i _ ((ES.i _).trans (hb.g (ES.i _).j))⟩)|(go_at_call 49;(with_reducible refine(CO.i _).g ?_);rintro e w2 ⟨rfl,hb⟩;exact⟨rfl,EW.i _ ((ES.i _).trans (hb.g (ES.i _).j))⟩))))
    refine iw ?_;rintro _ ⟨m',rfl⟩;have HB:=ab (ES.i m');generalize f m'=wN at *;clear ES EW E0 hT n0;clear l1 l3 l4 l5 l6 l7 l8 l9;have ZN:=ab (ZY.i.go HB.i);have MN:=ab (MY.i.go HB.i);have l8:=QB ZN.i.Z;have TK:=ab (xV HC1.i);have HK1:=ab (show k<=1000000 by omega);go_wp2_with (refine Rt rfl (.a 152) (.a 154) (.const (.e true)) rfl M k (EO s.tQ k) rfl MN.i HK1.i y.key TK.i rfl rfl ?_;intro w9 h1 h2;have M9:=ab h1;have Z9:=ab (ZN.i.TS.acV h2 HM.i.1 HM.i.2);clear h1 h2);go_roundw
    case rel=>exact⟨k+1,by omega,by go_num,Z9.i,by rw[<-KEY.i,HYY.i];exact M9.i,fun j hj=>by
     by_cases hjk:j=k
     ·rw[hjk];exact HG.i
     ·exact HA.i j (by omega)⟩
    case measure=>simp[intOf]<;>omega
section
variable {W W':ak} {q:Nat} {e:En} {s:qE} {x:Eg} {q2 g:Nat} {sl:List (Option Fw)}
theorem H9{B sz n c p:Nat}{T:bL}{A:Option aV}{xs:List aB}(h:W.c B T sz (.a A n c) n xs)(hf:jP [p] W W')(hp:p<B):W'.c B T sz (.a A n c) n xs:=Ci h hf (fun k hk hm=>by simp at hm;subst hm;have:=h.lt _ hk;omega)
structure StO(B:Nat)(W:ak)(X:Sh)(s:qE):Prop where
 nP:X.nP=s.nP
 bn:s.h.a=X.b.n
 b:W.c B 62 27 (.a X.b.A X.b.n X.b.c) X.b.n (s.h.d fun y=>y.ay.a)
 hn:s.J.a=X.h.n
 h:W.c B 100 3 (.a X.h.A X.h.n X.h.c) X.h.n (s.J.d fun y=>y.ay.a)
 fn:s.tQ.a=X.f.n
 f:W.c B 86 41 (.a X.f.A X.f.n X.f.c) X.f.n (s.tQ.d fun y=>y.ay.a)
 ig:X.ig=s.ig
 no:X.no=s.no
 mV:X.mV=s.mV
def awe(W:ak)(s:qE)(r:lJ)(W':ak):Prop:=∃X:Sh,r=.a (.d X.ay)/\StO W.a.j W' X s/\aM W.a.j W W'
theorem kSh:pQ 37 17 JA.ay:=⟨⟨_,qM,rfl⟩,by kernel_rfl,by kernel_rfl,Sh.J _⟩
@[go_sem]theorem aAA(W:ak)(nP:Int)(A1:Option aV)(n1 c1:Nat)(A2:Option aV)(n2 c2:Nat)(A3:Option aV)(n3 c3:Nat)(t n:Int)(v:Vector Int 11):(auh #[(0,.d (Pc.mk nP A1 n1 c1).ay),(1,.a A2 n2 c2),(2,.a A3 n3 c3),(3,.b .a t),(4,.b .a n),(5,.d (v.a.map (aI .a)).c)]).O ah W=.ok (.d (Sh.mk nP ⟨A1,n1,c1⟩ ⟨A2,n2,c2⟩ ⟨A3,n3,c3⟩ t n v).ay) W:=kSh.bd W _ _ _ _ qM (YG W _ qM) (by
 refine vV (Sh.J _) ?_ ?_
 ·simp[sF,dz,Pc.J]
 ·simp[rM,dz,Pc.ay,Sh.ay,shT,zR])
theorem Eg.akN{x:Eg}(h:dP W q x.ay):W.rangeAt q 79 (x.mV.a.map (aI .a)):=by
 intro j v hj;have hj6:j<11:=by
  rcases aZ j 11 with h1|h1
  ·exact h1
  ·rw[aT (by simpa using h1)]at hj;cases hj
 have h2:(x.ay.extract 79 90)[j]? = (zR x.mV)[j]?:=by rw[Eg.an5]
 rw[cu,if_pos (by rw[Eg.J];omega)]at h2;rw[h.R.1,h2];unfold zR;rw[eO];exact hj
theorem Ru{M:Int}(h:Ab W q e s x q2 g sl)(hi:og M e s):aR ah 20 #[.c (some ⟨q,0,none⟩)] W (awe W s):=by
 have Z0:=ab ((Bx.start W).new JA.ay 37);have H:=ab h;have HI:=ab hi;have HN:=ab (show s.h.a=x.pl.rN/\s.J.a=x.EL from⟨h.b.h.1,h.b.hl.1⟩);have HF:=ab hi.few;have SZ:=ab (show W.a.j<(W.alloc (.D JA.ay 37)).a.j by simp);clear h hi;go_enter Tryz.func20,Tryz.ntmps20;go_upto_region 1 with fail
 generalize W.alloc (.D JA.ay 37)=w0 at Z0 SZ ⊢;have l1:=kPc.Ei (H.i.b.eg.go Z0.i.X) 70 (Eg.ais _) (by rw[Eg.J];omega);go_upto_region 2 with fail
 have Z1:=ab (Z0.i.new x.pl.ay 32);have SZ1:=ab (show w0.a.j<(w0.alloc (.D x.pl.ay 32)).a.j by simp);generalize w0.alloc (.D x.pl.ay 32)=w1 at Z1 SZ1 ⊢;have NP:=ab (show w0.a.j≠W.a.j by have:=SZ.i;omega);generalize w0.a.j=p at Z1 SZ SZ1 NP ⊢;clear l1;have f1:=(Z1.i.Z.R.1 1).trans (Pc.an1 x.pl);have CB:=ab (yH s.h x.pl.rA x.pl.rC w1 (by have h1:=H.i.b.h.go Z1.i.X;rw[HN.i.1];exact h1) (by have:=HF.i;omega));unfold aaG at CB;rw[HN.i.1]at CB;go_upto_region 3 with(go_at_call 61;(with_reducible refine CB.i.g ?_);rintro r w2 ⟨A1,c1,rfl,ho,hb⟩;have g1:=(Z1.i.Z.go hb).R.2.1 1;have f1:=((Z1.i.Z.go hb).R.1 1).trans (Pc.an1 x.pl);have Z2:=ab (Z1.i.go hb);have O1:=ab ho;have SZ2:=ab hb.j;clear ho hb)
 have Z3:=ab (Z2.i.set (fun r hr=>by simp at hr;subst hr;have:=SZ.i;simp;omega) 1 (.a A1 x.pl.rN c1));rw[Pc.air]at Z3;have O3:=ab (Ci O1.i ((jP.refl [p] w2).set ⟨p,1,none⟩ (.a A1 x.pl.rN c1) (.b (by simp))) (fun k hk hm=>by have:=lM O1.i;simp at hm;subst hm;have:=O1.i.lt _ hk;have:=SZ1.i;omega));have SZ3:=ab (show w1.a.j<=(w2.I ⟨p,1,none⟩ (.a A1 x.pl.rN c1)).a.j by have:=SZ2.i;simp[iA];exact this);generalize w2.I ⟨p,1,none⟩ (.a A1 x.pl.rN c1)=w3 at Z3 O3 SZ3 ⊢;clear f1 g1;have KS:=ab (fun(w':ak) (h0:dP w' p ({x.pl with rA:=A1,rN:=x.pl.rN,rC:=c1}:Pc).ay) (h1:dP w' q x.ay)=>show(yU 32 (.c (some ⟨p,0,none⟩))).O ah w'=.ok (.d (Pc.mk x.pl.nP A1 x.pl.rN c1).ay) w'/\w'.b ⟨q,72,none⟩=some (.a x.Pg x.EL x.Tj)/\w'.b ⟨q,74,none⟩=some (.c (some ⟨q2,0,none⟩))/\w'.b ⟨q,77,none⟩=some (.b .a x.ig)/\w'.b ⟨q,78,none⟩=some (.b .a x.no)/\w'.rangeAt q 79 (x.mV.a.map (aI .a))from
  ⟨kPc.Ei h0 0 (Pc.all _) (by rw[Pc.J];omega),(h1.R.1 72).trans (Eg.Zt _),by rw[h1.R.1 74,Eg.Zu,H.i.b.fl];rfl,(h1.R.1 77).trans (Eg.Ui _),(h1.R.1 78).trans (Eg.an4 _),Eg.akN h1⟩)
 have CH:=ab (fun(w:ak) (hb:aM W.a.j W w)=>Mk s.J x.Pg x.EL x.Tj w (H.i.b.hl.go hb) (by have:=HF.i;have:=HN.i;omega));have CL:=ab (fun(w:ak) (hb:aM W.a.j W w)=>agH (H.i.b.tb.go hb));unfold ClP at CH;have hU:=Gi;have hI:(ah.l 35).map (·.j)=some (x.mV.a.map (aI .a)).a:=by rw[bW,nZ];kernel_rfl
 go_region_held_law (fun w'=>(yU 32 (.c (some ⟨p,0,none⟩))).O ah w'=.ok (.d (Pc.mk x.pl.nP A1 x.pl.rN c1).ay) w'/\w'.b ⟨q,72,none⟩=some (.a x.Pg x.EL x.Tj)/\w'.b ⟨q,74,none⟩=some (.c (some ⟨q2,0,none⟩))/\w'.b ⟨q,77,none⟩=some (.b .a x.ig)/\w'.b ⟨q,78,none⟩=some (.b .a x.no)/\w'.rangeAt q 79 (x.mV.a.map (aI .a)))
  (first|exact KS.i _ Z3.i.drew.Z (H.i.b.eg.go Z3.i.drew.X)|exact KS.i _ Z4.i.Z (H.i.b.eg.go Z4.i.X)|exact KS.i _ Z5.i.Z (H.i.b.eg.go Z5.i.X)|exact KS.i _ Z6.i.b1 (H.i.b.eg.go Z6.i.X)|go_keep)
  (first
  | (go_at_call 59;(with_reducible refine(CH.i _ Z3.i.drew.X).g ?_);rintro r w4 ⟨A2,c2,rfl,ho,hb⟩;have Z4:=ab (Z3.i.drew.go hb);have O2:=ab ho;have S4:=ab (show w3.a.j<=w4.a.j from hb.j);have B4:=ab (show aM w3.a.j w3 w4 from(iJ w3).trans hb);clear ho hb)
  | (go_at_call 65;(with_reducible refine(CL.i _ Z4.i.X).g ?_);rintro r w5 ⟨A3,c3,rfl,ho,hb⟩;have Z5:=ab (Z4.i.go hb);have O5:=ab ho;have B5:=ab hb;have th:=Z5.i.b1.S 0 17 (aU (Sh.J JA).symm);have Z6:=ab (show Bx [(W.a.j,(Sh.mk x.pl.nP ⟨A1,x.pl.rN,c1⟩ ⟨A2,x.EL,c2⟩ ⟨A3,s.tQ.a,c3⟩ x.ig x.no x.mV).ay),(p,({x.pl with rA:=A1,rN:=x.pl.rN,rC:=c1}:Pc).ay)] W (amJ w5 W.a.j 0 (Sh.mk x.pl.nP ⟨A1,x.pl.rN,c1⟩ ⟨A2,x.EL,c2⟩ ⟨A3,s.tQ.a,c3⟩ x.ig x.no x.mV))from Z5.i.swap.put (fun r hr=>by rw[fO.1 hr];exact NP.i) _ (by rw[Sh.J,Sh.J]));clear ho hb))
 have FS:=ab (show jP [W.a.j] w5 (amJ w5 W.a.j 0 (Sh.mk x.pl.nP ⟨A1,x.pl.rN,c1⟩ ⟨A2,x.EL,c2⟩ ⟨A3,s.tQ.a,c3⟩ x.ig x.no x.mV))from zM w5 W.a.j 0 _);have hs:=SZ.i;have hs1:=SZ1.i;have hs3:=SZ3.i;have hs4:=S4.i;have hw:=Z3.i.X.j;go_wp2_with fail;refine aO (kSh.Aj rfl _ rfl Z6.i.Z (Sh.J _)) rfl ?_;refine⟨_,rfl,⟨H.i.b.nP,HN.i.1,?_,HN.i.2,?_,rfl,?_,H.i.b.ig,H.i.b.no,H.i.b.mV⟩,Z6.i.X⟩
 ·exact iU (H9 (jH (jH O3.i B4.i) B5.i) FS.i (by omega)) (by omega)
 ·exact iU (H9 (jH O2.i B5.i) FS.i (by simp;omega)) (by simp;omega)
 ·exact iU (H9 O5.i FS.i (by omega)) (by omega)
theorem StO.r{M:Int}{B:Nat}{X:Sh}(h:StO B W X s)(hi:og M e s):StR W W.a.j X s:=by
 have hf:=hi.few;have hl:=hi.fl.len;obtain⟨_,⟨r1,r2⟩,_⟩:=uj hi.cn;have h1:=h.bn;have h2:=h.hn;have h3:=h.fn;refine⟨h.nP,iT.jh h.bn h.b,iT.jh h.hn h.h,iT.jh h.fn h.f,h.ig,h.no,h.mV,hi.fi,fun y hy=>?_,fun y hy=>?_,by omega,by omega,by omega⟩
 ·have hm:y.F∈s.h.map (·.F):=by rw[<-hi.nm];exact jf.2 ⟨y,hy,rfl⟩
  obtain⟨b,hb,e⟩:=jf.1 hm;have:=hf.2.2 b hb;rw[<-e];omega
 ·have:=hi.fl.ok y hy
  unfold EA xu at this;simp only[bf,decide_eq_true_eq]at this;omega
end
theorem Eg.NY(x:Eg)(A:Option aV)(n c:Nat):x.ay.c 16 (.a A n c)=({x with cf:={x.cf with qF:=A,gT:=n,qX:=c}}:Eg).ay:=by simp[Eg.ay,aL,Cn.J,Pc.J,Tc.J,dO,kD,Cn.NY]
theorem Eg.air(x:Eg)(A:Option aV)(n c:Nat):x.ay.c 71 (.a A n c)=({x with pl:={x.pl with rA:=A,rN:=n,rC:=c}}:Eg).ay:=by simp[Eg.ay,aL,Cn.J,Pc.J,Tc.J,dO,kD,Pc.air]
theorem Eg.an1(x:Eg):x.ay[71]? = some (.a x.pl.rA x.pl.rN x.pl.rC):=by simp[Eg.ay,aD,Cn.J,Pc.J,Tc.J,dO,kD,Pc.ay]
theorem MO.rP{W W':ak}{q:Nat}{e:En}{s:qE}{x:Eg}{q2 g:Nat}{sl sl':List (Option Fw)}{l':List Fw}(h:MO W q e s x q2 g sl)(hf:jP [q2,g] W W')(ht:Lf W' q2 g e.key e.c.dV sl' l')(hl:sl'.a=sl.a):MO W' q e {s with tQ:=l'} x q2 g sl':=by
 have o:∀b,b∈qY x->b∉[q2,g]:=fun b hm=>by have:=h.IL b hm;simp;omega
 have hs:=hf.j;have hq:=h.nq;exact⟨hf.box h.eg (by simp;omega),h.key,h.cf,h.nP,h.vs.keep hf (fun b hm=>o b (dX.2 (.b hm))),h.h.keep hf (fun b hm=>o b (dX.2 (.a (.b hm)))),h.hl.keep hf (fun b hm=>o b (dX.2 (.a (.a (.b hm))))),h.fl,ht,by rw[hl];exact h.rm,h.nq,fun b hm=>by have:=h.IL b hm;omega,h.ig,h.no,h.mV⟩
theorem aeG{W:ak}{b o:Nat}{c:Array aB}{xs:List aB}(h:dP W b c)(hc:∀j,j<xs.a->c[o+j]? = xs[j]?):W.rangeAt b o xs:=by
 intro j v hj;have hlt:j<xs.a:=by
  rcases aZ j xs.a with h1|h1
  ·exact h1
  ·rw[aT h1]at hj;cases hj
 rw[h.R.1,hc j hlt,hj]
theorem aox{W:ak}{b:Nat}{xs:List aB}(h:dP W b xs.c):W.rangeAt b 0 xs:=aeG h (fun j _=>by rw[bC,eO])
@[go_sem]theorem aAB(W:ak)(key:Vector UInt8 16)(cf:Cn)(pl:Pc)(A:Option aV)(n c:Nat)(ti no:Int)(ct:Vector Int 11):(vK 123 #[(0,.d (key.a.map bv).c),(1,.d cf.ay),(2,.d pl.ay),(3,.a A n c),(7,.b .a ti),(8,.b .a no),(9,.d (ct.a.map (aI .a)).c)]).O ah W=.ok (.d (Eg.mk key cf pl A n c none 0 0 none DV ti no ct).ay) W:=an8 W key cf pl A n c ti no ct
theorem aoy(X:Sh)(j:Nat)(h:j<11):X.ay[6+j]? = (X.mV.a.map (aI .a))[j]?:=by
 rw[Sh.ahN X j h];simp[au,h]
def OT(W:ak)(key:Vector UInt8 16)(c:Cn)(vs:List Vp)(s:qE)(r:lJ)(W':ak):Prop:=
 ∃q x q2 g sl,r=.a (.K #[.c (some ⟨q,0,none⟩),.b .a 0])/\Ab W' q ⟨key,c,vs⟩ s x q2 g sl/\aM W.a.j W W'/\(W.a.j<=q/\W.a.j<=q2/\W.a.j<=g)/\∀b∈qY x,W.a.j<=b
theorem ab3(key:Vector UInt8 16)(c:Cn)(vs:List Vp)(X:Sh)(s:qE)(w:ak)(hV:iT Vp.ay 20 w w.a.j c.qF c.gT vs)(hvc:c.gT<=c.qX)(hvn:c.gT<=100000)(hS:StR w w.a.j X s)(hbl:s.h.a<=100000)(hhl:s.J.a<=100000)(hfl:s.tQ.a<=100000)(hJ:Ap c vs s=false):
 aR ah 19 #[.d (jl key),.d c.ay,.d X.ay] w (gY w (.K #[.c none,.b .a 1])):=by
 have h0:=(((Bx.start w).new (jl key) 22).new c.ay 29).new X.ay 37;rw[show((w.alloc (.D (jl key) 22)).alloc (.D c.ay 29)).a.j=w.a.j+2 by simp,show(w.alloc (.D (jl key) 22)).a.j=w.a.j+1 by simp]at h0;have Z0:=ab h0;have CR:=ab (fun w1 (hb:aM w.a.j w w1)=>J3 c vs X s w1 (hV.go hb) hvc hvn (hS.go hb) hbl hhl hfl false hJ);clear h0 hV hvc hvn hS hbl hhl hfl hJ;go_enter Tryz.func19,Tryz.ntmps19;go_upto_region 1 with fail
 generalize((w.alloc (.D (jl key) 22)).alloc (.D c.ay 29)).alloc (.D X.ay 37)=w0 at Z0 ⊢;obtain⟨x1,x2,x3,x4⟩:=Z0.i.b1.R;obtain⟨y1,y2,y3,y4⟩:=Z0.i.Z.R;go_wp2_with (go_at_call 15;(with_reducible refine(CR.i _ Z0.i.X).g ?_);rintro e w1 ⟨rfl,hb1⟩;have Z1:=ab (Z0.i.go hb1);clear hb1);go_ret2;exact⟨rfl,Z1.i.X⟩
theorem XV(key:Vector UInt8 16)(c:Cn)(vs:List Vp)(X:Sh)(s:qE)(w:ak)(hV:iT Vp.ay 20 w w.a.j c.qF c.gT vs)(hvc:c.gT<=c.qX)(hvn:c.gT<=100000)(hS:StR w w.a.j X s)(hJ:Ap c vs s=true):
 aR ah 19 #[.d (jl key),.d c.ay,.d X.ay] w (OT w key c vs s):=by
 have hi:=agt key hJ hS.sD;have akC:=hi.few;have hlen:=hi.fl.len;obtain⟨_,⟨hr1,hr2⟩,_⟩:=uj hi.cn;simp only at hlen hr1 hr2;have h0:=(((Bx.start w).new (jl key) 22).new c.ay 29).new X.ay 37;rw[show((w.alloc (.D (jl key) 22)).alloc (.D c.ay 29)).a.j=w.a.j+2 by simp,show(w.alloc (.D (jl key) 22)).a.j=w.a.j+1 by simp]at h0;have Z0:=ab h0;have CR:=ab (fun w1 (hb:aM w.a.j w w1)=>J3 c vs X s w1 (hV.go hb) hvc hvn (hS.go hb) (by omega) (by omega) (by omega) true hJ);have HI:=ab hi;have HS:=ab hS;have HV:=ab hV;have HVN:=ab hvn;have HFW:=ab akC;have HRM:=ab (show(1<=c.dV/\c.dV<=4096)/\s.tQ.a<=4096 by omega);clear h0 hV hvc hvn hS hJ hi akC hlen hr1 hr2;go_enter Tryz.func19,Tryz.ntmps19;go_upto_region 1 with fail
 have SZ0:=ab (show w.a.j+2<(((w.alloc (.D (jl key) 22)).alloc (.D c.ay 29)).alloc (.D X.ay 37)).a.j by simp);generalize((w.alloc (.D (jl key) 22)).alloc (.D c.ay 29)).alloc (.D X.ay 37)=w0 at Z0 SZ0 ⊢;rw[show w.a.j+1+1=w.a.j+2 from rfl];obtain⟨x1,x2,x3,x4⟩:=Z0.i.b1.R;obtain⟨y1,y2,y3,y4⟩:=Z0.i.Z.R;go_upto_region 3 with(go_at_call 15;(with_reducible refine(CR.i _ Z0.i.X).g ?_);rintro e w1 ⟨rfl,hb1⟩;have Z1:=ab (Z0.i.go hb1);have SZ1:=ab (fE SZ0.i hb1.j);clear hb1)
 clear x1 x2 x3 x4 y1 y2 y3 y4;have KS:=ab (fun(w':ak) (h:Bx [(w.a.j+2,X.ay),(w.a.j+1,c.ay),(w.a.j,jl key)] w w')=>show w'.rangeAt w.a.j 0 (key.a.map bv)/\(yU 29 (.c (some ⟨w.a.j+1,0,none⟩))).O ah w'=.ok (.d c.ay) w'/\(yU 32 (.c (some ⟨w.a.j+2,0,none⟩))).O ah w'=.ok (.d (Pc.mk X.nP X.b.A X.b.n X.b.c).ay) w'/\w'.b ⟨w.a.j+2,2,none⟩=some (.a X.h.A X.h.n X.h.c)/\w'.b ⟨w.a.j+2,4,none⟩=some (.b .a X.ig)/\w'.b ⟨w.a.j+2,5,none⟩=some (.b .a X.no)/\w'.rangeAt (w.a.j+2) 6 (X.mV.a.map (aI .a))by
  refine⟨aox h.b2,VO.nR h.b1 (Cn.J _),kPc.Ei h.Z 0 (Sh.NK X) (by rw[Sh.J];omega),(h.Z.R.1 2).trans (Sh.Ya X),(h.Z.R.1 4).trans (Sh.amG X),(h.Z.R.1 5).trans (Sh.amH X),?_⟩;exact aeG (o:=6) h.Z (fun j hj=>aoy X j (by simpa using hj)))
 have CH:=ab (fun(w1:ak) (hb:aM w.a.j w w1)=>Mk s.J X.h.A X.h.n X.h.c w1 (HS.i.h.go hb) (by have:=HS.i.h.1;have:=HFW.i;omega));unfold ClP at CH;have hU:=qK;have hI:(ah.l 22).map (·.j)=some (key.a.map bv).a:=by rw[bW,nZ];kernel_rfl
 have hU2:=Gi;have hI2:(ah.l 35).map (·.j)=some (X.mV.a.map (aI .a)).a:=by rw[bW,nZ];kernel_rfl
 refine wp_region_held_drew (S:=(fun w'=>w'.rangeAt w.a.j 0 (key.a.map bv)/\(yU 29 (.c (some ⟨w.a.j+1,0,none⟩))).O ah w'=.ok (.d c.ay) w'/\(yU 32 (.c (some ⟨w.a.j+2,0,none⟩))).O ah w'=.ok (.d (Pc.mk X.nP X.b.A X.b.n X.b.c).ay) w'/\w'.b ⟨w.a.j+2,2,none⟩=some (.a X.h.A X.h.n X.h.c)/\w'.b ⟨w.a.j+2,4,none⟩=some (.b .a X.ig)/\w'.b ⟨w.a.j+2,5,none⟩=some (.b .a X.no)/\w'.rangeAt (w.a.j+2) 6 (X.mV.a.map (aI .a)))) (by kernel_rfl) ?_ (fun hHeld=>?_)
 ·exact KS.i _ Z1.i.drew
 refine qd (i:=0) rfl (by kernel_rfl) (by kernel_rfl) (by kernel_rfl) (fun _ _ _ h=>h) (yieldsIf_load_mid (by rfl) 22 (.a 3) rfl (w.a.j) 0 rfl (key.a.map bv) _ (fun w' h=>h.1) hU rfl hI) (by assumption) ?_
 try simp only[mE,bI,bQ,bH]
 refine qd (i:=11) (v:=?_) rfl (by kernel_rfl) (by kernel_rfl) (by kernel_rfl) (fun _ _ _ h=>h) (DI ⟨by rfl,?_⟩) (by assumption) ?_;rotate_left
 ·intro w' hSw
  try dsimp only at hSw
  go_simp
  try with_reducible rfl
 try simp only[mE,bI,bQ,bH]
 refine qd (i:=12) rfl (by kernel_rfl) (by kernel_rfl) (by kernel_rfl) (fun _ _ _ h=>h) (yieldsIf_load_mid (by rfl) 35 (.a 26) rfl (w.a.j+2) 6 rfl (X.mV.a.map (aI .a)) _ (fun w' h=>h.2.2.2.2.2.2) hU2 rfl hI2) (by assumption) ?_
 try simp only[mE,bI,bQ,bH]
 refine qd (i:=4) (v:=?_) rfl (by kernel_rfl) (by kernel_rfl) (by kernel_rfl) (fun _ _ _ h=>h) (DI ⟨by rfl,?_⟩) (by assumption) ?_;rotate_left
 ·intro w' hSw
  try dsimp only at hSw
  go_simp
  try with_reducible rfl
 try simp only[mE,bI,bQ,bH]
 refine qd (i:=5) (v:=?_) rfl (by kernel_rfl) (by kernel_rfl) (by kernel_rfl) (fun _ _ _ h=>h) (DI ⟨by rfl,?_⟩) (by assumption) ?_;rotate_left
 ·intro w' hSw
  try dsimp only at hSw
  go_simp
  try with_reducible rfl
 try simp only[mE,bI,bQ,bH]
 refine qd (i:=7) (v:=?_) rfl (by kernel_rfl) (by kernel_rfl) (by kernel_rfl) (fun _ _ _ h=>h) (DI ⟨by rfl,?_⟩) (by assumption) ?_;rotate_left
 ·intro w' hSw
  try dsimp only at hSw
  go_simp
  try with_reducible rfl
 try simp only[mE,bI,bQ,bH]
 refine qd (i:=8) (v:=?_) rfl (by kernel_rfl) (by kernel_rfl) (by kernel_rfl) (fun _ _ _ h=>h) (DI ⟨by rfl,?_⟩) (by assumption) ?_;rotate_left
 ·intro w' hSw
  try dsimp only at hSw
  go_simp
  try with_reducible rfl
 try simp only[mE,bI,bQ,bH]
 refine qd (i:=9) (v:=?_) rfl (by kernel_rfl) (by kernel_rfl) (by kernel_rfl) (fun _ _ _ h=>h) (DI ⟨by rfl,?_⟩) (by assumption) ?_;rotate_left
 ·intro w' hSw
  try dsimp only at hSw
  go_simp
  try with_reducible rfl
 try simp only[mE,bI,bQ,bH]
 refine qd (i:=10) (v:=?_) rfl (by kernel_rfl) (by kernel_rfl) (by kernel_rfl) (fun _ _ _ h=>h) (DI ⟨by rfl,?_⟩) (by assumption) ?_;rotate_left
 ·intro w' hSw
  try dsimp only at hSw
  go_simp
  try with_reducible rfl
 try simp only[mE,bI,bQ,bH]
 refine qd (i:=2) (v:=?_) rfl (by kernel_rfl) (by kernel_rfl) (by kernel_rfl) (fun _ _ _ h=>h) (DI ⟨by rfl,?_⟩) (by assumption) ?_;rotate_left
 ·intro w' hSw
  try dsimp only at hSw
  go_simp
  try with_reducible rfl
 try simp only[mE,bI,bQ,bH]
 refine qd (i:=1) (v:=.d c.ay) rfl (by kernel_rfl) (by kernel_rfl) (by kernel_rfl) (fun _ _ _ h=>h) (DI ⟨by rfl,fun w' hSw=>?_⟩) (by assumption) ?_
 ·have hrun:=hSw.2.1
  clear hSw;go_simp
 try simp only[mE,bI,bQ,bH]
 refine qd (i:=3) (v:=.d (Pc.mk X.nP X.b.A X.b.n X.b.c).ay) rfl (by kernel_rfl) (by kernel_rfl) (by kernel_rfl) (fun _ _ _ h=>h) (DI ⟨by rfl,fun w' hSw=>?_⟩) (by assumption) ?_
 ·have hrun:=hSw.2.2.1
  clear hSw;go_simp
 try simp only[mE,bI,bQ,bH]
 refine wpAnyH_ready (rs:=[6]) (by kernel_rfl) (by simp) ?_;refine AllReadyH.cons rfl (fun K hK=>?_) AllReadyH.nil;go_simp;go_wp2_with (go_at_call 59;(with_reducible refine(CH.i _ Z1.i.drew.X).g ?_);rintro r w2 ⟨A1,c1,rfl,ho,hb⟩;have Z2:=ab (Z1.i.drew.go hb);have O2:=ab ho;have SZ2:=ab (show w1.a.j<=w2.a.j from hb.j);clear ho hb);clear hHeld;refine hK.i _ _ (KS.i _ Z2.i) (fun hHeld=>?_);clear hK K
 try simp only[mE,bI,bQ,bH]
 refine qd (i:=13) (v:=?_) rfl (by kernel_rfl) (by kernel_rfl) (by kernel_rfl) (fun _ _ _ h=>h) (DI ⟨by rfl,?_⟩) (by assumption) ?_;rotate_left
 ·intro w' hSw
  try dsimp only at hSw
  go_simp
  try with_reducible rfl
 try simp only[mE,bI,bQ,bH]
 refine wpAnyH_ready (rs:=[14]) (by kernel_rfl) (by simp) ?_;refine AllReadyH.cons rfl (fun K hK=>?_) AllReadyH.nil;go_simp;clear hHeld;refine hK.i _ _ (KS.i _ (Z2.i.alloc _)) (fun hHeld=>?_);clear hK K;refine qd (i:=15) (v:=?_) rfl (by kernel_rfl) (by kernel_rfl) (by kernel_rfl) (fun _ _ _ h=>h) (DI ⟨by rfl,?_⟩) (by assumption) ?_;rotate_left
 ·intro w' hSw
  try dsimp only at hSw
  go_simp
  try with_reducible rfl
 try simp only[mE,bI,bQ,bH]
 refine wpAnyH_done (by kernel_rfl) ?_ _;have ZE:=ab (Z2.i.new (Eg.mk key c ⟨X.nP,X.b.A,X.b.n,X.b.c⟩ A1 X.h.n c1 none 0 0 none DV X.ig X.no X.mV).ay 123);have O3:=ab (wJ O2.i (.D (Eg.mk key c ⟨X.nP,X.b.A,X.b.n,X.b.c⟩ A1 X.h.n c1 none 0 0 none DV X.ig X.no X.mV).ay 123));have SZ3:=ab (show w2.a.j<(w2.alloc (.D (Eg.mk key c ⟨X.nP,X.b.A,X.b.n,X.b.c⟩ A1 X.h.n c1 none 0 0 none DV X.ig X.no X.mV).ay 123)).a.j by simp);clear hHeld;go_upto_region 4 with fail
 generalize w2.alloc (.D (Eg.mk key c ⟨X.nP,X.b.A,X.b.n,X.b.c⟩ A1 X.h.n c1 none 0 0 none DV X.ig X.no X.mV).ay 123)=w3 at ZE O3 SZ3 ⊢;have HQ:=ab (show w1.a.j<=w2.a.j from SZ2.i);have HF1:=ab (lM O2.i);have SG:=ab (show w.a.j<=w1.a.j from Z1.i.X.j);clear SZ2 O2 Z2;generalize w2.a.j=q at ZE SZ3 HQ HF1 ⊢;clear KS CH hU hI hU2 hI2;have HNE:=ab (show∀p∈[(w.a.j+2,X.ay),(w.a.j+1,c.ay),(w.a.j,jl key)],p.1≠q from fun p hp=>by
  have h1:=SZ1.i;have h2:=HQ.i;simp at hp;rcases hp with rfl|rfl|rfl<;>simp<;>omega)
 have CV:=ab (aeE vs c.qF c.gT c.qX w3 (HV.i.go ZE.i.X) HVN.i);unfold av9 at CV;have fv:=(ZE.i.b2.R.1 0).trans (Cn.Ed c);go_upto_region 5 with(go_at_call 60;(with_reducible refine CV.i.g ?_);rintro r w4 ⟨A2,c2,rfl,ho,hb⟩;have g16:=(ZE.i.Z.go hb).R.2.1 16;have f16:=((ZE.i.Z.go hb).R.1 16).trans (Eg.Ed _);have Z4:=ab (ZE.i.go hb);have O4:=ab ho;have B4:=ab hb;clear ho hb)
 have Z5:=ab (Z4.i.set HNE.i 16 (.a A2 c.gT c2));rw[Eg.NY]at Z5;have F5:=ab (show jP [q] w3 (w4.I ⟨q,16,none⟩ (.a A2 c.gT c2))from(jP.jF (F:=[q]) B4.i).set ⟨q,16,none⟩ _ (.b (by simp)));have F45:=ab (show jP [q] w4 (w4.I ⟨q,16,none⟩ (.a A2 c.gT c2))from(jP.refl [q] w4).set ⟨q,16,none⟩ _ (.b (by simp)));generalize w4.I ⟨q,16,none⟩ (.a A2 c.gT c2)=w5 at Z5 F5 F45 ⊢;clear g16 f16 fv CV;have O5:=ab (H9 O4.i F45.i SZ3.i);have HBN:=ab (show s.h.a=X.b.n from HS.i.b.1);have CB:=ab (yH s.h X.b.A X.b.c w5 (by have h1:=HS.i.b.go Z5.i.X;rw[<-HBN.i]at h1;exact h1) (by have:=HFW.i;omega));unfold aaG at CB;rw[HBN.i]at CB;have fb:=(Z5.i.b1.R.1 1).trans (Sh.Ij X);go_upto_region 6 with(go_at_call 61;(with_reducible refine CB.i.g ?_);rintro r w6 ⟨A3,c3,rfl,ho,hb⟩;have g71:=(Z5.i.Z.go hb).R.2.1 71;have f71:=((Z5.i.Z.go hb).R.1 71).trans (Eg.an1 _);have Z6:=ab (Z5.i.go hb);have O6:=ab ho;have B6:=ab hb;clear ho hb)
 have Z7:=ab (Z6.i.set HNE.i 71 (.a A3 X.b.n c3));rw[Eg.air]at Z7;have F7:=ab (show jP [q] w5 (w6.I ⟨q,71,none⟩ (.a A3 X.b.n c3))from(jP.jF (F:=[q]) B6.i).set ⟨q,71,none⟩ _ (.b (by simp)));have F67:=ab (show jP [q] w6 (w6.I ⟨q,71,none⟩ (.a A3 X.b.n c3))from(jP.refl [q] w6).set ⟨q,71,none⟩ _ (.b (by simp)));generalize w6.I ⟨q,71,none⟩ (.a A3 X.b.n c3)=w7 at Z7 F7 F67 ⊢;clear g71 f71 fb CB;have O7:=ab (H9 O6.i F67.i (fE SZ3.i F5.i.j));have CF:=ab (akm key c.dV.e (by have:=HRM.i;omega) (by have:=HRM.i;omega) w7);rw[show((c.dV.e:Nat):Int)=c.dV from Int.toNat_of_nonneg (by have:=HRM.i;omega)]at CF;unfold asZ at CF;have lk:=WE.nR Z7.i.b3 (dO _);have fr:=(Z7.i.b2.R.1 2).trans (Cn.TV c);go_upto_region 7 with(go_at_call 62;(with_reducible refine CF.i.g ?_);rintro r w8 ⟨q2,g,sl,rfl,ht,hrm,hq2,hg,hb⟩;have g74:=(Z7.i.Z.go hb).R.2.1 74;have f74:=((Z7.i.Z.go hb).R.1 74).trans (Eg.Zu _);have Z8:=ab (Z7.i.go hb);have T8:=ab ht;have HQ2:=ab hq2;have HG:=ab hg;have RM:=ab hrm;have B8:=ab hb;clear ht hq2 hg hrm hb)
 have Z9:=ab (Z8.i.set HNE.i 74 (aeu (some q2)));rw[Eg.avP]at Z9;change Hid (Bx _ w (w8.I ⟨q,74,none⟩ (.c (some ⟨q2,0,none⟩))))at Z9;have F9:=ab (show jP [q] w8 (w8.I ⟨q,74,none⟩ (.c (some ⟨q2,0,none⟩)))from(jP.refl [q] w8).set ⟨q,74,none⟩ _ (.b (by simp)));generalize w8.I ⟨q,74,none⟩ (.c (some ⟨q2,0,none⟩))=w9 at Z9 F9 ⊢;clear g74 f74 fr lk CF;obtain⟨x9,hx9,zx⟩:∃x9:Eg,x9=Eg.mk key {c with qF:=A2,gT:=c.gT,qX:=c2} ⟨X.nP,A3,X.b.n,c3⟩ A1 X.h.n c1 none 0 0 (some q2) DV X.ig X.no X.mV/\Bx ((q,x9.ay)::[(w.a.j+2,X.ay),(w.a.j+1,c.ay),(w.a.j,jl key)]) w w9:=⟨_,rfl,Z9.i⟩
 have HX9:=ab hx9;have ZX:=ab zx;clear hx9 zx Z9;have G79:=ab (show jP [q] w7 w9 from(jP.jF (F:=[q]) B8.i).qy F9.i);have G59:=ab (F7.i.qy G79.i);have G39:=ab (F5.i.qy G59.i);have SS:=ab (show w.a.j<=w1.a.j/\w1.a.j<=q/\q<w3.a.j/\w3.a.j<=w4.a.j/\w4.a.j<=w5.a.j/\w5.a.j<=w6.a.j/\w6.a.j<=w7.a.j/\w7.a.j<=w8.a.j/\w8.a.j<=w9.a.j/\w7.a.j<=q2/\w7.a.j<=g/\q2<w8.a.j/\g<w8.a.j from⟨SG.i,HQ.i,SZ3.i,B4.i.j,F45.i.j,B6.i.j,F67.i.j,B8.i.j,F9.i.j,HQ2.i,HG.i,T8.i.w.lt.1,T8.i.w.lt.2⟩);have HR9:=ab (show∀b∈qY x9,(w.a.j<=b/\b<w9.a.j)/\b≠q/\b≠q2/\b≠g from fun b hb=>by
  have hss:=SS.i;rw[HX9.i]at hb;rcases dX.1 hb with hb|hb|hb|hb|hb|hb
  ·have:=lM O4.i b hb;omega
  ·have:=lM O6.i b hb;omega
  ·have:=HF1.i b hb;have h2:w1.drew.a.j=w1.a.j:=rfl;omega
  ·cases hb
  ·cases hb
  ·cases hb)
 have E9:=ab (show MO w9 q ⟨key,c,vs⟩ {s with tQ:=[]} x9 q2 g sl by
  have hss:=SS.i;have h4:=lM O4.i;have h6:=lM O6.i;have h1:=HF1.i;have h2:w1.drew.a.j=w1.a.j:=rfl;refine⟨ZX.i.Z,by rw[HX9.i],by rw[HX9.i],by rw[HX9.i];exact HS.i.nP,?_,?_,?_,by rw[HX9.i],T8.i.keep F9.i (by simp;omega) (by simp;omega),RM.i,by omega,fun b hb=>by have:=HR9.i b hb;omega,by rw[HX9.i];exact HS.i.ig,by rw[HX9.i];exact HS.i.no,by rw[HX9.i];exact HS.i.mV⟩
  ·rw[HX9.i]
   exact(iT.jh HV.i.1 O5.i).keep G59.i (fun b hb=>by have:=h4 b hb;simp;omega)
  ·rw[HX9.i]
   exact(iT.jh HBN.i O7.i).keep G79.i (fun b hb=>by have:=h6 b hb;simp;omega)
  ·rw[HX9.i]
   exact(iT.jh HS.i.h.1 O3.i).keep G39.i (fun b hb=>by have:=h1 b hb;simp;omega))
 clear O3 O5 O7 O4 O6 G39 G59 G79 F5 F45 F7 F67 F9 B4 B6 B8 HF1 SG HQ HQ2 HG RM T8 Z7 Z8 Z6 Z5 Z4 ZE;have ff:=(ZX.i.b1.R.1 3).trans (Sh.ahp X);have HFN:=ab (show s.tQ.a=X.f.n from HS.i.f.1);go_wp2;clear ff;go_loopw [58] (fun s58 wr=>∃(k:Nat)(sl':List (Option Fw)),k<=X.f.n/\s58=.b .a k/\Lf wr q2 g key c.dV sl' (s.tQ.E k)/\sl'.a=sl.a/\jP [q2,g] w9 wr) (fun s58 _=>X.f.n-(intOf s58).e)
 case atStart=>exact⟨0,sl,by omega,rfl,by have:=E9.i.tb;exact this,rfl,jP.refl _ _⟩
 case round=>
  obtain⟨k,sl',hkn,rfl,ht,hsl,hf⟩:=hrel;have HT:=ab ht;have HSL:=ab hsl;have HF:=ab hf;have BW:=ab (show aM w.a.j w wr from ZX.i.X.trans (hf.tX (fun b hb=>by have:=SS.i;simp at hb;omega) ZX.i.X.j));have EB:=ab (show MO wr q ⟨key,c,vs⟩ {s with tQ:=s.tQ.E k} x9 q2 g sl' from E9.i.rP hf ht hsl);clear ht hsl hf;have hfs:X.f.n<=4096:=by have:=HRM.i;have:=HFN.i;omega
  by_cases hkt:k<X.f.n
  ·have hlt2:(k:Int)<X.f.n:=by omega
   have RF:=ab (show iT Fw.ay 41 wr wr.a.j X.f.A X.f.n s.tQ from HS.i.f.go BW.i);obtain⟨b,o,hA,hbl,hh,hcl⟩:=iT.fw RF.i hkt;have HPN:=ab (anB (k:=k) HI.i.fl (show k<s.tQ.a by rw[HFN.i];exact hkt));simp only at HPN;obtain⟨y,hy⟩:=uP (s.tQ.b k lu);have HYN:=ab (show y.F.a<=1000000 by
    have:=HI.i.fl.ok y (by rw[<-hy];exact Fb lu s.tQ k (by rw[HFN.i];exact hkt));unfold EA xu at this;simp only[bf,decide_eq_true_eq]at this;omega)
   rw[hy]at hcl HPN;have EY:=ab (EB.i.go ((aG _ _).alloc (av _) (.D y.ay 86)));have BY:=ab (dP.new wr y.ay 86);have FY:=ab (HF.i.alloc (.D y.ay 86));have SY:=ab (show w9.a.j<=wr.a.j from HF.i.j);rw[hA];go_upto_region 10 with fail
   generalize wr.alloc (.D y.ay 86)=w11 at EY BY FY ⊢;have HPY:=ab (show wr.a.j∉[q2,g]by have:=SS.i;have:=SY.i;simp;omega);have KP:=ab (fun(w':ak) (h0:dP w' wr.a.j y.ay) (h1:dP w' q x9.ay)=>show(Qe (.c (some ⟨wr.a.j,0,none⟩))).O ah w'=.ok (.d y.ay) w'/\w'.b ⟨q,74,none⟩=some (.c (some ⟨q2,0,none⟩))from⟨kU h0,by rw[h1.R.1 74,Eg.Zu,E9.i.fl];rfl⟩);have CU:=ab (Zo (EY.i.go (iJ _)).tb (by have:=HRM.i;exact this.1.1) (EY.i.go (iJ _)).rm y HYN.i);unfold agJ at CU;have HQN:=ab (show q∉[q2,g]by have:=SS.i;simp;omega);clear hh hcl hbl hy;go_region_held_law (fun w'=>(Qe (.c (some ⟨wr.a.j,0,none⟩))).O ah w'=.ok (.d y.ay) w'/\w'.b ⟨q,74,none⟩=some (.c (some ⟨q2,0,none⟩)))
    (first|exact KP.i _ BY.i.drew (EY.i.go (iJ _)).eg|exact KP.i _ (F12.i.box BY.i.drew HPY.i) (F12.i.box (EY.i.go (iJ _)).eg HQN.i)|go_keep)
    (first|(go_at_call 63;(with_reducible refine CU.i.g ?_);rintro r w12 ⟨rfl,⟨sl2,ht2,hl2⟩,hf2⟩;have F12:=ab hf2;have T12:=ab ht2;have L12:=ab hl2;clear hf2 ht2 hl2))
   go_wp2;go_roundw
   case rel=>exact⟨k+1,sl2,by omega,by go_num,by have:=T12.i;rw[HPN.i]at this;exact this,by rw[L12.i];exact HSL.i,(FY.i.drewN 1).qy F12.i⟩
   case measure=>simp[intOf]<;>omega
  ·obtain rfl:k=X.f.n:=by omega
   have hnl:¬((X.f.n:Nat):Int)<X.f.n:=by omega
   have EB2:=ab (show MO wr q ⟨key,c,vs⟩ s x9 q2 g sl' by
    have:=EB.i;rw[aK (by have:=HFN.i;omega)]at this;exact this)
   have CB:=ab (JX EB2.i HI.i);unfold abV at CB;clear hkt;go_wp2_with (go_at_call 64;(with_reducible refine CB.i.g ?_);rintro r w13 ⟨rfl,⟨x',hE,hrw⟩,hf⟩;have HE:=ab hE;have HRW:=ab hrw;have HFB:=ab hf;clear hE hrw hf);go_ret2;have hss:=SS.i;have hsw:=BW.i.j;exact⟨q,x',q2,g,sl',rfl,HE.i,BW.i.trans (HFB.i.tX (fun b hb=>by simp at hb;omega) hsw),by omega,fun b hb=>by
    rcases HRW.i b hb with h|h
    ·exact(HR9.i b h).1.1
    ·omega⟩
section
theorem aiw(W:ak):StR W W.a.j JA wT:=⟨rfl,iT.nil _ _,iT.nil _ _,iT.nil _ _,rfl,rfl,rfl,(fun y hy=>by cases hy),(fun y hy=>by cases hy),(fun y hy=>by cases hy),by simp[JA,Eb],by simp[JA,Eb],by simp[JA,Eb]⟩
theorem OT.aFJ{w w1:ak}{key:Vector UInt8 16}{c:Cn}{vs:List Vp}{s:qE}{r:lJ}{W':ak}(h:OT w1 key c vs s r W')(hb:aM w.a.j w w1):OT w key c vs s r W':=by
 obtain⟨q,x,q2,g,sl,h1,h2,h3,h4,h5⟩:=h;have:=hb.j;exact⟨q,x,q2,g,sl,h1,h2,hb.trans (h3.g hb.j),by omega,fun b hm=>by have:=h5 b hm;omega⟩
theorem akO{c:Cn}{vs:List Vp}(h:zA c vs=true):Ap c vs wT=true:=(Qt (bG 16 0) h).right (by omega)
theorem ZH(key:Vector UInt8 16)(c:Cn)(vs:List Vp)(w:ak)(hV:iT Vp.ay 20 w w.a.j c.qF c.gT vs)(hvc:c.gT<=c.qX)(hvn:c.gT<=100000)(hJ:zA c vs=true):
 aR ah 23 #[.d (jl key),.d c.ay] w (OT w key c vs wT):=by
 have h0:=((Bx.start w).new (jl key) 22).new c.ay 29;rw[show(w.alloc (.D (jl key) 22)).a.j=w.a.j+1 by simp]at h0;have Z0:=ab h0;have CR:=ab (fun w1 (hb:aM w.a.j w w1)=>XV key c vs JA wT w1 (hV.go hb) hvc hvn (aiw w1) (akO hJ));clear h0 hV hvc hvn hJ;go_enter Tryz.func23,Tryz.ntmps23;go_upto_region 1 with fail
 generalize(w.alloc (.D (jl key) 22)).alloc (.D c.ay 29)=w0 at Z0 ⊢;have l1:=WE.nR Z0.i.b1 (dO _);have l2:=VO.nR Z0.i.Z (Cn.J _);go_wp2_with (go_at_call 19;(with_reducible refine(CR.i _ Z0.i.X).g ?_);rintro e w1 ⟨q,x,q2,g,sl,rfl,h2,h3,h4,h5⟩;have H:=ab (show OT w key c vs wT (.a (.K #[.c (some ⟨q,0,none⟩),.b .a 0])) w1 from OT.aFJ ⟨q,x,q2,g,sl,rfl,h2,h3,h4,h5⟩ Z0.i.X);clear h2 h3 h4 h5);go_ret2;exact H.i
theorem aoB(key:Vector UInt8 16)(c:Cn)(vs:List Vp)(w:ak)(hV:iT Vp.ay 20 w w.a.j c.qF c.gT vs)(hvc:c.gT<=c.qX)(hvn:c.gT<=100000)(hJ:zA c vs=false):
 aR ah 23 #[.d (jl key),.d c.ay] w (gY w (.K #[.c none,.b .a 1])):=by
 have h0:=((Bx.start w).new (jl key) 22).new c.ay 29;rw[show(w.alloc (.D (jl key) 22)).a.j=w.a.j+1 by simp]at h0;have Z0:=ab h0;have CR:=ab (fun w1 (hb:aM w.a.j w w1)=>ab3 key c vs JA wT w1 (hV.go hb) hvc hvn (aiw w1) (by simp[wT]) (by simp[wT]) (by simp[wT]) (by unfold Ap Wu;rw[hJ];rfl));clear h0 hV hvc hvn hJ;go_enter Tryz.func23,Tryz.ntmps23;go_upto_region 1 with fail
 generalize(w.alloc (.D (jl key) 22)).alloc (.D c.ay 29)=w0 at Z0 ⊢;have l1:=WE.nR Z0.i.b1 (dO _);have l2:=VO.nR Z0.i.Z (Cn.J _);go_wp2_with (go_at_call 19;(with_reducible refine(CR.i _ Z0.i.X).g ?_);rintro e w1 ⟨rfl,hb1⟩;have Z1:=ab (Z0.i.go hb1);clear hb1);go_ret2;exact⟨rfl,Z1.i.X⟩
structure TbO(B:Nat)(W:ak)(X:Tc)(t:Tl):Prop where
 nn:t.h.a=X.r9
 n:W.c B 9 1 (.a X.um X.r9 X.Dy) X.r9 (t.h.d fun y=>(txA y).a)
 sn:t.vD.a=X.qB
 s:W.c B 3 1 (.a X.rG X.qB X.zH) X.qB (t.vD.d fun y=>(GU y).a)
def aAD(W:ak)(t:Tl)(r:lJ)(W':ak):Prop:=∃X:Tc,r=.a (.d X.ay)/\TbO W.a.j W' X t/\aM W.a.j W W'
theorem TlR.aFK{W:ak}{A1 A2:Option aV}{n1 n2:Nat}{t:Tl}(h:TlR W A1 n1 A2 n2 t):RdI W W.a.j A2 n2 t.vD:=by
 obtain⟨_,h2,h3⟩:=h;subst h2;rcases h3 with⟨h4,rfl⟩|⟨g,d,rfl,h4,h5⟩
 ·rw[bF h4];exact iT.nil _ _
 ·exact RdI.box h4 (fun j hj=>by rw[bC];exact h5 j hj)
theorem TlR.texts{W:ak}{A1 A2:Option aV}{n1 n2:Nat}{t:Tl}(h:TlR W A1 n1 A2 n2 t):RdT W W.a.j A1 n1 t.h:=h.1
variable {W W':ak} {q:Nat} {e:En} {s:qE} {x:Eg} {q2 g:Nat} {sl:List (Option Fw)}
theorem ag4(t:Tl)(hE:dP W q x.ay)(hT:RdT W W.a.j x.tb.um x.tb.r9 t.h)(hI:RdI W W.a.j x.tb.rG x.tb.qB t.vD)(hn:t.h.a<=100000)(hs:t.vD.a<=100000):aR ah 31 #[.c (some ⟨q,0,none⟩)] W (aAD W t):=by
 have Z0:=ab ((Bx.start W).new DV.ay 72);have HE:=ab hE;have HT:=ab hT;have HI:=ab hI;have HN:=ab (show t.h.a=x.tb.r9/\t.vD.a=x.tb.qB from⟨hT.1,hI.1⟩);have HS:=ab (show x.tb.r9<=100000/\x.tb.qB<=100000 by rw[<-HN.i.1,<-HN.i.2];exact⟨hn,hs⟩);clear hE hT hI hn hs;go_enter Tryz.func31,Tryz.ntmps31;go_upto_region 1 with fail
 have SZ0:=ab (show W.a.j<(W.alloc (.D DV.ay 72)).a.j by simp);generalize W.alloc (.D DV.ay 72)=w0 at Z0 SZ0 ⊢;have KS:=ab (fun(w':ak) (h1:dP w' q x.ay)=>show w'.b ⟨q,75,none⟩=some (.a x.tb.um x.tb.r9 x.tb.Dy)/\w'.b ⟨q,76,none⟩=some (.a x.tb.rG x.tb.qB x.tb.zH)from⟨(h1.R.1 75).trans (Eg.Gb x),(h1.R.1 76).trans (Eg.zI x)⟩);have CN:=ab (fun(w:ak) (hb:aM W.a.j W w)=>aeD t.h x.tb.um x.tb.r9 x.tb.Dy w (HT.i.go hb) HS.i.1);have CI:=ab (fun(w:ak) (hb:aM W.a.j W w)=>ag0 t.vD x.tb.rG x.tb.qB x.tb.zH w (HI.i.go hb) HS.i.2);unfold aot at CN;unfold av8 at CI;go_region_held_law (fun w'=>w'.b ⟨q,75,none⟩=some (.a x.tb.um x.tb.r9 x.tb.Dy)/\w'.b ⟨q,76,none⟩=some (.a x.tb.rG x.tb.qB x.tb.zH))
  (first|exact KS.i _ (HE.i.go Z0.i.drew.X)|exact KS.i _ (HE.i.go Z1.i.X)|exact KS.i _ (HE.i.go Z2.i.X)|exact KS.i _ (HE.i.go Z3.i.X)|go_keep)
  (first
  | (go_at_call 88;(with_reducible refine(CN.i _ Z0.i.drew.X).g ?_);rintro r w1 ⟨A1,c1,rfl,ho,hb⟩;have Z1:=ab (Z0.i.drew.go hb);have O1:=ab ho;have S1:=ab (show w0.a.j<=w1.a.j from hb.j);clear ho hb)
  | (go_at_call 89;(with_reducible refine(CI.i _ Z1.i.X).g ?_);rintro r w2 ⟨A2,c2,rfl,ho,hb⟩;have Z2:=ab (Z1.i.go hb);have O2:=ab ho;have B2:=ab hb;have th:=Z2.i.Z.S 0 2 (aU (Tc.J DV).symm);have Z3:=ab (show Bx [(W.a.j,(Tc.mk A1 x.tb.r9 c1 A2 x.tb.qB c2).ay)] W (gV w2 W.a.j 0 (Tc.mk A1 x.tb.r9 c1 A2 x.tb.qB c2).ay)from Z2.i.put (fun r hr=>by cases hr) _ (by rw[Tc.J,Tc.J]));clear ho hb))
 have FS:=ab (show jP [W.a.j] w2 (gV w2 W.a.j 0 (Tc.mk A1 x.tb.r9 c1 A2 x.tb.qB c2).ay)from zM w2 W.a.j 0 _);have hs0:=SZ0.i;have hs1:=S1.i;go_wp2_with fail;refine aO (kTc.Aj rfl _ rfl Z3.i.Z (Tc.J _)) rfl ?_;refine⟨_,rfl,⟨HN.i.1,?_,HN.i.2,?_⟩,Z3.i.X⟩
 ·exact iU (H9 (jH O1.i B2.i) FS.i (by simp;omega)) (by simp;omega)
 ·exact iU (H9 O2.i FS.i (by omega)) (by omega)
end
section
open Go.ChangeShapes Go.WideShapes Go.ChangeAt Go.RowKit Go.Deep
def bA(b:UInt8):Array aB:=#[bv b]
theorem awg(l:List UInt8):(l.d fun x=>(bA x).a)=l.map bv:=by
 induction l with
 | nil=>rfl
 | cons a l ih=>rw[List.flatMap_cons,kV,ih];rfl
def aoC:Ac:=⟨0,[],⟨0,jq,[],0⟩,[],false⟩
def qJ:At:=⟨0,none,0,0,⟨0,jq,[],0⟩,[],false⟩
theorem Rv{α:Type}(d:α)(P:Nat->α->Prop):∀n:Nat,(∀i,i<n->∃u,P i u)->∃us:List α,us.a=n/\∀i,i<n->P i (us.b i d)
 | 0,_=>⟨[],rfl,fun i h=>by omega⟩
 | n+1,h=>by
   obtain⟨us,h1,h2⟩:=Rv d P n (fun i hi=>h i (by omega));obtain⟨u,hu⟩:=h n (by omega);refine⟨us++[u],by simp[h1],fun i hi=>?_⟩;rcases aZ i n with h3|h3
   ·rw[au,List.getElem?_append_left (by omega),<-au];exact h2 i h3
   ·obtain rfl:i=n:=by omega
    rw[au,List.getElem?_append_right (by omega),h1,Nat.sub_self];exact hu
structure AtO(W:ak)(a:At)(u:Ac):Prop where
 kind:a.kind=u.kind
 fr:gG W W.a.j a.Um a.IW u.frame
 Gc:a.IW<=a.Gc/\a.Gc<=9223372036854775807
 op:a.op=u.op
 F:a.F=u.F
 h:a.h=u.h
 Po:u.op.Po
theorem AtO.r{W:ak}{a:At}{u:Ac}(h:AtO W a u)(hn:a.IW<=1000000):AtR W a u:=⟨h.kind,h.fr,⟨h.Gc.1,h.Gc.2,hn⟩,h.op,h.F,h.h⟩
theorem AtR.go{W W':ak}{a:At}{u:Ac}(h:AtR W a u)(hb:aM W.a.j W W'):AtR W' a u:=⟨h.kind,h.fr.upon hb,h.Gc,h.op,h.F,h.h⟩
section
variable {H:Type} {enc:bL×aB->H} {w:ak} {base:Nat} {held:Bool} {fuel:Nat} {cs:List aB} {x:Ay H×List uw}
theorem arM(h:mM enc ah w base (fun _=>true) held fuel 98 cs=some x):∃v:Vp,cs=v.ay.a/\True:=by
 obtain⟨xs,n,_,_,hl,hxl,hf⟩:=vL tu h;rw[show ah.a 98=20 by kernel_rfl]at hl;obtain⟨y0,h0⟩:=K6 hxl hf 0 _ rfl;obtain⟨y1,h1⟩:=K6 hxl hf 1 _ rfl;obtain⟨y2,h2⟩:=K6 hxl hf 2 _ rfl;obtain⟨y3,h3⟩:=K6 hxl hf 3 _ rfl;obtain⟨a,ha⟩:=ND h0;obtain⟨p,hp,_,_⟩:=tN (by kernel_rfl) h1;obtain⟨q,hq,_,_⟩:=tN (by kernel_rfl) h2;obtain⟨t,ht,_⟩:=IY (by kernel_rfl) h3;have c0:(cs.G 0).E 17=a.ay.a:=ha;have c1:(cs.G 17).E 1=[.b .a p]:=hp;have c2:(cs.G 18).E 1=[.b .a q]:=hq;have c3:(cs.G 19).E 1=[.e t]:=ht;refine⟨⟨a,p,q,t⟩,?_,trivial⟩;have e:=ru cs 0 17;rw[c0,ru cs (0+17) 1,c1,ru cs (0+17+1) 1,c2,ru cs (0+17+1+1) 1,c3,jg (i:=0+17+1+1+1) (by omega)]at e;simpa[Vp.ay]using e
theorem arN(h:mM enc ah w base (fun _=>true) held fuel 29 cs=some x):∃(c:Cn)(l:List Vp),cs=c.ay.a/\iT Vp.ay 20 w w.a.j c.qF c.gT l/\c.gT<=c.qX/\c.qX<=9223372036854775807:=by
 obtain⟨xs,n,_,_,hl,hxl,hf⟩:=vL nO h;rw[show ah.a 29=54 by kernel_rfl]at hl;obtain⟨y0,h0⟩:=K6 hxl hf 0 _ rfl;obtain⟨y1,h1⟩:=K6 hxl hf 1 _ rfl;obtain⟨y2,h2⟩:=K6 hxl hf 2 _ rfl;obtain⟨y3,h3⟩:=K6 hxl hf 3 _ rfl;obtain⟨y4,h4⟩:=K6 hxl hf 4 _ rfl;obtain⟨y5,h5⟩:=K6 hxl hf 5 _ rfl;obtain⟨y6,h6⟩:=K6 hxl hf 6 _ rfl;obtain⟨y7,h7⟩:=K6 hxl hf 7 _ rfl;obtain⟨y8,h8⟩:=K6 hxl hf 8 _ rfl;obtain⟨y9,h9⟩:=K6 hxl hf 9 _ rfl;obtain⟨y10,h10⟩:=K6 hxl hf 10 _ rfl;obtain⟨y11,h11⟩:=K6 hxl hf 11 _ rfl;obtain⟨A,k,c,l,hs,hnc,hc,hll,hrd,hsp,_⟩:=Pn Vp.ay (fun _=>True) 20 Vp.J (by kernel_rfl:ah.underlying _=some (.a 98)) (by kernel_rfl) (by omega) (fun n cs y hy=>arM hy) h0;obtain⟨z1,e1,_,_⟩:=tN (by kernel_rfl) h1;obtain⟨z2,e2,_,_⟩:=tN (by kernel_rfl) h2;obtain⟨z3,e3⟩:=ajL (k:=6) (e:=3) (by kernel_rfl) (by kernel_rfl) (by kernel_rfl) (by kernel_rfl) h3;obtain⟨z4,e4,_,_⟩:=tN (by kernel_rfl) h4;obtain⟨z5,e5,_,_⟩:=tN (by kernel_rfl) h5;obtain⟨z6,e6⟩:=Nb (k:=6) (e:=5) (by kernel_rfl) (by kernel_rfl) (by kernel_rfl) (by kernel_rfl) h6;obtain⟨z7,e7⟩:=ND h7;obtain⟨z8,e8⟩:=ND h8;obtain⟨z9,e9,_,_⟩:=tN (by kernel_rfl) h9;obtain⟨za,ea,_,_⟩:=tN (by kernel_rfl) h10;obtain⟨zb,eb,_,_⟩:=tN (by kernel_rfl) h11;have c0:(cs.G 0).E 1=[.a A k c]:=hs;have c1:(cs.G 1).E 1=[.b .a z1]:=e1;have c2:(cs.G 2).E 1=[.b .a z2]:=e2;have c3:(cs.G 3).E 6=z3.a.map (aI .a):=e3;have c4:(cs.G 9).E 1=[.b .a z4]:=e4;have c5:(cs.G 10).E 1=[.b .a z5]:=e5;have c6:(cs.G 11).E 6=z6.a.map bv:=e6;have c7:(cs.G 17).E 17=z7.ay.a:=e7;have c8:(cs.G 34).E 17=z8.ay.a:=e8;have c9:(cs.G 51).E 1=[.b .a z9]:=e9;have ca:(cs.G 52).E 1=[.b .a za]:=ea;have cb:(cs.G 53).E 1=[.b .a zb]:=eb;refine⟨⟨A,k,c,z1,z2,z3,z4,z5,z6,z7,z8,z9,za,zb⟩,l,?_,⟨hll,hrd,hsp⟩,hnc,hc⟩;have e:=ru cs 0 1;rw[c0,ru cs (0+1) 1,c1,ru cs (0+1+1) 1,c2,ru cs (0+1+1+1) 6,c3,ru cs (0+1+1+1+6) 1,c4,ru cs (0+1+1+1+6+1) 1,c5,ru cs (0+1+1+1+6+1+1) 6,c6,ru cs (0+1+1+1+6+1+1+6) 17,c7,ru cs (0+1+1+1+6+1+1+6+17) 17,c8,ru cs (0+1+1+1+6+1+1+6+17+17) 1,c9,ru cs (0+1+1+1+6+1+1+6+17+17+1) 1,ca,ru cs (0+1+1+1+6+1+1+6+17+17+1+1) 1,cb,jg (i:=0+1+1+1+6+1+1+6+17+17+1+1+1) (by omega)]at e;simpa[Cn.ay,K9,Bp]using e
theorem aoD(h:mM enc ah w base (fun _=>true) held fuel 56 cs=some x):∃(A:Option aV)(n c:Nat)(l:List UInt8),cs=[.a A n c]/\gG w w.a.j A n l/\n<=c/\c<=9223372036854775807:=by
 obtain⟨A,n,c,l,hs,hnc,hc,hll,hrd,hsp,_⟩:=Pn bA (fun _=>True) 1 (fun _=>rfl) dD (by kernel_rfl) (by omega) (fun n cs y hy=>by
  obtain⟨b,hb⟩:=ahc lX hy;exact⟨b,hb,trivial⟩) h
 rw[awg]at hrd;exact⟨A,n,c,l,hs,hrd,hnc,hc⟩
theorem arO(h:mM enc ah w base (fun _=>true) held fuel 66 cs=some x):∃a:At,cs=a.ay.a/\∃u:Ac,AtO w a u:=by
 obtain⟨xs,n,_,_,hl,hxl,hf⟩:=vL mD h;rw[show ah.a 66=34 by kernel_rfl]at hl;obtain⟨y0,h0⟩:=K6 hxl hf 0 _ rfl;obtain⟨y1,h1⟩:=K6 hxl hf 1 _ rfl;obtain⟨y2,h2⟩:=K6 hxl hf 2 _ rfl;obtain⟨y3,h3⟩:=K6 hxl hf 3 _ rfl;obtain⟨y4,h4⟩:=K6 hxl hf 4 _ rfl;obtain⟨z0,e0,_,_⟩:=tN (by kernel_rfl) h0;obtain⟨A,k,c,l,e1,hR,hnc,hc⟩:=aoD h1;obtain⟨z2,e2,hg⟩:=amo h2;obtain⟨z3,e3,_⟩:=Uu (by kernel_rfl) h3;obtain⟨z4,e4,_⟩:=IY (by kernel_rfl) h4;have c0:(cs.G 0).E 1=[.b .a z0]:=e0;have c1:(cs.G 1).E 1=[.a A k c]:=e1;have c2:(cs.G 2).E 30=z2.ay.a:=e2;have c3:(cs.G 32).E 1=[.g (bK z3)]:=e3;have c4:(cs.G 33).E 1=[.e z4]:=e4;refine⟨⟨z0,A,k,c,z2,z3,z4⟩,?_,⟨z0,l,z2,z3,z4⟩,rfl,hR,⟨hnc,hc⟩,rfl,rfl,rfl,hg⟩;have e:=ru cs 0 1;rw[c0,ru cs (0+1) 1,c1,ru cs (0+1+1) 30,c2,ru cs (0+1+1+30) 1,c3,ru cs (0+1+1+30+1) 1,c4,jg (i:=0+1+1+30+1+1) (by omega)]at e;simpa[At.ay]using e
end
section
variable {H:Type} {enc:bL×aB->H} {W:ak} {base:Nat} {v:aB} {d:Ay H} {ps:List uw} {held:Bool}
theorem aoE(hval:IV ah W .any base 22 v)(h:DataW.Trod enc ah W 0 (fun _=>true) held 22 v d ps):∃k:Vector UInt8 16,v=.d (jl k):=by
 obtain⟨cs,rfl⟩:∃cs,v=.d cs:=by
  simp only[IV,qK]at hval;obtain⟨cs,h1,_⟩:=hval;exact⟨cs,h1⟩
 obtain⟨fuel,hf⟩:=h;obtain⟨k,hk⟩:=Nb (k:=16) (e:=5) (by kernel_rfl) (by kernel_rfl) (by kernel_rfl) (by kernel_rfl) hf;have hc:cs.a=k.a.map bv:=hk;exact⟨k,by unfold jl;rw[<-hc]⟩
theorem arP(hval:IV ah W .any base 29 v)(h:DataW.Trod enc ah W 0 (fun _=>true) held 29 v d ps):∃(c:Cn)(l:List Vp),v=.d c.ay/\iT Vp.ay 20 W W.a.j c.qF c.gT l/\c.gT<=c.qX/\c.qX<=9223372036854775807:=by
 obtain⟨cs,rfl,_⟩:=okWide_struct nO hval;obtain⟨fuel,hf⟩:=h;obtain⟨c,l,hcs,hr⟩:=arN hf;have hc:cs.a=c.ay.a:=hcs;exact⟨c,l,by rw[Ic.1 hc],hr⟩
theorem akP(hval:IV ah W .any base 49 v)(h:DataW.Trod enc ah W 0 (fun _=>true) held 49 v d ps):
 ∃(A:Option aV)(n c:Nat)(l:List At)(us:List Ac),v=.a A n c/\iT At.ay 34 W W.a.j A n l/\us.a=n/\(∀i,i<n->AtO W (l.b i qJ) (us.b i aoC))/\n<=9223372036854775807:=by
 obtain⟨a0,len,cap,rfl⟩:=okWide_slice Tryz.underlying49 hval;obtain⟨fuel,hf⟩:=h;obtain⟨A,n,c,l,hs,hnc,hc,hll,hrd,hsp,hgd⟩:=Pn At.ay (fun a=>∃u,AtO W a u) 34 At.J Tryz.underlying49 (by kernel_rfl) (by omega) (fun n cs y hy=>arO hy) hf;simp only[dz,xD,Value.slice.injEq,and_true]at hs;obtain⟨rfl,rfl,rfl⟩:=hs;obtain⟨us,h1,h2⟩:=Rv aoC (fun i u=>AtO W (l.b i qJ) u) len (fun i hi=>hgd _ (by rw[au,aC (by omega),Option.getD_some];exact List.getElem_mem _));exact⟨a0,len,cap,l,us,rfl,⟨hll,hrd,hsp⟩,h1,h2,by omega⟩
end
end
structure OcR(W:ak)(o:Oc)(u:Ou):Prop where
 err:o.err=u.err
 jm:o.jm=u.jm
 Bo:o.Bo=u.Bo
 nP:o.nP=u.nP
 F:o.F=u.F
 i:gG W W.a.j o.Lg o.EM u.i
theorem OuR.rd{B:Nat}{W:ak}{o:Oc}{u:Ou}(h:OuR B W o u):OcR W o u:=⟨h.err,h.jm,h.Bo,h.nP,h.F,gG.jh h.vM⟩
theorem OcR.go{W W':ak}{o:Oc}{u:Ou}(h:OcR W o u)(hb:aM W.a.j W W'):OcR W' o u:=⟨h.err,h.jm,h.Bo,h.nP,h.F,h.i.upon hb⟩
theorem akQ(c:Cn)(w:ak):aR ah 13 #[.d c.ay] w (gY w (.e (decide (c.gT<=20)&&decide (c.j<=260)))):=by
 have Z0:=ab ((Bx.start w).new c.ay 29);obtain⟨k1,h1⟩:∃k,decide (c.gT<=20)=k:=⟨_,rfl⟩
 obtain⟨k2,h2⟩:∃k,decide (c.j<=260)=k:=⟨_,rfl⟩
 have h1':decide ((c.gT:Int)<=20)=k1:=by rw[<-h1,decide_eq_decide];omega
 go_enter Tryz.func13,Tryz.ntmps13;go_upto_region 1 with fail
 generalize w.alloc (.D c.ay 29)=w1 at Z0 ⊢;obtain⟨x1,x2,x3,x4⟩:=Z0.i.Z.R;cases k1
 ·go_wp2
  go_ret;exact⟨by rw[h1];rfl,Z0.i.X⟩
 cases k2
 ·go_wp2
  go_ret;exact⟨by rw[h1,h2];rfl,Z0.i.X⟩
 go_wp2;go_ret;exact⟨by rw[h1,h2];rfl,Z0.i.X⟩
def Xe(a:At):Bool:=decide (a.IW<=1500)&&(decide (a.F.a<=60)&&(decide (a.op.F.a<=60)&&decide (a.op.h.F.a<=60)))
def OU(l:List At):Bool:=decide (l.a<=60)&&(eu l.a).all fun i=>Xe (l.b i qJ)
theorem At.atf(x:At)(j:Nat)(hj:j<30):x.ay[2+j]? = x.op.ay[j]?:=by
 have h:=At.as9 x;have h2:(x.ay.extract 2 32)[j]? = x.op.ay[j]?:=by rw[h]
 rw[cu,if_pos (by rw[At.J];omega)]at h2;exact h2
theorem At.D{W:ak}{B n i:Nat}{A:Option aV}{l:List At}(h:iT At.ay 34 W B A n l)(hi:i<n):∃b o,A=some ⟨b,o,none⟩/\W.b ⟨b,o+i*34,none⟩=some (.b .a (l.b i qJ).kind)/\W.b ⟨b,o+i*34+1,none⟩=some (.a (l.b i qJ).Um (l.b i qJ).IW (l.b i qJ).Gc)/\W.b ⟨b,o+i*34+32,none⟩=some (.g (bK (l.b i qJ).F))/\W.b ⟨b,o+i*34+30,none⟩=some (.g (bK (l.b i qJ).op.F))/\W.b ⟨b,o+i*34+3,none⟩=some (.g (bK (l.b i qJ).op.h.F)):=by
 obtain⟨b,o,hA,_,hc⟩:=iT.cell At.J qJ h hi;refine⟨b,o,hA,?_,(hc 1 (by omega)).trans (At.aoq _),(hc 32 (by omega)).trans (At.zJ _),?_,?_⟩
 ·have:=(hc 0 (by omega)).trans (At.zB _);rw[kQ]at this;exact this
 ·rw[hc 30 (by omega),At.atf _ 28 (by omega)];simp[rJ.ay,Bk.J]
 ·rw[hc 3 (by omega),At.atf _ 1 (by omega)];simp[rJ.ay];rfl
theorem aeH(l:List At)(A:Option aV)(n c:Nat)(w:ak)(hR:iT At.ay 34 w w.a.j A n l)(hn:n<=9223372036854775807):
 aR ah 66 #[.a A n c] w fun e w'=>e=.a (.e (OU l))/\w=w':=by
 have HR:=ab hR;have HN:=ab hR.1;clear hR;have HFW:=ab (show OU l=(decide (n<=60)&&(eu n).all (fun i=>Xe (l.b i qJ)))by unfold OU;rw[HN.i]);go_enter Tryz.func66,Tryz.ntmps66;go_wp2;go_loop [3] (fun s3=>∃i:Nat,i<=n/\i<=100/\s3=.b .a i/\∀k,k<i->Xe (l.b k qJ)=true) (fun s3=>n-(intOf s3).e)
 case atStart=>exact⟨0,by omega,by omega,rfl,fun k hk=>by omega⟩
 case round=>
  obtain⟨i,hin,aFL,rfl,hall⟩:=hrel;have HA:=ab hall;clear hall;by_cases hlt:i<n
  ·have hi:(i:Int)<n:=by omega
   by_cases h6:i<100
   ·have hi6:(i:Int)<100:=by omega
    obtain⟨b,o,rfl,c0,c1,c2,c3,c4⟩:=At.D HR.i hlt;obtain⟨a,ha⟩:=cB (l.b i qJ);rw[<-ha]at c0 c1 c2 c3 c4;have HX:=ab ha;clear ha c0;obtain⟨m1,hm1⟩:∃m,m=a.IW:=⟨_,rfl⟩
    obtain⟨m2,hm2⟩:∃m,m=a.F:=⟨_,rfl⟩
    obtain⟨m3,hm3⟩:∃m,m=a.op.F:=⟨_,rfl⟩
    obtain⟨m4,hm4⟩:∃m,m=a.op.h.F:=⟨_,rfl⟩
    have HFA:=ab (show Xe a=(decide (m1<=1500)&&(decide (m2.a<=60)&&(decide (m3.a<=60)&&decide (m4.a<=60))))by rw[hm1,hm2,hm3,hm4];rfl);rw[<-hm1]at c1;rw[<-hm2]at c2;rw[<-hm3]at c3;rw[<-hm4]at c4;clear hm1 hm2 hm3 hm4;obtain⟨k1,e1⟩:∃k,decide ((1500:Int)<m1)=k:=⟨_,rfl⟩
    obtain⟨k2,e2⟩:∃k,decide ((60:Int)<m2.a)=k:=⟨_,rfl⟩
    obtain⟨k3,e3⟩:∃k,decide ((60:Int)<m3.a)=k:=⟨_,rfl⟩
    obtain⟨k4,e4⟩:∃k,decide ((60:Int)<m4.a)=k:=⟨_,rfl⟩
    have HB:=ab (show Xe a=(!k1&&(!k2&&(!k3 && !k4)))by
     rw[HFA.i,<-e1,<-e2,<-e3,<-e4];rw[dG];simp only[bf,decide_eq_true_eq,oO,decide_eq_false_iff_not];omega)
    cases k1;rotate_left
    ·have HF:=ab (show OU l=false by rw[HFW.i,jw _ i _ hlt (by rw[<-HX.i,HB.i];rfl)];simp)
     go_wp2;go_ret;exact⟨by rw[HF.i];rfl,rfl⟩
    cases k2;rotate_left
    ·have HF:=ab (show OU l=false by rw[HFW.i,jw _ i _ hlt (by rw[<-HX.i,HB.i];rfl)];simp)
     go_wp2;go_ret;exact⟨by rw[HF.i];rfl,rfl⟩
    cases k3;rotate_left
    ·have HF:=ab (show OU l=false by rw[HFW.i,jw _ i _ hlt (by rw[<-HX.i,HB.i];rfl)];simp)
     go_wp2;go_ret;exact⟨by rw[HF.i];rfl,rfl⟩
    cases k4;rotate_left
    ·have HF:=ab (show OU l=false by rw[HFW.i,jw _ i _ hlt (by rw[<-HX.i,HB.i];rfl)];simp)
     go_wp2;go_ret;exact⟨by rw[HF.i];rfl,rfl⟩
    go_wp2;go_round
    case rel=>exact⟨i+1,by omega,by omega,by go_num,fun k hk=>by
     by_cases hki:k=i
     ·rw[hki,<-HX.i,HB.i];rfl
     ·exact HA.i k (by omega)⟩
    case measure=>simp[intOf]<;>omega
   ·have hd:decide ((i:Int)<100)=false:=by simp;omega
    have HF:=ab (show OU l=decide ((n:Int)<=60)by
     rw[HFW.i,show decide (n<=60)=false from decide_eq_false (by omega),show decide ((n:Int)<=60)=false from decide_eq_false (by omega)];rfl)
    go_wp2;go_ret;exact⟨by rw[HF.i];rfl,rfl⟩
  ·obtain rfl:i=n:=by omega
   have hd:decide ((i:Int)<i)=false:=by simp
   have HF:=ab (show OU l=decide ((i:Int)<=60)by
    rw[HFW.i,gq.2 (fun k hk=>HA.i k (fq.1 hk)),Bool.and_true];rw[decide_eq_decide];omega)
   go_wp2;go_ret;exact⟨by rw[HF.i];rfl,rfl⟩
def ag5(c:Cn)(l:List At):Bool:=(decide (c.gT<=20)&&decide (c.j<=260))&&OU l
theorem arQ(c:Cn)(l:List At)(A:Option aV)(n k:Nat)(w:ak)(hR:iT At.ay 34 w w.a.j A n l)(hn:n<=9223372036854775807):
 aR ah 21 #[.d c.ay,.a A n k] w (gY w (.e (ag5 c l))):=by
 have Z0:=ab ((Bx.start w).new c.ay 29);obtain⟨k1,h1⟩:∃k,(decide (c.gT<=20)&&decide (c.j<=260))=k:=⟨_,rfl⟩
 have HJ:=ab (show ag5 c l=(k1&&OU l)by unfold ag5;rw[h1]);have CS:=ab (fun w=>akQ c w);rw[h1]at CS;have CF:=ab (fun w1 (hb:aM w.a.j w w1)=>aeH l A n k w1 (hR.go hb) hn);clear h1 hR;go_enter Tryz.func21,Tryz.ntmps21;go_upto_region 1 with fail
 generalize w.alloc (.D c.ay 29)=w1 at Z0 ⊢;have l1:=VO.nR Z0.i.Z (Cn.J _);go_wp2_with fail
 (with_reducible refine(CS.i _).g ?_)
 rintro e w2 ⟨rfl,hb⟩;have Z2:=ab (Z0.i.go hb);clear hb l1;cases k1
 ·go_wp2
  go_ret;exact⟨by rw[HJ.i];rfl,Z2.i.X⟩
 go_wp2_with (go_at_call 66;(with_reducible refine(CF.i _ Z2.i.X).g ?_);rintro e w3 ⟨rfl,rfl⟩);go_ret;exact⟨by rw[HJ.i];rfl,Z2.i.X⟩
def wE(l:List UInt8):fD:=⟨false,lZ 16 l⟩
def aoF:Cn:=⟨none,1,1,7,9,EP fun i=>if i.val=0 then 0 else 5,1,1,bG 6 0,nQ,⟨true,bG 16 0⟩,1000,2,5⟩
def IQ:Vp:=⟨wE [5,6,7,8],6,80,false⟩
def zT:En:=⟨lZ 16 [1],aoF,[IQ]⟩
def akR:Bk:=⟨[97],wE [10,0,0,9],8080,bG 6 0,4607182418800017408,false⟩
def awF:List UInt8:=[0,0,0,0,0,0,0,0,0,0,0,0,8,0,69,0,0,42,0,0,64,0,64,6,42,187,1,2,3,4,5,6,7,8,3,232,0,80,0,0,0,0,0,0,0,0,80,2,0,0,51,44,0,0,104,105]
def awW:List UInt8:=[0,0,0,0,0,0,0,0,0,0,0,0,8,0,69,0,0,42,0,0,64,0,64,6,44,192,1,2,3,4,10,0,0,9,3,232,31,144,0,0,0,0,0,0,0,0,80,2,0,0,21,241,0,0,104,105]
def acF:Ac:=⟨1,awF,⟨0,jq,[],0⟩,[],false⟩
def acA:Ac:=⟨2,[],⟨1,akR,[],0⟩,[],false⟩
def acH(n:List UInt8):Ac:=⟨3,[],⟨0,jq,[],0⟩,n,false⟩
def acK(k:Int):Ac:=⟨k,[],⟨0,jq,[],0⟩,[],false⟩
def aw0:qE×Ou:=xO zT wT acF
def aw1:qE×Ou:=xO zT aw0.1 acA
def aw2:qE×Ou:=xO zT aw1.1 acF
def aw3:qE×Ou:=xO zT aw2.1 acF
def aw4:qE×Ou:=xO zT aw3.1 (acH [98])
def aw5:qE×Ou:=xO zT aw4.1 (acH [97])
def aw6:qE×Ou:=xO zT aw5.1 acF
def aw7:qE×Ou:=xO zT aw6.1 (acK 4)
def Uo:qE×Ou:=xO zT aw7.1 (acK 9)
theorem atg:zA aoF [IQ]=true:=by decide +kernel
theorem aFO:aw0.2={Hr with jm:=8}:=by decide +kernel
theorem aFP:aw1.2.nP=1:=by decide +kernel
theorem aoG:aw2.2=⟨0,0,false,1,[97],awW⟩:=by decide +kernel
theorem aFQ:aw3.2.Bo=true:=by decide +kernel
theorem aFR:aw4.2.err=5:=by decide +kernel
theorem aFS:aw5.2.err=0:=by decide +kernel
theorem aFT:aw6.2.jm=8:=by decide +kernel
theorem aFU:aw7.2.err=0:=by decide +kernel
theorem aFV:Uo.2.err=1:=by decide +kernel
theorem akS:Uo.1.no=2/\Uo.1.ig=1/\Uo.1.mV[8]=2/\Uo.1.tQ.a=1/\(Bj zT Uo.1).vD.a=0:=by decide +kernel
theorem Ow.rd{B n c:Nat}{g0:Option Nat}{w w':ak}{A:Option aV}{bs:List UInt8}(h:Ow B g0 w (.a A n c) bs w'):gG w' w'.a.j A n bs:=by
 obtain⟨A',c',e,_,_⟩:=j3 h.vM;injection e with e1 e2 e3
 have:=h.vM;rw[<-e2]at this;exact gG.jh this
theorem aeI(s d:fD)(p:Nat)(hp:p<=255)(w:ak)(A:Option aV)(n c:Nat)(l:List UInt8)(hnn:n<=65535)(hnc:n<=c)(hr:gG w w.a.j A n l)(hT:(FM p l).1.bR=(n:Int))(lp:List UInt8)(hlp:psB s d p n=lp)(hpl:lp.a<=1000):
 aR ah 188 #[.d s.ay,.d d.ay,.b .a p,.a A n c] w (gY w (.b .a (uo (lp++l):Nat))):=by
 have HR:=ab hr;have hl:=ab hr.len;have HLP:=ab hlp;have HPL:=ab hpl;clear hr hlp hpl;have h0:=((Bx.start w).new s.ay 27).new d.ay 27;rw[show(w.alloc (.D s.ay 27)).a.j=w.a.j+1 by simp]at h0;have Z0:=ab h0;clear h0;obtain⟨r,hrr⟩:=cB (FM p l);rw[<-hrr]at hT;have CP:=ab (fun w1 (hr:gG w1 w1.a.j A n l)=>adP w1 p A n c l (by omega) hr);unfold PtP at CP;rw[<-hrr]at CP;clear hrr;obtain⟨k,er⟩:=r;simp only at hT CP;go_enter Tryz.func188,Tryz.ntmps188;go_upto_region 1 with fail
 generalize(w.alloc (.D s.ay 27)).alloc (.D d.ay 27)=w0 at Z0 ⊢;go_upto_region 2 with(go_at_call 227;(with_reducible refine(CP.i _ (Z0.i.Oh HR.i)).g ?_);rintro e w1 ⟨rfl,hb1⟩;have Z1:=ab ((Z0.i.go hb1).new k.ay 172);clear hb1)
 generalize w1.alloc (.D k.ay 172)=w2 at Z1 ⊢;generalize w1.a.j=y at Z1 ⊢;have KS:=ab (fun(W':ak) (h:Bx [(y,k.ay),(w.a.j+1,d.ay),(w.a.j,s.ay)] w W')=>show W'.b ⟨y,4,none⟩=some (.b .a n)/\(sw (.c (some ⟨w.a.j,0,none⟩))).O ah W'=.ok (.d s.ay) W'/\(sw (.c (some ⟨w.a.j+1,0,none⟩))).O ah W'=.ok (.d d.ay) W' by
  refine⟨by rw[h.Z.R.1 4,Pt.vX,hT],?_,?_⟩
  ·obtain⟨x1,x2,x3,x4⟩:=h.b2.R;go_simp
  ·obtain⟨x1,x2,x3,x4⟩:=h.b1.R;go_simp)
 have CS:=ab (fun W'=>XH s d p n hp hnn W');rw[HLP.i]at CS;unfold Le at CS;have i1:(0:Int)<=n:=by omega
 have i2:(n:Int)<=c:=by omega
 have i3:n<=c:=hnc;clear hT;go_region_held_law (fun W'=>W'.b ⟨y,4,none⟩=some (.b .a n)/\(sw (.c (some ⟨w.a.j,0,none⟩))).O ah W'=.ok (.d s.ay) W'/\(sw (.c (some ⟨w.a.j+1,0,none⟩))).O ah W'=.ok (.d d.ay) W')
  (first|exact KS.i _ Z1.i.drew|exact KS.i _ Z6.i|exact KS.i _ Z8.i|go_keep)
  (first
  | (go_at_call 259;(with_reducible refine(CS.i _).g ?_);rintro e w6 ⟨A6,n6,c6,rfl,hn6,ho6,hb6⟩;have Z6:=ab (Z1.i.drew.go hb6);have P6:=ab (Ow.jh ho6 hb6.j);have R6:=ab (Z6.i.Oh HR.i);have LN:=ab (show lp.a+n<=1000000000 by have:=HPL.i;omega);have HB6:=ab (show w.a.j<=w2.a.j from Z1.i.X.j);clear hn6 ho6 hb6)
  | (refine NQ (o:=⟨some 28,_,_,_,_,_⟩) rfl (.a 23) (.a 27) rfl (.a A6 n6 c6) A n c rfl P6.i rfl R6.i LN.i ?_;intro A8 n8 c8 w8 h8 h9;have O8:=ab h8;have Z8:=ab (Z6.i.ow h9 (fun p hp=>fE ((Z1.i.drew.2 p hp).2.lt) (av _)) HB6.i);clear h8 h9))
 go_upto_region 3 with fail
 have R8:=ab O8.i.rd;have CU:=ab (V9 w8 A8 n8 c8 (lp++l) (by have h1:=R8.i.len;have:=HPL.i;have:=hl.i;rw[aQ]at h1;omega) R8.i);go_wp2_with (go_at_call 186;(with_reducible refine CU.i.g ?_);rintro e w9 ⟨rfl,hb9⟩;have HB9:=ab hb9;clear hb9);go_ret;exact⟨rfl,Z8.i.X.trans (HB9.i.g Z8.i.X.j)⟩
def yx(l:List UInt8):List UInt8:=(l.set 16 0).set 17 0
def Xf(s d:fD)(l:List UInt8):List UInt8:=((yx l).set 16 (aJ (uo (psB s d 6 l.a++yx l)/256))).set 17 (aJ (uo (psB s d 6 l.a++yx l)%256))
theorem akT(w:ak):aR ah 187 #[.b .a 6] w fun e w'=>e=.a (.b .a 16)/\w=w':=by
 go_enter Tryz.func187,Tryz.ntmps187;go_wp2;go_ret;exact⟨rfl,rfl⟩
theorem ab4(s d:fD)(w:ak)(A:Option aV)(n c:Nat)(l:List UInt8)(h18:18<=n)(hnn:n<=65535)(hr:gG w w.a.j A n l)(hT:(FM 6 (yx l)).1.bR=(n:Int)):
 aR ah 107 #[.d s.ay,.d d.ay,.b .a 6,.a A n c] w (Le w (Xf s d l)):=by
 have HR:=ab hr;have hl:=ab hr.len;have HT:=ab hT;have HP:=ab (show Xf s d l=((yx l).set 16 (aJ (uo (psB s d 6 l.a++yx l)/256))).set 17 (aJ (uo (psB s d 6 l.a++yx l)%256))from rfl);clear hr hT;have h0:=((Bx.start w).new s.ay 27).new d.ay 27;rw[show(w.alloc (.D s.ay 27)).a.j=w.a.j+1 by simp]at h0;have Z0:=ab h0;clear h0;go_enter Tryz.func107,Tryz.ntmps107;go_upto_region 1 with fail
 generalize(w.alloc (.D s.ay 27)).alloc (.D d.ay 27)=w0 at Z0 ⊢;have L0:=ab (((Ly.am9 w w0 Z0.i.X #[] [] 0 rfl (by omega) rfl).add (q:=w.a.j) (c:=s.ay) (Z0.i.b1.alloc _) (by have:=Z0.i.b1.lt;simp[j6];omega)).add (q:=w.a.j+1) (c:=d.ay) (Z0.i.Z.alloc _) (by have:=Z0.i.Z.lt;simp[j6];omega));have R0:=ab ((Z0.i.Oh HR.i).Y ((aG w0.a.j w0).alloc (av _) (.D #[] 5)));have H0:=ab (show([]:List UInt8).a+n<=1000000000 by simp;omega);go_upto_region 2 with(at_builtin;refine kJ rfl (.a 12) (.a 13) rfl rfl L0.i.o rfl R0.i H0.i ?_;intro A1 n1 c1 w1 h2 h3;have L1:=ab (L0.i.step h3);clear h2 h3)
 rw[dJ]at L1;go_upto_region 3 with(go_at_call 187;(with_reducible refine(akT _).g ?_);rintro e w2 ⟨rfl,rfl⟩)
 obtain⟨hm1,hm2,g,rfl,k1,k2⟩:=L1.i.at0 (by rw[hl.i];omega);rw[hl.i]at hm1;have HM:=ab hm1;have m1:(16:Int)<n1:=by omega
 have m2:(17:Int)<n1:=by omega
 have k16:=k1 16 (by rw[hl.i];omega);have M2:=ab (L1.i.agh 16 0);rw[show bv 0=.b .b 0 from rfl]at M2;clear k1 hm1 hm2 L0 R0 H0;go_upto_region 4 with fail
 generalize w1.I ⟨g,16,none⟩ (.b .b 0)=w3 at *;obtain⟨-,-,g',eg,k3,k4⟩:=M2.i.at0 (by rw[aS,hl.i];omega);injection eg with eg
 injection eg with eg
 subst eg;have k17:=k3 17 (by rw[aS,hl.i];omega);have M3:=ab (M2.i.agh 17 0);rw[show bv 0=.b .b 0 from rfl]at M3;clear k3 k2 k16;go_upto_region 5 with fail
 generalize w3.I ⟨g,17,none⟩ (.b .b 0)=w4 at *;clear k4 k17 M2 L1;have M3:=ab (show Ly w.a.j [(w.a.j+1,d.ay),(w.a.j,s.ay)] w w4 (.a (some ⟨g,0,none⟩) n1 c1) (yx l)from M3.i);have HZL:=ab (show(yx l).a=n by unfold yx;rw[aS,aS,hl.i]);obtain⟨zl,hzl⟩:∃z,z=yx l:=⟨_,rfl⟩
 obtain⟨lp,hlp⟩:∃z,psB s d 6 n=z:=⟨_,rfl⟩
 rw[hl.i]at HP;rw[<-hzl]at M3 HZL HT HP;rw[hlp]at HP;have CQ:=ab (aeI s d 6 (by omega) w4 (some ⟨g,0,none⟩) n1 c1 zl (by rw[HM.i];omega) (by have:=M3.i.at0 (by rw[HZL.i];omega);exact this.2.1) (Ec M3.i.o (aG _ _)) (by rw[HM.i];exact HT.i) lp (by rw[HM.i];exact hlp) (by rw[<-hlp];have:=aqC s d 6 n;omega));rw[show((6:Nat):Int)=6 from rfl]at CQ;clear hzl hlp HT;have HSL:=ab (show uo (lp++zl)<=65535 by unfold uo;omega);generalize uo (lp++zl)=z at *;have z0:(0:Int)<=z:=by omega
 have z1:(z:Int)<=65535:=by have:=HSL.i;omega
 obtain⟨x1,x2,x3,x4⟩:=M3.i.b1.R;obtain⟨y1,y2,y3,y4⟩:=M3.i.Z.R;go_upto_region 6 with(go_at_call 188;(with_reducible refine CQ.i.g ?_);rintro e w6 ⟨rfl,hb⟩;have M4:=ab (M3.i.go hb);clear hb)
 clear x1 x2 x3 x4 y1 y2 y3 y4;obtain⟨hm1,hm2,g',eg,k1,k2⟩:=M4.i.at0 (by rw[HZL.i];omega);injection eg with eg
 injection eg with eg
 subst eg;have k16:=k1 16 (by rw[HZL.i];omega);have M5:=ab (M4.i.agh 16 (aJ (z/256)));have e1:((aJ (z/256)).e:Int)=(z:Int)/256:=by rw[zZ _ (by have:=HSL.i;omega)];omega
 unfold bv at M5;rw[e1]at M5;clear k1 e1 hm1 hm2;obtain⟨bz,hbz⟩:∃b,((z:Int)==0)=b:=⟨_,rfl⟩
 cases bz
 all_goals
  go_upto_region 8 with fail
  go_upto_region 9 with fail
  generalize w6.I ⟨g,16,none⟩ (.b .b ((z:Int)/256))=w7 at *;obtain⟨-,-,g',eg,k3,k4⟩:=M5.i.at0 (by rw[aS,HZL.i];omega);injection eg with eg
  injection eg with eg
  subst eg;have k17:=k3 17 (by rw[aS,HZL.i];omega);have M6:=ab (M5.i.agh 17 (aJ (z%256)));have e2:((aJ (z%256)).e:Int)=(z:Int)%256:=by rw[zZ _ (by omega)];omega
  unfold bv at M6;rw[e2]at M6;clear k3 e2 k2 k16;go_wp2;go_ret;rw[<-HP.i]at M6;have ho:=M6.i.o;obtain⟨A9,c9,e9⟩:=ho.DT;injection e9 with e9 e10 e11
  subst e10;exact⟨_,_,_,rfl,rfl,ho.vM,ho.X⟩
def ab5(t:Tu)(load:List UInt8):List UInt8:=[aJ (t.kg.e/256),aJ (t.kg.e%256),aJ (t.iG.e/256),aJ (t.iG.e%256)]++[0,0,0,0,0,0,0,0,80,2,0,0,0,0,0,0]++load
def aAE(t:Tu)(n:Nat):Fo:=⟨20,20+(n:Int),0,0,false,true,64,6,t.h,t.dst⟩
def mk6(t:Tu)(load:List UInt8):List UInt8:=oF (bG 6 0) (bG 6 0) [] 2048++lS (aAE t (ab5 t load).a)++Xf t.h t.dst (ab5 t load)
@[go_sem]theorem ath(w:ak)(b:Int):(Dk 16 #[(0,.b .b 0),(1,.b .b 0),(2,.b .b 0),(3,.b .b 0),(4,.b .b 0),(5,.b .b 0),(6,.b .b 0),(7,.b .b 0),(8,.b .b 80),(9,.b .b b),(10,.b .b 0),(11,.b .b 0),(12,.b .b 0),(13,.b .b 0),(14,.b .b 0),(15,.b .b 0)]).O ah w=.ok (.a (some ⟨w.a.j,0,none⟩) 16 16) (w.alloc (.D #[.b .b 0,.b .b 0,.b .b 0,.b .b 0,.b .b 0,.b .b 0,.b .b 0,.b .b 0,.b .b 80,.b .b b,.b .b 0,.b .b 0,.b .b 0,.b .b 0,.b .b 0,.b .b 0] 5)):=by
 obtain⟨i0,hi0,hz0,hz1,hz2⟩:=Av;have hr:mK 16 = #[0,1,2,3,4,5,6,7,8,9,10,11,12,13,14,15]:=by apply Array.ext';rw[Array.toList_range];rfl
 simp[Dk,bJ,dK dD,zeroValue,sizeOf,typeInfo,hi0,hz0,hz1,fJ,newRow,dz,hr]
theorem OX(t:Tu)(h6:t.h.h=false)(hp:t.aN=6)(s0:0<=t.kg)(s1:t.kg<=65535)(d0:0<=t.iG)(d1:t.iG<=65535)(w:ak)(A:Option aV)(m c:Nat)(load:List UInt8)(hm:m<=1000)(hr:gG w w.a.j A m load)(hT:(FM 6 (yx (ab5 t load))).1.bR=((20+m:Nat):Int)):
 aR ah 40 #[.d qG.ay,.d t.ay,.b .a 2,.a A m c] w (Le w (mk6 t load)):=by
 have HR:=ab hr;have hl:=ab hr.len;have HT:=ab hT;have HM:=ab (show mk6 t load=oF (bG 6 0) (bG 6 0) [] 2048++lS (aAE t (ab5 t load).a)++Xf t.h t.dst (ab5 t load)from rfl);have HSB:=ab (show ab5 t load=[aJ (t.kg.e/256),aJ (t.kg.e%256),aJ (t.iG.e/256),aJ (t.iG.e%256)]++[0,0,0,0,0,0,0,0,80,2,0,0,0,0,0,0]++load from rfl);clear hr hT;have h0:=((Bx.start w).new qG.ay 108).new t.ay 81;rw[show(w.alloc (.D qG.ay 108)).a.j=w.a.j+1 by simp]at h0;have Z0:=ab h0;clear h0;have hty:agi qG t=Lc.mk (bG 6 0) (bG 6 0) none 0 0 2048 0:=by unfold agi qG;rw[h6];rfl
 have CT:=ab (fun w1=>abu qG t w1);rw[hty]at CT;have CP:=ab (fun w1=>Wo (Lc.mk (bG 6 0) (bG 6 0) none 0 0 2048 0) [] (by simp) (by simp) (by simp) (by simp) w1 (iT.nil _ _));unfold Le at CP;obtain⟨lb,hlb⟩:∃l,l=oF (bG 6 0) (bG 6 0) [] 2048:=⟨_,rfl⟩
 have LB:=ab (show lb.a<=100 by rw[hlb];simp[oF,oV]);simp only at CP;rw[<-hlb]at CP HM;clear hlb hty;go_enter Tryz.func40,Tryz.ntmps40;go_upto_region 1 with fail
 generalize(w.alloc (.D qG.ay 108)).alloc (.D t.ay 81)=w0 at Z0 ⊢;obtain⟨x1,x2,x3,x4⟩:=Z0.i.b1.R;obtain⟨y1,y2,y3,y4⟩:=Z0.i.Z.R;go_upto_region 2 with(first
  | (go_at_call 104;(with_reducible refine(CT.i _).g ?_);rintro e w1 ⟨rfl,hb1⟩;have Z1:=ab (Z0.i.go hb1);clear hb1)
  | (go_at_call 103;(with_reducible refine(CP.i _).g ?_);rintro e w2 ⟨A2,n2,c2,rfl,hn2,ho2,hb2⟩;have Z2:=ab (Z1.i.go hb2);have O2:=ab ho2;have N2:=ab hn2;have S2:=ab hb2.j;have S1:=ab Z1.i.X.j;clear hb2 ho2 hn2))
 clear x1 x2 x3 x4 y1 y2 y3 y4;obtain⟨y1,y2,y3,y4⟩:=Z2.i.Z.R;have b34:=Tu.Qc t;rw[hp]at b34;have b35:=Tu.afN t;have b36:=Tu.Qd t;have b0:t.ay[0]? = some (.e false):=by rw[<-h6];exact Tu.qW t
 obtain⟨sp,hsp⟩:∃k,k=t.kg:=⟨_,rfl⟩
 obtain⟨dp,hdp⟩:∃k,k=t.iG:=⟨_,rfl⟩
 rw[<-hsp]at b35 s0 s1 HSB;rw[<-hdp]at b36 d0 d1 HSB;clear hsp hdp hp h6;have B0:=ab (((Ly.am9 w2 w2 (aG _ _) #[.b .b (sp/256),.b .b (sp%256),.b .b (dp/256),.b .b (dp%256)] [aJ (sp.e/256),aJ (sp.e%256),aJ (dp.e/256),aJ (dp.e%256)] 4 rfl (by omega) (by
  obtain⟨e1,e2⟩:=Wn sp s0 s1;obtain⟨e3,e4⟩:=Wn dp d0 d1;simp only[kV,List.map_nil,bv];rw[e1,e2,e3,e4])).add (q:=w.a.j) (c:=qG.ay) (Z2.i.b1.alloc _) (by have:=Z2.i.b1.lt;simp[j6];omega)).add (q:=w.a.j+1) (c:=t.ay) (Z2.i.Z.alloc _) (by have:=Z2.i.Z.lt;simp[j6];omega))
 go_upto_region 3 with fail
 have O3:=ab (wJ O2.i (.D #[.b .b (sp/256),.b .b (sp%256),.b .b (dp/256),.b .b (dp%256)] 5));have S3:=ab (show w2.a.j<(w2.alloc (.D #[.b .b (sp/256),.b .b (sp%256),.b .b (dp/256),.b .b (dp%256)] 5)).a.j by simp);have F3:=ab (show aM w2.a.j w2 (w2.alloc (.D #[.b .b (sp/256),.b .b (sp%256),.b .b (dp/256),.b .b (dp%256)] 5))from(aG _ _).alloc (av _) _);generalize w2.alloc (.D #[.b .b (sp/256),.b .b (sp%256),.b .b (dp/256),.b .b (dp%256)] 5)=w3 at B0 O3 S3 F3 ⊢;clear y1 y2 y3 y4;obtain⟨y1,y2,y3,y4⟩:=B0.i.Z.R;have B1:=ab (B0.i.alloc (.D #[.b .b 0,.b .b 0,.b .b 0,.b .b 0,.b .b 0,.b .b 0,.b .b 0,.b .b 0,.b .b 80,.b .b 2,.b .b 0,.b .b 0,.b .b 0,.b .b 0,.b .b 0,.b .b 0] 5));have R1:=ab (Wh w3 #[.b .b 0,.b .b 0,.b .b 0,.b .b 0,.b .b 0,.b .b 0,.b .b 0,.b .b 0,.b .b 80,.b .b 2,.b .b 0,.b .b 0,.b .b 0,.b .b 0,.b .b 0,.b .b 0] [0,0,0,0,0,0,0,0,80,2,0,0,0,0,0,0] rfl);have L1:=ab (show([aJ (sp.e/256),aJ (sp.e%256),aJ (dp.e/256),aJ (dp.e%256)]:List UInt8).a+16<=1000000000 by simp);go_upto_region 7 with(at_builtin;refine kJ rfl (.a 48) (.a 51) rfl rfl B1.i.o rfl R1.i L1.i ?_;intro A4 n4 c4 w4 h2 h3;have B4:=ab (B1.i.step h3);clear h2 h3)
 clear y1 y2 y3 y4 B1 R1 L1;have BW:=ab (Z2.i.X.trans (B4.i.o.X.g Z2.i.X.j));have R4:=ab (HR.i.upon BW.i);have L4:=ab (show(([aJ (sp.e/256),aJ (sp.e%256),aJ (dp.e/256),aJ (dp.e%256)]:List UInt8)++[0,0,0,0,0,0,0,0,80,2,0,0,0,0,0,0]).a+m<=1000000000 by simp;omega);go_upto_region 8 with(at_builtin;refine kJ rfl (.a 53) (.a 54) rfl rfl B4.i.o rfl R4.i L4.i ?_;intro A5 n5 c5 w5 h2 h3;have B5:=ab (B4.i.step h3);clear h2 h3)
 obtain⟨sb,hsb⟩:∃l,l=ab5 t load:=⟨_,rfl⟩
 have SBL:=ab (show sb.a=20+m by rw[hsb,HSB.i];simp[hl.i];omega);rw[<-hsb]at HM HT HSB;rw[<-HSB.i]at B5;clear hsb HSB L4 R4 B4 BW;have N5:=ab (show n5=20+m by
  obtain⟨A9,c9,e9⟩:=B5.i.o.DT;injection e9 with e9 e10 e11
  rw[e10];exact SBL.i)
 have hn5:n5<=2000:=by have:=N5.i;omega
 have HM:=ab (show mk6 t load=lb++lS (Fo.mk 20 (20+(n5:Int)) 0 0 false true 64 6 t.h t.dst)++Xf t.h t.dst sb by rw[HM.i,SBL.i,N5.i];rfl);have O5:=ab (jH O2.i B5.i.o.X);have BW:=ab (Z2.i.X.trans (B5.i.o.X.g Z2.i.X.j));have CF:=ab (Wp (Fo.mk 20 (20+(n5:Int)) 0 0 false true 64 6 t.h t.dst) (by simp) (by simp) (by simp;omega) (by simp;omega) (by simp) (by simp) (by simp) (by simp) (by simp) (by simp) w5);unfold Le at CF;obtain⟨fb,hfb⟩:∃l,l=lS (Fo.mk 20 (20+(n5:Int)) 0 0 false true 64 6 t.h t.dst):=⟨_,rfl⟩
 have LF:=ab (show fb.a=20 by rw[hfb,MI]);rw[<-hfb]at CF HM;clear hfb;have S5:=ab B5.i.o.X.j;obtain⟨y1,y2,y3,y4⟩:=B5.i.Z.R;go_upto_region 11 with(first
  | (go_at_call 106;(with_reducible refine CF.i.g ?_);rintro e w6 ⟨A6,n6,c6,rfl,hn6,ho6,hb6⟩;have B6:=ab (B5.i.go hb6);have R6:=ab (gG.jh ho6);have P6:=ab (Ow.jh (jH O5.i hb6) (by have:=S1.i;have:=S2.i;have:=S5.i;have:=hb6.j;omega));have LN:=ab (show lb.a+n6<=1000000000 by have:=LB.i;have:=LF.i;omega);have W6:=ab (BW.i.trans (hb6.g BW.i.j));have O6:=ab (jH O5.i hb6);clear hn6 ho6 hb6)
  | (at_builtin;refine kJ rfl (.a 72) (.a 83) rfl rfl P6.i rfl R6.i LN.i ?_;intro A7 n7 c7 w7 h8 h9;have O7:=ab h8;clear h8 h9))
 clear y1 y2 y3 y4;have FA:=ab (lM O2.i);have F7:=ab (show jP (xG A2) w6 w7 from jP.Vq O7.i.gr (fun k hk=>.b (by
  cases A2 with
  | none=>cases hk
  | some a=>exact Eh.2 ⟨a,rfl,by simpa[j6]using hk⟩)))
 have FB:=ab (fun b (hb:b∈xG A5)=>show b∉xG A2 from fun h=>by
  have h1:=FA.i b h;have h2:=lM (by have:=B6.i.o.vM;rw[SBL.i,<-N5.i]at this;exact this) b hb;omega)
 have R7:=ab (show gG w7 w7.a.j A5 n5 sb from Uj (Ec B6.i.o (aG _ _)) (av _) F7.i FB.i);have X7:=ab (F7.i.box B6.i.Z (fun h=>by have h1:=FA.i _ h;have:=Z0.i.Z.lt;have:=S1.i;have h3:=Z1.i.Z.lt;omega));have CL:=ab (ab4 t.h t.dst w7 A5 n5 c5 sb (by have:=N5.i;omega) (by omega) R7.i (by rw[HT.i,N5.i]));unfold Le at CL;obtain⟨lf,hlf⟩:∃l,l=Xf t.h t.dst sb:=⟨_,rfl⟩
 have LL:=ab (show lf.a<=2000 by rw[hlf];unfold Xf yx;simp only[aS];have:=SBL.i;omega);rw[<-hlf]at CL HM;clear hlf;obtain⟨y1,y2,y3,y4⟩:=X7.i.R;go_wp2_with (first
  | (go_at_call 107;(with_reducible refine CL.i.g ?_);rintro e w8 ⟨A8,n8,c8,rfl,hn8,ho8,Tm⟩;have R8:=ab (gG.jh ho8);have P8:=ab (O7.i.go Tm);have LN:=ab (show(lb++fb).a+n8<=1000000000 by rw[aQ];have:=LB.i;have:=LF.i;have:=LL.i;omega);clear hn8 ho8 Tm)
  | (at_builtin;refine kJ rfl (.a 85) (.a 93) rfl rfl P8.i rfl R8.i LN.i ?_;intro A9 n9 c9 w9 h8 h9;have O9:=ab h8;clear h8 h9))
 go_ret;rw[HM.i];have ho:=O9.i;obtain⟨A',c',e9⟩:=j3 ho.vM;obtain⟨e9,_⟩:=e9;injection e9 with e9 e10 e11
 refine⟨_,_,_,rfl,e10,?_,W6.i.trans (ho.Y.g (by have:=S1.i;omega))⟩;have h:=iU ho.vM (show w.a.j<=w1.a.j by have:=S1.i;omega);rw[<-e10]at h;exact h
def Li(b:Nat):Cn:={aoF with qF:=some ⟨b,0,none⟩,gT:=1,qX:=1}
theorem arR(w:ak)(fs:Array oz)(h:ah.underlying 27=some (.struct fs)):(iI (fun f=>Prod.mk f.offset <$> sizeOf f.p) fs:Sem (Array (Nat×Nat))).O ah w=.ok #[(0,1),(1,16)] w:=by
 have e:=fG;rw[h]at e;cases e;show _=_
 kernel_rfl
theorem arS(W:ak):(vK 27 #[(1,.d #[aI aX 5,aI aX 6,aI aX 7,aI aX 8,aI aX 0,aI aX 0,aI aX 0,aI aX 0,aI aX 0,aI aX 0,aI aX 0,aI aX 0,aI aX 0,aI aX 0,aI aX 0,aI aX 0])]).O ah W=.ok (.d (wE [5,6,7,8]).ay) W:=aa0.bd W _ _ _ _ fG (arR W _ fG) (by kernel_rfl)
theorem arT(W:ak):(vK 27 #[(1,.d #[aI aX 1,aI aX 2,aI aX 3,aI aX 4,aI aX 0,aI aX 0,aI aX 0,aI aX 0,aI aX 0,aI aX 0,aI aX 0,aI aX 0,aI aX 0,aI aX 0,aI aX 0,aI aX 0])]).O ah W=.ok (.d (wE [1,2,3,4]).ay) W:=aa0.bd W _ _ _ _ fG (arR W _ fG) (by kernel_rfl)
theorem arU(W:ak):(vK 27 #[(1,.d #[aI aX 10,aI aX 0,aI aX 0,aI aX 9,aI aX 0,aI aX 0,aI aX 0,aI aX 0,aI aX 0,aI aX 0,aI aX 0,aI aX 0,aI aX 0,aI aX 0,aI aX 0,aI aX 0])]).O ah W=.ok (.d (wE [10,0,0,9]).ay) W:=aa0.bd W _ _ _ _ fG (arR W _ fG) (by kernel_rfl)
def ati(n:Nat)(ps:Array (Nat×aB)):Sem aB:=bJ 23 n ps
@[go_sem ↓]theorem aAG(n:Nat)(ps:Array (Nat×aB)):bJ 23 n ps=ati n ps:=rfl
@[go_sem]theorem awj(W:ak)(v:Vp):(ati 1 #[(0,.d v.ay)]).O ah W=.ok (.a (some ⟨W.a.j,0,none⟩) 1 1) (W.alloc (.D v.ay 98)):=by
 obtain⟨i0,hi0,hz0,hz1,hzb⟩:=aou;exact sM W _ _ i0 (.d mJ.ay) 20 Gm hi0 hz0 hz1 (Vp.J mJ) (by omega) (by omega) v.ay (Vp.J v)
theorem aAH(W:ak):(vK 98 #[(0,.d (wE [5,6,7,8]).ay),(1,.b .a 6),(2,.b .a 80)]).O ah W=.ok (.d IQ.ay) W:=kVp.bd W _ _ _ _ tu (ayw W _ tu) (by kernel_rfl)
theorem aAI(W:ak):(vK 27 #[(0,.e true)]).O ah W=.ok (.d (fD.mk true (bG 16 0)).ay) W:=aa0.bd W _ _ _ _ fG (arR W _ fG) (by kernel_rfl)
theorem Cn.aoH(x:Cn)(v:Int):x.ay.c 1 (.b .a v)=({x with j:=v}:Cn).ay:=by simp[Cn.ay,aL,fD.J,gH,jR]
theorem Cn.aoI(x:Cn)(v:Int):x.ay.c 2 (.b .a v)=({x with dV:=v}:Cn).ay:=by simp[Cn.ay,aL,fD.J,gH,jR]
theorem Cn.aoJ(x:Cn)(v:Int):x.ay.c 9 (.b .a v)=({x with kI:=v}:Cn).ay:=by simp[Cn.ay,aL,fD.J,gH,jR]
theorem Cn.aoK(x:Cn)(v:Int):x.ay.c 10 (.b .a v)=({x with fall:=v}:Cn).ay:=by simp[Cn.ay,aL,fD.J,gH,jR]
theorem Cn.aoL(x:Cn)(v:Int):x.ay.c 51 (.b .a v)=({x with aa1:=v}:Cn).ay:=by simp[Cn.ay,aL,fD.J,gH,jR]
theorem Cn.aoM(x:Cn)(v:Int):x.ay.c 52 (.b .a v)=({x with keep:=v}:Cn).ay:=by simp[Cn.ay,aL,fD.J,gH,jR]
theorem Cn.akU(x:Cn)(v:Int):x.ay.c 53 (.b .a v)=({x with VL:=v}:Cn).ay:=by simp[Cn.ay,aL,fD.J,gH,jR]
theorem Cn.aoN(x:Cn)(v:Vector Int 6):tC x.ay 3 (K9 v)=({x with kK:=v}:Cn).ay:=by
 unfold Cn.ay;exact qH (by rw[jR,jR]) 3 rfl
theorem Cn.arV(x:Cn)(v:fD):tC x.ay 34 v.ay=({x with h:=v}:Cn).ay:=by
 unfold Cn.ay;have:=qH (p:=#[.a x.qF x.gT x.qX,.b .a x.j,.b .a x.dV]++K9 x.kK ++ #[.b .a x.kI,.b .a x.fall]++Bp x.xQ++x.Dl.ay) (q:=x.h.ay) (r:=#[.b .a x.aa1,.b .a x.keep,.b .a x.VL]) (v:=v.ay) (by rw[fD.J,fD.J]) 34 (by simp[fD.J,gH,jR]);simpa[gD]using this
def awk:Vector Int 6:=EP fun i=>if i.val=0 then 0 else 5
theorem aoO:K9 awk = #[aI bT 0,aI bT 5,aI bT 5,aI bT 5,aI bT 5,aI bT 5]:=by kernel_rfl
theorem aAJ(W:ak)(b:Nat):(vK 29 #[(0,.a (some ⟨b,0,none⟩) 1 1),(1,.b .a 7),(2,.b .a 9),(3,.d #[aI bT 0,aI bT 5,aI bT 5,aI bT 5,aI bT 5,aI bT 5]),(4,.b .a 1),(5,.b .a 1),(8,.d (fD.mk true (bG 16 0)).ay),(9,.b .a 1000),(10,.b .a 2),(11,.b .a 5)]).O ah W=.ok (.d (Li b).ay) W:=VO.bd W _ _ _ _ nO (aut W _ nO) (by
 rw[<-aoO];refine(iE rfl rfl (by rw[Cn.J];omega) (Cn.NY Qk _ _ _)).trans ?_;refine(iE rfl rfl (by rw[Cn.J];omega) (Cn.aoH _ _)).trans ?_;refine(iE rfl rfl (by rw[Cn.J];omega) (Cn.aoI _ _)).trans ?_;refine(uf rfl (jR _) (by rw[Cn.J];omega) (Cn.aoN _ _)).trans ?_;refine(iE rfl rfl (by rw[Cn.J];omega) (Cn.aoJ _ _)).trans ?_;refine(iE rfl rfl (by rw[Cn.J];omega) (Cn.aoK _ _)).trans ?_;refine(uf rfl (fD.J _) (by rw[Cn.J];omega) (Cn.arV _ _)).trans ?_;refine(iE rfl rfl (by rw[Cn.J];omega) (Cn.aoL _ _)).trans ?_;refine(iE rfl rfl (by rw[Cn.J];omega) (Cn.aoM _ _)).trans ?_;refine(iE rfl rfl (by rw[Cn.J];omega) (Cn.akU _ _)).trans ?_;rfl)
theorem aeJ(w:ak):aR ah 39 #[] w fun e w'=>∃b,e=.a (.d (Li b).ay)/\iT Vp.ay 20 w' w'.a.j (some ⟨b,0,none⟩) 1 [IQ]/\dP w' b IQ.ay/\w.a.j<=b/\aM w.a.j w w':=by
 have b1:=arS;have b2:=aAH;have b5:=aAI;have b6:=aAJ;obtain⟨V,hV⟩:=uP IQ;obtain⟨C,hC⟩:=uP Li;obtain⟨D,hD⟩:=uP (wE [5,6,7,8]);obtain⟨X6,hX⟩:∃D,(fD.mk true (bG 16 0))=D:=⟨_,rfl⟩
 rw[hV]at b2 ⊢;rw[hC]at b6 ⊢;rw[hD]at b1 b2;rw[hX]at b5 b6;clear hV hC hD hX;have Z0:=ab ((Bx.start w).new Qk.ay 29);go_enter Tryz.func39,Tryz.ntmps39;go_upto_region 1 with fail
 generalize w.alloc (.D Qk.ay 29)=w0 at Z0 ⊢;have Z1:=ab (Z0.i.new V.ay 98);go_upto_region 2 with fail
 generalize w0.alloc (.D V.ay 98)=w1 at Z1 ⊢;have NP:=ab (show w0.a.j≠w.a.j by have:=Z0.i.Z.lt;omega);have SZ1:=ab Z1.i.b1.lt;generalize w0.a.j=p at Z1 NP ⊢;have Z2:=ab (Z1.i.alloc (.D V.ay 98));have R2:=ab (iT.one V Vp.J w1 98);obtain⟨x1,x2,x3,x4⟩:=Z1.i.Z.R;have th:=Z2.i.b1.S 0 54 (aU (Cn.J Qk).symm);have Z3:=ab (Z2.i.swap.put (fun r hr=>by rw[fO.1 hr];exact NP.i) (C w1.a.j).ay (by rw[Cn.J,Cn.J]));have R3:=ab (R2.i.keep (zM _ w.a.j 0 (C w1.a.j).ay) (fun b hb=>by have:=SZ1.i;simp[xG]at hb;subst hb;simp;omega));go_wp2_with fail;refine aO (VO.Aj rfl _ rfl Z3.i.Z (Cn.J _)) rfl ?_;exact⟨_,rfl,R3.i,(zM _ w.a.j 0 (C w1.a.j).ay).box (dP.new w1 V.ay 98) (by have:=SZ1.i;simp;omega),by have:=SZ1.i;omega,Z3.i.X⟩
theorem kAt:pQ 66 34 qJ.ay:=⟨⟨_,mD,rfl⟩,by kernel_rfl,by kernel_rfl,At.J _⟩
theorem rJ.ab6(k:Int)(y:Bk)(s:List UInt8)(v:Nat):(rJ.mk k y s v).ay = #[.b .a k]++(y.ay ++ #[.g (bK s),fv v]):=by apply Ic.1;simp[rJ.ay]
theorem rJ.dx(x:rJ):x.ay.all (·.oneCell')=true:=by
 obtain⟨k,y,s,v⟩:=x;rw[rJ.ab6];exact iy (by simp[dA]) (iy (Bk.dx _) (by simp[dA,fv]))
theorem At.dx(x:At):x.ay.all (·.oneCell')=true:=iy (by simp[dA]) (iy (rJ.dx _) (by simp[dA]))
@[go_sem]theorem At.all(x:At):x.ay.extract 0 34=x.ay:=by have:=At.J x;rw[<-this];simp
@[go_sem ↓]theorem aMu(v:aB):Instr.loadAt 66 v=yU 66 v:=rfl
@[go_sem ↓]theorem aMv(v x:aB):eY 66 v x=zX 66 v x:=rfl
@[go_sem]theorem aAK(W:ak)(b o:Nat)(h:yE W b o 34):(yU 66 (.c (some ⟨b,o,none⟩))).O ah W=.ok (.d (eH W b o 34)) W:=kAt.ld W b o h
@[go_sem]theorem aFX(W:ak)(c:Array aB)(x:At)(b:Nat)(hb:b=W.a.j)(hc:eU c=34):(zX 66 (.c (some ⟨b,0,none⟩)) (.d x.ay)).O ah (W.alloc (.D c 66))=.ok () (W.alloc (.D x.ay 66)):=kAt.stN W c x.ay b hb hc (At.J x) (At.dx x)
@[go_sem ↓]theorem aMw(ps:Array (Nat×aB)):fU 66 ps=vK 66 ps:=rfl
theorem arW(w:ak)(fs:Array oz)(h:ah.underlying 66=some (.struct fs)):(iI (fun f=>Prod.mk f.offset <$> sizeOf f.p) fs:Sem (Array (Nat×Nat))).O ah w=.ok #[(0,1),(1,1),(2,30),(32,1),(33,1)] w:=by
 have e:=mD;rw[h]at e;cases e;show _=_
 kernel_rfl
theorem At.FQ(x:At)(v:Int):x.ay.c 0 (.b .a v)=({x with kind:=v}:At).ay:=by simp[At.ay,aL]
theorem At.awl(x:At)(A:Option aV)(n c:Nat):x.ay.c 1 (.a A n c)=({x with Um:=A,IW:=n,Gc:=c}:At).ay:=by simp[At.ay,aL]
theorem At.aoP(x:At)(s:List UInt8):x.ay.c 32 (.g (bK s))=({x with F:=s}:At).ay:=by simp[At.ay,aL,rJ.J]
theorem At.awm(x:At)(v:rJ):tC x.ay 2 v.ay=({x with op:=v}:At).ay:=by
 unfold At.ay;exact qH (by rw[rJ.J,rJ.J]) 2 rfl
@[go_sem]theorem aFY(W:ak)(k:Int):(vK 66 #[(0,.b .a k)]).O ah W=.ok (.d ({qJ with kind:=k}:At).ay) W:=kAt.bd W _ _ _ _ mD (arW W _ mD) (by
 refine(iE rfl rfl (by rw[At.J];omega) (At.FQ qJ _)).trans ?_;rfl)
@[go_sem]theorem aFZ(W:ak)(k:Int)(A:Option aV)(n c:Nat):(vK 66 #[(0,.b .a k),(1,.a A n c)]).O ah W=.ok (.d ({qJ with kind:=k,Um:=A,IW:=n,Gc:=c}:At).ay) W:=kAt.bd W _ _ _ _ mD (arW W _ mD) (by
 refine(iE rfl rfl (by rw[At.J];omega) (At.FQ qJ _)).trans ?_;refine(iE rfl rfl (by rw[At.J];omega) (At.awl _ _ _ _)).trans ?_;rfl)
@[go_sem]theorem aF0(W:ak)(k:Int)(o:rJ):(vK 66 #[(0,.b .a k),(2,.d o.ay)]).O ah W=.ok (.d ({qJ with kind:=k,op:=o}:At).ay) W:=kAt.bd W _ _ _ _ mD (arW W _ mD) (by
 refine(iE rfl rfl (by rw[At.J];omega) (At.FQ qJ _)).trans ?_;refine(uf rfl (rJ.J _) (by rw[At.J];omega) (At.awm _ _)).trans ?_;rfl)
@[go_sem]theorem aF1(W:ak)(k:Int)(s:List UInt8):(vK 66 #[(0,.b .a k),(3,.g (bK s))]).O ah W=.ok (.d ({qJ with kind:=k,F:=s}:At).ay) W:=kAt.bd W _ _ _ _ mD (arW W _ mD) (by
 refine(iE rfl rfl (by rw[At.J];omega) (At.FQ qJ _)).trans ?_;refine(iE rfl rfl (by rw[At.J];omega) (At.aoP _ _)).trans ?_;rfl)
def ZI:rJ:=⟨0,jq,[],0⟩
theorem aF2:pQ 64 30 ZI.ay:=⟨⟨_,wG,rfl⟩,by kernel_rfl,by kernel_rfl,rJ.J _⟩
theorem aAL(w:ak)(fs:Array oz)(h:ah.underlying 64=some (.struct fs)):(iI (fun f=>Prod.mk f.offset <$> sizeOf f.p) fs:Sem (Array (Nat×Nat))).O ah w=.ok #[(0,1),(1,27),(28,1),(29,1)] w:=by
 have e:=wG;rw[h]at e;cases e;show _=_
 kernel_rfl
theorem aAM(W:ak):(ayd #[(0,.g ⟨#[97]⟩),(1,.d (wE [10,0,0,9]).ay),(2,.b .a 8080),(4,.float .f64 4607182418800017408)]).O ah W=.ok (.d akR.ay) W:=kBk.bd W _ _ _ _ oN (ajp W _ oN) (by kernel_rfl)
@[go_sem ↓]theorem aIu(ps:Array (Nat×aB)):fU 64 ps=vK 64 ps:=rfl
@[go_sem]theorem aCi(W:ak)(k:Int)(x:Bk):(vK 64 #[(0,.b .a k),(1,.d x.ay)]).O ah W=.ok (.d (rJ.mk k x [] 0).ay) W:=aF2.bd W _ _ _ _ wG (aAL W _ wG) (by
 refine(iE rfl rfl (by rw[rJ.J];omega) (show ZI.ay.c 0 (.b .a k)=({ZI with kind:=k}:rJ).ay by simp[rJ.ay,ZI])).trans ?_;refine(uf rfl (Bk.J _) (by rw[rJ.J];omega) (show tC ({ZI with kind:=k}:rJ).ay 1 x.ay=(rJ.mk k x [] 0).ay by
  have:=qH (p:=#[.b .a k]) (q:=jq.ay) (r:=#[.g (bK []),fv 0]) (v:=x.ay) (by rw[Bk.J,Bk.J]) 1 rfl;show tC (rJ.mk k jq [] 0).ay 1 x.ay=_;rw[rJ.ab6,rJ.ab6];exact this)).trans ?_
 rfl)
structure Aw(w0 W:ak)(q q2 g:Nat)(L:List (Nat×Array aB)):Prop where
 X:aM w0.a.j w0 W
 new:w0.a.j<=q/\w0.a.j<=q2/\w0.a.j<=g
 lt:q<W.a.j/\q2<W.a.j/\g<W.a.j
 J:∀p∈L,w0.a.j<=p.1/\p.1∉[q,q2,g]/\dP W p.1 p.2
section
variable {w0 W W':ak} {q q2 g:Nat} {L:List (Nat×Array aB)}
theorem Aw.go(h:Aw w0 W q q2 g L)(hb:aM W.a.j W W'):Aw w0 W' q q2 g L:=⟨h.X.trans (hb.g h.X.j),h.new,by have:=h.lt;have:=hb.j;omega,fun p hp=>⟨(h.J p hp).1,(h.J p hp).2.1,(h.J p hp).2.2.go hb⟩⟩
theorem Aw.step(h:Aw w0 W q q2 g L)(hf:jP [q,q2,g] W W'):Aw w0 W' q q2 g L:=⟨h.X.trans (hf.tX (fun b hb=>by have:=h.new;simp at hb;omega) h.X.j),h.new,by have:=h.lt;have:=hf.j;omega,fun p hp=>⟨(h.J p hp).1,(h.J p hp).2.1,hf.box (h.J p hp).2.2 (h.J p hp).2.1⟩⟩
theorem Aw.add(h:Aw w0 W q q2 g L)(c:Array aB)(t:bL):Aw w0 (W.alloc (.D c t)) q q2 g ((W.a.j,c)::L):=by
 have h1:=h.go ((aG W.a.j W).alloc (av _) (.D c t));refine⟨h1.X,h1.new,h1.lt,fun p hp=>?_⟩;rcases bD.1 hp with rfl|hp
 ·exact⟨h.X.j,by have:=h.lt;simp;omega,dP.new W c t⟩
 ·exact h1.J p hp
theorem Aw.box(h:Aw w0 W q q2 g L){p:Nat×Array aB}(hp:p∈L):dP W p.1 p.2:=(h.J p hp).2.2
def AwP(w0 W:ak)(q q2 g:Nat)(L:List (Nat×Array aB))(R:qE×Ou)(r:lJ)(W':ak):Prop:=
 ∃o x' sl',r=.a (.d (Oc.ay o))/\Aw w0 W' q q2 g L/\Ab W' q zT R.1 x' q2 g sl'/\OcR W' o R.2/\(∀b∈xG o.Lg,b∉[q,q2,g])/\jP [q,q2,g] W W'
theorem Cm{s:qE}{x:Eg}{sl:List (Option Fw)}{M:Int}(A:Aw w0 W q q2 g L)(h:Ab W q zT s x q2 g sl)(hi:og M zT s)(hM:M<1152921504606846976)(a:At)(u:Ac)(ha:AtR W a u)(hof:u.op.h.sD)(how:u.op.w<18446744073709551616)(R:qE×Ou)(hR:xO zT s u=R):
 aR ah 25 #[.c (some ⟨q,0,none⟩),.d a.ay] W (AwP w0 W q q2 g L R):=by
 subst hR;refine(Xc h hi hM a u ha hof how).g ?_;rintro r W' ⟨o,x',sl',rfl,hou,hE,_,_,hf⟩;exact⟨o,x',sl',rfl,A.step hf,hE,hou.rd,fun b hb=>by have:=(lM hou.vM b hb).1;have:=A.lt;simp;omega,hf⟩
theorem Ab.aF3{key:Vector UInt8 16}{c:Cn}{vs:List Vp}{s:qE}{x:Eg}{sl:List (Option Fw)}{A:Option aV}{n k:Nat}(h:Ab W q ⟨key,{c with qF:=A,gT:=n,qX:=k},vs⟩ s x q2 g sl):Ab W q ⟨key,c,vs⟩ s x q2 g sl:=
 ⟨⟨h.b.eg,h.b.key,h.b.cf,h.b.nP,h.b.vs,h.b.h,h.b.hl,h.b.fl,h.b.tb,h.b.rm,h.b.nq,h.b.IL,h.b.ig,h.b.no,h.b.mV⟩,h.dn,h.tt⟩
end
theorem aix(c:Cn)(vs:List Vp)(A:Option aV)(n k:Nat):zA {c with qF:=A,gT:=n,qX:=k} vs=zA c vs:=by unfold zA;rfl
theorem aeK(c:Cn)(vs:List Vp)(s:qE)(A:Option aV)(n k:Nat):Ap {c with qF:=A,gT:=n,qX:=k} vs s=Ap c vs s:=by unfold Ap Wu;rw[aix];rfl
theorem akV:zA Qk []=false:=by decide +kernel
theorem tK:jq.sD:=by unfold Bk.sD;simp[jq]
theorem aiy:akR.sD:=by unfold Bk.sD;simp[akR]
theorem aAN:mk6 (Tu.mk (wE [1,2,3,4]) (wE [5,6,7,8]) 6 1000 80) [104,105]=awF:=by decide +kernel
theorem awn:mk6 (Tu.mk (wE [1,2,3,4]) (wE [10,0,0,9]) 6 1000 8080) [104,105]=awW:=by decide +kernel
theorem awo:(FM 6 (yx (ab5 (Tu.mk (wE [1,2,3,4]) (wE [5,6,7,8]) 6 1000 80) [104,105]))).1.bR=((20+2:Nat):Int):=by decide +kernel
theorem arX:(FM 6 (yx (ab5 (Tu.mk (wE [1,2,3,4]) (wE [10,0,0,9]) 6 1000 8080) [104,105]))).1.bR=((20+2:Nat):Int):=by decide +kernel
theorem awp:jl (lZ 16 [1]) = #[aI aX 1,aI aX 0,aI aX 0,aI aX 0,aI aX 0,aI aX 0,aI aX 0,aI aX 0,aI aX 0,aI aX 0,aI aX 0,aI aX 0,aI aX 0,aI aX 0,aI aX 0,aI aX 0]:=by kernel_rfl
theorem atj:og 0 zT wT:=Qt _ atg
theorem atl:og 1 zT aw0.1:=wC atj acF tK (by decide)
theorem atm:og 2 zT aw1.1:=wC atl acA aiy (by decide)
theorem atn:og 3 zT aw2.1:=wC atm acF tK (by decide)
theorem ato:og 4 zT aw3.1:=wC atn acF tK (by decide)
theorem atp:og 5 zT aw4.1:=wC ato (acH [98]) tK (by decide)
theorem atq:og 6 zT aw5.1:=wC atp (acH [97]) tK (by decide)
theorem atr:og 7 zT aw6.1:=wC atq acF tK (by decide)
theorem att:og 8 zT aw7.1:=wC atr (acK 4) tK (by decide)
theorem atu:og 9 zT Uo.1:=wC att (acK 9) tK (by decide)
section
variable {w0 W W':ak} {q q2 g b b' p n B:Nat} {c c':Array aB} {A:Option aV} {l:List UInt8} {L L':List (Nat×Array aB)}
theorem dP.aAO(h:dP W b c)(k:dP W b c'):c=c':=by
 obtain⟨t,h⟩:=h;obtain⟨t',k⟩:=k;rw[h]at k;injection k with k
 injection k
theorem dP.ne(h:dP W b c)(k:dP W b' c')(hs:c.j≠c'.j):b≠b':=by
 rintro rfl;exact hs (by rw[h.aAO k])
theorem gG.far(h:gG W B A n l)(k:dP W p c)(hn:c.j<n):∀y∈xG A,y∉[p]:=by
 intro y hy hp;obtain⟨a,rfl,_,hc⟩:=gG.dW h (k:=n-1) (by omega);obtain⟨t,hk⟩:=k;simp[xG]at hy hp;subst hp;rw[hy]at hk;unfold World.cell? at hc;rw[show(a.add (n-1)).block=a.block by unfold rU;split<;>rfl,hk]at hc;simp only at hc;split at hc
 ·cases hc
 ·have h1:=(Array.getElem?_eq_some_iff.1 hc).1
  have h2:n-1<=(a.add (n-1)).off:=by
   unfold rU;split<;>simp<;>omega
  omega
theorem Aw.put(h:Aw w0 W q q2 g L)(hf:jP [p] W W')(hb:dP W' p c')(hc:(p,c)∈L)(hL:∀y∈L',y∈L/\y.2.j≠c.j):Aw w0 W' q q2 g ((p,c')::L'):=by
 refine⟨h.X.trans (hf.tX (fun y hy=>by rw[fO.1 hy];exact(h.J _ hc).1) h.X.j),h.new,by have:=h.lt;have:=hf.j;omega,fun y hy=>?_⟩;rcases bD.1 hy with rfl|hy
 ·exact⟨(h.J _ hc).1,(h.J _ hc).2.1,hb⟩
 ·obtain⟨h1,h2⟩:=hL y hy
  refine⟨(h.J _ h1).1,(h.J _ h1).2.1,hf.box (h.J _ h1).2.2 (fun e=>h2 ?_)⟩;rw[fO]at e;obtain⟨y1,y2⟩:=y;simp only at e;subst e;rw[dP.aAO (h.J _ h1).2.2 (h.J _ hc).2.2]
theorem iT.aAP{α:Type}{f:α->Array aB}{sz:Nat}{A:Option aV}{W W':ak}{B B':Nat}{l:List α}(h:iT f sz W B A n l)(hl:l.a=0):iT f sz W' B' A n l:=by
 have e:=bF hl;subst e;have h1:=h.1;have h2:=h.2.1.1;refine⟨h.1,⟨h2,fun hn=>?_⟩,fun a ha hn=>?_⟩
 ·simp at h1;omega
 ·simp at h1;omega
theorem iT.arY{α:Type}{f:α->Array aB}{sz:Nat}{x:α}{W:ak}{b:Nat}(h:dP W b (f x))(hs:(f x).j=sz):iT f sz W W.a.j (some ⟨b,0,none⟩) 1 [x]:=by
 refine⟨rfl,⟨by simp[hs],fun _=>⟨_,rfl,h.lt,fun j u hu=>?_⟩⟩,fun a ha _=>by injection ha with ha;subst ha;rfl⟩;rw[iL,bC,h.R.1];simpa[dH]using hu
structure TbQ(W:ak)(q:Nat)(x:Eg)(t:Tl):Prop where
 b:dP W q x.ay
 n:RdT W W.a.j x.tb.um x.tb.r9 t.h
 s:RdI W W.a.j x.tb.rG x.tb.qB t.vD
theorem TbQ.go{x:Eg}{t:Tl}(h:TbQ W q x t)(hb:aM W.a.j W W'):TbQ W' q x t:=⟨h.b.go hb,h.n.go hb,h.s.go hb⟩
end
@[go_sem]theorem ape(W:ak)(A1:Option aV)(n1 c1:Nat)(A2:Option aV)(n2 c2:Nat):(Instr.field 72 (.d (Tc.mk A1 n1 c1 A2 n2 c2).ay) 1).O ah W=.ok (.a A2 n2 c2) W:=by
 show _=_
 kernel_rfl
theorem aeL{W:ak}{b:Nat}{x:Sh}(h:dP W b x.ay):(afS (.c (some ⟨b,0,none⟩))).O ah W=.ok (.d x.ay) W:=kSh.nR h (Sh.J _)
theorem aF4:Uo.1.mV.a.b 8 0=2:=by decide +kernel
theorem awq:Uo.1.h.a<=9/\Uo.1.J.a<=9/\Uo.1.tQ.a<=9:=by decide +kernel
theorem aF5:Ap aoF [IQ] Uo.1=true:=by decide +kernel
theorem aAR:(Bj zT Uo.1).h.a=0:=by decide +kernel
@[go_sem]theorem awr:Obj.cells #[aI bT 0,Value.slice none 0 0,aI bT 0,iK {data:=#[]},bP false,aI aX 0,aI aX 0,aI aX 0,aI aX 0,aI aX 0,aI aX 0,aI aX 0,aI aX 0,aI aX 0,aI aX 0,aI aX 0,aI aX 0,aI aX 0,aI aX 0,aI aX 0,aI aX 0,aI bT 0,aI aX 0,aI aX 0,aI aX 0,aI aX 0,aI aX 0,aI aX 0,wO j5 0,bP false,iK {data:=#[]},wO j5 0,iK {data:=#[]},bP false] 66=Obj.cells qJ.ay 66:=by kernel_rfl
theorem gG.ku{W W' W2:ak}{A:Option aV}{n:Nat}{l:List UInt8}{F:List Nat}(h:gG W W.a.j A n l)(hf:jP F W W')(hn:∀b∈xG A,b∉F)(hb:aM W'.a.j W' W2):gG W2 W2.a.j A n l:=gG.upon (Uj h (av _) hf hn:gG W' W'.a.j A n l) hb
theorem OcR.all{W:ak}{o:Oc}{u:Ou}(h:OcR W o u):o.err=u.err/\o.jm=u.jm/\o.Bo=u.Bo/\o.nP=u.nP/\o.F=u.F:=⟨h.err,h.jm,h.Bo,h.nP,h.F⟩
theorem aoQ(w:ak)(c:Array aB)(l:List UInt8)(h:c.a=l.map bv)(m:Nat×Nat):gG (w.alloc (.D c 5 m)) (w.alloc (.D c 5 m)).a.j (some ⟨w.a.j,0,none⟩) l.a l:=by
 refine⟨by simp,fun _=>⟨_,rfl,by simp,fun j u hu=>?_⟩⟩;rw[iL,bC,cell_of_row _ _ _ _ _ _ (heap_alloc_new w (.D c 5 m)),<-hu,<-h,dH]
theorem atv(w:ak):(convert 56 56 (.a (some ⟨w.a.j,0,none⟩) 2 2)).O ah (w.alloc (.D #[.b .b 104,.b .b 105] 5))=.ok (.a (some ⟨w.a.j,0,none⟩) 2 2) (w.alloc (.D #[.b .b 104,.b .b 105] 5 (2,3))):=Lib.run_convert_bytes_const (P:=ah) w 56 5 #[.b .b 104,.b .b 105] 2 2 dD lX
theorem Bl(w:ak):aR ah 12 #[] w (gY w (.e true)):=by
 have CPL:=ab (aeJ w);have CN:=ab (fun(W:ak) (b:Nat) (hV:iT Vp.ay 20 W W.a.j (some ⟨b,0,none⟩) 1 [IQ])=>ZH (lZ 16 [1]) (Li b) [IQ] W hV (show 1<=1 by omega) (show 1<=100000 by omega) (by unfold Li;rw[aix];exact atg));have C0:=ab (fun(W:ak)=>aoB (lZ 16 [1]) Qk [] W (iT.nil _ _) (show 0<=0 by omega) (show 0<=100000 by omega) akV);have CM:=ab (fun(W:ak) (A:Option aV) (c:Nat) (hr:gG W W.a.j A 2 [104,105])=>OX (Tu.mk (wE [1,2,3,4]) (wE [5,6,7,8]) 6 1000 80) rfl rfl (by simp) (by simp) (by simp) (by simp) W A 2 c [104,105] (by omega) hr awo);have CM2:=ab (fun(W:ak) (A:Option aV) (c:Nat) (hr:gG W W.a.j A 2 [104,105])=>OX (Tu.mk (wE [1,2,3,4]) (wE [10,0,0,9]) 6 1000 8080) rfl rfl (by simp) (by simp) (by simp) (by simp) W A 2 c [104,105] (by omega) hr arX);have NF0:=ab (show awF.a=56 from rfl);obtain⟨FF,hFF⟩:∃x,awF=x:=⟨_,rfl⟩
 obtain⟨WW,hWW⟩:∃x,awW=x:=⟨_,rfl⟩
 have KX:=ab hFF;have HWW:=ab hWW;rw[aAN,hFF]at CM;rw[awn,hWW]at CM2;rw[hFF]at NF0;clear hFF hWW;rw[awp]at CN C0;have b1:=arT;have b9:=arU;have bk:=aAM;obtain⟨D1,hD1⟩:∃d,wE [1,2,3,4]=d:=⟨_,rfl⟩
 obtain⟨D9,hD9⟩:∃d,wE [10,0,0,9]=d:=⟨_,rfl⟩
 obtain⟨D5,hD5⟩:∃d,wE [5,6,7,8]=d:=⟨_,rfl⟩
 rw[hD1]at b1 CM CM2;rw[hD9]at b9 bk CM2;rw[hD5]at CM;have HV5:=ab (show IQ.ay.extract 0 17=D5.ay by rw[<-hD5];rfl);clear hD1 hD9 hD5;go_enter Tryz.func12,Tryz.ntmps12;go_upto_region 2 with(go_at_call 39;(with_reducible refine CPL.i.g ?_);rintro e w1 ⟨b,rfl,hv,hvb,hb0,hb⟩;have HV:=ab hv;have VB:=ab hvb;have HB0:=ab hb0;have Z1:=ab ((Bx.start w).go hb);clear hv hvb hb hb0)
 have Z2:=ab (Z1.i.new (Li b).ay 29);have V2:=ab (HV.i.go ((aG w1.a.j w1).alloc (av _) (.D (Li b).ay 29)));have VB2:=ab (VB.i.alloc (.D (Li b).ay 29));have SB:=ab VB.i.lt;generalize w1.alloc (.D (Li b).ay 29)=w2 at Z2 V2 VB2 ⊢;have HP1:=ab (show w.a.j<=w1.a.j from Z1.i.X.j);generalize w1.a.j=p1 at Z2 SB HP1 ⊢;clear CPL HV VB Z1;have l1:=VO.nR Z2.i.Z (Cn.J _);unfold OT at CN;go_upto_region 3 with(go_at_call 23;(with_reducible refine(CN.i _ b V2.i).g ?_);rintro e w3 ⟨q,x,q2,g,sl,rfl,hE,hb3,hq,hrw⟩;have E3:=ab (Ab.aF3 hE);have Z3:=ab (Z2.i.go hb3);have V3:=ab (V2.i.go hb3);have VB3:=ab (VB2.i.go hb3);have HQ:=ab hq;have S3:=ab hb3.j;clear hE hb3 hq hrw)
 clear l1;go_upto_region 4 with(go_at_call 23;(with_reducible refine(C0.i _).g ?_);rintro e w4 ⟨rfl,hb4⟩;have E4:=ab (E3.i.go hb4);have Z4:=ab (Z3.i.go hb4);have V4:=ab (V3.i.go hb4);have VB4:=ab (VB3.i.go hb4);have S4:=ab hb4.j;clear hb4)
 have A4:=ab (show Aw w w4 q q2 g [(p1,(Li b).ay),(b,IQ.ay)]from⟨Z4.i.X,by have:=HQ.i;have:=Z2.i.X.j;omega,E4.i.b.lt,fun p hp=>by
  have hq:=HQ.i;have h1:=Z2.i.Z.lt;have h2:=VB2.i.lt;have h3:=HP1.i;have h4:=HB0.i;simp at hp;rcases hp with rfl|rfl
  ·exact⟨h3,by simp;omega,Z4.i.Z⟩
  ·exact⟨h4,by simp;omega,VB4.i⟩⟩)
 clear Z2 Z3 Z4 V2 V3 VB2 VB3 VB4 E3 HB0 SB CN C0;go_upto_region 6 with fail
 have fv:=((A4.i.box (p:=(p1,(Li b).ay)) (by simp)).R.1 0).trans (Cn.Ed (Li b));change w4.b ⟨p1,0,none⟩=some (.a (some ⟨b,0,none⟩) 1 1)at fv;have la:=(A4.i.box (p:=(b,IQ.ay)) (by simp)).LU (o:=0) HV5.i (by rw[Vp.J];omega);go_upto_region 7 with fail
 have A5:=ab (A4.i.add (Tu.mk D1 D5 6 1000 80).ay 81);have E5:=ab (E4.i.go ((aG w4.a.j w4).alloc (av _) (.D (Tu.mk D1 D5 6 1000 80).ay 81)));generalize w4.alloc (.D (Tu.mk D1 D5 6 1000 80).ay 81)=w5 at A5 E5 ⊢;generalize w4.a.j=p6 at A5 ⊢;clear fv la A4 E4;have lt5:=qj (A5.i.box (p:=(p6,(Tu.mk D1 D5 6 1000 80).ay)) (by simp));have R5:=ab (aoQ w5 #[.b .b 104,.b .b 105] [104,105] rfl (2,3));have B5:=ab ((aG w5.a.j w5).alloc (av _) (.D #[.b .b 104,.b .b 105] 5 (2,3)));have kc:=atv;unfold Le at CM CM2;go_upto_region 8 with(go_at_call 40;(with_reducible refine(CM.i _ _ 2 R5.i).g ?_);rintro e w6 ⟨FA,fn,fc,rfl,hn,ho,hb⟩;have A6:=ab ((A5.i.go B5.i).go hb);have E6:=ab ((E5.i.go B5.i).go hb);have HN:=ab hn;have HO:=ab ho;clear hn ho hb)
 have RF:=ab (gG.jh HO.i);have NF:=ab (show∀k∈xG FA,k∉[q,q2,g]from fun k hk=>by have h1:=(lM HO.i k hk).1;have h2:=(A5.i.go B5.i).lt;simp;omega);have LF:=ab (show fn<=fc/\fc<=9223372036854775807/\fn<=1000000 by obtain⟨A9,c9,e9,l1,l2⟩:=j3 HO.i;injection e9 with e1 e2 e3;subst e3;refine⟨l1,by unfold maxLen at l2;omega,by have h3:=HN.i;have h4:=NF0.i;omega⟩);clear HN HO;have A7:=ab (A6.i.add ({qJ with kind:=1,Um:=FA,IW:=fn,Gc:=fc}:At).ay 66);have B7:=ab ((aG w6.a.j w6).alloc (av _) (.D ({qJ with kind:=1,Um:=FA,IW:=fn,Gc:=fc}:At).ay 66));have E7:=ab (E6.i.go B7.i);have R7:=ab (RF.i.upon B7.i);generalize w6.alloc (.D ({qJ with kind:=1,Um:=FA,IW:=fn,Gc:=fc}:At).ay 66)=w7 at A7 E7 R7 B7 ⊢;generalize w6.a.j=p7 at A7 ⊢;cases KX.i;clear A5 E5 R5 B5 A6 E6 RF B7 lt5 CM kc;obtain⟨fy1,fy2,fy3,fy4⟩:=(A7.i.box (p:=(p7,({qJ with kind:=1,Um:=FA,IW:=fn,Gc:=fc}:At).ay)) (by simp)).R;have CS:=ab (Cm A7.i E7.i atj (by omega) ({qJ with kind:=1,Um:=FA,IW:=fn,Gc:=fc}:At) acF ⟨rfl,R7.i,LF.i,rfl,rfl,rfl⟩ tK (by decide) aw0 rfl);unfold AwP at CS;go_upto_region 9 with(go_at_call 25;(with_reducible refine CS.i.g ?_);rintro r v0 ⟨o0,x0,sl0,rfl,h1,h2,h3,h4,h5⟩;have HA:=ab h1;have HE:=ab h2;have HO:=ab h3;have HN0:=ab h4;have HF:=ab h5;clear h1 h2 h3 h4 h5)
 have A8:=ab (HA.i.add o0.ay 58);have BB:=ab ((aG v0.a.j v0).alloc (av _) (.D o0.ay 58));have E8:=ab (HE.i.go BB.i);have R8:=ab (gG.ku R7.i HF.i NF.i BB.i);have O0:=ab (HO.i.go BB.i);generalize v0.alloc (.D o0.ay 58)=u0 at A8 E8 R8 O0 ⊢;generalize v0.a.j=p8 at A8 ⊢;have H0:=ab O0.i.all;clear CS HA HE HO HF BB A7 E7 R7 O0 fy1 fy2 fy3 fy4;have CS:=ab (Cm A8.i E8.i atl (by omega) ({qJ with kind:=2,op:=⟨1,akR,[],0⟩}:At) acA ⟨rfl,Ht _,⟨av _,jo _,jo _⟩,rfl,rfl,rfl⟩ aiy (by decide) aw1 rfl);unfold AwP at CS;obtain⟨BK,hBK⟩:∃x,akR=x:=⟨_,rfl⟩
 rw[hBK]at CS bk;clear hBK;go_upto_region 10 with(go_at_call 25;(with_reducible refine CS.i.g ?_);rintro r v1 ⟨o1,x1,sl1,rfl,h1,h2,h3,h4,h5⟩;have HA:=ab h1;have HE:=ab h2;have HO:=ab h3;have HN1:=ab h4;have HF:=ab h5;clear h1 h2 h3 h4 h5)
 have A9:=ab (HA.i.add o1.ay 58);have BB:=ab ((aG v1.a.j v1).alloc (av _) (.D o1.ay 58));have E9:=ab (HE.i.go BB.i);have R9:=ab (gG.ku R8.i HF.i NF.i BB.i);have O1:=ab (HO.i.go BB.i);generalize v1.alloc (.D o1.ay 58)=u1 at A9 E9 R9 O1 ⊢;generalize v1.a.j=p9 at A9 ⊢;have H1:=ab O1.i.all;clear CS HA HE HO HF BB A8 E8 R8 O1 bk;obtain⟨fy1,fy2,fy3,fy4⟩:=(A9.i.box (p:=(p7,({qJ with kind:=1,Um:=FA,IW:=fn,Gc:=fc}:At).ay)) (by simp)).R;have CS:=ab (Cm A9.i E9.i atm (by omega) ({qJ with kind:=1,Um:=FA,IW:=fn,Gc:=fc}:At) acF ⟨rfl,R9.i,LF.i,rfl,rfl,rfl⟩ tK (by decide) aw2 rfl);unfold AwP at CS;go_upto_region 11 with(go_at_call 25;(with_reducible refine CS.i.g ?_);rintro r v2 ⟨o2,x2,sl2,rfl,h1,h2,h3,h4,h5⟩;have HA:=ab h1;have HE:=ab h2;have HO:=ab h3;have Qx:=ab h4;have HF:=ab h5;clear h1 h2 h3 h4 h5)
 have A10:=ab (HA.i.add o2.ay 58);have BB:=ab ((aG v2.a.j v2).alloc (av _) (.D o2.ay 58));have E10:=ab (HE.i.go BB.i);have R10:=ab (gG.ku R9.i HF.i NF.i BB.i);have O2:=ab (HO.i.go BB.i);generalize v2.alloc (.D o2.ay 58)=u2 at A10 E10 R10 O2 ⊢;generalize v2.a.j=p10 at A10 ⊢;have H2:=ab O2.i.all;have Q10:=ab (show gG u2 u2.a.j o2.Lg o2.EM awW by have:=O2.i.i;rw[aoG]at this;exact this);clear CS HA HE HO HF BB A9 E9 R9 O2 fy1 fy2 fy3 fy4;obtain⟨fy1,fy2,fy3,fy4⟩:=(A10.i.box (p:=(p7,({qJ with kind:=1,Um:=FA,IW:=fn,Gc:=fc}:At).ay)) (by simp)).R;have CS:=ab (Cm A10.i E10.i atn (by omega) ({qJ with kind:=1,Um:=FA,IW:=fn,Gc:=fc}:At) acF ⟨rfl,R10.i,LF.i,rfl,rfl,rfl⟩ tK (by decide) aw3 rfl);unfold AwP at CS;go_upto_region 12 with(go_at_call 25;(with_reducible refine CS.i.g ?_);rintro r v3 ⟨o3,x3,sl3,rfl,h1,h2,h3,h4,h5⟩;have HA:=ab h1;have HE:=ab h2;have HO:=ab h3;have HN3:=ab h4;have HF:=ab h5;clear h1 h2 h3 h4 h5)
 have A11:=ab (HA.i.add o3.ay 58);have BB:=ab ((aG v3.a.j v3).alloc (av _) (.D o3.ay 58));have E11:=ab (HE.i.go BB.i);have R11:=ab (gG.ku R10.i HF.i NF.i BB.i);have O3:=ab (HO.i.go BB.i);have Q11:=ab (gG.ku Q10.i HF.i Qx.i BB.i);generalize v3.alloc (.D o3.ay 58)=u3 at A11 E11 R11 O3 Q11 ⊢;generalize v3.a.j=p11 at A11 ⊢;have H3:=ab O3.i.all;clear CS HA HE HO HF BB A10 E10 R10 O3 fy1 fy2 fy3 fy4 Q10;have CS:=ab (Cm A11.i E11.i ato (by omega) ({qJ with kind:=3,F:=[98]}:At) (acH [98]) ⟨rfl,Ht _,⟨av _,jo _,jo _⟩,rfl,rfl,rfl⟩ tK (by decide) aw4 rfl);unfold AwP at CS;have es:(⟨#[98]⟩:ByteArray)=bK [98]:=rfl;go_upto_region 13 with(go_at_call 25;(with_reducible refine CS.i.g ?_);rintro r v4 ⟨o4,x4,sl4,rfl,h1,h2,h3,h4,h5⟩;have HA:=ab h1;have HE:=ab h2;have HO:=ab h3;have HN4:=ab h4;have HF:=ab h5;clear h1 h2 h3 h4 h5)
 have A12:=ab (HA.i.add o4.ay 58);have BB:=ab ((aG v4.a.j v4).alloc (av _) (.D o4.ay 58));have E12:=ab (HE.i.go BB.i);have R12:=ab (gG.ku R11.i HF.i NF.i BB.i);have O4:=ab (HO.i.go BB.i);have Q12:=ab (gG.ku Q11.i HF.i Qx.i BB.i);generalize v4.alloc (.D o4.ay 58)=u4 at A12 E12 R12 O4 Q12 ⊢;generalize v4.a.j=p12 at A12 ⊢;have H4:=ab O4.i.all;clear CS HA HE HO HF BB A11 E11 R11 O4 es Q11;have CS:=ab (Cm A12.i E12.i atp (by omega) ({qJ with kind:=3,F:=[97]}:At) (acH [97]) ⟨rfl,Ht _,⟨av _,jo _,jo _⟩,rfl,rfl,rfl⟩ tK (by decide) aw5 rfl);unfold AwP at CS;have es:(⟨#[97]⟩:ByteArray)=bK [97]:=rfl;go_upto_region 14 with(go_at_call 25;(with_reducible refine CS.i.g ?_);rintro r v5 ⟨o5,x5,sl5,rfl,h1,h2,h3,h4,h5⟩;have HA:=ab h1;have HE:=ab h2;have HO:=ab h3;have HN5:=ab h4;have HF:=ab h5;clear h1 h2 h3 h4 h5)
 have A13:=ab (HA.i.add o5.ay 58);have BB:=ab ((aG v5.a.j v5).alloc (av _) (.D o5.ay 58));have E13:=ab (HE.i.go BB.i);have R13:=ab (gG.ku R12.i HF.i NF.i BB.i);have O5:=ab (HO.i.go BB.i);have Q13:=ab (gG.ku Q12.i HF.i Qx.i BB.i);generalize v5.alloc (.D o5.ay 58)=u5 at A13 E13 R13 O5 Q13 ⊢;generalize v5.a.j=p13 at A13 ⊢;have H5:=ab O5.i.all;clear CS HA HE HO HF BB A12 E12 R12 O5 es Q12;obtain⟨fy1,fy2,fy3,fy4⟩:=(A13.i.box (p:=(p7,({qJ with kind:=1,Um:=FA,IW:=fn,Gc:=fc}:At).ay)) (by simp)).R;have CS:=ab (Cm A13.i E13.i atq (by omega) ({qJ with kind:=1,Um:=FA,IW:=fn,Gc:=fc}:At) acF ⟨rfl,R13.i,LF.i,rfl,rfl,rfl⟩ tK (by decide) aw6 rfl);unfold AwP at CS;go_upto_region 15 with(go_at_call 25;(with_reducible refine CS.i.g ?_);rintro r v6 ⟨o6,x6,sl6,rfl,h1,h2,h3,h4,h5⟩;have HA:=ab h1;have HE:=ab h2;have HO:=ab h3;have HN6:=ab h4;have HF:=ab h5;clear h1 h2 h3 h4 h5)
 have A14:=ab (HA.i.add o6.ay 58);have BB:=ab ((aG v6.a.j v6).alloc (av _) (.D o6.ay 58));have E14:=ab (HE.i.go BB.i);have R14:=ab (gG.ku R13.i HF.i NF.i BB.i);have O6:=ab (HO.i.go BB.i);have Q14:=ab (gG.ku Q13.i HF.i Qx.i BB.i);generalize v6.alloc (.D o6.ay 58)=u6 at A14 E14 R14 O6 Q14 ⊢;generalize v6.a.j=p14 at A14 ⊢;have H6:=ab O6.i.all;clear CS HA HE HO HF BB A13 E13 R13 O6 fy1 fy2 fy3 fy4 Q13;have CS:=ab (Cm A14.i E14.i atr (by omega) ({qJ with kind:=4}:At) (acK 4) ⟨rfl,Ht _,⟨av _,jo _,jo _⟩,rfl,rfl,rfl⟩ tK (by decide) aw7 rfl);unfold AwP at CS;go_upto_region 16 with(go_at_call 25;(with_reducible refine CS.i.g ?_);rintro r v7 ⟨o7,x7,sl7,rfl,h1,h2,h3,h4,h5⟩;have HA:=ab h1;have HE:=ab h2;have HO:=ab h3;have HN7:=ab h4;have HF:=ab h5;clear h1 h2 h3 h4 h5)
 have A15:=ab (HA.i.add o7.ay 58);have BB:=ab ((aG v7.a.j v7).alloc (av _) (.D o7.ay 58));have E15:=ab (HE.i.go BB.i);have R15:=ab (gG.ku R14.i HF.i NF.i BB.i);have O7:=ab (HO.i.go BB.i);have Q15:=ab (gG.ku Q14.i HF.i Qx.i BB.i);generalize v7.alloc (.D o7.ay 58)=u7 at A15 E15 R15 O7 Q15 ⊢;generalize v7.a.j=p15 at A15 ⊢;have H7:=ab O7.i.all;clear CS HA HE HO HF BB A14 E14 R14 O7 Q14;have CS:=ab (Cm A15.i E15.i att (by omega) ({qJ with kind:=9}:At) (acK 9) ⟨rfl,Ht _,⟨av _,jo _,jo _⟩,rfl,rfl,rfl⟩ tK (by decide) Uo rfl);unfold AwP at CS;go_upto_region 17 with(go_at_call 25;(with_reducible refine CS.i.g ?_);rintro r v8 ⟨o8,x8,sl8,rfl,h1,h2,h3,h4,h5⟩;have HA:=ab h1;have HE:=ab h2;have HO:=ab h3;have HN8:=ab h4;have HF:=ab h5;clear h1 h2 h3 h4 h5)
 have A16:=ab (HA.i.add o8.ay 58);have BB:=ab ((aG v8.a.j v8).alloc (av _) (.D o8.ay 58));have E16:=ab (HE.i.go BB.i);have R16:=ab (gG.ku R15.i HF.i NF.i BB.i);have O8:=ab (HO.i.go BB.i);have Q16:=ab (gG.ku Q15.i HF.i Qx.i BB.i);generalize v8.alloc (.D o8.ay 58)=u8 at A16 E16 R16 O8 Q16 ⊢;generalize v8.a.j=p16 at A16 ⊢;have H8:=ab O8.i.all;clear CS HA HE HO HF BB A15 E15 R15 O8 Q15;have CS:=ab (Ru E16.i atu);unfold awe at CS;go_upto_region 18 with(go_at_call 20;(with_reducible refine CS.i.g ?_);rintro r v9 ⟨X,rfl,ho,hb⟩;have HO:=ab ho;have HB:=ab hb;clear ho hb)
 have NS:=ab (show∀y,(y∈xG X.b.A\/y∈xG X.h.A\/y∈xG X.f.A)->y∉[p6]from fun y hy=>by have h1:=(A16.i.box (p:=(p6,(Tu.mk D1 D5 6 1000 80).ay)) (by simp)).lt;rcases hy with hy|hy|hy;(have h2:=(lM HO.i.b y hy).1;simp;omega);(have h2:=(lM HO.i.h y hy).1;simp;omega);(have h2:=(lM HO.i.f y hy).1;simp;omega));have B17:=ab ((aG v9.a.j v9).alloc (av _) (.D X.ay 37));have A17:=ab ((A16.i.go HB.i).add X.ay 37);have E17:=ab ((E16.i.go HB.i).go B17.i);have S17:=ab ((HO.i.r atu).go B17.i);have Q17:=ab (gG.upon (gG.upon Q16.i HB.i) B17.i);generalize v9.alloc (.D X.ay 37)=u9 at A17 E17 S17 Q17 ⊢;generalize v9.a.j=p17 at A17 ⊢;clear CS HO HB B17 A16 E16 R16 Q16 NF LF;have BT:=ab (A17.i.box (p:=(p6,(Tu.mk D1 D5 6 1000 80).ay)) (by simp));have th:=BT.i.S 17 17 (by rw[Tu.J];omega);have BX:=ab (show dP (gV u9 p6 17 D9.ay) p6 (Tu.mk D1 D9 6 1000 80).ay by have h1:=BT.i.setCells 17 D9.ay.a;have h2:=Tu.KJ (Tu.mk D1 D5 6 1000 80) D9;rw[<-h2];simpa[gV]using h1);obtain⟨fx1,fx2,-,-⟩:=BX.i.R;have fx3:=(fx1 36).trans (show(Tu.mk D1 D9 6 1000 80).ay[36]? = some (.b .a 80)by simp[Tu.ay,tuT,aD,fD.J]);have fx4:=fx2 36;clear fx1 fx2;go_upto_region 20 with fail
 have F12:=ab (show jP [p6] u9 ((gV u9 p6 17 D9.ay).I ⟨p6,36,none⟩ (.b .a 8080))from(zM u9 p6 17 D9.ay).set ⟨p6,36,none⟩ _ (.b (by simp)));have B2:=ab (show dP ((gV u9 p6 17 D9.ay).I ⟨p6,36,none⟩ (.b .a 8080)) p6 (Tu.mk D1 D9 6 1000 8080).ay by have h:=BX.i.fC 36 (.b .a 8080);rw[Tu.asn]at h;exact h);have A20:=ab (show Aw w ((gV u9 p6 17 D9.ay).I ⟨p6,36,none⟩ (.b .a 8080)) q q2 g [(p6,(Tu.mk D1 D9 6 1000 8080).ay),(p17,X.ay),(p16,o8.ay),(p15,o7.ay),(p14,o6.ay),(p13,o5.ay),(p12,o4.ay),(p11,o3.ay),(p10,o2.ay),(p9,o1.ay),(p8,o0.ay),(p7,({qJ with kind:=1,Um:=FA,IW:=fn,Gc:=fc}:At).ay),(p1,(Li b).ay),(b,IQ.ay)]from A17.i.put (c:=(Tu.mk D1 D5 6 1000 80).ay) F12.i B2.i (by simp) (by intro y hy;simp only[bD,gu,or_false]at hy⊢;rcases hy with rfl|rfl|rfl|rfl|rfl|rfl|rfl|rfl|rfl|rfl|rfl|rfl|rfl;all_goals exact⟨by simp,by simp[Oc.J,At.J,Sh.J,Cn.J,Vp.J,Tu.J]⟩));have EG:=ab (show TbQ ((gV u9 p6 17 D9.ay).I ⟨p6,36,none⟩ (.b .a 8080)) q x8 (Bj zT Uo.1)from⟨F12.i.box E17.i.b.eg (by have:=dP.ne E17.i.b.eg BT.i (by rw[Eg.J,Tu.J];omega);simp;exact this),iT.aAP E17.i.tt.texts aAR,iT.aAP E17.i.tt.aFK akS.2.2.2.2⟩);have S20:=ab (show StR ((gV u9 p6 17 D9.ay).I ⟨p6,36,none⟩ (.b .a 8080)) ((gV u9 p6 17 D9.ay).I ⟨p6,36,none⟩ (.b .a 8080)).a.j X Uo.1 from⟨S17.i.nP,S17.i.b.keep F12.i (fun y hy=>NS.i y (.b hy)),S17.i.h.keep F12.i (fun y hy=>NS.i y (.a (.b hy))),S17.i.f.keep F12.i (fun y hy=>NS.i y (.a (.a hy))),S17.i.ig,S17.i.no,S17.i.mV,S17.i.sD,S17.i.asr,S17.i.amK,S17.i.nb,S17.i.nh,S17.i.nf⟩);have Q20:=ab (show gG ((gV u9 p6 17 D9.ay).I ⟨p6,36,none⟩ (.b .a 8080)) ((gV u9 p6 17 D9.ay).I ⟨p6,36,none⟩ (.b .a 8080)).a.j o2.Lg o2.EM awW from Uj Q17.i (av _) F12.i (gG.far Q17.i BT.i (by have h1:=gG.len Q17.i;have h2:awW.a=56:=rfl;rw[Tu.J];omega)));generalize((gV u9 p6 17 D9.ay).I ⟨p6,36,none⟩ (.b .a 8080))=u10 at A20 EG S20 Q20 ⊢;clear F12 B2 BX BT A17 E17 S17 Q17 NS th fx3 fx4;have FX:=ab (fun(W':ak) (h:Aw w W' q q2 g [(p6,(Tu.mk D1 D9 6 1000 8080).ay),(p17,X.ay),(p16,o8.ay),(p15,o7.ay),(p14,o6.ay),(p13,o5.ay),(p12,o4.ay),(p11,o3.ay),(p10,o2.ay),(p9,o1.ay),(p8,o0.ay),(p7,({qJ with kind:=1,Um:=FA,IW:=fn,Gc:=fc}:At).ay),(p1,(Li b).ay),(b,IQ.ay)])=>show W'.b ⟨p8,1,none⟩=some (.b .a 8)/\W'.b ⟨p9,3,none⟩=some (.b .a 1)/\W'.b ⟨p10,1,none⟩=some (.b .a 0)/\W'.b ⟨p10,4,none⟩=some (.g ⟨#[97]⟩)/\W'.b ⟨p10,2,none⟩=some (.e false)/\W'.b ⟨p10,3,none⟩=some (.b .a 1)/\W'.b ⟨p10,5,none⟩=some (.a o2.Lg o2.EM o2.JY)/\W'.b ⟨p11,2,none⟩=some (.e true)/\W'.b ⟨p12,0,none⟩=some (.b .a 5)/\W'.b ⟨p13,0,none⟩=some (.b .a 0)/\W'.b ⟨p14,1,none⟩=some (.b .a 8)/\W'.b ⟨p15,0,none⟩=some (.b .a 0)/\W'.b ⟨p16,0,none⟩=some (.b .a 1)/\W'.b ⟨p17,5,none⟩=some (.b .a 2)/\W'.b ⟨p17,4,none⟩=some (.b .a 1)/\W'.b ⟨p17,3,none⟩=some (.a X.f.A 1 X.f.c)/\W'.b ⟨p17,14,none⟩=some (.b .a 2)from⟨((h.box (p:=(p8,o0.ay)) (by simp)).R.1 1).trans (by rw[show o0.ay[1]? = some (.b .a o0.jm)from rfl,H0.i.2.1,aFO]<;>rfl),
  ((h.box (p:=(p9,o1.ay)) (by simp)).R.1 3).trans (by rw[show o1.ay[3]? = some (.b .a o1.nP)from rfl,H1.i.2.2.2.1,aFP]<;>rfl),
  ((h.box (p:=(p10,o2.ay)) (by simp)).R.1 1).trans (by rw[show o2.ay[1]? = some (.b .a o2.jm)from rfl,H2.i.2.1,aoG]<;>rfl),
  ((h.box (p:=(p10,o2.ay)) (by simp)).R.1 4).trans (by rw[show o2.ay[4]? = some (.g (bK o2.F))from rfl,H2.i.2.2.2.2,aoG]<;>rfl),
  ((h.box (p:=(p10,o2.ay)) (by simp)).R.1 2).trans (by rw[show o2.ay[2]? = some (.e o2.Bo)from rfl,H2.i.2.2.1,aoG]<;>rfl),
  ((h.box (p:=(p10,o2.ay)) (by simp)).R.1 3).trans (by rw[show o2.ay[3]? = some (.b .a o2.nP)from rfl,H2.i.2.2.2.1,aoG]<;>rfl),
  ((h.box (p:=(p10,o2.ay)) (by simp)).R.1 5).trans (by rw[show o2.ay[5]? = some (.a o2.Lg o2.EM o2.JY)from rfl]<;>rfl),
  ((h.box (p:=(p11,o3.ay)) (by simp)).R.1 2).trans (by rw[show o3.ay[2]? = some (.e o3.Bo)from rfl,H3.i.2.2.1,aFQ]<;>rfl),
  ((h.box (p:=(p12,o4.ay)) (by simp)).R.1 0).trans (by rw[show o4.ay[0]? = some (.b .a o4.err)from rfl,H4.i.1,aFR]<;>rfl),
  ((h.box (p:=(p13,o5.ay)) (by simp)).R.1 0).trans (by rw[show o5.ay[0]? = some (.b .a o5.err)from rfl,H5.i.1,aFS]<;>rfl),
  ((h.box (p:=(p14,o6.ay)) (by simp)).R.1 1).trans (by rw[show o6.ay[1]? = some (.b .a o6.jm)from rfl,H6.i.2.1,aFT]<;>rfl),
  ((h.box (p:=(p15,o7.ay)) (by simp)).R.1 0).trans (by rw[show o7.ay[0]? = some (.b .a o7.err)from rfl,H7.i.1,aFU]<;>rfl),
  ((h.box (p:=(p16,o8.ay)) (by simp)).R.1 0).trans (by rw[show o8.ay[0]? = some (.b .a o8.err)from rfl,H8.i.1,aFV]<;>rfl),
  ((h.box (p:=(p17,X.ay)) (by simp)).R.1 5).trans (by rw[show X.ay[5]? = some (.b .a X.no)from Sh.amH X,S20.i.no,akS.1]<;>rfl),
  ((h.box (p:=(p17,X.ay)) (by simp)).R.1 4).trans (by rw[show X.ay[4]? = some (.b .a X.ig)from Sh.amG X,S20.i.ig,akS.2.1]<;>rfl),
  ((h.box (p:=(p17,X.ay)) (by simp)).R.1 3).trans (by rw[show X.ay[3]? = some (.a X.f.A X.f.n X.f.c)from Sh.ahp X,<-S20.i.f.len,akS.2.2.2.1]<;>rfl),
  ((h.box (p:=(p17,X.ay)) (by simp)).R.1 14).trans ((Sh.ahN X 8 (by omega)).trans (by rw[S20.i.mV,aF4]))⟩)
 clear H0 H1 H2 H3 H4 H5 H6 H7 H8 Qx HN0 HN1 HN3 HN4 HN5 HN6 HN7 HN8;have lt:=qj (A20.i.box (p:=(p6,(Tu.mk D1 D9 6 1000 8080).ay)) (by simp));have RQ:=ab (aoQ u10 #[.b .b 104,.b .b 105] [104,105] rfl (2,3));have BQ:=ab ((aG u10.a.j u10).alloc (av _) (.D #[.b .b 104,.b .b 105] 5 (2,3)));have kc:=atv;cases HWW.i;have CR:=ab (fun(W:ak) (h:iT Vp.ay 20 W W.a.j (some ⟨b,0,none⟩) 1 [IQ]) (hs:StR W W.a.j X Uo.1)=>J3 (Li b) [IQ] X Uo.1 W h (show 1<=1 by omega) (show 1<=100000 by omega) hs (by have:=awq;omega) (by have:=awq;omega) (by have:=awq;omega) true ((aeK aoF [IQ] Uo.1 _ _ _).trans aF5));have CT:=ab (fun(W:ak) (h:TbQ W q x8 (Bj zT Uo.1))=>ag4 (Bj zT Uo.1) h.b h.n h.s (by have:=aAR;omega) (by have:=akS.2.2.2.2;omega));have CX:=ab (fun(W:ak) (hs:StR W W.a.j X Uo.1)=>af0 X X Uo.1 Uo.1 W hs hs true (adE _));unfold aAD at CT;go_wp2_with (first
  | (go_at_call 40;(with_reducible refine(CM2.i _ _ 2 RQ.i).g ?_);rintro r w11 ⟨A2,n2,c2,rfl,hn,ho,hb⟩;have A21:=ab ((A20.i.go BQ.i).go hb);have EG1:=ab ((EG.i.go BQ.i).go hb);have S21:=ab ((S20.i.go BQ.i).go hb);have Q21:=ab (gG.upon (gG.upon Q20.i BQ.i) hb);have R21:=ab (gG.jh ho);have T1:=(vQ Q21.i o2.JY).2;have T2:=(vQ R21.i c2).2;obtain⟨f0,f1,f2,f3,f4,f5,f6,f7,f8,f9,f10,f11,f12,f13,f14,f15,f16⟩:=FX.i w11 A21.i;clear hn ho hb)
  | (go_at_call 31;(with_reducible refine(CT.i _ EG1.i).g ?_);rintro r w12 ⟨⟨nA,nn,nc,sA,sn,sc⟩,rfl,ht,hb⟩;obtain rfl:sn=0:=(ht.sn.symm.trans akS.2.2.2.2);have A22:=ab (A21.i.go hb);have S22:=ab (S21.i.go hb);have lc:=VO.nR (A22.i.box (p:=(p1,(Li b).ay)) (by simp)) (Cn.J _);have ls:=aeL (A22.i.box (p:=(p17,X.ay)) (by simp));have V22:=ab (iT.arY (f:=Vp.ay) (sz:=20) (A22.i.box (p:=(b,IQ.ay)) (by simp)) (Vp.J _));clear ht hb)
  | (go_at_call 15;(with_reducible refine(CR.i _ V22.i S22.i).g ?_);rintro r w13 ⟨rfl,hb⟩;have A23:=ab (A22.i.go hb);have S23:=ab (S22.i.go hb);have l3:=aeL (A23.i.box (p:=(p17,X.ay)) (by simp));clear hb)
  | (go_at_call 17;(with_reducible refine(CX.i _ S23.i).g ?_);rintro r w14 ⟨rfl,hb⟩;have A24:=ab (A23.i.go hb);clear hb))
 go_ret;exact⟨rfl,A24.i.X⟩
structure Uno(W0 W:ak)(q:Nat)(e:En)(s:qE)(x:Eg)(q2 g:Nat)(sl:List (Option Fw)):Prop where
 r:Ab W q e s x q2 g sl
 X:aM W0.a.j W0 W
 new:W0.a.j<=q/\W0.a.j<=q2/\W0.a.j<=g
 IL:∀k∈qY x,W0.a.j<=k
section
variable {W0 W W':ak} {q q2 g r r2 g2:Nat} {e:En} {s t:qE} {x y x':Eg} {sl sm sl':List (Option Fw)}
theorem Uno.go(h:Uno W0 W q e s x q2 g sl)(hb:aM W.a.j W W'):Uno W0 W' q e s x q2 g sl:=⟨h.r.go hb,h.X.trans (hb.g h.X.j),h.new,h.IL⟩
theorem Uno.lt(h:Uno W0 W q e s x q2 g sl):q<W.a.j/\q2<W.a.j/\g<W.a.j:=h.r.b.lt
theorem Uno.start(h:Ab W' q e s x q2 g sl)(h0:aM W0.a.j W0 W)(hb:aM W.a.j W W')(hq:W.a.j<=q/\W.a.j<=q2/\W.a.j<=g)(hr:∀k∈qY x,W.a.j<=k):Uno W0 W' q e s x q2 g sl:=by
 have:=h0.j;exact⟨h,h0.trans (hb.g h0.j),by omega,fun k hk=>by have:=hr k hk;omega⟩
theorem Uno.acV(h:Uno W0 W q e s x q2 g sl)(h':Ab W' q e t x' q2 g sl')(hf:jP [q,q2,g] W W')(hr:∀k∈qY x',k∈qY x\/W.a.j<=k):Uno W0 W' q e t x' q2 g sl':=
 ⟨h',h.X.trans (hf.tX (fun k hk=>by have:=h.new;simp at hk;omega) h.X.j),h.new,fun k hk=>(hr k hk).elim (h.IL k) (fun h1=>aP h.X.j h1)⟩
end
def aAX(W0 W:ak)(q:Nat)(e:En)(q2 g:Nat)(R:qE×Ou)(z:lJ)(W':ak):Prop:=
 ∃o x' sl',z=.a (.d (Oc.ay o))/\OuR W.a.j W' o R.2/\Uno W0 W' q e R.1 x' q2 g sl'/\jP [q,q2,g] W W'
section
variable {W0 W W':ak} {q q2 g r r2 g2:Nat} {e:En} {s t:qE} {x y x':Eg} {sl sm sl':List (Option Fw)} {M:Int}
theorem aoR(h:Uno W0 W q e s x q2 g sl)(hi:og M e s)(hM:M<1152921504606846976)(a:At)(u:Ac)(ha:AtR W a u)(hof:u.op.h.sD)(how:u.op.w<18446744073709551616):
 aR ah 25 #[.c (some ⟨q,0,none⟩),.d a.ay] W (aAX W0 W q e q2 g (xO e s u)):=
 (Xc h.r hi hM a u ha hof how).g (by
  rintro z W' ⟨o,x',sl',rfl,ho,hE,hl,hr,hf⟩;exact⟨o,x',sl',rfl,ho,h.acV hE hf hr,hf⟩)
end
def XW(e:En)(s:qE)(us:List Ac):qE:=us.foldl (fun s u=>(xO e s u).1) s
theorem akW(e:En)(s:qE)(us:List Ac)(u:Ac):XW e s (us++[u])=(xO e (XW e s us) u).1:=by simp[XW]
theorem akX{e:En}{s:qE}{us:List Ac}{k:Nat}(h:k<us.a):XW e s (us.E (k+1))=(xO e (XW e s (us.E k)) (us.b k aoC)).1:=by
 rw[List.take_add_one,aC h,au,aC h];exact akW _ _ _ _
theorem aoS{e:En}{s:qE}{M:Int}(h:og M e s)(us:List Ac)(hu:∀u∈us,u.op.h.sD/\u.op.w<18446744073709551616):og (M+us.a) e (XW e s us):=by
 induction us generalizing s M with
 | nil=>simpa[XW]using h
 | cons u us ih=>
   have h1:=wC h u (hu u (by simp)).1 (hu u (by simp)).2;have h2:=ih h1 (fun v hv=>hu v (by simp[hv]));have e1:M+((u::us).a:Int)=M+1+(us.a:Int):=by simp only[List.length_cons];omega
   rw[e1];exact h2
theorem Xg(a:fD)(w:ak):aR ah 67 #[.d a.ay] w (gY w (.e (rz a))):=by
 have Z:=ab ((Bx.start w).new a.ay 27);go_enter Tryz.func67,Tryz.ntmps67;go_upto_region 1 with fail
 generalize w.alloc (.D a.ay 27)=w2 at *;obtain⟨y1,y2,y3,y4⟩:=Z.i.Z.R;have CA:=ab (aiT a w2);have a0:=fD.qW a;have HO:=ab (show rz a=(a.h||a.mO)from rfl);cases h6:a.h
 all_goals
  rw[h6]at a0 CA HO
  first
   | (go_wp2
      go_ret;exact⟨by rw[HO.i];rfl,Z.i.X⟩)
   | (rw[rW,Bool.and_true]at CA
      go_wp2_with (go_at_call 133;(with_reducible refine CA.i.g ?_);rintro e w3 ⟨rfl,hb⟩;have Z3:=ab (Z.i.go hb);clear hb);go_ret;exact⟨by rw[HO.i];rfl,Z3.i.X⟩)
theorem aeM(n a b:Int)(w:ak):aR ah 68 #[.b .a n,.b .a a,.b .a b] w fun e w'=>e=.a (.e (JV n a b))/\w=w':=by
 go_enter Tryz.func68,Tryz.ntmps68;by_cases h1:a<=n<;>by_cases h2:n<=b
 all_goals
  go_wp2;go_ret;exact⟨by simp[JV,h1,h2],rfl⟩
theorem Cn.awx(x:Cn)(k:Nat)(hk:k<6):x.ay[3+k]? = some (.b .a (x.kK.a.b k 0)):=by
 rw[<-aas x.kK k hk];have h:=Cn.TY x;rw[<-h,cu];simp[Cn.J];omega
theorem aiz(a b:Int):(a==b)=(b==a):=by rw[dG,beq_iff_eq,beq_iff_eq];exact eq_comm
theorem ag8(a b:fD):decide (a=b)=decide (b=a):=decide_eq_decide.2 eq_comm
theorem akY(l:List Vp)(i:Nat):EF l i=(adG (l.b i mJ) && !(l.E i).any (vW (l.b i mJ).h (l.b i mJ).aN (l.b i mJ).ni)):=rfl
theorem aeN{p:Vp->Bool}{l:List Vp}{i:Nat}(hi:i<=l.a)(h:∀k,k<i->p (l.b k mJ)=false):(l.E i).any p=false:=by
 rw[List.any_eq_false];intro x hx;obtain⟨k,hk,rfl⟩:=List.getElem_of_mem hx;have hk2:k<i:=by simp at hk;omega
 have:=h k hk2;rw[au,aC (by omega)]at this;simpa using this
theorem ab7{p:Vp->Bool}{l:List Vp}{i k:Nat}(hi:i<=l.a)(hk:k<i)(h:p (l.b k mJ)=true):(l.E i).any p=true:=by
 rw[uH];refine⟨l[k],?_,?_⟩
 ·rw[List.mem_take_iff_getElem]
  exact⟨k,by omega,rfl⟩
 ·rw[au,aC (by omega)]at h
  exact h
theorem Xh(x:Cn)(l:List Vp)(w:ak)(hR:RdV w w.a.j x.qF x.gT l)(hn:x.gT<=100000):
 aR ah 22 #[.d x.ay] w (gY w (.e (zA x l))):=by
 have Z:=ab ((Bx.start w).new x.ay 29);have HR:=ab hR;have HO:=ab (ain x l);have HI:=ab (WU x.kK);have HN:=ab hR.1;have HS:=ab (Zp l x.gT hR.1);have LI:=ab (Cn.awx x);have FA:=ab (fun(w':ak) (h:Bx [(w.a.j,x.ay)] w w')=>show w'.b ⟨w.a.j,0,none⟩=some (.a x.qF x.gT x.qX)from(h.Z.R.1 0).trans (Cn.Ed x));have CS:=ab (fun a W=>Xg a W);have CW:=ab (fun n a b W=>aeM n a b W);have NOV:=ab (show zY l=false->zA x l=false from fun h=>by rw[HO.i,h];simp);have NOI:=ab (show Dm x.kK=false->zA x l=false from fun h=>by rw[HO.i,h];simp);clear hR;go_enter Tryz.func22,Tryz.ntmps22;go_upto_region 1 with fail
 generalize w.alloc (.D x.ay 29)=w2 at *;have f0:=FA.i _ Z.i;by_cases h64:64<x.gT
 ·have q:decide ((64:Int)<x.gT)=true:=by simp;omega
  have HF:=ab (show zA x l=false from NOV.i (by cases h:zY l;rfl;have:=(HS.i.1 h).1;omega));go_wp2;go_ret;exact⟨by rw[HF.i];rfl,Z.i.X⟩
 have q:decide ((64:Int)<x.gT)=false:=by simp;omega
 go_wp2;go_loopw [3] (fun s3 wr=>∃i:Nat,i<=x.gT/\s3=.b .a i/\(∀k,k<i->EF l k=true)/\Bx [(w.a.j,x.ay)] w wr) (fun s3 _=>x.gT-(intOf s3).e)
 case atStart=>exact⟨0,by omega,rfl,fun k hk=>by omega,Z.i⟩
 case round=>
  clear f0 q;obtain⟨i,hin,rfl,hok,hz⟩:=hrel;have Ez:=ab hok;have ZR:=ab hz;clear hok hz;have f0:=FA.i _ ZR.i;by_cases hlt:i<x.gT
  ·have hi:(i:Int)<x.gT:=by omega
   obtain⟨b,o,hA,hbb,hh,hcl⟩:=iT.dW Vp.J mJ (ZR.i.rdR HR.i) hlt;obtain⟨v,hv⟩:=cB (l.b i mJ);rw[<-hv]at hcl;have HX:=ab (show EF l i=(adG v && !(l.E i).any (vW v.h v.aN v.ni))by rw[akY,<-hv]);clear hv;rw[hA]at f0;have HAA:=ab hA;clear hA;have Z1:=ab (ZR.i.new v.ay 98);go_upto_region 7 with fail
   clear hh hcl f0;generalize wr.alloc (.D v.ay 98)=w3 at Z1 ⊢;have hy4:=ZR.i.Z.lt;generalize wr.a.j=y4 at Z1 hy4 ⊢;obtain⟨y1,y2,y3,y5⟩:=Z1.i.Z.R;have CSV:=ab (CS.i v.h w3);have HV:=ab (show adG v=(rz v.h&&(v.aN==6||v.aN==17)&&JV v.ni 1 65535)from rfl);cases hv:adG v
   ·have KX:=ab (show zA x l=false from NOV.i (by
     cases h:zY l;rfl;have:=(HS.i.1 h).2 i hlt;rw[HX.i,hv]at this;simp at this))
    rw[hv]at HV;have HZ:=ab HV.i.symm;clear hv HV HX;cases h1:rz v.h
    ·rw[h1]at CSV
     go_wp2_with (first|(go_at_call 67;(with_reducible refine CSV.i.g ?_);rintro e w4 ⟨rfl,hb⟩;have Z3:=ab (Z1.i.go hb);clear y1 y2 y3 y5;obtain⟨y1,y2,y3,y5⟩:=Z3.i.Z.R;clear hb));go_ret;exact⟨by rw[KX.i];rfl,Z3.i.X⟩
    ·rw[h1]at CSV HZ
     have HZ2:=ab (show((v.aN==6||v.aN==17)&&JV v.ni 1 65535)=false by have:=HZ.i;simpa using this);cases h2:(v.aN==6)<;>cases h3:(v.aN==17)<;>cases h4:JV v.ni 1 65535
     all_goals
      rw[h2,h3,h4]at HZ2
      first
       | (exact absurd HZ2.i (by decide))
       | (have h2':(v.aN != 6) = !(v.aN==6):=rfl
          have h3':(v.aN != 17) = !(v.aN==17):=rfl;rw[h2]at h2';rw[h3]at h3';have CWV:=ab (fun W=>CW.i v.ni 1 65535 W);rw[h4]at CWV;go_wp2_with (first|(go_at_call 67;(with_reducible refine CSV.i.g ?_);rintro e w4 ⟨rfl,hb⟩;have Z3:=ab (Z1.i.go hb);clear y1 y2 y3 y5;obtain⟨y1,y2,y3,y5⟩:=Z3.i.Z.R;clear hb)|(go_at_call 68;(with_reducible refine(CWV.i _).g ?_);rintro e w5 ⟨rfl,rfl⟩));go_ret;exact⟨by rw[KX.i];rfl,Z3.i.X⟩)
   ·rw[hv,BF]at HX
    rw[hv]at HV;have HZ:=ab HV.i.symm;clear hv HV;have h1:rz v.h=true:=by have:=HZ.i;simp at this;exact this.1.1
    have h4:JV v.ni 1 65535=true:=by have:=HZ.i;simp at this;exact this.2
    have h23:(v.aN==6||v.aN==17)=true:=by have:=HZ.i;simp at this;simpa using this.1.2
    have CWV:=ab (fun W=>CW.i v.ni 1 65535 W);rw[h4]at CWV;rw[h1]at CSV;clear h1 h4;cases h2:(v.aN==6)<;>cases h3:(v.aN==17)
    all_goals
     rw[h2,h3]at h23
     first
      | (exact absurd h23 (by decide))
      | skip
    all_goals
     clear h23;have h2':(v.aN != 6) = !(v.aN==6):=rfl;have h3':(v.aN != 17) = !(v.aN==17):=rfl;rw[h2]at h2';rw[h3]at h3';go_upto_region 9 with(first|(go_at_call 67;(with_reducible refine CSV.i.g ?_);rintro e w4 ⟨rfl,hb⟩;have Z3:=ab (Z1.i.go hb);clear y1 y2 y3 y5;obtain⟨y1,y2,y3,y5⟩:=Z3.i.Z.R;clear hb)|(go_at_call 68;(with_reducible refine(CWV.i _).g ?_);rintro e w5 ⟨rfl,rfl⟩))
     clear h2 h3 h2' h3' y1 y2 y3 y5 CSV CWV;go_wp2;go_loopw [5] (fun s5 wx=>∃k:Nat,k<=i/\s5=.b .a k/\(∀j,j<k->vW v.h v.aN v.ni (l.b j mJ)=false)/\Bx [(y4,v.ay),(w.a.j,x.ay)] w wx) (fun s5 _=>i-(intOf s5).e)
     case atStart=>exact⟨0,by omega,rfl,fun j hj=>by omega,Z3.i⟩
     case round=>
      obtain⟨k,hki,rfl,hno,hz⟩:=hrel;have HNK:=ab hno;have ZK:=ab hz;clear hno hz;have f0:=FA.i _ ZK.i.TS;by_cases hkl:k<i
      ·have hk2:(k:Int)<i:=by omega
       have hk3:(k:Int)<x.gT:=by omega
       obtain⟨b2,o2,hA2,acQ,hh,hcl⟩:=iT.dW Vp.J mJ (ZK.i.TS.rdR HR.i) (Nat.lt_trans hkl hlt);obtain⟨u,hu⟩:=cB (l.b k mJ);rw[<-hu]at hcl;have HU:=ab hu;clear hu;rw[hA2]at f0;have HAB:=ab hA2;clear hA2;have Z5:=ab (ZK.i.new u.ay 98);go_upto_region 13 with fail
       clear hh hcl f0;have hy6:=ZK.i.Z.lt;generalize wr.alloc (.D u.ay 98)=w7 at Z5 ⊢;generalize wr.a.j=y7 at Z5 hy6 ⊢;obtain⟨a1,a2,a3,a4⟩:=Z5.i.Z.R;obtain⟨b1,b2,b3,b4⟩:=Z5.i.b1.R;have c1:=Vp.Cg u;have c2:=Vp.Cg v;obtain⟨b5,hb5⟩:∃b,decide (v.h=u.h)=b:=⟨_,rfl⟩
       obtain⟨b6,hb6⟩:∃b,(v.aN==u.aN)=b:=⟨_,rfl⟩
       obtain⟨b7,hb7⟩:∃b,(v.ni==u.ni)=b:=⟨_,rfl⟩
       have HL:=ab (show vW v.h v.aN v.ni u=(b5&&b6&&b7)by
        rw[<-hb5,<-hb6,<-hb7];unfold vW;rw[aiz u.aN,aiz u.ni,ag8 u.h])
       have KX:=ab (show vW v.h v.aN v.ni u=true->zA x l=false from fun hl=>NOV.i (by
        cases h:zY l;rfl;have:=(HS.i.1 h).2 i hlt;rw[HX.i,ab7 (by rw[HN.i];omega) hkl (by rw[<-HU.i];exact hl)]at this;simp at this))
       go_wp2
       all_goals
        first
        | (go_roundw
           case rel=>exact⟨k+1,by omega,by go_num,fun j hj=>by
            by_cases hjk:j=k
            ·rw[hjk,<-HU.i,HL.i];simp[*]
            ·exact HNK.i j (by omega),Z5.i.TS⟩
           case measure=>simp[intOf]<;>omega)
        | (go_ret
           exact⟨by rw[KX.i (by rw[HL.i];simp[*])];rfl,Z5.i.X⟩)
      ·obtain rfl:k=i:=by omega
       have HYY:=ab (show EF l k=true by rw[HX.i,aeN (by rw[HN.i];omega) HNK.i];rfl);have hd:decide ((k:Int)<k)=false:=by simp
       go_wp2;go_roundw
       case rel=>exact⟨k+1,by omega,by go_num,fun j hj=>by
        by_cases hjk:j=k
        ·rw[hjk];exact HYY.i
        ·exact Ez.i j (by omega),ZK.i.TS⟩
       case measure=>simp[intOf]<;>omega
  ·obtain rfl:i=x.gT:=by omega
   have HVS:=ab (show zY l=true from HS.i.2 ⟨by omega,Ez.i⟩);have hd:decide ((x.gT:Int)<x.gT)=false:=by simp
   rw[HVS.i,Bool.and_true]at HO;have fi0:=(ZR.i.Z.R.1 3).trans (LI.i 0 (by omega));obtain⟨z0,hz0⟩:∃z,z=x.kK.a.b 0 0:=⟨_,rfl⟩
   have HZ0:=ab hz0;rw[<-hz0]at fi0;clear hz0;by_cases hz:z0=0
   ·have qz:(z0 != 0)=false:=by simp[hz]
    have aAY:=ab (show x.kK.a.b 0 0=0 by rw[<-HZ0.i];exact hz);clear hz Ez HS HN;go_upto_region 17 with fail
    clear f0 fi0 qz hd;go_wp2;go_loop [7] (fun s7=>∃k:Nat,1<=k/\k<=6/\s7=.b .a k/\(∀j,j<k->Dx x.kK j=true)) (fun s7=>6-(intOf s7).e)
    case atStart=>exact⟨1,by omega,by omega,rfl,fun j hj=>by obtain rfl:j=0:=by omega
                                                             unfold Dx;rw[aAY.i];rfl⟩
    case round=>
     obtain⟨k,hk1,hk6,rfl,hok⟩:=hrel;have HNK:=ab hok;clear hok;by_cases hlt:k<6
     ·have hk2:(k:Int)<6:=by omega
      have hk3:(0:Int)<=k:=by omega
      have fi:=(ZR.i.Z.R.1 (3+k)).trans (LI.i k hlt);obtain⟨z,hz⟩:=cB (x.kK.a.b k 0);have HK:=ab (show Dx x.kK k=JV z 0 1000000 by unfold Dx;rw[<-hz,show(k==0)=false by simp;omega];simp);rw[<-hz]at fi;have CZ:=ab (fun W=>CW.i z 0 1000000 W);clear hz;cases hb:JV z 0 1000000
      ·have KX:=ab (show zA x l=false from NOI.i (by
        cases h:Dm x.kK;rfl;have:=HI.i.1 h k hlt;rw[HK.i,hb]at this;cases this))
       rw[hb]at CZ;clear hb;go_wp2_with (first|(go_at_call 68;(with_reducible refine(CZ.i _).g ?_);rintro e w5 ⟨rfl,rfl⟩));go_ret;exact⟨by rw[KX.i];rfl,ZR.i.X⟩
      ·rw[hb]at CZ HK
       clear hb;go_wp2_with (first|(go_at_call 68;(with_reducible refine(CZ.i _).g ?_);rintro e w5 ⟨rfl,rfl⟩));go_round
       case rel=>exact⟨k+1,by omega,by omega,by go_num,fun j hj=>by
        by_cases hjk:j=k
        ·rw[hjk];exact HK.i
        ·exact HNK.i j (by omega)⟩
       case measure=>simp[intOf]<;>omega
     ·obtain rfl:k=6:=by omega
      have HID:=ab (show Dm x.kK=true from HI.i.2 HNK.i);rw[HID.i,BF]at HO;obtain⟨y1,y2,y3,y4⟩:=ZR.i.Z.R;have CS4:=ab (fun W=>CS.i x.Dl W);obtain⟨sf,hsf⟩:∃b,rz x.Dl=b:=⟨_,rfl⟩
      rw[hsf]at CS4 HO;clear hsf hlt hk1 hk6 HID HNK NOI NOV HI LI HZ0 aAY HVS;cases hsz:JV x.j 2 65537
      ·rw[hsz,Ej]at HO
       simp only[Ej]at HO;go_wp2_with (first|(go_at_call 68;(with_reducible refine(CW.i _ _ _ _).g ?_);rintro e w5 ⟨rfl,rfl⟩))
       all_goals
        go_ret;exact⟨by rw[HO.i];rfl,ZR.i.X⟩
      ·have PR:=ab (show∀W,aR ah 69 #[.b .a x.j] W fun e W'=>e=.a (.e (mh x.j.e))/\W=W' from fun W=>by
        have h1:2<=x.j/\x.j<=65537:=by unfold JV at hsz;simpa using hsz
        have:=aat (W:=W) x.j.e (by omega)
        rwa [Int.toNat_of_nonneg (by omega)]at this)
       obtain⟨pn,hpn⟩:∃b,mh x.j.e=b:=⟨_,rfl⟩
       rw[hsz,BF]at HO;simp only[hpn]at HO PR;clear hpn;go_wp2_with (first|(go_at_call 68;(with_reducible refine(CW.i _ _ _ _).g ?_);rintro e w5 ⟨rfl,rfl⟩)|(go_at_call 69;(with_reducible refine(PR.i _).g ?_);rintro e w5 ⟨rfl,rfl⟩)|(go_at_call 67;(with_reducible refine(CS4.i _).g ?_);rintro e w6 ⟨rfl,hb⟩;have Z4:=ab (ZR.i.go hb);clear y1 y2 y3 y4;obtain⟨y1,y2,y3,y4⟩:=Z4.i.Z.R;clear hb))
       all_goals
        go_ret;refine⟨?_,by first|exact Z4.i.X|exact ZR.i.X⟩;rw[HO.i];clear HO PR CW CS CS4 y1 y2 y3 y4;simp_all
   ·have qz:(z0 != 0)=true:=by simp[hz]
    have KX:=ab (show zA x l=false from NOI.i (by
     cases h:Dm x.kK;rfl;have:=HI.i.1 h 0 (by omega);unfold Dx at this;rw[<-HZ0.i]at this;simp[hz]at this))
    clear hz;go_wp2;go_ret;exact⟨by rw[KX.i];rfl,ZR.i.X⟩
@[go_sem]theorem atw:Obj.cells #[bg,iK {data:=#[]},bP false,aA,aA,aA,aA,aA,aA,aA,aA,aA,aA,aA,aA,aA,aA,aA,aA,bg,aA,aA,aA,aA,aA,aA,wO j5 0,bP false,iK {data:=#[]},wO j5 0] 64=Obj.cells ZI.ay 64:=rfl
@[go_sem ↓]theorem aIK(v x:aB):eY 64 v x=zX 64 v x:=rfl
theorem arZ(l:List UInt8)(s d:fD):(vG l s d).1.a<=l.a+1040:=by
 have h:=fun ty=>YW (d:=(iV l).1.dst) (s:=(iV l).1.h) (ty:=ty) (JM l).2
 have h1:=h 34525;have h2:=h 2048;unfold vG
 repeat' split
 all_goals first
  | (simp;done)
  | (simp only[aQ,List.length_take,List.length_drop,Ri,MI];omega)
theorem awz(e:En)(v:Vp)(b:Bk)(t:Tu)(l:List UInt8)(ht:v.Ak=true):(DU e v b t l).2.a<=l.a+1040:=by
 unfold DU;rw[if_pos ht]
 repeat' split
 all_goals first
  | (simp only[Du];exact arZ _ _ _)
  | (simp;done)
structure Snt(e:En)(s t:qE)(l:List UInt8)(u:Ou)(b:Bk)(i:Nat):Prop where
 h:t.h=s.h
 F:u.F=b.F
 has:rX s.h u.F=true
 got:qg s.h u.F=b
 kind:(lW l).kind=0
 vip:sQ e.vs (lW l).K.dst (lW l).K.aN (lW l).K.iG=some i
 len:14<=u.i.a
 xQ:u.i.E 6=b.xQ.a
 vM:(u.i.G 6).E 6=e.c.xQ.a
 fin:14<=(lW l).rE/\(lW l).rE<=l.a
 rew:(e.vs.b i mJ).Ak=false->lW u.i={lW l with K:={(lW l).K with dst:=b.h,iG:=b.ni}}/\(u.i.a:Int)=(lW l).rE
 aa1:u.i.a<=l.a+1040
 tun:(e.vs.b i mJ).Ak=true->∃z,ad2 u.i=(z,0)/\(z.a:Int)=(lW l).rE/\z.G 12=(l.E (lW l).rE.e).G 12
theorem ag9{M:Int}{e:En}{s:qE}(h:og M e s){a:Ac}{t:qE}{u:Ou}(hst:xO e s a=(t,u))(hk:a.kind=1)(hr:u.jm=0):
 ∃(b:Bk)(i:Nat),Snt e s t a.frame u b i:=by
 unfold xO at hst;rw[if_pos hk]at hst;unfold Dr at hst;by_cases hw:(oW e s a.frame).jm=0
 ·rw[if_pos hw]at hst
  injection hst with h1 h2
  subst h1;subst h2;obtain⟨hf,i,hv,hb,-,h4⟩:=Oy hw;obtain⟨g1,g2⟩:=aj6 h hb;obtain⟨e1,e2,e3⟩:=ags h hw;have F:=xM hf;have hend:14<=(lW a.frame).rE/\(lW a.frame).rE<=a.frame.a:=by
   have f1:=F.h;have f2:=F.ru;have f3:=F.rE;have f4:=F.len;split at f2<;>split at f3<;>omega
  refine⟨(oW e s a.frame).h,i,⟨rfl,rfl,g1,g2,hf,hv,e1,e2,e3,hend,fun ht=>?_,?_,fun ht=>?_⟩⟩
  ·obtain⟨r1,r2⟩:=Qs h hw hv ht
   refine⟨r1,?_⟩;show(((oW e s a.frame).i.a:Nat):Int)=_;rw[r2];omega
  ·show(oW e s a.frame).i.a<=_
   cases ht:(e.vs.b i mJ).Ak with
   | true=>rw[h4];exact awz e _ _ _ _ ht
   | false=>rw[(Qs h hw hv ht).2];omega
  ·obtain⟨r1,r2⟩:=Y8 h hw hv ht
   refine⟨_,r1,?_,?_⟩
   ·rw[abG hf]
    omega
   ·rw[yS (by simp)]
 ·rw[if_neg hw]at hst
  injection hst with h1 h2
  subst h2;exact absurd hr hw
theorem Snt.dW{e:En}{s t:qE}{l:List UInt8}{u:Ou}{b:Bk}{i:Nat}(h:Snt e s t l u b i):LQ e.vs (lW l).K.dst (lW l).K.aN (lW l).K.iG=(i:Nat)/\i<e.vs.a:=by
 refine⟨by unfold LQ;rw[h.vip],?_⟩;have h1:=h.vip;unfold sQ at h1;exact(List.findIdx?_eq_some_iff_getElem.1 h1).1
theorem akZ:ah.underlying 83=some (.struct (ah.fieldsOf 83)):=by
 simp only[jr,qN]
theorem ar0:∃f1 f2 f3 f4 f5 f6:oz,(ah.fieldsOf 83).a=[f1,f2,f3,f4,f5,f6]/\(f1.F ≠ "_" /\ f2.F ≠ "_" /\ f3.F ≠ "_" /\ f4.F ≠ "_" /\ f5.F ≠ "_" /\ f6.F ≠ "_")/\(f1.p=3/\f1.offset=0)/\(f2.p=81/\f2.offset=1)/\(f3.p=3/\f3.offset=38)/\(f4.p=3/\f4.offset=39)/\(f5.p=3/\f5.offset=40)/\(f6.p=3/\f6.offset=41):=by
 refine⟨_,_,_,_,_,_,by simp only[jr,qN];rfl,⟨?_,?_,?_,?_,?_,?_⟩,⟨rfl,rfl⟩,⟨rfl,rfl⟩,⟨rfl,rfl⟩,⟨rfl,rfl⟩,⟨rfl,rfl⟩,⟨rfl,rfl⟩⟩<;>decide
theorem Pk.ak0(x:Pk):x.ay.extract 1 (1+37)=x.K.ay:=by
 unfold Pk.ay;rw[bZ,bZ];simp[Tu.J]
theorem ak1(x:Pk)(d:Nat)(W:ak):(Op.equalIn (d+5) 83 (.d x.ay) (.d x.ay)).O ah W=.ok true W:=by
 rw[run_equalIn_struct W (d+4) _ _ _ akZ Tryz.stoodInHeld83];obtain⟨f1,f2,f3,f4,f5,f6,hl,⟨n1,n2,n3,n4,n5,n6⟩,⟨t1,o1⟩,⟨t2,o2⟩,⟨t3,o3⟩,⟨t4,o4⟩,⟨t5,o5⟩,⟨t6,o6⟩⟩:=ar0;rw[hl];have p1:∀z:Pk,(part f1.p z.ay f1.offset).O ah W=.ok (.b .a z.kind) W:=fun z=>by
  rw[t1,o1];exact ng (by simp only[fI]) (Pk.zB z) W
 have p2:∀z:Pk,(part f2.p z.ay f2.offset).O ah W=.ok (.d z.K.ay) W:=fun z=>by
  rw[t2,o2,Cy (n:=37) (by simp only[jN]) (by kernel_rfl) z.ay 1 W,Pk.ak0]
 have p3:∀z:Pk,(part f3.p z.ay f3.offset).O ah W=.ok (.b .a z.sW) W:=fun z=>by
  rw[t3,o3];exact ng (by simp only[fI]) (Pk.JD z) W
 have p4:∀z:Pk,(part f4.p z.ay f4.offset).O ah W=.ok (.b .a z.h) W:=fun z=>by
  rw[t4,o4];exact ng (by simp only[fI]) (Pk.af5 z) W
 have p5:∀z:Pk,(part f5.p z.ay f5.offset).O ah W=.ok (.b .a z.ru) W:=fun z=>by
  rw[t5,o5];exact ng (by simp only[fI]) (Pk.af6 z) W
 have p6:∀z:Pk,(part f6.p z.ay f6.offset).O ah W=.ok (.b .a z.rE) W:=fun z=>by
  rw[t6,o6];exact ng (by simp only[fI]) (Pk.Ud z) W
 rw[show true=((x.kind==x.kind)&&(decide (x.K=x.K)&&((x.sW==x.sW)&&((x.h==x.h)&&((x.ru==x.ru)&&((x.rE==x.rE)&&true))))))by simp];exact gB _ _ _ _ _ n1 W _ _ _ _ (p1 x) (p1 x) (by rw[t1];exact yY _ _ _ W)
  (gB _ _ _ _ _ n2 W _ _ _ _ (p2 x) (p2 x) (by rw[t2];exact Qj _ _ d W)
  (gB _ _ _ _ _ n3 W _ _ _ _ (p3 x) (p3 x) (by rw[t3];exact yY _ _ _ W)
  (gB _ _ _ _ _ n4 W _ _ _ _ (p4 x) (p4 x) (by rw[t4];exact yY _ _ _ W)
  (gB _ _ _ _ _ n5 W _ _ _ _ (p5 x) (p5 x) (by rw[t5];exact yY _ _ _ W)
  (gB _ _ _ _ _ n6 W _ _ _ _ (p6 x) (p6 x) (by rw[t6];exact yY _ _ _ W) (by simp[Op.eqFields]))))))
@[go_sem ↓]theorem aIM(x:Pk)(W:ak):(Op.equalIn 10000 83 (.d x.ay) (.d x.ay)).O ah W=.ok true W:=ak1 x 9995 W
theorem Pk.KJ(p:Pk)(a:fD):tC p.ay 18 a.ay=({p with K:={p.K with dst:=a}}:Pk).ay:=by
 have h:∀q:Pk,q.ay=(#[.b .a q.kind]++q.K.h.ay)++(q.K.dst.ay++(#[.b .a q.K.aN,.b .a q.K.kg,.b .a q.K.iG] ++ #[.b .a q.sW,.b .a q.h,.b .a q.ru,.b .a q.rE])):=fun q=>by
  unfold Pk.ay Tu.ay tuT;simp[gD]
 rw[h,h];exact qH (by rw[fD.J,fD.J]) 18 (by simp[fD.J])
theorem Pk.ak2(p:Pk)(v:Int):p.ay.c 37 (.b .a v)=({p with K:={p.K with iG:=v}}:Pk).ay:=by
 unfold Pk.ay Tu.ay tuT;simp[aL,fD.J]
theorem Sh.av5(X:Sh):X.ay.extract 0 2 = #[.b .a X.nP,.a X.b.A X.b.n X.b.c]:=by
 unfold Sh.ay;rw[bZ];simp[shT]
@[go_sem]theorem axK(W:ak)(X:Sh):(Instr.field 37 (.d X.ay) 0).O ah W=.ok (.d #[.b .a X.nP,.a X.b.A X.b.n X.b.c]) W:=by
 have h:=qM;obtain⟨i,hi,hs⟩:∃i,ah.l 32=some i/\i.j=2:=⟨_,rfl,rfl⟩
 simp[Instr.field,dK h,asAgg,part,sizeOf,typeInfo,hi,hs,Sh.av5]
theorem ak3(l:List Bk)(hs:Fj l)(s:List UInt8)(v:Int)(A:Option aV)(n c:Nat)(w:ak)(hR:iT Bk.ay 27 w w.a.j A n l)(hn:n<4611686018427387904)(g:Bk)(hg:qg l s=g)(K:Bool)(hK:rX l s=K):
 aR ah 33 #[.d #[.b .a v,.a A n c],.g (bK s)] w (gY w (.K #[.d g.ay,.e K])):=by
 subst hg;subst hK;obtain rfl:=hR.1;exact AJ l hs s v A c w hR hn
theorem dP.bytes{W:ak}{b o:Nat}{c:Array aB}{l:List UInt8}(h:dP W b c)(hc:∀j,j<l.a->c[o+j]? = some (bv (l.b j 0))):gG W W.a.j (some ⟨b,o,none⟩) l.a l:=
 gG.KD h.lt (fun j hj=>(h.R.1 (o+j)).trans (hc j hj))
theorem aiA{c:Array aB}{o:Nat}{m:Vector UInt8 6}(h:c.extract o (o+6)=Bp m)(j:Nat)(hj:j<6):c[o+j]? = some (bv (m.a.b j 0)):=by
 have h1:(c.extract o (o+6)).j=6:=by rw[h,gH]
 have h2:(c.extract o (o+6))[j]? = (Bp m)[j]?:=by rw[h]
 rw[jA]at h1;rw[cu,if_pos (by omega)]at h2;rw[h2];simp[Bp,hj,au]
theorem Bk.ag'(b:Bk)(j:Nat)(hj:j<6):b.ay[19+j]? = some (bv (b.xQ.a.b j 0)):=aiA (Bk.aaj b) j hj
theorem Cn.ag'(x:Cn)(j:Nat)(hj:j<6):x.ay[11+j]? = some (bv (x.xQ.a.b j 0)):=aiA (Cn.aa2 x) j hj
section
attribute [local go_sem high] iR jI
theorem QC(k:Vector UInt8 16)(c:Cn)(vs:List Vp)(A:Option aV)(na ca:Nat)(la:List At)(ua:List Ac)(W:ak)(hV:iT Vp.ay 20 W W.a.j c.qF c.gT vs)(hvc:c.gT<=c.qX)(hcc:c.qX<=9223372036854775807)
 (hRa:iT At.ay 34 W W.a.j A na la) (hla:ua.a=na) (hOa:∀i,i<na->AtO W (la.b i qJ) (ua.b i aoC)) (hna:na<=9223372036854775807) :
 aR ah 11 #[.d (jl k),.d c.ay,.a A na ca] W (gY W (.e true)):=by
 have z0:=((Bx.start W).new (jl k) 22).new c.ay 29;rw[show(W.alloc (.D (jl k) 22)).a.j=W.a.j+1 by simp]at z0;have Z0:=ab z0;clear z0;have V0:=ab hV;have RA:=ab hRa;have OA:=ab hOa;have LN:=ab (show ua.a=na/\na<=9223372036854775807/\c.gT<=c.qX/\c.qX<=9223372036854775807 from⟨hla,hna,hvc,hcc⟩);have CMa:=ab (fun(w:ak) (hb:aM W.a.j W w)=>arQ c la A na ca w (RA.i.go hb) hna);clear hV hRa hOa hla hna hvc hcc;go_enter Tryz.func11,Tryz.ntmps11;go_upto_region 1 with fail
 have SZ0:=ab (show W.a.j+1<((W.alloc (.D (jl k) 22)).alloc (.D c.ay 29)).a.j by simp);generalize(W.alloc (.D (jl k) 22)).alloc (.D c.ay 29)=w1 at Z0 SZ0 ⊢;obtain⟨K1,hK1⟩:∃K,ag5 c la=K:=⟨_,rfl⟩
 obtain⟨K3,hK3⟩:∃K,zA c vs=K:=⟨_,rfl⟩
 rw[hK1]at CMa;have CK:=ab (fun(w:ak) (hb:aM W.a.j W w) (hn:c.gT<=100000)=>Xh c vs w (V0.i.go hb) hn);rw[hK3]at CK;have HK1:=ab hK1;have HK3:=ab hK3;clear hK1 hK3;cases K1
 ·go_upto_region 2 with(first
   | (go_at_call 12;(with_reducible refine(Bl _).g ?_);rintro r w2 ⟨rfl,hb⟩;have Z2:=ab (Z0.i.go hb);have l2:=VO.nR Z2.i.Z (Cn.J _);clear hb)
   | (go_at_call 21;(with_reducible refine(CMa.i _ Z2.i.X).g ?_);rintro r w3 ⟨rfl,hb⟩;have Z3:=ab (Z2.i.go hb);have l3:=VO.nR Z3.i.Z (Cn.J _);clear hb))
  go_wp2_with (go_at_call 12;(with_reducible refine(Bl _).g ?_);rintro r w9 ⟨rfl,hb⟩;have Z9:=ab (Z3.i.go hb);clear hb);go_ret;exact⟨rfl,Z9.i.X⟩
 have VN:=ab (show c.gT<=20/\la.a<=60 by
  have h1:=HK1.i;unfold ag5 OU at h1;simp only[bf,decide_eq_true_eq]at h1;exact⟨h1.1.1,h1.2.1⟩)
 cases K3
 ·go_upto_region 2 with(first
   | (go_at_call 12;(with_reducible refine(Bl _).g ?_);rintro r w2 ⟨rfl,hb⟩;have Z2:=ab (Z0.i.go hb);have l2:=VO.nR Z2.i.Z (Cn.J _);clear hb)
   | (go_at_call 21;(with_reducible refine(CMa.i _ Z2.i.X).g ?_);rintro r w3 ⟨rfl,hb⟩;have Z3:=ab (Z2.i.go hb);have l3:=VO.nR Z3.i.Z (Cn.J _);clear hb)
   | (go_at_call 22;(with_reducible refine(CK.i _ Z3.i.X (by have:=VN.i;omega)).g ?_);rintro r w4 ⟨rfl,hb⟩;have Z4:=ab (Z3.i.go hb);have l4:=VO.nR Z4.i.Z (Cn.J _);clear hb))
  go_wp2_with (go_at_call 12;(with_reducible refine(Bl _).g ?_);rintro r w9 ⟨rfl,hb⟩;have Z9:=ab (Z4.i.go hb);clear hb);go_ret;exact⟨rfl,Z9.i.X⟩
 go_upto_region 3 with(first
  | (go_at_call 12;(with_reducible refine(Bl _).g ?_);rintro r w2 ⟨rfl,hb⟩;have Z2:=ab (Z0.i.go hb);have l2:=VO.nR Z2.i.Z (Cn.J _);clear hb)
  | (go_at_call 21;(with_reducible refine(CMa.i _ Z2.i.X).g ?_);rintro r w3 ⟨rfl,hb⟩;have Z3:=ab (Z2.i.go hb);have l3:=VO.nR Z3.i.Z (Cn.J _);clear hb)
  | (go_at_call 22;(with_reducible refine(CK.i _ Z3.i.X (by have:=VN.i;omega)).g ?_);rintro r w4 ⟨rfl,hb⟩;have Z4:=ab (Z3.i.go hb);have l4:=VO.nR Z4.i.Z (Cn.J _);clear hb))
 have N5:=ab (show c.gT<=100000 by have:=VN.i;omega);have CN:=ab (ZH k c vs w4 (V0.i.go Z4.i.X) LN.i.2.2.1 N5.i HK3.i);unfold OT at CN;have lk5:=WE.nR Z4.i.b1 (dO _);clear CMa CK;go_upto_region 4 with(go_at_call 23;(with_reducible refine CN.i.g ?_);rintro r w6 ⟨q,x,q2,g,sl,rfl,hE,hb,hq,hr⟩;have U6:=ab (Uno.start hE (aG _ _) hb hq hr);clear hE hb hq hr)
 go_upto_region 6 with fail
 have FE:=ab (show∀i,i<na->(la.b i qJ).IW<=1000000 by
  have h1:=HK1.i;unfold ag5 OU Xe at h1;simp only[bf,decide_eq_true_eq,gq,fq]at h1;have e1:=RA.i.1;exact fun i hi=>by have:=(h1.2.2 i (by omega)).1;omega)
 have FE2:=ab (show∀i,i<na->(la.b i qJ).IW<=1500 by
  have h1:=HK1.i;unfold ag5 OU Xe at h1;simp only[bf,decide_eq_true_eq,gq,fq]at h1;have e1:=RA.i.1;exact fun i hi=>(h1.2.2 i (by omega)).1)
 have GA:=ab (show∀u∈ua,u.op.h.sD/\u.op.w<18446744073709551616 from fun u hu=>by
  obtain⟨i,hi,rfl⟩:=List.mem_iff_getElem.1 hu;have h:=(OA.i i (by have:=LN.i.1;omega)).Po;rw[au,aC hi]at h;exact⟨h.1.1,h.2.1⟩)
 clear lk5 l2 l3 l4;go_wp2;go_loopw [9] (fun s9 wr=>∃(i:Nat)(x':Eg)(sl':List (Option Fw)),i<=na/\s9=.b .a i/\Uno w4 wr q ⟨k,c,vs⟩ (XW ⟨k,c,vs⟩ wT (ua.E i)) x' q2 g sl') (fun s9 _=>na-(intOf s9).e)
 case atStart=>exact⟨0,x,sl,by omega,rfl,U6.i⟩
 case round=>
  obtain⟨i,x',sl',hin,rfl,hu⟩:=hrel;have HU:=ab hu;have ZR:=ab (Z4.i.go (HU.i.X));clear hu;by_cases Bo:i<na;rotate_left
  ·obtain rfl:i=na:=by omega
   have hnl:¬((i:Nat):Int)<i:=by omega
   go_wp2;go_ret;exact⟨rfl,ZR.i.X⟩
  have hlt2:(i:Int)<na:=by omega
  have aFL:i<60:=by have:=VN.i;have:=RA.i.1;omega
  have HI:=ab (aoS (Qt k HK3.i) (ua.E i) (fun u hu=>GA.i u (List.mem_of_mem_take hu)));have HM:=ab (show(0:Int)+(ua.E i).a<=100 by have:=LN.i.1;simp;omega);have RT:=ab (akX (e:=⟨k,c,vs⟩) (s:=wT) (us:=ua) (k:=i) (by have:=LN.i.1;omega));generalize(0:Int)+(ua.E i).a=M at HI HM;generalize XW ⟨k,c,vs⟩ wT (ua.E i)=s at HI RT HU;obtain⟨b,off,hA,hbl,hh,hcl⟩:=iT.dW At.J qJ RA.i Bo;obtain⟨a,ha⟩:=uP (la.b i qJ);obtain⟨u,hu⟩:=uP (ua.b i aoC);have OI:=ab ((OA.i i Bo).r (FE.i i Bo));have OG:=ab (OA.i i Bo).Po;have KB:=ab (fun(w':ak) (hb:aM W.a.j W w')=>show(yU 66 (.c (some ⟨b,off+i*34,none⟩))).O ah w'=.ok (.d a.ay) w' by
   obtain⟨b2,o2,hA2,_,h3,h4⟩:=iT.dW At.J qJ (RA.i.go hb) Bo;rw[hA]at hA2;injection hA2 with hA2
   injection hA2 with e1 e2
   subst e1;subst e2;rw[aAK _ _ _ h3,h4,ha])
  have KC:=ab (fun(w':ak) (hb:aM W.a.j W w')=>show w'.b ⟨b,off+i*34,none⟩=some (.b .a a.kind)by
   obtain⟨b2,o2,hA2,_,h3⟩:=iT.cell At.J qJ (RA.i.go hb) Bo;rw[hA]at hA2;injection hA2 with hA2
   injection hA2 with e1 e2
   subst e1;subst e2;have h4:=h3 0 (by omega);rw[ha]at h4;exact h4.trans (At.zB a))
  have KF:=ab (fun(w':ak) (hb:aM W.a.j W w')=>show w'.b ⟨b,off+i*34+1,none⟩=some (.a a.Um a.IW a.Gc)by
   obtain⟨b2,o2,hA2,_,h3⟩:=iT.cell At.J qJ (RA.i.go hb) Bo;rw[hA]at hA2;injection hA2 with hA2
   injection hA2 with e1 e2
   subst e1;subst e2;have h4:=h3 1 (by omega);rw[ha]at h4;exact h4.trans (At.aoq a))
  have FA2:=ab (show a.IW<=1500 by have h:=FE2.i i Bo;rw[ha]at h;exact h);rw[ha]at OI;rw[hu]at OI OG RT;clear hh hcl hbl ha hu hin;rw[hA];have CS:=ab (aoR HU.i HI.i (by have:=HM.i;omega) a u (OI.i.go ZR.i.X) OG.i.1.1 OG.i.2.1);obtain⟨t,o',hst⟩:∃t o',xO ⟨k,c,vs⟩ s u=(t,o'):=⟨_,_,rfl⟩
  have HST:=ab hst;have IT:=ab (show og (M+1) ⟨k,c,vs⟩ t by have:=wC HI.i u OG.i.1.1 OG.i.2.1;rw[hst]at this;exact this);rw[hst]at CS RT;unfold aAX at CS;clear hst;have A0:=ab (show Aw W wr q q2 g [(W.a.j+1,c.ay)]from⟨ZR.i.X,by have:=HU.i.new;have:=Z4.i.X.j;omega,HU.i.lt,fun p hp=>by simp at hp;subst hp;exact⟨by omega,by have:=HU.i.new;have:=Z4.i.Z.lt;simp;omega,ZR.i.Z⟩⟩);have ka:=KB.i _ A0.i.X;clear ZR HU;go_upto_region 10 with(go_at_call 25;(with_reducible refine CS.i.g ?_);rintro r v1 ⟨o,y,sm,rfl,h1,h2,h3⟩;have HO:=ab h1;have HU:=ab h2;have HF:=ab h3;clear h1 h2 h3)
  have AV:=ab (A0.i.step HF.i);have ZB:=ab ((Bx.start v1).new o.ay 58);have OV:=ab HO.i.rd;have OC:=ab (ah6 HO.i.vM);generalize v1.alloc (.D o.ay 58)=v2 at ZB ⊢;obtain⟨p1,hp1⟩:∃p,p=v1.a.j:=⟨_,rfl⟩
  rw[<-hp1]at ZB ⊢;have HP1:=ab hp1;clear hp1 A0 CS HF ka HO;have RL:=ab (show∀(w:ak),aM v1.a.j v1 w->∃(i_:Nat)(x':Eg)(sl':List (Option Fw)),i_<=na/\bT.wrap ((i:Int)+1)=(i_:Int)/\Uno w4 w q ⟨k,c,vs⟩ (XW ⟨k,c,vs⟩ wT (ua.E i_)) x' q2 g sl' from fun w hb=>⟨i+1,y,sm,by omega,by rw[jY _ (by omega)];omega,by
   rw[RT.i];exact HU.i.go hb⟩)
  have kc:=KC.i _ (AV.i.go ZB.i.X).X;have o0:=(ZB.i.Z.R.1 1).trans (Oc.Qz o);by_cases hk:u.kind=1;rotate_left
  ·have k1:(a.kind != 1)=true:=by rw[OI.i.kind];simpa using hk
   have k2:decide (a.kind≠1)=true:=by rw[OI.i.kind];simpa using hk
   have k3:(!decide (a.kind=1))=true:=by rw[OI.i.kind];simpa using hk
   clear hk;go_wp2;go_roundw
   case rel=>exact⟨i+1,y,sm,by omega,by go_num,by rw[RT.i];exact HU.i.go ZB.i.X⟩
   case measure=>simp[intOf]<;>omega
  have k1:(a.kind != 1)=false:=by rw[OI.i.kind];simpa using hk
  have k2:decide (a.kind≠1)=false:=by rw[OI.i.kind];simpa using hk
  have k3:(!decide (a.kind=1))=false:=by rw[OI.i.kind];simpa using hk
  by_cases hr:o.jm=0;rotate_left
  ·have r1:(o.jm != 0)=true:=by simpa using hr
   have r2:decide (o.jm≠0)=true:=by simpa using hr
   have r3:(!decide (o.jm=0))=true:=by simpa using hr
   clear hr hk;go_wp2;go_roundw
   case rel=>exact⟨i+1,y,sm,by omega,by go_num,by rw[RT.i];exact HU.i.go ZB.i.X⟩
   case measure=>simp[intOf]<;>omega
  have r1:(o.jm != 0)=false:=by simpa using hr
  have r2:decide (o.jm≠0)=false:=by simpa using hr
  have r3:(!decide (o.jm=0))=false:=by simpa using hr
  obtain⟨bk,j,sn⟩:=ag9 HI.i HST.i hk (by rw[<-OV.i.jm];exact hr);have SN:=ab sn;clear sn hr hk;have KN:=ab (fun(w':ak) (h:dP w' p1 o.ay)=>show w'.b ⟨p1,4,none⟩=some (.g (bK o.F))from(h.R.1 4).trans (Oc.zJ o));have CT:=ab (fun(w:ak) (hb:aM v1.a.j v1 w)=>Ru (HU.i.go hb).r IT.i);have FI:=ab (fun(X:Sh) (w:ak) (hS:StR w w.a.j X t)=>ak3 t.h IT.i.srt o.F X.nP X.b.A X.b.n X.b.c w hS.b (by have:=hS.nb;omega) bk (by rw[OV.i.F,SN.i.h];exact SN.i.got) true (by rw[OV.i.F,SN.i.h];exact SN.i.has));unfold awe at CT;go_upto_region 11 with fail
  go_cut [11,12]from 63 to 71 (fun s11 s12 wx=>∃yb,s11=.c (some ⟨yb,0,none⟩)/\s12=.e true/\Bx [(yb,bk.ay),(p1,o.ay)] v1 wx)
  case first=>
   have ZD:=ab ZB.i.drew;have ZP:=ab (ZB.i.new jq.ay 62).drew;go_region_held_law (fun w'=>w'.b ⟨p1,4,none⟩=some (.g (bK o.F)))
    (first|exact KN.i _ ZD.i.Z|exact KN.i _ ZP.i.b1|exact KN.i _ Z8.i.Z|exact KN.i _ Z9.i.b1|exact KN.i _ (Z8.i.new jq.ay 62).b1|exact KN.i _ ZA.i.Z|exact KN.i _ ZC.i.b1|exact KN.i _ ZE.i.b1|exact KN.i _ ZB.i.Z|exact KN.i _ (ZB.i.new jq.ay 62).b1|exact KN.i _ (ZA.i.new bk.ay 62).b1|exact KN.i _ ZQ.i.b1|exact KN.i _ ZS.i.b1|go_keep)
    (first
    | (go_at_call 20;(with_reducible refine(CT.i _ ZD.i.X).g ?_);rintro r w8 ⟨X,rfl,ho,hb⟩;have Z8:=ab (ZD.i.go hb);have S8:=ab (ho.r IT.i);clear ho hb)
    | (go_at_call 20;(with_reducible refine(CT.i _ ZP.i.X).g ?_);rintro r w9 ⟨X,rfl,ho,hb⟩;have Z9:=ab (ZP.i.go hb);have S9:=ab (ho.r IT.i);clear ho hb)
    | (go_at_call 33;(with_reducible refine(FI.i X _ S8.i).g ?_);rintro r wa ⟨rfl,hb⟩;have ZA:=ab (Z8.i.go hb);clear hb)
    | (go_at_call 33;(with_reducible refine(FI.i X _ (S8.i.go ((aG _ _).alloc (av _) _))).g ?_);rintro r wc ⟨rfl,hb⟩;have ZC:=ab ((Z8.i.new jq.ay 62).go hb);have thc:=ZC.i.Z.S 0 27 (aU (Bk.J jq).symm);have ZQ:=ab (ZC.i.put (fun p hp=>iO (Z8.i.2 p hp).2.lt) bk.ay (by rw[Bk.J,Bk.J]));clear hb)
    | (go_at_call 33;(with_reducible refine(FI.i X _ S9.i).g ?_);rintro r we ⟨rfl,hb⟩;have ZE:=ab (Z9.i.go hb);have aMU:=ZE.i.Z.S 0 27 (aU (Bk.J jq).symm);have ZS:=ab (ZE.i.put (fun p hp=>iO (ZB.i.2 p hp).2.lt) bk.ay (by rw[Bk.J,Bk.J]));clear hb))
   all_goals(first|go_meet|(go_wp2_with fail;go_meet))
   all_goals(first
    | exact⟨_,rfl,rfl,ZA.i.new bk.ay 62⟩
    | exact⟨_,rfl,rfl,ZQ.i⟩
    | exact⟨_,rfl,rfl,ZS.i⟩)
  obtain⟨yb,rfl,rfl,Z3⟩:=hcut;have Z3:=ab Z3;generalize wc=w3 at Z3 ⊢;obtain⟨p,hp⟩:=cB (lW u.frame);have HP:=ab hp;have CP:=ab (fun(w:ak) (hb:aM v1.a.j v1 w)=>zD w a.Um a.IW a.Gc u.frame OI.i.Gc.1 (by have:=OI.i.Gc;omega) (OI.i.go (AV.i.go hb).X).fr);have CF:=ab (fun(w:ak) (hb:aM v1.a.j v1 w)=>XP c vs p.K.dst p.K.aN p.K.iG w (V0.i.go (AV.i.go hb).X) N5.i);have hj:LQ vs p.K.dst p.K.aN p.K.iG=((j:Nat):Int):=by rw[hp];exact SN.i.dW.1
  rw[hj]at CF;rw[<-hp]at CP;unfold PkP at CP;clear hp hj kc;have kf:=KF.i _ (AV.i.go Z3.i.X).X;go_upto_region 13 with(go_at_call 32;(with_reducible refine(CP.i _ Z3.i.X).g ?_);rintro r w4 ⟨rfl,hb⟩;have ZN:=ab (Z3.i.go hb);clear hb)
  have HY:=ab (fun z (hz:z∈[(yb,bk.ay),(p1,o.ay)])=>((ZN.i.2 z hz).2.lt:z.1<w4.a.j));have Z4:=ab (ZN.i.new p.ay 83);clear ZN kf;generalize w4.alloc (.D p.ay 83)=w5 at Z4 ⊢;generalize w4.a.j=y2 at Z4 HY ⊢;have l2:=VO.nR ((AV.i.go Z4.i.X).box (p:=(W.a.j+1,c.ay)) (by simp)) (Cn.J _);have l3:=Z4.i.Z.LU (o:=18) (a:=p.K.dst) (Pk.aiu p) (by rw[Pk.J];omega);have l4:=(Z4.i.Z.R.1 35).trans ((Pk.Xb p 34 (by omega)).trans (Tu.Qc _));have l5:=(Z4.i.Z.R.1 37).trans ((Pk.Xb p 36 (by omega)).trans (Tu.Qd _));go_upto_region 14 with(go_at_call 37;(with_reducible refine(CF.i _ Z4.i.X).g ?_);rintro r w6 ⟨rfl,hb⟩;have Z5:=ab (Z4.i.go hb);clear hb)
  clear l2 l3 l4 l5 CF Z4;have HN:=ab (show o'.i.a=o.EM/\14<=o.EM from⟨OV.i.i.len,by have h1:=SN.i.len;have h2:=OV.i.i.len;omega⟩);have RO:=ab ((OV.i.go Z5.i.X).i);have n14:decide ((o.EM:Int)<14)=false:=decide_eq_false (by have:=HN.i;omega);have n0:decide (((j:Nat):Int)<0)=false:=decide_eq_false (by omega);have s6:(6:Int)<=(o.JY:Int):=by have h1:=HN.i;have h2:=OC.i;omega
  have s12:(12:Int)<=(o.JY:Int):=by have h1:=HN.i;have h2:=OC.i;omega
  have f5:=(Z5.i.b2.R.1 5).trans (Oc.agU o);have t1:∀n,(convert 56 9 (.a o.Lg 6 o.JY)).O ah (w6.drewN n)=.ok (.g (bK bk.xQ.a)) (w6.drewN n):=fun n=>by
   have h:=(vQ (RO.i.upN (show 6<=o.EM by have:=HN.i;omega)) o.JY).1 _ (eD (aG _ _) n);rw[SN.i.xQ]at h;exact h
  have t2:∀n,(convert 56 9 (.a (sH o.Lg 6 o.JY 1) 6 (o.JY-6))).O ah (w6.drewN n)=.ok (.g (bK c.xQ.a)) (w6.drewN n):=fun n=>by
   have h:=(vQ (RO.i.XE (z:=6) (b:=12) (c:=o.JY) (by omega) (by have:=HN.i;omega) OC.i.1) (o.JY-6)).1 _ (eD (aG _ _) n);rw[show(o'.i.E 12).G 6=c.xQ.a by rw[List.drop_take];exact SN.i.vM]at h;exact h
  have t3:∀n,(convert 56 9 (.a (some ⟨yb,19,none⟩) 6 6)).O ah (w6.drewN n)=.ok (.g (bK bk.xQ.a)) (w6.drewN n):=fun n=>by
   have h:=(vQ (Z5.i.b1.bytes (o:=19) (l:=bk.xQ.a) (fun j hj=>Bk.ag' bk j (by simpa using hj))) 6).1 _ (eD (aG _ _) n);rw[show bk.xQ.a.a=6 by simp]at h;exact h
  have t4:∀n,(convert 56 9 (.a (some ⟨W.a.j+1,11,none⟩) 6 6)).O ah (w6.drewN n)=.ok (.g (bK c.xQ.a)) (w6.drewN n):=fun n=>by
   have h:=(vQ (((AV.i.go Z5.i.X).box (p:=(W.a.j+1,c.ay)) (by simp)).bytes (o:=11) (l:=c.xQ.a) (fun j hj=>Cn.ag' c j (by simpa using hj))) 6).1 _ (eD (aG _ _) n);rw[show c.xQ.a.a=6 by simp]at h;exact h
  go_quiet (fail);have Z6:=ab (Z5.i.drewN nq);obtain⟨w7,hw7⟩:∃wz,wz=w6.drewN nq:=⟨_,rfl⟩
  rw[<-hw7]at Z6;rw[<-hw7];clear hw7 t1 t2 t3 t4 n14 s6 s12 f5 n0 RO;obtain⟨E,hE,hE1,hE2⟩:∃E:Nat,p.rE=(E:Int)/\14<=E/\E<=u.frame.a:=⟨p.rE.e,by have:=SN.i.fin;rw[<-HP.i]at this;omega⟩
  have HE:=ab (show p.rE=(E:Int)/\14<=E/\E<=a.IW/\a.IW<=1500/\a.IW<=a.Gc from⟨hE,hE1,by have:=OI.i.fr.len;omega,FA2.i,OI.i.Gc.1⟩);have HL5:=ab (show o.EM<=3000 by have h1:=SN.i.aa1;have h2:=HN.i;have h3:=HE.i;have h4:=OI.i.fr.len;omega);clear hE hE1 hE2;have c0:=(((AV.i.go Z6.i.X).box (p:=(W.a.j+1,c.ay)) (by simp)).R.1 0).trans (Cn.Ed c);obtain⟨vb,vo,hvA,_,hvc⟩:=iT.cell Vp.J mJ (V0.i.go (AV.i.go Z6.i.X).X) (show j<c.gT by have h1:=SN.i.dW.2;have h2:=V0.i.1;simp only at h1;omega);rw[hvA]at c0;have v19:=(hvc 19 (by omega)).trans (Vp.YO _);have hjn:((j:Nat):Int)<c.gT:=by have h1:=SN.i.dW.2;have h2:=V0.i.1;simp only at h1;omega
  obtain⟨tn,htn⟩:∃b,(vs.b j mJ).Ak=b:=⟨_,rfl⟩
  rw[htn]at v19;have HT:=ab htn;have f5:=(Z6.i.b2.R.1 5).trans (Oc.agU o);clear hvc htn;cases tn
  ·have SR:=ab (SN.i.rew HT.i)
   have CP2:=ab (fun(w:ak) (hb:aM v1.a.j v1 w)=>zD w o.Lg o.EM o.JY o'.i OC.i.1 ⟨OC.i.2,by have:=HL5.i;omega⟩ (OV.i.go hb).i);obtain⟨pq,hpq⟩:∃x,x=lW o'.i:=⟨_,rfl⟩
   have HQ:=ab (show({{p with K:={p.K with dst:=bk.h}}with K:={({p with K:={p.K with dst:=bk.h}}:Pk).K with iG:=bk.ni}}:Pk)=pq/\pq.rE=(E:Int)by
    rw[hpq,SR.i.1,HP.i];exact⟨rfl,by have h:=HE.i.1;rw[HP.i]at h;exact h⟩)
   unfold PkP at CP2;rw[<-hpq]at CP2;clear hpq;go_upto_region 18 with(go_at_call 32;(with_reducible refine(CP2.i _ Z6.i.X).g ?_);rintro r w8 ⟨rfl,hb⟩;have ZN:=ab (Z6.i.go hb);clear hb)
   have HY3:=ab (fun z (hz:z∈[(y2,p.ay),(yb,bk.ay),(p1,o.ay)])=>((ZN.i.2 z hz).2.lt:z.1<w8.a.j));have Z8:=ab (ZN.i.new pq.ay 83);clear ZN c0 v19 hjn f5;generalize w8.alloc (.D pq.ay 83)=w9 at Z8 ⊢;generalize w8.a.j=y3 at Z8 HY3 ⊢;have HD:=ab (show∀z∈[(y3,pq.ay),(yb,bk.ay),(p1,o.ay)],z.1≠y2 from fun z hz=>by
    have h1:=HY3.i (y2,p.ay) (by simp);simp only[bD,List.mem_nil_iff,or_false]at hz;rcases hz with rfl|rfl|rfl
    ·exact Nat.ne_of_gt h1
    ·exact iO (HY.i _ (by simp))
    ·exact iO (HY.i _ (by simp)))
   have la:=Z8.i.b2.LU (o:=1) (a:=bk.h) (Bk.ahk bk) (by rw[Bk.J];omega);have th:=Z8.i.b1.S 18 17 (by rw[Pk.J];omega);have Z9:=ab (Z8.i.swap.lay HD.i 18 bk.h.ay);rw[Pk.KJ]at Z9;go_upto_region 19 with fail
   generalize gV w9 y2 18 bk.h.ay=w10 at Z9 ⊢;clear la th Z8;have lp:=(Z9.i.b2.R.1 18).trans (Bk.aeZ bk);have d1:=(Z9.i.Z.R.1 37).trans ((Pk.Xb _ 36 (by omega)).trans (Tu.Qd _));have d2:=Z9.i.Z.R.2.1 37;have ZX:=ab (Z9.i.set HD.i 37 (.b .a bk.ni));rw[Pk.ak2,HQ.i.1]at ZX;go_upto_region 20 with fail
   generalize w10.I ⟨y2,37,none⟩ (aI .a bk.ni)=w11 at ZX ⊢;clear d1 d2 lp Z9;have lq:=kPk.nR ZX.i.Z (Pk.J _);have lr:=kPk.nR ZX.i.b1 (Pk.J _);have f5:=(ZX.i.b3.R.1 5).trans (Oc.agU o);have fe:=(ZX.i.Z.R.1 41).trans ((Pk.Ud pq).trans (by rw[HQ.i.2]));have ne:((o.EM:Int) != (E:Int))=false:=by have h1:=SR.i.2;have h2:=HN.i.1;have h3:=HE.i.1;rw[HP.i]at h3;simp;omega
   have ne2:decide ((o.EM:Int)≠(E:Int))=false:=by simpa using ne
   have ne3:decide ((o.EM:Int)=(E:Int))=true:=by simpa using ne
   go_wp2;go_roundw
   case rel=>exact⟨i+1,y,sm,by omega,by go_num,by rw[RT.i];exact HU.i.go ZX.i.X⟩
   case measure=>simp[intOf]<;>omega
  obtain⟨z,hz1,hz2,hz3⟩:=SN.i.tun HT.i;have CU:=ab (fun(w:ak) (hb:aM v1.a.j v1 w)=>abB w o.Lg o.EM o.JY o'.i OC.i.1 ⟨OC.i.2,by have:=HL5.i;omega⟩ (OV.i.go hb).i);unfold azk at CU;rw[hz1]at CU;have HZ:=ab (show z.a=E/\z.G 12=(u.frame.E E).G 12 by
   have h:=HE.i.1;rw[HP.i]at h;rw[h]at hz2 hz3;exact⟨by omega,by rw[hz3];simp⟩)
  clear hz1 hz2 hz3;go_upto_region 23 with(go_at_call 38;(with_reducible refine(CU.i _ Z6.i.X).g ?_);rintro r w8 ⟨A8,n8,c8,rfl,hr8,hn8,hb⟩;have R8:=ab hr8;have N8:=ab hn8;have Z8:=ab (Z6.i.go hb);clear hb hr8 hn8)
  clear c0 v19 hjn f5 CU;have L8:=ab (show n8=E from R8.i.len.symm.trans HZ.i.1);obtain rfl:=L8.i;have kf:=KF.i _ (AV.i.go Z8.i.X).X;have fe:=(Z8.i.Z.R.1 41).trans ((Pk.Ud p).trans (by rw[HE.i.1]));have x1:(12:Int)<=(n8:Int):=by have:=HE.i;omega
  have x2:((n8:Nat):Int)<=(a.Gc:Int):=by have:=HE.i;omega
  have x3:(n8:Int)<=(a.IW:Int):=by have:=HE.i;omega
  have t1:∀n,(convert 56 9 (.a (sH A8 12 c8 1) (n8-12) (c8-12))).O ah (w8.drewN n)=.ok (.g (bK ((u.frame.E n8).G 12))) (w8.drewN n):=fun n=>by
   have h:=(vQ (R8.i.yt (z:=12) (c:=c8) (by have:=HE.i;omega) N8.i) (c8-12)).1 _ (eD (aG _ _) n);rw[HZ.i.2]at h;exact h
  have t2:∀n,(convert 56 9 (.a (sH a.Um 12 a.Gc 1) (n8-12) (a.Gc-12))).O ah (w8.drewN n)=.ok (.g (bK ((u.frame.E n8).G 12))) (w8.drewN n):=fun n=>
   (vQ ((OI.i.go (AV.i.go Z8.i.X).X).fr.XE (z:=12) (b:=n8) (c:=a.Gc) (by have:=HE.i;omega) (by have:=HE.i;omega) (by have:=HE.i;omega)) (a.Gc-12)).1 _ (eD (aG _ _) n)
  go_quiet (fail);go_wp2;go_roundw
  case rel=>exact⟨i+1,y,sm,by omega,by go_num,by rw[RT.i];exact HU.i.go (Z8.i.drewN nq).X⟩
  case measure=>simp[intOf]<;>omega
end
end Go.Proofs.YtkjojjopamaoiaaGreat
