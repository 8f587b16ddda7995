import Derived.Test.YtkjojjopamaoiaaGreatSd8
import Derived.Test.YtkjojjopamaoiaaGreatSd9
set_option linter.all false
set_option maxRecDepth 100000
set_option maxHeartbeats 0
open Go.Proofs.Tryz renaming prog->ah,f3->pE
namespace Go.Proofs.YtkjojjopamaoiaaGreat
open Go.RowKit
section
open Go.ChangeShapes Go.WideShapes Go.ChangeAt Go.RowKit
theorem Lx(os:Os)(started:os.Started)(H:Type)(enc:TypeId×Value->H):
 ReturnsInHanded {} Tryz.checked os 3 .any (Rows.engineRightsSpec.pre6 enc ah pE Rows.engineRightsRow.domain false) (Rows.engineRightsSpec.post enc ah pE false true false false):=by
 refine returnsInHanded_of_change (C:=Tryz.checked) vL started (by kernel_rfl) Tryz.func3
  (ChangeSpec.witness6 (enc:=enc) (C:=Tryz.checked) false ⟨#[],#[.agg (jc (Vector.replicate 16 0)),.agg Rh.ay,.agg Hf.ay,.agg Hf.ay],[]⟩ 8 (by kernel_rfl) (by kernel_rfl) (by kernel_rfl) (by kernel_rfl)) ?_
 intro W base args ds gs before hval0 hW hcnd _;have hval:∀(j:Nat) t v,pE.params[j]? = some t->args[j]? = some v->Value.okWide ah W .any base t v:=hval0;have hW':=hW;obtain⟨p,q,hA0,hV,rfl,hfz,hnd⟩:=hW;have hA:DataW.TrodAll enc ah W 0 (fun _=>true) true pE.params.toList args.toList ds p:=hA0;rw[Tryz.params3]at hA hval;obtain⟨v0,vs0,d0,ds0,p0,q0,hargs,rfl,rfl,h0,r0⟩:=trodAll_cons hA;obtain⟨v1,vs1,d1,ds1,p1,q1,rfl,rfl,rfl,h1,r1⟩:=trodAll_cons r0;obtain⟨v2,vs2,d2,ds2,p2,q2,rfl,rfl,rfl,h2,r2⟩:=trodAll_cons r1;obtain⟨v3,vs3,d3,ds3,p3,q3,rfl,rfl,rfl,h3,r3⟩:=trodAll_cons r2;obtain⟨rfl,rfl,rfl⟩:=trodAll_nil r3;obtain rfl:args = #[v0,v1,v2,v3]:=by cases args;simp_all
 obtain⟨k,rfl⟩:=aoJ (hval 0 22 v0 rfl rfl) h0;obtain⟨c,vsc,rfl,hVc,aGB,aGC⟩:=ar1 (hval 1 29 v1 rfl rfl) h1;obtain⟨Xs,s,rfl,hs⟩:=ah8 (hval 2 37 v2 rfl rfl) h2;obtain⟨Xt,t,rfl,ht⟩:=ah8 (hval 3 37 v3 rfl rfl) h3;clear hA0 hval0;refine(Qc k c vsc Xs Xt s t W hVc aGB aGC hs ht).mono fun e W' ⟨he,hb⟩=>?_
 subst he;exact⟨_,rfl,alm ahs rfl (by kernel_rfl) 4 Tryz.underlying4 rfl hW' rfl hb⟩
theorem engineRights_holds:Rows.EngineRightsSaid:=
 OpenClaim.holds_of_wide 3 pE rfl rfl rfl rfl rfl rfl rfl ⟨rfl,rfl,rfl,rfl,rfl⟩ rfl rfl rfl rfl rfl N7 Tryz.func3 Lp Od Oe
  (fun os started H enc _=>Lx os started H enc)
#print axioms engineRights_holds
end
end Go.Proofs.YtkjojjopamaoiaaGreat
