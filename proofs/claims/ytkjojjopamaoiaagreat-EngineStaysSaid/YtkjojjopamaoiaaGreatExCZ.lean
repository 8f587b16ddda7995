/- EngineStays: the law's row. -/
import Derived.Test.YtkjojjopamaoiaaGreatSa7
import Derived.Test.YtkjojjopamaoiaaGreatSa8
set_option linter.unusedSimpArgs false
set_option linter.unusedVariables false
set_option linter.unusedSectionVars false
set_option maxRecDepth 100000
set_option maxHeartbeats 8000000
open Go.ChangeShapes renaming trodAll_cons->EA
open Go.Proofs.Tryz renaming prog->ah,f8->oI
namespace Go.Proofs.YtkjojjopamaoiaaGreat
open Go.RowKit
section
open Go.ChangeShapes Go.WideShapes Go.ChangeAt Go.RowKit
theorem Lm(os:Os)(started:os.Started)(H:Type)(enc:TypeId×Value->H):
 ReturnsInHanded {} Tryz.checked os 8 .any (Rows.engineStaysSpec.pre6 enc ah oI Rows.engineStaysRow.domain false) (Rows.engineStaysSpec.post enc ah oI false true false false):=by
 refine returnsInHanded_of_change (C:=Tryz.checked) vC started (by kernel_rfl) Tryz.func8
  (ChangeSpec.witness6 (enc:=enc) (C:=Tryz.checked) false ⟨#[],#[.agg (iZ (Vector.replicate 16 0)),.agg OH.ay,.slice none 0 0,.slice none 0 0,.slice none 0 0],[]⟩ 8 (by kernel_rfl) (by kernel_rfl) (by kernel_rfl) (by kernel_rfl)) ?_
 intro W base args ds gs before hval0 hW hcnd _;have hval:∀(j:Nat) t v,oI.params[j]? = some t->args[j]? = some v->Value.okWide ah W .any base t v:=hval0;have hW':=hW;obtain⟨p,q,hA0,hV,rfl,hfz,hnd⟩:=hW;have hA:DataW.TrodAll enc ah W 0 (fun _=>true) true oI.params.toList args.toList ds p:=hA0;rw[Tryz.params8]at hA hval;obtain⟨v0,vs0,d0,ds0,p0,q0,hargs,rfl,rfl,h0,r0⟩:=EA hA;obtain⟨v1,vs1,d1,ds1,p1,q1,rfl,rfl,rfl,h1,r1⟩:=EA r0;obtain⟨v2,vs2,d2,ds2,p2,q2,rfl,rfl,rfl,h2,r2⟩:=EA r1;obtain⟨v3,vs3,d3,ds3,p3,q3,rfl,rfl,rfl,h3,r3⟩:=EA r2;obtain⟨v4,vs4,d4,ds4,p4,q4,rfl,rfl,rfl,h4,r4⟩:=EA r3;obtain⟨rfl,rfl,rfl⟩:=trodAll_nil r4;obtain rfl:args = #[v0,v1,v2,v3,v4]:=by cases args;simp_all
 obtain⟨k,rfl⟩:=anC (hval 0 22 v0 rfl rfl) h0;obtain⟨c,vsc,rfl,hVc,aE6,aE7⟩:=aqE (hval 1 29 v1 rfl rfl) h1;obtain⟨Aa,na,ca,la,ua,rfl,hRa,azJ,hOa,hna⟩:=ajS (hval 2 49 v2 rfl rfl) h2;obtain⟨Af,nf,cf,lf,rfl,hRf,hgf,hmf⟩:=agd (hval 3 56 v3 rfl rfl) h3;obtain⟨Ab,nb,cb,lb,rfl,hRb,hgb,hmb⟩:=aij (hval 4 94 v4 rfl rfl) h4;clear hA0 hval0;refine(Pm k c vsc Aa Af Ab na ca nf cf nb cb la ua lf lb W hVc aE6 aE7 hRa azJ hOa hna hRf hgf hmf hRb hgb hmb).mono fun e W' ⟨he,hb⟩=>?_
 subst he;exact⟨_,rfl,akh agl rfl (by kernel_rfl) 4 Tryz.underlying4 rfl hW' rfl hb⟩
theorem engineStays_holds:Rows.EngineStaysSaid:=
 OpenClaim.holds_of_wide 8 oI rfl rfl rfl rfl rfl rfl rfl ⟨rfl,rfl,rfl,rfl,rfl⟩ rfl rfl rfl rfl rfl Om Tryz.func8 KU Oo Oq
  (fun os started H enc _=>Lm os started H enc)
#print axioms engineStays_holds
end
end Go.Proofs.YtkjojjopamaoiaaGreat
