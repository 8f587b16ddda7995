/- EngineCounts: the law's row. -/
import Derived.Test.YtkjojjopamaoiaaGreatSb8
import Derived.Test.YtkjojjopamaoiaaGreatSb9
set_option linter.unusedSimpArgs false
set_option linter.unusedVariables false
set_option linter.unusedSectionVars false
set_option maxRecDepth 100000
set_option maxHeartbeats 8000000
open Go.Proofs.Tryz renaming prog->ah,f6->oK
namespace Go.Proofs.YtkjojjopamaoiaaGreat
open Go.RowKit
section
open Go.ChangeShapes Go.WideShapes Go.ChangeAt Go.RowKit
theorem Kj(os:Os)(started:os.Started)(H:Type)(enc:TypeId×Value->H):
 ReturnsInHanded {} Tryz.checked os 6 .any (Rows.engineCountsSpec.pre6 enc ah oK Rows.engineCountsRow.domain false) (Rows.engineCountsSpec.post enc ah oK false true false false):=by
 refine returnsInHanded_of_change (C:=Tryz.checked) vB started (by kernel_rfl) Tryz.func6
  (ChangeSpec.witness6 (enc:=enc) (C:=Tryz.checked) false ⟨#[],#[.agg (jd (Vector.replicate 16 0)),.agg Ql.ay,.slice none 0 0],[]⟩ 8 (by kernel_rfl) (by kernel_rfl) (by kernel_rfl) (by kernel_rfl)) ?_
 intro W base args ds gs before hval0 hW hcnd _;have hval:∀(j:Nat) t v,oK.params[j]? = some t->args[j]? = some v->Value.okWide ah W .any base t v:=hval0;have hW':=hW;obtain⟨p,q,hA0,hV,rfl,hfz,hnd⟩:=hW;have hA:DataW.TrodAll enc ah W 0 (fun _=>true) true oK.params.toList args.toList ds p:=hA0;rw[Tryz.params6]at hA hval;obtain⟨v0,vs0,d0,ds0,p0,q0,hargs,rfl,rfl,h0,r0⟩:=trodAll_cons hA;obtain⟨v1,vs1,d1,ds1,p1,q1,rfl,rfl,rfl,h1,r1⟩:=trodAll_cons r0;obtain⟨v2,vs2,d2,ds2,p2,q2,rfl,rfl,rfl,h2,r2⟩:=trodAll_cons r1;obtain⟨rfl,rfl,rfl⟩:=trodAll_nil r2;obtain rfl:args = #[v0,v1,v2]:=by cases args;simp_all
 obtain⟨k,rfl⟩:=anX (hval 0 22 v0 rfl rfl) h0;obtain⟨c,vsc,rfl,hVc,aFH,aFI⟩:=aqY (hval 1 29 v1 rfl rfl) h1;obtain⟨Aa,na,ca,la,ua,rfl,hRa,aAh,hOa,hna⟩:=akf (hval 2 49 v2 rfl rfl) h2;clear hA0 hval0;refine(Oj k c vsc Aa na ca la ua W hVc aFH aFI hRa aAh hOa hna).mono fun e W' ⟨he,hb⟩=>?_
 subst he;exact⟨_,rfl,akD agI rfl (by kernel_rfl) 4 Tryz.underlying4 rfl hW' rfl hb⟩
theorem engineCounts_holds:Rows.EngineCountsSaid:=
 OpenClaim.holds_of_wide 6 oK rfl rfl rfl rfl rfl rfl rfl ⟨rfl,rfl,rfl,rfl,rfl⟩ rfl rfl rfl rfl rfl ME Tryz.func6 Ka MF MG
  (fun os started H enc _=>Kj os started H enc)
#print axioms engineCounts_holds
end
end Go.Proofs.YtkjojjopamaoiaaGreat
