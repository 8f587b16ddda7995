/- EngineSends: the law's row. -/
import Derived.Test.YtkjojjopamaoiaaGreatSc7
import Derived.Test.YtkjojjopamaoiaaGreatSc8
set_option linter.unusedSimpArgs false
set_option linter.unusedVariables false
set_option linter.unusedSectionVars false
set_option maxRecDepth 100000
set_option maxHeartbeats 8000000
open Go.Proofs.Tryz renaming prog->ah,f11->nJ
namespace Go.Proofs.YtkjojjopamaoiaaGreat
open Go.RowKit
section
open Go.ChangeShapes Go.WideShapes Go.ChangeAt Go.RowKit
theorem MP(os:Os)(started:os.Started)(H:Type)(enc:TypeId×Value->H):
 ReturnsInHanded {} Tryz.checked os 11 .any (Rows.engineSendsSpec.pre6 enc ah nJ Rows.engineSendsRow.domain false) (Rows.engineSendsSpec.post enc ah nJ false true false false):=by
 refine returnsInHanded_of_change (C:=Tryz.checked) vM started (by kernel_rfl) Tryz.func11
  (ChangeSpec.witness6 (enc:=enc) (C:=Tryz.checked) false ⟨#[],#[.agg (jl (Vector.replicate 16 0)),.agg Qk.ay,.slice none 0 0],[]⟩ 8 (by kernel_rfl) (by kernel_rfl) (by kernel_rfl) (by kernel_rfl)) ?_
 intro W base args ds gs before hval0 hW hcnd _;have hval:∀(j:Nat) t v,nJ.params[j]? = some t->args[j]? = some v->Value.okWide ah W .any base t v:=hval0;have hW':=hW;obtain⟨p,q,hA0,hV,rfl,hfz,hnd⟩:=hW;have hA:DataW.TrodAll enc ah W 0 (fun _=>true) true nJ.params.toList args.toList ds p:=hA0;rw[Tryz.params11]at hA hval;obtain⟨v0,vs0,d0,ds0,p0,q0,hargs,rfl,rfl,h0,r0⟩:=trodAll_cons hA;obtain⟨v1,vs1,d1,ds1,p1,q1,rfl,rfl,rfl,h1,r1⟩:=trodAll_cons r0;obtain⟨v2,vs2,d2,ds2,p2,q2,rfl,rfl,rfl,h2,r2⟩:=trodAll_cons r1;obtain⟨rfl,rfl,rfl⟩:=trodAll_nil r2;obtain rfl:args = #[v0,v1,v2]:=by cases args;simp_all
 obtain⟨k,rfl⟩:=aoE (hval 0 22 v0 rfl rfl) h0;obtain⟨c,vsc,rfl,hVc,aGq,aGr⟩:=arP (hval 1 29 v1 rfl rfl) h1;obtain⟨Aa,na,ca,la,ua,rfl,hRa,aA0,hOa,hna⟩:=akP (hval 2 49 v2 rfl rfl) h2;clear hA0 hval0;refine(QC k c vsc Aa na ca la ua W hVc aGq aGr hRa aA0 hOa hna).mono fun e W' ⟨he,hb⟩=>?_
 subst he;exact⟨_,rfl,alh ahb rfl (by kernel_rfl) 4 Tryz.underlying4 rfl hW' rfl hb⟩
theorem engineSends_holds:Rows.EngineSendsSaid:=
 OpenClaim.holds_of_wide 11 nJ rfl rfl rfl rfl rfl rfl rfl ⟨rfl,rfl,rfl,rfl,rfl⟩ rfl rfl rfl rfl rfl PY Tryz.func11 Ml P5 P7
  (fun os started H enc _=>MP os started H enc)
#print axioms engineSends_holds
end
end Go.Proofs.YtkjojjopamaoiaaGreat
