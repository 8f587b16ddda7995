/- EngineSplits: the law's row. -/
import Derived.Test.YtkjojjopamaoiaaGreatXx7
import Derived.Test.YtkjojjopamaoiaaGreatXx8
set_option linter.unusedSimpArgs false
set_option linter.unusedVariables false
set_option linter.unusedSectionVars false
set_option maxRecDepth 100000
set_option maxHeartbeats 8000000
namespace Go.Proofs.YtkjojjopamaoiaaGreat
open Go.RowKit
section
open Go.ChangeShapes Go.WideShapes Go.ChangeAt Go.RowKit
theorem LM(os:Os)(started:os.Started)(H:Type)(enc:TypeId×Value->H):
 ReturnsInHanded {} Tryz.checked os 9 .any (Rows.engineSplitsSpec.pre6 enc Tryz.prog Tryz.f9 Rows.engineSplitsRow.domain false) (Rows.engineSplitsSpec.post enc Tryz.prog Tryz.f9 false true false false):=by
 refine returnsInHanded_of_change (C:=Tryz.checked) vU started (by kernel_rfl) Tryz.func9
  (ChangeSpec.witness6 (enc:=enc) (C:=Tryz.checked) false ⟨#[],#[.agg (iU (Vector.replicate 16 0)),.agg Rw.aA,.slice none 0 0,.slice none 0 0],[]⟩ 8 (by kernel_rfl) (by kernel_rfl) (by kernel_rfl) (by kernel_rfl)) ?_
 intro W base args ds gs before avL hW hcnd _;have hval:∀(j:Nat) t v,Tryz.f9.params[j]? = some t->args[j]? = some v->Value.okWide Tryz.prog W .any base t v:=avL;have hW':=hW;obtain⟨p,q,hA0,hV,rfl,hfz,hnd⟩:=hW;have hA:DataW.TrodAll enc Tryz.prog W 0 (fun _=>true) true Tryz.f9.params.toList args.toList ds p:=hA0;rw[Tryz.params9]at hA hval;obtain⟨v0,vs0,d0,ds0,p0,q0,aOo,rfl,rfl,h0,r0⟩:=trodAll_cons hA;obtain⟨v1,vs1,d1,ds1,p1,q1,rfl,rfl,rfl,h1,r1⟩:=trodAll_cons r0;obtain⟨v2,vs2,d2,ds2,p2,q2,rfl,rfl,rfl,h2,r2⟩:=trodAll_cons r1;obtain⟨v3,vs3,d3,ds3,p3,q3,rfl,rfl,rfl,h3,r3⟩:=trodAll_cons r2;obtain⟨rfl,rfl,rfl⟩:=trodAll_nil r3;obtain rfl:args = #[v0,v1,v2,v3]:=by cases args;simp_all
 obtain⟨k,rfl⟩:=aqm (hval 0 22 v0 rfl rfl) h0;obtain⟨c,vsc,rfl,hVc,aK5,aK6⟩:=atX (hval 1 29 v1 rfl rfl) h1;obtain⟨Aa,na,ca,la,ua,rfl,hRa,aEd,hOa,hna⟩:=abg (hval 2 49 v2 rfl rfl) h2;obtain⟨Ab,nb,cb,lb,ub,rfl,hRb,aEe,hOb,hnb⟩:=abg (hval 3 49 v3 rfl rfl) h3;clear hA0 avL;refine(Qj k c vsc Aa Ab na ca nb cb la lb ua ub W hVc aK5 aK6 hRa aEd hOa hna hRb aEe hOb hnb).mono fun e W' ⟨he,hb⟩=>?_
 subst he;exact⟨_,rfl,amQ aiy rfl (by kernel_rfl) 4 Tryz.underlying4 rfl hW' rfl hb⟩
theorem engineSplits_holds:Rows.EngineSplitsSaid:=
 OpenClaim.holds_of_wide 9 Tryz.f9 rfl rfl rfl rfl rfl rfl rfl ⟨rfl,rfl,rfl,rfl,rfl⟩ rfl rfl rfl rfl rfl Oo Tryz.func9 Lv Oq Ot
  (fun os started H enc _=>LM os started H enc)
#print axioms engineSplits_holds
end
end Go.Proofs.YtkjojjopamaoiaaGreat
