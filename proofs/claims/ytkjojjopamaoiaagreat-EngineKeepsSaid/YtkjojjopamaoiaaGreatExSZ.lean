/- EngineKeeps: the law's row. -/
import Derived.Test.YtkjojjopamaoiaaGreatKp8
import Derived.Test.YtkjojjopamaoiaaGreatKp9
set_option linter.all false
set_option maxRecDepth 100000
set_option maxHeartbeats 8000000
open Go.Proofs.Tryz renaming prog->aj,f10->mY
namespace Go.Proofs.YtkjojjopamaoiaaGreat
open Go.RowKit
section
open Go.ChangeShapes Go.WideShapes Go.ChangeAt Go.RowKit
theorem Mt(os:Os)(started:os.Started)(H:Type)(enc:TypeId×Value->H):
 ReturnsInHanded {} Tryz.checked os 10 .any (Rows.engineKeepsSpec.pre6 enc aj mY Rows.engineKeepsRow.domain false) (Rows.engineKeepsSpec.post enc aj mY false true false false):=by
 refine returnsInHanded_of_change (C:=Tryz.checked) vD started (by kernel_rfl) Tryz.func10
  (ChangeSpec.witness6 (enc:=enc) (C:=Tryz.checked) false ⟨#[],#[.agg (jg (Vector.replicate 16 0)),.agg PN.aA,.slice none 0 0],[]⟩ 8 (by kernel_rfl) (by kernel_rfl) (by kernel_rfl) (by kernel_rfl)) ?_
 intro W base args ds gs before hval0 hW hcnd _;have hval:∀(j:Nat) t v,mY.params[j]? = some t->args[j]? = some v->Value.okWide aj W .any base t v:=hval0;have hW':=hW;obtain⟨p,q,hA0,hV,rfl,hfz,hnd⟩:=hW;have hA:DataW.TrodAll enc aj W 0 (fun _=>true) true mY.params.toList args.toList ds p:=hA0;rw[Tryz.params10]at hA hval;obtain⟨v0,vs0,d0,ds0,p0,q0,hargs,rfl,rfl,h0,r0⟩:=trodAll_cons hA;obtain⟨v1,vs1,d1,ds1,p1,q1,rfl,rfl,rfl,h1,r1⟩:=trodAll_cons r0;obtain⟨v2,vs2,d2,ds2,p2,q2,rfl,rfl,rfl,h2,r2⟩:=trodAll_cons r1;obtain⟨rfl,rfl,rfl⟩:=trodAll_nil r2;obtain rfl:args = #[v0,v1,v2]:=by cases args;simp_all
 obtain⟨k,rfl⟩:=aod (hval 0 22 v0 rfl rfl) h0;obtain⟨c,vsc,rfl,hVc,aGm,aGn⟩:=aro (hval 1 29 v1 rfl rfl) h1;obtain⟨Aa,na,ca,la,ua,rfl,hRa,aAU,hOa,hna⟩:=akv (hval 2 49 v2 rfl rfl) h2;clear hA0 hval0;refine(Qn k c vsc Aa na ca la ua W hVc aGm aGn hRa aAU hOa hna).mono fun e W' ⟨he,hb⟩=>?_
 subst he;exact⟨_,rfl,akT ag2 rfl (by kernel_rfl) 4 Tryz.underlying4 rfl hW' rfl hb⟩
theorem engineKeeps_holds:Rows.EngineKeepsSaid:=
 OpenClaim.holds_of_wide 10 mY rfl rfl rfl rfl rfl rfl rfl ⟨rfl,rfl,rfl,rfl,rfl⟩ rfl rfl rfl rfl rfl Po Tryz.func10 LQ Pp Pq
  (fun os started H enc _=>Mt os started H enc)
#print axioms engineKeeps_holds
end
end Go.Proofs.YtkjojjopamaoiaaGreat
