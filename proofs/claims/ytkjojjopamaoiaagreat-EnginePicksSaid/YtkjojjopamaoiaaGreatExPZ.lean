/- EnginePicks: the law's row. -/
import Derived.Test.YtkjojjopamaoiaaGreatPk7
import Derived.Test.YtkjojjopamaoiaaGreatPk8
set_option linter.all false
set_option maxRecDepth 100000
set_option maxHeartbeats 8000000
open Go.Proofs.Tryz renaming prog->ah,f7->oI
namespace Go.Proofs.YtkjojjopamaoiaaGreat
open Go.RowKit
section
open Go.ChangeShapes Go.WideShapes Go.ChangeAt Go.RowKit
theorem Me(os:Os)(started:os.Started)(H:Type)(enc:TypeId×Value->H):
 ReturnsInHanded {} Tryz.checked os 7 .any (Rows.enginePicksSpec.pre6 enc ah oI Rows.enginePicksRow.domain false) (Rows.enginePicksSpec.post enc ah oI false true false false):=by
 refine returnsInHanded_of_change (C:=Tryz.checked) vS started (by kernel_rfl) Tryz.func7
  (ChangeSpec.witness6 (enc:=enc) (C:=Tryz.checked) false ⟨#[],#[.agg (iH (Vector.replicate 16 0)),.agg Py.ay,.slice none 0 0],[]⟩ 8 (by kernel_rfl) (by kernel_rfl) (by kernel_rfl) (by kernel_rfl)) ?_
 intro W base args ds gs before hval0 hW hcnd _;have hval:∀(j:Nat) t v,oI.params[j]? = some t->args[j]? = some v->Value.okWide ah W .any base t v:=hval0;have hW':=hW;obtain⟨p,q,hA0,hV,rfl,hfz,hnd⟩:=hW;have hA:DataW.TrodAll enc ah W 0 (fun _=>true) true oI.params.toList args.toList ds p:=hA0;rw[Tryz.params7]at hA hval;obtain⟨v0,vs0,d0,ds0,p0,q0,hargs,rfl,rfl,h0,r0⟩:=trodAll_cons hA;obtain⟨v1,vs1,d1,ds1,p1,q1,rfl,rfl,rfl,h1,r1⟩:=trodAll_cons r0;obtain⟨v2,vs2,d2,ds2,p2,q2,rfl,rfl,rfl,h2,r2⟩:=trodAll_cons r1;obtain⟨rfl,rfl,rfl⟩:=trodAll_nil r2;obtain rfl:args = #[v0,v1,v2]:=by cases args;simp_all
 obtain⟨k,rfl⟩:=aom (hval 0 22 v0 rfl rfl) h0;obtain⟨c,vsc,rfl,hVc,aFV,aFW⟩:=arv (hval 1 29 v1 rfl rfl) h1;obtain⟨Aa,na,ca,la,ua,rfl,hRa,aAt,hOa,hna⟩:=akH (hval 2 49 v2 rfl rfl) h2;clear hA0 hval0;refine(Qo k c vsc Aa na ca la ua W hVc aFV aFW hRa aAt hOa hna).mono fun e W' ⟨he,hb⟩=>?_
 subst he;exact⟨_,rfl,ak5 ag9 rfl (by kernel_rfl) 4 Tryz.underlying4 rfl hW' rfl hb⟩
theorem enginePicks_holds:Rows.EnginePicksSaid:=
 OpenClaim.holds_of_wide 7 oI rfl rfl rfl rfl rfl rfl rfl ⟨rfl,rfl,rfl,rfl,rfl⟩ rfl rfl rfl rfl rfl Ph Tryz.func7 Lv Pj Pm
  (fun os started H enc _=>Me os started H enc)
#print axioms enginePicks_holds
end
end Go.Proofs.YtkjojjopamaoiaaGreat
