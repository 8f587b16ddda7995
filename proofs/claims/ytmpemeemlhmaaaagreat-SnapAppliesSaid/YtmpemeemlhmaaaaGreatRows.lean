/-
  No cell of these rows narrows 'for every input' (looked for: loops, veiled, ifaces, maps, wideKeys, modest, calm, conditions, laid).
  DERIVED. THE GIVEN ROWS OF THIS SEAT. 7 by the template 'for every input the law returns true; each argument reads behind the call as it read before'; 0 by the template 'total and deterministic' (their statements: YtmpemeemlhmaaaaGreatTotals.lean).
  GIVEN WITH THE SEED: the statements are not yours to turn. If you find one false, say at which input.
  Laid BY PROGRAM, IN A SANDBOX (cutbox-rows.mjs): the forced cells as the released guide's own fill.sh prints them over the translation ef629cc0a01782e2… (all of the seat's roots in one cut). By AI agents, Wed Nov 11 2026. No macro, syntax, notation, axiom, sorry.
-/
import Derived.Test.YtmpemeemlhmaaaaGreatChecked
import GoSem.Claim
import GoSem.ClaimJoined
import GoSem.ClaimMapViews
import Derived.JoinedTies
import Derived.KernelRfl
namespace Go.Proofs.YtmpemeemlhmaaaaGreat
/- THE CELL 'sum', in the pinned program and in every row, IS THE sha256 OF THE DUMP (.gsa) THAT YtmpemeemlhmaaaaGreatProg.lean LOADS. Nothing in Lean hashes anything: it is a label: what it is worth is what the hold of that sum in a sandbox is worth. -/
noncomputable def Tryz.pinned : Pinned := { name := "ytmpemeemlhmaaaagreat", sum := "ef629cc0a01782e256800cad381b54114519a3566477b9b571ba3ce5f85a264a", checked := Tryz.checked }
namespace Rows
def none {H : Type} : Left H := { results := [], args := [] }

/-- 'wayleavelaw29.SnapPuts': WHATEVER THE INPUT: true; the input reads as it did. -/
def snapPutsSpec : ChangeSpec := { name := "snapPuts", fn := fun _ => fun
  | [d] => { results := [.lit (.bool true)], args := [d] }
  | _ => none }
def snapPutsRow : OpenClaim := { program := "ytmpemeemlhmaaaagreat", sum := "ef629cc0a01782e256800cad381b54114519a3566477b9b571ba3ce5f85a264a", func := "wayleave/wayleavelaw29.SnapPuts", spec := "snapPuts", inPlace := ["math.Float64bits", "math.Float64frombits", "internal/bytealg.abigen_runtime_cmpstring"], unfollowed := true, recurses := true, apart := false }
def SnapPutsSaid : Prop := snapPutsRow.holds Tryz.pinned (OpenSpec.ofChange snapPutsSpec)

/-- ITS FALSE NEIGHBOUR: 'it returns false'. Refute it at one input. -/
def snapPutsWrong : ChangeSpec := { name := "snapPuts", fn := fun _ => fun
  | [d] => { results := [.lit (.bool false)], args := [d] }
  | _ => none }
def SnapPutsWrongFalsely : Prop := snapPutsRow.holds Tryz.pinned (OpenSpec.ofChange snapPutsWrong)

/-- 'wayleavelaw29.SnapGets': WHATEVER THE INPUT: true; the input reads as it did. -/
def snapGetsSpec : ChangeSpec := { name := "snapGets", fn := fun _ => fun
  | [d] => { results := [.lit (.bool true)], args := [d] }
  | _ => none }
def snapGetsRow : OpenClaim := { program := "ytmpemeemlhmaaaagreat", sum := "ef629cc0a01782e256800cad381b54114519a3566477b9b571ba3ce5f85a264a", func := "wayleave/wayleavelaw29.SnapGets", spec := "snapGets", inPlace := ["math.Float64bits", "math.Float64frombits", "internal/bytealg.abigen_runtime_cmpstring"], unfollowed := true, recurses := true, apart := false }
def SnapGetsSaid : Prop := snapGetsRow.holds Tryz.pinned (OpenSpec.ofChange snapGetsSpec)

/-- ITS FALSE NEIGHBOUR: 'it returns false'. Refute it at one input. -/
def snapGetsWrong : ChangeSpec := { name := "snapGets", fn := fun _ => fun
  | [d] => { results := [.lit (.bool false)], args := [d] }
  | _ => none }
def SnapGetsWrongFalsely : Prop := snapGetsRow.holds Tryz.pinned (OpenSpec.ofChange snapGetsWrong)

/-- 'wayleavelaw29.SnapBack': WHATEVER THE INPUT: true; the input reads as it did. -/
def snapBackSpec : ChangeSpec := { name := "snapBack", fn := fun _ => fun
  | [d1, d2, d3, d4] => { results := [.lit (.bool true)], args := [d1, d2, d3, d4] }
  | _ => none }
def snapBackRow : OpenClaim := { program := "ytmpemeemlhmaaaagreat", sum := "ef629cc0a01782e256800cad381b54114519a3566477b9b571ba3ce5f85a264a", func := "wayleave/wayleavelaw29.SnapBack", spec := "snapBack", inPlace := ["math.Float64bits", "math.Float64frombits", "internal/bytealg.abigen_runtime_cmpstring"], unfollowed := true, recurses := true, apart := false }
def SnapBackSaid : Prop := snapBackRow.holds Tryz.pinned (OpenSpec.ofChange snapBackSpec)

/-- ITS FALSE NEIGHBOUR: 'it returns false'. Refute it at one input. -/
def snapBackWrong : ChangeSpec := { name := "snapBack", fn := fun _ => fun
  | [d1, d2, d3, d4] => { results := [.lit (.bool false)], args := [d1, d2, d3, d4] }
  | _ => none }
def SnapBackWrongFalsely : Prop := snapBackRow.holds Tryz.pinned (OpenSpec.ofChange snapBackWrong)

/-- 'wayleavelaw29.SnapDeltas': WHATEVER THE INPUT: true; the input reads as it did. -/
def snapDeltasSpec : ChangeSpec := { name := "snapDeltas", fn := fun _ => fun
  | [d1, d2] => { results := [.lit (.bool true)], args := [d1, d2] }
  | _ => none }
def snapDeltasRow : OpenClaim := { program := "ytmpemeemlhmaaaagreat", sum := "ef629cc0a01782e256800cad381b54114519a3566477b9b571ba3ce5f85a264a", func := "wayleave/wayleavelaw29.SnapDeltas", spec := "snapDeltas", inPlace := ["math.Float64bits", "math.Float64frombits", "internal/bytealg.abigen_runtime_cmpstring"], unfollowed := true, recurses := true, apart := false }
def SnapDeltasSaid : Prop := snapDeltasRow.holds Tryz.pinned (OpenSpec.ofChange snapDeltasSpec)

/-- ITS FALSE NEIGHBOUR: 'it returns false'. Refute it at one input. -/
def snapDeltasWrong : ChangeSpec := { name := "snapDeltas", fn := fun _ => fun
  | [d1, d2] => { results := [.lit (.bool false)], args := [d1, d2] }
  | _ => none }
def SnapDeltasWrongFalsely : Prop := snapDeltasRow.holds Tryz.pinned (OpenSpec.ofChange snapDeltasWrong)

/-- 'wayleavelaw29.SnapApplies': WHATEVER THE INPUT: true; the input reads as it did. -/
def snapAppliesSpec : ChangeSpec := { name := "snapApplies", fn := fun _ => fun
  | [d1, d2] => { results := [.lit (.bool true)], args := [d1, d2] }
  | _ => none }
def snapAppliesRow : OpenClaim := { program := "ytmpemeemlhmaaaagreat", sum := "ef629cc0a01782e256800cad381b54114519a3566477b9b571ba3ce5f85a264a", func := "wayleave/wayleavelaw29.SnapApplies", spec := "snapApplies", inPlace := ["math.Float64bits", "math.Float64frombits", "internal/bytealg.abigen_runtime_cmpstring"], unfollowed := true, recurses := true, apart := false }
def SnapAppliesSaid : Prop := snapAppliesRow.holds Tryz.pinned (OpenSpec.ofChange snapAppliesSpec)

/-- ITS FALSE NEIGHBOUR: 'it returns false'. Refute it at one input. -/
def snapAppliesWrong : ChangeSpec := { name := "snapApplies", fn := fun _ => fun
  | [d1, d2] => { results := [.lit (.bool false)], args := [d1, d2] }
  | _ => none }
def SnapAppliesWrongFalsely : Prop := snapAppliesRow.holds Tryz.pinned (OpenSpec.ofChange snapAppliesWrong)

/-- 'wayleavelaw29.SnapKeeps': WHATEVER THE INPUT: true; the input reads as it did. -/
def snapKeepsSpec : ChangeSpec := { name := "snapKeeps", fn := fun _ => fun
  | [d1, d2] => { results := [.lit (.bool true)], args := [d1, d2] }
  | _ => none }
def snapKeepsRow : OpenClaim := { program := "ytmpemeemlhmaaaagreat", sum := "ef629cc0a01782e256800cad381b54114519a3566477b9b571ba3ce5f85a264a", func := "wayleave/wayleavelaw29.SnapKeeps", spec := "snapKeeps", inPlace := ["math.Float64bits", "math.Float64frombits", "internal/bytealg.abigen_runtime_cmpstring"], unfollowed := true, recurses := true, apart := false }
def SnapKeepsSaid : Prop := snapKeepsRow.holds Tryz.pinned (OpenSpec.ofChange snapKeepsSpec)

/-- ITS FALSE NEIGHBOUR: 'it returns false'. Refute it at one input. -/
def snapKeepsWrong : ChangeSpec := { name := "snapKeeps", fn := fun _ => fun
  | [d1, d2] => { results := [.lit (.bool false)], args := [d1, d2] }
  | _ => none }
def SnapKeepsWrongFalsely : Prop := snapKeepsRow.holds Tryz.pinned (OpenSpec.ofChange snapKeepsWrong)

/-- 'wayleavelaw29.SnapSteps': WHATEVER THE INPUT: true; the input reads as it did. -/
def snapStepsSpec : ChangeSpec := { name := "snapSteps", fn := fun _ => fun
  | [d1, d2] => { results := [.lit (.bool true)], args := [d1, d2] }
  | _ => none }
def snapStepsRow : OpenClaim := { program := "ytmpemeemlhmaaaagreat", sum := "ef629cc0a01782e256800cad381b54114519a3566477b9b571ba3ce5f85a264a", func := "wayleave/wayleavelaw29.SnapSteps", spec := "snapSteps", inPlace := ["math.Float64bits", "math.Float64frombits", "internal/bytealg.abigen_runtime_cmpstring", "slices.overlaps[wayleave/api.Backend]"], unfollowed := true, recurses := true, apart := false }
def SnapStepsSaid : Prop := snapStepsRow.holds Tryz.pinned (OpenSpec.ofChange snapStepsSpec)

/-- ITS FALSE NEIGHBOUR: 'it returns false'. Refute it at one input. -/
def snapStepsWrong : ChangeSpec := { name := "snapSteps", fn := fun _ => fun
  | [d1, d2] => { results := [.lit (.bool false)], args := [d1, d2] }
  | _ => none }
def SnapStepsWrongFalsely : Prop := snapStepsRow.holds Tryz.pinned (OpenSpec.ofChange snapStepsWrong)

/- THE SECOND FORM. 'bulk': how many values and letters a reading holds, each counted each time it is reached (what is shared counts as often as it is met; a slice's spare places count too). A statement '..UptoSaid' is the law's where the arguments, and the package variables that the reading takes, are together of bulk at most 1048576: NARROWER than '..Said'. Prove '..Said' where nothing that the law and all that it calls make is longer than what came in: it says more and counts as full. Else prove '..UptoSaid'. A law counts once. -/
mutual
def uptoBulk {H : Type} : DataW H → Nat
  | .lit (.string bytes) => bytes.length + 1
  | .lit _ => 1
  | .nil => 1
  | .ptr d => uptoBulk d + 1
  | .slice elems spare => uptoBulkAll elems + uptoBulkAll spare + 1
  | .agg parts => uptoBulkAll parts + 1
  | .iface _ d => uptoBulk d + 1
  | .map entries => uptoBulkEntries entries + 1
  | .held _ => 1
def uptoBulkAll {H : Type} : List (DataW H) → Nat
  | [] => 0
  | d :: r => uptoBulk d + uptoBulkAll r
def uptoBulkEntries {H : Type} : List (Lit × DataW H) → Nat
  | [] => 0
  | x :: r => uptoBulkEntry x + uptoBulkEntries r
def uptoBulkEntry {H : Type} : Lit × DataW H → Nat
  | (.string bytes, d) => bytes.length + uptoBulk d + 1
  | (_, d) => uptoBulk d + 1
 end
def uptoSmall : (H : Type) → List (DataW H) → Bool := fun _ ds => decide (uptoBulkAll ds ≤ 1048576)
def OpenSpec.upto (s : _root_.Go.ChangeSpec) : _root_.Go.OpenSpec := { _root_.Go.OpenSpec.ofChange s with cond := some uptoSmall }

/-- 'wayleavelaw29.SnapPuts', WHERE WHAT IT READS IS OF BULK AT MOST 1048576: true; the input reads as it did. -/
def snapPutsUptoRow : OpenClaim := { program := "ytmpemeemlhmaaaagreat", sum := "ef629cc0a01782e256800cad381b54114519a3566477b9b571ba3ce5f85a264a", func := "wayleave/wayleavelaw29.SnapPuts", spec := "snapPuts", inPlace := ["math.Float64bits", "math.Float64frombits", "internal/bytealg.abigen_runtime_cmpstring"], unfollowed := true, recurses := true, apart := false, narrowed := true }
def SnapPutsUptoSaid : Prop := snapPutsUptoRow.holds Tryz.pinned (OpenSpec.upto snapPutsSpec)

/-- 'wayleavelaw29.SnapGets', WHERE WHAT IT READS IS OF BULK AT MOST 1048576: true; the input reads as it did. -/
def snapGetsUptoRow : OpenClaim := { program := "ytmpemeemlhmaaaagreat", sum := "ef629cc0a01782e256800cad381b54114519a3566477b9b571ba3ce5f85a264a", func := "wayleave/wayleavelaw29.SnapGets", spec := "snapGets", inPlace := ["math.Float64bits", "math.Float64frombits", "internal/bytealg.abigen_runtime_cmpstring"], unfollowed := true, recurses := true, apart := false, narrowed := true }
def SnapGetsUptoSaid : Prop := snapGetsUptoRow.holds Tryz.pinned (OpenSpec.upto snapGetsSpec)

/-- 'wayleavelaw29.SnapBack', WHERE WHAT IT READS IS OF BULK AT MOST 1048576: true; the input reads as it did. -/
def snapBackUptoRow : OpenClaim := { program := "ytmpemeemlhmaaaagreat", sum := "ef629cc0a01782e256800cad381b54114519a3566477b9b571ba3ce5f85a264a", func := "wayleave/wayleavelaw29.SnapBack", spec := "snapBack", inPlace := ["math.Float64bits", "math.Float64frombits", "internal/bytealg.abigen_runtime_cmpstring"], unfollowed := true, recurses := true, apart := false, narrowed := true }
def SnapBackUptoSaid : Prop := snapBackUptoRow.holds Tryz.pinned (OpenSpec.upto snapBackSpec)

/-- 'wayleavelaw29.SnapDeltas', WHERE WHAT IT READS IS OF BULK AT MOST 1048576: true; the input reads as it did. -/
def snapDeltasUptoRow : OpenClaim := { program := "ytmpemeemlhmaaaagreat", sum := "ef629cc0a01782e256800cad381b54114519a3566477b9b571ba3ce5f85a264a", func := "wayleave/wayleavelaw29.SnapDeltas", spec := "snapDeltas", inPlace := ["math.Float64bits", "math.Float64frombits", "internal/bytealg.abigen_runtime_cmpstring"], unfollowed := true, recurses := true, apart := false, narrowed := true }
def SnapDeltasUptoSaid : Prop := snapDeltasUptoRow.holds Tryz.pinned (OpenSpec.upto snapDeltasSpec)

/-- 'wayleavelaw29.SnapApplies', WHERE WHAT IT READS IS OF BULK AT MOST 1048576: true; the input reads as it did. -/
def snapAppliesUptoRow : OpenClaim := { program := "ytmpemeemlhmaaaagreat", sum := "ef629cc0a01782e256800cad381b54114519a3566477b9b571ba3ce5f85a264a", func := "wayleave/wayleavelaw29.SnapApplies", spec := "snapApplies", inPlace := ["math.Float64bits", "math.Float64frombits", "internal/bytealg.abigen_runtime_cmpstring"], unfollowed := true, recurses := true, apart := false, narrowed := true }
def SnapAppliesUptoSaid : Prop := snapAppliesUptoRow.holds Tryz.pinned (OpenSpec.upto snapAppliesSpec)

/-- 'wayleavelaw29.SnapKeeps', WHERE WHAT IT READS IS OF BULK AT MOST 1048576: true; the input reads as it did. -/
def snapKeepsUptoRow : OpenClaim := { program := "ytmpemeemlhmaaaagreat", sum := "ef629cc0a01782e256800cad381b54114519a3566477b9b571ba3ce5f85a264a", func := "wayleave/wayleavelaw29.SnapKeeps", spec := "snapKeeps", inPlace := ["math.Float64bits", "math.Float64frombits", "internal/bytealg.abigen_runtime_cmpstring"], unfollowed := true, recurses := true, apart := false, narrowed := true }
def SnapKeepsUptoSaid : Prop := snapKeepsUptoRow.holds Tryz.pinned (OpenSpec.upto snapKeepsSpec)

/-- 'wayleavelaw29.SnapSteps', WHERE WHAT IT READS IS OF BULK AT MOST 1048576: true; the input reads as it did. -/
def snapStepsUptoRow : OpenClaim := { program := "ytmpemeemlhmaaaagreat", sum := "ef629cc0a01782e256800cad381b54114519a3566477b9b571ba3ce5f85a264a", func := "wayleave/wayleavelaw29.SnapSteps", spec := "snapSteps", inPlace := ["math.Float64bits", "math.Float64frombits", "internal/bytealg.abigen_runtime_cmpstring", "slices.overlaps[wayleave/api.Backend]"], unfollowed := true, recurses := true, apart := false, narrowed := true }
def SnapStepsUptoSaid : Prop := snapStepsUptoRow.holds Tryz.pinned (OpenSpec.upto snapStepsSpec)

end Rows
end Go.Proofs.YtmpemeemlhmaaaaGreat
