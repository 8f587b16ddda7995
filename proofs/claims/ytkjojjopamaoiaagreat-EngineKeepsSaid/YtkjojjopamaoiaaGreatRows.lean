/-
  No cell of these rows narrows 'for every input' (looked for: loops, veiled, ifaces, maps, wideKeys, modest, calm, conditions, laid).
  DERIVED. THE GIVEN ROWS OF THIS SEAT. 9 by the template 'for every input the law returns true; each argument reads behind the call as it read before'; 0 by the template 'total and deterministic' (their statements: YtkjojjopamaoiaaGreatTotals.lean).
  GIVEN WITH THE SEED: the statements are not yours to turn. If you find one false, say at which input.
  Laid BY PROGRAM, IN A SANDBOX (cutbox-rows.mjs): the forced cells as the released guide's own fill.sh prints them over the translation 55f5f5ba16d3acbd… (all of the seat's roots in one cut). By AI agents, Wed Nov 11 2026. No macro, syntax, notation, axiom, sorry.
-/
import Derived.Test.YtkjojjopamaoiaaGreatChecked
import GoSem.Claim
import GoSem.ClaimJoined
import GoSem.ClaimMapViews
import Derived.JoinedTies
import Derived.KernelRfl
namespace Go.Proofs.YtkjojjopamaoiaaGreat
/- THE CELL 'sum', in the pinned program and in every row, IS THE sha256 OF THE DUMP (.gsa) THAT YtkjojjopamaoiaaGreatProg.lean LOADS. Nothing in Lean hashes anything: it is a label: what it is worth is what the hold of that sum in a sandbox is worth. -/
noncomputable def Tryz.pinned : Pinned := { name := "ytkjojjopamaoiaagreat", sum := "55f5f5ba16d3acbd289b0a4be3e24238fb80c20a0e3cde28c118c24bc5ec1879", checked := Tryz.checked }
namespace Rows
def none {H : Type} : Left H := { results := [], args := [] }

/-- 'wayleavelaw23.EngineRights': WHATEVER THE INPUT: true; the input reads as it did. -/
def engineRightsSpec : ChangeSpec := { name := "engineRights", fn := fun _ => fun
  | [d1, d2, d3, d4] => { results := [.lit (.bool true)], args := [d1, d2, d3, d4] }
  | _ => none }
def engineRightsRow : OpenClaim := { program := "ytkjojjopamaoiaagreat", sum := "55f5f5ba16d3acbd289b0a4be3e24238fb80c20a0e3cde28c118c24bc5ec1879", func := "wayleave/wayleavelaw23.EngineRights", spec := "engineRights", inPlace := ["math.Float64bits", "internal/bytealg.Compare", "math.archFloor", "math.Float64frombits", "math.archTrunc", "internal/bytealg.abigen_runtime_cmpstring", "slices.overlaps[wayleave/api.Backend]"], unfollowed := true, recurses := true, plainKeys := false, apart := false }
def EngineRightsSaid : Prop := engineRightsRow.holds Tryz.pinned (OpenSpec.ofChange engineRightsSpec)

/-- ITS FALSE NEIGHBOUR: 'it returns false'. Refute it at one input. -/
def engineRightsWrong : ChangeSpec := { name := "engineRights", fn := fun _ => fun
  | [d1, d2, d3, d4] => { results := [.lit (.bool false)], args := [d1, d2, d3, d4] }
  | _ => none }
def EngineRightsWrongFalsely : Prop := engineRightsRow.holds Tryz.pinned (OpenSpec.ofChange engineRightsWrong)

/-- 'wayleavelaw23.EnginePlays': WHATEVER THE INPUT: true; the input reads as it did. -/
def enginePlaysSpec : ChangeSpec := { name := "enginePlays", fn := fun _ => fun
  | [d1, d2, d3] => { results := [.lit (.bool true)], args := [d1, d2, d3] }
  | _ => none }
def enginePlaysRow : OpenClaim := { program := "ytkjojjopamaoiaagreat", sum := "55f5f5ba16d3acbd289b0a4be3e24238fb80c20a0e3cde28c118c24bc5ec1879", func := "wayleave/wayleavelaw23.EnginePlays", spec := "enginePlays", inPlace := ["math.Float64bits", "internal/bytealg.Compare", "math.archFloor", "math.Float64frombits", "math.archTrunc", "internal/bytealg.abigen_runtime_cmpstring", "slices.overlaps[wayleave/api.Backend]"], unfollowed := true, recurses := true, plainKeys := false, apart := false }
def EnginePlaysSaid : Prop := enginePlaysRow.holds Tryz.pinned (OpenSpec.ofChange enginePlaysSpec)

/-- ITS FALSE NEIGHBOUR: 'it returns false'. Refute it at one input. -/
def enginePlaysWrong : ChangeSpec := { name := "enginePlays", fn := fun _ => fun
  | [d1, d2, d3] => { results := [.lit (.bool false)], args := [d1, d2, d3] }
  | _ => none }
def EnginePlaysWrongFalsely : Prop := enginePlaysRow.holds Tryz.pinned (OpenSpec.ofChange enginePlaysWrong)

/-- 'wayleavelaw23.EngineFrom': WHATEVER THE INPUT: true; the input reads as it did. -/
def engineFromSpec : ChangeSpec := { name := "engineFrom", fn := fun _ => fun
  | [d1, d2, d3, d4] => { results := [.lit (.bool true)], args := [d1, d2, d3, d4] }
  | _ => none }
def engineFromRow : OpenClaim := { program := "ytkjojjopamaoiaagreat", sum := "55f5f5ba16d3acbd289b0a4be3e24238fb80c20a0e3cde28c118c24bc5ec1879", func := "wayleave/wayleavelaw23.EngineFrom", spec := "engineFrom", inPlace := ["math.Float64bits", "internal/bytealg.Compare", "math.archFloor", "math.Float64frombits", "math.archTrunc", "internal/bytealg.abigen_runtime_cmpstring", "slices.overlaps[wayleave/api.Backend]"], unfollowed := true, recurses := true, plainKeys := false, apart := false }
def EngineFromSaid : Prop := engineFromRow.holds Tryz.pinned (OpenSpec.ofChange engineFromSpec)

/-- ITS FALSE NEIGHBOUR: 'it returns false'. Refute it at one input. -/
def engineFromWrong : ChangeSpec := { name := "engineFrom", fn := fun _ => fun
  | [d1, d2, d3, d4] => { results := [.lit (.bool false)], args := [d1, d2, d3, d4] }
  | _ => none }
def EngineFromWrongFalsely : Prop := engineFromRow.holds Tryz.pinned (OpenSpec.ofChange engineFromWrong)

/-- 'wayleavelaw23.EngineCounts': WHATEVER THE INPUT: true; the input reads as it did. -/
def engineCountsSpec : ChangeSpec := { name := "engineCounts", fn := fun _ => fun
  | [d1, d2, d3] => { results := [.lit (.bool true)], args := [d1, d2, d3] }
  | _ => none }
def engineCountsRow : OpenClaim := { program := "ytkjojjopamaoiaagreat", sum := "55f5f5ba16d3acbd289b0a4be3e24238fb80c20a0e3cde28c118c24bc5ec1879", func := "wayleave/wayleavelaw23.EngineCounts", spec := "engineCounts", inPlace := ["math.Float64bits", "internal/bytealg.Compare", "math.archFloor", "math.Float64frombits", "math.archTrunc", "internal/bytealg.abigen_runtime_cmpstring", "slices.overlaps[wayleave/api.Backend]"], unfollowed := true, recurses := true, plainKeys := false, apart := false }
def EngineCountsSaid : Prop := engineCountsRow.holds Tryz.pinned (OpenSpec.ofChange engineCountsSpec)

/-- ITS FALSE NEIGHBOUR: 'it returns false'. Refute it at one input. -/
def engineCountsWrong : ChangeSpec := { name := "engineCounts", fn := fun _ => fun
  | [d1, d2, d3] => { results := [.lit (.bool false)], args := [d1, d2, d3] }
  | _ => none }
def EngineCountsWrongFalsely : Prop := engineCountsRow.holds Tryz.pinned (OpenSpec.ofChange engineCountsWrong)

/-- 'wayleavelaw23.EnginePicks': WHATEVER THE INPUT: true; the input reads as it did. -/
def enginePicksSpec : ChangeSpec := { name := "enginePicks", fn := fun _ => fun
  | [d1, d2, d3] => { results := [.lit (.bool true)], args := [d1, d2, d3] }
  | _ => none }
def enginePicksRow : OpenClaim := { program := "ytkjojjopamaoiaagreat", sum := "55f5f5ba16d3acbd289b0a4be3e24238fb80c20a0e3cde28c118c24bc5ec1879", func := "wayleave/wayleavelaw23.EnginePicks", spec := "enginePicks", inPlace := ["math.Float64bits", "internal/bytealg.Compare", "math.archFloor", "math.Float64frombits", "math.archTrunc", "internal/bytealg.abigen_runtime_cmpstring", "slices.overlaps[wayleave/api.Backend]"], unfollowed := true, recurses := true, plainKeys := false, apart := false }
def EnginePicksSaid : Prop := enginePicksRow.holds Tryz.pinned (OpenSpec.ofChange enginePicksSpec)

/-- ITS FALSE NEIGHBOUR: 'it returns false'. Refute it at one input. -/
def enginePicksWrong : ChangeSpec := { name := "enginePicks", fn := fun _ => fun
  | [d1, d2, d3] => { results := [.lit (.bool false)], args := [d1, d2, d3] }
  | _ => none }
def EnginePicksWrongFalsely : Prop := enginePicksRow.holds Tryz.pinned (OpenSpec.ofChange enginePicksWrong)

/-- 'wayleavelaw23.EngineStays': WHATEVER THE INPUT: true; the input reads as it did. -/
def engineStaysSpec : ChangeSpec := { name := "engineStays", fn := fun _ => fun
  | [d1, d2, d3, d4, d5] => { results := [.lit (.bool true)], args := [d1, d2, d3, d4, d5] }
  | _ => none }
def engineStaysRow : OpenClaim := { program := "ytkjojjopamaoiaagreat", sum := "55f5f5ba16d3acbd289b0a4be3e24238fb80c20a0e3cde28c118c24bc5ec1879", func := "wayleave/wayleavelaw23.EngineStays", spec := "engineStays", inPlace := ["math.Float64bits", "internal/bytealg.Compare", "math.archFloor", "math.Float64frombits", "math.archTrunc", "internal/bytealg.abigen_runtime_cmpstring", "slices.overlaps[wayleave/api.Backend]"], unfollowed := true, recurses := true, plainKeys := false, apart := false }
def EngineStaysSaid : Prop := engineStaysRow.holds Tryz.pinned (OpenSpec.ofChange engineStaysSpec)

/-- ITS FALSE NEIGHBOUR: 'it returns false'. Refute it at one input. -/
def engineStaysWrong : ChangeSpec := { name := "engineStays", fn := fun _ => fun
  | [d1, d2, d3, d4, d5] => { results := [.lit (.bool false)], args := [d1, d2, d3, d4, d5] }
  | _ => none }
def EngineStaysWrongFalsely : Prop := engineStaysRow.holds Tryz.pinned (OpenSpec.ofChange engineStaysWrong)

/-- 'wayleavelaw23.EngineSplits': WHATEVER THE INPUT: true; the input reads as it did. -/
def engineSplitsSpec : ChangeSpec := { name := "engineSplits", fn := fun _ => fun
  | [d1, d2, d3, d4] => { results := [.lit (.bool true)], args := [d1, d2, d3, d4] }
  | _ => none }
def engineSplitsRow : OpenClaim := { program := "ytkjojjopamaoiaagreat", sum := "55f5f5ba16d3acbd289b0a4be3e24238fb80c20a0e3cde28c118c24bc5ec1879", func := "wayleave/wayleavelaw23.EngineSplits", spec := "engineSplits", inPlace := ["math.Float64bits", "internal/bytealg.Compare", "math.archFloor", "math.Float64frombits", "math.archTrunc", "internal/bytealg.abigen_runtime_cmpstring", "slices.overlaps[wayleave/api.Backend]"], unfollowed := true, recurses := true, plainKeys := false, apart := false }
def EngineSplitsSaid : Prop := engineSplitsRow.holds Tryz.pinned (OpenSpec.ofChange engineSplitsSpec)

/-- ITS FALSE NEIGHBOUR: 'it returns false'. Refute it at one input. -/
def engineSplitsWrong : ChangeSpec := { name := "engineSplits", fn := fun _ => fun
  | [d1, d2, d3, d4] => { results := [.lit (.bool false)], args := [d1, d2, d3, d4] }
  | _ => none }
def EngineSplitsWrongFalsely : Prop := engineSplitsRow.holds Tryz.pinned (OpenSpec.ofChange engineSplitsWrong)

/-- 'wayleavelaw23.EngineKeeps': WHATEVER THE INPUT: true; the input reads as it did. -/
def engineKeepsSpec : ChangeSpec := { name := "engineKeeps", fn := fun _ => fun
  | [d1, d2, d3] => { results := [.lit (.bool true)], args := [d1, d2, d3] }
  | _ => none }
def engineKeepsRow : OpenClaim := { program := "ytkjojjopamaoiaagreat", sum := "55f5f5ba16d3acbd289b0a4be3e24238fb80c20a0e3cde28c118c24bc5ec1879", func := "wayleave/wayleavelaw23.EngineKeeps", spec := "engineKeeps", inPlace := ["math.Float64bits", "internal/bytealg.Compare", "math.archFloor", "math.Float64frombits", "math.archTrunc", "internal/bytealg.abigen_runtime_cmpstring", "slices.overlaps[wayleave/api.Backend]"], unfollowed := true, recurses := true, plainKeys := false, apart := false }
def EngineKeepsSaid : Prop := engineKeepsRow.holds Tryz.pinned (OpenSpec.ofChange engineKeepsSpec)

/-- ITS FALSE NEIGHBOUR: 'it returns false'. Refute it at one input. -/
def engineKeepsWrong : ChangeSpec := { name := "engineKeeps", fn := fun _ => fun
  | [d1, d2, d3] => { results := [.lit (.bool false)], args := [d1, d2, d3] }
  | _ => none }
def EngineKeepsWrongFalsely : Prop := engineKeepsRow.holds Tryz.pinned (OpenSpec.ofChange engineKeepsWrong)

/-- 'wayleavelaw23.EngineSends': WHATEVER THE INPUT: true; the input reads as it did. -/
def engineSendsSpec : ChangeSpec := { name := "engineSends", fn := fun _ => fun
  | [d1, d2, d3] => { results := [.lit (.bool true)], args := [d1, d2, d3] }
  | _ => none }
def engineSendsRow : OpenClaim := { program := "ytkjojjopamaoiaagreat", sum := "55f5f5ba16d3acbd289b0a4be3e24238fb80c20a0e3cde28c118c24bc5ec1879", func := "wayleave/wayleavelaw23.EngineSends", spec := "engineSends", inPlace := ["math.Float64bits", "internal/bytealg.Compare", "math.archFloor", "math.Float64frombits", "math.archTrunc", "internal/bytealg.abigen_runtime_cmpstring", "slices.overlaps[wayleave/api.Backend]"], unfollowed := true, recurses := true, plainKeys := false, apart := false }
def EngineSendsSaid : Prop := engineSendsRow.holds Tryz.pinned (OpenSpec.ofChange engineSendsSpec)

/-- ITS FALSE NEIGHBOUR: 'it returns false'. Refute it at one input. -/
def engineSendsWrong : ChangeSpec := { name := "engineSends", fn := fun _ => fun
  | [d1, d2, d3] => { results := [.lit (.bool false)], args := [d1, d2, d3] }
  | _ => none }
def EngineSendsWrongFalsely : Prop := engineSendsRow.holds Tryz.pinned (OpenSpec.ofChange engineSendsWrong)

/- THE SECOND FORM. 'bulk': how many values and letters a reading holds, each counted each time it is reached (what is shared counts as often as it is met; a slice's spare places count too). A statement '..UptoSaid' is the law's where the arguments, and the package variables that the reading takes, are together of bulk at most 1048576: NARROWER than '..Said'. Prove '..Said' where nothing that the law and all that it calls make is longer than what came in: it says more and counts as full. Else prove '..UptoSaid'. A law counts once. -/
mutual
def uptoBulk {H : Type} : DataW H → Nat
  | .lit (.string bytes) => bytes.length + 1
  | .lit _ => 1
  | .nil => 1
  | .ptr d => uptoBulk d + 1
  | .slice elems spare => uptoBulkAll elems + uptoBulkAll spare + 1
  | .agg parts => uptoBulkAll parts + 1
  | .iface _ d => uptoBulk d + 1
  | .map entries => uptoBulkEntries entries + 1
  | .held _ => 1
def uptoBulkAll {H : Type} : List (DataW H) → Nat
  | [] => 0
  | d :: r => uptoBulk d + uptoBulkAll r
def uptoBulkEntries {H : Type} : List (Lit × DataW H) → Nat
  | [] => 0
  | x :: r => uptoBulkEntry x + uptoBulkEntries r
def uptoBulkEntry {H : Type} : Lit × DataW H → Nat
  | (.string bytes, d) => bytes.length + uptoBulk d + 1
  | (_, d) => uptoBulk d + 1
 end
def uptoSmall : (H : Type) → List (DataW H) → Bool := fun _ ds => decide (uptoBulkAll ds ≤ 1048576)
def OpenSpec.upto (s : _root_.Go.ChangeSpec) : _root_.Go.OpenSpec := { _root_.Go.OpenSpec.ofChange s with cond := some uptoSmall }

/-- 'wayleavelaw23.EngineRights', WHERE WHAT IT READS IS OF BULK AT MOST 1048576: true; the input reads as it did. -/
def engineRightsUptoRow : OpenClaim := { program := "ytkjojjopamaoiaagreat", sum := "55f5f5ba16d3acbd289b0a4be3e24238fb80c20a0e3cde28c118c24bc5ec1879", func := "wayleave/wayleavelaw23.EngineRights", spec := "engineRights", inPlace := ["math.Float64bits", "internal/bytealg.Compare", "math.archFloor", "math.Float64frombits", "math.archTrunc", "internal/bytealg.abigen_runtime_cmpstring", "slices.overlaps[wayleave/api.Backend]"], unfollowed := true, recurses := true, plainKeys := false, apart := false, narrowed := true }
def EngineRightsUptoSaid : Prop := engineRightsUptoRow.holds Tryz.pinned (OpenSpec.upto engineRightsSpec)

/-- 'wayleavelaw23.EnginePlays', WHERE WHAT IT READS IS OF BULK AT MOST 1048576: true; the input reads as it did. -/
def enginePlaysUptoRow : OpenClaim := { program := "ytkjojjopamaoiaagreat", sum := "55f5f5ba16d3acbd289b0a4be3e24238fb80c20a0e3cde28c118c24bc5ec1879", func := "wayleave/wayleavelaw23.EnginePlays", spec := "enginePlays", inPlace := ["math.Float64bits", "internal/bytealg.Compare", "math.archFloor", "math.Float64frombits", "math.archTrunc", "internal/bytealg.abigen_runtime_cmpstring", "slices.overlaps[wayleave/api.Backend]"], unfollowed := true, recurses := true, plainKeys := false, apart := false, narrowed := true }
def EnginePlaysUptoSaid : Prop := enginePlaysUptoRow.holds Tryz.pinned (OpenSpec.upto enginePlaysSpec)

/-- 'wayleavelaw23.EngineFrom', WHERE WHAT IT READS IS OF BULK AT MOST 1048576: true; the input reads as it did. -/
def engineFromUptoRow : OpenClaim := { program := "ytkjojjopamaoiaagreat", sum := "55f5f5ba16d3acbd289b0a4be3e24238fb80c20a0e3cde28c118c24bc5ec1879", func := "wayleave/wayleavelaw23.EngineFrom", spec := "engineFrom", inPlace := ["math.Float64bits", "internal/bytealg.Compare", "math.archFloor", "math.Float64frombits", "math.archTrunc", "internal/bytealg.abigen_runtime_cmpstring", "slices.overlaps[wayleave/api.Backend]"], unfollowed := true, recurses := true, plainKeys := false, apart := false, narrowed := true }
def EngineFromUptoSaid : Prop := engineFromUptoRow.holds Tryz.pinned (OpenSpec.upto engineFromSpec)

/-- 'wayleavelaw23.EngineCounts', WHERE WHAT IT READS IS OF BULK AT MOST 1048576: true; the input reads as it did. -/
def engineCountsUptoRow : OpenClaim := { program := "ytkjojjopamaoiaagreat", sum := "55f5f5ba16d3acbd289b0a4be3e24238fb80c20a0e3cde28c118c24bc5ec1879", func := "wayleave/wayleavelaw23.EngineCounts", spec := "engineCounts", inPlace := ["math.Float64bits", "internal/bytealg.Compare", "math.archFloor", "math.Float64frombits", "math.archTrunc", "internal/bytealg.abigen_runtime_cmpstring", "slices.overlaps[wayleave/api.Backend]"], unfollowed := true, recurses := true, plainKeys := false, apart := false, narrowed := true }
def EngineCountsUptoSaid : Prop := engineCountsUptoRow.holds Tryz.pinned (OpenSpec.upto engineCountsSpec)

/-- 'wayleavelaw23.EnginePicks', WHERE WHAT IT READS IS OF BULK AT MOST 1048576: true; the input reads as it did. -/
def enginePicksUptoRow : OpenClaim := { program := "ytkjojjopamaoiaagreat", sum := "55f5f5ba16d3acbd289b0a4be3e24238fb80c20a0e3cde28c118c24bc5ec1879", func := "wayleave/wayleavelaw23.EnginePicks", spec := "enginePicks", inPlace := ["math.Float64bits", "internal/bytealg.Compare", "math.archFloor", "math.Float64frombits", "math.archTrunc", "internal/bytealg.abigen_runtime_cmpstring", "slices.overlaps[wayleave/api.Backend]"], unfollowed := true, recurses := true, plainKeys := false, apart := false, narrowed := true }
def EnginePicksUptoSaid : Prop := enginePicksUptoRow.holds Tryz.pinned (OpenSpec.upto enginePicksSpec)

/-- 'wayleavelaw23.EngineStays', WHERE WHAT IT READS IS OF BULK AT MOST 1048576: true; the input reads as it did. -/
def engineStaysUptoRow : OpenClaim := { program := "ytkjojjopamaoiaagreat", sum := "55f5f5ba16d3acbd289b0a4be3e24238fb80c20a0e3cde28c118c24bc5ec1879", func := "wayleave/wayleavelaw23.EngineStays", spec := "engineStays", inPlace := ["math.Float64bits", "internal/bytealg.Compare", "math.archFloor", "math.Float64frombits", "math.archTrunc", "internal/bytealg.abigen_runtime_cmpstring", "slices.overlaps[wayleave/api.Backend]"], unfollowed := true, recurses := true, plainKeys := false, apart := false, narrowed := true }
def EngineStaysUptoSaid : Prop := engineStaysUptoRow.holds Tryz.pinned (OpenSpec.upto engineStaysSpec)

/-- 'wayleavelaw23.EngineSplits', WHERE WHAT IT READS IS OF BULK AT MOST 1048576: true; the input reads as it did. -/
def engineSplitsUptoRow : OpenClaim := { program := "ytkjojjopamaoiaagreat", sum := "55f5f5ba16d3acbd289b0a4be3e24238fb80c20a0e3cde28c118c24bc5ec1879", func := "wayleave/wayleavelaw23.EngineSplits", spec := "engineSplits", inPlace := ["math.Float64bits", "internal/bytealg.Compare", "math.archFloor", "math.Float64frombits", "math.archTrunc", "internal/bytealg.abigen_runtime_cmpstring", "slices.overlaps[wayleave/api.Backend]"], unfollowed := true, recurses := true, plainKeys := false, apart := false, narrowed := true }
def EngineSplitsUptoSaid : Prop := engineSplitsUptoRow.holds Tryz.pinned (OpenSpec.upto engineSplitsSpec)

/-- 'wayleavelaw23.EngineKeeps', WHERE WHAT IT READS IS OF BULK AT MOST 1048576: true; the input reads as it did. -/
def engineKeepsUptoRow : OpenClaim := { program := "ytkjojjopamaoiaagreat", sum := "55f5f5ba16d3acbd289b0a4be3e24238fb80c20a0e3cde28c118c24bc5ec1879", func := "wayleave/wayleavelaw23.EngineKeeps", spec := "engineKeeps", inPlace := ["math.Float64bits", "internal/bytealg.Compare", "math.archFloor", "math.Float64frombits", "math.archTrunc", "internal/bytealg.abigen_runtime_cmpstring", "slices.overlaps[wayleave/api.Backend]"], unfollowed := true, recurses := true, plainKeys := false, apart := false, narrowed := true }
def EngineKeepsUptoSaid : Prop := engineKeepsUptoRow.holds Tryz.pinned (OpenSpec.upto engineKeepsSpec)

/-- 'wayleavelaw23.EngineSends', WHERE WHAT IT READS IS OF BULK AT MOST 1048576: true; the input reads as it did. -/
def engineSendsUptoRow : OpenClaim := { program := "ytkjojjopamaoiaagreat", sum := "55f5f5ba16d3acbd289b0a4be3e24238fb80c20a0e3cde28c118c24bc5ec1879", func := "wayleave/wayleavelaw23.EngineSends", spec := "engineSends", inPlace := ["math.Float64bits", "internal/bytealg.Compare", "math.archFloor", "math.Float64frombits", "math.archTrunc", "internal/bytealg.abigen_runtime_cmpstring", "slices.overlaps[wayleave/api.Backend]"], unfollowed := true, recurses := true, plainKeys := false, apart := false, narrowed := true }
def EngineSendsUptoSaid : Prop := engineSendsUptoRow.holds Tryz.pinned (OpenSpec.upto engineSendsSpec)

end Rows
end Go.Proofs.YtkjojjopamaoiaaGreat
