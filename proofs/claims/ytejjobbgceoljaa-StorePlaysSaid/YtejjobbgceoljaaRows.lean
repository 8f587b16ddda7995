/-
  No cell of these rows narrows 'for every input' (looked for: loops, veiled, ifaces, maps, wideKeys, modest, calm, conditions, laid).
  DERIVED. THE GIVEN ROWS OF THIS SEAT. 6 by the template 'for every input the law returns true; each argument reads behind the call as it read before'; 0 by the template 'total and deterministic' (their statements: YtejjobbgceoljaaTotals.lean).
  GIVEN WITH THE SEED: the statements are not yours to turn. If you find one false, say at which input.
  Laid BY PROGRAM, IN A SANDBOX (cutbox-rows.mjs): the forced cells as the released guide's own fill.sh prints them over the translation 27803bf6f3bfa4fe… (all of the seat's roots in one cut). By AI agents, Wed Nov 11 2026. No macro, syntax, notation, axiom, sorry.
-/
import Derived.Test.YtejjobbgceoljaaChecked
import GoSem.Claim
import GoSem.ClaimJoined
import GoSem.ClaimMapViews
import Derived.JoinedTies
import Derived.KernelRfl
namespace Go.Proofs.Ytejjobbgceoljaa
/- THE CELL 'sum', in the pinned program and in every row, IS THE sha256 OF THE DUMP (.gsa) THAT YtejjobbgceoljaaProg.lean LOADS. Nothing in Lean hashes anything: it is a label: what it is worth is what the hold of that sum in a sandbox is worth. -/
noncomputable def Try.pinned : Pinned := { name := "ytejjobbgceoljaa", sum := "27803bf6f3bfa4fe3fd6a518dcb036e9b6b9b487b40d9ec42a220faaffa5fa52", checked := Try.checked }
namespace Rows
def none {H : Type} : Left H := { results := [], args := [] }

/-- 'wayleavelaw24.StorePlays': WHATEVER THE INPUT: true; the input reads as it did. -/
def storePlaysSpec : ChangeSpec := { name := "storePlays", fn := fun _ => fun
  | [d1, d2] => { results := [.lit (.bool true)], args := [d1, d2] }
  | _ => none }
def storePlaysRow : OpenClaim := { program := "ytejjobbgceoljaa", sum := "27803bf6f3bfa4fe3fd6a518dcb036e9b6b9b487b40d9ec42a220faaffa5fa52", func := "wayleave/wayleavelaw24.StorePlays", spec := "storePlays", unfollowed := true, recurses := true, apart := false }
def StorePlaysSaid : Prop := storePlaysRow.holds Try.pinned (OpenSpec.ofChange storePlaysSpec)

/-- ITS FALSE NEIGHBOUR: 'it returns false'. Refute it at one input. -/
def storePlaysWrong : ChangeSpec := { name := "storePlays", fn := fun _ => fun
  | [d1, d2] => { results := [.lit (.bool false)], args := [d1, d2] }
  | _ => none }
def StorePlaysWrongFalsely : Prop := storePlaysRow.holds Try.pinned (OpenSpec.ofChange storePlaysWrong)

/-- 'wayleavelaw24.StoreLasts': WHATEVER THE INPUT: true; the input reads as it did. -/
def storeLastsSpec : ChangeSpec := { name := "storeLasts", fn := fun _ => fun
  | [d1, d2, d3] => { results := [.lit (.bool true)], args := [d1, d2, d3] }
  | _ => none }
def storeLastsRow : OpenClaim := { program := "ytejjobbgceoljaa", sum := "27803bf6f3bfa4fe3fd6a518dcb036e9b6b9b487b40d9ec42a220faaffa5fa52", func := "wayleave/wayleavelaw24.StoreLasts", spec := "storeLasts", unfollowed := true, recurses := true, apart := false }
def StoreLastsSaid : Prop := storeLastsRow.holds Try.pinned (OpenSpec.ofChange storeLastsSpec)

/-- ITS FALSE NEIGHBOUR: 'it returns false'. Refute it at one input. -/
def storeLastsWrong : ChangeSpec := { name := "storeLasts", fn := fun _ => fun
  | [d1, d2, d3] => { results := [.lit (.bool false)], args := [d1, d2, d3] }
  | _ => none }
def StoreLastsWrongFalsely : Prop := storeLastsRow.holds Try.pinned (OpenSpec.ofChange storeLastsWrong)

/-- 'wayleavelaw24.StoreBound': WHATEVER THE INPUT: true; the input reads as it did. -/
def storeBoundSpec : ChangeSpec := { name := "storeBound", fn := fun _ => fun
  | [d1, d2] => { results := [.lit (.bool true)], args := [d1, d2] }
  | _ => none }
def storeBoundRow : OpenClaim := { program := "ytejjobbgceoljaa", sum := "27803bf6f3bfa4fe3fd6a518dcb036e9b6b9b487b40d9ec42a220faaffa5fa52", func := "wayleave/wayleavelaw24.StoreBound", spec := "storeBound", unfollowed := true, recurses := true, apart := false }
def StoreBoundSaid : Prop := storeBoundRow.holds Try.pinned (OpenSpec.ofChange storeBoundSpec)

/-- ITS FALSE NEIGHBOUR: 'it returns false'. Refute it at one input. -/
def storeBoundWrong : ChangeSpec := { name := "storeBound", fn := fun _ => fun
  | [d1, d2] => { results := [.lit (.bool false)], args := [d1, d2] }
  | _ => none }
def StoreBoundWrongFalsely : Prop := storeBoundRow.holds Try.pinned (OpenSpec.ofChange storeBoundWrong)

/-- 'wayleavelaw24.StoreFuses': WHATEVER THE INPUT: true; the input reads as it did. -/
def storeFusesSpec : ChangeSpec := { name := "storeFuses", fn := fun _ => fun
  | [d1, d2] => { results := [.lit (.bool true)], args := [d1, d2] }
  | _ => none }
def storeFusesRow : OpenClaim := { program := "ytejjobbgceoljaa", sum := "27803bf6f3bfa4fe3fd6a518dcb036e9b6b9b487b40d9ec42a220faaffa5fa52", func := "wayleave/wayleavelaw24.StoreFuses", spec := "storeFuses", unfollowed := true, recurses := true, apart := false }
def StoreFusesSaid : Prop := storeFusesRow.holds Try.pinned (OpenSpec.ofChange storeFusesSpec)

/-- ITS FALSE NEIGHBOUR: 'it returns false'. Refute it at one input. -/
def storeFusesWrong : ChangeSpec := { name := "storeFuses", fn := fun _ => fun
  | [d1, d2] => { results := [.lit (.bool false)], args := [d1, d2] }
  | _ => none }
def StoreFusesWrongFalsely : Prop := storeFusesRow.holds Try.pinned (OpenSpec.ofChange storeFusesWrong)

/-- 'wayleavelaw24.StoreNames': WHATEVER THE INPUT: true; the input reads as it did. -/
def storeNamesSpec : ChangeSpec := { name := "storeNames", fn := fun _ => fun
  | [d1, d2] => { results := [.lit (.bool true)], args := [d1, d2] }
  | _ => none }
def storeNamesRow : OpenClaim := { program := "ytejjobbgceoljaa", sum := "27803bf6f3bfa4fe3fd6a518dcb036e9b6b9b487b40d9ec42a220faaffa5fa52", func := "wayleave/wayleavelaw24.StoreNames", spec := "storeNames", unfollowed := true, recurses := true, apart := false }
def StoreNamesSaid : Prop := storeNamesRow.holds Try.pinned (OpenSpec.ofChange storeNamesSpec)

/-- ITS FALSE NEIGHBOUR: 'it returns false'. Refute it at one input. -/
def storeNamesWrong : ChangeSpec := { name := "storeNames", fn := fun _ => fun
  | [d1, d2] => { results := [.lit (.bool false)], args := [d1, d2] }
  | _ => none }
def StoreNamesWrongFalsely : Prop := storeNamesRow.holds Try.pinned (OpenSpec.ofChange storeNamesWrong)

/-- 'wayleavelaw24.StoreKeeps': WHATEVER THE INPUT: true; the input reads as it did. -/
def storeKeepsSpec : ChangeSpec := { name := "storeKeeps", fn := fun _ => fun
  | [d1, d2, d3] => { results := [.lit (.bool true)], args := [d1, d2, d3] }
  | _ => none }
def storeKeepsRow : OpenClaim := { program := "ytejjobbgceoljaa", sum := "27803bf6f3bfa4fe3fd6a518dcb036e9b6b9b487b40d9ec42a220faaffa5fa52", func := "wayleave/wayleavelaw24.StoreKeeps", spec := "storeKeeps", unfollowed := true, recurses := true, apart := false }
def StoreKeepsSaid : Prop := storeKeepsRow.holds Try.pinned (OpenSpec.ofChange storeKeepsSpec)

/-- ITS FALSE NEIGHBOUR: 'it returns false'. Refute it at one input. -/
def storeKeepsWrong : ChangeSpec := { name := "storeKeeps", fn := fun _ => fun
  | [d1, d2, d3] => { results := [.lit (.bool false)], args := [d1, d2, d3] }
  | _ => none }
def StoreKeepsWrongFalsely : Prop := storeKeepsRow.holds Try.pinned (OpenSpec.ofChange storeKeepsWrong)

/- THE SECOND FORM. 'bulk': how many values and letters a reading holds, each counted each time it is reached (what is shared counts as often as it is met; a slice's spare places count too). A statement '..UptoSaid' is the law's where the arguments, and the package variables that the reading takes, are together of bulk at most 1048576: NARROWER than '..Said'. Prove '..Said' where nothing that the law and all that it calls make is longer than what came in: it says more and counts as full. Else prove '..UptoSaid'. A law counts once. -/
mutual
def uptoBulk {H : Type} : DataW H → Nat
  | .lit (.string bytes) => bytes.length + 1
  | .lit _ => 1
  | .nil => 1
  | .ptr d => uptoBulk d + 1
  | .slice elems spare => uptoBulkAll elems + uptoBulkAll spare + 1
  | .agg parts => uptoBulkAll parts + 1
  | .iface _ d => uptoBulk d + 1
  | .map entries => uptoBulkEntries entries + 1
  | .held _ => 1
def uptoBulkAll {H : Type} : List (DataW H) → Nat
  | [] => 0
  | d :: r => uptoBulk d + uptoBulkAll r
def uptoBulkEntries {H : Type} : List (Lit × DataW H) → Nat
  | [] => 0
  | x :: r => uptoBulkEntry x + uptoBulkEntries r
def uptoBulkEntry {H : Type} : Lit × DataW H → Nat
  | (.string bytes, d) => bytes.length + uptoBulk d + 1
  | (_, d) => uptoBulk d + 1
 end
def uptoSmall : (H : Type) → List (DataW H) → Bool := fun _ ds => decide (uptoBulkAll ds ≤ 1048576)
def OpenSpec.upto (s : _root_.Go.ChangeSpec) : _root_.Go.OpenSpec := { _root_.Go.OpenSpec.ofChange s with cond := some uptoSmall }

/-- 'wayleavelaw24.StorePlays', WHERE WHAT IT READS IS OF BULK AT MOST 1048576: true; the input reads as it did. -/
def storePlaysUptoRow : OpenClaim := { program := "ytejjobbgceoljaa", sum := "27803bf6f3bfa4fe3fd6a518dcb036e9b6b9b487b40d9ec42a220faaffa5fa52", func := "wayleave/wayleavelaw24.StorePlays", spec := "storePlays", unfollowed := true, recurses := true, apart := false, narrowed := true }
def StorePlaysUptoSaid : Prop := storePlaysUptoRow.holds Try.pinned (OpenSpec.upto storePlaysSpec)

/-- 'wayleavelaw24.StoreLasts', WHERE WHAT IT READS IS OF BULK AT MOST 1048576: true; the input reads as it did. -/
def storeLastsUptoRow : OpenClaim := { program := "ytejjobbgceoljaa", sum := "27803bf6f3bfa4fe3fd6a518dcb036e9b6b9b487b40d9ec42a220faaffa5fa52", func := "wayleave/wayleavelaw24.StoreLasts", spec := "storeLasts", unfollowed := true, recurses := true, apart := false, narrowed := true }
def StoreLastsUptoSaid : Prop := storeLastsUptoRow.holds Try.pinned (OpenSpec.upto storeLastsSpec)

/-- 'wayleavelaw24.StoreBound', WHERE WHAT IT READS IS OF BULK AT MOST 1048576: true; the input reads as it did. -/
def storeBoundUptoRow : OpenClaim := { program := "ytejjobbgceoljaa", sum := "27803bf6f3bfa4fe3fd6a518dcb036e9b6b9b487b40d9ec42a220faaffa5fa52", func := "wayleave/wayleavelaw24.StoreBound", spec := "storeBound", unfollowed := true, recurses := true, apart := false, narrowed := true }
def StoreBoundUptoSaid : Prop := storeBoundUptoRow.holds Try.pinned (OpenSpec.upto storeBoundSpec)

/-- 'wayleavelaw24.StoreFuses', WHERE WHAT IT READS IS OF BULK AT MOST 1048576: true; the input reads as it did. -/
def storeFusesUptoRow : OpenClaim := { program := "ytejjobbgceoljaa", sum := "27803bf6f3bfa4fe3fd6a518dcb036e9b6b9b487b40d9ec42a220faaffa5fa52", func := "wayleave/wayleavelaw24.StoreFuses", spec := "storeFuses", unfollowed := true, recurses := true, apart := false, narrowed := true }
def StoreFusesUptoSaid : Prop := storeFusesUptoRow.holds Try.pinned (OpenSpec.upto storeFusesSpec)

/-- 'wayleavelaw24.StoreNames', WHERE WHAT IT READS IS OF BULK AT MOST 1048576: true; the input reads as it did. -/
def storeNamesUptoRow : OpenClaim := { program := "ytejjobbgceoljaa", sum := "27803bf6f3bfa4fe3fd6a518dcb036e9b6b9b487b40d9ec42a220faaffa5fa52", func := "wayleave/wayleavelaw24.StoreNames", spec := "storeNames", unfollowed := true, recurses := true, apart := false, narrowed := true }
def StoreNamesUptoSaid : Prop := storeNamesUptoRow.holds Try.pinned (OpenSpec.upto storeNamesSpec)

/-- 'wayleavelaw24.StoreKeeps', WHERE WHAT IT READS IS OF BULK AT MOST 1048576: true; the input reads as it did. -/
def storeKeepsUptoRow : OpenClaim := { program := "ytejjobbgceoljaa", sum := "27803bf6f3bfa4fe3fd6a518dcb036e9b6b9b487b40d9ec42a220faaffa5fa52", func := "wayleave/wayleavelaw24.StoreKeeps", spec := "storeKeeps", unfollowed := true, recurses := true, apart := false, narrowed := true }
def StoreKeepsUptoSaid : Prop := storeKeepsUptoRow.holds Try.pinned (OpenSpec.upto storeKeepsSpec)

end Rows
end Go.Proofs.Ytejjobbgceoljaa
