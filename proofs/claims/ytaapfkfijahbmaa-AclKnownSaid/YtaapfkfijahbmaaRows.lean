/-
  No cell of these rows narrows 'for every input' (looked for: loops, veiled, ifaces, maps, wideKeys, modest, calm, conditions, laid).
  DERIVED. THE GIVEN ROWS OF THIS SEAT. 5 by the template 'for every input the law returns true; each argument reads behind the call as it read before'; 0 by the template 'total and deterministic' (their statements: YtaapfkfijahbmaaTotals.lean).
  GIVEN WITH THE SEED: the statements are not yours to turn. If you find one false, say at which input.
  Laid BY PROGRAM, IN A SANDBOX (cutbox-rows.mjs): the forced cells as the released guide's own fill.sh prints them over the translation e6e87ddeb8d0d1b9… (all of the seat's roots in one cut). By AI agents, Wed Nov 11 2026. No macro, syntax, notation, axiom, sorry.
-/
import Derived.Test.YtaapfkfijahbmaaChecked
import GoSem.Claim
import GoSem.ClaimJoined
import GoSem.ClaimMapViews
import Derived.JoinedTies
import Derived.KernelRfl
namespace Go.Proofs.Ytaapfkfijahbmaa
/- THE CELL 'sum', in the pinned program and in every row, IS THE sha256 OF THE DUMP (.gsa) THAT YtaapfkfijahbmaaProg.lean LOADS. Nothing in Lean hashes anything: it is a label: what it is worth is what the hold of that sum in a sandbox is worth. -/
noncomputable def Try.pinned : Pinned := { name := "ytaapfkfijahbmaa", sum := "e6e87ddeb8d0d1b933c23835da5a6e72df649981d4c85cfe0da55a1670a50238", checked := Try.checked }
namespace Rows
def none {H : Type} : Left H := { results := [], args := [] }

/-- 'concentriclaw6.AclSets': WHATEVER THE INPUT: true; the input reads as it did. -/
def aclSetsSpec : ChangeSpec := { name := "aclSets", fn := fun _ => fun
  | [d1, d2, d3] => { results := [.lit (.bool true)], args := [d1, d2, d3] }
  | _ => none }
def aclSetsRow : OpenClaim := { program := "ytaapfkfijahbmaa", sum := "e6e87ddeb8d0d1b933c23835da5a6e72df649981d4c85cfe0da55a1670a50238", func := "concentric/concentriclaw6.AclSets", spec := "aclSets", inPlace := ["internal/bytealg.abigen_runtime_cmpstring", "slices.overlaps[concentric/api.Term]"], unfollowed := true, recurses := true, apart := false }
def AclSetsSaid : Prop := aclSetsRow.holds Try.pinned (OpenSpec.ofChange aclSetsSpec)

/-- ITS FALSE NEIGHBOUR: 'it returns false'. Refute it at one input. -/
def aclSetsWrong : ChangeSpec := { name := "aclSets", fn := fun _ => fun
  | [d1, d2, d3] => { results := [.lit (.bool false)], args := [d1, d2, d3] }
  | _ => none }
def AclSetsWrongFalsely : Prop := aclSetsRow.holds Try.pinned (OpenSpec.ofChange aclSetsWrong)

/-- 'concentriclaw6.AclKnown': WHATEVER THE INPUT: true; the input reads as it did. -/
def aclKnownSpec : ChangeSpec := { name := "aclKnown", fn := fun _ => fun
  | [] => { results := [.lit (.bool true)], args := [] }
  | _ => none }
def aclKnownRow : OpenClaim := { program := "ytaapfkfijahbmaa", sum := "e6e87ddeb8d0d1b933c23835da5a6e72df649981d4c85cfe0da55a1670a50238", func := "concentric/concentriclaw6.AclKnown", spec := "aclKnown", inPlace := ["internal/bytealg.abigen_runtime_cmpstring", "slices.overlaps[concentric/api.Term]"], unfollowed := true, recurses := true, apart := false }
def AclKnownSaid : Prop := aclKnownRow.holds Try.pinned (OpenSpec.ofChange aclKnownSpec)

/-- ITS FALSE NEIGHBOUR: 'it returns false'. Refute it at one input. -/
def aclKnownWrong : ChangeSpec := { name := "aclKnown", fn := fun _ => fun
  | [] => { results := [.lit (.bool false)], args := [] }
  | _ => none }
def AclKnownWrongFalsely : Prop := aclKnownRow.holds Try.pinned (OpenSpec.ofChange aclKnownWrong)

/-- 'concentriclaw6.AclOrders': WHATEVER THE INPUT: true; the input reads as it did. -/
def aclOrdersSpec : ChangeSpec := { name := "aclOrders", fn := fun _ => fun
  | [d1, d2] => { results := [.lit (.bool true)], args := [d1, d2] }
  | _ => none }
def aclOrdersRow : OpenClaim := { program := "ytaapfkfijahbmaa", sum := "e6e87ddeb8d0d1b933c23835da5a6e72df649981d4c85cfe0da55a1670a50238", func := "concentric/concentriclaw6.AclOrders", spec := "aclOrders", inPlace := ["internal/bytealg.abigen_runtime_cmpstring", "slices.overlaps[concentric/api.Term]"], unfollowed := true, recurses := true, apart := false }
def AclOrdersSaid : Prop := aclOrdersRow.holds Try.pinned (OpenSpec.ofChange aclOrdersSpec)

/-- ITS FALSE NEIGHBOUR: 'it returns false'. Refute it at one input. -/
def aclOrdersWrong : ChangeSpec := { name := "aclOrders", fn := fun _ => fun
  | [d1, d2] => { results := [.lit (.bool false)], args := [d1, d2] }
  | _ => none }
def AclOrdersWrongFalsely : Prop := aclOrdersRow.holds Try.pinned (OpenSpec.ofChange aclOrdersWrong)

/-- 'concentriclaw6.AclLists': WHATEVER THE INPUT: true; the input reads as it did. -/
def aclListsSpec : ChangeSpec := { name := "aclLists", fn := fun _ => fun
  | [d1, d2, d3] => { results := [.lit (.bool true)], args := [d1, d2, d3] }
  | _ => none }
def aclListsRow : OpenClaim := { program := "ytaapfkfijahbmaa", sum := "e6e87ddeb8d0d1b933c23835da5a6e72df649981d4c85cfe0da55a1670a50238", func := "concentric/concentriclaw6.AclLists", spec := "aclLists", inPlace := ["internal/bytealg.abigen_runtime_cmpstring", "slices.overlaps[concentric/api.Term]"], unfollowed := true, recurses := true, apart := false }
def AclListsSaid : Prop := aclListsRow.holds Try.pinned (OpenSpec.ofChange aclListsSpec)

/-- ITS FALSE NEIGHBOUR: 'it returns false'. Refute it at one input. -/
def aclListsWrong : ChangeSpec := { name := "aclLists", fn := fun _ => fun
  | [d1, d2, d3] => { results := [.lit (.bool false)], args := [d1, d2, d3] }
  | _ => none }
def AclListsWrongFalsely : Prop := aclListsRow.holds Try.pinned (OpenSpec.ofChange aclListsWrong)

/-- 'concentriclaw6.AclDrops': WHATEVER THE INPUT: true; the input reads as it did. -/
def aclDropsSpec : ChangeSpec := { name := "aclDrops", fn := fun _ => fun
  | [d1, d2] => { results := [.lit (.bool true)], args := [d1, d2] }
  | _ => none }
def aclDropsRow : OpenClaim := { program := "ytaapfkfijahbmaa", sum := "e6e87ddeb8d0d1b933c23835da5a6e72df649981d4c85cfe0da55a1670a50238", func := "concentric/concentriclaw6.AclDrops", spec := "aclDrops", inPlace := ["internal/bytealg.abigen_runtime_cmpstring", "slices.overlaps[concentric/api.Term]"], unfollowed := true, recurses := true, apart := false }
def AclDropsSaid : Prop := aclDropsRow.holds Try.pinned (OpenSpec.ofChange aclDropsSpec)

/-- ITS FALSE NEIGHBOUR: 'it returns false'. Refute it at one input. -/
def aclDropsWrong : ChangeSpec := { name := "aclDrops", fn := fun _ => fun
  | [d1, d2] => { results := [.lit (.bool false)], args := [d1, d2] }
  | _ => none }
def AclDropsWrongFalsely : Prop := aclDropsRow.holds Try.pinned (OpenSpec.ofChange aclDropsWrong)

/- THE SECOND FORM. 'bulk': how many values and letters a reading holds, each counted each time it is reached (what is shared counts as often as it is met; a slice's spare places count too). A statement '..UptoSaid' is the law's where the arguments, and the package variables that the reading takes, are together of bulk at most 1048576: NARROWER than '..Said'. Prove '..Said' where nothing that the law and all that it calls make is longer than what came in: it says more and counts as full. Else prove '..UptoSaid'. A law counts once. -/
mutual
def uptoBulk {H : Type} : DataW H → Nat
  | .lit (.string bytes) => bytes.length + 1
  | .lit _ => 1
  | .nil => 1
  | .ptr d => uptoBulk d + 1
  | .slice elems spare => uptoBulkAll elems + uptoBulkAll spare + 1
  | .agg parts => uptoBulkAll parts + 1
  | .iface _ d => uptoBulk d + 1
  | .map entries => uptoBulkEntries entries + 1
  | .held _ => 1
def uptoBulkAll {H : Type} : List (DataW H) → Nat
  | [] => 0
  | d :: r => uptoBulk d + uptoBulkAll r
def uptoBulkEntries {H : Type} : List (Lit × DataW H) → Nat
  | [] => 0
  | x :: r => uptoBulkEntry x + uptoBulkEntries r
def uptoBulkEntry {H : Type} : Lit × DataW H → Nat
  | (.string bytes, d) => bytes.length + uptoBulk d + 1
  | (_, d) => uptoBulk d + 1
 end
def uptoSmall : (H : Type) → List (DataW H) → Bool := fun _ ds => decide (uptoBulkAll ds ≤ 1048576)
def OpenSpec.upto (s : _root_.Go.ChangeSpec) : _root_.Go.OpenSpec := { _root_.Go.OpenSpec.ofChange s with cond := some uptoSmall }

/-- 'concentriclaw6.AclSets', WHERE WHAT IT READS IS OF BULK AT MOST 1048576: true; the input reads as it did. -/
def aclSetsUptoRow : OpenClaim := { program := "ytaapfkfijahbmaa", sum := "e6e87ddeb8d0d1b933c23835da5a6e72df649981d4c85cfe0da55a1670a50238", func := "concentric/concentriclaw6.AclSets", spec := "aclSets", inPlace := ["internal/bytealg.abigen_runtime_cmpstring", "slices.overlaps[concentric/api.Term]"], unfollowed := true, recurses := true, apart := false, narrowed := true }
def AclSetsUptoSaid : Prop := aclSetsUptoRow.holds Try.pinned (OpenSpec.upto aclSetsSpec)

/-- 'concentriclaw6.AclKnown', WHERE WHAT IT READS IS OF BULK AT MOST 1048576: true; the input reads as it did. -/
def aclKnownUptoRow : OpenClaim := { program := "ytaapfkfijahbmaa", sum := "e6e87ddeb8d0d1b933c23835da5a6e72df649981d4c85cfe0da55a1670a50238", func := "concentric/concentriclaw6.AclKnown", spec := "aclKnown", inPlace := ["internal/bytealg.abigen_runtime_cmpstring", "slices.overlaps[concentric/api.Term]"], unfollowed := true, recurses := true, apart := false, narrowed := true }
def AclKnownUptoSaid : Prop := aclKnownUptoRow.holds Try.pinned (OpenSpec.upto aclKnownSpec)

/-- 'concentriclaw6.AclOrders', WHERE WHAT IT READS IS OF BULK AT MOST 1048576: true; the input reads as it did. -/
def aclOrdersUptoRow : OpenClaim := { program := "ytaapfkfijahbmaa", sum := "e6e87ddeb8d0d1b933c23835da5a6e72df649981d4c85cfe0da55a1670a50238", func := "concentric/concentriclaw6.AclOrders", spec := "aclOrders", inPlace := ["internal/bytealg.abigen_runtime_cmpstring", "slices.overlaps[concentric/api.Term]"], unfollowed := true, recurses := true, apart := false, narrowed := true }
def AclOrdersUptoSaid : Prop := aclOrdersUptoRow.holds Try.pinned (OpenSpec.upto aclOrdersSpec)

/-- 'concentriclaw6.AclLists', WHERE WHAT IT READS IS OF BULK AT MOST 1048576: true; the input reads as it did. -/
def aclListsUptoRow : OpenClaim := { program := "ytaapfkfijahbmaa", sum := "e6e87ddeb8d0d1b933c23835da5a6e72df649981d4c85cfe0da55a1670a50238", func := "concentric/concentriclaw6.AclLists", spec := "aclLists", inPlace := ["internal/bytealg.abigen_runtime_cmpstring", "slices.overlaps[concentric/api.Term]"], unfollowed := true, recurses := true, apart := false, narrowed := true }
def AclListsUptoSaid : Prop := aclListsUptoRow.holds Try.pinned (OpenSpec.upto aclListsSpec)

/-- 'concentriclaw6.AclDrops', WHERE WHAT IT READS IS OF BULK AT MOST 1048576: true; the input reads as it did. -/
def aclDropsUptoRow : OpenClaim := { program := "ytaapfkfijahbmaa", sum := "e6e87ddeb8d0d1b933c23835da5a6e72df649981d4c85cfe0da55a1670a50238", func := "concentric/concentriclaw6.AclDrops", spec := "aclDrops", inPlace := ["internal/bytealg.abigen_runtime_cmpstring", "slices.overlaps[concentric/api.Term]"], unfollowed := true, recurses := true, apart := false, narrowed := true }
def AclDropsUptoSaid : Prop := aclDropsUptoRow.holds Try.pinned (OpenSpec.upto aclDropsSpec)

end Rows
end Go.Proofs.Ytaapfkfijahbmaa
