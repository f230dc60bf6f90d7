/-
  No cell of these rows narrows 'for every input' (looked for: loops, veiled, ifaces, maps, wideKeys, modest, calm, conditions, laid).
  DERIVED. THE GIVEN ROWS OF THIS SEAT. 4 by the template 'for every input the law returns true; each argument reads behind the call as it read before'; 0 by the template 'total and deterministic' (their statements: YtgiipmccolmmdaaTotals.lean).
  GIVEN WITH THE SEED: the statements are not yours to turn. If you find one false, say at which input.
  Laid BY PROGRAM, IN A SANDBOX (cutbox-rows.mjs): the forced cells as the released guide's own fill.sh prints them over the translation 8be1338ff1abd09c… (all of the seat's roots in one cut). By AI agents, Wed Nov 11 2026. No macro, syntax, notation, axiom, sorry.
-/
import Derived.Test.YtgiipmccolmmdaaChecked
import GoSem.Claim
import GoSem.ClaimJoined
import GoSem.ClaimMapViews
import Derived.JoinedTies
import Derived.KernelRfl
namespace Go.Proofs.Ytgiipmccolmmdaa
/- THE CELL 'sum', in the pinned program and in every row, IS THE sha256 OF THE DUMP (.gsa) THAT YtgiipmccolmmdaaProg.lean LOADS. Nothing in Lean hashes anything: it is a label: what it is worth is what the hold of that sum in a sandbox is worth. -/
noncomputable def Try.pinned : Pinned := { name := "ytgiipmccolmmdaa", sum := "8be1338ff1abd09c767bf8902ef4cf9a6a87bd3ccaa1e72a57bb15d054df106f", checked := Try.checked }
namespace Rows
def none {H : Type} : Left H := { results := [], args := [] }

/-- 'concentriclaw12.KnownFull': WHATEVER THE INPUT: true; the input reads as it did. -/
def knownFullSpec : ChangeSpec := { name := "knownFull", fn := fun _ => fun
  | [d] => { results := [.lit (.bool true)], args := [d] }
  | _ => none }
def knownFullRow : OpenClaim := { program := "ytgiipmccolmmdaa", sum := "8be1338ff1abd09c767bf8902ef4cf9a6a87bd3ccaa1e72a57bb15d054df106f", func := "concentric/concentriclaw12.KnownFull", spec := "knownFull", apart := false }
def KnownFullSaid : Prop := knownFullRow.holds Try.pinned (OpenSpec.ofChange knownFullSpec)

/-- ITS FALSE NEIGHBOUR: 'it returns false'. Refute it at one input. -/
def knownFullWrong : ChangeSpec := { name := "knownFull", fn := fun _ => fun
  | [d] => { results := [.lit (.bool false)], args := [d] }
  | _ => none }
def KnownFullWrongFalsely : Prop := knownFullRow.holds Try.pinned (OpenSpec.ofChange knownFullWrong)

/-- 'concentriclaw12.KnownKnown': WHATEVER THE INPUT: true; the input reads as it did. -/
def knownKnownSpec : ChangeSpec := { name := "knownKnown", fn := fun _ => fun
  | [] => { results := [.lit (.bool true)], args := [] }
  | _ => none }
def knownKnownRow : OpenClaim := { program := "ytgiipmccolmmdaa", sum := "8be1338ff1abd09c767bf8902ef4cf9a6a87bd3ccaa1e72a57bb15d054df106f", func := "concentric/concentriclaw12.KnownKnown", spec := "knownKnown", apart := false }
def KnownKnownSaid : Prop := knownKnownRow.holds Try.pinned (OpenSpec.ofChange knownKnownSpec)

/-- ITS FALSE NEIGHBOUR: 'it returns false'. Refute it at one input. -/
def knownKnownWrong : ChangeSpec := { name := "knownKnown", fn := fun _ => fun
  | [] => { results := [.lit (.bool false)], args := [] }
  | _ => none }
def KnownKnownWrongFalsely : Prop := knownKnownRow.holds Try.pinned (OpenSpec.ofChange knownKnownWrong)

/-- 'concentriclaw12.KnownLeast': WHATEVER THE INPUT: true; the input reads as it did. -/
def knownLeastSpec : ChangeSpec := { name := "knownLeast", fn := fun _ => fun
  | [d] => { results := [.lit (.bool true)], args := [d] }
  | _ => none }
def knownLeastRow : OpenClaim := { program := "ytgiipmccolmmdaa", sum := "8be1338ff1abd09c767bf8902ef4cf9a6a87bd3ccaa1e72a57bb15d054df106f", func := "concentric/concentriclaw12.KnownLeast", spec := "knownLeast", apart := false }
def KnownLeastSaid : Prop := knownLeastRow.holds Try.pinned (OpenSpec.ofChange knownLeastSpec)

/-- ITS FALSE NEIGHBOUR: 'it returns false'. Refute it at one input. -/
def knownLeastWrong : ChangeSpec := { name := "knownLeast", fn := fun _ => fun
  | [d] => { results := [.lit (.bool false)], args := [d] }
  | _ => none }
def KnownLeastWrongFalsely : Prop := knownLeastRow.holds Try.pinned (OpenSpec.ofChange knownLeastWrong)

/-- 'concentriclaw12.KnownRings': WHATEVER THE INPUT: true; the input reads as it did. -/
def knownRingsSpec : ChangeSpec := { name := "knownRings", fn := fun _ => fun
  | [d1, d2] => { results := [.lit (.bool true)], args := [d1, d2] }
  | _ => none }
def knownRingsRow : OpenClaim := { program := "ytgiipmccolmmdaa", sum := "8be1338ff1abd09c767bf8902ef4cf9a6a87bd3ccaa1e72a57bb15d054df106f", func := "concentric/concentriclaw12.KnownRings", spec := "knownRings", apart := false }
def KnownRingsSaid : Prop := knownRingsRow.holds Try.pinned (OpenSpec.ofChange knownRingsSpec)

/-- ITS FALSE NEIGHBOUR: 'it returns false'. Refute it at one input. -/
def knownRingsWrong : ChangeSpec := { name := "knownRings", fn := fun _ => fun
  | [d1, d2] => { results := [.lit (.bool false)], args := [d1, d2] }
  | _ => none }
def KnownRingsWrongFalsely : Prop := knownRingsRow.holds Try.pinned (OpenSpec.ofChange knownRingsWrong)

/- THE SECOND FORM. 'bulk': how many values and letters a reading holds, each counted each time it is reached (what is shared counts as often as it is met; a slice's spare places count too). A statement '..UptoSaid' is the law's where the arguments, and the package variables that the reading takes, are together of bulk at most 1048576: NARROWER than '..Said'. Prove '..Said' where nothing that the law and all that it calls make is longer than what came in: it says more and counts as full. Else prove '..UptoSaid'. A law counts once. -/
mutual
def uptoBulk {H : Type} : DataW H → Nat
  | .lit (.string bytes) => bytes.length + 1
  | .lit _ => 1
  | .nil => 1
  | .ptr d => uptoBulk d + 1
  | .slice elems spare => uptoBulkAll elems + uptoBulkAll spare + 1
  | .agg parts => uptoBulkAll parts + 1
  | .iface _ d => uptoBulk d + 1
  | .map entries => uptoBulkEntries entries + 1
  | .held _ => 1
def uptoBulkAll {H : Type} : List (DataW H) → Nat
  | [] => 0
  | d :: r => uptoBulk d + uptoBulkAll r
def uptoBulkEntries {H : Type} : List (Lit × DataW H) → Nat
  | [] => 0
  | x :: r => uptoBulkEntry x + uptoBulkEntries r
def uptoBulkEntry {H : Type} : Lit × DataW H → Nat
  | (.string bytes, d) => bytes.length + uptoBulk d + 1
  | (_, d) => uptoBulk d + 1
 end
def uptoSmall : (H : Type) → List (DataW H) → Bool := fun _ ds => decide (uptoBulkAll ds ≤ 1048576)
def OpenSpec.upto (s : _root_.Go.ChangeSpec) : _root_.Go.OpenSpec := { _root_.Go.OpenSpec.ofChange s with cond := some uptoSmall }

/-- 'concentriclaw12.KnownFull', WHERE WHAT IT READS IS OF BULK AT MOST 1048576: true; the input reads as it did. -/
def knownFullUptoRow : OpenClaim := { program := "ytgiipmccolmmdaa", sum := "8be1338ff1abd09c767bf8902ef4cf9a6a87bd3ccaa1e72a57bb15d054df106f", func := "concentric/concentriclaw12.KnownFull", spec := "knownFull", apart := false, narrowed := true }
def KnownFullUptoSaid : Prop := knownFullUptoRow.holds Try.pinned (OpenSpec.upto knownFullSpec)

/-- 'concentriclaw12.KnownKnown', WHERE WHAT IT READS IS OF BULK AT MOST 1048576: true; the input reads as it did. -/
def knownKnownUptoRow : OpenClaim := { program := "ytgiipmccolmmdaa", sum := "8be1338ff1abd09c767bf8902ef4cf9a6a87bd3ccaa1e72a57bb15d054df106f", func := "concentric/concentriclaw12.KnownKnown", spec := "knownKnown", apart := false, narrowed := true }
def KnownKnownUptoSaid : Prop := knownKnownUptoRow.holds Try.pinned (OpenSpec.upto knownKnownSpec)

/-- 'concentriclaw12.KnownLeast', WHERE WHAT IT READS IS OF BULK AT MOST 1048576: true; the input reads as it did. -/
def knownLeastUptoRow : OpenClaim := { program := "ytgiipmccolmmdaa", sum := "8be1338ff1abd09c767bf8902ef4cf9a6a87bd3ccaa1e72a57bb15d054df106f", func := "concentric/concentriclaw12.KnownLeast", spec := "knownLeast", apart := false, narrowed := true }
def KnownLeastUptoSaid : Prop := knownLeastUptoRow.holds Try.pinned (OpenSpec.upto knownLeastSpec)

/-- 'concentriclaw12.KnownRings', WHERE WHAT IT READS IS OF BULK AT MOST 1048576: true; the input reads as it did. -/
def knownRingsUptoRow : OpenClaim := { program := "ytgiipmccolmmdaa", sum := "8be1338ff1abd09c767bf8902ef4cf9a6a87bd3ccaa1e72a57bb15d054df106f", func := "concentric/concentriclaw12.KnownRings", spec := "knownRings", apart := false, narrowed := true }
def KnownRingsUptoSaid : Prop := knownRingsUptoRow.holds Try.pinned (OpenSpec.upto knownRingsSpec)

end Rows
end Go.Proofs.Ytgiipmccolmmdaa
