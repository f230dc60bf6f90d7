/-
  No cell of these rows narrows 'for every input' (looked for: loops, veiled, ifaces, maps, wideKeys, modest, calm, conditions, laid).
  DERIVED. THE GIVEN ROWS OF THIS SEAT. 7 by the template 'for every input the law returns true; each argument reads behind the call as it read before'; 0 by the template 'total and deterministic' (their statements: YtgdocnejieaogaaTotals.lean).
  GIVEN WITH THE SEED: the statements are not yours to turn. If you find one false, say at which input.
  Laid BY PROGRAM, IN A SANDBOX (cutbox-rows.mjs): the forced cells as the released guide's own fill.sh prints them over the translation dc31819df865b397… (all of the seat's roots in one cut). By AI agents, Wed Nov 11 2026. No macro, syntax, notation, axiom, sorry.
-/
import Derived.Test.YtgdocnejieaogaaChecked
import GoSem.Claim
import GoSem.ClaimJoined
import GoSem.ClaimMapViews
import Derived.JoinedTies
import Derived.KernelRfl
namespace Go.Proofs.Ytgdocnejieaogaa
/- THE CELL 'sum', in the pinned program and in every row, IS THE sha256 OF THE DUMP (.gsa) THAT YtgdocnejieaogaaProg.lean LOADS. Nothing in Lean hashes anything: it is a label: what it is worth is what the hold of that sum in a sandbox is worth. -/
noncomputable def Try.pinned : Pinned := { name := "ytgdocnejieaogaa", sum := "dc31819df865b397d2547a03a9ccc17bc653184146f0c1bacece25bb654cf2cc", checked := Try.checked }
namespace Rows
def none {H : Type} : Left H := { results := [], args := [] }

/-- 'concentriclaw4.RingLower': WHATEVER THE INPUT: true; the input reads as it did. -/
def ringLowerSpec : ChangeSpec := { name := "ringLower", fn := fun _ => fun
  | [d1, d2, d3] => { results := [.lit (.bool true)], args := [d1, d2, d3] }
  | _ => none }
def ringLowerRow : OpenClaim := { program := "ytgdocnejieaogaa", sum := "dc31819df865b397d2547a03a9ccc17bc653184146f0c1bacece25bb654cf2cc", func := "concentric/concentriclaw4.RingLower", spec := "ringLower", apart := false }
def RingLowerSaid : Prop := ringLowerRow.holds Try.pinned (OpenSpec.ofChange ringLowerSpec)

/-- ITS FALSE NEIGHBOUR: 'it returns false'. Refute it at one input. -/
def ringLowerWrong : ChangeSpec := { name := "ringLower", fn := fun _ => fun
  | [d1, d2, d3] => { results := [.lit (.bool false)], args := [d1, d2, d3] }
  | _ => none }
def RingLowerWrongFalsely : Prop := ringLowerRow.holds Try.pinned (OpenSpec.ofChange ringLowerWrong)

/-- 'concentriclaw4.RingBack': WHATEVER THE INPUT: true; the input reads as it did. -/
def ringBackSpec : ChangeSpec := { name := "ringBack", fn := fun _ => fun
  | [d1, d2] => { results := [.lit (.bool true)], args := [d1, d2] }
  | _ => none }
def ringBackRow : OpenClaim := { program := "ytgdocnejieaogaa", sum := "dc31819df865b397d2547a03a9ccc17bc653184146f0c1bacece25bb654cf2cc", func := "concentric/concentriclaw4.RingBack", spec := "ringBack", apart := false }
def RingBackSaid : Prop := ringBackRow.holds Try.pinned (OpenSpec.ofChange ringBackSpec)

/-- ITS FALSE NEIGHBOUR: 'it returns false'. Refute it at one input. -/
def ringBackWrong : ChangeSpec := { name := "ringBack", fn := fun _ => fun
  | [d1, d2] => { results := [.lit (.bool false)], args := [d1, d2] }
  | _ => none }
def RingBackWrongFalsely : Prop := ringBackRow.holds Try.pinned (OpenSpec.ofChange ringBackWrong)

/-- 'concentriclaw4.RingMay': WHATEVER THE INPUT: true; the input reads as it did. -/
def ringMaySpec : ChangeSpec := { name := "ringMay", fn := fun _ => fun
  | [d1, d2, d3] => { results := [.lit (.bool true)], args := [d1, d2, d3] }
  | _ => none }
def ringMayRow : OpenClaim := { program := "ytgdocnejieaogaa", sum := "dc31819df865b397d2547a03a9ccc17bc653184146f0c1bacece25bb654cf2cc", func := "concentric/concentriclaw4.RingMay", spec := "ringMay", apart := false }
def RingMaySaid : Prop := ringMayRow.holds Try.pinned (OpenSpec.ofChange ringMaySpec)

/-- ITS FALSE NEIGHBOUR: 'it returns false'. Refute it at one input. -/
def ringMayWrong : ChangeSpec := { name := "ringMay", fn := fun _ => fun
  | [d1, d2, d3] => { results := [.lit (.bool false)], args := [d1, d2, d3] }
  | _ => none }
def RingMayWrongFalsely : Prop := ringMayRow.holds Try.pinned (OpenSpec.ofChange ringMayWrong)

/-- 'concentriclaw4.RingFalls': WHATEVER THE INPUT: true; the input reads as it did. -/
def ringFallsSpec : ChangeSpec := { name := "ringFalls", fn := fun _ => fun
  | [d1, d2, d3] => { results := [.lit (.bool true)], args := [d1, d2, d3] }
  | _ => none }
def ringFallsRow : OpenClaim := { program := "ytgdocnejieaogaa", sum := "dc31819df865b397d2547a03a9ccc17bc653184146f0c1bacece25bb654cf2cc", func := "concentric/concentriclaw4.RingFalls", spec := "ringFalls", apart := false }
def RingFallsSaid : Prop := ringFallsRow.holds Try.pinned (OpenSpec.ofChange ringFallsSpec)

/-- ITS FALSE NEIGHBOUR: 'it returns false'. Refute it at one input. -/
def ringFallsWrong : ChangeSpec := { name := "ringFalls", fn := fun _ => fun
  | [d1, d2, d3] => { results := [.lit (.bool false)], args := [d1, d2, d3] }
  | _ => none }
def RingFallsWrongFalsely : Prop := ringFallsRow.holds Try.pinned (OpenSpec.ofChange ringFallsWrong)

/-- 'concentriclaw4.RingKnown': WHATEVER THE INPUT: true; the input reads as it did. -/
def ringKnownSpec : ChangeSpec := { name := "ringKnown", fn := fun _ => fun
  | [] => { results := [.lit (.bool true)], args := [] }
  | _ => none }
def ringKnownRow : OpenClaim := { program := "ytgdocnejieaogaa", sum := "dc31819df865b397d2547a03a9ccc17bc653184146f0c1bacece25bb654cf2cc", func := "concentric/concentriclaw4.RingKnown", spec := "ringKnown", apart := false }
def RingKnownSaid : Prop := ringKnownRow.holds Try.pinned (OpenSpec.ofChange ringKnownSpec)

/-- ITS FALSE NEIGHBOUR: 'it returns false'. Refute it at one input. -/
def ringKnownWrong : ChangeSpec := { name := "ringKnown", fn := fun _ => fun
  | [] => { results := [.lit (.bool false)], args := [] }
  | _ => none }
def RingKnownWrongFalsely : Prop := ringKnownRow.holds Try.pinned (OpenSpec.ofChange ringKnownWrong)

/-- 'concentriclaw4.RingOver': WHATEVER THE INPUT: true; the input reads as it did. -/
def ringOverSpec : ChangeSpec := { name := "ringOver", fn := fun _ => fun
  | [d1, d2, d3] => { results := [.lit (.bool true)], args := [d1, d2, d3] }
  | _ => none }
def ringOverRow : OpenClaim := { program := "ytgdocnejieaogaa", sum := "dc31819df865b397d2547a03a9ccc17bc653184146f0c1bacece25bb654cf2cc", func := "concentric/concentriclaw4.RingOver", spec := "ringOver", apart := false }
def RingOverSaid : Prop := ringOverRow.holds Try.pinned (OpenSpec.ofChange ringOverSpec)

/-- ITS FALSE NEIGHBOUR: 'it returns false'. Refute it at one input. -/
def ringOverWrong : ChangeSpec := { name := "ringOver", fn := fun _ => fun
  | [d1, d2, d3] => { results := [.lit (.bool false)], args := [d1, d2, d3] }
  | _ => none }
def RingOverWrongFalsely : Prop := ringOverRow.holds Try.pinned (OpenSpec.ofChange ringOverWrong)

/-- 'concentriclaw4.RingAll': WHATEVER THE INPUT: true; the input reads as it did. -/
def ringAllSpec : ChangeSpec := { name := "ringAll", fn := fun _ => fun
  | [d1, d2] => { results := [.lit (.bool true)], args := [d1, d2] }
  | _ => none }
def ringAllRow : OpenClaim := { program := "ytgdocnejieaogaa", sum := "dc31819df865b397d2547a03a9ccc17bc653184146f0c1bacece25bb654cf2cc", func := "concentric/concentriclaw4.RingAll", spec := "ringAll", apart := false }
def RingAllSaid : Prop := ringAllRow.holds Try.pinned (OpenSpec.ofChange ringAllSpec)

/-- ITS FALSE NEIGHBOUR: 'it returns false'. Refute it at one input. -/
def ringAllWrong : ChangeSpec := { name := "ringAll", fn := fun _ => fun
  | [d1, d2] => { results := [.lit (.bool false)], args := [d1, d2] }
  | _ => none }
def RingAllWrongFalsely : Prop := ringAllRow.holds Try.pinned (OpenSpec.ofChange ringAllWrong)

/- THE SECOND FORM. 'bulk': how many values and letters a reading holds, each counted each time it is reached (what is shared counts as often as it is met; a slice's spare places count too). A statement '..UptoSaid' is the law's where the arguments, and the package variables that the reading takes, are together of bulk at most 1048576: NARROWER than '..Said'. Prove '..Said' where nothing that the law and all that it calls make is longer than what came in: it says more and counts as full. Else prove '..UptoSaid'. A law counts once. -/
mutual
def uptoBulk {H : Type} : DataW H → Nat
  | .lit (.string bytes) => bytes.length + 1
  | .lit _ => 1
  | .nil => 1
  | .ptr d => uptoBulk d + 1
  | .slice elems spare => uptoBulkAll elems + uptoBulkAll spare + 1
  | .agg parts => uptoBulkAll parts + 1
  | .iface _ d => uptoBulk d + 1
  | .map entries => uptoBulkEntries entries + 1
  | .held _ => 1
def uptoBulkAll {H : Type} : List (DataW H) → Nat
  | [] => 0
  | d :: r => uptoBulk d + uptoBulkAll r
def uptoBulkEntries {H : Type} : List (Lit × DataW H) → Nat
  | [] => 0
  | x :: r => uptoBulkEntry x + uptoBulkEntries r
def uptoBulkEntry {H : Type} : Lit × DataW H → Nat
  | (.string bytes, d) => bytes.length + uptoBulk d + 1
  | (_, d) => uptoBulk d + 1
 end
def uptoSmall : (H : Type) → List (DataW H) → Bool := fun _ ds => decide (uptoBulkAll ds ≤ 1048576)
def OpenSpec.upto (s : _root_.Go.ChangeSpec) : _root_.Go.OpenSpec := { _root_.Go.OpenSpec.ofChange s with cond := some uptoSmall }

/-- 'concentriclaw4.RingLower', WHERE WHAT IT READS IS OF BULK AT MOST 1048576: true; the input reads as it did. -/
def ringLowerUptoRow : OpenClaim := { program := "ytgdocnejieaogaa", sum := "dc31819df865b397d2547a03a9ccc17bc653184146f0c1bacece25bb654cf2cc", func := "concentric/concentriclaw4.RingLower", spec := "ringLower", apart := false, narrowed := true }
def RingLowerUptoSaid : Prop := ringLowerUptoRow.holds Try.pinned (OpenSpec.upto ringLowerSpec)

/-- 'concentriclaw4.RingBack', WHERE WHAT IT READS IS OF BULK AT MOST 1048576: true; the input reads as it did. -/
def ringBackUptoRow : OpenClaim := { program := "ytgdocnejieaogaa", sum := "dc31819df865b397d2547a03a9ccc17bc653184146f0c1bacece25bb654cf2cc", func := "concentric/concentriclaw4.RingBack", spec := "ringBack", apart := false, narrowed := true }
def RingBackUptoSaid : Prop := ringBackUptoRow.holds Try.pinned (OpenSpec.upto ringBackSpec)

/-- 'concentriclaw4.RingMay', WHERE WHAT IT READS IS OF BULK AT MOST 1048576: true; the input reads as it did. -/
def ringMayUptoRow : OpenClaim := { program := "ytgdocnejieaogaa", sum := "dc31819df865b397d2547a03a9ccc17bc653184146f0c1bacece25bb654cf2cc", func := "concentric/concentriclaw4.RingMay", spec := "ringMay", apart := false, narrowed := true }
def RingMayUptoSaid : Prop := ringMayUptoRow.holds Try.pinned (OpenSpec.upto ringMaySpec)

/-- 'concentriclaw4.RingFalls', WHERE WHAT IT READS IS OF BULK AT MOST 1048576: true; the input reads as it did. -/
def ringFallsUptoRow : OpenClaim := { program := "ytgdocnejieaogaa", sum := "dc31819df865b397d2547a03a9ccc17bc653184146f0c1bacece25bb654cf2cc", func := "concentric/concentriclaw4.RingFalls", spec := "ringFalls", apart := false, narrowed := true }
def RingFallsUptoSaid : Prop := ringFallsUptoRow.holds Try.pinned (OpenSpec.upto ringFallsSpec)

/-- 'concentriclaw4.RingKnown', WHERE WHAT IT READS IS OF BULK AT MOST 1048576: true; the input reads as it did. -/
def ringKnownUptoRow : OpenClaim := { program := "ytgdocnejieaogaa", sum := "dc31819df865b397d2547a03a9ccc17bc653184146f0c1bacece25bb654cf2cc", func := "concentric/concentriclaw4.RingKnown", spec := "ringKnown", apart := false, narrowed := true }
def RingKnownUptoSaid : Prop := ringKnownUptoRow.holds Try.pinned (OpenSpec.upto ringKnownSpec)

/-- 'concentriclaw4.RingOver', WHERE WHAT IT READS IS OF BULK AT MOST 1048576: true; the input reads as it did. -/
def ringOverUptoRow : OpenClaim := { program := "ytgdocnejieaogaa", sum := "dc31819df865b397d2547a03a9ccc17bc653184146f0c1bacece25bb654cf2cc", func := "concentric/concentriclaw4.RingOver", spec := "ringOver", apart := false, narrowed := true }
def RingOverUptoSaid : Prop := ringOverUptoRow.holds Try.pinned (OpenSpec.upto ringOverSpec)

/-- 'concentriclaw4.RingAll', WHERE WHAT IT READS IS OF BULK AT MOST 1048576: true; the input reads as it did. -/
def ringAllUptoRow : OpenClaim := { program := "ytgdocnejieaogaa", sum := "dc31819df865b397d2547a03a9ccc17bc653184146f0c1bacece25bb654cf2cc", func := "concentric/concentriclaw4.RingAll", spec := "ringAll", apart := false, narrowed := true }
def RingAllUptoSaid : Prop := ringAllUptoRow.holds Try.pinned (OpenSpec.upto ringAllSpec)

end Rows
end Go.Proofs.Ytgdocnejieaogaa
