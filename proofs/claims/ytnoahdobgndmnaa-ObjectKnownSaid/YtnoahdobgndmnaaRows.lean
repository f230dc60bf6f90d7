/-
  No cell of these rows narrows 'for every input' (looked for: loops, veiled, ifaces, maps, wideKeys, modest, calm, conditions, laid).
  DERIVED. THE GIVEN ROWS OF THIS SEAT. 5 by the template 'for every input the law returns true; each argument reads behind the call as it read before'; 0 by the template 'total and deterministic' (their statements: YtnoahdobgndmnaaTotals.lean).
  GIVEN WITH THE SEED: the statements are not yours to turn. If you find one false, say at which input.
  Laid BY PROGRAM, IN A SANDBOX (cutbox-rows.mjs): the forced cells as the released guide's own fill.sh prints them over the translation ab5f8e405399f6a3… (all of the seat's roots in one cut). By AI agents, Wed Nov 11 2026. No macro, syntax, notation, axiom, sorry.
-/
import Derived.Test.YtnoahdobgndmnaaChecked
import GoSem.Claim
import GoSem.ClaimJoined
import GoSem.ClaimMapViews
import Derived.JoinedTies
import Derived.KernelRfl
namespace Go.Proofs.Ytnoahdobgndmnaa
/- THE CELL 'sum', in the pinned program and in every row, IS THE sha256 OF THE DUMP (.gsa) THAT YtnoahdobgndmnaaProg.lean LOADS. Nothing in Lean hashes anything: it is a label: what it is worth is what the hold of that sum in a sandbox is worth. -/
noncomputable def Try.pinned : Pinned := { name := "ytnoahdobgndmnaa", sum := "ab5f8e405399f6a3b7857864aaffa9798e12872f4c1ba4459f2a6ec2eb385f11", checked := Try.checked }
namespace Rows
def none {H : Type} : Left H := { results := [], args := [] }

/-- 'concentriclaw10.ObjectReads': WHATEVER THE INPUT: true; the input reads as it did. -/
def objectReadsSpec : ChangeSpec := { name := "objectReads", fn := fun _ => fun
  | [d] => { results := [.lit (.bool true)], args := [d] }
  | _ => none }
def objectReadsRow : OpenClaim := { program := "ytnoahdobgndmnaa", sum := "ab5f8e405399f6a3b7857864aaffa9798e12872f4c1ba4459f2a6ec2eb385f11", func := "concentric/concentriclaw10.ObjectReads", spec := "objectReads", unfollowed := true, recurses := true, apart := false }
def ObjectReadsSaid : Prop := objectReadsRow.holds Try.pinned (OpenSpec.ofChange objectReadsSpec)

/-- ITS FALSE NEIGHBOUR: 'it returns false'. Refute it at one input. -/
def objectReadsWrong : ChangeSpec := { name := "objectReads", fn := fun _ => fun
  | [d] => { results := [.lit (.bool false)], args := [d] }
  | _ => none }
def ObjectReadsWrongFalsely : Prop := objectReadsRow.holds Try.pinned (OpenSpec.ofChange objectReadsWrong)

/-- 'concentriclaw10.ObjectKnown': WHATEVER THE INPUT: true; the input reads as it did. -/
def objectKnownSpec : ChangeSpec := { name := "objectKnown", fn := fun _ => fun
  | [] => { results := [.lit (.bool true)], args := [] }
  | _ => none }
def objectKnownRow : OpenClaim := { program := "ytnoahdobgndmnaa", sum := "ab5f8e405399f6a3b7857864aaffa9798e12872f4c1ba4459f2a6ec2eb385f11", func := "concentric/concentriclaw10.ObjectKnown", spec := "objectKnown", unfollowed := true, recurses := true, apart := false }
def ObjectKnownSaid : Prop := objectKnownRow.holds Try.pinned (OpenSpec.ofChange objectKnownSpec)

/-- ITS FALSE NEIGHBOUR: 'it returns false'. Refute it at one input. -/
def objectKnownWrong : ChangeSpec := { name := "objectKnown", fn := fun _ => fun
  | [] => { results := [.lit (.bool false)], args := [] }
  | _ => none }
def ObjectKnownWrongFalsely : Prop := objectKnownRow.holds Try.pinned (OpenSpec.ofChange objectKnownWrong)

/-- 'concentriclaw10.ObjectCuts': WHATEVER THE INPUT: true; the input reads as it did. -/
def objectCutsSpec : ChangeSpec := { name := "objectCuts", fn := fun _ => fun
  | [d1, d2] => { results := [.lit (.bool true)], args := [d1, d2] }
  | _ => none }
def objectCutsRow : OpenClaim := { program := "ytnoahdobgndmnaa", sum := "ab5f8e405399f6a3b7857864aaffa9798e12872f4c1ba4459f2a6ec2eb385f11", func := "concentric/concentriclaw10.ObjectCuts", spec := "objectCuts", unfollowed := true, recurses := true, apart := false }
def ObjectCutsSaid : Prop := objectCutsRow.holds Try.pinned (OpenSpec.ofChange objectCutsSpec)

/-- ITS FALSE NEIGHBOUR: 'it returns false'. Refute it at one input. -/
def objectCutsWrong : ChangeSpec := { name := "objectCuts", fn := fun _ => fun
  | [d1, d2] => { results := [.lit (.bool false)], args := [d1, d2] }
  | _ => none }
def ObjectCutsWrongFalsely : Prop := objectCutsRow.holds Try.pinned (OpenSpec.ofChange objectCutsWrong)

/-- 'concentriclaw10.ObjectApart': WHATEVER THE INPUT: true; the input reads as it did. -/
def objectApartSpec : ChangeSpec := { name := "objectApart", fn := fun _ => fun
  | [d1, d2] => { results := [.lit (.bool true)], args := [d1, d2] }
  | _ => none }
def objectApartRow : OpenClaim := { program := "ytnoahdobgndmnaa", sum := "ab5f8e405399f6a3b7857864aaffa9798e12872f4c1ba4459f2a6ec2eb385f11", func := "concentric/concentriclaw10.ObjectApart", spec := "objectApart", unfollowed := true, recurses := true, apart := false }
def ObjectApartSaid : Prop := objectApartRow.holds Try.pinned (OpenSpec.ofChange objectApartSpec)

/-- ITS FALSE NEIGHBOUR: 'it returns false'. Refute it at one input. -/
def objectApartWrong : ChangeSpec := { name := "objectApart", fn := fun _ => fun
  | [d1, d2] => { results := [.lit (.bool false)], args := [d1, d2] }
  | _ => none }
def ObjectApartWrongFalsely : Prop := objectApartRow.holds Try.pinned (OpenSpec.ofChange objectApartWrong)

/-- 'concentriclaw10.ObjectLimits': WHATEVER THE INPUT: true; the input reads as it did. -/
def objectLimitsSpec : ChangeSpec := { name := "objectLimits", fn := fun _ => fun
  | [d] => { results := [.lit (.bool true)], args := [d] }
  | _ => none }
def objectLimitsRow : OpenClaim := { program := "ytnoahdobgndmnaa", sum := "ab5f8e405399f6a3b7857864aaffa9798e12872f4c1ba4459f2a6ec2eb385f11", func := "concentric/concentriclaw10.ObjectLimits", spec := "objectLimits", unfollowed := true, recurses := true, apart := false }
def ObjectLimitsSaid : Prop := objectLimitsRow.holds Try.pinned (OpenSpec.ofChange objectLimitsSpec)

/-- ITS FALSE NEIGHBOUR: 'it returns false'. Refute it at one input. -/
def objectLimitsWrong : ChangeSpec := { name := "objectLimits", fn := fun _ => fun
  | [d] => { results := [.lit (.bool false)], args := [d] }
  | _ => none }
def ObjectLimitsWrongFalsely : Prop := objectLimitsRow.holds Try.pinned (OpenSpec.ofChange objectLimitsWrong)

/- THE SECOND FORM. 'bulk': how many values and letters a reading holds, each counted each time it is reached (what is shared counts as often as it is met; a slice's spare places count too). A statement '..UptoSaid' is the law's where the arguments, and the package variables that the reading takes, are together of bulk at most 1048576: NARROWER than '..Said'. Prove '..Said' where nothing that the law and all that it calls make is longer than what came in: it says more and counts as full. Else prove '..UptoSaid'. A law counts once. -/
mutual
def uptoBulk {H : Type} : DataW H → Nat
  | .lit (.string bytes) => bytes.length + 1
  | .lit _ => 1
  | .nil => 1
  | .ptr d => uptoBulk d + 1
  | .slice elems spare => uptoBulkAll elems + uptoBulkAll spare + 1
  | .agg parts => uptoBulkAll parts + 1
  | .iface _ d => uptoBulk d + 1
  | .map entries => uptoBulkEntries entries + 1
  | .held _ => 1
def uptoBulkAll {H : Type} : List (DataW H) → Nat
  | [] => 0
  | d :: r => uptoBulk d + uptoBulkAll r
def uptoBulkEntries {H : Type} : List (Lit × DataW H) → Nat
  | [] => 0
  | x :: r => uptoBulkEntry x + uptoBulkEntries r
def uptoBulkEntry {H : Type} : Lit × DataW H → Nat
  | (.string bytes, d) => bytes.length + uptoBulk d + 1
  | (_, d) => uptoBulk d + 1
 end
def uptoSmall : (H : Type) → List (DataW H) → Bool := fun _ ds => decide (uptoBulkAll ds ≤ 1048576)
def OpenSpec.upto (s : _root_.Go.ChangeSpec) : _root_.Go.OpenSpec := { _root_.Go.OpenSpec.ofChange s with cond := some uptoSmall }

/-- 'concentriclaw10.ObjectReads', WHERE WHAT IT READS IS OF BULK AT MOST 1048576: true; the input reads as it did. -/
def objectReadsUptoRow : OpenClaim := { program := "ytnoahdobgndmnaa", sum := "ab5f8e405399f6a3b7857864aaffa9798e12872f4c1ba4459f2a6ec2eb385f11", func := "concentric/concentriclaw10.ObjectReads", spec := "objectReads", unfollowed := true, recurses := true, apart := false, narrowed := true }
def ObjectReadsUptoSaid : Prop := objectReadsUptoRow.holds Try.pinned (OpenSpec.upto objectReadsSpec)

/-- 'concentriclaw10.ObjectKnown', WHERE WHAT IT READS IS OF BULK AT MOST 1048576: true; the input reads as it did. -/
def objectKnownUptoRow : OpenClaim := { program := "ytnoahdobgndmnaa", sum := "ab5f8e405399f6a3b7857864aaffa9798e12872f4c1ba4459f2a6ec2eb385f11", func := "concentric/concentriclaw10.ObjectKnown", spec := "objectKnown", unfollowed := true, recurses := true, apart := false, narrowed := true }
def ObjectKnownUptoSaid : Prop := objectKnownUptoRow.holds Try.pinned (OpenSpec.upto objectKnownSpec)

/-- 'concentriclaw10.ObjectCuts', WHERE WHAT IT READS IS OF BULK AT MOST 1048576: true; the input reads as it did. -/
def objectCutsUptoRow : OpenClaim := { program := "ytnoahdobgndmnaa", sum := "ab5f8e405399f6a3b7857864aaffa9798e12872f4c1ba4459f2a6ec2eb385f11", func := "concentric/concentriclaw10.ObjectCuts", spec := "objectCuts", unfollowed := true, recurses := true, apart := false, narrowed := true }
def ObjectCutsUptoSaid : Prop := objectCutsUptoRow.holds Try.pinned (OpenSpec.upto objectCutsSpec)

/-- 'concentriclaw10.ObjectApart', WHERE WHAT IT READS IS OF BULK AT MOST 1048576: true; the input reads as it did. -/
def objectApartUptoRow : OpenClaim := { program := "ytnoahdobgndmnaa", sum := "ab5f8e405399f6a3b7857864aaffa9798e12872f4c1ba4459f2a6ec2eb385f11", func := "concentric/concentriclaw10.ObjectApart", spec := "objectApart", unfollowed := true, recurses := true, apart := false, narrowed := true }
def ObjectApartUptoSaid : Prop := objectApartUptoRow.holds Try.pinned (OpenSpec.upto objectApartSpec)

/-- 'concentriclaw10.ObjectLimits', WHERE WHAT IT READS IS OF BULK AT MOST 1048576: true; the input reads as it did. -/
def objectLimitsUptoRow : OpenClaim := { program := "ytnoahdobgndmnaa", sum := "ab5f8e405399f6a3b7857864aaffa9798e12872f4c1ba4459f2a6ec2eb385f11", func := "concentric/concentriclaw10.ObjectLimits", spec := "objectLimits", unfollowed := true, recurses := true, apart := false, narrowed := true }
def ObjectLimitsUptoSaid : Prop := objectLimitsUptoRow.holds Try.pinned (OpenSpec.upto objectLimitsSpec)

end Rows
end Go.Proofs.Ytnoahdobgndmnaa
