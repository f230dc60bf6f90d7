/-
  No cell of these rows narrows 'for every input' (looked for: loops, veiled, ifaces, maps, wideKeys, modest, calm, conditions, laid).
  DERIVED. THE GIVEN ROWS OF THIS SEAT. 4 by the template 'for every input the law returns true; each argument reads behind the call as it read before'; 0 by the template 'total and deterministic' (their statements: YtakhidieomalhaaTotals.lean).
  GIVEN WITH THE SEED: the statements are not yours to turn. If you find one false, say at which input.
  Laid BY PROGRAM, IN A SANDBOX (cutbox-rows.mjs): the forced cells as the released guide's own fill.sh prints them over the translation 61817b1e11657c67… (all of the seat's roots in one cut). By AI agents, Wed Nov 11 2026. No macro, syntax, notation, axiom, sorry.
-/
import Derived.Test.YtakhidieomalhaaChecked
import GoSem.Claim
import GoSem.ClaimJoined
import GoSem.ClaimMapViews
import Derived.JoinedTies
import Derived.KernelRfl
namespace Go.Proofs.Ytakhidieomalhaa
/- THE CELL 'sum', in the pinned program and in every row, IS THE sha256 OF THE DUMP (.gsa) THAT YtakhidieomalhaaProg.lean LOADS. Nothing in Lean hashes anything: it is a label: what it is worth is what the hold of that sum in a sandbox is worth. -/
noncomputable def Try.pinned : Pinned := { name := "ytakhidieomalhaa", sum := "61817b1e11657c6718f8e9b7f7108f02f32eb5857b8098473e25c425379e5af3", checked := Try.checked }
namespace Rows
def none {H : Type} : Left H := { results := [], args := [] }

/-- 'concentriclaw13.ReferMany': WHATEVER THE INPUT: true; the input reads as it did. -/
def referManySpec : ChangeSpec := { name := "referMany", fn := fun _ => fun
  | [d1, d2] => { results := [.lit (.bool true)], args := [d1, d2] }
  | _ => none }
def referManyRow : OpenClaim := { program := "ytakhidieomalhaa", sum := "61817b1e11657c6718f8e9b7f7108f02f32eb5857b8098473e25c425379e5af3", func := "concentric/concentriclaw13.ReferMany", spec := "referMany", unfollowed := true, recurses := true, plainKeys := false, apart := false }
def ReferManySaid : Prop := referManyRow.holds Try.pinned (OpenSpec.ofChange referManySpec)

/-- ITS FALSE NEIGHBOUR: 'it returns false'. Refute it at one input. -/
def referManyWrong : ChangeSpec := { name := "referMany", fn := fun _ => fun
  | [d1, d2] => { results := [.lit (.bool false)], args := [d1, d2] }
  | _ => none }
def ReferManyWrongFalsely : Prop := referManyRow.holds Try.pinned (OpenSpec.ofChange referManyWrong)

/-- 'concentriclaw13.ReferRings': WHATEVER THE INPUT: true; the input reads as it did. -/
def referRingsSpec : ChangeSpec := { name := "referRings", fn := fun _ => fun
  | [d1, d2, d3] => { results := [.lit (.bool true)], args := [d1, d2, d3] }
  | _ => none }
def referRingsRow : OpenClaim := { program := "ytakhidieomalhaa", sum := "61817b1e11657c6718f8e9b7f7108f02f32eb5857b8098473e25c425379e5af3", func := "concentric/concentriclaw13.ReferRings", spec := "referRings", unfollowed := true, recurses := true, plainKeys := false, apart := false }
def ReferRingsSaid : Prop := referRingsRow.holds Try.pinned (OpenSpec.ofChange referRingsSpec)

/-- ITS FALSE NEIGHBOUR: 'it returns false'. Refute it at one input. -/
def referRingsWrong : ChangeSpec := { name := "referRings", fn := fun _ => fun
  | [d1, d2, d3] => { results := [.lit (.bool false)], args := [d1, d2, d3] }
  | _ => none }
def ReferRingsWrongFalsely : Prop := referRingsRow.holds Try.pinned (OpenSpec.ofChange referRingsWrong)

/-- 'concentriclaw13.ReferPlays': WHATEVER THE INPUT: true; the input reads as it did. -/
def referPlaysSpec : ChangeSpec := { name := "referPlays", fn := fun _ => fun
  | [d] => { results := [.lit (.bool true)], args := [d] }
  | _ => none }
def referPlaysRow : OpenClaim := { program := "ytakhidieomalhaa", sum := "61817b1e11657c6718f8e9b7f7108f02f32eb5857b8098473e25c425379e5af3", func := "concentric/concentriclaw13.ReferPlays", spec := "referPlays", unfollowed := true, recurses := true, plainKeys := false, apart := false }
def ReferPlaysSaid : Prop := referPlaysRow.holds Try.pinned (OpenSpec.ofChange referPlaysSpec)

/-- ITS FALSE NEIGHBOUR: 'it returns false'. Refute it at one input. -/
def referPlaysWrong : ChangeSpec := { name := "referPlays", fn := fun _ => fun
  | [d] => { results := [.lit (.bool false)], args := [d] }
  | _ => none }
def ReferPlaysWrongFalsely : Prop := referPlaysRow.holds Try.pinned (OpenSpec.ofChange referPlaysWrong)

/-- 'concentriclaw13.ReferKnown': WHATEVER THE INPUT: true; the input reads as it did. -/
def referKnownSpec : ChangeSpec := { name := "referKnown", fn := fun _ => fun
  | [] => { results := [.lit (.bool true)], args := [] }
  | _ => none }
def referKnownRow : OpenClaim := { program := "ytakhidieomalhaa", sum := "61817b1e11657c6718f8e9b7f7108f02f32eb5857b8098473e25c425379e5af3", func := "concentric/concentriclaw13.ReferKnown", spec := "referKnown", unfollowed := true, recurses := true, plainKeys := false, apart := false }
def ReferKnownSaid : Prop := referKnownRow.holds Try.pinned (OpenSpec.ofChange referKnownSpec)

/-- ITS FALSE NEIGHBOUR: 'it returns false'. Refute it at one input. -/
def referKnownWrong : ChangeSpec := { name := "referKnown", fn := fun _ => fun
  | [] => { results := [.lit (.bool false)], args := [] }
  | _ => none }
def ReferKnownWrongFalsely : Prop := referKnownRow.holds Try.pinned (OpenSpec.ofChange referKnownWrong)

/- THE SECOND FORM. 'bulk': how many values and letters a reading holds, each counted each time it is reached (what is shared counts as often as it is met; a slice's spare places count too). A statement '..UptoSaid' is the law's where the arguments, and the package variables that the reading takes, are together of bulk at most 1048576: NARROWER than '..Said'. Prove '..Said' where nothing that the law and all that it calls make is longer than what came in: it says more and counts as full. Else prove '..UptoSaid'. A law counts once. -/
mutual
def uptoBulk {H : Type} : DataW H → Nat
  | .lit (.string bytes) => bytes.length + 1
  | .lit _ => 1
  | .nil => 1
  | .ptr d => uptoBulk d + 1
  | .slice elems spare => uptoBulkAll elems + uptoBulkAll spare + 1
  | .agg parts => uptoBulkAll parts + 1
  | .iface _ d => uptoBulk d + 1
  | .map entries => uptoBulkEntries entries + 1
  | .held _ => 1
def uptoBulkAll {H : Type} : List (DataW H) → Nat
  | [] => 0
  | d :: r => uptoBulk d + uptoBulkAll r
def uptoBulkEntries {H : Type} : List (Lit × DataW H) → Nat
  | [] => 0
  | x :: r => uptoBulkEntry x + uptoBulkEntries r
def uptoBulkEntry {H : Type} : Lit × DataW H → Nat
  | (.string bytes, d) => bytes.length + uptoBulk d + 1
  | (_, d) => uptoBulk d + 1
 end
def uptoSmall : (H : Type) → List (DataW H) → Bool := fun _ ds => decide (uptoBulkAll ds ≤ 1048576)
def OpenSpec.upto (s : _root_.Go.ChangeSpec) : _root_.Go.OpenSpec := { _root_.Go.OpenSpec.ofChange s with cond := some uptoSmall }

/-- 'concentriclaw13.ReferMany', WHERE WHAT IT READS IS OF BULK AT MOST 1048576: true; the input reads as it did. -/
def referManyUptoRow : OpenClaim := { program := "ytakhidieomalhaa", sum := "61817b1e11657c6718f8e9b7f7108f02f32eb5857b8098473e25c425379e5af3", func := "concentric/concentriclaw13.ReferMany", spec := "referMany", unfollowed := true, recurses := true, plainKeys := false, apart := false, narrowed := true }
def ReferManyUptoSaid : Prop := referManyUptoRow.holds Try.pinned (OpenSpec.upto referManySpec)

/-- 'concentriclaw13.ReferRings', WHERE WHAT IT READS IS OF BULK AT MOST 1048576: true; the input reads as it did. -/
def referRingsUptoRow : OpenClaim := { program := "ytakhidieomalhaa", sum := "61817b1e11657c6718f8e9b7f7108f02f32eb5857b8098473e25c425379e5af3", func := "concentric/concentriclaw13.ReferRings", spec := "referRings", unfollowed := true, recurses := true, plainKeys := false, apart := false, narrowed := true }
def ReferRingsUptoSaid : Prop := referRingsUptoRow.holds Try.pinned (OpenSpec.upto referRingsSpec)

/-- 'concentriclaw13.ReferPlays', WHERE WHAT IT READS IS OF BULK AT MOST 1048576: true; the input reads as it did. -/
def referPlaysUptoRow : OpenClaim := { program := "ytakhidieomalhaa", sum := "61817b1e11657c6718f8e9b7f7108f02f32eb5857b8098473e25c425379e5af3", func := "concentric/concentriclaw13.ReferPlays", spec := "referPlays", unfollowed := true, recurses := true, plainKeys := false, apart := false, narrowed := true }
def ReferPlaysUptoSaid : Prop := referPlaysUptoRow.holds Try.pinned (OpenSpec.upto referPlaysSpec)

/-- 'concentriclaw13.ReferKnown', WHERE WHAT IT READS IS OF BULK AT MOST 1048576: true; the input reads as it did. -/
def referKnownUptoRow : OpenClaim := { program := "ytakhidieomalhaa", sum := "61817b1e11657c6718f8e9b7f7108f02f32eb5857b8098473e25c425379e5af3", func := "concentric/concentriclaw13.ReferKnown", spec := "referKnown", unfollowed := true, recurses := true, plainKeys := false, apart := false, narrowed := true }
def ReferKnownUptoSaid : Prop := referKnownUptoRow.holds Try.pinned (OpenSpec.upto referKnownSpec)

end Rows
end Go.Proofs.Ytakhidieomalhaa
