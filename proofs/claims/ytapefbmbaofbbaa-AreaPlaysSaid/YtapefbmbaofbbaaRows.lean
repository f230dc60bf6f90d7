/-
  No cell of these rows narrows 'for every input' (looked for: loops, veiled, ifaces, maps, wideKeys, modest, calm, conditions, laid).
  DERIVED. THE GIVEN ROWS OF THIS SEAT. 4 by the template 'for every input the law returns true; each argument reads behind the call as it read before'; 0 by the template 'total and deterministic' (their statements: YtapefbmbaofbbaaTotals.lean).
  GIVEN WITH THE SEED: the statements are not yours to turn. If you find one false, say at which input.
  Laid BY PROGRAM, IN A SANDBOX (cutbox-rows.mjs): the forced cells as the released guide's own fill.sh prints them over the translation 72ade2fb94cb8526… (all of the seat's roots in one cut). By AI agents, Wed Nov 11 2026. No macro, syntax, notation, axiom, sorry.
-/
import Derived.Test.YtapefbmbaofbbaaChecked
import GoSem.Claim
import GoSem.ClaimJoined
import GoSem.ClaimMapViews
import Derived.JoinedTies
import Derived.KernelRfl
namespace Go.Proofs.Ytapefbmbaofbbaa
/- THE CELL 'sum', in the pinned program and in every row, IS THE sha256 OF THE DUMP (.gsa) THAT YtapefbmbaofbbaaProg.lean LOADS. Nothing in Lean hashes anything: it is a label: what it is worth is what the hold of that sum in a sandbox is worth. -/
noncomputable def Try.pinned : Pinned := { name := "ytapefbmbaofbbaa", sum := "72ade2fb94cb8526f93c815301fd8f3bea7aa187fd14ac48f2b0e53988ad4c22", checked := Try.checked }
namespace Rows
def none {H : Type} : Left H := { results := [], args := [] }

/-- 'concentriclaw15.AreaFirst': WHATEVER THE INPUT: true; the input reads as it did. -/
def areaFirstSpec : ChangeSpec := { name := "areaFirst", fn := fun _ => fun
  | [d1, d2, d3] => { results := [.lit (.bool true)], args := [d1, d2, d3] }
  | _ => none }
def areaFirstRow : OpenClaim := { program := "ytapefbmbaofbbaa", sum := "72ade2fb94cb8526f93c815301fd8f3bea7aa187fd14ac48f2b0e53988ad4c22", func := "concentric/concentriclaw15.AreaFirst", spec := "areaFirst", inPlace := ["slices.overlaps[concentric/area.room]"], unfollowed := true, recurses := true, apart := false }
def AreaFirstSaid : Prop := areaFirstRow.holds Try.pinned (OpenSpec.ofChange areaFirstSpec)

/-- ITS FALSE NEIGHBOUR: 'it returns false'. Refute it at one input. -/
def areaFirstWrong : ChangeSpec := { name := "areaFirst", fn := fun _ => fun
  | [d1, d2, d3] => { results := [.lit (.bool false)], args := [d1, d2, d3] }
  | _ => none }
def AreaFirstWrongFalsely : Prop := areaFirstRow.holds Try.pinned (OpenSpec.ofChange areaFirstWrong)

/-- 'concentriclaw15.AreaSums': WHATEVER THE INPUT: true; the input reads as it did. -/
def areaSumsSpec : ChangeSpec := { name := "areaSums", fn := fun _ => fun
  | [d1, d2] => { results := [.lit (.bool true)], args := [d1, d2] }
  | _ => none }
def areaSumsRow : OpenClaim := { program := "ytapefbmbaofbbaa", sum := "72ade2fb94cb8526f93c815301fd8f3bea7aa187fd14ac48f2b0e53988ad4c22", func := "concentric/concentriclaw15.AreaSums", spec := "areaSums", inPlace := ["slices.overlaps[concentric/area.room]"], unfollowed := true, recurses := true, apart := false }
def AreaSumsSaid : Prop := areaSumsRow.holds Try.pinned (OpenSpec.ofChange areaSumsSpec)

/-- ITS FALSE NEIGHBOUR: 'it returns false'. Refute it at one input. -/
def areaSumsWrong : ChangeSpec := { name := "areaSums", fn := fun _ => fun
  | [d1, d2] => { results := [.lit (.bool false)], args := [d1, d2] }
  | _ => none }
def AreaSumsWrongFalsely : Prop := areaSumsRow.holds Try.pinned (OpenSpec.ofChange areaSumsWrong)

/-- 'concentriclaw15.AreaKnown': WHATEVER THE INPUT: true; the input reads as it did. -/
def areaKnownSpec : ChangeSpec := { name := "areaKnown", fn := fun _ => fun
  | [] => { results := [.lit (.bool true)], args := [] }
  | _ => none }
def areaKnownRow : OpenClaim := { program := "ytapefbmbaofbbaa", sum := "72ade2fb94cb8526f93c815301fd8f3bea7aa187fd14ac48f2b0e53988ad4c22", func := "concentric/concentriclaw15.AreaKnown", spec := "areaKnown", inPlace := ["slices.overlaps[concentric/area.room]"], unfollowed := true, recurses := true, apart := false }
def AreaKnownSaid : Prop := areaKnownRow.holds Try.pinned (OpenSpec.ofChange areaKnownSpec)

/-- ITS FALSE NEIGHBOUR: 'it returns false'. Refute it at one input. -/
def areaKnownWrong : ChangeSpec := { name := "areaKnown", fn := fun _ => fun
  | [] => { results := [.lit (.bool false)], args := [] }
  | _ => none }
def AreaKnownWrongFalsely : Prop := areaKnownRow.holds Try.pinned (OpenSpec.ofChange areaKnownWrong)

/-- 'concentriclaw15.AreaPlays': WHATEVER THE INPUT: true; the input reads as it did. -/
def areaPlaysSpec : ChangeSpec := { name := "areaPlays", fn := fun _ => fun
  | [d1, d2] => { results := [.lit (.bool true)], args := [d1, d2] }
  | _ => none }
def areaPlaysRow : OpenClaim := { program := "ytapefbmbaofbbaa", sum := "72ade2fb94cb8526f93c815301fd8f3bea7aa187fd14ac48f2b0e53988ad4c22", func := "concentric/concentriclaw15.AreaPlays", spec := "areaPlays", inPlace := ["slices.overlaps[concentric/area.room]"], unfollowed := true, recurses := true, apart := false }
def AreaPlaysSaid : Prop := areaPlaysRow.holds Try.pinned (OpenSpec.ofChange areaPlaysSpec)

/-- ITS FALSE NEIGHBOUR: 'it returns false'. Refute it at one input. -/
def areaPlaysWrong : ChangeSpec := { name := "areaPlays", fn := fun _ => fun
  | [d1, d2] => { results := [.lit (.bool false)], args := [d1, d2] }
  | _ => none }
def AreaPlaysWrongFalsely : Prop := areaPlaysRow.holds Try.pinned (OpenSpec.ofChange areaPlaysWrong)

/- THE SECOND FORM. 'bulk': how many values and letters a reading holds, each counted each time it is reached (what is shared counts as often as it is met; a slice's spare places count too). A statement '..UptoSaid' is the law's where the arguments, and the package variables that the reading takes, are together of bulk at most 1048576: NARROWER than '..Said'. Prove '..Said' where nothing that the law and all that it calls make is longer than what came in: it says more and counts as full. Else prove '..UptoSaid'. A law counts once. -/
mutual
def uptoBulk {H : Type} : DataW H → Nat
  | .lit (.string bytes) => bytes.length + 1
  | .lit _ => 1
  | .nil => 1
  | .ptr d => uptoBulk d + 1
  | .slice elems spare => uptoBulkAll elems + uptoBulkAll spare + 1
  | .agg parts => uptoBulkAll parts + 1
  | .iface _ d => uptoBulk d + 1
  | .map entries => uptoBulkEntries entries + 1
  | .held _ => 1
def uptoBulkAll {H : Type} : List (DataW H) → Nat
  | [] => 0
  | d :: r => uptoBulk d + uptoBulkAll r
def uptoBulkEntries {H : Type} : List (Lit × DataW H) → Nat
  | [] => 0
  | x :: r => uptoBulkEntry x + uptoBulkEntries r
def uptoBulkEntry {H : Type} : Lit × DataW H → Nat
  | (.string bytes, d) => bytes.length + uptoBulk d + 1
  | (_, d) => uptoBulk d + 1
 end
def uptoSmall : (H : Type) → List (DataW H) → Bool := fun _ ds => decide (uptoBulkAll ds ≤ 1048576)
def OpenSpec.upto (s : _root_.Go.ChangeSpec) : _root_.Go.OpenSpec := { _root_.Go.OpenSpec.ofChange s with cond := some uptoSmall }

/-- 'concentriclaw15.AreaFirst', WHERE WHAT IT READS IS OF BULK AT MOST 1048576: true; the input reads as it did. -/
def areaFirstUptoRow : OpenClaim := { program := "ytapefbmbaofbbaa", sum := "72ade2fb94cb8526f93c815301fd8f3bea7aa187fd14ac48f2b0e53988ad4c22", func := "concentric/concentriclaw15.AreaFirst", spec := "areaFirst", inPlace := ["slices.overlaps[concentric/area.room]"], unfollowed := true, recurses := true, apart := false, narrowed := true }
def AreaFirstUptoSaid : Prop := areaFirstUptoRow.holds Try.pinned (OpenSpec.upto areaFirstSpec)

/-- 'concentriclaw15.AreaSums', WHERE WHAT IT READS IS OF BULK AT MOST 1048576: true; the input reads as it did. -/
def areaSumsUptoRow : OpenClaim := { program := "ytapefbmbaofbbaa", sum := "72ade2fb94cb8526f93c815301fd8f3bea7aa187fd14ac48f2b0e53988ad4c22", func := "concentric/concentriclaw15.AreaSums", spec := "areaSums", inPlace := ["slices.overlaps[concentric/area.room]"], unfollowed := true, recurses := true, apart := false, narrowed := true }
def AreaSumsUptoSaid : Prop := areaSumsUptoRow.holds Try.pinned (OpenSpec.upto areaSumsSpec)

/-- 'concentriclaw15.AreaKnown', WHERE WHAT IT READS IS OF BULK AT MOST 1048576: true; the input reads as it did. -/
def areaKnownUptoRow : OpenClaim := { program := "ytapefbmbaofbbaa", sum := "72ade2fb94cb8526f93c815301fd8f3bea7aa187fd14ac48f2b0e53988ad4c22", func := "concentric/concentriclaw15.AreaKnown", spec := "areaKnown", inPlace := ["slices.overlaps[concentric/area.room]"], unfollowed := true, recurses := true, apart := false, narrowed := true }
def AreaKnownUptoSaid : Prop := areaKnownUptoRow.holds Try.pinned (OpenSpec.upto areaKnownSpec)

/-- 'concentriclaw15.AreaPlays', WHERE WHAT IT READS IS OF BULK AT MOST 1048576: true; the input reads as it did. -/
def areaPlaysUptoRow : OpenClaim := { program := "ytapefbmbaofbbaa", sum := "72ade2fb94cb8526f93c815301fd8f3bea7aa187fd14ac48f2b0e53988ad4c22", func := "concentric/concentriclaw15.AreaPlays", spec := "areaPlays", inPlace := ["slices.overlaps[concentric/area.room]"], unfollowed := true, recurses := true, apart := false, narrowed := true }
def AreaPlaysUptoSaid : Prop := areaPlaysUptoRow.holds Try.pinned (OpenSpec.upto areaPlaysSpec)

end Rows
end Go.Proofs.Ytapefbmbaofbbaa
