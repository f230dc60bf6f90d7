/-
  No cell of these rows narrows 'for every input' (looked for: loops, veiled, ifaces, maps, wideKeys, modest, calm, conditions, laid).
  DERIVED. THE GIVEN ROWS OF THIS SEAT. 5 by the template 'for every input the law returns true; each argument reads behind the call as it read before'; 0 by the template 'total and deterministic' (their statements: YteakbhfegbghoaaTotals.lean).
  GIVEN WITH THE SEED: the statements are not yours to turn. If you find one false, say at which input.
  Laid BY PROGRAM, IN A SANDBOX (cutbox-rows.mjs): the forced cells as the released guide's own fill.sh prints them over the translation 7d9e2e8c7137e1c2… (all of the seat's roots in one cut). By AI agents, Wed Nov 11 2026. No macro, syntax, notation, axiom, sorry.
-/
import Derived.Test.YteakbhfegbghoaaChecked
import GoSem.Claim
import GoSem.ClaimJoined
import GoSem.ClaimMapViews
import Derived.JoinedTies
import Derived.KernelRfl
namespace Go.Proofs.Yteakbhfegbghoaa
/- THE CELL 'sum', in the pinned program and in every row, IS THE sha256 OF THE DUMP (.gsa) THAT YteakbhfegbghoaaProg.lean LOADS. Nothing in Lean hashes anything: it is a label: what it is worth is what the hold of that sum in a sandbox is worth. -/
noncomputable def Try.pinned : Pinned := { name := "yteakbhfegbghoaa", sum := "7d9e2e8c7137e1c2a3a79b815ccb04c9939912374b099bc54cd8e072a80116f4", checked := Try.checked }
namespace Rows
def none {H : Type} : Left H := { results := [], args := [] }

/-- 'concentriclaw16.LinkageFull': WHATEVER THE INPUT: true; the input reads as it did. -/
def linkageFullSpec : ChangeSpec := { name := "linkageFull", fn := fun _ => fun
  | [d1, d2] => { results := [.lit (.bool true)], args := [d1, d2] }
  | _ => none }
def linkageFullRow : OpenClaim := { program := "yteakbhfegbghoaa", sum := "7d9e2e8c7137e1c2a3a79b815ccb04c9939912374b099bc54cd8e072a80116f4", func := "concentric/concentriclaw16.LinkageFull", spec := "linkageFull", inPlace := ["slices.overlaps[concentric/area.room]"], unfollowed := true, recurses := true, plainKeys := false, apart := false }
def LinkageFullSaid : Prop := linkageFullRow.holds Try.pinned (OpenSpec.ofChange linkageFullSpec)

/-- ITS FALSE NEIGHBOUR: 'it returns false'. Refute it at one input. -/
def linkageFullWrong : ChangeSpec := { name := "linkageFull", fn := fun _ => fun
  | [d1, d2] => { results := [.lit (.bool false)], args := [d1, d2] }
  | _ => none }
def LinkageFullWrongFalsely : Prop := linkageFullRow.holds Try.pinned (OpenSpec.ofChange linkageFullWrong)

/-- 'concentriclaw16.LinkageLoose': WHATEVER THE INPUT: true; the input reads as it did. -/
def linkageLooseSpec : ChangeSpec := { name := "linkageLoose", fn := fun _ => fun
  | [d1, d2] => { results := [.lit (.bool true)], args := [d1, d2] }
  | _ => none }
def linkageLooseRow : OpenClaim := { program := "yteakbhfegbghoaa", sum := "7d9e2e8c7137e1c2a3a79b815ccb04c9939912374b099bc54cd8e072a80116f4", func := "concentric/concentriclaw16.LinkageLoose", spec := "linkageLoose", inPlace := ["slices.overlaps[concentric/area.room]"], unfollowed := true, recurses := true, plainKeys := false, apart := false }
def LinkageLooseSaid : Prop := linkageLooseRow.holds Try.pinned (OpenSpec.ofChange linkageLooseSpec)

/-- ITS FALSE NEIGHBOUR: 'it returns false'. Refute it at one input. -/
def linkageLooseWrong : ChangeSpec := { name := "linkageLoose", fn := fun _ => fun
  | [d1, d2] => { results := [.lit (.bool false)], args := [d1, d2] }
  | _ => none }
def LinkageLooseWrongFalsely : Prop := linkageLooseRow.holds Try.pinned (OpenSpec.ofChange linkageLooseWrong)

/-- 'concentriclaw16.LinkageWords': WHATEVER THE INPUT: true; the input reads as it did. -/
def linkageWordsSpec : ChangeSpec := { name := "linkageWords", fn := fun _ => fun
  | [d1, d2, d3] => { results := [.lit (.bool true)], args := [d1, d2, d3] }
  | _ => none }
def linkageWordsRow : OpenClaim := { program := "yteakbhfegbghoaa", sum := "7d9e2e8c7137e1c2a3a79b815ccb04c9939912374b099bc54cd8e072a80116f4", func := "concentric/concentriclaw16.LinkageWords", spec := "linkageWords", inPlace := ["slices.overlaps[concentric/area.room]"], unfollowed := true, recurses := true, plainKeys := false, apart := false }
def LinkageWordsSaid : Prop := linkageWordsRow.holds Try.pinned (OpenSpec.ofChange linkageWordsSpec)

/-- ITS FALSE NEIGHBOUR: 'it returns false'. Refute it at one input. -/
def linkageWordsWrong : ChangeSpec := { name := "linkageWords", fn := fun _ => fun
  | [d1, d2, d3] => { results := [.lit (.bool false)], args := [d1, d2, d3] }
  | _ => none }
def LinkageWordsWrongFalsely : Prop := linkageWordsRow.holds Try.pinned (OpenSpec.ofChange linkageWordsWrong)

/-- 'concentriclaw16.LinkagePlays': WHATEVER THE INPUT: true; the input reads as it did. -/
def linkagePlaysSpec : ChangeSpec := { name := "linkagePlays", fn := fun _ => fun
  | [d1, d2] => { results := [.lit (.bool true)], args := [d1, d2] }
  | _ => none }
def linkagePlaysRow : OpenClaim := { program := "yteakbhfegbghoaa", sum := "7d9e2e8c7137e1c2a3a79b815ccb04c9939912374b099bc54cd8e072a80116f4", func := "concentric/concentriclaw16.LinkagePlays", spec := "linkagePlays", inPlace := ["slices.overlaps[concentric/area.room]"], unfollowed := true, recurses := true, plainKeys := false, apart := false }
def LinkagePlaysSaid : Prop := linkagePlaysRow.holds Try.pinned (OpenSpec.ofChange linkagePlaysSpec)

/-- ITS FALSE NEIGHBOUR: 'it returns false'. Refute it at one input. -/
def linkagePlaysWrong : ChangeSpec := { name := "linkagePlays", fn := fun _ => fun
  | [d1, d2] => { results := [.lit (.bool false)], args := [d1, d2] }
  | _ => none }
def LinkagePlaysWrongFalsely : Prop := linkagePlaysRow.holds Try.pinned (OpenSpec.ofChange linkagePlaysWrong)

/-- 'concentriclaw16.LinkageKnown': WHATEVER THE INPUT: true; the input reads as it did. -/
def linkageKnownSpec : ChangeSpec := { name := "linkageKnown", fn := fun _ => fun
  | [] => { results := [.lit (.bool true)], args := [] }
  | _ => none }
def linkageKnownRow : OpenClaim := { program := "yteakbhfegbghoaa", sum := "7d9e2e8c7137e1c2a3a79b815ccb04c9939912374b099bc54cd8e072a80116f4", func := "concentric/concentriclaw16.LinkageKnown", spec := "linkageKnown", inPlace := ["slices.overlaps[concentric/area.room]"], unfollowed := true, recurses := true, plainKeys := false, apart := false }
def LinkageKnownSaid : Prop := linkageKnownRow.holds Try.pinned (OpenSpec.ofChange linkageKnownSpec)

/-- ITS FALSE NEIGHBOUR: 'it returns false'. Refute it at one input. -/
def linkageKnownWrong : ChangeSpec := { name := "linkageKnown", fn := fun _ => fun
  | [] => { results := [.lit (.bool false)], args := [] }
  | _ => none }
def LinkageKnownWrongFalsely : Prop := linkageKnownRow.holds Try.pinned (OpenSpec.ofChange linkageKnownWrong)

/- THE SECOND FORM. 'bulk': how many values and letters a reading holds, each counted each time it is reached (what is shared counts as often as it is met; a slice's spare places count too). A statement '..UptoSaid' is the law's where the arguments, and the package variables that the reading takes, are together of bulk at most 1048576: NARROWER than '..Said'. Prove '..Said' where nothing that the law and all that it calls make is longer than what came in: it says more and counts as full. Else prove '..UptoSaid'. A law counts once. -/
mutual
def uptoBulk {H : Type} : DataW H → Nat
  | .lit (.string bytes) => bytes.length + 1
  | .lit _ => 1
  | .nil => 1
  | .ptr d => uptoBulk d + 1
  | .slice elems spare => uptoBulkAll elems + uptoBulkAll spare + 1
  | .agg parts => uptoBulkAll parts + 1
  | .iface _ d => uptoBulk d + 1
  | .map entries => uptoBulkEntries entries + 1
  | .held _ => 1
def uptoBulkAll {H : Type} : List (DataW H) → Nat
  | [] => 0
  | d :: r => uptoBulk d + uptoBulkAll r
def uptoBulkEntries {H : Type} : List (Lit × DataW H) → Nat
  | [] => 0
  | x :: r => uptoBulkEntry x + uptoBulkEntries r
def uptoBulkEntry {H : Type} : Lit × DataW H → Nat
  | (.string bytes, d) => bytes.length + uptoBulk d + 1
  | (_, d) => uptoBulk d + 1
 end
def uptoSmall : (H : Type) → List (DataW H) → Bool := fun _ ds => decide (uptoBulkAll ds ≤ 1048576)
def OpenSpec.upto (s : _root_.Go.ChangeSpec) : _root_.Go.OpenSpec := { _root_.Go.OpenSpec.ofChange s with cond := some uptoSmall }

/-- 'concentriclaw16.LinkageFull', WHERE WHAT IT READS IS OF BULK AT MOST 1048576: true; the input reads as it did. -/
def linkageFullUptoRow : OpenClaim := { program := "yteakbhfegbghoaa", sum := "7d9e2e8c7137e1c2a3a79b815ccb04c9939912374b099bc54cd8e072a80116f4", func := "concentric/concentriclaw16.LinkageFull", spec := "linkageFull", inPlace := ["slices.overlaps[concentric/area.room]"], unfollowed := true, recurses := true, plainKeys := false, apart := false, narrowed := true }
def LinkageFullUptoSaid : Prop := linkageFullUptoRow.holds Try.pinned (OpenSpec.upto linkageFullSpec)

/-- 'concentriclaw16.LinkageLoose', WHERE WHAT IT READS IS OF BULK AT MOST 1048576: true; the input reads as it did. -/
def linkageLooseUptoRow : OpenClaim := { program := "yteakbhfegbghoaa", sum := "7d9e2e8c7137e1c2a3a79b815ccb04c9939912374b099bc54cd8e072a80116f4", func := "concentric/concentriclaw16.LinkageLoose", spec := "linkageLoose", inPlace := ["slices.overlaps[concentric/area.room]"], unfollowed := true, recurses := true, plainKeys := false, apart := false, narrowed := true }
def LinkageLooseUptoSaid : Prop := linkageLooseUptoRow.holds Try.pinned (OpenSpec.upto linkageLooseSpec)

/-- 'concentriclaw16.LinkageWords', WHERE WHAT IT READS IS OF BULK AT MOST 1048576: true; the input reads as it did. -/
def linkageWordsUptoRow : OpenClaim := { program := "yteakbhfegbghoaa", sum := "7d9e2e8c7137e1c2a3a79b815ccb04c9939912374b099bc54cd8e072a80116f4", func := "concentric/concentriclaw16.LinkageWords", spec := "linkageWords", inPlace := ["slices.overlaps[concentric/area.room]"], unfollowed := true, recurses := true, plainKeys := false, apart := false, narrowed := true }
def LinkageWordsUptoSaid : Prop := linkageWordsUptoRow.holds Try.pinned (OpenSpec.upto linkageWordsSpec)

/-- 'concentriclaw16.LinkagePlays', WHERE WHAT IT READS IS OF BULK AT MOST 1048576: true; the input reads as it did. -/
def linkagePlaysUptoRow : OpenClaim := { program := "yteakbhfegbghoaa", sum := "7d9e2e8c7137e1c2a3a79b815ccb04c9939912374b099bc54cd8e072a80116f4", func := "concentric/concentriclaw16.LinkagePlays", spec := "linkagePlays", inPlace := ["slices.overlaps[concentric/area.room]"], unfollowed := true, recurses := true, plainKeys := false, apart := false, narrowed := true }
def LinkagePlaysUptoSaid : Prop := linkagePlaysUptoRow.holds Try.pinned (OpenSpec.upto linkagePlaysSpec)

/-- 'concentriclaw16.LinkageKnown', WHERE WHAT IT READS IS OF BULK AT MOST 1048576: true; the input reads as it did. -/
def linkageKnownUptoRow : OpenClaim := { program := "yteakbhfegbghoaa", sum := "7d9e2e8c7137e1c2a3a79b815ccb04c9939912374b099bc54cd8e072a80116f4", func := "concentric/concentriclaw16.LinkageKnown", spec := "linkageKnown", inPlace := ["slices.overlaps[concentric/area.room]"], unfollowed := true, recurses := true, plainKeys := false, apart := false, narrowed := true }
def LinkageKnownUptoSaid : Prop := linkageKnownUptoRow.holds Try.pinned (OpenSpec.upto linkageKnownSpec)

end Rows
end Go.Proofs.Yteakbhfegbghoaa
