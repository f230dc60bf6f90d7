/-
  No cell of these rows narrows 'for every input' (looked for: loops, veiled, ifaces, maps, wideKeys, modest, calm, conditions, laid).
  DERIVED. THE GIVEN ROWS OF THIS SEAT. 11 by the template 'for every input the law returns true; each argument reads behind the call as it read before'; 0 by the template 'total and deterministic' (their statements: YtojlafkiaibeeaaTotals.lean).
  GIVEN WITH THE SEED: the statements are not yours to turn. If you find one false, say at which input.
  Laid BY PROGRAM, IN A SANDBOX (cutbox-rows.mjs): the forced cells as the released guide's own fill.sh prints them over the translation 4ed0ed0e6c311048… (all of the seat's roots in one cut). By AI agents, Wed Nov 11 2026. No macro, syntax, notation, axiom, sorry.
-/
import Derived.Test.YtojlafkiaibeeaaChecked
import GoSem.Claim
import GoSem.ClaimJoined
import GoSem.ClaimMapViews
import Derived.JoinedTies
import Derived.KernelRfl
namespace Go.Proofs.Ytojlafkiaibeeaa
/- THE CELL 'sum', in the pinned program and in every row, IS THE sha256 OF THE DUMP (.gsa) THAT YtojlafkiaibeeaaProg.lean LOADS. Nothing in Lean hashes anything: it is a label: what it is worth is what the hold of that sum in a sandbox is worth. -/
noncomputable def Try.pinned : Pinned := { name := "ytojlafkiaibeeaa", sum := "4ed0ed0e6c3110481b8d83c9dc725645e794b4bde2a87b6a43f4af0e4b455965", checked := Try.checked }
namespace Rows
def none {H : Type} : Left H := { results := [], args := [] }

/-- 'concentriclaw1.WordFields': WHATEVER THE INPUT: true; the input reads as it did. -/
def wordFieldsSpec : ChangeSpec := { name := "wordFields", fn := fun _ => fun
  | [d1, d2, d3] => { results := [.lit (.bool true)], args := [d1, d2, d3] }
  | _ => none }
def wordFieldsRow : OpenClaim := { program := "ytojlafkiaibeeaa", sum := "4ed0ed0e6c3110481b8d83c9dc725645e794b4bde2a87b6a43f4af0e4b455965", func := "concentric/concentriclaw1.WordFields", spec := "wordFields", apart := false }
def WordFieldsSaid : Prop := wordFieldsRow.holds Try.pinned (OpenSpec.ofChange wordFieldsSpec)

/-- ITS FALSE NEIGHBOUR: 'it returns false'. Refute it at one input. -/
def wordFieldsWrong : ChangeSpec := { name := "wordFields", fn := fun _ => fun
  | [d1, d2, d3] => { results := [.lit (.bool false)], args := [d1, d2, d3] }
  | _ => none }
def WordFieldsWrongFalsely : Prop := wordFieldsRow.holds Try.pinned (OpenSpec.ofChange wordFieldsWrong)

/-- 'concentriclaw1.WordSums': WHATEVER THE INPUT: true; the input reads as it did. -/
def wordSumsSpec : ChangeSpec := { name := "wordSums", fn := fun _ => fun
  | [d1, d2, d3] => { results := [.lit (.bool true)], args := [d1, d2, d3] }
  | _ => none }
def wordSumsRow : OpenClaim := { program := "ytojlafkiaibeeaa", sum := "4ed0ed0e6c3110481b8d83c9dc725645e794b4bde2a87b6a43f4af0e4b455965", func := "concentric/concentriclaw1.WordSums", spec := "wordSums", apart := false }
def WordSumsSaid : Prop := wordSumsRow.holds Try.pinned (OpenSpec.ofChange wordSumsSpec)

/-- ITS FALSE NEIGHBOUR: 'it returns false'. Refute it at one input. -/
def wordSumsWrong : ChangeSpec := { name := "wordSums", fn := fun _ => fun
  | [d1, d2, d3] => { results := [.lit (.bool false)], args := [d1, d2, d3] }
  | _ => none }
def WordSumsWrongFalsely : Prop := wordSumsRow.holds Try.pinned (OpenSpec.ofChange wordSumsWrong)

/-- 'concentriclaw1.WordTurns': WHATEVER THE INPUT: true; the input reads as it did. -/
def wordTurnsSpec : ChangeSpec := { name := "wordTurns", fn := fun _ => fun
  | [d1, d2, d3] => { results := [.lit (.bool true)], args := [d1, d2, d3] }
  | _ => none }
def wordTurnsRow : OpenClaim := { program := "ytojlafkiaibeeaa", sum := "4ed0ed0e6c3110481b8d83c9dc725645e794b4bde2a87b6a43f4af0e4b455965", func := "concentric/concentriclaw1.WordTurns", spec := "wordTurns", apart := false }
def WordTurnsSaid : Prop := wordTurnsRow.holds Try.pinned (OpenSpec.ofChange wordTurnsSpec)

/-- ITS FALSE NEIGHBOUR: 'it returns false'. Refute it at one input. -/
def wordTurnsWrong : ChangeSpec := { name := "wordTurns", fn := fun _ => fun
  | [d1, d2, d3] => { results := [.lit (.bool false)], args := [d1, d2, d3] }
  | _ => none }
def WordTurnsWrongFalsely : Prop := wordTurnsRow.holds Try.pinned (OpenSpec.ofChange wordTurnsWrong)

/-- 'concentriclaw1.WordKnown': WHATEVER THE INPUT: true; the input reads as it did. -/
def wordKnownSpec : ChangeSpec := { name := "wordKnown", fn := fun _ => fun
  | [] => { results := [.lit (.bool true)], args := [] }
  | _ => none }
def wordKnownRow : OpenClaim := { program := "ytojlafkiaibeeaa", sum := "4ed0ed0e6c3110481b8d83c9dc725645e794b4bde2a87b6a43f4af0e4b455965", func := "concentric/concentriclaw1.WordKnown", spec := "wordKnown", apart := false }
def WordKnownSaid : Prop := wordKnownRow.holds Try.pinned (OpenSpec.ofChange wordKnownSpec)

/-- ITS FALSE NEIGHBOUR: 'it returns false'. Refute it at one input. -/
def wordKnownWrong : ChangeSpec := { name := "wordKnown", fn := fun _ => fun
  | [] => { results := [.lit (.bool false)], args := [] }
  | _ => none }
def WordKnownWrongFalsely : Prop := wordKnownRow.holds Try.pinned (OpenSpec.ofChange wordKnownWrong)

/-- 'concentriclaw1.WordLaws': WHATEVER THE INPUT: true; the input reads as it did. -/
def wordLawsSpec : ChangeSpec := { name := "wordLaws", fn := fun _ => fun
  | [d1, d2, d3] => { results := [.lit (.bool true)], args := [d1, d2, d3] }
  | _ => none }
def wordLawsRow : OpenClaim := { program := "ytojlafkiaibeeaa", sum := "4ed0ed0e6c3110481b8d83c9dc725645e794b4bde2a87b6a43f4af0e4b455965", func := "concentric/concentriclaw1.WordLaws", spec := "wordLaws", apart := false }
def WordLawsSaid : Prop := wordLawsRow.holds Try.pinned (OpenSpec.ofChange wordLawsSpec)

/-- ITS FALSE NEIGHBOUR: 'it returns false'. Refute it at one input. -/
def wordLawsWrong : ChangeSpec := { name := "wordLaws", fn := fun _ => fun
  | [d1, d2, d3] => { results := [.lit (.bool false)], args := [d1, d2, d3] }
  | _ => none }
def WordLawsWrongFalsely : Prop := wordLawsRow.holds Try.pinned (OpenSpec.ofChange wordLawsWrong)

/-- 'concentriclaw1.WordParts': WHATEVER THE INPUT: true; the input reads as it did. -/
def wordPartsSpec : ChangeSpec := { name := "wordParts", fn := fun _ => fun
  | [d1, d2] => { results := [.lit (.bool true)], args := [d1, d2] }
  | _ => none }
def wordPartsRow : OpenClaim := { program := "ytojlafkiaibeeaa", sum := "4ed0ed0e6c3110481b8d83c9dc725645e794b4bde2a87b6a43f4af0e4b455965", func := "concentric/concentriclaw1.WordParts", spec := "wordParts", apart := false }
def WordPartsSaid : Prop := wordPartsRow.holds Try.pinned (OpenSpec.ofChange wordPartsSpec)

/-- ITS FALSE NEIGHBOUR: 'it returns false'. Refute it at one input. -/
def wordPartsWrong : ChangeSpec := { name := "wordParts", fn := fun _ => fun
  | [d1, d2] => { results := [.lit (.bool false)], args := [d1, d2] }
  | _ => none }
def WordPartsWrongFalsely : Prop := wordPartsRow.holds Try.pinned (OpenSpec.ofChange wordPartsWrong)

/-- 'concentriclaw1.WordBits': WHATEVER THE INPUT: true; the input reads as it did. -/
def wordBitsSpec : ChangeSpec := { name := "wordBits", fn := fun _ => fun
  | [d1, d2] => { results := [.lit (.bool true)], args := [d1, d2] }
  | _ => none }
def wordBitsRow : OpenClaim := { program := "ytojlafkiaibeeaa", sum := "4ed0ed0e6c3110481b8d83c9dc725645e794b4bde2a87b6a43f4af0e4b455965", func := "concentric/concentriclaw1.WordBits", spec := "wordBits", apart := false }
def WordBitsSaid : Prop := wordBitsRow.holds Try.pinned (OpenSpec.ofChange wordBitsSpec)

/-- ITS FALSE NEIGHBOUR: 'it returns false'. Refute it at one input. -/
def wordBitsWrong : ChangeSpec := { name := "wordBits", fn := fun _ => fun
  | [d1, d2] => { results := [.lit (.bool false)], args := [d1, d2] }
  | _ => none }
def WordBitsWrongFalsely : Prop := wordBitsRow.holds Try.pinned (OpenSpec.ofChange wordBitsWrong)

/-- 'concentriclaw2.PointApart': WHATEVER THE INPUT: true; the input reads as it did. -/
def pointApartSpec : ChangeSpec := { name := "pointApart", fn := fun _ => fun
  | [d1, d2] => { results := [.lit (.bool true)], args := [d1, d2] }
  | _ => none }
def pointApartRow : OpenClaim := { program := "ytojlafkiaibeeaa", sum := "4ed0ed0e6c3110481b8d83c9dc725645e794b4bde2a87b6a43f4af0e4b455965", func := "concentric/concentriclaw2.PointApart", spec := "pointApart", apart := false }
def PointApartSaid : Prop := pointApartRow.holds Try.pinned (OpenSpec.ofChange pointApartSpec)

/-- ITS FALSE NEIGHBOUR: 'it returns false'. Refute it at one input. -/
def pointApartWrong : ChangeSpec := { name := "pointApart", fn := fun _ => fun
  | [d1, d2] => { results := [.lit (.bool false)], args := [d1, d2] }
  | _ => none }
def PointApartWrongFalsely : Prop := pointApartRow.holds Try.pinned (OpenSpec.ofChange pointApartWrong)

/-- 'concentriclaw2.PointMoves': WHATEVER THE INPUT: true; the input reads as it did. -/
def pointMovesSpec : ChangeSpec := { name := "pointMoves", fn := fun _ => fun
  | [d1, d2, d3] => { results := [.lit (.bool true)], args := [d1, d2, d3] }
  | _ => none }
def pointMovesRow : OpenClaim := { program := "ytojlafkiaibeeaa", sum := "4ed0ed0e6c3110481b8d83c9dc725645e794b4bde2a87b6a43f4af0e4b455965", func := "concentric/concentriclaw2.PointMoves", spec := "pointMoves", apart := false }
def PointMovesSaid : Prop := pointMovesRow.holds Try.pinned (OpenSpec.ofChange pointMovesSpec)

/-- ITS FALSE NEIGHBOUR: 'it returns false'. Refute it at one input. -/
def pointMovesWrong : ChangeSpec := { name := "pointMoves", fn := fun _ => fun
  | [d1, d2, d3] => { results := [.lit (.bool false)], args := [d1, d2, d3] }
  | _ => none }
def PointMovesWrongFalsely : Prop := pointMovesRow.holds Try.pinned (OpenSpec.ofChange pointMovesWrong)

/-- 'concentriclaw2.PointKnown': WHATEVER THE INPUT: true; the input reads as it did. -/
def pointKnownSpec : ChangeSpec := { name := "pointKnown", fn := fun _ => fun
  | [] => { results := [.lit (.bool true)], args := [] }
  | _ => none }
def pointKnownRow : OpenClaim := { program := "ytojlafkiaibeeaa", sum := "4ed0ed0e6c3110481b8d83c9dc725645e794b4bde2a87b6a43f4af0e4b455965", func := "concentric/concentriclaw2.PointKnown", spec := "pointKnown", apart := false }
def PointKnownSaid : Prop := pointKnownRow.holds Try.pinned (OpenSpec.ofChange pointKnownSpec)

/-- ITS FALSE NEIGHBOUR: 'it returns false'. Refute it at one input. -/
def pointKnownWrong : ChangeSpec := { name := "pointKnown", fn := fun _ => fun
  | [] => { results := [.lit (.bool false)], args := [] }
  | _ => none }
def PointKnownWrongFalsely : Prop := pointKnownRow.holds Try.pinned (OpenSpec.ofChange pointKnownWrong)

/-- 'concentriclaw2.PointRaises': WHATEVER THE INPUT: true; the input reads as it did. -/
def pointRaisesSpec : ChangeSpec := { name := "pointRaises", fn := fun _ => fun
  | [d1, d2, d3] => { results := [.lit (.bool true)], args := [d1, d2, d3] }
  | _ => none }
def pointRaisesRow : OpenClaim := { program := "ytojlafkiaibeeaa", sum := "4ed0ed0e6c3110481b8d83c9dc725645e794b4bde2a87b6a43f4af0e4b455965", func := "concentric/concentriclaw2.PointRaises", spec := "pointRaises", apart := false }
def PointRaisesSaid : Prop := pointRaisesRow.holds Try.pinned (OpenSpec.ofChange pointRaisesSpec)

/-- ITS FALSE NEIGHBOUR: 'it returns false'. Refute it at one input. -/
def pointRaisesWrong : ChangeSpec := { name := "pointRaises", fn := fun _ => fun
  | [d1, d2, d3] => { results := [.lit (.bool false)], args := [d1, d2, d3] }
  | _ => none }
def PointRaisesWrongFalsely : Prop := pointRaisesRow.holds Try.pinned (OpenSpec.ofChange pointRaisesWrong)

/- THE SECOND FORM. 'bulk': how many values and letters a reading holds, each counted each time it is reached (what is shared counts as often as it is met; a slice's spare places count too). A statement '..UptoSaid' is the law's where the arguments, and the package variables that the reading takes, are together of bulk at most 1048576: NARROWER than '..Said'. Prove '..Said' where nothing that the law and all that it calls make is longer than what came in: it says more and counts as full. Else prove '..UptoSaid'. A law counts once. -/
mutual
def uptoBulk {H : Type} : DataW H → Nat
  | .lit (.string bytes) => bytes.length + 1
  | .lit _ => 1
  | .nil => 1
  | .ptr d => uptoBulk d + 1
  | .slice elems spare => uptoBulkAll elems + uptoBulkAll spare + 1
  | .agg parts => uptoBulkAll parts + 1
  | .iface _ d => uptoBulk d + 1
  | .map entries => uptoBulkEntries entries + 1
  | .held _ => 1
def uptoBulkAll {H : Type} : List (DataW H) → Nat
  | [] => 0
  | d :: r => uptoBulk d + uptoBulkAll r
def uptoBulkEntries {H : Type} : List (Lit × DataW H) → Nat
  | [] => 0
  | x :: r => uptoBulkEntry x + uptoBulkEntries r
def uptoBulkEntry {H : Type} : Lit × DataW H → Nat
  | (.string bytes, d) => bytes.length + uptoBulk d + 1
  | (_, d) => uptoBulk d + 1
 end
def uptoSmall : (H : Type) → List (DataW H) → Bool := fun _ ds => decide (uptoBulkAll ds ≤ 1048576)
def OpenSpec.upto (s : _root_.Go.ChangeSpec) : _root_.Go.OpenSpec := { _root_.Go.OpenSpec.ofChange s with cond := some uptoSmall }

/-- 'concentriclaw1.WordFields', WHERE WHAT IT READS IS OF BULK AT MOST 1048576: true; the input reads as it did. -/
def wordFieldsUptoRow : OpenClaim := { program := "ytojlafkiaibeeaa", sum := "4ed0ed0e6c3110481b8d83c9dc725645e794b4bde2a87b6a43f4af0e4b455965", func := "concentric/concentriclaw1.WordFields", spec := "wordFields", apart := false, narrowed := true }
def WordFieldsUptoSaid : Prop := wordFieldsUptoRow.holds Try.pinned (OpenSpec.upto wordFieldsSpec)

/-- 'concentriclaw1.WordSums', WHERE WHAT IT READS IS OF BULK AT MOST 1048576: true; the input reads as it did. -/
def wordSumsUptoRow : OpenClaim := { program := "ytojlafkiaibeeaa", sum := "4ed0ed0e6c3110481b8d83c9dc725645e794b4bde2a87b6a43f4af0e4b455965", func := "concentric/concentriclaw1.WordSums", spec := "wordSums", apart := false, narrowed := true }
def WordSumsUptoSaid : Prop := wordSumsUptoRow.holds Try.pinned (OpenSpec.upto wordSumsSpec)

/-- 'concentriclaw1.WordTurns', WHERE WHAT IT READS IS OF BULK AT MOST 1048576: true; the input reads as it did. -/
def wordTurnsUptoRow : OpenClaim := { program := "ytojlafkiaibeeaa", sum := "4ed0ed0e6c3110481b8d83c9dc725645e794b4bde2a87b6a43f4af0e4b455965", func := "concentric/concentriclaw1.WordTurns", spec := "wordTurns", apart := false, narrowed := true }
def WordTurnsUptoSaid : Prop := wordTurnsUptoRow.holds Try.pinned (OpenSpec.upto wordTurnsSpec)

/-- 'concentriclaw1.WordKnown', WHERE WHAT IT READS IS OF BULK AT MOST 1048576: true; the input reads as it did. -/
def wordKnownUptoRow : OpenClaim := { program := "ytojlafkiaibeeaa", sum := "4ed0ed0e6c3110481b8d83c9dc725645e794b4bde2a87b6a43f4af0e4b455965", func := "concentric/concentriclaw1.WordKnown", spec := "wordKnown", apart := false, narrowed := true }
def WordKnownUptoSaid : Prop := wordKnownUptoRow.holds Try.pinned (OpenSpec.upto wordKnownSpec)

/-- 'concentriclaw1.WordLaws', WHERE WHAT IT READS IS OF BULK AT MOST 1048576: true; the input reads as it did. -/
def wordLawsUptoRow : OpenClaim := { program := "ytojlafkiaibeeaa", sum := "4ed0ed0e6c3110481b8d83c9dc725645e794b4bde2a87b6a43f4af0e4b455965", func := "concentric/concentriclaw1.WordLaws", spec := "wordLaws", apart := false, narrowed := true }
def WordLawsUptoSaid : Prop := wordLawsUptoRow.holds Try.pinned (OpenSpec.upto wordLawsSpec)

/-- 'concentriclaw1.WordParts', WHERE WHAT IT READS IS OF BULK AT MOST 1048576: true; the input reads as it did. -/
def wordPartsUptoRow : OpenClaim := { program := "ytojlafkiaibeeaa", sum := "4ed0ed0e6c3110481b8d83c9dc725645e794b4bde2a87b6a43f4af0e4b455965", func := "concentric/concentriclaw1.WordParts", spec := "wordParts", apart := false, narrowed := true }
def WordPartsUptoSaid : Prop := wordPartsUptoRow.holds Try.pinned (OpenSpec.upto wordPartsSpec)

/-- 'concentriclaw1.WordBits', WHERE WHAT IT READS IS OF BULK AT MOST 1048576: true; the input reads as it did. -/
def wordBitsUptoRow : OpenClaim := { program := "ytojlafkiaibeeaa", sum := "4ed0ed0e6c3110481b8d83c9dc725645e794b4bde2a87b6a43f4af0e4b455965", func := "concentric/concentriclaw1.WordBits", spec := "wordBits", apart := false, narrowed := true }
def WordBitsUptoSaid : Prop := wordBitsUptoRow.holds Try.pinned (OpenSpec.upto wordBitsSpec)

/-- 'concentriclaw2.PointApart', WHERE WHAT IT READS IS OF BULK AT MOST 1048576: true; the input reads as it did. -/
def pointApartUptoRow : OpenClaim := { program := "ytojlafkiaibeeaa", sum := "4ed0ed0e6c3110481b8d83c9dc725645e794b4bde2a87b6a43f4af0e4b455965", func := "concentric/concentriclaw2.PointApart", spec := "pointApart", apart := false, narrowed := true }
def PointApartUptoSaid : Prop := pointApartUptoRow.holds Try.pinned (OpenSpec.upto pointApartSpec)

/-- 'concentriclaw2.PointMoves', WHERE WHAT IT READS IS OF BULK AT MOST 1048576: true; the input reads as it did. -/
def pointMovesUptoRow : OpenClaim := { program := "ytojlafkiaibeeaa", sum := "4ed0ed0e6c3110481b8d83c9dc725645e794b4bde2a87b6a43f4af0e4b455965", func := "concentric/concentriclaw2.PointMoves", spec := "pointMoves", apart := false, narrowed := true }
def PointMovesUptoSaid : Prop := pointMovesUptoRow.holds Try.pinned (OpenSpec.upto pointMovesSpec)

/-- 'concentriclaw2.PointKnown', WHERE WHAT IT READS IS OF BULK AT MOST 1048576: true; the input reads as it did. -/
def pointKnownUptoRow : OpenClaim := { program := "ytojlafkiaibeeaa", sum := "4ed0ed0e6c3110481b8d83c9dc725645e794b4bde2a87b6a43f4af0e4b455965", func := "concentric/concentriclaw2.PointKnown", spec := "pointKnown", apart := false, narrowed := true }
def PointKnownUptoSaid : Prop := pointKnownUptoRow.holds Try.pinned (OpenSpec.upto pointKnownSpec)

/-- 'concentriclaw2.PointRaises', WHERE WHAT IT READS IS OF BULK AT MOST 1048576: true; the input reads as it did. -/
def pointRaisesUptoRow : OpenClaim := { program := "ytojlafkiaibeeaa", sum := "4ed0ed0e6c3110481b8d83c9dc725645e794b4bde2a87b6a43f4af0e4b455965", func := "concentric/concentriclaw2.PointRaises", spec := "pointRaises", apart := false, narrowed := true }
def PointRaisesUptoSaid : Prop := pointRaisesUptoRow.holds Try.pinned (OpenSpec.upto pointRaisesSpec)

end Rows
end Go.Proofs.Ytojlafkiaibeeaa
