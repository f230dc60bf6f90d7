/-
  No cell of these rows narrows 'for every input' (looked for: loops, veiled, ifaces, maps, wideKeys, modest, calm, conditions, laid).
  DERIVED. THE GIVEN ROWS OF THIS SEAT. 6 by the template 'for every input the law returns true; each argument reads behind the call as it read before'; 0 by the template 'total and deterministic' (their statements: YtfgfhaknecolpaaTotals.lean).
  GIVEN WITH THE SEED: the statements are not yours to turn. If you find one false, say at which input.
  Laid BY PROGRAM, IN A SANDBOX (cutbox-rows.mjs): the forced cells as the released guide's own fill.sh prints them over the translation f8e8565df8a948d2… (all of the seat's roots in one cut). By AI agents, Wed Nov 11 2026. No macro, syntax, notation, axiom, sorry.
-/
import Derived.Test.YtfgfhaknecolpaaChecked
import GoSem.Claim
import GoSem.ClaimJoined
import GoSem.ClaimMapViews
import Derived.JoinedTies
import Derived.KernelRfl
namespace Go.Proofs.Ytfgfhaknecolpaa
/- THE CELL 'sum', in the pinned program and in every row, IS THE sha256 OF THE DUMP (.gsa) THAT YtfgfhaknecolpaaProg.lean LOADS. Nothing in Lean hashes anything: it is a label: what it is worth is what the hold of that sum in a sandbox is worth. -/
noncomputable def Try.pinned : Pinned := { name := "ytfgfhaknecolpaa", sum := "f8e8565df8a948d29b64780048c7a1c2d5758a9ddd2c36c336985eda08f23ac9", checked := Try.checked }
namespace Rows
def none {H : Type} : Left H := { results := [], args := [] }

/-- 'concentriclaw18.FramesPlay': WHATEVER THE INPUT: true; the input reads as it did. -/
def framesPlaySpec : ChangeSpec := { name := "framesPlay", fn := fun _ => fun
  | [d] => { results := [.lit (.bool true)], args := [d] }
  | _ => none }
def framesPlayRow : OpenClaim := { program := "ytfgfhaknecolpaa", sum := "f8e8565df8a948d29b64780048c7a1c2d5758a9ddd2c36c336985eda08f23ac9", func := "concentric/concentriclaw18.FramesPlay", spec := "framesPlay", apart := false }
def FramesPlaySaid : Prop := framesPlayRow.holds Try.pinned (OpenSpec.ofChange framesPlaySpec)

/-- ITS FALSE NEIGHBOUR: 'it returns false'. Refute it at one input. -/
def framesPlayWrong : ChangeSpec := { name := "framesPlay", fn := fun _ => fun
  | [d] => { results := [.lit (.bool false)], args := [d] }
  | _ => none }
def FramesPlayWrongFalsely : Prop := framesPlayRow.holds Try.pinned (OpenSpec.ofChange framesPlayWrong)

/-- 'concentriclaw18.FramesFill': WHATEVER THE INPUT: true; the input reads as it did. -/
def framesFillSpec : ChangeSpec := { name := "framesFill", fn := fun _ => fun
  | [d1, d2] => { results := [.lit (.bool true)], args := [d1, d2] }
  | _ => none }
def framesFillRow : OpenClaim := { program := "ytfgfhaknecolpaa", sum := "f8e8565df8a948d29b64780048c7a1c2d5758a9ddd2c36c336985eda08f23ac9", func := "concentric/concentriclaw18.FramesFill", spec := "framesFill", apart := false }
def FramesFillSaid : Prop := framesFillRow.holds Try.pinned (OpenSpec.ofChange framesFillSpec)

/-- ITS FALSE NEIGHBOUR: 'it returns false'. Refute it at one input. -/
def framesFillWrong : ChangeSpec := { name := "framesFill", fn := fun _ => fun
  | [d1, d2] => { results := [.lit (.bool false)], args := [d1, d2] }
  | _ => none }
def FramesFillWrongFalsely : Prop := framesFillRow.holds Try.pinned (OpenSpec.ofChange framesFillWrong)

/-- 'concentriclaw18.FramesApart': WHATEVER THE INPUT: true; the input reads as it did. -/
def framesApartSpec : ChangeSpec := { name := "framesApart", fn := fun _ => fun
  | [d1, d2] => { results := [.lit (.bool true)], args := [d1, d2] }
  | _ => none }
def framesApartRow : OpenClaim := { program := "ytfgfhaknecolpaa", sum := "f8e8565df8a948d29b64780048c7a1c2d5758a9ddd2c36c336985eda08f23ac9", func := "concentric/concentriclaw18.FramesApart", spec := "framesApart", apart := false }
def FramesApartSaid : Prop := framesApartRow.holds Try.pinned (OpenSpec.ofChange framesApartSpec)

/-- ITS FALSE NEIGHBOUR: 'it returns false'. Refute it at one input. -/
def framesApartWrong : ChangeSpec := { name := "framesApart", fn := fun _ => fun
  | [d1, d2] => { results := [.lit (.bool false)], args := [d1, d2] }
  | _ => none }
def FramesApartWrongFalsely : Prop := framesApartRow.holds Try.pinned (OpenSpec.ofChange framesApartWrong)

/-- 'concentriclaw18.FramesKnown': WHATEVER THE INPUT: true; the input reads as it did. -/
def framesKnownSpec : ChangeSpec := { name := "framesKnown", fn := fun _ => fun
  | [] => { results := [.lit (.bool true)], args := [] }
  | _ => none }
def framesKnownRow : OpenClaim := { program := "ytfgfhaknecolpaa", sum := "f8e8565df8a948d29b64780048c7a1c2d5758a9ddd2c36c336985eda08f23ac9", func := "concentric/concentriclaw18.FramesKnown", spec := "framesKnown", apart := false }
def FramesKnownSaid : Prop := framesKnownRow.holds Try.pinned (OpenSpec.ofChange framesKnownSpec)

/-- ITS FALSE NEIGHBOUR: 'it returns false'. Refute it at one input. -/
def framesKnownWrong : ChangeSpec := { name := "framesKnown", fn := fun _ => fun
  | [] => { results := [.lit (.bool false)], args := [] }
  | _ => none }
def FramesKnownWrongFalsely : Prop := framesKnownRow.holds Try.pinned (OpenSpec.ofChange framesKnownWrong)

/-- 'concentriclaw18.FramesBack': WHATEVER THE INPUT: true; the input reads as it did. -/
def framesBackSpec : ChangeSpec := { name := "framesBack", fn := fun _ => fun
  | [d1, d2] => { results := [.lit (.bool true)], args := [d1, d2] }
  | _ => none }
def framesBackRow : OpenClaim := { program := "ytfgfhaknecolpaa", sum := "f8e8565df8a948d29b64780048c7a1c2d5758a9ddd2c36c336985eda08f23ac9", func := "concentric/concentriclaw18.FramesBack", spec := "framesBack", apart := false }
def FramesBackSaid : Prop := framesBackRow.holds Try.pinned (OpenSpec.ofChange framesBackSpec)

/-- ITS FALSE NEIGHBOUR: 'it returns false'. Refute it at one input. -/
def framesBackWrong : ChangeSpec := { name := "framesBack", fn := fun _ => fun
  | [d1, d2] => { results := [.lit (.bool false)], args := [d1, d2] }
  | _ => none }
def FramesBackWrongFalsely : Prop := framesBackRow.holds Try.pinned (OpenSpec.ofChange framesBackWrong)

/-- 'concentriclaw18.FramesWords': WHATEVER THE INPUT: true; the input reads as it did. -/
def framesWordsSpec : ChangeSpec := { name := "framesWords", fn := fun _ => fun
  | [d1, d2] => { results := [.lit (.bool true)], args := [d1, d2] }
  | _ => none }
def framesWordsRow : OpenClaim := { program := "ytfgfhaknecolpaa", sum := "f8e8565df8a948d29b64780048c7a1c2d5758a9ddd2c36c336985eda08f23ac9", func := "concentric/concentriclaw18.FramesWords", spec := "framesWords", apart := false }
def FramesWordsSaid : Prop := framesWordsRow.holds Try.pinned (OpenSpec.ofChange framesWordsSpec)

/-- ITS FALSE NEIGHBOUR: 'it returns false'. Refute it at one input. -/
def framesWordsWrong : ChangeSpec := { name := "framesWords", fn := fun _ => fun
  | [d1, d2] => { results := [.lit (.bool false)], args := [d1, d2] }
  | _ => none }
def FramesWordsWrongFalsely : Prop := framesWordsRow.holds Try.pinned (OpenSpec.ofChange framesWordsWrong)

/- THE SECOND FORM. 'bulk': how many values and letters a reading holds, each counted each time it is reached (what is shared counts as often as it is met; a slice's spare places count too). A statement '..UptoSaid' is the law's where the arguments, and the package variables that the reading takes, are together of bulk at most 1048576: NARROWER than '..Said'. Prove '..Said' where nothing that the law and all that it calls make is longer than what came in: it says more and counts as full. Else prove '..UptoSaid'. A law counts once. -/
mutual
def uptoBulk {H : Type} : DataW H → Nat
  | .lit (.string bytes) => bytes.length + 1
  | .lit _ => 1
  | .nil => 1
  | .ptr d => uptoBulk d + 1
  | .slice elems spare => uptoBulkAll elems + uptoBulkAll spare + 1
  | .agg parts => uptoBulkAll parts + 1
  | .iface _ d => uptoBulk d + 1
  | .map entries => uptoBulkEntries entries + 1
  | .held _ => 1
def uptoBulkAll {H : Type} : List (DataW H) → Nat
  | [] => 0
  | d :: r => uptoBulk d + uptoBulkAll r
def uptoBulkEntries {H : Type} : List (Lit × DataW H) → Nat
  | [] => 0
  | x :: r => uptoBulkEntry x + uptoBulkEntries r
def uptoBulkEntry {H : Type} : Lit × DataW H → Nat
  | (.string bytes, d) => bytes.length + uptoBulk d + 1
  | (_, d) => uptoBulk d + 1
 end
def uptoSmall : (H : Type) → List (DataW H) → Bool := fun _ ds => decide (uptoBulkAll ds ≤ 1048576)
def OpenSpec.upto (s : _root_.Go.ChangeSpec) : _root_.Go.OpenSpec := { _root_.Go.OpenSpec.ofChange s with cond := some uptoSmall }

/-- 'concentriclaw18.FramesPlay', WHERE WHAT IT READS IS OF BULK AT MOST 1048576: true; the input reads as it did. -/
def framesPlayUptoRow : OpenClaim := { program := "ytfgfhaknecolpaa", sum := "f8e8565df8a948d29b64780048c7a1c2d5758a9ddd2c36c336985eda08f23ac9", func := "concentric/concentriclaw18.FramesPlay", spec := "framesPlay", apart := false, narrowed := true }
def FramesPlayUptoSaid : Prop := framesPlayUptoRow.holds Try.pinned (OpenSpec.upto framesPlaySpec)

/-- 'concentriclaw18.FramesFill', WHERE WHAT IT READS IS OF BULK AT MOST 1048576: true; the input reads as it did. -/
def framesFillUptoRow : OpenClaim := { program := "ytfgfhaknecolpaa", sum := "f8e8565df8a948d29b64780048c7a1c2d5758a9ddd2c36c336985eda08f23ac9", func := "concentric/concentriclaw18.FramesFill", spec := "framesFill", apart := false, narrowed := true }
def FramesFillUptoSaid : Prop := framesFillUptoRow.holds Try.pinned (OpenSpec.upto framesFillSpec)

/-- 'concentriclaw18.FramesApart', WHERE WHAT IT READS IS OF BULK AT MOST 1048576: true; the input reads as it did. -/
def framesApartUptoRow : OpenClaim := { program := "ytfgfhaknecolpaa", sum := "f8e8565df8a948d29b64780048c7a1c2d5758a9ddd2c36c336985eda08f23ac9", func := "concentric/concentriclaw18.FramesApart", spec := "framesApart", apart := false, narrowed := true }
def FramesApartUptoSaid : Prop := framesApartUptoRow.holds Try.pinned (OpenSpec.upto framesApartSpec)

/-- 'concentriclaw18.FramesKnown', WHERE WHAT IT READS IS OF BULK AT MOST 1048576: true; the input reads as it did. -/
def framesKnownUptoRow : OpenClaim := { program := "ytfgfhaknecolpaa", sum := "f8e8565df8a948d29b64780048c7a1c2d5758a9ddd2c36c336985eda08f23ac9", func := "concentric/concentriclaw18.FramesKnown", spec := "framesKnown", apart := false, narrowed := true }
def FramesKnownUptoSaid : Prop := framesKnownUptoRow.holds Try.pinned (OpenSpec.upto framesKnownSpec)

/-- 'concentriclaw18.FramesBack', WHERE WHAT IT READS IS OF BULK AT MOST 1048576: true; the input reads as it did. -/
def framesBackUptoRow : OpenClaim := { program := "ytfgfhaknecolpaa", sum := "f8e8565df8a948d29b64780048c7a1c2d5758a9ddd2c36c336985eda08f23ac9", func := "concentric/concentriclaw18.FramesBack", spec := "framesBack", apart := false, narrowed := true }
def FramesBackUptoSaid : Prop := framesBackUptoRow.holds Try.pinned (OpenSpec.upto framesBackSpec)

/-- 'concentriclaw18.FramesWords', WHERE WHAT IT READS IS OF BULK AT MOST 1048576: true; the input reads as it did. -/
def framesWordsUptoRow : OpenClaim := { program := "ytfgfhaknecolpaa", sum := "f8e8565df8a948d29b64780048c7a1c2d5758a9ddd2c36c336985eda08f23ac9", func := "concentric/concentriclaw18.FramesWords", spec := "framesWords", apart := false, narrowed := true }
def FramesWordsUptoSaid : Prop := framesWordsUptoRow.holds Try.pinned (OpenSpec.upto framesWordsSpec)

end Rows
end Go.Proofs.Ytfgfhaknecolpaa
