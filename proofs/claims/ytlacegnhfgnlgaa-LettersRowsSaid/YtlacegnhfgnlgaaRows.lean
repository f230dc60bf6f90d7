/-
  No cell of these rows narrows 'for every input' (looked for: loops, veiled, ifaces, maps, wideKeys, modest, calm, conditions, laid).
  DERIVED. THE GIVEN ROWS OF THIS SEAT. 4 by the template 'for every input the law returns true; each argument reads behind the call as it read before'; 0 by the template 'total and deterministic' (their statements: YtlacegnhfgnlgaaTotals.lean).
  GIVEN WITH THE SEED: the statements are not yours to turn. If you find one false, say at which input.
  Laid BY PROGRAM, IN A SANDBOX (cutbox-rows.mjs): the forced cells as the released guide's own fill.sh prints them over the translation 53234e61a8ee4898… (all of the seat's roots in one cut). By AI agents, Wed Nov 11 2026. No macro, syntax, notation, axiom, sorry.
-/
import Derived.Test.YtlacegnhfgnlgaaChecked
import GoSem.Claim
import GoSem.ClaimJoined
import GoSem.ClaimMapViews
import Derived.JoinedTies
import Derived.KernelRfl
namespace Go.Proofs.Ytlacegnhfgnlgaa
/- THE CELL 'sum', in the pinned program and in every row, IS THE sha256 OF THE DUMP (.gsa) THAT YtlacegnhfgnlgaaProg.lean LOADS. Nothing in Lean hashes anything: it is a label: what it is worth is what the hold of that sum in a sandbox is worth. -/
noncomputable def Try.pinned : Pinned := { name := "ytlacegnhfgnlgaa", sum := "53234e61a8ee48986fb3dbe8c2341e1e91338bc9dd0c2803ebbc0e10d96a5396", checked := Try.checked }
namespace Rows
def none {H : Type} : Left H := { results := [], args := [] }

/-- 'concentriclaw9.LettersTurn': WHATEVER THE INPUT: true; the input reads as it did. -/
def lettersTurnSpec : ChangeSpec := { name := "lettersTurn", fn := fun _ => fun
  | [d1, d2] => { results := [.lit (.bool true)], args := [d1, d2] }
  | _ => none }
def lettersTurnRow : OpenClaim := { program := "ytlacegnhfgnlgaa", sum := "53234e61a8ee48986fb3dbe8c2341e1e91338bc9dd0c2803ebbc0e10d96a5396", func := "concentric/concentriclaw9.LettersTurn", spec := "lettersTurn", apart := false }
def LettersTurnSaid : Prop := lettersTurnRow.holds Try.pinned (OpenSpec.ofChange lettersTurnSpec)

/-- ITS FALSE NEIGHBOUR: 'it returns false'. Refute it at one input. -/
def lettersTurnWrong : ChangeSpec := { name := "lettersTurn", fn := fun _ => fun
  | [d1, d2] => { results := [.lit (.bool false)], args := [d1, d2] }
  | _ => none }
def LettersTurnWrongFalsely : Prop := lettersTurnRow.holds Try.pinned (OpenSpec.ofChange lettersTurnWrong)

/-- 'concentriclaw9.LettersRead': WHATEVER THE INPUT: true; the input reads as it did. -/
def lettersReadSpec : ChangeSpec := { name := "lettersRead", fn := fun _ => fun
  | [d] => { results := [.lit (.bool true)], args := [d] }
  | _ => none }
def lettersReadRow : OpenClaim := { program := "ytlacegnhfgnlgaa", sum := "53234e61a8ee48986fb3dbe8c2341e1e91338bc9dd0c2803ebbc0e10d96a5396", func := "concentric/concentriclaw9.LettersRead", spec := "lettersRead", apart := false }
def LettersReadSaid : Prop := lettersReadRow.holds Try.pinned (OpenSpec.ofChange lettersReadSpec)

/-- ITS FALSE NEIGHBOUR: 'it returns false'. Refute it at one input. -/
def lettersReadWrong : ChangeSpec := { name := "lettersRead", fn := fun _ => fun
  | [d] => { results := [.lit (.bool false)], args := [d] }
  | _ => none }
def LettersReadWrongFalsely : Prop := lettersReadRow.holds Try.pinned (OpenSpec.ofChange lettersReadWrong)

/-- 'concentriclaw9.LettersRows': WHATEVER THE INPUT: true; the input reads as it did. -/
def lettersRowsSpec : ChangeSpec := { name := "lettersRows", fn := fun _ => fun
  | [d] => { results := [.lit (.bool true)], args := [d] }
  | _ => none }
def lettersRowsRow : OpenClaim := { program := "ytlacegnhfgnlgaa", sum := "53234e61a8ee48986fb3dbe8c2341e1e91338bc9dd0c2803ebbc0e10d96a5396", func := "concentric/concentriclaw9.LettersRows", spec := "lettersRows", apart := false }
def LettersRowsSaid : Prop := lettersRowsRow.holds Try.pinned (OpenSpec.ofChange lettersRowsSpec)

/-- ITS FALSE NEIGHBOUR: 'it returns false'. Refute it at one input. -/
def lettersRowsWrong : ChangeSpec := { name := "lettersRows", fn := fun _ => fun
  | [d] => { results := [.lit (.bool false)], args := [d] }
  | _ => none }
def LettersRowsWrongFalsely : Prop := lettersRowsRow.holds Try.pinned (OpenSpec.ofChange lettersRowsWrong)

/-- 'concentriclaw9.LettersApart': WHATEVER THE INPUT: true; the input reads as it did. -/
def lettersApartSpec : ChangeSpec := { name := "lettersApart", fn := fun _ => fun
  | [d1, d2] => { results := [.lit (.bool true)], args := [d1, d2] }
  | _ => none }
def lettersApartRow : OpenClaim := { program := "ytlacegnhfgnlgaa", sum := "53234e61a8ee48986fb3dbe8c2341e1e91338bc9dd0c2803ebbc0e10d96a5396", func := "concentric/concentriclaw9.LettersApart", spec := "lettersApart", apart := false }
def LettersApartSaid : Prop := lettersApartRow.holds Try.pinned (OpenSpec.ofChange lettersApartSpec)

/-- ITS FALSE NEIGHBOUR: 'it returns false'. Refute it at one input. -/
def lettersApartWrong : ChangeSpec := { name := "lettersApart", fn := fun _ => fun
  | [d1, d2] => { results := [.lit (.bool false)], args := [d1, d2] }
  | _ => none }
def LettersApartWrongFalsely : Prop := lettersApartRow.holds Try.pinned (OpenSpec.ofChange lettersApartWrong)

/- THE SECOND FORM. 'bulk': how many values and letters a reading holds, each counted each time it is reached (what is shared counts as often as it is met; a slice's spare places count too). A statement '..UptoSaid' is the law's where the arguments, and the package variables that the reading takes, are together of bulk at most 1048576: NARROWER than '..Said'. Prove '..Said' where nothing that the law and all that it calls make is longer than what came in: it says more and counts as full. Else prove '..UptoSaid'. A law counts once. -/
mutual
def uptoBulk {H : Type} : DataW H → Nat
  | .lit (.string bytes) => bytes.length + 1
  | .lit _ => 1
  | .nil => 1
  | .ptr d => uptoBulk d + 1
  | .slice elems spare => uptoBulkAll elems + uptoBulkAll spare + 1
  | .agg parts => uptoBulkAll parts + 1
  | .iface _ d => uptoBulk d + 1
  | .map entries => uptoBulkEntries entries + 1
  | .held _ => 1
def uptoBulkAll {H : Type} : List (DataW H) → Nat
  | [] => 0
  | d :: r => uptoBulk d + uptoBulkAll r
def uptoBulkEntries {H : Type} : List (Lit × DataW H) → Nat
  | [] => 0
  | x :: r => uptoBulkEntry x + uptoBulkEntries r
def uptoBulkEntry {H : Type} : Lit × DataW H → Nat
  | (.string bytes, d) => bytes.length + uptoBulk d + 1
  | (_, d) => uptoBulk d + 1
 end
def uptoSmall : (H : Type) → List (DataW H) → Bool := fun _ ds => decide (uptoBulkAll ds ≤ 1048576)
def OpenSpec.upto (s : _root_.Go.ChangeSpec) : _root_.Go.OpenSpec := { _root_.Go.OpenSpec.ofChange s with cond := some uptoSmall }

/-- 'concentriclaw9.LettersTurn', WHERE WHAT IT READS IS OF BULK AT MOST 1048576: true; the input reads as it did. -/
def lettersTurnUptoRow : OpenClaim := { program := "ytlacegnhfgnlgaa", sum := "53234e61a8ee48986fb3dbe8c2341e1e91338bc9dd0c2803ebbc0e10d96a5396", func := "concentric/concentriclaw9.LettersTurn", spec := "lettersTurn", apart := false, narrowed := true }
def LettersTurnUptoSaid : Prop := lettersTurnUptoRow.holds Try.pinned (OpenSpec.upto lettersTurnSpec)

/-- 'concentriclaw9.LettersRead', WHERE WHAT IT READS IS OF BULK AT MOST 1048576: true; the input reads as it did. -/
def lettersReadUptoRow : OpenClaim := { program := "ytlacegnhfgnlgaa", sum := "53234e61a8ee48986fb3dbe8c2341e1e91338bc9dd0c2803ebbc0e10d96a5396", func := "concentric/concentriclaw9.LettersRead", spec := "lettersRead", apart := false, narrowed := true }
def LettersReadUptoSaid : Prop := lettersReadUptoRow.holds Try.pinned (OpenSpec.upto lettersReadSpec)

/-- 'concentriclaw9.LettersRows', WHERE WHAT IT READS IS OF BULK AT MOST 1048576: true; the input reads as it did. -/
def lettersRowsUptoRow : OpenClaim := { program := "ytlacegnhfgnlgaa", sum := "53234e61a8ee48986fb3dbe8c2341e1e91338bc9dd0c2803ebbc0e10d96a5396", func := "concentric/concentriclaw9.LettersRows", spec := "lettersRows", apart := false, narrowed := true }
def LettersRowsUptoSaid : Prop := lettersRowsUptoRow.holds Try.pinned (OpenSpec.upto lettersRowsSpec)

/-- 'concentriclaw9.LettersApart', WHERE WHAT IT READS IS OF BULK AT MOST 1048576: true; the input reads as it did. -/
def lettersApartUptoRow : OpenClaim := { program := "ytlacegnhfgnlgaa", sum := "53234e61a8ee48986fb3dbe8c2341e1e91338bc9dd0c2803ebbc0e10d96a5396", func := "concentric/concentriclaw9.LettersApart", spec := "lettersApart", apart := false, narrowed := true }
def LettersApartUptoSaid : Prop := lettersApartUptoRow.holds Try.pinned (OpenSpec.upto lettersApartSpec)

end Rows
end Go.Proofs.Ytlacegnhfgnlgaa
