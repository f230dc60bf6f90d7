/-
  DERIVED. GIVEN WITH THE SEED: THE CARDS: each row of YtlacegnhfgnlgaaDoorRows.lean that lists a variable, with what it lists TIED to the program's text (the seventh form; the later family's looks); each row that meets fmt, with fmt's text TOLD by the authors' own Lean function (tested against real Go, not proved from fmt's source: count such statements apart). THE CARD IS WHAT COUNTS. Prove the row's statement (the work); the ties are given (YtlacegnhfgnlgaaDoorTie.lean); close each card by the builder's one call (the guide's Derived/Test/ToyasCard.lean, 'card_holds'). Laid BY PROGRAM, IN A SANDBOX (cutbox-door.mjs). By AI agents, Wed Nov 11 2026. No macro, syntax, notation, axiom, sorry.
-/
import Derived.Test.YtlacegnhfgnlgaaDoorRows
import GoSem.ClaimSeven
namespace Go.Proofs.YtlacegnhfgnlgaaDoor
namespace Rows

/-- THE TIED CARD OF 'concentriclaw17.CodeFields'. -/
def codeFieldsCard : Claim7 := { stood := { row := codeFieldsRow, standIns := [], harness := (true, "b75c16e3f5db2c21817c123732707de6321ec0f367736b175f4f3afac6dca757"), looks := false }, kinds := [], alts := [], laidByText := true, laidKinds := [.listed, .data], laidTests := true, laidLooks := .later }
def CodeFieldsCardSaid : Prop := Claim7.holds Tryd.pinned (.plain (OpenSpec.ofChange codeFieldsSpec)) codeFieldsCard

/-- THE SECOND FORM's CARD OF 'concentriclaw17.CodeFields'. -/
def codeFieldsUptoCard : Claim7 := { stood := { row := codeFieldsUptoRow, standIns := [], harness := (true, "b75c16e3f5db2c21817c123732707de6321ec0f367736b175f4f3afac6dca757"), looks := false }, kinds := [], alts := [], laidByText := true, laidKinds := [.listed, .data], laidTests := true, laidLooks := .later }
def CodeFieldsUptoCardSaid : Prop := Claim7.holds Tryd.pinned (.plain (OpenSpec.upto codeFieldsSpec)) codeFieldsUptoCard
end Rows
end Go.Proofs.YtlacegnhfgnlgaaDoor
