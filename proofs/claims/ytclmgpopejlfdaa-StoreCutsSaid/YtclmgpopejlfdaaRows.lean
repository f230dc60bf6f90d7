/-
  No cell of these rows narrows 'for every input' (looked for: loops, veiled, ifaces, maps, wideKeys, modest, calm, conditions, laid).
  DERIVED. THE GIVEN ROWS OF THIS SEAT. 4 by the template 'for every input the law returns true; each argument reads behind the call as it read before'; 0 by the template 'total and deterministic' (their statements: YtclmgpopejlfdaaTotals.lean).
  GIVEN WITH THE SEED: the statements are not yours to turn. If you find one false, say at which input.
  Laid BY PROGRAM, IN A SANDBOX (cutbox-rows.mjs): the forced cells as the released guide's own fill.sh prints them over the translation 15bd49cbc775b523… (all of the seat's roots in one cut). By AI agents, Wed Nov 11 2026. No macro, syntax, notation, axiom, sorry.
-/
import Derived.Test.YtclmgpopejlfdaaChecked
import GoSem.Claim
import GoSem.ClaimJoined
import GoSem.ClaimMapViews
import Derived.JoinedTies
import Derived.KernelRfl
namespace Go.Proofs.Ytclmgpopejlfdaa
/- THE CELL 'sum', in the pinned program and in every row, IS THE sha256 OF THE DUMP (.gsa) THAT YtclmgpopejlfdaaProg.lean LOADS. Nothing in Lean hashes anything: it is a label: what it is worth is what the hold of that sum in a sandbox is worth. -/
noncomputable def Try.pinned : Pinned := { name := "ytclmgpopejlfdaa", sum := "15bd49cbc775b523420fbc60ce4f0e489013b4a0b1c1727872626b9b2d9b6fe7", checked := Try.checked }
namespace Rows
def none {H : Type} : Left H := { results := [], args := [] }

/-- 'concentriclaw5.StoreSums': WHATEVER THE INPUT: true; the input reads as it did. -/
def storeSumsSpec : ChangeSpec := { name := "storeSums", fn := fun _ => fun
  | [d1, d2] => { results := [.lit (.bool true)], args := [d1, d2] }
  | _ => none }
def storeSumsRow : OpenClaim := { program := "ytclmgpopejlfdaa", sum := "15bd49cbc775b523420fbc60ce4f0e489013b4a0b1c1727872626b9b2d9b6fe7", func := "concentric/concentriclaw5.StoreSums", spec := "storeSums", apart := false }
def StoreSumsSaid : Prop := storeSumsRow.holds Try.pinned (OpenSpec.ofChange storeSumsSpec)

/-- ITS FALSE NEIGHBOUR: 'it returns false'. Refute it at one input. -/
def storeSumsWrong : ChangeSpec := { name := "storeSums", fn := fun _ => fun
  | [d1, d2] => { results := [.lit (.bool false)], args := [d1, d2] }
  | _ => none }
def StoreSumsWrongFalsely : Prop := storeSumsRow.holds Try.pinned (OpenSpec.ofChange storeSumsWrong)

/-- 'concentriclaw5.StoreApart': WHATEVER THE INPUT: true; the input reads as it did. -/
def storeApartSpec : ChangeSpec := { name := "storeApart", fn := fun _ => fun
  | [d] => { results := [.lit (.bool true)], args := [d] }
  | _ => none }
def storeApartRow : OpenClaim := { program := "ytclmgpopejlfdaa", sum := "15bd49cbc775b523420fbc60ce4f0e489013b4a0b1c1727872626b9b2d9b6fe7", func := "concentric/concentriclaw5.StoreApart", spec := "storeApart", apart := false }
def StoreApartSaid : Prop := storeApartRow.holds Try.pinned (OpenSpec.ofChange storeApartSpec)

/-- ITS FALSE NEIGHBOUR: 'it returns false'. Refute it at one input. -/
def storeApartWrong : ChangeSpec := { name := "storeApart", fn := fun _ => fun
  | [d] => { results := [.lit (.bool false)], args := [d] }
  | _ => none }
def StoreApartWrongFalsely : Prop := storeApartRow.holds Try.pinned (OpenSpec.ofChange storeApartWrong)

/-- 'concentriclaw5.StoreCuts': WHATEVER THE INPUT: true; the input reads as it did. -/
def storeCutsSpec : ChangeSpec := { name := "storeCuts", fn := fun _ => fun
  | [d1, d2] => { results := [.lit (.bool true)], args := [d1, d2] }
  | _ => none }
def storeCutsRow : OpenClaim := { program := "ytclmgpopejlfdaa", sum := "15bd49cbc775b523420fbc60ce4f0e489013b4a0b1c1727872626b9b2d9b6fe7", func := "concentric/concentriclaw5.StoreCuts", spec := "storeCuts", apart := false }
def StoreCutsSaid : Prop := storeCutsRow.holds Try.pinned (OpenSpec.ofChange storeCutsSpec)

/-- ITS FALSE NEIGHBOUR: 'it returns false'. Refute it at one input. -/
def storeCutsWrong : ChangeSpec := { name := "storeCuts", fn := fun _ => fun
  | [d1, d2] => { results := [.lit (.bool false)], args := [d1, d2] }
  | _ => none }
def StoreCutsWrongFalsely : Prop := storeCutsRow.holds Try.pinned (OpenSpec.ofChange storeCutsWrong)

/-- 'concentriclaw5.StoreKnown': WHATEVER THE INPUT: true; the input reads as it did. -/
def storeKnownSpec : ChangeSpec := { name := "storeKnown", fn := fun _ => fun
  | [] => { results := [.lit (.bool true)], args := [] }
  | _ => none }
def storeKnownRow : OpenClaim := { program := "ytclmgpopejlfdaa", sum := "15bd49cbc775b523420fbc60ce4f0e489013b4a0b1c1727872626b9b2d9b6fe7", func := "concentric/concentriclaw5.StoreKnown", spec := "storeKnown", apart := false }
def StoreKnownSaid : Prop := storeKnownRow.holds Try.pinned (OpenSpec.ofChange storeKnownSpec)

/-- ITS FALSE NEIGHBOUR: 'it returns false'. Refute it at one input. -/
def storeKnownWrong : ChangeSpec := { name := "storeKnown", fn := fun _ => fun
  | [] => { results := [.lit (.bool false)], args := [] }
  | _ => none }
def StoreKnownWrongFalsely : Prop := storeKnownRow.holds Try.pinned (OpenSpec.ofChange storeKnownWrong)

/- THE SECOND FORM. 'bulk': how many values and letters a reading holds, each counted each time it is reached (what is shared counts as often as it is met; a slice's spare places count too). A statement '..UptoSaid' is the law's where the arguments, and the package variables that the reading takes, are together of bulk at most 1048576: NARROWER than '..Said'. Prove '..Said' where nothing that the law and all that it calls make is longer than what came in: it says more and counts as full. Else prove '..UptoSaid'. A law counts once. -/
mutual
def uptoBulk {H : Type} : DataW H → Nat
  | .lit (.string bytes) => bytes.length + 1
  | .lit _ => 1
  | .nil => 1
  | .ptr d => uptoBulk d + 1
  | .slice elems spare => uptoBulkAll elems + uptoBulkAll spare + 1
  | .agg parts => uptoBulkAll parts + 1
  | .iface _ d => uptoBulk d + 1
  | .map entries => uptoBulkEntries entries + 1
  | .held _ => 1
def uptoBulkAll {H : Type} : List (DataW H) → Nat
  | [] => 0
  | d :: r => uptoBulk d + uptoBulkAll r
def uptoBulkEntries {H : Type} : List (Lit × DataW H) → Nat
  | [] => 0
  | x :: r => uptoBulkEntry x + uptoBulkEntries r
def uptoBulkEntry {H : Type} : Lit × DataW H → Nat
  | (.string bytes, d) => bytes.length + uptoBulk d + 1
  | (_, d) => uptoBulk d + 1
 end
def uptoSmall : (H : Type) → List (DataW H) → Bool := fun _ ds => decide (uptoBulkAll ds ≤ 1048576)
def OpenSpec.upto (s : _root_.Go.ChangeSpec) : _root_.Go.OpenSpec := { _root_.Go.OpenSpec.ofChange s with cond := some uptoSmall }

/-- 'concentriclaw5.StoreSums', WHERE WHAT IT READS IS OF BULK AT MOST 1048576: true; the input reads as it did. -/
def storeSumsUptoRow : OpenClaim := { program := "ytclmgpopejlfdaa", sum := "15bd49cbc775b523420fbc60ce4f0e489013b4a0b1c1727872626b9b2d9b6fe7", func := "concentric/concentriclaw5.StoreSums", spec := "storeSums", apart := false, narrowed := true }
def StoreSumsUptoSaid : Prop := storeSumsUptoRow.holds Try.pinned (OpenSpec.upto storeSumsSpec)

/-- 'concentriclaw5.StoreApart', WHERE WHAT IT READS IS OF BULK AT MOST 1048576: true; the input reads as it did. -/
def storeApartUptoRow : OpenClaim := { program := "ytclmgpopejlfdaa", sum := "15bd49cbc775b523420fbc60ce4f0e489013b4a0b1c1727872626b9b2d9b6fe7", func := "concentric/concentriclaw5.StoreApart", spec := "storeApart", apart := false, narrowed := true }
def StoreApartUptoSaid : Prop := storeApartUptoRow.holds Try.pinned (OpenSpec.upto storeApartSpec)

/-- 'concentriclaw5.StoreCuts', WHERE WHAT IT READS IS OF BULK AT MOST 1048576: true; the input reads as it did. -/
def storeCutsUptoRow : OpenClaim := { program := "ytclmgpopejlfdaa", sum := "15bd49cbc775b523420fbc60ce4f0e489013b4a0b1c1727872626b9b2d9b6fe7", func := "concentric/concentriclaw5.StoreCuts", spec := "storeCuts", apart := false, narrowed := true }
def StoreCutsUptoSaid : Prop := storeCutsUptoRow.holds Try.pinned (OpenSpec.upto storeCutsSpec)

/-- 'concentriclaw5.StoreKnown', WHERE WHAT IT READS IS OF BULK AT MOST 1048576: true; the input reads as it did. -/
def storeKnownUptoRow : OpenClaim := { program := "ytclmgpopejlfdaa", sum := "15bd49cbc775b523420fbc60ce4f0e489013b4a0b1c1727872626b9b2d9b6fe7", func := "concentric/concentriclaw5.StoreKnown", spec := "storeKnown", apart := false, narrowed := true }
def StoreKnownUptoSaid : Prop := storeKnownUptoRow.holds Try.pinned (OpenSpec.upto storeKnownSpec)

end Rows
end Go.Proofs.Ytclmgpopejlfdaa
