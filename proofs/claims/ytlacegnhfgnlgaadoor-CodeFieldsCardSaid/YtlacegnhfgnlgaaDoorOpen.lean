/- How arguments that are arrays of whole numbers open: plain laws over any program. -/
import Derived.WalkKit
import Derived.OpenShut
import Derived.Lib.SmallJoins
namespace Go.Proofs.YtlacegnhfgnlgaaDoor.Open
open Go Go.RowKit Go.ChangeShapes Go.WideShapes

theorem okWide_array {P : Program} {w : World} {r : Reach} {base n : Nat} {t e : TypeId} {v : Value} (ht : P.underlying t = some (.array n e)) (h : Value.okWide P w r base t v) : ∃ cs, v = .agg cs ∧ cs.size = P.cellsOf t := by
  simp only [Value.okWide, ht] at h
  obtain ⟨cs, h1, h2, _⟩ := h
  exact ⟨cs, h1, h2⟩

/-- An array of n whole numbers. -/
theorem open_arr {H : Type} {enc : TypeId × Value → H} {P : Program} {w : World} {base b0 : Nat} {r : Reach} {spare : Nat → Bool} {held : Bool} {t e : TypeId} {n : Nat} {k : IntKind} {v : Value} {d : DataW H} {p : List MemPlace}
    (ht : P.underlying t = some (.array n e)) (he : P.underlying e = some (.int k)) (hc : P.cellsOf t = n) (hce : P.cellsOf e = 1) (hv : Value.okWide P w r b0 t v) (h : DataW.Trod enc P w base spare held t v d p) :
    ∃ xs : List Int, v = .agg (xs.map (Value.int k)).toArray ∧ xs.length = n ∧ ∀ x ∈ xs, (Lit.int k x).wf = true := by
  obtain ⟨cs, rfl, hsz⟩ := okWide_array ht hv
  obtain ⟨fuel, hf⟩ := h
  obtain ⟨ys, m, _, _, hlen, hn, hel⟩ := DataW.trod_array ht hf
  have hcs : (Value.agg cs).cells = cs := rfl
  rw [hcs] at hel
  have hall : ∀ i, i < n → ∃ x, cs.toList[i]? = some (.int k x) ∧ (Lit.int k x).wf = true := by
    intro i hi
    have h1 := hel i hi
    rw [hce, Nat.mul_one] at h1
    have hi' : i < ys.length := by omega
    rw [List.getElem?_eq_getElem hi'] at h1
    have hic : i < cs.toList.length := by simp; omega
    have h2 : (cs.toList.drop i).take 1 = [cs.toList[i]] := by
      rw [List.drop_eq_getElem_cons hic]; simp
    rw [h2] at h1
    obtain ⟨x, e1, _, hw⟩ := DataW.trod_int he h1
    refine ⟨x, ?_, hw⟩
    rw [List.getElem?_eq_getElem hic]
    simp at e1
    simp [e1]
  have hl : cs.toList.length = n := by simp; omega
  refine ⟨cs.toList.map intOf, ?_, by simpa using hl, ?_⟩
  · congr 1
    apply Array.ext'
    apply List.ext_getElem?
    intro i
    simp only [List.map_map, List.getElem?_map]
    by_cases hi : i < n
    · obtain ⟨x, hx, _⟩ := hall i hi
      rw [hx]; rfl
    · rw [List.getElem?_eq_none (by omega)]; rfl
  · intro x hx
    obtain ⟨u, hu, rfl⟩ := List.mem_map.1 hx
    obtain ⟨i, hi, rfl⟩ := List.getElem_of_mem hu
    obtain ⟨x, hx, hw⟩ := hall i (by omega)
    rw [List.getElem?_eq_getElem hi] at hx
    rw [Option.some.inj hx]
    exact hw

theorem list2 {α : Type} {l : List α} (h : l.length = 2) : ∃ a b, l = [a, b] := by
  match l, h with
  | [a, b], _ => exact ⟨a, b, rfl⟩
theorem list3 {α : Type} {l : List α} (h : l.length = 3) : ∃ a b c, l = [a, b, c] := by
  match l, h with
  | [a, b, c], _ => exact ⟨a, b, c, rfl⟩
theorem list4 {α : Type} {l : List α} (h : l.length = 4) : ∃ a b c d, l = [a, b, c, d] := by
  match l, h with
  | [a, b, c, d], _ => exact ⟨a, b, c, d, rfl⟩
end Go.Proofs.YtlacegnhfgnlgaaDoor.Open
