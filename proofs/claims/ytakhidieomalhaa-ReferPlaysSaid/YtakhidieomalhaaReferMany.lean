/- ReferMany: what it says, in plain lists. -/
import Derived.Test.YtakhidieomalhaaReferAwake
import Derived.Test.YtakhidieomalhaaLs
namespace Go.Proofs.Ytakhidieomalhaa.Refer
open Go Go.RowKit Go.ChangeMaps Go.Proofs.Ytakhidieomalhaa.Kit Go.Proofs.Ytakhidieomalhaa.Str Go.Proofs.Ytakhidieomalhaa.Names
set_option linter.unusedSimpArgs false
set_option linter.unusedVariables false
def sc (s : List UInt8) : List Value := [st s]
theorem sc_len (s : List UInt8) : (sc s).length = 1 := rfl
theorem flat_sc : ∀ O : List (List UInt8), flatOf sc O = O.map st
  | [] => rfl
  | s :: O => by rw [flatOf_cons, flat_sc O]; rfl
def LO (O : List (List UInt8)) : List (Key × Int) := O.map fun s => ((4, s), 7)
theorem get_LO (s : List UInt8) : ∀ O : List (List UInt8), get? (LO O) (4, s) = if s ∈ O then some 7 else none
  | [] => by simp [LO, get?_nil]
  | t :: O => by
    show get? (((4, t), 7) :: LO O) (4, s) = _
    rw [get?_cons, get_LO s O]
    by_cases e : t = s
    · subst e; simp
    · have e2 : ¬ s = t := fun h => e h.symm
      simp [e, e2]
theorem bindE_LO (O : List (List UInt8)) (s : List UInt8) : bindE (LO O) 4 s 7 = if signsB s 32 = false then 3 else 0 := by
  unfold bindE
  rw [if_neg (by decide), get_LO]
  by_cases e : s ∈ O <;> simp [e]
theorem put_LO_in {O : List (List UInt8)} {s : List UInt8} (h : s ∈ O) : put (LO O) (4, s) 7 = LO O := by
  rw [put_of_some (r := 7) (by rw [get_LO, if_pos h])]
  unfold LO
  rw [List.map_map]
  apply List.map_congr_left
  intro t _
  simp only [Function.comp]
  by_cases e : t = s
  · subst e; simp
  · rw [if_neg (by simp [e])]
theorem put_LO_new {O : List (List UInt8)} {s : List UInt8} (h : s ∉ O) : put (LO O) (4, s) 7 = LO (O ++ [s]) := by
  rw [put_of_none (by rw [get_LO, if_neg h])]
  simp [LO]
theorem bindL_no {O : List (List UInt8)} {s : List UInt8} (h : signsB s 32 = false) : bindL (LO O) 4 s 7 = LO O := by unfold bindL; rw [bindE_LO, if_pos h, if_neg (by decide)]
theorem bindL_in {O : List (List UInt8)} {s : List UInt8} (h : signsB s 32 = true) (hs : s ∈ O) : bindL (LO O) 4 s 7 = LO O := by unfold bindL; rw [bindE_LO, h]; exact put_LO_in hs
theorem bindL_new {O : List (List UInt8)} {s : List UInt8} (h : signsB s 32 = true) (hs : s ∉ O) : bindL (LO O) 4 s 7 = LO (O ++ [s]) := by unfold bindL; rw [bindE_LO, h]; exact put_LO_new hs
theorem names_LO (O : List (List UInt8)) : namesOf (LO O) 4 7 = O := by
  unfold namesOf LO
  rw [List.filter_eq_self.2 (by intro p hp; obtain ⟨t, _, rfl⟩ := List.mem_map.1 hp; simp [hit]), List.map_map]
  exact (List.map_congr_left (fun t _ => rfl)).trans (List.map_id _)
theorem del_LO (O : List (List UInt8)) (s : List UInt8) : del (LO O) (4, s) = LO (O.filter fun t => decide (t ≠ s)) := by
  unfold del LO
  rw [List.filter_map]
  congr 1
  apply List.filter_congr
  intro t _
  simp
theorem filter_len {O : List (List UInt8)} {s : List UInt8} (hn : O.Nodup) (hs : s ∈ O) : (O.filter fun t => decide (t ≠ s)).length + 1 = O.length := by
  obtain ⟨j, hj⟩ := List.getElem?_of_mem hs
  rw [filter_one (fun t => t) (by simpa using hn) hj]
  have hl := (List.getElem?_eq_some_iff.1 hj).1
  rw [List.length_eraseIdx]
  simp [hl]
  omega
theorem LO_len (O : List (List UInt8)) : (LO O).length = O.length := by simp [LO]
theorem sort_up {O : List (List UInt8)} (hn : O.Nodup) {i : Nat} {x y : List UInt8} (hx : (sortS O)[i]? = some x) (hy : (sortS O)[i + 1]? = some y) : ltB x y = true := by
  have hs := sortS_sorted O
  have hn2 : (sortS O).Nodup := (sortS_self O).nodup_iff.2 hn
  obtain ⟨l1, e1⟩ := List.getElem?_eq_some_iff.1 hx
  obtain ⟨l2, e2⟩ := List.getElem?_eq_some_iff.1 hy
  have h1 := List.pairwise_iff_getElem.1 hs i (i + 1) l1 l2 (by omega)
  have h2 := List.pairwise_iff_getElem.1 hn2 i (i + 1) l1 l2 (by omega)
  rw [e1, e2] at h1 h2
  refine ltB_total (Ne.symm h2) ?_
  simpa using h1
end Go.Proofs.Ytakhidieomalhaa.Refer
