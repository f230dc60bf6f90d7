/- LinkageWords: its object and sections, plain. -/
import Derived.Test.YteakbhfegbghoaaLinkFull
namespace Go.Proofs.Yteakbhfegbghoaa.Link
open Go Go.RowKit Go.ChangeMaps Go.Proofs.Yteakbhfegbghoaa.Kit Go.Proofs.Yteakbhfegbghoaa.Area Go.Proofs.Yteakbhfegbghoaa.Wd Go.Proofs.Yteakbhfegbghoaa.Str
open Go.Proofs.Yteakbhfegbghoaa.Obj (Ob ObAt Lens ul uw)
open Go.Proofs.Yteakbhfegbghoaa.Letters (wv)
set_option linter.unusedSimpArgs false
set_option linter.unusedVariables false
/-- The words that the law writes: the first i of K. -/
def sevens (K i : Nat) : List Nat := (List.range i).map (fun j => j * 7) ++ List.replicate (K - i) 0
theorem sevens_len {K i : Nat} (h : i ≤ K) : (sevens K i).length = K := by simp [sevens]; omega
theorem sevens_zero (K : Nat) : sevens K 0 = List.replicate K 0 := by simp [sevens]
theorem sevens_next {K i : Nat} (h : i < K) : (sevens K i).set i (i * 7) = sevens K (i + 1) := by
  unfold sevens
  rw [List.set_append_right _ _ (by simp), show K - i = (K - (i + 1)) + 1 by omega, List.replicate_succ, List.range_succ, List.map_append]
  simp
theorem sevens_at {K i : Nat} (h : i < K) : (sevens K K)[i]? = some (i * 7) := by
  unfold sevens
  rw [List.getElem?_append_left (by simpa using h), List.getElem?_map, List.getElem?_range h]
  rfl
theorem sevens_le {K : Nat} (hK : K ≤ 30) : ∀ x ∈ sevens K K, x ≤ 210 := by
  intro x hx
  rcases List.mem_append.1 hx with h | h
  · obtain ⟨j, hj, rfl⟩ := List.mem_map.1 h
    have := List.mem_range.1 hj
    omega
  · rw [List.eq_of_mem_replicate h]; omega
def oW (K : Nat) : Ob := ⟨[], sevens K K, [], []⟩
theorem oW_lens (K : Nat) : Lens (oW K) := ⟨fun d hd => (by cases hd), fun x hx => (by cases hx)⟩
theorem oW_n (K : Nat) : 1 + (oW K).static.length + (oW K).links.length = K + 1 := by
  show 1 + (sevens K K).length + 0 = K + 1
  rw [sevens_len (Nat.le_refl _)]; omega
theorem oW_may {K : Nat} (h : K ≤ 30) : Obj.mayB (oW K) = true := by
  have e0 := sevens_len (Nat.le_refl K)
  have e1 : (Obj.encO (oW K)).length = K + 5 := by
    simp [Obj.encO, oW, Obj.tl, e0]
  unfold Obj.mayB
  rw [e1]
  have : Obj.fitsB (oW K) = true := by
    unfold Obj.fitsB oW
    simp only [Bool.and_eq_true, decide_eq_true_eq, e0]
    refine ⟨by decide, by omega, by decide, ?_, by decide, by decide⟩
    unfold Obj.wholeB
    rw [List.all_eq_true]
    intro x hx
    have := sevens_le h x hx
    unfold Obj.maskN
    exact decide_eq_true (by omega)
  rw [this, Bool.true_and]
  exact decide_eq_true (by omega)
/-- The row of words as a block. -/
def wcells (l : List Nat) : Array Value := (l.map wv).toArray
theorem wcells_zero (K : Nat) : zarr K (.int .u64 0) = wcells (List.replicate K 0) := by
  unfold wcells zarr
  simp [wv]
theorem wcells_set (l : List Nat) (i x : Nat) : (wcells l).setIfInBounds i (wv x) = wcells (l.set i x) := by
  unfold wcells
  apply Array.ext'
  simp [List.map_set]
theorem oW_at {w : World} {G K : Nat} (hK : K ≤ 30) (h : Blk w G 52 (wcells (sevens K K))) : ObAt w (.agg #[.slice none 0 0, .slice (some ⟨G, 0, none⟩) K K, .slice none 0 0, .slice none 0 0]) (oW K) := by
  have h1 := kls (f := uw) (sevens K K) h (fun _ => rfl) (by unfold wcells; rw [Obj.flat_uw]) (by rw [sevens_len (Nat.le_refl _)]; omega)
  rw [sevens_len (Nat.le_refl _)] at h1
  exact ⟨_, _, _, _, rfl, LsAt.nil, h1, LsAt.nil, LsAt.nil⟩
section
variable {w0 w w' : World} {X b G K : Nat} {Q : List Sc} {T : Nat → Prop}
theorem openW (h : Lk w0 w X b Q T) {r s : Nat} (hr : r < 8) (hs0 : 1 ≤ s) (hs : s ≤ 63) (hK : K ≤ 30) (hG : T G) (hb : Blk w G 52 (wcells (sevens K K))) (hg : findS Q ((r : Int), (s : Int)) = none) (hf : ∀ q ∈ Q, ¬ q.ring = r) :
    Calls Try.prog 10 #[ptr X, .int .i64 (r : Int), .int .i64 (s : Int), .agg #[.slice none 0 0, .slice (some ⟨G, 0, none⟩) K K, .slice none 0 0, .slice none 0 0]] w fun e w' => e = .returned (.tuple #[.int .i64 0, .int .i64 0]) ∧ Lk w0 w' X b (Q ++ [newSc r s 0 (oW K)]) T ∧ Same T w w' :=
  OpenQ_ok h (B := 0) hr hs0 hs _ _ _ _ (oW K) (fun W _ hs => oW_at hK (Blk.of_block hb (hs.2 _ hG))) (oW_lens K) (oW_may hK) hg (by rw [oW_n]; omega) (fun q hq e => absurd e (hf q hq)) (fun y hy => absurd hy (Nat.not_lt_zero _))
end
/-- The law's two sections. -/
def sA (K : Nat) : Sc := newSc 3 1 0 (oW K)
def sB (K : Nat) : Sc := newSc 4 1 0 (oW K)
theorem sA_st (K : Nat) : (sA K).st = sevens K K := rfl
theorem sB_st (K : Nat) : (sB K).st = sevens K K := rfl
theorem two_set (K i z : Nat) : setS [sA K, sB K] (setSt (sA K) i z) = [setSt (sA K) i z, sB K] := rfl
theorem two_close (K i z : Nat) : ([setSt (sA K) i z, sB K].filter fun p => decide (p.key ≠ (setSt (sA K) i z).key)) = [sB K] := rfl
end Go.Proofs.Yteakbhfegbghoaa.Link
