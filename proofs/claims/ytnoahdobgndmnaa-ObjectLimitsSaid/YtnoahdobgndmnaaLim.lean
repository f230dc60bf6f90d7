/- ObjectLimits: what it makes, plain. -/
import Derived.Test.YtnoahdobgndmnaaObjP
namespace Go.Proofs.Ytnoahdobgndmnaa.Obj
open Go Go.RowKit Go.Maps Go.Proofs.Ytnoahdobgndmnaa.Kit Go.Proofs.Ytnoahdobgndmnaa.Str Go.Proofs.Ytnoahdobgndmnaa.Names Go.Proofs.Ytnoahdobgndmnaa.Let Go.Proofs.Ytnoahdobgndmnaa.Wd
open Go.Proofs.Ytnoahdobgndmnaa.Letters (wv WsAt word_info)
set_option linter.unusedSimpArgs false
set_option linter.unusedVariables false
def nm (i : Nat) : List UInt8 := [101, UInt8.ofNat (48 + i / 10), UInt8.ofNat (48 + i % 10)]
def limD (k : Nat) : List Df := (List.range k).map fun i => (nm i, 0)
def limL (k : Nat) : List Lk := List.replicate k ([], [120], 0)
def limO (a b d l : Nat) : Ob := ⟨List.replicate a 0, List.replicate b 0, limD d, limL l⟩
theorem limD_succ (k : Nat) : limD (k + 1) = limD k ++ [(nm k, 0)] := by unfold limD; rw [List.range_succ, List.map_append]; rfl
theorem limL_succ (k : Nat) : limL (k + 1) = limL k ++ [([], [120], 0)] := by unfold limL; rw [List.replicate_succ']
theorem limD_len (k : Nat) : (limD k).length = k := by simp [limD]
theorem limL_len (k : Nat) : (limL k).length = k := by simp [limL]
theorem sum_eq {α : Type} {f : α → List Nat} {c : Nat} : ∀ {l : List α}, (∀ x ∈ l, (f x).length = c) → (l.flatMap f).length = l.length * c
  | [], _ => by simp
  | x :: r, h => by
    have h1 := h x (List.mem_cons_self ..)
    have h2 := sum_eq (l := r) (fun y hy => h y (List.mem_cons_of_mem _ hy))
    rw [List.flatMap_cons, List.length_append, List.length_cons, Nat.add_mul, Nat.one_mul]
    omega
theorem lim_size (a b d l : Nat) : (encO (limO a b d l)).length = a + b + 3 * d + 4 * l + 5 := by
  have h1 : ((limD d).flatMap encD).length = (limD d).length * 3 := sum_eq fun x hx => by
    obtain ⟨i, _, rfl⟩ := List.mem_map.1 hx
    unfold encD
    rw [List.length_append, Go.Proofs.Ytnoahdobgndmnaa.Let.enc_len]
    show 1 + nW 3 + 1 = 3
    decide
  have h2 : ((limL l).flatMap encL).length = (limL l).length * 4 := sum_eq fun x hx => by
    rw [List.eq_of_mem_replicate hx]
    rfl
  unfold encO limO tl
  simp only [List.length_append, List.length_replicate, h1, h2, limD_len, limL_len]
  simp only [List.length_cons, List.length_nil]
  omega
theorem nm_ok : ∀ i, i < 36 → signsB (nm i) 32 = true := by decide
theorem nm_apart : ((List.range 36).map nm).Nodup := by decide
theorem lim_fit {a b d l : Nat} (hd : d ≤ 35) : Fit (limO a b d l) ↔ a ≤ 512 ∧ b ≤ 64 ∧ d ≤ 32 ∧ l ≤ 32 ∧ (d = 0 ∨ 0 < a) := by
  constructor
  · intro h
    have h1 := h.text
    have h2 := h.static
    have h3 := h.ndefs
    have h4 := h.nlinks
    have h5 := h.defs
    unfold limO at h1 h2 h3 h4 h5
    simp only [List.length_replicate, limD_len, limL_len] at h1 h2 h3 h4 h5
    refine ⟨h1, h2, h3, h4, ?_⟩
    rcases Nat.eq_zero_or_pos d with h0 | h0
    · exact .inl h0
    · right
      have := (h5 (nm 0, 0) (List.mem_map.2 ⟨0, List.mem_range.2 h0, rfl⟩)).2.2
      simp only at this
      omega
  · rintro ⟨h1, h2, h3, h4, h5⟩
    have hz : ∀ k, wholeB (List.replicate k 0) = true := fun k => by
      unfold wholeB
      rw [List.all_eq_true]
      intro x hx
      rw [List.eq_of_mem_replicate hx]
      decide
    refine ⟨by unfold limO; simp only [List.length_replicate]; exact h1, by unfold limO; simp only [List.length_replicate]; exact h2, hz _, hz _, by show (limD d).length ≤ 32; rw [limD_len]; exact h3, ?_, ?_, by show (limL l).length ≤ 32; rw [limL_len]; exact h4, ?_⟩
    · have e : (limD d).map (·.1) = (List.range d).map nm := by unfold limD; rw [List.map_map]; rfl
      show ((limD d).map (·.1)).Nodup
      rw [e]
      have : (List.range 36).take d = List.range d := by rw [List.take_range]; congr 1; omega
      rw [← this, List.map_take]
      exact nm_apart.sublist (List.take_sublist _ _)
    · intro x hx
      obtain ⟨i, hi, rfl⟩ := List.mem_map.1 hx
      have hi := List.mem_range.1 hi
      refine ⟨nm_ok i (by omega), Int.le_refl 0, ?_⟩
      show (0 : Int) < ((List.replicate a 0).length : Int)
      rw [List.length_replicate]
      omega
    · intro x hx
      rw [List.eq_of_mem_replicate (show x ∈ List.replicate l _ from hx)]
      exact ⟨.inl rfl, by decide, by decide, by decide⟩
theorem lim_may {a b d l : Nat} (hd : d ≤ 35) : mayB (limO a b d l) = decide (a ≤ 512 ∧ b ≤ 64 ∧ d ≤ 32 ∧ l ≤ 32 ∧ a + b + 3 * d + 4 * l + 5 ≤ 1024 ∧ (d = 0 ∨ 0 < a)) := by
  unfold mayB
  rw [lim_size, Bool.eq_iff_iff, Bool.and_eq_true, fits_iff, lim_fit hd, decide_eq_true_eq, decide_eq_true_eq]
  constructor
  · rintro ⟨⟨h1, h2, h3, h4, h5⟩, h6⟩
    exact ⟨h1, h2, h3, h4, h6, h5⟩
  · rintro ⟨h1, h2, h3, h4, h6, h5⟩
    exact ⟨⟨h1, h2, h3, h4, h5⟩, h6⟩
theorem lim_lens (a b d l : Nat) : Lens (limO a b d l) := by
  constructor
  · intro x hx
    obtain ⟨i, _, rfl⟩ := List.mem_map.1 hx
    show (3 : Nat) ≤ maxLen
    unfold maxLen; decide
  · intro x hx
    rw [List.eq_of_mem_replicate (show x ∈ List.replicate l _ from hx)]
    exact ⟨Nat.zero_le _, by show (1 : Nat) ≤ maxLen; unfold maxLen; decide⟩
end Go.Proofs.Ytnoahdobgndmnaa.Obj
