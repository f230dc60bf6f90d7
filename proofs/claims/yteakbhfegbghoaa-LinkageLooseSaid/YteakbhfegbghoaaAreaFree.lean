/- The first place of an area that is free. -/
import Derived.Test.YteakbhfegbghoaaAreaSum
namespace Go.Proofs.Yteakbhfegbghoaa.Area
open Go Go.RowKit Go.Proofs.Yteakbhfegbghoaa.Kit
set_option linter.unusedSimpArgs false
set_option linter.unusedVariables false
/-- n words fit at x. -/
def Free (ms : Ms) (n x : Nat) : Prop := ∀ r ∈ ms, r.1 + r.2.length ≤ x ∨ x + n ≤ r.1
theorem Ord.first {N n k : Nat} {rs : List Room} (h : Ord N rs) (hf : Fit rs (n : Int) k) : Free (ab rs) n (endOf rs k) ∧ ∀ y, y < endOf rs k → ¬ Free (ab rs) n y := by
  obtain ⟨f1, f2, f3⟩ := hf
  constructor
  · intro r hr
    obtain ⟨x, hx, rfl⟩ := List.mem_map.1 hr
    obtain ⟨i, hi⟩ := List.getElem?_of_mem hx
    by_cases hik : i < k
    · left
      have hk1 : ∃ z, rs[k - 1]? = some z := ⟨_, List.getElem?_eq_getElem (by omega)⟩
      obtain ⟨z, hz⟩ := hk1
      have e := endOf_succ hz
      rw [show k - 1 + 1 = k by omega] at e
      rw [e]
      by_cases e2 : i = k - 1
      · subst e2; rw [hi] at hz; cases hz; exact Nat.le_refl _
      · have := h.behind (show i < k - 1 by omega) hi hz
        simp only
        omega
    · right
      have hil := (List.getElem?_eq_some_iff.1 hi).1
      obtain ⟨z, hz⟩ : ∃ z, rs[k]? = some z := ⟨_, List.getElem?_eq_getElem (by omega)⟩
      have h3 := f3 z hz
      by_cases e2 : k = i
      · subst e2; rw [hi] at hz; cases hz; simp only; omega
      · have := h.behind (show k < i by omega) hz hi
        simp only
        omega
  · intro y hy hfr
    have key : ∀ d, d ≤ k → endOf rs d ≤ y → False := by
      intro d
      induction hd : k - d generalizing d with
      | zero => intro h1 h2; have : d = k := by omega
                subst this; omega
      | succ m ih =>
        intro h1 h2
        obtain ⟨z, hz⟩ : ∃ z, rs[d]? = some z := ⟨_, List.getElem?_eq_getElem (by omega)⟩
        have h3 := f2 d z (by omega) hz
        have h4 := hfr (z.1, z.2.2) (List.mem_map.2 ⟨z, List.mem_of_getElem? hz, rfl⟩)
        simp only at h4
        refine ih (d + 1) (by omega) (by omega) ?_
        rw [endOf_succ hz]
        omega
    exact key 0 (Nat.zero_le _) (Nat.zero_le _)
theorem exists_fit (n : Int) : ∀ (rs : List Room), ∃ k, Fit rs n k := by
  intro rs
  have key : ∀ d, d ≤ rs.length → (∀ (j : Nat) (r : Room), j < d → rs[j]? = some r → (r.1 : Int) - endOf rs j < n) → ∃ k, Fit rs n k := by
    intro d
    induction hd : rs.length - d generalizing d with
    | zero => intro h1 h2; exact ⟨d, h1, h2, fun r hr => by have := (List.getElem?_eq_some_iff.1 hr).1; omega⟩
    | succ m ih =>
      intro h1 h2
      obtain ⟨z, hz⟩ : ∃ z, rs[d]? = some z := ⟨_, List.getElem?_eq_getElem (by omega)⟩
      by_cases h3 : (z.1 : Int) - endOf rs d < n
      · refine ih (d + 1) (by omega) (by omega) (fun j r hj hr => ?_)
        by_cases e : j = d
        · subst e; rw [hz] at hr; cases hr; exact h3
        · exact h2 j r (by omega) hr
      · exact ⟨d, h1, h2, fun r hr => by rw [hz] at hr; cases hr; omega⟩
  exact key 0 (Nat.zero_le _) (fun j r hj => absurd hj (Nat.not_lt_zero _))
theorem With.first {w0 w : World} {A N n : Nat} {T : Nat → Prop} {ms : Ms} (h : With w0 w A N ms T) : Free ms n (fitG (n : Int) 0 ms).2 ∧ ∀ y, y < (fitG (n : Int) 0 ms).2 → ¬ Free ms n y := by
  obtain ⟨S, ⟨rs, ⟨lv, har, _⟩, rfl⟩, _⟩ := h
  obtain ⟨k, hk⟩ := exists_fit (n : Int) rs
  rw [hk.eq]
  exact har.2.2.2.2.first hk
theorem Free.perm {ms ms' : Ms} {n x : Nat} (h : ms.Perm ms') : Free ms n x ↔ Free ms' n x := ⟨fun f r hr => f r (h.mem_iff.2 hr), fun f r hr => f r (h.mem_iff.1 hr)⟩
/-- No place was found: the area is full. -/
theorem With.full {w0 w : World} {A N n : Nat} {T : Nat → Prop} {ms ms' : Ms} (h : With w0 w A N ms T) (hp : ms'.Perm ms) (h1 : 1 ≤ n) (hn : ∀ y, y + n ≤ N → ¬ Free ms' n y) : takeE N ms (n : Int) = 7 ∧ takeB N ms (n : Int) = 0 := by
  have hf := h.first (n := n)
  have : ¬ (fitG (n : Int) 0 ms).2 + n ≤ N := fun e => hn _ e ((Free.perm hp).2 hf.1)
  have e : takeE N ms (n : Int) = 7 := by
    unfold takeE
    rw [if_neg (by omega), if_pos (by omega)]
  refine ⟨e, ?_⟩
  unfold takeB
  rw [e, if_neg (by decide)]
/-- The first place that is free. -/
theorem With.fits {w0 w : World} {A N n x : Nat} {T : Nat → Prop} {ms ms' : Ms} (h : With w0 w A N ms T) (hp : ms'.Perm ms) (h1 : 1 ≤ n) (hx : x + n ≤ N) (hf : Free ms' n x) (hn : ∀ y, y < x → ¬ Free ms' n y) : takeE N ms (n : Int) = 0 ∧ takeB N ms (n : Int) = (x : Int) ∧ (fitG (n : Int) 0 ms).2 = x := by
  have hf' := h.first (n := n)
  have e1 : ¬ x < (fitG (n : Int) 0 ms).2 := fun e => hf'.2 x e ((Free.perm hp).1 hf)
  have e2 : ¬ (fitG (n : Int) 0 ms).2 < x := fun e => hn _ e ((Free.perm hp).2 hf'.1)
  have e3 : (fitG (n : Int) 0 ms).2 = x := by omega
  have e : takeE N ms (n : Int) = 0 := by
    unfold takeE
    rw [if_neg (by omega), if_neg (by omega)]
  refine ⟨e, ?_, e3⟩
  unfold takeB
  rw [e, if_pos rfl, e3]
end Go.Proofs.Yteakbhfegbghoaa.Area
