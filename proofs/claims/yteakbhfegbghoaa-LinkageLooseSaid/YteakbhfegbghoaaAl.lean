/- Plain laws on association lists. -/
import Derived.Test.YteakbhfegbghoaaKit
namespace Go.Proofs.Yteakbhfegbghoaa.Kit
set_option linter.unusedSimpArgs false
set_option linter.unusedVariables false
set_option linter.unusedSectionVars false
section
variable {κ β : Type} [DecidableEq κ]
theorem get?_nil (x : κ) : get? ([] : List (κ × β)) x = none := rfl
theorem get?_cons (q : κ × β) (L : List (κ × β)) (x : κ) : get? (q :: L) x = if q.1 = x then some q.2 else get? L x := by
  unfold get?
  rw [List.find?_cons]
  by_cases h : q.1 = x <;> simp [h]
theorem get?_mem {L : List (κ × β)} {x : κ} {r : β} (h : get? L x = some r) : (x, r) ∈ L := by
  induction L with
  | nil => cases h
  | cons q t ih =>
    rw [get?_cons] at h
    split at h
    · rename_i e
      injection h with h
      rw [← e, ← h]
      exact List.mem_cons_self
    · exact List.mem_cons_of_mem _ (ih h)
theorem get?_none {L : List (κ × β)} {x : κ} : get? L x = none ↔ ∀ q ∈ L, q.1 ≠ x := by
  induction L with
  | nil => simp [get?_nil]
  | cons q t ih =>
    rw [get?_cons]
    by_cases h : q.1 = x
    · simp [h]
    · simp [h, ih]
theorem get?_of_mem {L : List (κ × β)} (hn : (L.map (·.1)).Nodup) {x : κ} {r : β} (h : (x, r) ∈ L) : get? L x = some r := by
  induction L with
  | nil => cases h
  | cons q t ih =>
    rw [List.map_cons, List.nodup_cons] at hn
    rw [get?_cons]
    rcases List.mem_cons.1 h with rfl | h
    · simp
    · rw [if_neg, ih hn.2 h]
      intro e
      exact hn.1 (e ▸ List.mem_map.2 ⟨_, h, rfl⟩)
theorem put_of_none {L : List (κ × β)} {x : κ} (h : get? L x = none) (v : β) : put L x v = L ++ [(x, v)] := by unfold put; rw [h]; rfl
theorem put_of_some {L : List (κ × β)} {x : κ} {r : β} (h : get? L x = some r) (v : β) : put L x v = L.map (fun p => if p.1 = x then (x, v) else p) := by unfold put; rw [h]; rfl
theorem get?_append (L M : List (κ × β)) (x : κ) : get? (L ++ M) x = (get? L x).or (get? M x) := by
  induction L with
  | nil => simp [get?_nil]
  | cons q t ih =>
    rw [List.cons_append, get?_cons, get?_cons]
    split
    · simp
    · exact ih
theorem get?_map_put (L : List (κ × β)) (x y : κ) (v : β) : get? (L.map (fun p => if p.1 = x then (x, v) else p)) y = if y = x then (if (get? L x).isSome then some v else none) else get? L y := by
  induction L with
  | nil => simp [get?_nil]
  | cons q t ih =>
    rw [List.map_cons, get?_cons, get?_cons, get?_cons, ih]
    by_cases h1 : q.1 = x
    · by_cases h2 : y = x
      · simp [h1, h2]
      · have h3 : ¬ x = y := fun e => h2 e.symm
        simp [h1, h2, h3]
    · by_cases h2 : y = x
      · subst h2; simp [h1]
      · simp [h1, h2]
theorem get?_put (L : List (κ × β)) (x y : κ) (v : β) : get? (put L x v) y = if y = x then some v else get? L y := by
  cases h : get? L x with
  | none =>
    rw [put_of_none h, get?_append, get?_cons, get?_nil]
    by_cases e : y = x
    · subst e; rw [h]; simp
    · have h3 : ¬ x = y := fun e' => e e'.symm
      simp [e, h3]
  | some r =>
    rw [put_of_some h, get?_map_put, h]
    simp
theorem get?_del (L : List (κ × β)) (x y : κ) : get? (del L x) y = if y = x then none else get? L y := by
  induction L with
  | nil => simp [del, get?_nil]
  | cons q t ih =>
    have ih' : get? (t.filter fun p => decide (p.1 ≠ x)) y = if y = x then none else get? t y := ih
    unfold del
    rw [List.filter_cons]
    by_cases h : q.1 = x
    · simp only [h, ne_eq, not_true, decide_false, Bool.false_eq_true, if_false]
      rw [show (fun p : κ × β => decide (¬ p.1 = x)) = fun p => decide (p.1 ≠ x) from rfl, ih', get?_cons]
      by_cases e : y = x
      · simp [e]
      · have h3 : ¬ x = y := fun e' => e e'.symm
        simp [e, h, h3]
    · simp only [h, ne_eq, not_false_eq_true, decide_true, if_true]
      rw [get?_cons, show (fun p : κ × β => decide (¬ p.1 = x)) = fun p => decide (p.1 ≠ x) from rfl, ih', get?_cons]
      by_cases e : y = x
      · subst e; simp [h]
      · simp [e]
theorem keys_put (L : List (κ × β)) (x : κ) (v : β) (hn : (L.map (·.1)).Nodup) : ((put L x v).map (·.1)).Nodup := by
  cases h : get? L x with
  | none =>
    rw [put_of_none h, List.map_append, List.nodup_append]
    refine ⟨hn, by simp, fun a ha b hb => ?_⟩
    obtain ⟨q, hq, rfl⟩ := List.mem_map.1 ha
    simp only [List.map_cons, List.map_nil, List.mem_singleton] at hb
    rw [hb]
    exact get?_none.1 h q hq
  | some r =>
    rw [put_of_some h, List.map_map]
    rw [List.map_congr_left (g := fun p : κ × β => p.1)]
    · exact hn
    · intro p _
      show (if p.1 = x then (x, v) else p).1 = p.1
      split
      · rename_i e; exact e.symm
      · rfl
theorem keys_del (L : List (κ × β)) (x : κ) (hn : (L.map (·.1)).Nodup) : ((del L x).map (·.1)).Nodup := by
  unfold del
  exact List.Pairwise.sublist (List.Sublist.map _ List.filter_sublist) hn
theorem mem_del {L : List (κ × β)} {x : κ} {q : κ × β} : q ∈ del L x ↔ q ∈ L ∧ q.1 ≠ x := by unfold del; simp [List.mem_filter]
theorem mem_put {L : List (κ × β)} {x : κ} {v : β} {q : κ × β} (h : q ∈ put L x v) : q = (x, v) ∨ (q ∈ L ∧ q.1 ≠ x) := by
  cases hg : get? L x with
  | none =>
    rw [put_of_none hg] at h
    rcases List.mem_append.1 h with h | h
    · exact .inr ⟨h, get?_none.1 hg q h⟩
    · exact .inl (List.mem_singleton.1 h)
  | some r =>
    rw [put_of_some hg] at h
    obtain ⟨p, hp, rfl⟩ := List.mem_map.1 h
    split
    · exact .inl rfl
    · rename_i e; exact .inr ⟨hp, e⟩
theorem map_put_of {γ : Type} (f : κ × β → γ) {L : List (κ × β)} (hn : (L.map (·.1)).Nodup) {x : κ} {r v : β} (h : get? L x = some r) (hf : f (x, v) = f (x, r)) : (put L x v).map f = L.map f := by
  rw [put_of_some h, List.map_map]
  apply List.map_congr_left
  intro p hp
  show f (if p.1 = x then (x, v) else p) = f p
  split
  · rename_i e
    have h2 : get? L p.1 = some p.2 := get?_of_mem hn hp
    rw [e, h] at h2
    injection h2 with h2
    rw [hf, h2, ← e]
  · rfl
theorem nodup_put_new {γ : Type} (f : κ × β → γ) {L : List (κ × β)} {x : κ} (hn : (L.map Prod.fst).Nodup) (hf : (L.map f).Nodup) (v : β) (h : ∀ y ∈ L, f y ≠ f (x, v)) : ((put L x v).map f).Nodup := by
  cases hg : get? L x with
  | none =>
    rw [put_of_none hg, List.map_append, List.nodup_append]
    refine ⟨hf, by simp, fun a ha b hb => ?_⟩
    obtain ⟨q, hq, rfl⟩ := List.mem_map.1 ha
    simp only [List.map_cons, List.map_nil, List.mem_singleton] at hb
    rw [hb]
    exact h q hq
  | some r =>
    rw [put_of_some hg, List.map_map]
    clear hg
    induction L with
    | nil => exact List.nodup_nil
    | cons q t ih =>
      rw [List.map_cons, List.nodup_cons] at hn hf ⊢
      refine ⟨fun hm => ?_, ih hn.2 hf.2 (fun y hy => h y (List.mem_cons_of_mem _ hy))⟩
      obtain ⟨y, hy, he⟩ := List.mem_map.1 hm
      simp only [Function.comp] at he
      by_cases h1 : y.1 = x <;> by_cases h2 : q.1 = x
      · exact hn.1 (List.mem_map.2 ⟨y, hy, by rw [h1, h2]⟩)
      · rw [if_pos h1, if_neg h2] at he
        exact h q List.mem_cons_self he.symm
      · rw [if_neg h1, if_pos h2] at he
        exact h y (List.mem_cons_of_mem _ hy) he
      · rw [if_neg h1, if_neg h2] at he
        exact hf.1 (List.mem_map.2 ⟨y, hy, he⟩)
theorem del_cons {x : κ} {r : β} {t : List (κ × β)} (hn : (((x, r) :: t).map Prod.fst).Nodup) : del ((x, r) :: t) x = t := by
  rw [List.map_cons, List.nodup_cons] at hn
  unfold del
  rw [List.filter_cons, if_neg (by simp), List.filter_eq_self.2]
  intro y hy
  simp only [decide_eq_true_eq]
  intro e
  exact hn.1 (List.mem_map.2 ⟨y, hy, e⟩)
theorem sum_del (f : β → Nat) {L : List (κ × β)} (hn : (L.map (·.1)).Nodup) {x : κ} {r : β} (h : get? L x = some r) : (L.map fun q => f q.2).sum = ((del L x).map fun q => f q.2).sum + f r := by
  induction L with
  | nil => cases h
  | cons q t ih =>
    rw [List.map_cons, List.nodup_cons] at hn
    rw [get?_cons] at h
    unfold del
    rw [List.filter_cons]
    by_cases e : q.1 = x
    · rw [if_pos e] at h
      injection h with h
      have : t.filter (fun p => decide (p.1 ≠ x)) = t := List.filter_eq_self.2 fun y hy => by
        simp only [decide_eq_true_eq]
        intro e'
        exact hn.1 (List.mem_map.2 ⟨y, hy, by rw [e', e]⟩)
      simp only [e, ne_eq, not_true, decide_false, Bool.false_eq_true, if_false]
      rw [show (fun p : κ × β => decide (¬ p.1 = x)) = fun p => decide (p.1 ≠ x) from rfl, this]
      simp [h]; omega
    · rw [if_neg e] at h
      have := ih hn.2 h
      unfold del at this
      simp only [e, ne_eq, not_false_eq_true, decide_true, if_true, List.map_cons, List.sum_cons]
      simp only [ne_eq] at this
      omega
theorem sum_put (f : β → Nat) {L : List (κ × β)} (hn : (L.map (·.1)).Nodup) {x : κ} {r : β} (h : get? L x = some r) (v : β) : ((put L x v).map fun q => f q.2).sum + f r = (L.map fun q => f q.2).sum + f v := by
  rw [put_of_some h]
  induction L with
  | nil => cases h
  | cons q t ih =>
    rw [List.map_cons, List.nodup_cons] at hn
    rw [get?_cons] at h
    by_cases e : q.1 = x
    · rw [if_pos e] at h
      injection h with h
      have : t.map (fun p => if p.1 = x then (x, v) else p) = t := by
        conv => rhs; rw [← List.map_id t]
        apply List.map_congr_left
        intro y hy
        rw [if_neg]; rfl
        intro e'
        exact hn.1 (List.mem_map.2 ⟨y, hy, by rw [e', e]⟩)
      rw [List.map_cons, this]
      simp [e, h]; omega
    · rw [if_neg e] at h
      have := ih hn.2 h
      simp only [List.map_cons, e, if_false, List.sum_cons]
      omega
theorem sum_append (f : β → Nat) (L : List (κ × β)) (x : κ) (v : β) : ((L ++ [(x, v)]).map fun q => f q.2).sum = (L.map fun q => f q.2).sum + f v := by simp
theorem sum_mem (f : β → Nat) {L : List (κ × β)} {q : κ × β} (h : q ∈ L) : f q.2 ≤ (L.map fun q => f q.2).sum := by
  induction L with
  | nil => cases h
  | cons p t ih =>
    rw [List.map_cons, List.sum_cons]
    rcases List.mem_cons.1 h with rfl | h
    · omega
    · have := ih h; omega
end
end Go.Proofs.Yteakbhfegbghoaa.Kit
