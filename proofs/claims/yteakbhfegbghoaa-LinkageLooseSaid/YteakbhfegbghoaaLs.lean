/- Slices that read as lists: their elements' cells. Plain laws over any program. -/
import Derived.Test.YteakbhfegbghoaaKit
import Derived.Test.YteakbhfegbghoaaSl
import Derived.Test.YteakbhfegbghoaaSlMore
namespace Go.Proofs.Yteakbhfegbghoaa.Kit
open Go Go.RowKit
set_option linter.unusedSimpArgs false
set_option linter.unusedVariables false
/-- v is a slice whose elements, k cells each, are the list's. -/
def LsAt {α : Type} (k : Nat) (f : α → List Value) (w : World) (v : Value) (xs : List α) : Prop :=
  ∃ a c, v = .slice a xs.length c ∧ xs.length ≤ c ∧ c ≤ maxLen ∧ (0 < xs.length → ∃ b o, a = some ⟨b, o, none⟩ ∧ b < w.heap.size ∧ ∀ i x, xs[i]? = some x → ∀ j u, (f x)[j]? = some u → w.cell? ⟨b, o + i * k + j, none⟩ = some u)
section
variable {α : Type} {k : Nat} {f : α → List Value} {w w' : World} {v : Value} {xs : List α}
theorem LsAt.new_ (h : LsAt k f w v xs) (n : New w w') : LsAt k f w' v xs := by
  obtain ⟨a, c, hv, h1, h2, h3⟩ := h
  refine ⟨a, c, hv, h1, h2, fun h0 => ?_⟩
  obtain ⟨b, o, ha, hb, hc⟩ := h3 h0
  exact ⟨b, o, ha, by have := n.size; omega, fun i x hx j u hu => n.cellK (hc i x hx j u hu)⟩
theorem LsAt.keeps (h : LsAt k f w v xs) {F : Nat → Prop} (n : Keeps F w w') (hF : ∀ b, v.ownBlock = some b → ¬ F b) : LsAt k f w' v xs := by
  obtain ⟨a, c, hv, h1, h2, h3⟩ := h
  refine ⟨a, c, hv, h1, h2, fun h0 => ?_⟩
  obtain ⟨b, o, ha, hb, hc⟩ := h3 h0
  have hnb : ¬ F b := hF b (by rw [hv, ha]; rfl)
  exact ⟨b, o, ha, by have := n.size; omega, fun i x hx j u hu => n.cell (hc i x hx j u hu) hnb⟩
theorem LsAt.len (h : LsAt k f w v xs) : xs.length ≤ maxLen := by
  obtain ⟨a, c, hv, h1, h2, h3⟩ := h
  omega
theorem LsAt.nil : LsAt k f w (.slice none 0 0) ([] : List α) := ⟨none, 0, rfl, Nat.le_refl _, Nat.zero_le _, fun h => absurd h (by simp)⟩
def flatOf (f : α → List Value) (xs : List α) : List Value := xs.flatMap f
theorem flatOf_nil : flatOf f [] = [] := rfl
theorem flatOf_app (xs ys : List α) : flatOf f (xs ++ ys) = flatOf f xs ++ flatOf f ys := by unfold flatOf; rw [List.flatMap_append]
theorem flatOf_one (x : α) : flatOf f [x] = f x := by simp [flatOf]
theorem flatOf_cons (x : α) (xs : List α) : flatOf f (x :: xs) = f x ++ flatOf f xs := by simp [flatOf]
theorem flatOf_len (hk : ∀ x, (f x).length = k) : ∀ xs : List α, (flatOf f xs).length = xs.length * k
  | [] => by simp [flatOf]
  | x :: xs => by rw [flatOf_cons, List.length_append, hk, flatOf_len hk xs, List.length_cons, Nat.add_mul, Nat.one_mul, Nat.add_comm]
theorem flatOf_get (hk : ∀ x, (f x).length = k) {xs : List α} {i : Nat} {x : α} (hx : xs[i]? = some x) {j : Nat} {u : Value} (hu : (f x)[j]? = some u) : (flatOf f xs)[i * k + j]? = some u := by
  have hj : j < k := by rw [← hk x]; exact (List.getElem?_eq_some_iff.1 hu).1
  induction xs generalizing i with
  | nil => simp at hx
  | cons y ys ih =>
    rw [flatOf_cons]
    cases i with
    | zero =>
      simp only [List.getElem?_cons_zero, Option.some.injEq] at hx
      subst hx
      rw [Nat.zero_mul, Nat.zero_add, List.getElem?_append_left (by rw [hk]; exact hj)]
      exact hu
    | succ i =>
      simp only [List.getElem?_cons_succ] at hx
      rw [List.getElem?_append_right (by rw [hk, Nat.add_mul]; omega), hk, show (i + 1) * k + j - k = i * k + j by rw [Nat.add_mul]; omega]
      exact ih hx
theorem flatOf_take (hk : ∀ x, (f x).length = k) : ∀ (xs : List α) (i : Nat), (flatOf f xs).take (i * k) = flatOf f (xs.take i)
  | [], i => by simp [flatOf]
  | x :: xs, 0 => by simp [flatOf]
  | x :: xs, i + 1 => by
    rw [List.take_succ_cons, flatOf_cons, flatOf_cons, Nat.add_mul, Nat.one_mul, Nat.add_comm (i * k) k, ← hk x, List.take_length_add_append, hk x, flatOf_take hk xs i]
theorem flatOf_drop (hk : ∀ x, (f x).length = k) : ∀ (xs : List α) (i : Nat), (flatOf f xs).drop (i * k) = flatOf f (xs.drop i)
  | [], i => by simp [flatOf]
  | x :: xs, 0 => by simp [flatOf]
  | x :: xs, i + 1 => by
    rw [List.drop_succ_cons, flatOf_cons, Nat.add_mul, Nat.one_mul, Nat.add_comm (i * k) k, ← hk x, List.drop_length_add_append, hk x, flatOf_drop hk xs i]
theorem LsAt.of_sl {base : Nat} {e : TypeId} (hk : ∀ x, (f x).length = k) (h : Sl w base e k v xs.length (flatOf f xs)) : LsAt k f w v xs := by
  rcases Nat.eq_zero_or_pos xs.length with h0 | h0
  · rcases h.2 with ⟨rfl, e⟩ | ⟨g, o, cap, cur, rfl, _, _, h1, h2, _⟩
    · exact ⟨none, 0, by rw [h0], by omega, Nat.zero_le _, fun h => absurd h (by omega)⟩
    · exact ⟨_, _, rfl, h1, h2, fun h => absurd h (by omega)⟩
  · rcases h.2 with ⟨rfl, e⟩ | ⟨g, o, cap, cur, rfl, hb, hg, h1, h2, h3, ht⟩
    · omega
    · obtain ⟨g', o', cap', hv, _, hg', _, hc, _⟩ := h.form h0
      injection hv with hv1 _ hv3
      injection hv1 with hv1
      injection hv1 with hv1 hv4
      subst hv1 hv4 hv3
      refine ⟨_, _, rfl, h1, h2, fun _ => ⟨g, o, rfl, hg', fun i x hx j u hu => ?_⟩⟩
      rw [Nat.add_assoc]
      exact hc _ u (flatOf_get hk hx hu)
/-- The element at a place. -/
theorem LsAt.at (h : LsAt k f w v xs) {i : Nat} (hi : i < xs.length) : ∃ b o c x, v = .slice (some ⟨b, o, none⟩) xs.length c ∧ xs.length ≤ c ∧ c ≤ maxLen ∧ xs[i]? = some x ∧ ∀ j u, (f x)[j]? = some u → w.cell? ⟨b, o + i * k + j, none⟩ = some u := by
  obtain ⟨a, c, rfl, h1, h2, h3⟩ := h
  obtain ⟨b, o, rfl, hb, hc⟩ := h3 (by omega)
  exact ⟨b, o, c, _, rfl, h1, h2, List.getElem?_eq_getElem hi, hc i _ (List.getElem?_eq_getElem hi)⟩
theorem LsAt.get {a : Option Addr} {n c : Nat} (h : LsAt k f w (.slice a n c) xs) {i : Nat} (hi : i < n) : ∃ b o x, a = some ⟨b, o, none⟩ ∧ xs[i]? = some x ∧ b < w.heap.size ∧ ∀ j u, (f x)[j]? = some u → w.cell? ⟨b, o + i * k + j, none⟩ = some u := by
  obtain ⟨a', c', hv, h1, h2, h3⟩ := h
  injection hv with e1 e2 e3
  subst e1 e2 e3
  obtain ⟨b, o, rfl, hb, hc⟩ := h3 (by omega)
  exact ⟨b, o, _, rfl, List.getElem?_eq_getElem hi, hb, hc i _ (List.getElem?_eq_getElem hi)⟩
theorem LsAt.n_eq {a : Option Addr} {n c : Nat} (h : LsAt k f w (.slice a n c) xs) : n = xs.length := by
  obtain ⟨a', c', hv, _⟩ := h
  injection hv
/-- A list out of its elements. -/
theorem list_of {p : Nat → α → Prop} (n : Nat) (h : ∀ i, i < n → ∃ x, p i x) : ∃ xs : List α, xs.length = n ∧ ∀ i x, xs[i]? = some x → p i x := by
  induction n with
  | zero => exact ⟨[], rfl, fun i x h => by simp at h⟩
  | succ n ih =>
    obtain ⟨xs, hl, hx⟩ := ih fun i hi => h i (by omega)
    obtain ⟨y, hy⟩ := h n (by omega)
    refine ⟨xs ++ [y], by simp [hl], fun i x hi => ?_⟩
    by_cases e : i < n
    · rw [List.getElem?_append_left (by omega)] at hi
      exact hx i x hi
    · have hlt := (List.getElem?_eq_some_iff.1 hi).1
      simp only [List.length_append, List.length_cons, List.length_nil] at hlt
      obtain rfl : i = n := by omega
      rw [List.getElem?_append_right (by omega), hl, Nat.sub_self] at hi
      simp only [List.getElem?_cons_zero, Option.some.injEq] at hi
      rw [← hi]; exact hy
end
end Go.Proofs.Yteakbhfegbghoaa.Kit
