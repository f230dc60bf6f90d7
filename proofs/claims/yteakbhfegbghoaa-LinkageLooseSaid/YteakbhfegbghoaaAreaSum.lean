/- Areas: rooms do not overlap; the rooms as bases and sizes, in any order. Plain laws. -/
import Derived.Test.YteakbhfegbghoaaAreaWith
namespace Go.Proofs.Yteakbhfegbghoaa.Area
open Go Go.RowKit Go.Proofs.Yteakbhfegbghoaa.Kit
set_option linter.unusedSimpArgs false
set_option linter.unusedVariables false
abbrev Rm := Nat × List Int
def Dj (r s : Rm) : Prop := r.1 + r.2.length ≤ s.1 ∨ s.1 + s.2.length ≤ r.1
theorem Dj.symm {r s : Rm} (h : Dj r s) : Dj s r := h.elim .inr .inl
/-- Rooms apart from each other, none empty, none past the end. -/
def Good (N : Nat) (ms : Ms) : Prop := ms.Pairwise Dj ∧ ∀ r ∈ ms, 0 < r.2.length ∧ r.1 + r.2.length ≤ N
theorem Ord.behind {N : Nat} {rs : List Room} (h : Ord N rs) {i j : Nat} {x y : Room} (hij : i < j) (hx : rs[i]? = some x) (hy : rs[j]? = some y) : x.1 + x.2.2.length ≤ y.1 := by
  have hlt : i + 1 < rs.length := by have := (List.getElem?_eq_some_iff.1 hy).1; omega
  have hg := List.getElem?_eq_getElem hlt
  have h1 := (h _ _ hg).1
  rw [endOf_succ hx] at h1
  by_cases e : j = i + 1
  · subst e; rw [hy] at hg; rw [← Option.some.inj hg] at h1; exact h1
  · have := h.asc.lt (j - i - 2) (i + 1) _ y hg (by rw [show i + 1 + (j - i - 2) + 1 = j by omega]; exact hy)
    omega
theorem Ord.good {N : Nat} {rs : List Room} (h : Ord N rs) : Good N (ab rs) := by
  constructor
  · rw [List.pairwise_iff_getElem]
    intro i j hi hj hij
    have hi' : i < rs.length := by simpa [ab] using hi
    have hj' : j < rs.length := by simpa [ab] using hj
    have := h.behind hij (List.getElem?_eq_getElem hi') (List.getElem?_eq_getElem hj')
    left
    simpa [ab] using this
  · intro r hr
    obtain ⟨x, hx, rfl⟩ := List.mem_map.1 hr
    obtain ⟨i, hi⟩ := List.getElem?_of_mem hx
    exact (h i x hi).2
theorem OwnA.good {w : World} {A N : Nat} {S : Nat → Prop} {ms : Ms} (h : OwnA w A N S ms) : Good N ms := by
  obtain ⟨rs, ⟨lv, har, _⟩, rfl⟩ := h
  exact har.2.2.2.2.good
theorem With.good {w0 w : World} {A N : Nat} {T : Nat → Prop} {ms : Ms} (h : With w0 w A N ms T) : Good N ms := by
  obtain ⟨S, h1, _⟩ := h
  exact h1.good
/-- A room that is taken stands with the others. -/
theorem takeM_perm {N : Nat} {ms : Ms} {n : Int} (h : takeE N ms n = 0) : (takeM N ms n).Perm ((((fitG n 0 ms).2, List.replicate n.toNat 0) : Rm) :: ms) := by
  unfold takeM
  rw [if_pos h]
  refine List.perm_middle.trans ?_
  rw [List.take_append_drop]
theorem Good.perm {N : Nat} {ms ms' : Ms} (h : Good N ms) (hp : ms.Perm ms') : Good N ms' :=
  ⟨(hp.pairwise_iff (fun h => Dj.symm h)).1 h.1, fun r hr => h.2 r (hp.mem_iff.2 hr)⟩
theorem Good.base {N : Nat} {ms : Ms} (h : Good N ms) : (ms.map (·.1)).Nodup := by
  unfold List.Nodup
  rw [List.pairwise_map]
  refine (List.Pairwise.and_mem.1 h.1).imp fun {a b} hab => ?_
  obtain ⟨ha, hb, hd⟩ := hab
  have := h.2 a ha
  have := h.2 b hb
  intro e
  rcases hd with hd | hd <;> omega
def shape (r : Rm) : Nat × Nat := (r.1, r.2.length)
/-- The rooms as bases and sizes, in some order. -/
def Lists (ms : Ms) (P : List (Nat × Nat)) : Prop := P.Perm (ms.map shape)
theorem Lists.nil : Lists [] [] := List.Perm.refl _
theorem Lists.len {ms : Ms} {P : List (Nat × Nat)} (h : Lists ms P) : P.length = ms.length := by rw [h.length_eq, List.length_map]
theorem Lists.take {N : Nat} {ms : Ms} {P : List (Nat × Nat)} {n : Nat} (h : Lists ms P) (he : takeE N ms (n : Int) = 0) : Lists (takeM N ms (n : Int)) (P ++ [((fitG (n : Int) 0 ms).2, n)]) := by
  unfold Lists
  refine List.Perm.trans ?_ ((takeM_perm he).map shape).symm
  rw [List.map_cons]
  refine (List.perm_append_singleton _ _).trans ?_
  have : shape ((fitG (n : Int) 0 ms).2, List.replicate (n : Int).toNat 0) = ((fitG (n : Int) 0 ms).2, n) := by simp [shape]
  rw [this]
  exact List.Perm.cons _ h
theorem Lists.base {N : Nat} {ms : Ms} {P : List (Nat × Nat)} (h : Lists ms P) (hg : Good N ms) : (P.map (·.1)).Nodup := by
  rw [(h.map _).nodup_iff, List.map_map]
  exact hg.base
theorem Lists.at {ms : Ms} {P : List (Nat × Nat)} (h : Lists ms P) {j : Nat} {p : Nat × Nat} (hp : P[j]? = some p) : ∃ r ∈ ms, r.1 = p.1 ∧ r.2.length = p.2 := by
  obtain ⟨r, hr, e⟩ := List.mem_map.1 (h.mem_iff.1 (List.mem_of_getElem? hp))
  exact ⟨r, hr, by rw [← e]; exact ⟨rfl, rfl⟩⟩
theorem find_mem {N : Nat} {ms : Ms} (hg : Good N ms) {r : Rm} (hr : r ∈ ms) : findM ms (r.1 : Int) = some r := by
  have : ∃ s, findM ms (r.1 : Int) = some s := by
    rw [← Option.isSome_iff_exists]
    unfold findM
    rw [List.find?_isSome]
    exact ⟨r, hr, by simp⟩
  obtain ⟨s, hs⟩ := this
  have h1 := List.find?_some hs
  have h2 := List.mem_of_find?_eq_some hs
  have e : s.1 = r.1 := by simp only [beq_iff_eq] at h1; omega
  obtain ⟨i, hi⟩ := List.getElem?_of_mem hr
  obtain ⟨j, hj⟩ := List.getElem?_of_mem h2
  have hn := hg.base
  have q1 : (ms.map (·.1))[i]? = some r.1 := by rw [List.getElem?_map, hi]; rfl
  have q2 : (ms.map (·.1))[j]? = some s.1 := by rw [List.getElem?_map, hj]; rfl
  rcases Nat.lt_trichotomy i j with h | h | h
  · exact absurd (by rw [q1, q2, e]) (nodup_ne hn h (List.getElem?_eq_some_iff.1 q2).1)
  · subst h; rw [hi] at hj; rw [hs, Option.some.inj hj]
  · exact absurd (by rw [q1, q2, e]) (nodup_ne hn h (List.getElem?_eq_some_iff.1 q1).1)
theorem Lists.found {N : Nat} {ms : Ms} {P : List (Nat × Nat)} (h : Lists ms P) (hg : Good N ms) {j : Nat} {p : Nat × Nat} (hp : P[j]? = some p) : (findM ms (p.1 : Int)).isSome = true ∧ sizeM ms (p.1 : Int) = p.2 := by
  obtain ⟨r, hr, h1, h2⟩ := h.at hp
  rw [← h1]
  have := find_mem hg hr
  unfold sizeM
  rw [this]
  exact ⟨rfl, h2⟩
theorem filter_at {P : List (Nat × Nat)} (hn : (P.map (·.1)).Nodup) {j : Nat} {p : Nat × Nat} (hp : P[j]? = some p) : P.filter (fun q => !((q.1 : Int) == (p.1 : Int))) = P.take j ++ P.drop (j + 1) := by
  have hj := (List.getElem?_eq_some_iff.1 hp).1
  have hspl : P = P.take j ++ p :: P.drop (j + 1) := by
    have e : P[j] = p := (List.getElem?_eq_some_iff.1 hp).2
    rw [← e, List.getElem_cons_drop, List.take_append_drop]
  have hne : ∀ i q, P[i]? = some q → i ≠ j → ((q.1 : Int) == (p.1 : Int)) = false := fun i q hq hij => by
    rw [beq_eq_false_iff_ne]
    intro e
    have q1 : (P.map (·.1))[i]? = some q.1 := by rw [List.getElem?_map, hq]; rfl
    have q2 : (P.map (·.1))[j]? = some p.1 := by rw [List.getElem?_map, hp]; rfl
    have e' : q.1 = p.1 := by omega
    rcases Nat.lt_or_gt_of_ne hij with h | h
    · exact nodup_ne hn h (List.getElem?_eq_some_iff.1 q2).1 (by rw [q1, q2, e'])
    · exact nodup_ne hn h (List.getElem?_eq_some_iff.1 q1).1 (by rw [q1, q2, e'])
  have h1 : ∀ x ∈ P.take j, ((x.1 : Int) == (p.1 : Int)) = false := fun x hx => by
    obtain ⟨q, hq⟩ := List.getElem?_of_mem hx
    have hql := (List.getElem?_eq_some_iff.1 hq).1
    rw [List.length_take] at hql
    rw [List.getElem?_take_of_lt (by omega)] at hq
    exact hne q x hq (by omega)
  have h2 : ∀ x ∈ P.drop (j + 1), ((x.1 : Int) == (p.1 : Int)) = false := fun x hx => by
    obtain ⟨q, hq⟩ := List.getElem?_of_mem hx
    rw [List.getElem?_drop] at hq
    exact hne _ x hq (by omega)
  have h3 : ((p.1 : Int) == (p.1 : Int)) = true := by simp
  have e : P.filter (fun q => !((q.1 : Int) == (p.1 : Int))) = (P.take j ++ p :: P.drop (j + 1)).filter (fun q => !((q.1 : Int) == (p.1 : Int))) := by rw [← hspl]
  rw [e, List.filter_append, List.filter_cons, h3, Bool.not_true, if_neg (by decide), List.filter_eq_self.2 (fun x hx => by rw [h1 x hx]; rfl), List.filter_eq_self.2 (fun x hx => by rw [h2 x hx]; rfl)]
theorem Lists.give {N : Nat} {ms : Ms} {P : List (Nat × Nat)} (h : Lists ms P) (hg : Good N ms) {j : Nat} {p : Nat × Nat} (hp : P[j]? = some p) : Lists (giveM ms (p.1 : Int)) (P.take j ++ P.drop (j + 1)) := by
  rw [← filter_at (h.base hg) hp]
  unfold Lists
  have := h.filter (fun q => !((q.1 : Int) == (p.1 : Int)))
  rw [List.filter_map] at this
  exact this
/-- Whether a word belongs to a room. -/
def Cov (ms : Ms) (x : Nat) : Prop := ∃ r ∈ ms, r.1 ≤ x ∧ x < r.1 + r.2.length
theorem Cov.take {N : Nat} {ms : Ms} {n x : Nat} (he : takeE N ms (n : Int) = 0) : Cov (takeM N ms (n : Int)) x ↔ Cov ms x ∨ ((fitG (n : Int) 0 ms).2 ≤ x ∧ x < (fitG (n : Int) 0 ms).2 + n) := by
  unfold Cov
  have hm : ∀ r, r ∈ takeM N ms (n : Int) ↔ r = (((fitG (n : Int) 0 ms).2, List.replicate (n : Int).toNat 0) : Rm) ∨ r ∈ ms := fun r => by
    rw [(takeM_perm he).mem_iff, List.mem_cons]
  constructor
  · rintro ⟨r, hr, h1, h2⟩
    rcases (hm r).1 hr with rfl | hr
    · right
      simp at h1 h2
      exact ⟨h1, h2⟩
    · exact .inl ⟨r, hr, h1, h2⟩
  · rintro (⟨r, hr, h1, h2⟩ | ⟨h1, h2⟩)
    · exact ⟨r, (hm r).2 (.inr hr), h1, h2⟩
    · exact ⟨_, (hm _).2 (.inl rfl), h1, by simpa using h2⟩
theorem take_free {N : Nat} {ms : Ms} {n x : Nat} (he : takeE N ms (n : Int) = 0) (hg : Good N (takeM N ms (n : Int))) (hx : x < n) : ¬ Cov ms ((fitG (n : Int) 0 ms).2 + x) ∧ (fitG (n : Int) 0 ms).2 + n ≤ N := by
  have hg2 := hg.perm (takeM_perm he)
  constructor
  · rintro ⟨r, hr, h1, h2⟩
    have := (List.pairwise_cons.1 hg2.1).1 r hr
    rcases this with h | h
    · simp at h; omega
    · simp only at h; omega
  · have := (hg2.2 _ (List.mem_cons_self ..)).2
    simpa using this
theorem Cov.give {N : Nat} {ms : Ms} {P : List (Nat × Nat)} (h : Lists ms P) (hg : Good N ms) {j : Nat} {p : Nat × Nat} (hp : P[j]? = some p) (x : Nat) : Cov (giveM ms (p.1 : Int)) x ↔ Cov ms x ∧ ¬ (p.1 ≤ x ∧ x < p.1 + p.2) := by
  obtain ⟨r, hr, e1, e2⟩ := h.at hp
  have hdj : ∀ s ∈ ms, s.1 ≠ r.1 → Dj s r := fun s hs hne => by
    obtain ⟨i, hi⟩ := List.getElem?_of_mem hs
    obtain ⟨k, hk⟩ := List.getElem?_of_mem hr
    have hpw := List.pairwise_iff_getElem.1 hg.1
    obtain ⟨hi1, hi2⟩ := List.getElem?_eq_some_iff.1 hi
    obtain ⟨hk1, hk2⟩ := List.getElem?_eq_some_iff.1 hk
    rcases Nat.lt_trichotomy i k with hlt | hlt | hlt
    · have := hpw i k hi1 hk1 hlt; rw [hi2, hk2] at this; exact this
    · subst hlt; rw [hi] at hk; exact absurd (congrArg Prod.fst (Option.some.inj hk)) hne
    · have := hpw k i hk1 hi1 hlt; rw [hi2, hk2] at this; exact this.symm
  unfold Cov giveM
  constructor
  · rintro ⟨s, hs, h1, h2⟩
    obtain ⟨hs1, hs2⟩ := List.mem_filter.1 hs
    have hne : s.1 ≠ r.1 := by simp at hs2; omega
    refine ⟨⟨s, hs1, h1, h2⟩, fun h3 => ?_⟩
    rcases hdj s hs1 hne with h | h <;> omega
  · rintro ⟨⟨s, hs, h1, h2⟩, h3⟩
    refine ⟨s, List.mem_filter.2 ⟨hs, ?_⟩, h1, h2⟩
    have hne : s.1 ≠ p.1 := by
      intro e
      have h5 : findM ms (s.1 : Int) = some s := find_mem hg hs
      have h6 : findM ms (r.1 : Int) = some r := find_mem hg hr
      rw [e, ← e1, h6] at h5
      have h7 : r = s := Option.some.inj h5
      rw [← h7] at h1 h2
      exact h3 ⟨by omega, by omega⟩
    simp only [Bool.not_eq_true', beq_eq_false_iff_ne]
    omega
end Go.Proofs.Yteakbhfegbghoaa.Area
