/- Areas: the rooms in order, what the heap holds of them. Plain laws. -/
import Derived.Test.YteakbhfegbghoaaAreaD
namespace Go.Proofs.Yteakbhfegbghoaa.Area
open Go Go.RowKit Go.Proofs.Yteakbhfegbghoaa.Kit
set_option linter.unusedSimpArgs false
set_option linter.unusedVariables false
/-- The end of the room ahead of place k. -/
def endOf (rs : List Room) : Nat → Nat
  | 0 => 0
  | k + 1 => match rs[k]? with | some r => r.1 + r.2.2.length | none => 0
theorem endOf_succ {rs : List Room} {k : Nat} {r : Room} (h : rs[k]? = some r) : endOf rs (k + 1) = r.1 + r.2.2.length := by simp [endOf, h]
/-- Rooms in order, none over another, none past the end, none empty. -/
def Ord (N : Nat) (rs : List Room) : Prop := ∀ (i : Nat) (r : Room), rs[i]? = some r → endOf rs i ≤ r.1 ∧ 0 < r.2.2.length ∧ r.1 + r.2.2.length ≤ N
theorem Ord.asc {N : Nat} {rs : List Room} (h : Ord N rs) : Asc rs := by
  intro i t s hi ht hs
  obtain ⟨j, rfl⟩ : ∃ j, i = j + 1 := ⟨i - 1, by omega⟩
  rw [Nat.add_sub_cancel] at hs
  have := (h _ _ ht).1
  rw [endOf_succ hs] at this
  have := (h _ _ hs).2.1
  omega
theorem Ord.ge {N : Nat} {rs : List Room} (h : Ord N rs) : ∀ i, i ≤ rs.length → i ≤ endOf rs i
  | 0, _ => Nat.zero_le _
  | i + 1, hi => by
    have hg := List.getElem?_eq_getElem (show i < rs.length by omega)
    have := h.ge i (by omega)
    have h2 := h _ _ hg
    rw [endOf_succ hg]
    omega
theorem Ord.end_le {N : Nat} {rs : List Room} (h : Ord N rs) : ∀ i, endOf rs i ≤ N
  | 0 => Nat.zero_le _
  | i + 1 => by
    cases hr : rs[i]? with
    | none => simp [endOf, hr]
    | some r => rw [endOf_succ hr]; exact (h _ _ hr).2.2
theorem Ord.len {N : Nat} {rs : List Room} (h : Ord N rs) : rs.length ≤ N := Nat.le_trans (h.ge _ (Nat.le_refl _)) (h.end_le _)
/-- The first place where n words fit. -/
def Fit (rs : List Room) (n : Int) (k : Nat) : Prop :=
  k ≤ rs.length ∧ (∀ (j : Nat) (r : Room), j < k → rs[j]? = some r → (r.1 : Int) - endOf rs j < n) ∧ (∀ r : Room, rs[k]? = some r → n ≤ (r.1 : Int) - endOf rs k)
theorem endOf_take {rs xs : List Room} {k i : Nat} (hi : i ≤ k) (hk : k ≤ rs.length) : endOf (rs.take k ++ xs) i = endOf rs i := by
  cases i with
  | zero => rfl
  | succ i =>
    simp only [endOf]
    rw [List.getElem?_append_left (by rw [List.length_take]; omega), List.getElem?_take_of_lt (by omega)]
theorem Ord.ins {N : Nat} {rs : List Room} {n : Int} {k : Nat} (h : Ord N rs) (hf : Fit rs n k) (x : Room) (hx : x.1 = endOf rs k) (hn : (x.2.2.length : Int) = n) (h1 : 0 < x.2.2.length) (hN : x.1 + x.2.2.length ≤ N) : Ord N (rs.take k ++ x :: rs.drop k) := by
  intro i r hr
  have hk := hf.1
  have htl : (rs.take k).length = k := by rw [List.length_take]; omega
  by_cases h1' : i < k
  · rw [List.getElem?_append_left (by omega), List.getElem?_take_of_lt h1'] at hr
    rw [endOf_take (by omega) hk]
    exact h _ _ hr
  · rw [List.getElem?_append_right (by omega), htl] at hr
    by_cases h2 : i = k
    · subst h2
      rw [Nat.sub_self, List.getElem?_cons_zero] at hr
      cases hr
      rw [endOf_take (Nat.le_refl _) hk]
      exact ⟨by omega, h1, hN⟩
    · obtain ⟨d, rfl⟩ : ∃ d, i = k + 1 + d := ⟨i - k - 1, by omega⟩
      rw [show k + 1 + d - k = d + 1 by omega, List.getElem?_cons_succ, List.getElem?_drop] at hr
      have hr' := h _ _ hr
      refine ⟨?_, hr'.2⟩
      cases d with
      | zero =>
        have e : (rs.take k ++ x :: rs.drop k)[k]? = some x := by rw [List.getElem?_append_right (by omega), htl, Nat.sub_self]; rfl
        rw [Nat.add_zero, endOf_succ e]
        have := hf.2.2 r hr
        omega
      | succ d =>
        have hg := List.getElem?_eq_getElem (show k + d < rs.length by have := (List.getElem?_eq_some_iff.1 hr).1; omega)
        have e : (rs.take k ++ x :: rs.drop k)[k + 1 + d]? = some (rs[k + d]'(by have := (List.getElem?_eq_some_iff.1 hr).1; omega)) := by
          rw [List.getElem?_append_right (by omega), htl, show k + 1 + d - k = d + 1 by omega, List.getElem?_cons_succ, List.getElem?_drop]
          exact hg
        rw [show k + 1 + (d + 1) = (k + 1 + d) + 1 by omega, endOf_succ e]
        have := hr'.1
        rw [show k + (d + 1) = (k + d) + 1 by omega, endOf_succ hg] at this
        exact this
theorem Ord.del {N : Nat} {rs : List Room} {k : Nat} (h : Ord N rs) (hk : k < rs.length) : Ord N (rs.take k ++ rs.drop (k + 1)) := by
  intro i r hr
  have htl : (rs.take k).length = k := by rw [List.length_take]; omega
  by_cases h1' : i < k
  · rw [List.getElem?_append_left (by omega), List.getElem?_take_of_lt h1'] at hr
    rw [endOf_take (by omega) (by omega)]
    exact h _ _ hr
  · rw [List.getElem?_append_right (by omega), htl, List.getElem?_drop] at hr
    obtain ⟨d, rfl⟩ : ∃ d, i = k + d := ⟨i - k, by omega⟩
    rw [show k + 1 + (k + d - k) = k + d + 1 by omega] at hr
    have hr' := h _ _ hr
    refine ⟨?_, hr'.2⟩
    cases d with
    | zero =>
      show endOf (rs.take k ++ rs.drop (k + 1)) k ≤ r.1
      rw [endOf_take (Nat.le_refl _) (by omega)]
      have hg := List.getElem?_eq_getElem hk
      have := hr'.1
      rw [Nat.add_zero, endOf_succ hg] at this
      have h2 := h _ _ hg
      omega
    | succ d =>
      have hlt : k + (d + 1) < rs.length := by have := (List.getElem?_eq_some_iff.1 hr).1; omega
      have hg := List.getElem?_eq_getElem hlt
      have e : (rs.take k ++ rs.drop (k + 1))[k + d]? = some (rs[k + (d + 1)]'hlt) := by
        rw [List.getElem?_append_right (by omega), htl, List.getElem?_drop, show k + 1 + (k + d - k) = k + (d + 1) by omega]
        exact hg
      rw [show k + (d + 1) = (k + d) + 1 by omega, endOf_succ e]
      have := hr'.1
      rw [endOf_succ hg] at this
      exact this
theorem Ord.set {N : Nat} {rs : List Room} {k : Nat} {x y : Room} (h : Ord N rs) (hx : rs[k]? = some x) (hb : y.1 = x.1) (hl : y.2.2.length = x.2.2.length) : Ord N (rs.set k y) := by
  have hk := (List.getElem?_eq_some_iff.1 hx).1
  have he : ∀ i, endOf (rs.set k y) i = endOf rs i := by
    intro i
    cases i with
    | zero => rfl
    | succ i =>
      simp only [endOf]
      rw [List.getElem?_set]
      by_cases e : k = i
      · subst e; rw [if_pos rfl, if_pos hk, hx]; simp only; rw [hb, hl]
      · rw [if_neg e]
  intro i r hr
  rw [he]
  rw [List.getElem?_set] at hr
  by_cases e : k = i
  · subst e
    rw [if_pos rfl, if_pos hk] at hr
    cases hr
    have := h _ _ hx
    omega
  · rw [if_neg e] at hr
    exact h _ _ hr
def wrow (l : List Int) : Array Value := (l.map (Value.int .u64)).toArray
/-- What the heap holds of an area. -/
def Ar (w : World) (A N : Nat) (lv : Value) (rs : List Room) : Prop :=
  Blk w A 124 #[.int .i64 (N : Int), lv] ∧ Sl w 0 126 2 lv rs.length (flatOf rc rs) ∧ (∀ r ∈ rs, Blk w r.2.1 52 (wrow r.2.2)) ∧ (rs.map (fun r => r.2.1)).Nodup ∧ Ord N rs
def Foot (A : Nat) (lv : Value) (rs : List Room) (k : Nat) : Prop := k = A ∨ lv.ownBlock = some k ∨ ∃ r ∈ rs, r.2.1 = k
/-- An area of N words at block A, with these rooms, all of whose memory are the blocks of S. -/
def Own (w : World) (A N : Nat) (S : Nat → Prop) (rs : List Room) : Prop := ∃ lv, Ar w A N lv rs ∧ ∀ k, S k ↔ Foot A lv rs k
theorem Ar.lt {w : World} {A N : Nat} {lv : Value} {rs : List Room} (h : Ar w A N lv rs) {k : Nat} (hk : Foot A lv rs k) : k < w.heap.size := by
  rcases hk with rfl | hk | ⟨r, hr, rfl⟩
  · exact h.1.lt
  · exact (h.2.1.lt k hk).2
  · exact (h.2.2.1 r hr).lt
theorem Own.lt {w : World} {A N : Nat} {S : Nat → Prop} {rs : List Room} (h : Own w A N S rs) {k : Nat} (hk : S k) : k < w.heap.size := by
  obtain ⟨lv, h1, h2⟩ := h
  exact h1.lt ((h2 k).1 hk)
theorem Ar.keeps {w w' : World} {A N : Nat} {lv : Value} {rs : List Room} (h : Ar w A N lv rs) {F : Nat → Prop} (hk : Keeps F w w') (hF : ∀ k, Foot A lv rs k → ¬ F k) : Ar w' A N lv rs :=
  ⟨h.1.keeps hk (hF A (.inl rfl)), h.2.1.keeps hk (fun g hg => hF g (.inr (.inl hg))), fun r hr => (h.2.2.1 r hr).keeps hk (hF _ (.inr (.inr ⟨r, hr, rfl⟩))), h.2.2.2⟩
theorem Own.keeps {w w' : World} {A N : Nat} {S : Nat → Prop} {rs : List Room} (h : Own w A N S rs) {F : Nat → Prop} (hk : Keeps F w w') (hF : ∀ k, S k → ¬ F k) : Own w' A N S rs := by
  obtain ⟨lv, h1, h2⟩ := h
  exact ⟨lv, h1.keeps hk fun k hf => hF k ((h2 k).2 hf), h2⟩
theorem Own.new_ {w w' : World} {A N : Nat} {S : Nat → Prop} {rs : List Room} (h : Own w A N S rs) (hk : New w w') : Own w' A N S rs :=
  h.keeps (F := fun _ => False) (hk.keeps _) fun _ _ h => h
/-- The blocks of an area are apart: its own, its list's, its rooms'. -/
theorem Ar.apart {w : World} {A N : Nat} {lv : Value} {rs : List Room} (h : Ar w A N lv rs) : lv.ownBlock ≠ some A ∧ ∀ r ∈ rs, r.2.1 ≠ A ∧ lv.ownBlock ≠ some r.2.1 := by
  have hl : ∀ g, lv.ownBlock = some g → ∃ arr, Blk w g 126 arr := fun g hg => (h.2.1.blk hg).2
  refine ⟨fun e => ?_, fun r hr => ⟨fun e => ?_, fun e => ?_⟩⟩
  · obtain ⟨arr, hb⟩ := hl _ e
    exact absurd (hb.inj h.1) (by decide)
  · have := h.2.2.1 r hr
    rw [e] at this
    exact absurd (this.inj h.1) (by decide)
  · obtain ⟨arr, hb⟩ := hl _ e
    exact absurd (hb.inj (h.2.2.1 r hr)) (by decide)
end Go.Proofs.Yteakbhfegbghoaa.Area
