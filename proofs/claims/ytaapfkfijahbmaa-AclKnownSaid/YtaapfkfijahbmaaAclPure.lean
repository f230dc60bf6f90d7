/- Plain laws of acl: what a list says behind a Set. No program is walked here. -/
import Derived.Test.YtaapfkfijahbmaaAclLaw
namespace Go.Proofs.Ytaapfkfijahbmaa.Acl
open Go Go.RowKit Go.Proofs.Ytaapfkfijahbmaa.Kit Go.Proofs.Ytaapfkfijahbmaa.Str Go.Proofs.Ytaapfkfijahbmaa.Term
set_option linter.unusedSimpArgs false
set_option linter.unusedVariables false
theorem setE_zero {l : List Tm} {t : Tm} (h : setE l t = 0) : MayP l ∧ userB t.1 = true ∧ (hasB l t.1 = true ∨ l.length < 16) := by
  unfold setE at h
  by_cases h1 : mayL l = true
  · rw [if_pos h1] at h
    by_cases h2 : userB t.1 = true
    · rw [if_pos h2] at h
      by_cases h3 : hasB l t.1 = true ∨ l.length < 16
      · exact ⟨mayL_iff.1 h1, h2, h3⟩
      · rw [if_neg h3] at h; cases h
    · rw [if_neg h2] at h; cases h
  · rw [if_neg h1] at h; cases h
/-- A list in order, as the order of all pairs. -/
def Srt (l : List Tm) : Prop := l.Pairwise fun a b => ltB a.1 b.1 = true
theorem Asc.srt {l : List Tm} (h : Asc l) : Srt l := by
  unfold Srt
  rw [List.pairwise_iff_getElem]
  intro i j hi hj hij
  exact h.lt (j - i - 1) i _ _ (List.getElem?_eq_getElem hi) (by rw [show i + (j - i - 1) + 1 = j by omega]; exact List.getElem?_eq_getElem hj)
theorem Srt.asc {l : List Tm} (h : Srt l) : Asc l := by
  intro i t s h0 ht hs
  unfold Srt at h
  rw [List.pairwise_iff_getElem] at h
  obtain ⟨hi, rfl⟩ := List.getElem?_eq_some_iff.1 ht
  obtain ⟨hj, rfl⟩ := List.getElem?_eq_some_iff.1 hs
  exact h (i - 1) i hj hi (by omega)
theorem MayP.of {l : List Tm} (h1 : l.length ≤ 16) (h2 : ∀ x ∈ l, userB x.1 = true) (h3 : Srt l) : MayP l :=
  ⟨h1, fun i t ht => ⟨h2 t (List.mem_of_getElem? ht), fun s h0 hs => h3.asc i t s h0 ht hs⟩⟩
theorem MayP.users {l : List Tm} (h : MayP l) : ∀ x ∈ l, userB x.1 = true := by
  intro x hx
  obtain ⟨i, hi⟩ := List.getElem?_of_mem hx
  exact (h.2 i x hi).1
theorem MayP.srt {l : List Tm} (h : MayP l) : Srt l := (MayP.asc h).srt
theorem Srt.inj {l : List Tm} (h : Srt l) {a b : Tm} (ha : a ∈ l) (hb : b ∈ l) (e : a.1 = b.1) : a = b := by
  induction l with
  | nil => cases ha
  | cons y l ih =>
    unfold Srt at h
    rw [List.pairwise_cons] at h
    rcases List.mem_cons.1 ha with rfl | ha' <;> rcases List.mem_cons.1 hb with rfl | hb'
    · rfl
    · exact absurd e (ltB_ne (h.1 b hb'))
    · exact absurd e.symm (ltB_ne (h.1 a ha'))
    · exact ih h.2 ha' hb'
theorem mem_setL {l : List Tm} {t x : Tm} : x ∈ setL l t ↔ x = t ∨ (x ∈ l ∧ x.1 ≠ t.1) := by
  unfold setL
  simp only [List.mem_append, List.mem_cons, List.mem_filter]
  constructor
  · rintro (⟨h1, h2⟩ | rfl | ⟨h1, h2⟩)
    · exact .inr ⟨h1, ltB_ne h2⟩
    · exact .inl rfl
    · exact .inr ⟨h1, fun e => ltB_ne h2 e.symm⟩
  · rintro (rfl | ⟨h1, h2⟩)
    · exact .inr (.inl rfl)
    · cases h : ltB x.1 t.1 with
      | true => exact .inl ⟨h1, rfl⟩
      | false => exact .inr (.inr ⟨h1, ltB_total h2 h⟩)
theorem srt_setL {l : List Tm} {t : Tm} (h : Srt l) : Srt (setL l t) := by
  unfold Srt setL at *
  rw [List.pairwise_append]
  refine ⟨h.filter _, ?_, ?_⟩
  · rw [List.pairwise_cons]
    refine ⟨fun x hx => (List.mem_filter.1 hx).2, h.filter _⟩
  · intro a ha b hb
    have h1 := (List.mem_filter.1 ha).2
    rcases List.mem_cons.1 hb with rfl | hb
    · exact h1
    · exact ltB_trans h1 (List.mem_filter.1 hb).2
theorem len_setL {l : List Tm} {t : Tm} (h : Srt l) : (hasB l t.1 = true → (setL l t).length = l.length) ∧ (hasB l t.1 = false → (setL l t).length = l.length + 1) := by
  induction l with
  | nil => exact ⟨fun h => by simp [hasB] at h, fun _ => rfl⟩
  | cons y l ih =>
    have h' := h
    unfold Srt at h'
    rw [List.pairwise_cons] at h'
    obtain ⟨ih1, ih2⟩ := ih h'.2
    have hh : hasB (y :: l) t.1 = ((y.1 == t.1) || hasB l t.1) := by unfold hasB; rw [List.any_cons]
    unfold setL at ih1 ih2 ⊢
    simp only [List.filter_cons, List.length_append, List.length_cons] at ih1 ih2 ⊢
    by_cases e : y.1 = t.1
    · have e1 : ltB y.1 t.1 = false := by rw [e]; exact ltB_irrefl _
      have e2 : ltB t.1 y.1 = false := by rw [e]; exact ltB_irrefl _
      have e3 : l.filter (fun x => ltB x.1 t.1) = [] := by
        rw [List.filter_eq_nil_iff]
        intro x hx
        have := ltB_asymm (h'.1 x hx)
        rw [e] at this
        rw [this]; decide
      have e4 : l.filter (fun x => ltB t.1 x.1) = l := by
        rw [List.filter_eq_self]
        intro x hx
        have := h'.1 x hx
        rw [e] at this
        exact this
      rw [e1, e2, e3, e4, hh, beq_iff_eq.2 e]
      exact ⟨fun _ => by simp, fun h => by simp at h⟩
    · rw [hh, beq_eq_false_iff_ne.2 e, Bool.false_or]
      cases h1 : ltB y.1 t.1 with
      | true =>
        rw [ltB_asymm h1]
        simp only [if_true, Bool.false_eq_true, if_false, List.length_cons]
        exact ⟨fun h => by have := ih1 h; omega, fun h => by have := ih2 h; omega⟩
      | false =>
        rw [ltB_total e h1]
        simp only [if_true, Bool.false_eq_true, if_false, List.length_cons]
        exact ⟨fun h => by have := ih1 h; omega, fun h => by have := ih2 h; omega⟩
theorem may_setL {l : List Tm} {t : Tm} (h : MayP l) (hu : userB t.1 = true) (hs : hasB l t.1 = true ∨ l.length < 16) : MayP (setL l t) := by
  refine MayP.of ?_ ?_ (srt_setL (MayP.srt h))
  · obtain ⟨h1, h2⟩ := len_setL (t := t) (MayP.srt h)
    have := h.1
    cases hb : hasB l t.1 with
    | true => rw [h1 hb]; exact this
    | false =>
      rw [h2 hb]
      rcases hs with h3 | h3
      · rw [hb] at h3; cases h3
      · omega
  · intro x hx
    rcases mem_setL.1 hx with rfl | ⟨h1, _⟩
    · exact hu
    · exact MayP.users h x h1
theorem look_iff {l : List Tm} (h : Srt l) {u : List UInt8} {f : Fl} : look l u = some f ↔ (u, f) ∈ l := by
  unfold look
  constructor
  · intro e
    obtain ⟨x, hx, rfl⟩ := Option.map_eq_some_iff.1 e
    have h1 := List.mem_of_find?_eq_some hx
    have h2 := List.find?_some hx
    simp only [beq_iff_eq] at h2
    rw [← h2]
    exact h1
  · intro hm
    cases e : l.find? (fun x => x.1 == u) with
    | none =>
      rw [List.find?_eq_none] at e
      have := e _ hm
      simp at this
    | some x =>
      have h1 := List.mem_of_find?_eq_some e
      have h2 := List.find?_some e
      simp only [beq_iff_eq] at h2
      have := h.inj h1 hm (by rw [h2])
      rw [this]; rfl
theorem look_same {l m : List Tm} (hl : Srt l) (hm : Srt m) {u : List UInt8} (h : ∀ f, (u, f) ∈ l ↔ (u, f) ∈ m) : look l u = look m u := by
  cases e : look m u with
  | none =>
    cases e2 : look l u with
    | none => rfl
    | some f =>
      have := (look_iff hm).2 ((h f).1 ((look_iff hl).1 e2))
      rw [e] at this; cases this
  | some f => exact (look_iff hl).2 ((h f).2 ((look_iff hm).1 e))
theorem look_set_self {l : List Tm} {t : Tm} (h : Srt l) : look (setL l t) t.1 = some t.2 := (look_iff (srt_setL h)).2 (mem_setL.2 (.inl rfl))
theorem look_set_other {l : List Tm} {t : Tm} (h : Srt l) {u : List UInt8} (hu : u ≠ t.1) : look (setL l t) u = look l u := by
  refine look_same (srt_setL h) h fun f => ?_
  rw [mem_setL]
  constructor
  · rintro (e | ⟨h1, _⟩)
    · exact absurd (congrArg Prod.fst e) hu
    · exact h1
  · exact fun h1 => .inr ⟨h1, hu⟩
theorem has_look {l : List Tm} {u : List UInt8} : hasB l u = (look l u).isSome := by
  unfold hasB look
  rw [Option.isSome_map, List.isSome_find?]
theorem findF_may {l : List Tm} {u : List UInt8} (h : MayP l) : findF l u = ((look l u).orElse fun _ => look l [42]).getD zf := by unfold findF; rw [if_pos (mayL_iff.2 h)]
theorem Srt.ext : ∀ {l m : List Tm}, Srt l → Srt m → (∀ x, x ∈ l ↔ x ∈ m) → l = m
  | [], [], _, _, _ => rfl
  | [], y :: m, _, _, h => absurd ((h y).2 List.mem_cons_self) (by simp)
  | x :: l, [], _, _, h => absurd ((h x).1 List.mem_cons_self) (by simp)
  | x :: l, y :: m, hl, hm, h => by
    unfold Srt at hl hm
    rw [List.pairwise_cons] at hl hm
    have hxy : x = y := by
      rcases List.mem_cons.1 ((h x).1 List.mem_cons_self) with e | h1
      · exact e
      · rcases List.mem_cons.1 ((h y).2 List.mem_cons_self) with e | h2
        · exact e.symm
        · have := ltB_asymm (hm.1 x h1)
          rw [hl.1 y h2] at this; cases this
    subst hxy
    congr 1
    refine Srt.ext hl.2 hm.2 fun z => ⟨fun hz => ?_, fun hz => ?_⟩
    · rcases List.mem_cons.1 ((h z).1 (List.mem_cons_of_mem _ hz)) with e | h1
      · have := hl.1 z hz
        rw [e, ltB_irrefl] at this; cases this
      · exact h1
    · rcases List.mem_cons.1 ((h z).2 (List.mem_cons_of_mem _ hz)) with e | h1
      · have := hm.1 z hz
        rw [e, ltB_irrefl] at this; cases this
      · exact h1
theorem mem_dropL {l : List Tm} {u : List UInt8} {x : Tm} : x ∈ dropL l u ↔ x ∈ l ∧ x.1 ≠ u := by
  unfold dropL
  rw [List.mem_filter]
  simp
theorem srt_dropL {l : List Tm} {u : List UInt8} (h : Srt l) : Srt (dropL l u) := List.Pairwise.filter _ h
theorem may_dropL {l : List Tm} {u : List UInt8} (h : MayP l) : MayP (dropL l u) :=
  MayP.of (by have := h.1; have := drop_le l u; omega) (fun x hx => MayP.users h x (mem_dropL.1 hx).1) (srt_dropL (MayP.srt h))
theorem drop_setL {l : List Tm} {t : Tm} (h : Srt l) : dropL (setL l t) t.1 = dropL l t.1 := by
  refine (srt_dropL (srt_setL h)).ext (srt_dropL h) fun x => ?_
  rw [mem_dropL, mem_dropL, mem_setL]
  constructor
  · rintro ⟨rfl | ⟨h1, _⟩, h2⟩
    · exact absurd rfl h2
    · exact ⟨h1, h2⟩
  · rintro ⟨h1, h2⟩
    exact ⟨.inr ⟨h1, h2⟩, h2⟩
theorem has_setL {l : List Tm} {t : Tm} : hasB (setL l t) t.1 = true := by
  unfold hasB
  rw [List.any_eq_true]
  exact ⟨t, mem_setL.2 (.inl rfl), by simp⟩
theorem has_dropL {l : List Tm} {u : List UInt8} : hasB (dropL l u) u = false := by
  unfold hasB
  rw [List.any_eq_false]
  intro x hx
  have := (mem_dropL.1 hx).2
  simpa using this
theorem dropE_yes {l : List Tm} {u : List UInt8} (h : MayP l) (hh : hasB l u = true) : dropE l u = 0 := by unfold dropE; rw [if_pos (mayL_iff.2 h), if_pos hh]
theorem dropE_none {l : List Tm} {u : List UInt8} (h : MayP l) (hh : hasB l u = false) : dropE l u = 4 := by unfold dropE; rw [if_pos (mayL_iff.2 h), hh]; rfl
theorem dropE_arg {l : List Tm} {u : List UInt8} (h : ¬ MayP l) : dropE l u = 1 := by unfold dropE; rw [mayL_no.2 h]; rfl
end Go.Proofs.Ytaapfkfijahbmaa.Acl
