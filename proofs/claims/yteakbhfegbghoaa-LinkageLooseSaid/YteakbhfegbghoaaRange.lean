/- 'for k, v := range m', whichever order the entries come in: what is still to come. Plain laws over any program. -/
import Derived.Test.YteakbhfegbghoaaAl
import Derived.Maps.RangeRun
namespace Go.Proofs.Yteakbhfegbghoaa.Kit
open Go Go.RowKit Go.ChangeMaps Go.MapKept
set_option linter.unusedSimpArgs false
set_option linter.unusedVariables false
theorem filter_one {α β : Type} [DecidableEq β] (f : α → β) : ∀ {l : List α}, (l.map f).Nodup → ∀ {j : Nat} {e : α}, l[j]? = some e → l.filter (fun x => decide (f x ≠ f e)) = l.eraseIdx j
  | [], _, j, e, h => by simp at h
  | a :: r, hn, j, e, h => by
    rw [List.map_cons, List.nodup_cons] at hn
    cases j with
    | zero =>
      simp only [List.getElem?_cons_zero, Option.some.injEq] at h
      subst h
      rw [List.filter_cons_of_neg (by simp), List.eraseIdx_cons_zero, List.filter_eq_self]
      intro x hx
      simp only [decide_eq_true_eq]
      intro he
      exact hn.1 (List.mem_map.2 ⟨x, hx, he⟩)
    | succ j =>
      simp only [List.getElem?_cons_succ] at h
      have hne : f a ≠ f e := fun he => hn.1 (List.mem_map.2 ⟨e, List.mem_of_getElem? h, he.symm⟩)
      rw [List.filter_cons_of_pos (by simpa using hne), List.eraseIdx_cons_succ, filter_one f hn.2 h]
theorem perm_erase {α : Type} : ∀ {l : List α} {j : Nat} {q : α}, l[j]? = some q → l.Perm (q :: l.eraseIdx j)
  | [], j, q, h => by simp at h
  | a :: r, j, q, h => by
    cases j with
    | zero =>
      simp only [List.getElem?_cons_zero, Option.some.injEq] at h
      subst h
      exact List.Perm.refl _
    | succ j =>
      simp only [List.getElem?_cons_succ] at h
      rw [List.eraseIdx_cons_succ]
      exact ((perm_erase h).cons a).trans (List.Perm.swap q a _)
theorem filter_erase {α : Type} (p : α → Bool) : ∀ {l : List α} {j : Nat} {e : α}, l[j]? = some e → p e = false → (l.eraseIdx j).filter p = l.filter p
  | [], j, e, h, _ => by simp at h
  | a :: r, j, e, h, hp => by
    cases j with
    | zero =>
      simp only [List.getElem?_cons_zero, Option.some.injEq] at h
      subst h
      rw [List.eraseIdx_cons_zero, List.filter_cons_of_neg (by simp [hp])]
    | succ j =>
      simp only [List.getElem?_cons_succ] at h
      rw [List.eraseIdx_cons_succ, List.filter_cons, List.filter_cons, filter_erase p h hp]
section
variable {P : Program} {k e t : TypeId} {κ β : Type} {ek : κ → Value} {ev : β → Value} {w w' : World} {b r : Nat} {L todo : List (κ × β)}
/-- Under way: the map b holds L, the iterator r has 'todo' still to come. -/
def RangeAt (ek : κ → Value) (ev : β → Value) (w : World) (b r : Nat) (L todo : List (κ × β)) : Prop :=
  ∃ (es : Array MapEntry) (clock since : Nat) (seen : Array Nat) (c0 : Nat), w.heap[b]? = some (.map es clock) ∧ Stamped es clock ∧ es.toList.map (fun e => (e.key, e.val)) = (L.map fun p => (ek p.1, ev p.2)) ∧ w.heap[r]? = some (.mapIter (some b) since seen c0) ∧
    (∀ x ∈ es.toList, x.born < since) ∧ since ≤ c0 ∧ since ≤ clock ∧ (es.toList.filter fun e => !seen.contains e.born).map (fun e => (e.key, e.val)) = todo.map fun p => (ek p.1, ev p.2)
theorem RangeAt.of (h : RangeAt ek ev w b r L todo) : MapOf ek ev w b L := by
  obtain ⟨es, clock, since, seen, c0, hb, hs, hl, _⟩ := h
  exact ⟨es, clock, hb, hs, hl⟩
theorem RangeAt.lt (h : RangeAt ek ev w b r L todo) : r < w.heap.size := by
  obtain ⟨es, clock, since, seen, c0, hb, hs, hl, hr, _⟩ := h
  exact (Array.getElem?_eq_some_iff.1 hr).1
theorem RangeAt.ne (h : RangeAt ek ev w b r L todo) : r ≠ b := by
  obtain ⟨es, clock, since, seen, c0, hb, hs, hl, hr, _⟩ := h
  rintro rfl
  rw [hb] at hr
  cases hr
theorem RangeAt.of_blocks (h : RangeAt ek ev w b r L todo) (hb' : w'.heap[b]? = w.heap[b]?) (hr' : w'.heap[r]? = w.heap[r]?) : RangeAt ek ev w' b r L todo := by
  obtain ⟨es, clock, since, seen, c0, hb, hs, hl, hr, rest⟩ := h
  exact ⟨es, clock, since, seen, c0, hb'.trans hb, hs, hl, hr'.trans hr, rest⟩
theorem RangeAt.new_ (h : RangeAt ek ev w b r L todo) (hn : New w w') : RangeAt ek ev w' b r L todo := h.of_blocks (hn.block b h.of.lt) (hn.block r h.lt)
theorem MapOf.range (h : MapOf ek ev w b L) (ht : P.underlying t = some (.map k e)) :
    ∃ o, (Instr.range t (.map (some b))).run P w = .ok (.pointer (some ⟨w.heap.size, 0, none⟩)) (w.alloc o) ∧ RangeAt ek ev (w.alloc o) b w.heap.size L L := by
  have hlt := h.lt
  obtain ⟨es, clock, hb, hs, hl⟩ := h
  refine ⟨_, run_range_map w t k e b es clock ht hb, es, clock, clock, #[], clock, ((heap_alloc w _).2 b hlt).trans hb, hs, hl, (heap_alloc w _).1, hs.1, Nat.le_refl _, Nat.le_refl _, ?_⟩
  rw [List.filter_eq_self.2 (by simp), hl]
theorem RangeAt.next (h : RangeAt ek ev w b r L todo) (ty : TypeId) :
    (todo = [] ∧ (Instr.next (.pointer (some ⟨r, 0, none⟩)) false ty).run P w = .ok (.tuple #[.bool false]) w) ∨
    ∃ (q : κ × β) (todo' : List (κ × β)) (w' : World), todo.Perm (q :: todo') ∧ (Instr.next (.pointer (some ⟨r, 0, none⟩)) false ty).run P w = .ok (.tuple #[.bool true, ek q.1, ev q.2]) w' ∧
      RangeAt ek ev w' b r L todo' ∧ w.grownBy w' (some r) ∧ (Instr.entry (.pointer (some ⟨r, 0, none⟩))).run P w' = .ok (.tuple #[ek q.1, ev q.2]) w' := by
  have hne := h.ne
  obtain ⟨es, clock, since, seen, c0, hb, hs, hl, hr, hold, hsc, hsk, htd⟩ := h
  have hleft : (leftOf es seen).toList = es.toList.filter fun e => !seen.contains e.born := by unfold leftOf; simp
  rcases run_next_at (P := P) w ty r b since c0 seen es clock hr hb hold hsc with ⟨h0, hrun⟩ | ⟨x, hx, w1, hal, hrun⟩
  · refine .inl ⟨?_, hrun⟩
    have : (leftOf es seen).toList = [] := List.eq_nil_of_length_eq_zero (by simpa using h0)
    rw [hleft] at this
    rw [this] at htd
    cases todo with
    | nil => rfl
    | cons a b => cases htd
  · right
    rw [hleft] at hx
    obtain ⟨j, hj⟩ := List.getElem?_of_mem hx
    have hjt := congrArg (fun l => l[j]?) htd
    simp only [List.getElem?_map, hj, Option.map_some] at hjt
    cases hq : todo[j]? with
    | none => rw [hq] at hjt; cases hjt
    | some q =>
      rw [hq] at hjt
      simp only [Option.map_some, Option.some.injEq, Prod.mk.injEq] at hjt
      have hxe : x ∈ es.toList := (List.mem_filter.1 hx).1
      have hw1r : w1.heap[r]? = some (.mapIter (some b) since seen c0) := by rcases hal with rfl | rfl <;> exact hr
      have hw1b : w1.heap[b]? = some (.map es clock) := by rcases hal with rfl | rfl <;> exact hb
      have hbb : (setBlock w1 r (.mapIter (some b) since (seen.push x.born) clock)).heap[b]? = some (.map es clock) := (heap_setBlock_ne _ _ _ hne.symm).trans hw1b
      have hrr : (setBlock w1 r (.mapIter (some b) since (seen.push x.born) clock)).heap[r]? = some (.mapIter (some b) since (seen.push x.born) clock) := by
        have hlt := (Array.getElem?_eq_some_iff.1 hw1r).1
        simp [setBlock, hlt]
      refine ⟨q, todo.eraseIdx j, _, ?_, by rw [← hjt.1, ← hjt.2]; exact hrun, ⟨es, clock, since, seen.push x.born, clock, hbb, hs, hl, hrr, hold, hsk, hsk, ?_⟩, ?_, by rw [← hjt.1, ← hjt.2]; exact run_entry_at _ r b since seen es clock x hrr hbb hxe hs.2.1⟩
      · exact perm_erase hq
      · have hsub : (es.toList.filter fun e => !seen.contains e.born).Sublist es.toList := List.filter_sublist
        have hnd : ((es.toList.filter fun e => !seen.contains e.born).map (·.born)).Nodup := (hsub.map _).nodup hs.2.1
        rw [show (es.toList.filter fun e => !(seen.push x.born).contains e.born) = (es.toList.filter fun e => !seen.contains e.born).filter (fun e => decide (e.born ≠ x.born)) from ?_, filter_one (·.born) hnd hj, Go.ChangeMaps.map_eraseIdx, htd, ← Go.ChangeMaps.map_eraseIdx]
        rw [List.filter_filter]
        apply List.filter_congr
        intro y _
        simp [Array.contains_push, Bool.and_comm]
      · have hg1 : w1.grownBy (setBlock w1 r (.mapIter (some b) since (seen.push x.born) clock)) (some r) := setBlock_grown (P := P) hw1r
        rcases hal with rfl | rfl
        · exact hg1
        · exact ⟨hg1.os, hg1.tape, hg1.output, hg1.size, hg1.block⟩
/-- 'delete(m, x)' of an entry that has come. -/
theorem RangeAt.delete [DecidableEq κ] {ty : TypeId} (h : RangeAt ek ev w b r L todo) (K : Maps.Keyed P k) (ht : P.underlying t = some (.map k e))
    (hk : ∀ p ∈ L, ∃ l, keyOf P k (ek p.1) = some l) (inj : ∀ p ∈ L, ∀ x, ek p.1 = ek x → p.1 = x) {x : κ} {lx : Lit} (hx : keyOf P k (ek x) = some lx) (hno : ∀ p ∈ todo, p.1 ≠ x) (hsub : ∀ p ∈ todo, p ∈ L) :
    ∃ o, (Builtin.delete_ #[t, k] ty #[.map (some b), ek x]).run P w = .ok (.tuple #[]) (setBlock w b o) ∧ RangeAt ek ev (setBlock w b o) b r (del L x) todo := by
  have hne := h.ne
  obtain ⟨o, hrun, hM⟩ := h.of.delete (ty := ty) K ht hk inj hx
  refine ⟨o, hrun, ?_⟩
  obtain ⟨es, clock, since, seen, c0, hb, hs, hl, hr, hold, hsc, hsk, htd⟩ := h
  have hr' : (setBlock w b o).heap[r]? = some (.mapIter (some b) since seen c0) := (heap_setBlock_ne _ _ _ hne).trans hr
  obtain ⟨es2, clock2, hb2, hs2, hl2⟩ := hM
  rcases find_spec (w := w) K hk inj hs hl hx with ⟨h1, h2, h3⟩ | ⟨j, e', p, h1, h2, h3, h4, h5, h6, h7⟩
  · have hrun2 : (Builtin.delete_ #[t, k] ty #[.map (some b), ek x]).run P w = .ok (.tuple #[]) (setBlock w b (.map es clock)) := by
      simp [Builtin.delete_, run_underlying ht, MapKept.run_getObj_map hb, K.check w _ hx, h1, MapKept.run_setObj_map _ hb, Result.andThen, setBlock]
    rw [hrun] at hrun2
    injection hrun2 with _ hw
    rw [hw, heap_setBlock_same hb] at hb2
    cases hb2
    exact ⟨es, clock, since, seen, c0, by rw [hw, heap_setBlock_same hb], hs, hl2, hr', hold, hsc, hsk, htd⟩
  · have hrun2 : (Builtin.delete_ #[t, k] ty #[.map (some b), ek x]).run P w = .ok (.tuple #[]) (setBlock w b (.map (es.eraseIdxIfInBounds j) clock)) := by
      simp [Builtin.delete_, run_underlying ht, MapKept.run_getObj_map hb, K.check w _ hx, h1, MapKept.run_setObj_map _ hb, Result.andThen, setBlock]
    rw [hrun] at hrun2
    injection hrun2 with _ hw
    rw [hw, heap_setBlock_same hb] at hb2
    cases hb2
    have hjs : j < es.size := by simpa using (List.getElem?_eq_some_iff.1 h2).1
    have hsub2 : (es.eraseIdxIfInBounds j).toList = es.toList.eraseIdx j := by
      unfold Array.eraseIdxIfInBounds
      rw [dif_pos hjs]
      simp
    refine ⟨es.eraseIdxIfInBounds j, clock, since, seen, c0, by rw [hw, heap_setBlock_same hb], hs2, hl2, hr', fun y hy => ?_, hsc, hsk, ?_⟩
    · rw [hsub2] at hy
      exact hold y (List.mem_of_mem_eraseIdx hy)
    · rw [hsub2, filter_erase (fun e => !seen.contains e.born) h2 ?_, htd]
      cases hsn : (!seen.contains e'.born) with
      | false => rfl
      | true =>
        have hmem : e' ∈ es.toList.filter fun e => !seen.contains e.born := List.mem_filter.2 ⟨List.mem_of_getElem? h2, hsn⟩
        have h8 : (e'.key, e'.val) ∈ todo.map fun p => (ek p.1, ev p.2) := by rw [← htd]; exact List.mem_map.2 ⟨e', hmem, rfl⟩
        obtain ⟨q, hq, hqe⟩ := List.mem_map.1 h8
        simp only [Prod.mk.injEq] at hqe
        exact absurd (inj q (hsub q hq) x (hqe.1.trans h5)) (hno q hq)
end
end Go.Proofs.Yteakbhfegbghoaa.Kit
