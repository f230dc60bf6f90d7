/- An area beside other memory of the same call. -/
import Derived.Test.YteakbhfegbghoaaAreaLaw
namespace Go.Proofs.Yteakbhfegbghoaa.Area
open Go Go.RowKit Go.Proofs.Yteakbhfegbghoaa.Kit
set_option linter.unusedSimpArgs false
set_option linter.unusedVariables false
/-- An area that has come up since w0; beside it the blocks of T, which have come up since w0 too. -/
def With (w0 w : World) (A N : Nat) (ms : Ms) (T : Nat → Prop) : Prop :=
  ∃ S : Nat → Prop, OwnA w A N S ms ∧ New w0 w ∧ (∀ k, S k → w0.heap.size ≤ k) ∧ ∀ k, T k → ¬ S k ∧ k < w.heap.size ∧ w0.heap.size ≤ k
/-- The blocks of T stand as they stood. -/
def Same (T : Nat → Prop) (w w' : World) : Prop := w.heap.size ≤ w'.heap.size ∧ ∀ k, T k → w'.heap[k]? = w.heap[k]?
section
variable {w0 w w' : World} {A N : Nat} {ms ms' : Ms} {T T' : Nat → Prop}
theorem With.new (h : With w0 w A N ms T) : New w0 w := by obtain ⟨S, h1, h2, h3, h4⟩ := h; exact h2
theorem With.new_ (h : With w0 w A N ms T) (hn : New w w') : With w0 w' A N ms T := by
  obtain ⟨S, h1, h2, h3, h4⟩ := h
  exact ⟨S, h1.new_ hn, h2.step hn, h3, fun k hk => ⟨(h4 k hk).1, Nat.lt_of_lt_of_le (h4 k hk).2.1 hn.size, (h4 k hk).2.2⟩⟩
theorem With.same (h : With w0 w A N ms T) (hn : New w w') : Same T w w' := by
  obtain ⟨S, h1, h2, h3, h4⟩ := h
  exact ⟨hn.size, fun k hk => hn.block k (h4 k hk).2.1⟩
theorem With.less (h : With w0 w A N ms T) (hT : ∀ k, T' k → T k) : With w0 w A N ms T' := by
  obtain ⟨S, h1, h2, h3, h4⟩ := h
  exact ⟨S, h1, h2, h3, fun k hk => h4 k (hT k hk)⟩
theorem With.turn {S : Nat → Prop} (h2 : New w0 w) (h3 : ∀ k, S k → w0.heap.size ≤ k) (h4 : ∀ k, T k → ¬ S k ∧ k < w.heap.size ∧ w0.heap.size ≤ k) (h : Turned w w' A N S ms') : With w0 w' A N ms' T ∧ Same T w w' := by
  obtain ⟨S', q1, q2, q3⟩ := h
  refine ⟨⟨S', q1, h2.kept q2 h3, fun k hk => ?_, fun k hk => ⟨fun hz => ?_, Nat.lt_of_lt_of_le (h4 k hk).2.1 q2.size, (h4 k hk).2.2⟩⟩, q2.size, fun k hk => q2.block k (h4 k hk).2.1 (h4 k hk).1⟩
  · rcases q3 k hk with h | h
    · exact h3 k h
    · exact Nat.le_trans h2.size h
  · rcases q3 k hz with h | h
    · exact (h4 k hk).1 h
    · have := (h4 k hk).2.1; omega
/-- The call has written its own blocks alone, and laid new ones. -/
theorem With.kept (h : With w0 w A N ms T) (hk : Keeps T w w') (hT : ∀ k, T' k → (T k ∨ w.heap.size ≤ k) ∧ k < w'.heap.size) : With w0 w' A N ms T' := by
  obtain ⟨S, h1, h2, h3, h4⟩ := h
  refine ⟨S, h1.keeps hk (fun k hs ht => (h4 k ht).1 hs), h2.kept hk (fun k hk => (h4 k hk).2.2), h3, fun k hk' => ?_⟩
  rcases (hT k hk').1 with h | h
  · exact ⟨(h4 k h).1, (hT k hk').2, (h4 k h).2.2⟩
  · exact ⟨fun hs => absurd (h1.lt hs) (by omega), (hT k hk').2, Nat.le_trans h2.size h⟩
theorem takeW (w : World) (h : With w0 w A N ms T) (hN : N ≤ 100000) (n : Int) :
    Calls Try.prog 33 #[.pointer (some ⟨A, 0, none⟩), .int .i64 n] w fun e w' => e = .returned (.tuple #[.int .i64 (takeB N ms n), .int .i64 (takeE N ms n)]) ∧ With w0 w' A N (takeM N ms n) T ∧ Same T w w' := by
  obtain ⟨S, h1, h2, h3, h4⟩ := h
  exact (takeA w A N S ms h1 hN n).mono fun e w' h => ⟨h.1, With.turn h2 h3 h4 h.2⟩
theorem giveW (w : World) (h : With w0 w A N ms T) (hN : N ≤ 100000) (b : Int) :
    Calls Try.prog 36 #[.pointer (some ⟨A, 0, none⟩), .int .i64 b] w fun e w' => e = .returned (.bool (findM ms b).isSome) ∧ With w0 w' A N (giveM ms b) T ∧ Same T w w' := by
  obtain ⟨S, h1, h2, h3, h4⟩ := h
  exact (giveA w A N S ms h1 hN b).mono fun e w' h => ⟨h.1, With.turn h2 h3 h4 h.2⟩
theorem usedW (w : World) (h : With w0 w A N ms T) (hN : N ≤ 100000) :
    Calls Try.prog 37 #[.pointer (some ⟨A, 0, none⟩)] w fun e w' => e = .returned (.int .i64 (usedM ms : Int)) ∧ New w w' := by
  obtain ⟨S, h1, h2, h3, h4⟩ := h
  exact usedA w A N S ms h1 hN
theorem readWt (w : World) (h : With w0 w A N ms T) (hN : N ≤ 100000) (b off : Int) :
    Calls Try.prog 42 #[.pointer (some ⟨A, 0, none⟩), .int .i64 b, .int .i64 off] w fun e w' => e = .returned (.tuple #[.int .u64 (readWM ms b off), .int .i64 (readEM ms b off)]) ∧ New w w' := by
  obtain ⟨S, h1, h2, h3, h4⟩ := h
  exact readA w A N S ms h1 hN b off
theorem writeWt (w : World) (h : With w0 w A N ms T) (hN : N ≤ 100000) (b off x : Int) :
    Calls Try.prog 45 #[.pointer (some ⟨A, 0, none⟩), .int .i64 b, .int .i64 off, .int .u64 x] w fun e w' => e = .returned (.int .i64 (readEM ms b off)) ∧ With w0 w' A N (writeM ms b off (cutW x)) T ∧ Same T w w' := by
  obtain ⟨S, h1, h2, h3, h4⟩ := h
  exact (writeA w A N S ms h1 hN b off x).mono fun e w' h => ⟨h.1, With.turn h2 h3 h4 ⟨S, h.2.1, h.2.2, fun _ h => .inl h⟩⟩
theorem newW (n : Int) (w : World) :
    Calls Try.prog 30 #[.int .i64 n] w fun e w' => e = .returned (.pointer (some ⟨w.heap.size, 0, none⟩)) ∧ With w w' w.heap.size n.toNat [] (fun _ => False) :=
  (newA n w).mono fun e w' h => ⟨h.1, _, h.2.1, h.2.2, fun k hk => by rw [hk]; exact Nat.le_refl _, fun k hk => hk.elim⟩
end
end Go.Proofs.Yteakbhfegbghoaa.Area
