/- Package refer as the laws use it; the document's example. -/
import Derived.Test.YtakhidieomalhaaReferO
namespace Go.Proofs.Ytakhidieomalhaa.Refer
open Go Go.RowKit Go.ChangeMaps Go.Proofs.Ytakhidieomalhaa.Kit Go.Proofs.Ytakhidieomalhaa.Str Go.Proofs.Ytakhidieomalhaa.Names
set_option linter.unusedSimpArgs false
set_option linter.unusedVariables false
/-- Come up since w0. -/
def Rf (w0 w : World) (A b : Nat) (L : List (Key × Int)) : Prop := At w A b L ∧ New w0 w ∧ w0.heap.size ≤ b
section
variable {w0 w w' : World} {A b : Nat} {L : List (Key × Int)}
theorem Rf.new_ (h : Rf w0 w A b L) (hn : New w w') : Rf w0 w' A b L := ⟨h.1.new_ hn, h.2.1.step hn, h.2.2⟩
theorem Rf.turn {L' : List (Key × Int)} (h : Rf w0 w A b L) (ha : At w' A b L') (hk : Keeps (fun i => i = b) w w') : Rf w0 w' A b L' := ⟨ha, h.2.1.kept hk (fun i hi => by rw [hi]; exact h.2.2), h.2.2⟩
theorem newR (h : New w0 w) : Calls Try.prog 8 #[] w fun e w' => e = .returned (.pointer (some ⟨w.heap.size + 1, 0, none⟩)) ∧ Rf w0 w' (w.heap.size + 1) w.heap.size [] ∧ New w w' :=
  (new_any w).mono fun e w' h' => ⟨h'.1, ⟨h'.2.1, h.step h'.2.2, h.size⟩, h'.2.2⟩
theorem bindR (h : Rf w0 w A b L) (r : Int) (s : List UInt8) (n : Int) (hk : okK (r, s)) {x : Int} {L' : List (Key × Int)} (hx : bindE L r s n = x) (hL : bindL L r s n = L') :
    Calls Try.prog 9 #[.pointer (some ⟨A, 0, none⟩), .int .i64 r, st s, .int .i64 n] w fun e w' => e = .returned (.int .i64 x) ∧ Rf w0 w' A b L' ∧ Keeps (fun i => i = b) w w' :=
  (bind_any h.1 r s n hk).mono fun e w' h' => ⟨by rw [h'.1, hx], by rw [← hL]; exact h.turn h'.2.1 h'.2.2, h'.2.2⟩
theorem dropR (h : Rf w0 w A b L) (r : Int) (s : List UInt8) (hk : okK (r, s)) {x z : Int} {L' : List (Key × Int)} (hx : findV L (r, s) = x) (hz : (if (get? L (r, s)).isSome then (0 : Int) else 4) = z) (hL : del L (r, s) = L') :
    Calls Try.prog 13 #[.pointer (some ⟨A, 0, none⟩), .int .i64 r, st s] w fun e w' => e = .returned (.tuple #[.int .i64 x, .int .i64 z]) ∧ Rf w0 w' A b L' ∧ Keeps (fun i => i = b) w w' :=
  (drop_any h.1 r s hk).mono fun e w' h' => ⟨by rw [h'.1, hx, hz], by rw [← hL]; exact h.turn h'.2.1 h'.2.2, h'.2.2⟩
theorem findR (h : Rf w0 w A b L) (r : Int) (s : List UInt8) (hk : okK (r, s)) {x : Int} {z : Bool} (hx : findV L (r, s) = x) (hz : (get? L (r, s)).isSome = z) :
    Calls Try.prog 14 #[.pointer (some ⟨A, 0, none⟩), .int .i64 r, st s] w fun e w' => e = .returned (.tuple #[.int .i64 x, .bool z]) ∧ w' = w :=
  (find_any h.1 r s hk).mono fun e w' h' => ⟨by rw [h'.1, hx, hz], h'.2⟩
theorem lenR (h : Rf w0 w A b L) {n : Nat} (hn : L.length = n) :
    Calls Try.prog 12 #[.pointer (some ⟨A, 0, none⟩)] w fun e w' => e = .returned (.int .i64 (n : Int)) ∧ w' = w :=
  (len_any h.1).mono fun e w' h' => ⟨by rw [h'.1, hn], h'.2⟩
theorem forgetR (h : Rf w0 w A b L) (n : Int) (hLl : L.length < 4611686018427387904) {x : Int} {L' : List (Key × Int)} (hL : (L.filter fun p => decide (p.2 ≠ n)) = L') (hx : (L.length : Int) - (L'.length : Int) = x) :
    Calls Try.prog 15 #[.pointer (some ⟨A, 0, none⟩), .int .i64 n] w fun e w' => e = .returned (.int .i64 x) ∧ Rf w0 w' A b L' ∧ Keeps (fun i => i = b) w w' := by
  subst hL
  exact (forget_any h.1 n hLl).mono fun e w' h' => ⟨by rw [h'.1, hx], h.turn h'.2.1 h'.2.2, h'.2.2⟩
theorem ofR (h : Rf w0 w A b L) (r n : Int) (hLl : L.length ≤ 1000000) {S : List (List UInt8)} (hS : sortS (namesOf L r n) = S) :
    Calls Try.prog 11 #[.pointer (some ⟨A, 0, none⟩), .int .i64 r, .int .i64 n] w fun e w' => ∃ v, e = .returned v ∧ Sl w' w.heap.size 9 1 v S.length (S.map st) ∧ New w w' := by
  subst hS
  exact (of_any h.1 r n hLl).mono fun e w' h' => by
    obtain ⟨v, e1, h2, h3⟩ := h'
    exact ⟨v, e1, by rw [(sortS_self _).length_eq]; exact h2, h3⟩
end
theorem ok_small {r : Int} {s : List UInt8} (h0 : -9223372036854775808 ≤ r) (h1 : r ≤ 9223372036854775807) (hs : s.length ≤ 1000) : okK (r, s) := by
  refine ⟨?_, ?_⟩
  · have e1 : IntKind.i64.min = -9223372036854775808 := rfl
    have e2 : IntKind.i64.max = 9223372036854775807 := rfl
    simp [Lit.wf, e1, e2]; omega
  · show s.length ≤ maxLen
    unfold maxLen; omega
theorem awake_any (w : World) : Calls Try.prog 7 #[] w fun e w' => e = .returned (.bool true) ∧ New w w' := by
  have hk : okK (4, [97]) := ok_small (by decide) (by decide) (by decide)
  go_enter Try.func7, Try.ntmps7
  go_wp2_with fail
  refine (newR (New.refl w)).mono ?_
  rintro e w1 ⟨rfl, h1, _⟩
  have H1 := hid h1
  clear h1
  go_wp2_with fail
  refine (bindR H1.out 4 [97] 1 hk (x := 0) (L' := [((4, [97]), 1)]) (by decide) (by decide)).mono ?_
  rintro e w2 ⟨rfl, h2, _⟩
  have H2 := hid h2
  clear h2
  go_wp2_with fail
  refine (bindR H2.out 4 [97] 2 hk (x := 5) (L' := [((4, [97]), 1)]) (by decide) (by decide)).mono ?_
  rintro e w3 ⟨rfl, h3, _⟩
  have H3 := hid h3
  clear h3
  go_wp2_with fail
  refine (findR H3.out 4 [97] hk (x := 1) (z := true) (by decide) (by decide)).mono ?_
  rintro e w4 ⟨rfl, rfl⟩
  go_wp2_with fail
  refine (lenR H3.out (n := 1) rfl).mono ?_
  rintro e w4 ⟨rfl, rfl⟩
  go_wp2
  go_ret
  exact ⟨rfl, H3.out.2.1⟩
end Go.Proofs.Ytakhidieomalhaa.Refer
