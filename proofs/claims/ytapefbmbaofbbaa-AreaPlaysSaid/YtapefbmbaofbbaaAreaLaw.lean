/- The law's example (awake); two areas side by side; AreaKnown. -/
import Derived.Test.YtapefbmbaofbbaaAreaA
namespace Go.Proofs.Ytapefbmbaofbbaa.Law
open Go Go.RowKit Go.ChangeShapes Go.WideShapes Go.Proofs.Ytapefbmbaofbbaa.Kit Go.Proofs.Ytapefbmbaofbbaa.Area
set_option linter.unusedSimpArgs false
set_option linter.unusedVariables false
abbrev tk (N : Nat) (ms : Ms) (n : Int) (b e : Int) (ms' : Ms) : Prop := takeB N ms n = b ∧ takeE N ms n = e ∧ takeM N ms n = ms'
theorem takeT {w0 : World} {A N : Nat} {ms ms' : Ms} {n b e : Int} (h : tk N ms n b e ms') (w : World) (hs : Since w0 w A N ms) (hN : N ≤ 100000) :
    Calls Try.prog 9 #[.pointer (some ⟨A, 0, none⟩), .int .i64 n] w fun x w' => x = .returned (.tuple #[.int .i64 b, .int .i64 e]) ∧ Since w0 w' A N ms' := by
  rw [← h.1, ← h.2.1, ← h.2.2]
  exact takeS w hs hN n
theorem giveT {w0 : World} {A N : Nat} {ms ms' : Ms} {b : Int} {ok : Bool} (h : (findM ms b).isSome = ok ∧ giveM ms b = ms') (w : World) (hs : Since w0 w A N ms) (hN : N ≤ 100000) :
    Calls Try.prog 10 #[.pointer (some ⟨A, 0, none⟩), .int .i64 b] w fun x w' => x = .returned (.bool ok) ∧ Since w0 w' A N ms' := by
  rw [← h.1, ← h.2]
  exact giveS w hs hN b
theorem usedT {w0 : World} {A N n : Nat} {ms : Ms} (h : usedM ms = n) (w : World) (hs : Since w0 w A N ms) (hN : N ≤ 100000) :
    Calls Try.prog 12 #[.pointer (some ⟨A, 0, none⟩)] w fun x w' => x = .returned (.int .i64 (n : Int)) ∧ New w w' := by
  rw [← h]
  exact usedS w hs hN
theorem awake_any (w : World) : Calls Try.prog 7 #[] w fun e w' => e = .returned (.bool true) ∧ New w w' := by
  go_enter Try.func7, Try.ntmps7
  go_wp2_with fail
  refine (newS 10 w).mono ?_
  rintro e w1 ⟨rfl, s1⟩
  generalize w.heap.size = A at *
  go_wp2_with fail
  refine (takeT (b := 0) (e := 0) (ms' := [(0, [0, 0, 0])]) (by decide) w1 s1 (by decide)).mono ?_
  rintro e w2 ⟨rfl, s2⟩
  clear s1
  go_wp2_with fail
  refine (takeT (b := 3) (e := 0) (ms' := [(0, [0, 0, 0]), (3, [0, 0])]) (by decide) w2 s2 (by decide)).mono ?_
  rintro e w3 ⟨rfl, s3⟩
  clear s2
  go_wp2_with fail
  refine (giveT (ok := true) (ms' := [(3, [0, 0])]) (by decide) w3 s3 (by decide)).mono ?_
  rintro e w4 ⟨rfl, s4⟩
  clear s3
  go_wp2_with fail
  refine (takeT (b := 0) (e := 0) (ms' := [(0, [0, 0]), (3, [0, 0])]) (by decide) w4 s4 (by decide)).mono ?_
  rintro e w5 ⟨rfl, s5⟩
  clear s4
  have HS := hid s5
  have hq := usedT (n := 4) (by decide) w5 s5 (by decide)
  clear s5
  go_wp2_with fail
  refine hq.mono ?_
  rintro e w6 ⟨rfl, n6⟩
  go_wp2
  go_ret
  exact ⟨rfl, HS.out.new.step n6⟩
end Go.Proofs.Ytapefbmbaofbbaa.Law
