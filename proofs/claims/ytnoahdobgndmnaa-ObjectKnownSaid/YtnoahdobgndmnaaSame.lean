/- concentricref1.SameWords of two equal slices. -/
import Derived.Test.YtnoahdobgndmnaaProg
import Derived.Test.YtnoahdobgndmnaaKit
import Derived.Test.YtnoahdobgndmnaaSl
namespace Go.Proofs.Ytnoahdobgndmnaa.Same
open Go Go.RowKit Go.Proofs.Ytnoahdobgndmnaa.Kit
set_option linter.unusedSimpArgs false
set_option linter.unusedVariables false
/-- The words behind a slice's value. -/
def WordsAt (w : World) (v : Value) (ws : List Int) : Prop :=
  ∃ a c, v = .slice a ws.length c ∧ (0 < ws.length → ∃ b o, a = some ⟨b, o, none⟩ ∧ ∀ i, i < ws.length → w.cell? ⟨b, o + i, none⟩ = some (.int .u64 (ws.getD i 0)))
theorem WordsAt.of_sl {w : World} {base : Nat} {e : TypeId} {v : Value} {ws : List Int} (h : Sl w base e 1 v ws.length (ws.map (Value.int .u64))) : WordsAt w v ws := by
  rcases Nat.eq_zero_or_pos ws.length with h0 | h0
  · rcases h.2 with ⟨rfl, e⟩ | ⟨g, o, cap, cur, rfl, _⟩
    · exact ⟨none, 0, by rw [h0], fun h => absurd h (by omega)⟩
    · exact ⟨_, _, rfl, fun h => absurd h (by omega)⟩
  · obtain ⟨g, o, cap, rfl, _, _, _, hc, _⟩ := h.form h0
    refine ⟨_, _, rfl, fun _ => ⟨g, o, rfl, fun i hi => ?_⟩⟩
    refine hc i _ ?_
    simp [hi]
theorem WordsAt.drewN {w : World} {v : Value} {ws : List Int} (h : WordsAt w v ws) (k : Nat) : WordsAt (w.drewN k) v ws := h
set_option maxRecDepth 100000 in
set_option maxHeartbeats 4000000 in
theorem same_true (w : World) (v1 v2 : Value) (ws : List Int) (h1 : WordsAt w v1 ws) (h2 : WordsAt w v2 ws) (hl : ws.length ≤ 1000000) :
    Calls Try.prog 15 #[v1, v2] w fun e w' => e = .returned (.bool true) ∧ ∃ k, w' = w.drewN k := by
  obtain ⟨a1, c1, rfl, h1⟩ := h1
  obtain ⟨a2, c2, rfl, h2⟩ := h2
  have H1 := hid h1
  have H2 := hid h2
  clear h1 h2
  go_enter Try.func15, Try.ntmps15
  go_wp2_with fail
  go_loopw [5] (fun i wr => ∃ j k : Nat, j ≤ ws.length ∧ i = .int .i64 (j : Int) ∧ wr = w.drewN k) (fun i _ => ws.length - (intOf i).toNat)
  case atStart => exact ⟨0, 0, Nat.zero_le _, rfl, rfl⟩
  case round =>
    obtain ⟨j, k, hj, rfl, rfl⟩ := hrel
    have w1 : IntKind.i64.wrap ((j : Int) + 1) = j + 1 := by rw [IntKind.wrap_i64]; omega
    by_cases hjl : j < ws.length
    · obtain ⟨b1, o1, rfl, h1⟩ := H1.out (by omega)
      obtain ⟨b2, o2, rfl, h2⟩ := H2.out (by omega)
      have e1 := h1 j hjl
      have e2 := h2 j hjl
      generalize ws.getD j 0 = x at e1 e2
      have i0 : (0 : Int) ≤ (j : Int) := by omega
      have i1 : (j : Int) < ws.length := by omega
      clear h1 h2
      go_wp2_with fail
      go_quiet (fail)
      go_wp2_with fail
      go_roundw
      case rel => exact ⟨j + 1, _, by omega, by go_num, rfl⟩
      case measure => simp [intOf]; omega
    · go_wp2_with fail
      go_ret
      exact ⟨rfl, _, rfl⟩
theorem list_eq_getD {xs ys : List Int} (hl : xs.length = ys.length) (h : ∀ i, i < xs.length → xs.getD i 0 = ys.getD i 0) : xs = ys := by
  apply List.ext_getElem hl
  intro i h1 h2
  have := h i h1
  rw [List.getD_eq_getElem?_getD, List.getD_eq_getElem?_getD, List.getElem?_eq_getElem h1, List.getElem?_eq_getElem h2] at this
  exact this
set_option maxRecDepth 100000 in
set_option maxHeartbeats 4000000 in
theorem same_any (w : World) (v1 v2 : Value) (xs ys : List Int) (h1 : WordsAt w v1 xs) (h2 : WordsAt w v2 ys) (hl : xs.length ≤ 1000000) (hm : ys.length ≤ 1000000) :
    Calls Try.prog 15 #[v1, v2] w fun e w' => e = .returned (.bool (decide (xs = ys))) ∧ ∃ k, w' = w.drewN k := by
  by_cases he : xs = ys
  · subst he
    rw [decide_eq_true rfl]
    exact same_true w v1 v2 xs h1 h2 hl
  rw [decide_eq_false he]
  obtain ⟨a1, c1, rfl, h1⟩ := h1
  obtain ⟨a2, c2, rfl, h2⟩ := h2
  by_cases hlen : xs.length = ys.length
  · have H1 := hid h1
    have H2 := hid h2
    have HE := hid he
    have HL := hid hlen
    clear h1 h2 he
    rw [← hlen]
    clear hlen
    go_enter Try.func15, Try.ntmps15
    go_wp2_with fail
    go_loopw [5] (fun i wr => ∃ j k : Nat, j ≤ xs.length ∧ i = .int .i64 (j : Int) ∧ (∀ i, i < j → xs.getD i 0 = ys.getD i 0) ∧ wr = w.drewN k) (fun i _ => xs.length - (intOf i).toNat)
    case atStart => exact ⟨0, 0, Nat.zero_le _, rfl, fun i h => absurd h (by omega), rfl⟩
    case round =>
      obtain ⟨j, k, hj, rfl, hall, rfl⟩ := hrel
      have w1 : IntKind.i64.wrap ((j : Int) + 1) = j + 1 := by rw [IntKind.wrap_i64]; omega
      by_cases hjl : j < xs.length
      · obtain ⟨b1, o1, rfl, h1⟩ := H1.out (by omega)
        obtain ⟨b2, o2, rfl, h2⟩ := H2.out (by have := HL.out; omega)
        have e1 := h1 j hjl
        have e2 := h2 j (by have := HL.out; omega)
        have HA := hid hall
        clear hall
        by_cases hxy : xs.getD j 0 = ys.getD j 0
        · have HX := hid hxy
          rw [← hxy] at e2
          clear hxy
          have HX' := hid HX.out
          generalize xs.getD j 0 = x at e1 e2
          have i0 : (0 : Int) ≤ (j : Int) := by omega
          have i1 : (j : Int) < xs.length := by omega
          clear h1 h2
          go_wp2_with fail
          go_quiet (fail)
          go_wp2_with fail
          go_roundw
          case rel =>
            refine ⟨j + 1, _, by omega, by go_num, fun i hi => ?_, rfl⟩
            by_cases e : i = j
            · rw [e]; exact HX'.out
            · exact HA.out i (by omega)
          case measure => simp [intOf]; omega
        · generalize xs.getD j 0 = x at e1 hxy
          generalize ys.getD j 0 = y at e2 hxy
          have i0 : (0 : Int) ≤ (j : Int) := by omega
          have i1 : (j : Int) < xs.length := by omega
          clear h1 h2
          go_wp2_with fail
          go_quiet (fail)
          go_wp2_with fail
          go_ret
          exact ⟨rfl, k + nq, by simp⟩
      · exact absurd (list_eq_getD HL.out fun i hi => hall i (by omega)) HE.out
  · have hne : ¬ (xs.length : Int) = ys.length := by omega
    clear he hlen h1 h2
    go_enter Try.func15, Try.ntmps15
    go_wp2_with fail
    go_ret
    exact ⟨rfl, 0, rfl⟩
end Go.Proofs.Ytnoahdobgndmnaa.Same
