/- The walk of FramesFill. -/
import Derived.Test.YtfgfhaknecolpaaFramesAwake
import Derived.Test.YtfgfhaknecolpaaWd
namespace Go.Proofs.Ytfgfhaknecolpaa.Law
open Go Go.RowKit Go.ChangeShapes Go.WideShapes Go.Proofs.Ytfgfhaknecolpaa.Kit Go.Proofs.Ytfgfhaknecolpaa.Wd Go.Proofs.Ytfgfhaknecolpaa.Frames Go.Proofs.Ytfgfhaknecolpaa.Point
set_option linter.unusedSimpArgs false
set_option linter.unusedVariables false
def nth (r i : Nat) : Fr := (fr i r 0 (i * 7)).put 3 i
def stk (r j : Nat) : List Fr := (List.range j).map (nth r)
theorem stk_succ (r j : Nat) : stk r (j + 1) = stk r j ++ [nth r j] := by unfold stk; rw [List.range_succ, List.map_append]; rfl
theorem stk_len (r j : Nat) : (stk r j).length = j := by unfold stk; rw [List.length_map, List.length_range]
theorem upd_upd (S : Nat → List Fr) (r : Nat) (L M : List Fr) : upd (upd S r L) r M = upd S r M := by
  funext k
  show (if k = r then M else if k = r then L else S k) = (if k = r then M else S k)
  split <;> rfl
theorem upd_at (S : Nat → List Fr) (r : Nat) (L : List Fr) : upd S r L r = L := if_pos rfl
theorem upd_nothing (r : Nat) : upd nothing r [] = nothing := by
  funext k
  show (if k = r then [] else []) = ([] : List Fr)
  split <;> rfl
set_option maxRecDepth 100000 in
set_option maxHeartbeats 4000000 in
theorem framesFill_walk (x y : Int) (hx0 : 0 ≤ x) (hx1 : x < 256) (hy0 : 0 ≤ y) (hy1 : y < 256) (W : World) :
    Calls Try.prog 4 #[.int .u8 x, .int .u8 y] W fun e w' => e = .returned (.bool true) ∧ New W w' := by
  have he := fun (a b c d a' b' c' d' : Int) w => neq_pt a b c d a' b' c' d' w
  obtain ⟨r, hr⟩ : ∃ r : Nat, x % 8 = r := ⟨(x % 8).toNat, by omega⟩
  obtain ⟨n, hn⟩ : ∃ n : Nat, y % 20 = n := ⟨(y % 20).toNat, by omega⟩
  have hr8 : r < 8 := by omega
  have hn20 : n < 20 := by omega
  have hrt := hid hr
  have hnt := hid hn
  clear hn
  go_enter Try.func4, Try.ntmps4
  go_wp2_with fail
  refine (awake_any W).mono ?_
  rintro e w0 ⟨rfl, n0⟩
  go_wp2_with fail
  refine (new_any w0).mono ?_
  rintro e w1 ⟨rfl, n1, a1⟩
  have a1 := a1 W.heap.size n0.size
  have n1 := n0.step n1
  have hb : ∀ {X : World} i, FT X W.heap.size i → W.heap.size ≤ i := fun i h => h.1
  go_wp2_with fail
  go_loopw [9] (fun i wr => ∃ j : Nat, j ≤ n ∧ i = .int .i64 (j : Int) ∧ At wr W.heap.size w0.heap.size (upd nothing r (stk r (min j 16))) ∧ New W wr) (fun i _ => n - (intOf i).toNat)
  case atStart => exact ⟨0, Nat.zero_le _, rfl, by rw [show stk r (min 0 16) = [] from rfl, upd_nothing]; exact a1, n1⟩
  case round =>
    clear a1 n1
    obtain ⟨j, hj, rfl, hat, hnr⟩ := hrel
    have w1' : IntKind.i64.wrap ((j : Int) + 1) = j + 1 := by rw [IntKind.wrap_i64]; omega
    have w2' : IntKind.i64.wrap ((j : Int) * 7) = j * 7 := by rw [IntKind.wrap_i64]; omega
    have w3' : IntKind.u64.wrap (j : Int) = j := by rw [IntKind.wrap_u64]; omega
    by_cases hjl : j < n
    · by_cases h16 : j < 16
      · rw [Nat.min_eq_left (by omega)] at hat
        have q := fun X (h : New wr X) => push_yes X _ _ _ (hat.new_ h) (hnr.step h).size r hr8 (j : Int) (r : Int) 0 ((j : Int) * 7) (mayB_iff.2 (by omega)) (by rw [upd_at, stk_len]; exact h16)
        rw [upd_at, upd_upd] at q
        have Q := hid q
        have hjn : (j : Int) < y % 20 := by rw [hnt.out]; omega
        have h16' : (j : Int) < 16 := by omega
        clear q
        go_wp2_with fail
        refine (Q.out _ (by (repeat (first | exact New.refl _ | (refine New.step ?_ (by assumption)) | apply New.alloc | apply New.drewN | apply New.drew)))).mono ?_
        rintro e w3 ⟨rfl, a3, k3⟩
        have y3 := hnr.kept k3 hb
        have q4 := write_yes w3 _ _ _ a3 r hr8 (stk r j) (fr j r 0 (j * 7)) (upd_at _ _ _) 3 (by decide) (j : Int)
        rw [upd_upd, and_mask (by omega) (by omega), show (j : Int) % 68719476736 = j by omega, show (fr j r 0 (j * 7)).put 3 (j : Int) = nth r j from rfl, ← stk_succ r j] at q4
        have Q4 := hid q4
        clear q4
        go_wp2_with fail
        refine Q4.out.mono ?_
        rintro e w4 ⟨rfl, a4, k4⟩
        go_wp2_with fail
        refine ⟨⟨j + 1, by omega, by go_num, by rw [Nat.min_eq_left (by omega)]; exact a4, y3.kept k4 hb⟩, ?_⟩
        simp [intOf]; omega
      · rw [Nat.min_eq_right (by omega)] at hat
        have q := fun X (h : New wr X) => push_full X _ _ _ (hat.new_ h) r hr8 (j : Int) (r : Int) 0 ((j : Int) * 7) (mayB_iff.2 (by omega)) (by rw [upd_at, stk_len])
        have Q := hid q
        have hjn : (j : Int) < y % 20 := by rw [hnt.out]; omega
        have h16' : ¬ (j : Int) < 16 := by omega
        have h16'' : (16 : Int) ≤ (j : Int) := by omega
        clear q
        go_wp2_with fail
        refine (Q.out _ (by (repeat (first | exact New.refl _ | (refine New.step ?_ (by assumption)) | apply New.alloc | apply New.drewN | apply New.drew)))).mono ?_
        rintro e w3 ⟨rfl, y3⟩
        go_wp2_with fail
        refine ⟨⟨j + 1, by omega, by go_num, by rw [Nat.min_eq_right (by omega)]; exact hat.new_ y3, hnr.step y3⟩, ?_⟩
        simp [intOf]; omega
    · have hjn : ¬ (j : Int) < y % 20 := by rw [hnt.out]; omega
      have ejn : j = n := by omega
      rw [ejn] at hat
      have A := hid (And.intro hat hnr)
      have hjj : ((j : Int) < 16) ∨ (16 ≤ (j : Int)) := by omega
      clear hat hnr hj hjl
      have w5' : IntKind.i64.wrap (y % 20 - 1) = y % 20 - 1 := by rw [IntKind.wrap_i64]; omega
      clear ejn
      go_wp2_with fail
      all_goals
        go_loopw [11] (fun i wr => ∃ j : Nat, j ≤ 16 ∧ i = .int .i64 ((j : Int) - 1) ∧ At wr W.heap.size w0.heap.size (upd nothing r (stk r j)) ∧ New W wr) (fun i _ => (intOf i + 1).toNat)
        case atStart => exact ⟨min n 16, by omega, by have := hnt.out; congr 1; omega, A.out.1, A.out.2⟩
        case round =>
          clear A
          obtain ⟨j, hj, rfl, hat, hnr⟩ := hrel
          by_cases hj0 : 0 < j
          · obtain ⟨k, rfl⟩ : ∃ k, j = k + 1 := ⟨j - 1, by omega⟩
            rw [stk_succ] at hat
            have q1 := read_yes wr _ _ _ hat r hr8 (stk r k) (nth r k) (upd_at _ _ _) 3 (by decide)
            have q2 := Pop_yes wr _ _ _ hat hnr.size r hr8 (stk r k) (nth r k) (upd_at _ _ _)
            rw [upd_upd] at q2
            have w1' : IntKind.i64.wrap (((k + 1 : Nat) : Int) - 1) = k := by rw [IntKind.wrap_i64]; omega
            have w2' : IntKind.i64.wrap (k : Int) = k := by rw [IntKind.wrap_i64]; omega
            have w3' : IntKind.i64.wrap ((k : Int) - 1) = k - 1 := by rw [IntKind.wrap_i64]; omega
            have w4' : IntKind.i64.wrap ((k : Int) * 7) = k * 7 := by rw [IntKind.wrap_i64]; omega
            have e1 : (((k + 1 : Nat) : Int) - 1) = k := by omega
            have e2 : (nth r k).w 3 = k := rfl
            have e3 : (nth r k).a = k := rfl
            have e4 : (nth r k).b = r := rfl
            have e5 : (nth r k).c = 0 := rfl
            have e6 : (nth r k).d = k * 7 := rfl
            rw [e2] at q1
            rw [e3, e4, e5, e6] at q2
            have hk0 : (0 : Int) ≤ (k : Int) := by omega
            have hpt : ptEq k r 0 (k * 7) k r 0 (k * 7) = true := by simp [ptEq]
            rw [e1]
            clear e1 e2 e3 e4 e5 e6
            have Q := hid (And.intro q1 q2)
            clear q1 q2
            go_wp2_with fail
            refine Q.out.1.mono ?_
            rintro e w3 ⟨rfl, rfl⟩
            go_wp2_with fail
            refine Q.out.2.mono ?_
            rintro e w4 ⟨rfl, a4, k4⟩
            go_wp2_with fail
            go_roundw
            case rel => exact ⟨k, by omega, rfl, (a4.new_ ((New.refl _).alloc _)), (hnr.kept k4 hb).alloc _⟩
            case measure => simp [intOf]
          · have ej : j = 0 := by omega
            subst ej
            have e0 : stk r 0 = [] := rfl
            rw [e0, upd_nothing] at hat
            have e5 : topE nothing r = 18 := by unfold topE; rw [if_pos (by omega)]; rfl
            have q5 := Pop_no wr _ _ _ hat r (by rw [e5]; decide)
            rw [e5] at q5
            have Q := hid q5
            clear q5
            go_wp2_with fail
            refine Q.out.mono ?_
            rintro e w4 ⟨rfl, y4⟩
            go_wp2_with fail
            go_ret
            exact ⟨rfl, (hnr.step y4).alloc _⟩
theorem framesFill_row {H : Type} {enc : TypeId × Value → H} (W : World) {base : Nat}
    (v0 : Value) (d0 : DataW H) (p0 : List MemPlace) (k0 : Value.okWide Try.prog W .any base 5 v0) (h0 : DataW.Trod enc Try.prog W 0 (fun _ => true) true 5 v0 d0 p0) (l0 : ∀ x ∈ p0, x.block < W.heap.size)
    (v1 : Value) (d1 : DataW H) (p1 : List MemPlace) (k1 : Value.okWide Try.prog W .any base 5 v1) (h1 : DataW.Trod enc Try.prog W 0 (fun _ => true) true 5 v1 d1 p1) (l1 : ∀ x ∈ p1, x.block < W.heap.size)
    : Calls Try.prog 4 #[v0, v1] W fun e W' => e = .returned (.bool true) ∧ Below W.heap.size W W' := by
  obtain ⟨x, rfl, rfl, rfl, wx⟩ := open_int Try.underlying5 k0 h0
  obtain ⟨y, rfl, rfl, rfl, wy⟩ := open_int Try.underlying5 k1 h1
  have hx := wf_u8 wx
  have hy := wf_u8 wy
  exact framesFill_walk x y hx.1 hx.2 hy.1 hy.2 W
end Go.Proofs.Ytfgfhaknecolpaa.Law
