/- The walk of FramesApart. -/
import Derived.Test.YtfgfhaknecolpaaFramesAwake
import Derived.Test.YtfgfhaknecolpaaWd
import Derived.Test.YtfgfhaknecolpaaOpenS
namespace Go.Proofs.Ytfgfhaknecolpaa.Law
open Go Go.RowKit Go.ChangeShapes Go.WideShapes Go.Proofs.Ytfgfhaknecolpaa.Kit Go.Proofs.Ytfgfhaknecolpaa.Wd Go.Proofs.Ytfgfhaknecolpaa.Frames Go.Proofs.Ytfgfhaknecolpaa.Point Go.Proofs.Ytfgfhaknecolpaa.Open
set_option linter.unusedSimpArgs false
set_option linter.unusedVariables false
def low (k : Nat) : Fr := (fr 0 k 0 0).put 0 (k + 100)
def lows (j : Nat) : Nat → List Fr := fun k => if k < j then [low k] else []
theorem upd_upd (S : Nat → List Fr) (r : Nat) (L M : List Fr) : upd (upd S r L) r M = upd S r M := by
  funext k
  show (if k = r then M else if k = r then L else S k) = (if k = r then M else S k)
  split <;> rfl
theorem upd_at (S : Nat → List Fr) (r : Nat) (L : List Fr) : upd S r L r = L := if_pos rfl
theorem lows_zero : lows 0 = nothing := by
  funext k
  show (if k < 0 then [low k] else []) = ([] : List Fr)
  rw [if_neg (by omega)]
theorem lows_succ (j : Nat) : upd (lows j) j [low j] = lows (j + 1) := by
  funext k
  show (if k = j then [low j] else if k < j then [low k] else []) = (if k < j + 1 then [low k] else [])
  by_cases e : k = j
  · subst e; rw [if_pos rfl, if_pos (by omega)]
  · rw [if_neg e]
    by_cases h : k < j
    · rw [if_pos h, if_pos (by omega)]
    · rw [if_neg h, if_neg (by omega)]
theorem lows_back (j r : Nat) (h : r < j) : upd (lows j) r [low r] = lows j := by
  funext k
  show (if k = r then [low r] else if k < j then [low k] else []) = (if k < j then [low k] else [])
  by_cases e : k = r
  · subst e; rw [if_pos rfl, if_pos h]
  · rw [if_neg e]
set_option maxRecDepth 100000 in
set_option maxHeartbeats 4000000 in
theorem framesApart_walk (a : Option Addr) (n c : Nat) (f : Nat → Int) (hf : ∀ i, i < n * 2 → 0 ≤ f i ∧ f i < 256) (y : Int) (hy0 : 0 ≤ y) (hy1 : y < 18446744073709551616) (W : World)
    (hc : 0 < n → ∃ b o, a = some ⟨b, o, none⟩ ∧ b < W.heap.size ∧ ∀ i, i < n * 2 → W.cell? ⟨b, o + i, none⟩ = some (.int .u8 (f i))) :
    Calls Try.prog 5 #[.slice a n c, .int .u64 y] W fun e w' => e = .returned (.bool true) ∧ New W w' := by
  have H := hid hc
  have HF := hid hf
  clear hc hf
  go_enter Try.func5, Try.ntmps5
  go_wp2_with fail
  refine (awake_any W).mono ?_
  rintro e w0 ⟨rfl, n0⟩
  go_wp2_with fail
  refine (new_any w0).mono ?_
  rintro e w1 ⟨rfl, n1, a1⟩
  have a1 := a1 W.heap.size n0.size
  have n1 := n0.step n1
  have hb : ∀ {X : World} i, FT X W.heap.size i → W.heap.size ≤ i := fun i h => h.1
  by_cases h100 : 100 < n
  · go_wp2
    go_ret
    exact ⟨rfl, n1⟩
  go_wp2_with fail
  go_loopw [6] (fun i wr => ∃ j : Nat, j ≤ 8 ∧ i = .int .i64 (j : Int) ∧ At wr W.heap.size w0.heap.size (lows j) ∧ New W wr) (fun i _ => 8 - (intOf i).toNat)
  case atStart => exact ⟨0, Nat.zero_le _, rfl, by rw [lows_zero]; exact a1, n1⟩
  case round =>
    clear a1 n1
    obtain ⟨j, hj, rfl, hat, hnr⟩ := hrel
    have w1' : IntKind.i64.wrap ((j : Int) + 1) = j + 1 := by rw [IntKind.wrap_i64]; omega
    have w2' : IntKind.u64.wrap (j : Int) = j := by rw [IntKind.wrap_u64]; omega
    have w3' : IntKind.u64.wrap ((j : Int) + 100) = j + 100 := by rw [IntKind.wrap_u64]; omega
    by_cases hjl : j < 8
    · have q := push_yes wr _ _ _ hat hnr.size j hjl 0 (j : Int) 0 0 (mayB_iff.2 (by omega)) (by show (if j < j then [low j] else []).length < 16; rw [if_neg (by omega)]; decide)
      rw [show lows j j = [] from if_neg (by omega), List.nil_append] at q
      have hjl' : (j : Int) < 8 := by omega
      have Q := hid q
      clear q
      go_wp2_with fail
      refine Q.out.mono ?_
      rintro e w3 ⟨rfl, a3, k3⟩
      have y3 := hnr.kept k3 hb
      have q4 := write_yes w3 _ _ _ a3 j hjl [] (fr 0 j 0 0) (upd_at _ _ _) 0 (by decide) ((j : Int) + 100)
      rw [upd_upd, and_mask (by omega) (by omega), show ((j : Int) + 100) % 68719476736 = j + 100 by omega, List.nil_append, show (fr 0 j 0 0).put 0 ((j : Int) + 100) = low j from rfl, lows_succ] at q4
      have Q4 := hid q4
      clear q4
      go_wp2_with fail
      refine Q4.out.mono ?_
      rintro e w4 ⟨rfl, a4, k4⟩
      go_wp2_with fail
      refine ⟨⟨j + 1, by omega, by go_num, a4, y3.kept k4 hb⟩, ?_⟩
      simp [intOf]; omega
    · have e8 : j = 8 := by omega
      rw [e8] at hat
      have A := hid (And.intro hat hnr)
      have hj8 : ¬ (j : Int) < 8 := by omega
      clear hat hnr e8 hj hjl
      go_wp2_with fail
      go_loopw [7] (fun i wr => ∃ j : Nat, j ≤ n ∧ i = .int .i64 (j : Int) ∧ At wr W.heap.size w0.heap.size (lows 8) ∧ New W wr) (fun i _ => n - (intOf i).toNat)
      case atStart => exact ⟨0, Nat.zero_le _, rfl, A.out.1, A.out.2⟩
      case round =>
        clear A
        obtain ⟨j, hj, rfl, hat, hnr⟩ := hrel
        have w1' : IntKind.i64.wrap ((j : Int) + 1) = j + 1 := by rw [IntKind.wrap_i64]; omega
        by_cases hjl : j < n
        · obtain ⟨b, o, rfl, hb', hcell⟩ := H.out (by omega)
          have hcj := hnr.cellK (hcell (j * 2) (by omega))
          have hxj := HF.out (j * 2) (by omega)
          generalize f (j * 2) = x at hcj hxj
          have hcj2 : wr.cell? ⟨b, o + j * 2 + 0, none⟩ = some (.int .u8 x) := hcj
          clear hcell
          obtain ⟨r, hr⟩ : ∃ r : Nat, x % 8 = r := ⟨(x % 8).toNat, by omega⟩
          have hr8 : r < 8 := by omega
          have hlr : lows 8 r = [low r] := if_pos hr8
          have q := push_yes wr _ _ _ hat hnr.size r hr8 0 0 0 0 (by decide) (by rw [hlr]; show 1 < 16; decide)
          rw [hlr] at q
          have Q := hid q
          clear q
          go_wp2_with fail
          refine Q.out.mono ?_
          rintro e w3 ⟨rfl, a3, k3⟩
          have A3 := hid (And.intro a3 (hnr.kept k3 hb))
          clear hat hnr hcj hcj2 a3 k3
          go_wp2_with fail
          go_loopw [9] (fun i wr => ∃ (q : Nat) (x : Fr), q ≤ 7 ∧ i = .int .i64 (q : Int) ∧ (∀ k, q ≤ k → x.w k = 0) ∧ At wr W.heap.size w0.heap.size (upd (lows 8) r ([low r] ++ [x])) ∧ New W wr) (fun i _ => 7 - (intOf i).toNat)
          case atStart => exact ⟨0, _, by omega, rfl, fun k _ => rfl, A3.out.1, A3.out.2⟩
          case round =>
            clear A3
            obtain ⟨q, x, hq, rfl, hx0, hat, hnr⟩ := hrel
            have w4' : IntKind.i64.wrap ((q : Int) + 1) = q + 1 := by rw [IntKind.wrap_i64]; omega
            have w5' : IntKind.u64.wrap (q : Int) = q := by rw [IntKind.wrap_u64]; omega
            by_cases hql : q < 7
            · have q1 := read_yes wr _ _ _ hat r hr8 [low r] x (upd_at _ _ _) q hql
              rw [hx0 q (Nat.le_refl _)] at q1
              have q2 := write_yes wr _ _ _ hat r hr8 [low r] x (upd_at _ _ _) q hql (IntKind.u64.wrap (y + q))
              rw [upd_upd] at q2
              have hql' : (q : Int) < 7 := by omega
              have Q := hid (And.intro q1 q2)
              have HX := hid hx0
              clear q1 q2 hat hx0
              go_wp2_with fail
              refine Q.out.1.mono ?_
              rintro e w4 ⟨rfl, rfl⟩
              go_wp2_with fail
              refine Q.out.2.mono ?_
              rintro e w4 ⟨rfl, a4, k4⟩
              go_wp2_with fail
              refine ⟨⟨q + 1, _, by omega, by go_num, fun k hk => ?_, a4, hnr.kept k4 hb⟩, ?_⟩
              · show (if k = q then _ else x.w k) = 0
                rw [if_neg (by omega)]
                exact HX.out k (by omega)
              · simp [intOf]; omega
            · have q2 := Pop_yes wr _ _ _ hat hnr.size r hr8 [low r] x (upd_at _ _ _)
              rw [upd_upd, lows_back 8 r hr8] at q2
              have Q := hid q2
              have hql' : ¬ (q : Int) < 7 := by omega
              clear q2 hat hx0
              go_wp2_with fail
              refine Q.out.mono ?_
              rintro e w4 ⟨rfl, a4, k4⟩
              have A4 := hid (And.intro (a4.new_ ((New.refl _).alloc (.cells #[.int .i64 x.a, .int .i64 x.b, .int .i64 x.c, .int .i64 x.d] 29))) ((hnr.kept k4 hb).alloc (.cells #[.int .i64 x.a, .int .i64 x.b, .int .i64 x.c, .int .i64 x.d] 29)))
              clear a4 k4 hnr
              go_wp2_with fail
              go_loopw [14] (fun i wr => ∃ (k : Nat), k ≤ 8 ∧ i = .int .i64 (k : Int) ∧ At wr W.heap.size w0.heap.size (lows 8) ∧ New W wr) (fun i _ => 8 - (intOf i).toNat)
              case atStart => exact ⟨0, by omega, rfl, A4.out.1, A4.out.2⟩
              case round =>
                clear A4
                obtain ⟨k, hk, rfl, hat, hnr⟩ := hrel
                have w6' : IntKind.i64.wrap ((k : Int) + 1) = k + 1 := by rw [IntKind.wrap_i64]; omega
                have w7' : IntKind.u64.wrap (k : Int) = k := by rw [IntKind.wrap_u64]; omega
                have w8' : IntKind.u64.wrap ((k : Int) + 100) = k + 100 := by rw [IntKind.wrap_u64]; omega
                by_cases hkl : k < 8
                · have hlk : lows 8 k = [] ++ [low k] := if_pos hkl
                  have q1 := read_yes wr _ _ _ hat k hkl [] (low k) hlk 0 (by decide)
                  rw [show (low k).w 0 = (k : Int) + 100 from rfl] at q1
                  have q2 := depth_yes wr _ _ _ hat k hkl
                  rw [hlk] at q2
                  have hkl' : (k : Int) < 8 := by omega
                  have Q := hid (And.intro q1 q2)
                  clear q1 q2 hlk
                  go_wp2_with fail
                  refine Q.out.1.mono ?_
                  rintro e w5 ⟨rfl, rfl⟩
                  go_wp2_with fail
                  refine Q.out.2.mono ?_
                  rintro e w5 ⟨rfl, rfl⟩
                  go_wp2_with fail
                  refine ⟨⟨k + 1, by omega, by go_num, hat, hnr⟩, ?_⟩
                  simp [intOf]; omega
                · have hkl' : ¬ (k : Int) < 8 := by omega
                  go_wp2_with fail
                  go_roundw
                  case rel => exact ⟨j + 1, by omega, by go_num, hat, hnr⟩
                  case measure => simp [intOf]; omega
        · go_wp2_with fail
          go_ret
          exact ⟨rfl, hnr⟩
theorem framesApart_row {H : Type} {enc : TypeId × Value → H} (W : World) {base : Nat}
    (v0 : Value) (d0 : DataW H) (p0 : List MemPlace) (k0 : Value.okWide Try.prog W .any base 49 v0) (h0 : DataW.Trod enc Try.prog W 0 (fun _ => true) true 49 v0 d0 p0) (l0 : ∀ x ∈ p0, x.block < W.heap.size)
    (v1 : Value) (d1 : DataW H) (p1 : List MemPlace) (k1 : Value.okWide Try.prog W .any base 31 v1) (h1 : DataW.Trod enc Try.prog W 0 (fun _ => true) true 31 v1 d1 p1) (l1 : ∀ x ∈ p1, x.block < W.heap.size)
    : Calls Try.prog 5 #[v0, v1] W fun e W' => e = .returned (.bool true) ∧ Below W.heap.size W W' := by
  obtain ⟨n, g, ⟨a, c, rfl, hc⟩, hw, _⟩ := open_sarrs Try.underlying49 Try.underlying50 Try.underlying5 (by kernel_rfl) (by kernel_rfl) (by decide) k0 h0
  obtain ⟨y, rfl, rfl, rfl, wy⟩ := open_int Try.underlying31 k1 h1
  have hy := wf_u64 wy
  exact framesApart_walk a n c g (fun i hi => wf_u8 (hw i hi)) y hy.1 hy.2 W hc
end Go.Proofs.Ytfgfhaknecolpaa.Law
