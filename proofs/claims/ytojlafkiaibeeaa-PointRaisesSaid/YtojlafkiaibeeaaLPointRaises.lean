/- The walk of PointRaises. -/
import Derived.Test.YtojlafkiaibeeaaPointAwake
import Derived.BigQuiet
namespace Go.Proofs.Ytojlafkiaibeeaa.Law
open Go Go.RowKit Go.ChangeShapes Go.WideShapes Go.Proofs.Ytojlafkiaibeeaa.Wd Go.Proofs.Ytojlafkiaibeeaa.Word Go.Proofs.Ytojlafkiaibeeaa.Kit Go.Proofs.Ytojlafkiaibeeaa.Point
set_option linter.unusedSimpArgs false
set_option linter.unusedVariables false
attribute [local go_sem] max_i min_i
set_option maxRecDepth 100000 in
set_option maxHeartbeats 4000000 in
theorem pointRaises_walk (a b c d r s : Int) (w : World) :
    Calls Try.prog 13 #[pt a b c d, .int .i64 r, .int .i64 s] w fun e w' => e = .returned (.bool true) ∧ New w w' := by
  have he := fun (a b c d a' b' c' d' : Int) w => eql_pt a b c d a' b' c' d' w
  go_enter Try.func13, Try.ntmps13
  go_wp2_with fail
  refine (awake2_any _).mono ?_
  rintro e wA ⟨rfl, hnA⟩
  obtain ⟨hcA, hfA⟩ := New.cells hnA
  have hsA := New.size hnA
  try simp only [World.size_alloc, size_drewN, size_drew, size_setCell] at hcA hfA hsA
  try have hzA_w : w.heap.size < wA.heap.size := by omega
  go_wp2_with fail
  refine (raise_any _ _ _ _ _ _).mono ?_
  rintro e wB ⟨rfl, hnB⟩
  obtain ⟨hcB, hfB⟩ := New.cells hnB
  have hsB := New.size hnB
  try simp only [World.size_alloc, size_drewN, size_drew, size_setCell] at hcB hfB hsB
  try have hzB_w : w.heap.size < wB.heap.size := by omega
  go_wp2_with fail
  refine (raise_any _ _ _ _ _ _).mono ?_
  rintro e wC ⟨rfl, hnC⟩
  obtain ⟨hcC, hfC⟩ := New.cells hnC
  have hsC := New.size hnC
  try simp only [World.size_alloc, size_drewN, size_drew, size_setCell] at hcC hfC hsC
  try have hzC_w : w.heap.size < wC.heap.size := by omega
  go_wp2_with fail
  refine (raise_any _ _ _ _ _ _).mono ?_
  rintro e wD ⟨rfl, hnD⟩
  obtain ⟨hcD, hfD⟩ := New.cells hnD
  have hsD := New.size hnD
  try simp only [World.size_alloc, size_drewN, size_drew, size_setCell] at hcD hfD hsD
  try have hzD_w : w.heap.size < wD.heap.size := by omega
  try have hzD_wC : wC.heap.size < wD.heap.size := by omega
  go_wp2_with fail
  refine (raise_any _ _ _ _ _ _).mono ?_
  rintro e wE ⟨rfl, hnE⟩
  obtain ⟨hcE, hfE⟩ := New.cells hnE
  have hsE := New.size hnE
  try simp only [World.size_alloc, size_drewN, size_drew, size_setCell] at hcE hfE hsE
  try have hzE_w : w.heap.size < wE.heap.size := by omega
  try have hzE_wC : wC.heap.size < wE.heap.size := by omega
  go_wp2_with fail
  refine (move_any _ _ _ _ _ _).mono ?_
  rintro e wF ⟨rfl, hnF⟩
  obtain ⟨hcF, hfF⟩ := New.cells hnF
  have hsF := New.size hnF
  try simp only [World.size_alloc, size_drewN, size_drew, size_setCell] at hcF hfF hsF
  try have hzF_w : w.heap.size < wF.heap.size := by omega
  try have hzF_wC : wC.heap.size < wF.heap.size := by omega
  try have hzF_wE : wE.heap.size < wF.heap.size := by omega
  go_wp2_with fail
  refine (move_any _ _ _ _ _ _).mono ?_
  rintro e wG ⟨rfl, hnG⟩
  obtain ⟨hcG, hfG⟩ := New.cells hnG
  have hsG := New.size hnG
  try simp only [World.size_alloc, size_drewN, size_drew, size_setCell] at hcG hfG hsG
  try have hzG_w : w.heap.size < wG.heap.size := by omega
  try have hzG_wC : wC.heap.size < wG.heap.size := by omega
  try have hzG_wE : wE.heap.size < wG.heap.size := by omega
  go_wp2_with fail
  have q0 : mxZ (mxZ (mxZ b (mnZ (mxZ r 0) 7)) (mnZ (mxZ s 0) 7)) (mnZ (mxZ 0 0) 7) = mxZ (mxZ b (mnZ (mxZ r 0) 7)) (mnZ (mxZ s 0) 7) := by unfold mxZ mnZ; omega
  have q1 : b ≤ mxZ (mxZ b (mnZ (mxZ r 0) 7)) (mnZ (mxZ s 0) 7) := by unfold mxZ mnZ; omega
  have kw0 : (wG.alloc (.cells #[.int .i64 a, .int .i64 b, .int .i64 c, .int .i64 ((d + r + wrap64 (-r)) % 262144)] 47)).cell? ⟨w.heap.size, 0, none⟩ = some (.int .i64 (a)) := by go_simp
  have kw1 : (wG.alloc (.cells #[.int .i64 a, .int .i64 b, .int .i64 c, .int .i64 ((d + r + wrap64 (-r)) % 262144)] 47)).cell? ⟨w.heap.size, 1, none⟩ = some (.int .i64 (b)) := by go_simp
  have kw2 : (wG.alloc (.cells #[.int .i64 a, .int .i64 b, .int .i64 c, .int .i64 ((d + r + wrap64 (-r)) % 262144)] 47)).cell? ⟨w.heap.size, 2, none⟩ = some (.int .i64 (c)) := by go_simp
  have kw3 : (wG.alloc (.cells #[.int .i64 a, .int .i64 b, .int .i64 c, .int .i64 ((d + r + wrap64 (-r)) % 262144)] 47)).cell? ⟨w.heap.size, 3, none⟩ = some (.int .i64 (d)) := by go_simp
  have kwC0 : (wG.alloc (.cells #[.int .i64 a, .int .i64 b, .int .i64 c, .int .i64 ((d + r + wrap64 (-r)) % 262144)] 47)).cell? ⟨wC.heap.size, 0, none⟩ = some (.int .i64 (a)) := by go_simp
  have kwC1 : (wG.alloc (.cells #[.int .i64 a, .int .i64 b, .int .i64 c, .int .i64 ((d + r + wrap64 (-r)) % 262144)] 47)).cell? ⟨wC.heap.size, 1, none⟩ = some (.int .i64 (mxZ (mxZ b (mnZ (mxZ r 0) 7)) (mnZ (mxZ s 0) 7))) := by go_simp
  have kwC2 : (wG.alloc (.cells #[.int .i64 a, .int .i64 b, .int .i64 c, .int .i64 ((d + r + wrap64 (-r)) % 262144)] 47)).cell? ⟨wC.heap.size, 2, none⟩ = some (.int .i64 (c)) := by go_simp
  have kwC3 : (wG.alloc (.cells #[.int .i64 a, .int .i64 b, .int .i64 c, .int .i64 ((d + r + wrap64 (-r)) % 262144)] 47)).cell? ⟨wC.heap.size, 3, none⟩ = some (.int .i64 (d)) := by go_simp
  have kwE0 : (wG.alloc (.cells #[.int .i64 a, .int .i64 b, .int .i64 c, .int .i64 ((d + r + wrap64 (-r)) % 262144)] 47)).cell? ⟨wE.heap.size, 0, none⟩ = some (.int .i64 (a)) := by go_simp
  have kwE1 : (wG.alloc (.cells #[.int .i64 a, .int .i64 b, .int .i64 c, .int .i64 ((d + r + wrap64 (-r)) % 262144)] 47)).cell? ⟨wE.heap.size, 1, none⟩ = some (.int .i64 (mxZ (mxZ b (mnZ (mxZ s 0) 7)) (mnZ (mxZ r 0) 7))) := by go_simp
  have kwE2 : (wG.alloc (.cells #[.int .i64 a, .int .i64 b, .int .i64 c, .int .i64 ((d + r + wrap64 (-r)) % 262144)] 47)).cell? ⟨wE.heap.size, 2, none⟩ = some (.int .i64 (c)) := by go_simp
  have kwE3 : (wG.alloc (.cells #[.int .i64 a, .int .i64 b, .int .i64 c, .int .i64 ((d + r + wrap64 (-r)) % 262144)] 47)).cell? ⟨wE.heap.size, 3, none⟩ = some (.int .i64 (d)) := by go_simp
  have kwG0 : (wG.alloc (.cells #[.int .i64 a, .int .i64 b, .int .i64 c, .int .i64 ((d + r + wrap64 (-r)) % 262144)] 47)).cell? ⟨wG.heap.size, 0, none⟩ = some (.int .i64 (a)) := by go_simp
  have kwG1 : (wG.alloc (.cells #[.int .i64 a, .int .i64 b, .int .i64 c, .int .i64 ((d + r + wrap64 (-r)) % 262144)] 47)).cell? ⟨wG.heap.size, 1, none⟩ = some (.int .i64 (b)) := by go_simp
  have kwG2 : (wG.alloc (.cells #[.int .i64 a, .int .i64 b, .int .i64 c, .int .i64 ((d + r + wrap64 (-r)) % 262144)] 47)).cell? ⟨wG.heap.size, 2, none⟩ = some (.int .i64 (c)) := by go_simp
  have kwG3 : (wG.alloc (.cells #[.int .i64 a, .int .i64 b, .int .i64 c, .int .i64 ((d + r + wrap64 (-r)) % 262144)] 47)).cell? ⟨wG.heap.size, 3, none⟩ = some (.int .i64 ((d + r + wrap64 (-r)) % 262144)) := by go_simp
  have hnow : New w (wG.alloc (.cells #[.int .i64 a, .int .i64 b, .int .i64 c, .int .i64 ((d + r + wrap64 (-r)) % 262144)] 47)) := by
    (repeat (first | exact New.refl _ | (refine New.step ?_ (by assumption)) | apply New.alloc | apply New.drewN | apply New.drew))
  generalize (wG.alloc (.cells #[.int .i64 a, .int .i64 b, .int .i64 c, .int .i64 ((d + r + wrap64 (-r)) % 262144)] 47)) = wH at *
  have q2 : (d + r + wrap64 (-r)) % 262144 = d % 262144 := by unfold wrap64; omega
  have q12 : mxZ (mxZ b (mnZ (mxZ s 0) 7)) (mnZ (mxZ r 0) 7) = mxZ (mxZ b (mnZ (mxZ r 0) 7)) (mnZ (mxZ s 0) 7) := by unfold mxZ mnZ; omega
  rw [q12] at kwE1
  rw [q2] at kwG3
  clear hcA hfA hcB hfB hcC hfC hcD hfD hcE hfE hcF hfF hcG hfG hnA hnB hnC hnD hnE hnF hnG
  have q4 : ∀ a b c d : Int, ptEq a b c d a b c d = true := fun a b c d => ptEq_iff.2 ⟨rfl, rfl, rfl, rfl⟩
  have q5 : Go.bits .and .i64 d 262143 = d % 262144 := and18 d
  clear q12 q2
  have q1b : decide (b ≤ mxZ (mxZ b (mnZ (mxZ r 0) 7)) (mnZ (mxZ s 0) 7)) = true := decide_eq_true q1
  have q6 : (0 ≤ d ∧ d ≤ 262143) → d % 262144 = d := fun h => by omega
  have dcase : (decide (d < 0) = true) ∨ (decide (d < 0) = false ∧ decide (262143 < d) = true) ∨ (decide (d < 0) = false ∧ decide (262143 < d) = false ∧ d % 262144 = d ∧ (((r == IntKind.i64.wrap (-r)) = false ∧ decide (r = IntKind.i64.wrap (-r)) = false) ∨ (((r == IntKind.i64.wrap (-r)) = true ∧ decide (r = IntKind.i64.wrap (-r)) = true) ∧ (r != 0) = true ∧ (r == 0) = false ∧ decide (r = 0) = false) ∨ (((r == IntKind.i64.wrap (-r)) = true ∧ decide (r = IntKind.i64.wrap (-r)) = true) ∧ (r != 0) = false ∧ (r == 0) = true ∧ decide (r = 0) = true))) := by
    by_cases c1 : d < 0
    · exact .inl (decide_eq_true c1)
    · by_cases c2 : 262143 < d
      · exact .inr (.inl ⟨decide_eq_false c1, decide_eq_true c2⟩)
      · refine .inr (.inr ⟨decide_eq_false c1, decide_eq_false c2, q6 (by omega), ?_⟩)
        by_cases e1 : r = IntKind.i64.wrap (-r)
        · by_cases e2 : r = 0
          · exact .inr (.inr ⟨⟨beq_iff_eq.2 e1, decide_eq_true e1⟩, by simp [e2], by simp [e2], decide_eq_true e2⟩)
          · exact .inr (.inl ⟨⟨beq_iff_eq.2 e1, decide_eq_true e1⟩, by simp [e2], by simp [e2], decide_eq_false e2⟩)
        · exact .inl ⟨beq_eq_false_iff_ne.2 e1, decide_eq_false e1⟩
  clear q6
  have run : ∀ (rr : Bool), rr = rr → True := fun _ _ => trivial
  clear run
  refine wp_region_quiet (C := fun w' => New wH w') (by kernel_rfl) (by kernel_rfl) (New.refl wH).drew ?_
  simp only [List.toList_toArray]
  rcases dcase with d1 | ⟨d1, d2⟩ | ⟨d1, d2, d3, ⟨d4, d5⟩ | ⟨⟨d4, d5⟩, d6, d7, d8⟩ | ⟨⟨d4, d5⟩, d6, d7, d8⟩⟩
  all_goals
    (try rw [d3] at kwG3)
    repeat (first
      | go_big_quiet_skip
      | (go_big_quiet_want
         apply Exists.intro
         refine ⟨fun w' hw' => ?_, ?_⟩
         · have kw0_ := hw'.cellK kw0; have kw1_ := hw'.cellK kw1; have kw2_ := hw'.cellK kw2; have kw3_ := hw'.cellK kw3; have kwC0_ := hw'.cellK kwC0; have kwC1_ := hw'.cellK kwC1; have kwC2_ := hw'.cellK kwC2; have kwC3_ := hw'.cellK kwC3; have kwE0_ := hw'.cellK kwE0; have kwE1_ := hw'.cellK kwE1; have kwE2_ := hw'.cellK kwE2; have kwE3_ := hw'.cellK kwE3; have kwG0_ := hw'.cellK kwG0; have kwG1_ := hw'.cellK kwG1; have kwG2_ := hw'.cellK kwG2; have kwG3_ := hw'.cellK kwG3; go_simp; first | (with_reducible rfl) | (go_at_call 27; with_reducible exact ((raise_any _ _ _ _ _ _).mono (fun e w2 h => ⟨h.1, hw'.step h.2⟩))) | (go_at_call 28; with_reducible exact ((move_any _ _ _ _ _ _).mono (fun e w2 h => ⟨h.1, hw'.step h.2⟩)))
         go_big_quiet_on
         try simp only [Act.put, List.setIfInBounds_toArray, List.set_cons_zero, List.set_cons_succ]))
    refine wpQuiet_nil ?_
    intro wZ hwZ
    go_wp2
    go_ret
    exact ⟨rfl, hnow.step hwZ⟩
theorem pointRaises_row {H : Type} {enc : TypeId × Value → H} (W : World) {base : Nat}
    (v0 : Value) (d0 : DataW H) (p0 : List MemPlace) (k0 : Value.okWide Try.prog W .any base 47 v0) (h0 : DataW.Trod enc Try.prog W 0 (fun _ => true) true 47 v0 d0 p0) (l0 : ∀ x ∈ p0, x.block < W.heap.size)
    (v1 : Value) (d1 : DataW H) (p1 : List MemPlace) (k1 : Value.okWide Try.prog W .any base 3 v1) (h1 : DataW.Trod enc Try.prog W 0 (fun _ => true) true 3 v1 d1 p1) (l1 : ∀ x ∈ p1, x.block < W.heap.size)
    (v2 : Value) (d2 : DataW H) (p2 : List MemPlace) (k2 : Value.okWide Try.prog W .any base 3 v2) (h2 : DataW.Trod enc Try.prog W 0 (fun _ => true) true 3 v2 d2 p2) (l2 : ∀ x ∈ p2, x.block < W.heap.size)
    : Calls Try.prog 13 #[v0, v1, v2] W fun e W' => e = .returned (.bool true) ∧ Below W.heap.size W W' := by
  obtain ⟨a, b, c, d, rfl, _⟩ := open_pt k0 h0
  obtain ⟨r, rfl, rfl, rfl, _⟩ := open_int Try.underlying3 k1 h1
  obtain ⟨o, rfl, rfl, rfl, _⟩ := open_int Try.underlying3 k2 h2
  exact pointRaises_walk a b c d r o W
end Go.Proofs.Ytojlafkiaibeeaa.Law
