/- The walk of ReferKnown. -/
import Derived.Test.YtakhidieomalhaaReferMany
import Derived.BigQuiet
namespace Go.Proofs.Ytakhidieomalhaa.Law
open Go Go.RowKit Go.ChangeMaps Go.ChangeShapes Go.WideShapes Go.Proofs.Ytakhidieomalhaa.Kit Go.Proofs.Ytakhidieomalhaa.Str Go.Proofs.Ytakhidieomalhaa.Names Go.Proofs.Ytakhidieomalhaa.Refer
set_option linter.unusedSimpArgs false
set_option linter.unusedVariables false
abbrev L1 : List (Key × Int) := [((4, [98]), 1)]
abbrev L2 : List (Key × Int) := [((4, [98]), 1), ((4, [97]), 1)]
abbrev L3 : List (Key × Int) := [((4, [98]), 1), ((4, [97]), 1), ((5, [97]), 2)]
abbrev L4 : List (Key × Int) := [((4, [97]), 1), ((5, [97]), 2)]
abbrev L5 : List (Key × Int) := [((5, [97]), 2)]
theorem sort_ba : sortS [[98], [97]] = [[97], [98]] := sorted_unique ((sortS_self _).trans (List.Perm.swap _ _ _)) (sortS_sorted _) (by decide)
theorem known_list : ∀ q : Nat, q < 9 → ∃ z : Int, (#[Value.int .i64 1, .int .i64 1, .int .i64 1, .int .i64 3, .int .i64 0, .int .i64 0, .int .i64 0, .int .i64 0, .int .i64 5] : Array Value)[q]? = some (.int .i64 z) := by
  intro q hq
  rcases (show q = 0 ∨ q = 1 ∨ q = 2 ∨ q = 3 ∨ q = 4 ∨ q = 5 ∨ q = 6 ∨ q = 7 ∨ q = 8 by omega) with rfl | rfl | rfl | rfl | rfl | rfl | rfl | rfl | rfl <;> exact ⟨_, rfl⟩
set_option maxRecDepth 100000 in
set_option maxHeartbeats 8000000 in
theorem referKnown_walk (W : World) : Calls Try.prog 6 #[] W fun e w' => e = .returned (.bool true) ∧ New W w' := by
  have ok4a : okK (4, [97]) := ok_small (by decide) (by decide) (by decide)
  have ok4b : okK (4, [98]) := ok_small (by decide) (by decide) (by decide)
  have ok4c : okK (4, [97, 62, 98]) := ok_small (by decide) (by decide) (by decide)
  have ok5a : okK (5, [97]) := ok_small (by decide) (by decide) (by decide)
  have ok8a : okK (8, [97]) := ok_small (by decide) (by decide) (by decide)
  have ok9a : okK (9, [97]) := ok_small (by decide) (by decide) (by decide)
  have OK := hid (And.intro ok4a (And.intro ok4b (And.intro ok4c (And.intro ok5a (And.intro ok8a ok9a)))))
  clear ok4a ok4b ok4c ok5a ok8a ok9a
  go_enter Try.func6, Try.ntmps6
  go_wp2_with fail
  refine (awake_any W).mono ?_
  rintro e w1 ⟨rfl, n1⟩
  go_wp2_with fail
  refine (newR (New.refl w1)).mono ?_
  rintro e w2 ⟨rfl, h2, n2⟩
  obtain ⟨A, hA⟩ : ∃ A, A = w1.heap.size + 1 := ⟨_, rfl⟩
  obtain ⟨b, hb⟩ : ∃ b, b = w1.heap.size := ⟨_, rfl⟩
  rw [← hA, ← hb] at h2
  rw [← hA]
  have HN := hid n1
  have K := hid h2
  clear h2 n2 n1 hA hb
  go_wp2_with fail
  refine (bindR K.out 8 [97] 1 OK.out.2.2.2.2.1 (x := 1) (L' := []) (by decide) (by decide)).mono ?_
  rintro e x1 ⟨rfl, h1, k1⟩
  have K1 := hid h1
  clear h1 k1
  go_wp2_with fail
  refine (bindR K1.out 4 [97] 0 OK.out.1 (x := 1) (L' := []) (by decide) (by decide)).mono ?_
  rintro e x2 ⟨rfl, h1, k1⟩
  have K2 := hid h1
  clear h1 k1
  go_wp2_with fail
  refine (bindR K2.out 4 [97] 64 OK.out.1 (x := 1) (L' := []) (by decide) (by decide)).mono ?_
  rintro e x3 ⟨rfl, h1, k1⟩
  have K3 := hid h1
  clear h1 k1
  go_wp2_with fail
  refine (bindR K3.out 4 [97, 62, 98] 1 OK.out.2.2.1 (x := 3) (L' := []) (by decide) (by decide)).mono ?_
  rintro e x4 ⟨rfl, h1, k1⟩
  have K4 := hid h1
  clear h1 k1
  go_wp2_with fail
  refine (bindR K4.out 4 [98] 1 OK.out.2.1 (x := 0) (L' := L1) (by decide) (by decide)).mono ?_
  rintro e x5 ⟨rfl, h1, k1⟩
  have K5 := hid h1
  clear h1 k1
  go_wp2_with fail
  refine (bindR K5.out 4 [97] 1 OK.out.1 (x := 0) (L' := L2) (by decide) (by decide)).mono ?_
  rintro e x6 ⟨rfl, h1, k1⟩
  have K6 := hid h1
  clear h1 k1
  go_wp2_with fail
  refine (bindR K6.out 5 [97] 2 OK.out.2.2.2.1 (x := 0) (L' := L3) (by decide) (by decide)).mono ?_
  rintro e x7 ⟨rfl, h1, k1⟩
  have K7 := hid h1
  clear h1 k1
  go_wp2_with fail
  refine (bindR K7.out 4 [97] 1 OK.out.1 (x := 0) (L' := L3) (by decide) (by decide)).mono ?_
  rintro e x8 ⟨rfl, h1, k1⟩
  have K8 := hid h1
  clear h1 k1
  go_wp2_with fail
  refine (bindR K8.out 4 [98] 3 OK.out.2.1 (x := 5) (L' := L3) (by decide) (by decide)).mono ?_
  rintro e x9 ⟨rfl, h1, k1⟩
  have K9 := hid h1
  clear h1 k1 K K1 K2 K3 K4 K5 K6 K7 K8
  have hB1 := Blk.new x9 26 #[.int .i64 1, .int .i64 1, .int .i64 1, .int .i64 3, .int .i64 0, .int .i64 0, .int .i64 0, .int .i64 0, .int .i64 5]
  have hB2 := Blk.new (x9.alloc (.cells #[.int .i64 1, .int .i64 1, .int .i64 1, .int .i64 3, .int .i64 0, .int .i64 0, .int .i64 0, .int .i64 0, .int .i64 5] 26)) 26 #[.int .i64 1, .int .i64 1, .int .i64 1, .int .i64 3, .int .i64 0, .int .i64 0, .int .i64 0, .int .i64 0, .int .i64 5]
  rw [World.size_alloc] at hB2
  have HB := hid (And.intro (hB1.alloc (.cells #[.int .i64 1, .int .i64 1, .int .i64 1, .int .i64 3, .int .i64 0, .int .i64 0, .int .i64 0, .int .i64 0, .int .i64 5] 26)) hB2)
  have KB := hid (K9.out.new_ (((New.refl x9).alloc (.cells #[.int .i64 1, .int .i64 1, .int .i64 1, .int .i64 3, .int .i64 0, .int .i64 0, .int .i64 0, .int .i64 0, .int .i64 5] 26)).alloc (.cells #[.int .i64 1, .int .i64 1, .int .i64 1, .int .i64 3, .int .i64 0, .int .i64 0, .int .i64 0, .int .i64 0, .int .i64 5] 26)))
  clear hB1 hB2
  go_wp2_with fail
  go_loopw [4] (fun i wx => ∃ q : Nat, q ≤ 9 ∧ i = .int .i64 (q : Int) ∧ New ((x9.alloc (.cells #[.int .i64 1, .int .i64 1, .int .i64 1, .int .i64 3, .int .i64 0, .int .i64 0, .int .i64 0, .int .i64 0, .int .i64 5] 26)).alloc (.cells #[.int .i64 1, .int .i64 1, .int .i64 1, .int .i64 3, .int .i64 0, .int .i64 0, .int .i64 0, .int .i64 0, .int .i64 5] 26)) wx) (fun i _ => 9 - (intOf i).toNat)
  case atStart => exact ⟨0, by omega, rfl, New.refl _⟩
  case round =>
    obtain ⟨q, hq, rfl, hx⟩ := hrel
    by_cases hq9 : q < 9
    · have w2' : IntKind.i64.wrap ((q : Int) + 1) = q + 1 := by rw [IntKind.wrap_i64]; omega
      obtain ⟨z, hz⟩ := known_list q hq9
      have c1 : wr.cell? ⟨x9.heap.size, q, none⟩ = some (.int .i64 z) := by rw [(HB.out.1.new_ hx).cell]; exact hz
      have c2 : wr.cell? ⟨x9.heap.size + 1, q, none⟩ = some (.int .i64 z) := by rw [(HB.out.2.new_ hx).cell]; exact hz
      have j0 : (0 : Int) ≤ (q : Int) := by omega
      have j1 : (q : Int) < 9 := by omega
      have HX := hid hx
      clear hx hz
      go_wp2_with fail
      go_quiet (fail)
      go_wp2_with fail
      exact ⟨⟨q + 1, by omega, by go_num, HX.out.drewN _⟩, by simp [intOf]; omega⟩
    · have hlt : ¬ (q : Int) < 9 := by omega
      have M0 := hid (KB.out.new_ hx)
      clear hx
      go_wp2_with fail
      refine (ofR M0.out 4 1 (by decide) (S := [[97], [98]]) (by rw [show namesOf L3 4 1 = [[98], [97]] from by decide]; exact sort_ba)).mono ?_
      rintro e y1 ⟨v1, rfl, hs1, m1⟩
      have hfm := hs1.form (by decide)
      obtain ⟨g, o, cap, rfl, _, _, _, hcl, _⟩ := hfm
      have d0 : y1.cell? ⟨g, o, none⟩ = some (st [97]) := by have := hcl 0 _ rfl; simpa using this
      have d1 : y1.cell? ⟨g, o + 1, none⟩ = some (st [98]) := hcl 1 _ rfl
      have hgb : ¬ g = b := fun e => by
        obtain ⟨_, arr, hb⟩ := hs1.blk (g := g) rfl
        exact (M0.out.new_ m1).1.2.1.ne_blk hb e
      have hgl : g < y1.heap.size := World.block_lt_of_cell? _ _ d0
      have M1 := hid (M0.out.new_ m1)
      clear hs1 m1 hcl
      go_wp2_with fail
      refine (dropR M1.out 4 [98] OK.out.2.1 (x := 1) (z := 0) (L' := L4) (by decide) (by decide) (by decide)).mono ?_
      rintro e y2 ⟨rfl, h2, k2⟩
      have M2 := hid h2
      have e0 := (k2.cells g o hgl hgb).trans d0
      have e1 := (k2.cells g (o + 1) hgl hgb).trans d1
      have hgl2 : g < y2.heap.size := World.block_lt_of_cell? _ _ e0
      clear h2 k2 d0 d1
      go_wp2_with fail
      refine (dropR M2.out 4 [98] OK.out.2.1 (x := 0) (z := 4) (L' := L4) (by decide) (by decide) (by decide)).mono ?_
      rintro e y3 ⟨rfl, h3, k3⟩
      have M3 := hid h3
      have f0 := (k3.cells g o hgl2 hgb).trans e0
      have f1 := (k3.cells g (o + 1) hgl2 hgb).trans e1
      have hgl3 : g < y3.heap.size := World.block_lt_of_cell? _ _ f0
      clear h3 k3 e0 e1
      go_wp2_with fail
      refine (dropR M3.out 9 [97] OK.out.2.2.2.2.2 (x := 0) (z := 4) (L' := L4) (by decide) (by decide) (by decide)).mono ?_
      rintro e y4 ⟨rfl, h4, k4⟩
      have M4 := hid h4
      have g0 := (k4.cells g o hgl3 hgb).trans f0
      have g1 := (k4.cells g (o + 1) hgl3 hgb).trans f1
      clear h4 k4 f0 f1
      go_wp2_with fail
      refine (findR M4.out 4 [98] OK.out.2.1 (x := 0) (z := false) (by decide) (by decide)).mono ?_
      rintro e y5 ⟨rfl, hy5⟩
      subst hy5
      go_wp2_with fail
      refine (lenR M4.out (n := 2) rfl).mono ?_
      rintro e y6 ⟨rfl, hy6⟩
      subst hy6
      go_wp2_with fail
      refine (forgetR M4.out 1 (by decide) (L' := L5) (by decide) (x := 1) (by decide)).mono ?_
      rintro e y7 ⟨rfl, h7, k7⟩
      have M7 := hid h7
      clear h7 k7
      go_wp2_with fail
      refine (lenR M7.out (n := 1) rfl).mono ?_
      rintro e y8 ⟨rfl, hy8⟩
      subst hy8
      go_wp2_with fail
      refine (ofR M7.out 4 1 (by decide) (S := []) (by rw [show namesOf L5 4 1 = [] from by decide]; unfold sortS; simp)).mono ?_
      rintro e y9 ⟨v9, rfl, hs9, m9⟩
      obtain ⟨va9, vc9, rfl⟩ := hs9.val
      have M9 := hid (M7.out.new_ m9)
      clear hs9 m9
      go_wp2
      go_ret
      exact ⟨rfl, HN.out.step M9.out.2.1⟩
theorem referKnown_row {H : Type} {enc : TypeId × Value → H} (W : World) {base : Nat}
    : Calls Try.prog 6 #[] W fun e W' => e = .returned (.bool true) ∧ Below W.heap.size W W' := by
  exact referKnown_walk W
end Go.Proofs.Ytakhidieomalhaa.Law
