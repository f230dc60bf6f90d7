/- The walk of FramesPlay. -/
import Derived.Test.YtfgfhaknecolpaaFramesAwake
import Derived.Test.YtfgfhaknecolpaaPlay
import Derived.Test.YtfgfhaknecolpaaRefMay
import Derived.Test.YtfgfhaknecolpaaWd
import Derived.BigQuiet
import Derived.Deep.CutRange
import Derived.Deep.CutBlock
import Derived.Deep.RegionHeld3
namespace Go.Proofs.Ytfgfhaknecolpaa.Law
open Go Go.RowKit Go.ChangeShapes Go.WideShapes Go.Deep Go.Proofs.Ytfgfhaknecolpaa.Kit Go.Proofs.Ytfgfhaknecolpaa.Wd Go.Proofs.Ytfgfhaknecolpaa.Frames Go.Proofs.Ytfgfhaknecolpaa.Point Go.Proofs.Ytfgfhaknecolpaa.Open
set_option linter.unusedSimpArgs false
set_option linter.unusedVariables false
theorem set_new {w w' : World} {G : Nat} (h : New w w') (hG : w.heap.size ≤ G) (a b c d : Value) : New w ((((w'.setCell ⟨G, 0, none⟩ a).setCell ⟨G, 1, none⟩ b).setCell ⟨G, 2, none⟩ c).setCell ⟨G, 3, none⟩ d) :=
  (((h.setCell (p := ⟨G, 0, none⟩) hG a).setCell (p := ⟨G, 1, none⟩) hG b).setCell (p := ⟨G, 2, none⟩) hG c).setCell (p := ⟨G, 3, none⟩) hG d
theorem set_keeps (w : World) (G : Nat) (a b c d : Value) : Keeps (fun k => k = G) w ((((w.setCell ⟨G, 0, none⟩ a).setCell ⟨G, 1, none⟩ b).setCell ⟨G, 2, none⟩ c).setCell ⟨G, 3, none⟩ d) :=
  Keeps.setCell (F := fun k => k = G) (Keeps.setCell (F := fun k => k = G) (Keeps.setCell (F := fun k => k = G) (Keeps.setCell (F := fun k => k = G) (Keeps.refl _ w) (.inr rfl) _) (.inr rfl) _) (.inr rfl) _) (.inr rfl) _
theorem set_blk {w : World} {G : Nat} {t : TypeId} {p q r s : Value} (h : Blk w G t #[p, q, r, s]) (a b c d : Value) : Blk ((((w.setCell ⟨G, 0, none⟩ a).setCell ⟨G, 1, none⟩ b).setCell ⟨G, 2, none⟩ c).setCell ⟨G, 3, none⟩ d) G t #[a, b, c, d] := by
  have := (((h.set 0 a).set 1 b).set 2 c).set 3 d
  simpa using this
theorem blk4 {w : World} {g : Nat} {t : TypeId} {a b c d : Value} (h : Blk w g t #[a, b, c, d]) : w.cell? ⟨g, 0, none⟩ = some a ∧ w.cell? ⟨g, 1, none⟩ = some b ∧ w.cell? ⟨g, 2, none⟩ = some c ∧ w.cell? ⟨g, 3, none⟩ = some d := by
  refine ⟨?_, ?_, ?_, ?_⟩ <;> rw [h.cell] <;> rfl
theorem cutq_any (u : Int) (w : World) : Calls Try.prog 17 #[.int .u64 u] w fun e w' => e = .returned (.int .u64 (Go.bits .and .u64 u 68719476735)) ∧ w' = w := by
  go_enter Try.func17, Try.ntmps17
  go_wp2
  go_ret
  exact ⟨rfl, rfl⟩
theorem last_of {L : List Fr} (h : L ≠ []) : ∃ M x, L = M ++ [x] := ⟨L.dropLast, L.getLast h, (List.dropLast_concat_getLast h).symm⟩
set_option maxRecDepth 100000 in
set_option maxHeartbeats 40000000 in
theorem framesPlay_walk (a : Option Addr) (n c : Nat) (f : Nat → Nat → Int) (hw : ∀ i, i < n → 0 ≤ f i 7 ∧ f i 7 < 18446744073709551616) (W : World)
    (hc : 0 < n → ∃ b o, a = some ⟨b, o, none⟩ ∧ b < W.heap.size ∧ ∀ i, i < n → (∀ j, j < 7 → W.cell? ⟨b, o + i * 8 + j, none⟩ = some (.int .i64 (f i j))) ∧ W.cell? ⟨b, o + i * 8 + 7, none⟩ = some (.int .u64 (f i 7))) :
    Calls Try.prog 3 #[.slice a n c] W fun e w' => e = .returned (.bool true) ∧ New W w' := by
  have H := hid hc
  have HW := hid hw
  clear hc hw
  have he := fun (a b c d a' b' c' d' : Int) w => neq_pt a b c d a' b' c' d' w
  go_enter Try.func3, Try.ntmps3
  go_wp2_with fail
  refine (awake_any W).mono ?_
  rintro e w0 ⟨rfl, n0⟩
  by_cases h300 : 300 < n
  · go_wp2
    go_ret
    exact ⟨rfl, n0⟩
  go_wp2_with fail
  refine (new_any w0).mono ?_
  rintro e w1 ⟨rfl, n1, a1⟩
  have a1 := a1 W.heap.size n0.size
  have n1 := n0.step n1
  have hb : ∀ {X : World} i, FT X W.heap.size i → W.heap.size ≤ i := fun i h => h.1
  have hz := Play.z_run w1
  have A := hid (And.intro (a1.new_ ((New.refl w1).alloc (.cells (zarr 8 (.slice none 0 0)) 27))) (And.intro (Play.At.new w1 W.heap.size n1.size) (n1.alloc (.cells (zarr 8 (.slice none 0 0)) 27))))
  clear a1 n1 n0
  go_wp2_with fail
  go_loopw [5] (fun i wr => ∃ (j : Nat) (S : Nat → List Fr), j ≤ n ∧ i = .int .i64 (j : Int) ∧ Frames.At wr W.heap.size w0.heap.size S ∧ Play.At wr W.heap.size w1.heap.size S ∧ New W wr) (fun i _ => n - (intOf i).toNat)
  case atStart => exact ⟨0, nothing, Nat.zero_le _, rfl, A.out.1, A.out.2.1, A.out.2.2⟩
  case round =>
    clear A hz
    obtain ⟨j, S, hj, rfl, hat, hpl, hnr⟩ := hrel
    have w1' : IntKind.i64.wrap ((j : Int) + 1) = j + 1 := by rw [IntKind.wrap_i64]; omega
    by_cases hjl : j < n
    · obtain ⟨b, o, rfl, hb', hcell⟩ := H.out (by omega)
      obtain ⟨hC, hC7⟩ := hcell j hjl
      have hwj := HW.out j hjl
      generalize f j = p at hC hC7 hwj
      have c0 : wr.cell? ⟨b, o + j * 8, none⟩ = some (.int .i64 (p 0)) := hnr.cellK (hC 0 (by decide))
      have c1 := hnr.cellK (hC 1 (by decide))
      have c2 := hnr.cellK (hC 2 (by decide))
      have c3 := hnr.cellK (hC 3 (by decide))
      have c4 := hnr.cellK (hC 4 (by decide))
      have c5 := hnr.cellK (hC 5 (by decide))
      have c6 := hnr.cellK (hC 6 (by decide))
      have c7 := hnr.cellK hC7
      have i0 : (0 : Int) ≤ (j : Int) := by omega
      have i1 : (j : Int) < (n : Int) := by omega
      clear hcell hC hC7
      by_cases hin : 0 ≤ p 1 ∧ p 1 < 8
      · obtain ⟨r, hr⟩ : ∃ r : Nat, p 1 = r := ⟨(p 1).toNat, by omega⟩
        have hr8 : r < 8 := by omega
        have i2 : (0 : Int) ≤ (r : Int) := by omega
        have i3 : (r : Int) < 8 := by omega
        obtain ⟨va, vc, hmc⟩ : ∃ va vc, wr.cell? ⟨w1.heap.size, r, none⟩ = some (.slice va (S r).length vc) := by
          obtain ⟨vs, ha, hs, _⟩ := hpl.row
          obtain ⟨va, vc, hv⟩ := (hs r hr8).val
          exact ⟨va, vc, by rw [ha.cell hr8, hv]⟩
        have hpw := hpl.lt
        obtain ⟨N, hN⟩ : ∃ N, N = (S r).length := ⟨_, rfl⟩
        rw [← hN] at hmc
        have HN := hid hN
        rw [hr] at c1
        clear hN hr
        go_upto_block 2 with fail
        go_cut [10, 11, 12, 13, 14, 15] from 25 to 235 (fun _ _ _ _ _ _ wx => ∃ S' : Nat → List Fr, Frames.At wx W.heap.size w0.heap.size S' ∧ Play.At wx W.heap.size w1.heap.size S' ∧ New W wx)
        case first =>
          have hBD := Blk.new wr 33 #[.int .i64 (p 0), .int .i64 (r : Int), .int .i64 (p 2), .int .i64 (p 3), .int .i64 (p 4), .int .i64 (p 5), .int .i64 (p 6), .int .u64 (p 7)]
          have hatD := hat.new_ ((New.refl wr).alloc (.cells #[.int .i64 (p 0), .int .i64 (r : Int), .int .i64 (p 2), .int .i64 (p 3), .int .i64 (p 4), .int .i64 (p 5), .int .i64 (p 6), .int .u64 (p 7)] 33))
          have hplD := hpl.new_ ((New.refl wr).alloc (.cells #[.int .i64 (p 0), .int .i64 (r : Int), .int .i64 (p 2), .int .i64 (p 3), .int .i64 (p 4), .int .i64 (p 5), .int .i64 (p 6), .int .u64 (p 7)] 33))
          have hnrD := hnr.alloc (.cells #[.int .i64 (p 0), .int .i64 (r : Int), .int .i64 (p 2), .int .i64 (p 3), .int .i64 (p 4), .int .i64 (p 5), .int .i64 (p 6), .int .u64 (p 7)] 33)
          have hmcD := ((New.refl wr).alloc (.cells #[.int .i64 (p 0), .int .i64 (r : Int), .int .i64 (p 2), .int .i64 (p 3), .int .i64 (p 4), .int .i64 (p 5), .int .i64 (p 6), .int .u64 (p 7)] 33)).cellK hmc
          generalize (wr.alloc (.cells #[.int .i64 (p 0), .int .i64 (r : Int), .int .i64 (p 2), .int .i64 (p 3), .int .i64 (p 4), .int .i64 (p 5), .int .i64 (p 6), .int .u64 (p 7)] 33)) = wD at *
          generalize wr.heap.size = D at *
          have dcells : ∀ X : World, Blk X D 33 #[.int .i64 (p 0), .int .i64 (r : Int), .int .i64 (p 2), .int .i64 (p 3), .int .i64 (p 4), .int .i64 (p 5), .int .i64 (p 6), .int .u64 (p 7)] → X.cell? ⟨D, 0, none⟩ = some (.int .i64 (p 0)) ∧ X.cell? ⟨D, 1, none⟩ = some (.int .i64 (r : Int)) ∧ X.cell? ⟨D, 2, none⟩ = some (.int .i64 (p 2)) ∧ X.cell? ⟨D, 3, none⟩ = some (.int .i64 (p 3)) ∧ X.cell? ⟨D, 4, none⟩ = some (.int .i64 (p 4)) ∧ X.cell? ⟨D, 5, none⟩ = some (.int .i64 (p 5)) ∧ X.cell? ⟨D, 6, none⟩ = some (.int .i64 (p 6)) ∧ X.cell? ⟨D, 7, none⟩ = some (.int .u64 (p 7)) := by
            intro X hX
            refine ⟨?_, ?_, ?_, ?_, ?_, ?_, ?_, ?_⟩ <;> (rw [hX.cell]; rfl)
          clear hat hpl hnr c0 c1 c2 c3 c4 c5 c6 c7 hmc
          obtain ⟨d0, d1, d2, d3, d4, d5, d6, d7⟩ := dcells _ hBD
          have DC := hid dcells
          clear dcells
          have hlen := hatD.len r
          rw [← HN.out] at hlen
          have hN0 : (0 : Int) ≤ (N : Int) := by omega
          by_cases hdo : p 0 ≤ 2
          · cases hm : mayB (p 3) (p 4) (p 5) (p 6) with
            | false =>
              have q1 := push_arg2 wD w0.heap.size (r : Int) (p 3) (p 4) (p 5) (p 6) (by omega) hm
              have q2 := refmay_any (p 3) (p 4) (p 5) (p 6)
              rw [hm] at q2
              have Q := hid (And.intro q1 q2)
              have A := hid (And.intro hatD (And.intro hplD (And.intro hnrD hBD)))
              clear q1 q2 hm hatD hplD hnrD hBD
              as_aux_lemma =>
              go_wp2_with fail
              refine Q.out.1.mono ?_
              rintro e w3 ⟨rfl, n3⟩
              obtain ⟨e0, e1, e2, e3, e4, e5, e6, e7⟩ := DC.out _ (A.out.2.2.2.new_ n3)
              clear d0 d1 d2 d3 d4 d5 d6 d7
              go_wp2_with fail
              refine (Q.out.2 _).mono ?_
              rintro e w4 ⟨rfl, n4⟩
              go_wp2_with fail
              go_meet
              exact ⟨S, A.out.1.new_ (n3.step n4), A.out.2.1.new_ (n3.step n4), A.out.2.2.1.step (n3.step n4)⟩
            | true =>
              have q2 := refmay_any (p 3) (p 4) (p 5) (p 6)
              rw [hm] at q2
              by_cases h16 : N = 16
              · have q1 := push_full wD _ _ _ hatD r hr8 (p 3) (p 4) (p 5) (p 6) hm (by rw [← HN.out]; exact h16)
                have Q := hid (And.intro q1 q2)
                have A := hid (And.intro hatD (And.intro hplD (And.intro hnrD hBD)))
                have hNb : ((N : Int) == 16) = true := by rw [beq_iff_eq]; omega
                have hNd : decide ((N : Int) = 16) = true := decide_eq_true (by omega)
                clear q1 q2 hm hatD hplD hnrD hBD h16
                as_aux_lemma =>
                go_wp2_with fail
                refine Q.out.1.mono ?_
                rintro e w3 ⟨rfl, n3⟩
                obtain ⟨e0, e1, e2, e3, e4, e5, e6, e7⟩ := DC.out _ (A.out.2.2.2.new_ n3)
                clear d0 d1 d2 d3 d4 d5 d6 d7
                go_wp2_with fail
                refine (Q.out.2 _).mono ?_
                rintro e w4 ⟨rfl, n4⟩
                go_wp2_with fail
                go_meet
                exact ⟨S, A.out.1.new_ (n3.step n4), A.out.2.1.new_ (n3.step n4), A.out.2.2.1.step (n3.step n4)⟩
              · have q1 := push_yes wD _ _ _ hatD hnrD.size r hr8 (p 3) (p 4) (p 5) (p 6) hm (by rw [← HN.out]; omega)
                have Q := hid (And.intro q1 q2)
                have A := hid (And.intro hplD (And.intro hnrD hBD))
                have hNi : ¬ (N : Int) = 16 := by omega
                have hN16 : N < 16 := by omega
                clear q1 q2 hm hatD hplD hnrD hBD h16
                go_wp2_with fail
                refine Q.out.1.mono ?_
                rintro e w3 ⟨rfl, a3, k3⟩
                have hB3 := A.out.2.2.keeps k3 (FT.not A.out.2.2 (by decide) (by decide))
                have hp3 := A.out.1.keeps k3 (fun i hi => Play.not_code hi)
                have hn3 := A.out.2.1.kept k3 hb
                obtain ⟨e0, e1, e2, e3, e4, e5, e6, e7⟩ := DC.out _ hB3
                clear d0 d1 d2 d3 d4 d5 d6 d7
                have hm3 := k3.cell hmcD (by
                  obtain ⟨vs, ⟨arr, hbx, _⟩, _⟩ := A.out.1.row
                  exact FT.not hbx (by decide) (by decide))
                have A3 := hid (And.intro a3 (And.intro hp3 (And.intro hn3 hB3)))
                clear a3 k3 hp3 hn3 hB3
                go_wp2_with fail
                refine (Q.out.2 _).mono ?_
                rintro e w4 ⟨rfl, n4⟩
                obtain ⟨f0, f1, f2, f3, f4, f5, f6, f7⟩ := DC.out _ (A3.out.2.2.2.new_ n4)
                clear e0 e1 e2 e3 e4 e5 e6 e7
                have hm4 := n4.cellK hm3
                have hpl4 := A3.out.2.1.new_ n4
                have hn4 := A3.out.2.2.1.step n4
                have hB4 := A3.out.2.2.2.new_ n4
                have hDl := hB4.lt
                have hGl := hpl4.lt
                have hfr4 : w4.frozen? ⟨w1.heap.size, r, none⟩ = false := by
                  obtain ⟨vs, ha, _⟩ := hpl4.row
                  exact ha.frozen r
                have hm4N : w4.cell? ⟨w1.heap.size, r, none⟩ = some (.slice va (S r).length vc) := by rw [← HN.out]; exact hm4
                have HX := hid (fun (X : World) (hX : New w4 X) v' w5 hs5 hg5 hb5 => hpl4.pushed (W := X) (w3 := w5) hr8 hm4N hX (x := (⟨fun _ => 0, p 3, p 4, p 5, p 6⟩ : Fr)) (v' := v') (by rw [← HN.out]; exact hN16) hn4.size hs5 hg5 hb5)
                have HS := hid (hpl4.sl hr8 hm4N)
                rw [← HN.out] at HS HX
                obtain ⟨ti, hi, hzz⟩ := Option.map_eq_some_iff.1 Play.mframe_info
                simp only [Prod.mk.injEq] at hzz
                obtain ⟨hz1, hz2, hz3⟩ := hzz
                obtain ⟨z, hz4, hz5⟩ := Option.map_eq_some_iff.1 hz1
                have HT := hid (And.intro hi (And.intro hz2 (And.intro hz3 (And.intro hz4 hz5))))
                have HNw : Hid (∀ X : World, X.heap[w4.heap.size]? = some (.cells (Play.mcells (⟨fun _ => 0, p 3, p 4, p 5, p 6⟩ : Fr)).toArray 39 (0, 0)) → ∀ j u, (Play.mcells (⟨fun _ => 0, p 3, p 4, p 5, p 6⟩ : Fr))[j]? = some u → X.cell? ((⟨w4.heap.size, 0, none⟩ : Addr).add j) = some u) := by
                  intro X hX j u hu
                  rw [Addr.add_lit, Nat.zero_add, Blk.cell hX, List.getElem?_toArray]
                  exact hu
                have HN1 : Hid (∀ u ∈ Play.mcells (⟨fun _ => 0, p 3, p 4, p 5, p 6⟩ : Fr), u.oneCell' = true) := by
                  intro u hu
                  simp only [Play.mcells, List.mem_cons, List.not_mem_nil, or_false] at hu
                  rcases hu with rfl | rfl | rfl | rfl | rfl | rfl | rfl | rfl | rfl | rfl | rfl <;> rfl
                have hbs : W.heap.size ≤ w4.heap.size := hn4.size
                have A4 := hid (And.intro (A3.out.1.new_ n4) hn4)
                have HD5 := hid (fun (X : World) (hX : New w4 X) (w5 : World) (hg : X.grownBy w5 (Value.slice va N vc).ownBlock) => (DC.out _ ((hB4.new_ hX).grown hg (fun e => by
                  obtain ⟨_, arr', hb'⟩ := HS.out.blk e.symm
                  exact absurd (hB4.inj hb') (by decide)))))
                have hDG : D ≠ w1.heap.size := by
                  rintro rfl
                  obtain ⟨vs, ⟨arr, hbx, _⟩, _⟩ := hpl4.row
                  exact absurd (hB4.inj hbx) (by decide)
                have KN : Hid (∀ X : World, New w4 X → X.cell? ⟨D, 1, none⟩ = some (.int .i64 (r : Int)) ∧ X.cell? ⟨D, 3, none⟩ = some (.int .i64 (p 3)) ∧ X.cell? ⟨D, 4, none⟩ = some (.int .i64 (p 4)) ∧ X.cell? ⟨D, 5, none⟩ = some (.int .i64 (p 5)) ∧ X.cell? ⟨D, 6, none⟩ = some (.int .i64 (p 6))) := fun X h => ⟨h.cellK f1, h.cellK f3, h.cellK f4, h.cellK f5, h.cellK f6⟩
                have KG : Hid (∀ X : World, (X.cell? ⟨D, 0, none⟩ = some (.int .i64 (p 0)) ∧ X.cell? ⟨D, 1, none⟩ = some (.int .i64 (r : Int)) ∧ X.cell? ⟨D, 2, none⟩ = some (.int .i64 (p 2)) ∧ X.cell? ⟨D, 3, none⟩ = some (.int .i64 (p 3)) ∧ X.cell? ⟨D, 4, none⟩ = some (.int .i64 (p 4)) ∧ X.cell? ⟨D, 5, none⟩ = some (.int .i64 (p 5)) ∧ X.cell? ⟨D, 6, none⟩ = some (.int .i64 (p 6)) ∧ X.cell? ⟨D, 7, none⟩ = some (.int .u64 (p 7))) → X.cell? ⟨D, 1, none⟩ = some (.int .i64 (r : Int)) ∧ X.cell? ⟨D, 3, none⟩ = some (.int .i64 (p 3)) ∧ X.cell? ⟨D, 4, none⟩ = some (.int .i64 (p 4)) ∧ X.cell? ⟨D, 5, none⟩ = some (.int .i64 (p 5)) ∧ X.cell? ⟨D, 6, none⟩ = some (.int .i64 (p 6))) := fun X h => ⟨h.2.1, h.2.2.2.1, h.2.2.2.2.1, h.2.2.2.2.2.1, h.2.2.2.2.2.2.1⟩
                have KS : Hid (∀ (X : World) (v : Value), (X.cell? ⟨D, 1, none⟩ = some (.int .i64 (r : Int)) ∧ X.cell? ⟨D, 3, none⟩ = some (.int .i64 (p 3)) ∧ X.cell? ⟨D, 4, none⟩ = some (.int .i64 (p 4)) ∧ X.cell? ⟨D, 5, none⟩ = some (.int .i64 (p 5)) ∧ X.cell? ⟨D, 6, none⟩ = some (.int .i64 (p 6))) → (X.setCell ⟨w1.heap.size, r, none⟩ v).cell? ⟨D, 1, none⟩ = some (.int .i64 (r : Int)) ∧ (X.setCell ⟨w1.heap.size, r, none⟩ v).cell? ⟨D, 3, none⟩ = some (.int .i64 (p 3)) ∧ (X.setCell ⟨w1.heap.size, r, none⟩ v).cell? ⟨D, 4, none⟩ = some (.int .i64 (p 4)) ∧ (X.setCell ⟨w1.heap.size, r, none⟩ v).cell? ⟨D, 5, none⟩ = some (.int .i64 (p 5)) ∧ (X.setCell ⟨w1.heap.size, r, none⟩ v).cell? ⟨D, 6, none⟩ = some (.int .i64 (p 6))) := fun X v h => by
                  refine ⟨?_, ?_, ?_, ?_, ?_⟩ <;> rw [World.cell?_setCell_far _ _ _ _ (fun e => hDG e.symm)]
                  · exact h.1
                  · exact h.2.1
                  · exact h.2.2.1
                  · exact h.2.2.2.1
                  · exact h.2.2.2.2
                clear hi hz1 hz2 hz3 hz4 hz5 hpl4 hn4 hB4 hm4N
                go_wp2_with fail
                refine wp_region_held_drew (S := fun w' => w'.cell? ⟨D, 1, none⟩ = some (.int .i64 (r : Int)) ∧ w'.cell? ⟨D, 3, none⟩ = some (.int .i64 (p 3)) ∧ w'.cell? ⟨D, 4, none⟩ = some (.int .i64 (p 4)) ∧ w'.cell? ⟨D, 5, none⟩ = some (.int .i64 (p 5)) ∧ w'.cell? ⟨D, 6, none⟩ = some (.int .i64 (p 6))) (by kernel_rfl) (KN.out _ (New.refl w4).drew) (fun hHeld => ?_)
                refine wpAnyH_take (i := 0) (v := ?_) rfl (by kernel_rfl) (by kernel_rfl) (by kernel_rfl) (fun _ _ _ h => h) (Or.inl ⟨by rfl, ?_⟩) (by assumption) ?_
                rotate_left
                · intro w hSw
                  try dsimp only at hSw
                  go_simp
                  with_reducible rfl
                try simp only [List.getElem_toArray, List.getElem_cons_zero, List.getElem_cons_succ, Act.put, List.setIfInBounds_toArray, List.set_cons_zero, List.set_cons_succ]
                refine wpAnyH_take (i := 1) (v := ?_) rfl (by kernel_rfl) (by kernel_rfl) (by kernel_rfl) (fun _ _ _ h => h) (Or.inl ⟨by rfl, ?_⟩) (by assumption) ?_
                rotate_left
                · intro w hSw
                  try dsimp only at hSw
                  go_simp
                  with_reducible rfl
                try simp only [List.getElem_toArray, List.getElem_cons_zero, List.getElem_cons_succ, Act.put, List.setIfInBounds_toArray, List.set_cons_zero, List.set_cons_succ]
                refine wpAnyH_take (i := 2) (v := ?_) rfl (by kernel_rfl) (by kernel_rfl) (by kernel_rfl) (fun _ _ _ h => h) (Or.inl ⟨by rfl, ?_⟩) (by assumption) ?_
                rotate_left
                · intro w hSw
                  try dsimp only at hSw
                  go_simp
                  with_reducible rfl
                try simp only [List.getElem_toArray, List.getElem_cons_zero, List.getElem_cons_succ, Act.put, List.setIfInBounds_toArray, List.set_cons_zero, List.set_cons_succ]
                refine wpAnyH_take (i := 3) (v := ?_) rfl (by kernel_rfl) (by kernel_rfl) (by kernel_rfl) (fun _ _ _ h => h) (Or.inl ⟨by rfl, ?_⟩) (by assumption) ?_
                rotate_left
                · intro w hSw
                  try dsimp only at hSw
                  go_simp
                  with_reducible rfl
                try simp only [List.getElem_toArray, List.getElem_cons_zero, List.getElem_cons_succ, Act.put, List.setIfInBounds_toArray, List.set_cons_zero, List.set_cons_succ]
                refine wpAnyH_take (i := 4) (v := ?_) rfl (by kernel_rfl) (by kernel_rfl) (by kernel_rfl) (fun _ _ _ h => h) (Or.inl ⟨by rfl, ?_⟩) (by assumption) ?_
                rotate_left
                · intro w hSw
                  try dsimp only at hSw
                  go_simp
                  with_reducible rfl
                try simp only [List.getElem_toArray, List.getElem_cons_zero, List.getElem_cons_succ, Act.put, List.setIfInBounds_toArray, List.set_cons_zero, List.set_cons_succ]
                refine wpAnyH_take (i := 6) (v := ?_) rfl (by kernel_rfl) (by kernel_rfl) (by kernel_rfl) (fun _ _ _ h => h) (Or.inl ⟨by rfl, ?_⟩) (by assumption) ?_
                rotate_left
                · intro w hSw
                  try dsimp only at hSw
                  go_simp
                  with_reducible rfl
                try simp only [List.getElem_toArray, List.getElem_cons_zero, List.getElem_cons_succ, Act.put, List.setIfInBounds_toArray, List.set_cons_zero, List.set_cons_succ]
                refine wpAnyH_take (i := 7) (v := ?_) rfl (by kernel_rfl) (by kernel_rfl) (by kernel_rfl) (fun _ _ _ h => h) (Or.inl ⟨by rfl, ?_⟩) (by assumption) ?_
                rotate_left
                · intro w hSw
                  try dsimp only at hSw
                  go_simp
                  with_reducible rfl
                try simp only [List.getElem_toArray, List.getElem_cons_zero, List.getElem_cons_succ, Act.put, List.setIfInBounds_toArray, List.set_cons_zero, List.set_cons_succ]
                refine wpAnyH_take (i := 8) (v := ?_) rfl (by kernel_rfl) (by kernel_rfl) (by kernel_rfl) (fun _ _ _ h => h) (Or.inl ⟨by rfl, ?_⟩) (by assumption) ?_
                rotate_left
                · intro w hSw
                  try dsimp only at hSw
                  go_simp
                  with_reducible rfl
                try simp only [List.getElem_toArray, List.getElem_cons_zero, List.getElem_cons_succ, Act.put, List.setIfInBounds_toArray, List.set_cons_zero, List.set_cons_succ]
                refine wpAnyH_ready (rs := [5, 9]) (by kernel_rfl) (by simp) ?_
                refine AllReadyH.cons rfl (fun K hK => ?_) (AllReadyH.cons rfl (fun K hK => ?_) AllReadyH.nil)
                · go_simp
                  refine hK.out _ _ ?_ (fun hHeld => ?_)
                  · assumption
                  clear hK K
                  try simp only [List.getElem_toArray, List.getElem_cons_zero, List.getElem_cons_succ, Act.put, List.setIfInBounds_toArray, List.set_cons_zero, List.set_cons_succ]
                  refine wpAnyH_ready (rs := [9]) (by kernel_rfl) (by simp) ?_
                  refine AllReadyH.cons rfl (fun K hK => ?_) AllReadyH.nil
                  go_simp
                  refine hK.out _ _ ?_ (fun hHeld => ?_)
                  · exact KN.out _ (((New.refl w4).alloc _).drew)
                  clear hK K
                  try simp only [List.getElem_toArray, List.getElem_cons_zero, List.getElem_cons_succ, Act.put, List.setIfInBounds_toArray, List.set_cons_zero, List.set_cons_succ]
                  refine wpAnyH_ready (rs := [10]) (by kernel_rfl) (by simp) ?_
                  refine AllReadyH.cons rfl (fun K hK => ?_) AllReadyH.nil
                  refine step_append_sl rfl (.tmp 142) (.tmp 146) 26 rfl W.heap.size 39 ti z 11 88 Try.underlying26 HT.out.1 HT.out.2.2.2.1 HT.out.2.1 HT.out.2.2.1 HT.out.2.2.2.2 (by decide) (.slice va N vc) N (Play.flat (S r)) rfl (HS.out.new_ (((New.refl _).alloc _).drew)) ⟨w4.heap.size, 0, none⟩ 1 1 (Play.mcells (⟨fun _ => 0, p 3, p 4, p 5, p 6⟩ : Fr)) rfl (by decide) rfl (HNw.out _ (heap_alloc_new w4 _)) HN1.out (by unfold maxLen; omega) (by omega) (by show W.heap.size ≤ (w4.alloc _).heap.size; rw [World.size_alloc]; omega) ?_; intro v' w5 hs5 hg5 hb5; obtain ⟨a', cap', rfl⟩ := hs5.val; obtain ⟨hc5, hf5, hA5⟩ := HX.out _ (((New.refl _).alloc _).drew) _ w5 hs5 hg5 hb5; have HA5 := hid hA5; clear hA5
                  refine hK.out _ _ ?_ (fun hHeld => ?_)
                  · exact KG.out _ (HD5.out _ (((New.refl _).alloc _).drew) _ hg5)
                  clear hK K
                  try simp only [List.getElem_toArray, List.getElem_cons_zero, List.getElem_cons_succ, Act.put, List.setIfInBounds_toArray, List.set_cons_zero, List.set_cons_succ]
                  refine wpAnyH_ready (rs := [11]) (by kernel_rfl) (by simp) ?_
                  refine AllReadyH.cons rfl (fun K hK => ?_) AllReadyH.nil
                  go_simp
                  refine hK.out _ _ ?_ (fun hHeld => ?_)
                  · assumption
                  clear hK K
                  try simp only [List.getElem_toArray, List.getElem_cons_zero, List.getElem_cons_succ, Act.put, List.setIfInBounds_toArray, List.set_cons_zero, List.set_cons_succ]
                  refine wpAnyH_ready (rs := [12]) (by kernel_rfl) (by simp) ?_
                  refine AllReadyH.cons rfl (fun K hK => ?_) AllReadyH.nil
                  go_simp
                  refine hK.out _ _ ?_ (fun hHeld => ?_)
                  · exact KS.out _ _ (by assumption)
                  clear hK K
                  try simp only [List.getElem_toArray, List.getElem_cons_zero, List.getElem_cons_succ, Act.put, List.setIfInBounds_toArray, List.set_cons_zero, List.set_cons_succ]
                  refine wpAnyH_done (by kernel_rfl) ?_ _
                  go_wp2_with fail
                  go_meet
                  exact ⟨_, A4.out.1.keeps HA5.out.2 (fun i hi hp => Play.not_code hp hi), HA5.out.1, A4.out.2.kept HA5.out.2 (fun i hi => hi.1)⟩
                · go_simp
                  refine hK.out _ _ ?_ (fun hHeld => ?_)
                  · exact KN.out _ (((New.refl w4).alloc _).drew)
                  clear hK K
                  try simp only [List.getElem_toArray, List.getElem_cons_zero, List.getElem_cons_succ, Act.put, List.setIfInBounds_toArray, List.set_cons_zero, List.set_cons_succ]
                  refine wpAnyH_ready (rs := [5]) (by kernel_rfl) (by simp) ?_
                  refine AllReadyH.cons rfl (fun K hK => ?_) AllReadyH.nil
                  go_simp
                  refine hK.out _ _ ?_ (fun hHeld => ?_)
                  · assumption
                  clear hK K
                  try simp only [List.getElem_toArray, List.getElem_cons_zero, List.getElem_cons_succ, Act.put, List.setIfInBounds_toArray, List.set_cons_zero, List.set_cons_succ]
                  refine wpAnyH_ready (rs := [10]) (by kernel_rfl) (by simp) ?_
                  refine AllReadyH.cons rfl (fun K hK => ?_) AllReadyH.nil
                  refine step_append_sl rfl (.tmp 142) (.tmp 146) 26 rfl W.heap.size 39 ti z 11 88 Try.underlying26 HT.out.1 HT.out.2.2.2.1 HT.out.2.1 HT.out.2.2.1 HT.out.2.2.2.2 (by decide) (.slice va N vc) N (Play.flat (S r)) rfl (HS.out.new_ (((New.refl _).alloc _).drew)) ⟨w4.heap.size, 0, none⟩ 1 1 (Play.mcells (⟨fun _ => 0, p 3, p 4, p 5, p 6⟩ : Fr)) rfl (by decide) rfl (HNw.out _ (heap_alloc_new w4 _)) HN1.out (by unfold maxLen; omega) (by omega) (by show W.heap.size ≤ (w4.alloc _).heap.size; rw [World.size_alloc]; omega) ?_; intro v' w5 hs5 hg5 hb5; obtain ⟨a', cap', rfl⟩ := hs5.val; obtain ⟨hc5, hf5, hA5⟩ := HX.out _ (((New.refl _).alloc _).drew) _ w5 hs5 hg5 hb5; have HA5 := hid hA5; clear hA5
                  refine hK.out _ _ ?_ (fun hHeld => ?_)
                  · exact KG.out _ (HD5.out _ (((New.refl _).alloc _).drew) _ hg5)
                  clear hK K
                  try simp only [List.getElem_toArray, List.getElem_cons_zero, List.getElem_cons_succ, Act.put, List.setIfInBounds_toArray, List.set_cons_zero, List.set_cons_succ]
                  refine wpAnyH_ready (rs := [11]) (by kernel_rfl) (by simp) ?_
                  refine AllReadyH.cons rfl (fun K hK => ?_) AllReadyH.nil
                  go_simp
                  refine hK.out _ _ ?_ (fun hHeld => ?_)
                  · assumption
                  clear hK K
                  try simp only [List.getElem_toArray, List.getElem_cons_zero, List.getElem_cons_succ, Act.put, List.setIfInBounds_toArray, List.set_cons_zero, List.set_cons_succ]
                  refine wpAnyH_ready (rs := [12]) (by kernel_rfl) (by simp) ?_
                  refine AllReadyH.cons rfl (fun K hK => ?_) AllReadyH.nil
                  go_simp
                  refine hK.out _ _ ?_ (fun hHeld => ?_)
                  · exact KS.out _ _ (by assumption)
                  clear hK K
                  try simp only [List.getElem_toArray, List.getElem_cons_zero, List.getElem_cons_succ, Act.put, List.setIfInBounds_toArray, List.set_cons_zero, List.set_cons_succ]
                  refine wpAnyH_done (by kernel_rfl) ?_ _
                  go_wp2_with fail
                  go_meet
                  exact ⟨_, A4.out.1.keeps HA5.out.2 (fun i hi hp => Play.not_code hp hi), HA5.out.1, A4.out.2.kept HA5.out.2 (fun i hi => hi.1)⟩
          · by_cases hdo4 : p 0 ≤ 4
            · by_cases hN0' : N = 0
              · have hS0 : S r = [] := List.eq_nil_of_length_eq_zero (by rw [← HN.out]; exact hN0')
                have et : topE S r = 18 := by unfold topE; rw [if_pos (by omega), Int.toNat_natCast, if_pos hS0]
                have q1 := Top_no wD _ _ _ hatD r (by rw [et]; decide)
                have q2 := fun X (h : New wD X) => Pop_no X _ _ _ (hatD.new_ h) r (by rw [et]; decide)
                rw [et] at q1 q2
                have Q := hid (And.intro q1 q2)
                have A := hid (And.intro hatD (And.intro hplD (And.intro hnrD hBD)))
                have hNb : ((N : Int) == 0) = true := by rw [beq_iff_eq]; omega
                have hNd : decide ((N : Int) = 0) = true := decide_eq_true (by omega)
                have hpt : ptEq 0 0 0 0 0 0 0 0 = true := rfl
                clear q1 q2 hatD hplD hnrD hBD hN0' hS0 et
                by_cases h3 : p 0 = 3
                · have h3b : (p 0 == 3) = true := beq_iff_eq.2 h3
                  have h3d : decide (p 0 = 3) = true := decide_eq_true h3
                  clear h3
                  as_aux_lemma =>
                  go_wp2_with fail
                  refine Q.out.1.mono ?_
                  rintro e w3 ⟨rfl, n3⟩
                  obtain ⟨e0, e1, e2, e3, e4, e5, e6, e7⟩ := DC.out _ (A.out.2.2.2.new_ n3)
                  clear d0 d1 d2 d3 d4 d5 d6 d7
                  have hD3 := (A.out.2.2.2.new_ n3).lt
                  go_wp2_with fail
                  refine (Q.out.2 _ (n3.alloc _)).mono ?_
                  rintro e w4 ⟨rfl, n4⟩
                  have hc := boxed n4
                  have hf := fun i => ((Blk.new w3 29 _).new_ n4).frozen i
                  obtain ⟨f0, f1, f2, f3, f4, f5, f6, f7⟩ := DC.out _ (((A.out.2.2.2.new_ n3).alloc (.cells #[.int .i64 0, .int .i64 0, .int .i64 0, .int .i64 0] 29)).new_ n4)
                  clear e0 e1 e2 e3 e4 e5 e6 e7
                  have hn34 : New wD w4 := (n3.alloc _).step n4
                  have HS := hid (And.intro n3.size hn34)
                  go_wp2_with fail
                  go_meet
                  have hF := set_new HS.out.2 HS.out.1 (.int .i64 0) (.int .i64 0) (.int .i64 0) (.int .i64 0)
                  exact ⟨S, A.out.1.new_ hF, A.out.2.1.new_ hF, A.out.2.2.1.step hF⟩
                · have h3b : (p 0 == 3) = false := by simpa using h3
                  have h3d : decide (p 0 = 3) = false := decide_eq_false h3
                  clear h3
                  as_aux_lemma =>
                  go_wp2_with fail
                  refine Q.out.1.mono ?_
                  rintro e w3 ⟨rfl, n3⟩
                  obtain ⟨e0, e1, e2, e3, e4, e5, e6, e7⟩ := DC.out _ (A.out.2.2.2.new_ n3)
                  clear d0 d1 d2 d3 d4 d5 d6 d7
                  have hD3 := (A.out.2.2.2.new_ n3).lt
                  go_wp2_with fail
                  go_meet
                  exact ⟨S, A.out.1.new_ (n3.alloc _), A.out.2.1.new_ (n3.alloc _), A.out.2.2.1.step (n3.alloc _)⟩
              · obtain ⟨L, x, hS⟩ := last_of (show S r ≠ [] from fun e => hN0' (by rw [HN.out, e]; rfl))
                obtain ⟨M, hM⟩ : ∃ M, M = L.length := ⟨_, rfl⟩
                have hNM : N = M + 1 := by rw [HN.out, hS, hM]; simp
                have hM16 : M < 16 := by omega
                have q1 := Top_yes wD _ _ _ hatD r hr8 L x hS
                have hNb : ((N : Int) == 0) = false := by simp; omega
                have hNd : decide ((N : Int) = 0) = false := decide_eq_false (by omega)
                have hNs : IntKind.i64.wrap ((N : Int) - 1) = (M : Int) := by rw [IntKind.wrap_i64]; omega
                have hpt : ∀ a b c d : Int, ptEq a b c d a b c d = true := fun a b c d => ptEq_iff.2 ⟨rfl, rfl, rfl, rfl⟩
                have u0 : (0 : Int) ≤ (M : Int) := by omega
                have u1 : (M : Int) < (N : Int) := by omega
                have hNi : (0 : Int) ≤ (N : Int) := by omega
                have A := hid (And.intro hatD (And.intro hplD (And.intro hnrD (And.intro hBD (And.intro hS (And.intro hM hNM))))))
                have Q1 := hid q1
                clear q1 hatD hplD hnrD hBD hS hM hNM hN0' hlen
                by_cases h3 : p 0 = 3
                · have h3b : (p 0 == 3) = true := beq_iff_eq.2 h3
                  have h3d : decide (p 0 = 3) = true := decide_eq_true h3
                  clear h3
                  as_aux_lemma => --[[ pop
                  go_wp2_with fail
                  refine Q1.out.mono ?_
                  rintro e w3 ⟨rfl, n3⟩
                  obtain ⟨wE, hwE⟩ : ∃ wE, wE = w3.alloc (.cells #[.int .i64 x.a, .int .i64 x.b, .int .i64 x.c, .int .i64 x.d] 29) := ⟨_, rfl⟩
                  obtain ⟨E, hE⟩ : ∃ E, E = w3.heap.size := ⟨_, rfl⟩
                  have nE : New w3 wE := by rw [hwE]; exact (New.refl _).alloc _
                  have hbE : Blk wE E 29 #[.int .i64 x.a, .int .i64 x.b, .int .i64 x.c, .int .i64 x.d] := by rw [hwE, hE]; exact Blk.new _ _ _
                  have nDE := n3.step nE
                  have hDE : ¬ D = E := by have := A.out.2.2.2.1.lt; have := n3.size; omega
                  obtain ⟨e0, e1, e2, e3, e4, e5, e6, e7⟩ := DC.out _ (A.out.2.2.2.1.new_ nDE)
                  have hnE := A.out.2.2.1.step nDE
                  have hPop := Pop_yes wE _ _ _ (A.out.1.new_ nDE) hnE.size r hr8 L x A.out.2.2.2.2.1
                  have hWE : W.heap.size ≤ E := by rw [hE]; exact (A.out.2.2.1.step n3).size
                  have H3 := hid (And.intro hPop (And.intro nDE (And.intro hbE (And.intro hnE hWE))))
                  clear n3 nE hbE nDE hnE hPop hWE d0 d1 d2 d3 d4 d5 d6 d7
                  go_upto_region 46 with fail
                  rw [← hwE, ← hE]
                  clear hwE hE
                  go_wp2_with fail
                  refine H3.out.1.mono ?_
                  rintro e w4 ⟨rfl, a4, k4⟩
                  have hB4 := (A.out.2.2.2.1.new_ H3.out.2.1).keeps k4 (FT.not (A.out.2.2.2.1.new_ H3.out.2.1) (by decide) (by decide))
                  have hE4 := H3.out.2.2.1.keeps k4 (FT.not H3.out.2.2.1 (by decide) (by decide))
                  have hp4 := (A.out.2.1.new_ H3.out.2.1).keeps k4 (fun i hi => Play.not_code hi)
                  have hn4 := H3.out.2.2.2.1.kept k4 hb
                  obtain ⟨wF, hwF⟩ : ∃ wF, wF = (((w4.setCell ⟨E, 0, none⟩ (.int .i64 x.a)).setCell ⟨E, 1, none⟩ (.int .i64 x.b)).setCell ⟨E, 2, none⟩ (.int .i64 x.c)).setCell ⟨E, 3, none⟩ (.int .i64 x.d) := ⟨_, rfl⟩
                  have kF : Keeps (fun k => k = E) w4 wF := by rw [hwF]; exact set_keeps w4 E _ _ _ _
                  have hEF : Blk wF E 29 #[.int .i64 x.a, .int .i64 x.b, .int .i64 x.c, .int .i64 x.d] := by rw [hwF]; exact set_blk hE4 _ _ _ _
                  have hBF := hB4.keeps kF hDE
                  have hpF := hp4.keeps kF (fun i hi e => by subst e; exact Play.FT.not hE4 (by decide) (by decide) hi)
                  have haF := a4.keeps kF (fun i hi e => by subst e; exact FT.not hE4 (by decide) (by decide) hi)
                  have hnF := hn4.kept kF (fun i hi => by rw [hi]; exact H3.out.2.2.2.2)
                  obtain ⟨k0, k1, k2, k3⟩ := blk4 hE4
                  have kf := hE4.frozen
                  have H4 := hid (And.intro hBF (And.intro hEF (And.intro hpF (And.intro haF hnF))))
                  clear a4 k4 hB4 hE4 hp4 hn4 kF hEF hBF hpF haF hnF e0 e1 e2 e3 e4 e5 e6 e7
                  go_upto_region 48 with fail
                  rw [← hwF]
                  clear hwF k0 k1 k2 k3 kf
                  obtain ⟨k0, k1, k2, k3⟩ := blk4 H4.out.2.1
                  obtain ⟨e0, e1, e2, e3, e4, e5, e6, e7⟩ := DC.out _ H4.out.1
                  obtain ⟨g, o2, cap, hmE, hcap, hfr, _, hfz, _, hcut2⟩ := H4.out.2.2.1.top hr8 A.out.2.2.2.2.1
                  rw [← A.out.2.2.2.2.2.1] at hcap
                  rw [← A.out.2.2.2.2.2.1, ← A.out.2.2.2.2.2.2] at hmE
                  rw [← A.out.2.2.2.2.2.1] at hfr hcut2
                  have m0 := hfr 0 _ rfl
                  have m1 := hfr 1 _ rfl
                  have m2 := hfr 2 _ rfl
                  have m3 := hfr 3 _ rfl
                  rw [Nat.add_zero] at m0
                  have HC := hid (And.intro hcut2 hfz)
                  clear hfr hcut2 hfz
                  go_upto_region 51 with fail
                  refine wp_region_quiet (C := fun w' => New wF w') (by kernel_rfl) (by kernel_rfl) (New.refl wF).drew ?_
                  simp only [List.toList_toArray]
                  repeat (first
                    | go_big_quiet_skip
                    | (go_big_quiet_want
                       apply Exists.intro
                       refine ⟨fun w' hw' => ?_, ?_⟩
                       · have e1_ := hw'.cellK e1; have k0_ := hw'.cellK k0; have k1_ := hw'.cellK k1; have k2_ := hw'.cellK k2; have k3_ := hw'.cellK k3; have hmE_ := hw'.cellK hmE; have m0_ := hw'.cellK m0; have m1_ := hw'.cellK m1; have m2_ := hw'.cellK m2; have m3_ := hw'.cellK m3; go_simp; first | (with_reducible rfl)
                       go_big_quiet_on
                       try simp only [Act.put, List.setIfInBounds_toArray, List.set_cons_zero, List.set_cons_succ]))
                  refine wpQuiet_nil ?_
                  intro wQ hwQ
                  have v1 : (M : Int) ≤ (cap : Int) := by omega
                  have v2 : (0 : Int) ≤ (M : Int) := by omega
                  obtain ⟨f0, f1, f2, f3, f4, f5, f6, f7⟩ := DC.out _ (H4.out.1.new_ hwQ)
                  have hmQ := hwQ.cellK hmE
                  have hfQ : wQ.frozen? ⟨w1.heap.size, r, none⟩ = false := by
                    obtain ⟨vs, ha, _⟩ := (H4.out.2.2.1.new_ hwQ).row
                    exact ha.frozen r
                  have hDW : ¬ D = w1.heap.size := by
                    rintro rfl
                    obtain ⟨vs, ⟨arr, hbx, _⟩, _⟩ := H4.out.2.2.1.row
                    exact absurd (H4.out.1.inj hbx) (by decide)
                  have HQ := hid hwQ
                  clear e0 e1 e2 e3 e4 e5 e6 e7 k0 k1 k2 k3 hmE m0 m1 m2 m3 hwQ
                  go_upto_region 54 with fail
                  go_region_with (fail)
                  all_goals
                    have hcc := HC.out.1 wQ.drew (HQ.out.drew)
                    have hck := hcc.2.trans ((Keeps.refl (fun _ => False) _).drewN 0) (fun _ _ h => h.elim)
                    go_wp2_with fail
                    go_meet
                    exact ⟨upd S r L, H4.out.2.2.2.1.keeps hcc.2 (fun i hi hp => Play.not_code hp hi), hcc.1, H4.out.2.2.2.2.kept hcc.2 (fun i hi => hi.1)⟩
                  --]] pop
                · have h3b : (p 0 == 3) = false := by simpa using h3
                  have h3d : decide (p 0 = 3) = false := decide_eq_false h3
                  clear h3
                  as_aux_lemma => --[[ top
                  go_wp2_with fail
                  refine Q1.out.mono ?_
                  rintro e w3 ⟨rfl, n3⟩
                  obtain ⟨wE, hwE⟩ : ∃ wE, wE = w3.alloc (.cells #[.int .i64 x.a, .int .i64 x.b, .int .i64 x.c, .int .i64 x.d] 29) := ⟨_, rfl⟩
                  obtain ⟨E, hE⟩ : ∃ E, E = w3.heap.size := ⟨_, rfl⟩
                  have nE : New w3 wE := by rw [hwE]; exact (New.refl _).alloc _
                  have hbE : Blk wE E 29 #[.int .i64 x.a, .int .i64 x.b, .int .i64 x.c, .int .i64 x.d] := by rw [hwE, hE]; exact Blk.new _ _ _
                  have nDE := n3.step nE
                  obtain ⟨e0, e1, e2, e3, e4, e5, e6, e7⟩ := DC.out _ (A.out.2.2.2.1.new_ nDE)
                  obtain ⟨k0, k1, k2, k3⟩ := blk4 hbE
                  have hplE := A.out.2.1.new_ nDE
                  obtain ⟨g, o2, cap, hmE, _, hfr, _, _, _, _⟩ := hplE.top hr8 A.out.2.2.2.2.1
                  rw [← A.out.2.2.2.2.2.1, ← A.out.2.2.2.2.2.2] at hmE
                  rw [← A.out.2.2.2.2.2.1] at hfr
                  have m0 := hfr 0 _ rfl
                  have m1 := hfr 1 _ rfl
                  have m2 := hfr 2 _ rfl
                  have m3 := hfr 3 _ rfl
                  rw [Nat.add_zero] at m0
                  have H3 := hid (And.intro nDE hplE)
                  clear n3 nE hbE nDE hplE hfr d0 d1 d2 d3 d4 d5 d6 d7
                  go_upto_region 46 with fail
                  rw [← hwE, ← hE]
                  clear hwE hE
                  go_upto_region 51 with fail
                  refine wp_region_quiet (C := fun w' => New wE w') (by kernel_rfl) (by kernel_rfl) (New.refl wE).drew ?_
                  simp only [List.toList_toArray]
                  repeat (first
                    | go_big_quiet_skip
                    | (go_big_quiet_want
                       apply Exists.intro
                       refine ⟨fun w' hw' => ?_, ?_⟩
                       · have e1_ := hw'.cellK e1; have k0_ := hw'.cellK k0; have k1_ := hw'.cellK k1; have k2_ := hw'.cellK k2; have k3_ := hw'.cellK k3; have hmE_ := hw'.cellK hmE; have m0_ := hw'.cellK m0; have m1_ := hw'.cellK m1; have m2_ := hw'.cellK m2; have m3_ := hw'.cellK m3; go_simp; first | (with_reducible rfl)
                       go_big_quiet_on
                       try simp only [Act.put, List.setIfInBounds_toArray, List.set_cons_zero, List.set_cons_succ]))
                  refine wpQuiet_nil ?_
                  intro wQ hwQ
                  obtain ⟨f0, f1, f2, f3, f4, f5, f6, f7⟩ := DC.out _ (A.out.2.2.2.1.new_ (H3.out.1.step hwQ))
                  clear e0 e1 e2 e3 e4 e5 e6 e7
                  go_wp2_with fail
                  go_meet
                  exact ⟨S, A.out.1.new_ (H3.out.1.step hwQ), H3.out.2.new_ hwQ, A.out.2.2.1.step (H3.out.1.step hwQ)⟩
                  --]] top
            · have hd5 : ¬ p 0 ≤ 2 := hdo
              have hpt : ∀ a b c d : Int, ptEq a b c d a b c d = true := fun a b c d => ptEq_iff.2 ⟨rfl, rfl, rfl, rfl⟩
              by_cases hwe : wordE S r (p 2) = 0
              · have ht0 : topE S r = 0 := by
                  unfold wordE at hwe
                  by_cases h : topE S r = 0
                  · exact h
                  · rw [if_neg h] at hwe; exact absurd hwe h
                obtain ⟨r', L, x, hrr, _, hS⟩ := topE_zero ht0
                obtain rfl : r = r' := by omega
                have hk7 : 0 ≤ p 2 ∧ p 2 < 7 := by
                  unfold wordE at hwe
                  rw [if_pos ht0] at hwe
                  by_cases h : 0 ≤ p 2 ∧ p 2 < 7
                  · exact h
                  · rw [if_neg h] at hwe; exact absurd hwe (by decide)
                obtain ⟨k, hk⟩ : ∃ k : Nat, p 2 = (k : Int) := ⟨(p 2).toNat, by omega⟩
                have hkk : k < 7 := by omega
                obtain ⟨M, hM⟩ : ∃ M, M = L.length := ⟨_, rfl⟩
                have hNM : N = M + 1 := by rw [HN.out, hS, hM]; simp
                have hNb : ((N : Int) == 0) = false := by simp; omega
                have hNd : decide ((N : Int) = 0) = false := decide_eq_false (by omega)
                have hNs : IntKind.i64.wrap ((N : Int) - 1) = (M : Int) := by rw [IntKind.wrap_i64]; omega
                have u0 : (0 : Int) ≤ (M : Int) := by omega
                have u1 : (M : Int) < (N : Int) := by omega
                have u2 : (0 : Int) ≤ (k : Int) := by omega
                have u3 : (k : Int) < 7 := by omega
                have u4 : ¬ (k : Int) < 0 := by omega
                have u5 : ¬ 7 ≤ (k : Int) := by omega
                rw [hk] at d2
                have A := hid (And.intro hatD (And.intro hplD (And.intro hnrD (And.intro hBD (And.intro hS (And.intro hM (And.intro hNM hk)))))))
                by_cases h5 : p 0 = 5
                · have h5b : (p 0 == 5) = true := beq_iff_eq.2 h5
                  have h5d : decide (p 0 = 5) = true := decide_eq_true h5
                  have q1 := read_yes wD _ _ _ hatD r hr8 L x hS k hkk
                  obtain ⟨g, o2, cap, hmE, _, hfr, _, _, _, _⟩ := hplD.top hr8 hS
                  rw [← hM, ← hNM] at hmE
                  have m0 := hfr (4 + k) _ (Play.cells_get x k hkk)
                  rw [← hM, ← Nat.add_assoc] at m0
                  have Q1 := hid q1
                  clear q1 h5 hfr hatD hplD hnrD hBD hS hM hNM hwe ht0 hk7 hkk hlen hk hrr
                  as_aux_lemma => --[[ rd1
                  go_wp2_with fail
                  refine Q1.out.mono ?_
                  rintro e w3 ⟨rfl, rfl⟩
                  go_wp2_with fail
                  clear hmcD
                  go_quiet (fail)
                  go_wp2_with fail
                  go_meet
                  exact ⟨S, A.out.1.drewN _, A.out.2.1.drewN _, A.out.2.2.1.drewN _⟩
                  --]] rd1
                · have h5b : (p 0 == 5) = false := by simpa using h5
                  have h5d : decide (p 0 = 5) = false := decide_eq_false h5
                  have q1 := write_yes wD _ _ _ hatD r hr8 L x hS k hkk (p 7)
                  have Q1 := hid q1
                  have HK := hid hkk
                  clear q1 h5 hatD hplD hnrD hBD hS hM hNM hwe ht0 hk7 hkk hlen hk hrr
                  as_aux_lemma => --[[ wr1
                  go_wp2_with fail
                  refine Q1.out.mono ?_
                  rintro e w4 ⟨rfl, a4, k4⟩
                  have hB4 := A.out.2.2.2.1.keeps k4 (FT.not A.out.2.2.2.1 (by decide) (by decide))
                  have hp4 := A.out.2.1.keeps k4 (fun i hi => Play.not_code hi)
                  have hn4 := A.out.2.2.1.kept k4 hb
                  obtain ⟨e0, e1, e2, e3, e4, e5, e6, e7⟩ := DC.out _ hB4
                  rw [A.out.2.2.2.2.2.2.2] at e2
                  obtain ⟨g, o2, cap, hmE, hcap, _, hfg, _, hset, _⟩ := hp4.top hr8 A.out.2.2.2.2.1
                  rw [← A.out.2.2.2.2.2.1, ← A.out.2.2.2.2.2.2.1] at hmE
                  rw [← A.out.2.2.2.2.2.1] at hset
                  obtain ⟨_, arrg, hbg⟩ := (hp4.sl hr8 hmE).blk (g := g) rfl
                  have hgD : ¬ g = D := by rintro rfl; exact absurd (hB4.inj hbg) (by decide)
                  have hgW : ¬ g = w1.heap.size := by
                    rintro rfl
                    obtain ⟨vs, ⟨arr, hbx, _⟩, _⟩ := hp4.row
                    exact absurd (hbx.inj hbg) (by decide)
                  have hgc : ∃ u, w4.cell? ⟨g, o2 + M * 11 + 4 + k, none⟩ = some u := by
                    obtain ⟨g', o', cap', hm', _, hf', _⟩ := hp4.top hr8 A.out.2.2.2.2.1
                    rw [← A.out.2.2.2.2.2.1, ← A.out.2.2.2.2.2.2.1, hmE] at hm'
                    cases hm'
                    have := hf' (4 + k) _ (Play.cells_get x k HK.out)
                    rw [← A.out.2.2.2.2.2.1, ← Nat.add_assoc] at this
                    exact ⟨_, this⟩
                  obtain ⟨ug, hug⟩ := hgc
                  have HC := hid (And.intro hset (And.intro a4 hn4))
                  have HQ := hid (cutq_any (p 7))
                  clear a4 k4 hB4 hp4 hn4 hset hbg hcap d0 d1 d2 d3 d4 d5 d6 d7
                  go_wp2_with fail
                  go_region_held3 (fun w' => w'.cell? ⟨D, 1, none⟩ = some (.int .i64 (r : Int)) ∧ w'.cell? ⟨D, 2, none⟩ = some (.int .i64 (k : Int)) ∧ w'.cell? ⟨D, 7, none⟩ = some (.int .u64 (p 7)) ∧ w'.cell? ⟨w1.heap.size, r, none⟩ = some (.slice (some ⟨g, o2, none⟩) N cap)) ((simp [*, World.cell?_alloc_some, World.cell?_setCell_far, cell?_setBlock]; done)) (first | (go_at_call 17; (with_reducible refine (HQ.out _).mono ?_); rintro e w5 ⟨rfl, rfl⟩))
                  all_goals
                    have hcc := HC.out.1 w4.drew ((New.refl w4).drew) k (Go.bits .and .u64 (p 7) 68719476735) HK.out
                    go_wp2_with fail
                    go_meet
                    exact ⟨_, HC.out.2.1.keeps hcc.2 (fun i hi hp => Play.not_code hp hi), hcc.1, HC.out.2.2.kept hcc.2 (fun i hi => hi.1)⟩
                  --]] wr1
              · have A := hid (And.intro hatD (And.intro hplD (And.intro hnrD hBD)))
                obtain ⟨E, hE⟩ : ∃ E, E = wordE S r (p 2) := ⟨_, rfl⟩
                have hEv : (N = 0 ∧ E = 18) ∨ (¬ N = 0 ∧ E = 8 ∧ (p 2 < 0 ∨ 7 ≤ p 2)) := by
                  by_cases hN0' : N = 0
                  · have hS0 : S r = [] := List.eq_nil_of_length_eq_zero (by rw [← HN.out]; exact hN0')
                    have et : topE S r = 18 := by unfold topE; rw [if_pos (by omega), Int.toNat_natCast, if_pos hS0]
                    left
                    refine ⟨hN0', ?_⟩
                    rw [hE]
                    unfold wordE
                    rw [et]
                    rfl
                  · obtain ⟨L, x, hS⟩ := last_of (show S r ≠ [] from fun e => hN0' (by rw [HN.out, e]; rfl))
                    have et := topE_app hr8 hS
                    right
                    unfold wordE at hE hwe
                    rw [if_pos et] at hE hwe
                    by_cases h : 0 ≤ p 2 ∧ p 2 < 7
                    · rw [if_pos h] at hwe; exact absurd rfl hwe
                    · rw [if_neg h] at hE
                      exact ⟨hN0', hE, by omega⟩
                have q1 := read_no wD _ _ _ hatD r (p 2) hwe
                have q2 := write_no wD _ _ _ hatD r (p 2) (p 7) hwe
                rw [← hE] at q1 q2
                have Q := hid (And.intro q1 q2)
                clear q1 q2 hE hwe hatD hplD hnrD hBD hlen
                as_aux_lemma => --[[ no
                rcases hEv with ⟨hN0', rfl⟩ | ⟨hN0', rfl, hoff⟩
                · have hNb : ((N : Int) == 0) = true := by rw [beq_iff_eq]; omega
                  have hNd : decide ((N : Int) = 0) = true := decide_eq_true (by omega)
                  clear hN0'
                  by_cases h5 : p 0 = 5
                  · have h5b : (p 0 == 5) = true := beq_iff_eq.2 h5
                    have h5d : decide (p 0 = 5) = true := decide_eq_true h5
                    clear h5
                    as_aux_lemma =>
                    go_wp2_with fail
                    refine Q.out.1.mono ?_
                    rintro e w3 ⟨rfl, rfl⟩
                    go_wp2_with fail
                    go_quiet (fail)
                    go_wp2_with fail
                    go_meet
                    exact ⟨S, A.out.1.drewN _, A.out.2.1.drewN _, A.out.2.2.1.drewN _⟩
                  · have h5b : (p 0 == 5) = false := by simpa using h5
                    have h5d : decide (p 0 = 5) = false := decide_eq_false h5
                    clear h5
                    as_aux_lemma =>
                    go_wp2_with fail
                    refine Q.out.2.mono ?_
                    rintro e w3 ⟨rfl, rfl⟩
                    go_wp2_with fail
                    go_meet
                    exact ⟨S, A.out.1, A.out.2.1, A.out.2.2.1⟩
                · have hNb : ((N : Int) == 0) = false := by simp; omega
                  have hNd : decide ((N : Int) = 0) = false := decide_eq_false (by omega)
                  clear hN0'
                  rcases hoff with hoff | hoff
                  all_goals
                    (first | (have hof2 : ¬ p 2 < 0 := by omega) | skip)
                    by_cases h5 : p 0 = 5
                    · have h5b : (p 0 == 5) = true := beq_iff_eq.2 h5
                      have h5d : decide (p 0 = 5) = true := decide_eq_true h5
                      clear h5
                      as_aux_lemma =>
                      go_wp2_with fail
                      refine Q.out.1.mono ?_
                      rintro e w3 ⟨rfl, rfl⟩
                      go_wp2_with fail
                      go_quiet (fail)
                      go_wp2_with fail
                      go_meet
                      exact ⟨S, A.out.1.drewN _, A.out.2.1.drewN _, A.out.2.2.1.drewN _⟩
                    · have h5b : (p 0 == 5) = false := by simpa using h5
                      have h5d : decide (p 0 = 5) = false := decide_eq_false h5
                      clear h5
                      as_aux_lemma =>
                      go_wp2_with fail
                      refine Q.out.2.mono ?_
                      rintro e w3 ⟨rfl, rfl⟩
                      go_wp2_with fail
                      go_meet
                      exact ⟨S, A.out.1, A.out.2.1, A.out.2.2.1⟩
                --]] no
        case rest =>
          as_aux_lemma =>
          obtain ⟨S', hat', hpl', hnr'⟩ := hcut
          have A := hid (And.intro hat' (And.intro hpl' hnr'))
          clear hat hpl hnr hat' hpl' hnr' c0 c1 c2 c3 c4 c5 c6 c7 hmc HN
          go_wp2_with fail
          go_loopw [16] (fun i wr => ∃ q : Nat, q ≤ 8 ∧ i = .int .i64 (q : Int) ∧ Frames.At wr W.heap.size w0.heap.size S' ∧ Play.At wr W.heap.size w1.heap.size S' ∧ New W wr) (fun i _ => 8 - (intOf i).toNat)
          case atStart => exact ⟨0, by omega, rfl, A.out.1, A.out.2.1, A.out.2.2⟩
          case round =>
            clear A
            obtain ⟨q, hq, rfl, hat, hpl, hnr⟩ := hrel
            have w2' : IntKind.i64.wrap ((q : Int) + 1) = q + 1 := by rw [IntKind.wrap_i64]; omega
            by_cases hql : q < 8
            · have hD := fun n => depth_yes (wr.drewN n) _ _ _ (hat.drewN n) q hql
              obtain ⟨va2, vc2, hmc2⟩ : ∃ va vc, wr.cell? ⟨w1.heap.size, q, none⟩ = some (.slice va (S' q).length vc) := by
                obtain ⟨vs, ha, hs, _⟩ := hpl.row
                obtain ⟨va, vc, hv⟩ := (hs q hql).val
                exact ⟨va, vc, by rw [ha.cell hql, hv]⟩
              generalize (S' q).length = M at hD hmc2
              have j0 : (0 : Int) ≤ (q : Int) := by omega
              have j1 : (q : Int) < 8 := by omega
              have HD := hid (fun n => (hD n).mono (fun e w' h => (⟨h.1, 0, h.2.symm⟩ : e = .returned (.int .i64 (M : Int)) ∧ ∃ m, w' = (wr.drewN n).drewN m)))
              clear hD
              go_wp2_with fail
              go_quiet (first | (go_at_call 18; exact Calls.quiet_of (HD.out _)))
              go_wp2_with fail
              go_roundw
              case rel => exact ⟨q + 1, by omega, by go_num, hat.drewN nq, hpl.drewN nq, hnr.drewN nq⟩
              case measure => simp [intOf]; omega
            · have j1 : ¬ (q : Int) < 8 := by omega
              go_wp2_with fail
              go_roundw
              case rel => exact ⟨j + 1, S', by omega, by go_num, hat, hpl, hnr⟩
              case measure => simp [intOf]; omega
      · -- out
        as_aux_lemma => --[[ out
        have hBD := Blk.new wr 33 #[.int .i64 (p 0), .int .i64 (p 1), .int .i64 (p 2), .int .i64 (p 3), .int .i64 (p 4), .int .i64 (p 5), .int .i64 (p 6), .int .u64 (p 7)]
        have hatD := hat.new_ ((New.refl wr).alloc (.cells #[.int .i64 (p 0), .int .i64 (p 1), .int .i64 (p 2), .int .i64 (p 3), .int .i64 (p 4), .int .i64 (p 5), .int .i64 (p 6), .int .u64 (p 7)] 33))
        have hplD := hpl.new_ ((New.refl wr).alloc (.cells #[.int .i64 (p 0), .int .i64 (p 1), .int .i64 (p 2), .int .i64 (p 3), .int .i64 (p 4), .int .i64 (p 5), .int .i64 (p 6), .int .u64 (p 7)] 33))
        have hnrD := hnr.alloc (.cells #[.int .i64 (p 0), .int .i64 (p 1), .int .i64 (p 2), .int .i64 (p 3), .int .i64 (p 4), .int .i64 (p 5), .int .i64 (p 6), .int .u64 (p 7)] 33)
        go_upto_region 13 with fail
        generalize (wr.alloc (.cells #[.int .i64 (p 0), .int .i64 (p 1), .int .i64 (p 2), .int .i64 (p 3), .int .i64 (p 4), .int .i64 (p 5), .int .i64 (p 6), .int .u64 (p 7)] 33)) = wD at *
        generalize wr.heap.size = D at *
        have dcells : ∀ X : World, Blk X D 33 #[.int .i64 (p 0), .int .i64 (p 1), .int .i64 (p 2), .int .i64 (p 3), .int .i64 (p 4), .int .i64 (p 5), .int .i64 (p 6), .int .u64 (p 7)] → X.cell? ⟨D, 0, none⟩ = some (.int .i64 (p 0)) ∧ X.cell? ⟨D, 1, none⟩ = some (.int .i64 (p 1)) ∧ X.cell? ⟨D, 2, none⟩ = some (.int .i64 (p 2)) ∧ X.cell? ⟨D, 3, none⟩ = some (.int .i64 (p 3)) ∧ X.cell? ⟨D, 4, none⟩ = some (.int .i64 (p 4)) ∧ X.cell? ⟨D, 5, none⟩ = some (.int .i64 (p 5)) ∧ X.cell? ⟨D, 6, none⟩ = some (.int .i64 (p 6)) ∧ X.cell? ⟨D, 7, none⟩ = some (.int .u64 (p 7)) := by
          intro X hX
          refine ⟨?_, ?_, ?_, ?_, ?_, ?_, ?_, ?_⟩ <;> (rw [hX.cell]; rfl)
        obtain ⟨d0, d1, d2, d3, d4, d5, d6, d7⟩ := dcells _ hBD
        have DC := hid dcells
        clear dcells hat hpl hnr c0 c1 c2 c3 c4 c5 c6 c7
        have et : topE S (p 1) = 1 := by unfold topE; rw [if_neg hin]
        have q0 := push_arg1 wD w0.heap.size (p 1) (p 3) (p 4) (p 5) (p 6) hin
        have q1 := Top_no wD _ _ _ hatD (p 1) (by rw [et]; decide)
        have q2 := fun X (h : New wD X) => Pop_no X _ _ _ (hatD.new_ h) (p 1) (by rw [et]; decide)
        have ew : wordE S (p 1) (p 2) = 1 := by unfold wordE; rw [et]; rfl
        have q3 := read_no wD _ _ _ hatD (p 1) (p 2) (by rw [ew]; decide)
        have q4 := write_no wD _ _ _ hatD (p 1) (p 2) (p 7) (by rw [ew]; decide)
        rw [et] at q1 q2
        rw [ew] at q3 q4
        have Q := hid (And.intro q0 (And.intro q1 (And.intro q2 (And.intro q3 q4))))
        have A := hid (And.intro hatD (And.intro hplD (And.intro hnrD hBD)))
        have hpt : ptEq 0 0 0 0 0 0 0 0 = true := rfl
        clear q0 q1 q2 q3 q4 et ew hatD hplD hnrD hBD
        go_cut [7] from 35 to 42 (fun v wx => v = .bool false ∧ wx = wD)
        case first =>
          by_cases hneg : 0 ≤ p 1
          · have h8 : ¬ p 1 < 8 := fun h => hin ⟨hneg, h⟩
            clear hin
            go_wp2_with fail
            go_meet
            exact ⟨rfl, rfl⟩
          · clear hin
            go_wp2_with fail
            go_meet
            exact ⟨rfl, rfl⟩
        case rest =>
          obtain ⟨rfl, rfl⟩ := hcut
          obtain ⟨wD, hwD⟩ : ∃ wD, wD = wc := ⟨_, rfl⟩
          subst hwD
          clear hin
          go_upto_block 2 with fail
          go_cut [10, 11, 12, 13, 14, 15] from 25 to 235 (fun _ _ _ _ _ _ wx => ∃ S' : Nat → List Fr, Frames.At wx W.heap.size w0.heap.size S' ∧ Play.At wx W.heap.size w1.heap.size S' ∧ New W wx)
          case first =>
            by_cases hdo : p 0 ≤ 2
            · as_aux_lemma =>
              go_wp2_with fail
              refine Q.out.1.mono ?_
              rintro e w3 ⟨rfl, n3⟩
              obtain ⟨e0, e1, e2, e3, e4, e5, e6, e7⟩ := DC.out _ (A.out.2.2.2.new_ n3)
              clear d0 d1 d2 d3 d4 d5 d6 d7
              go_wp2_with fail
              go_meet
              exact ⟨S, A.out.1.new_ n3, A.out.2.1.new_ n3, A.out.2.2.1.step n3⟩
            · by_cases hdo4 : p 0 ≤ 4
              · by_cases h3 : p 0 = 3
                · have h3b : (p 0 == 3) = true := beq_iff_eq.2 h3
                  have h3d : decide (p 0 = 3) = true := decide_eq_true h3
                  clear h3
                  as_aux_lemma =>
                  go_wp2_with fail
                  refine Q.out.2.1.mono ?_
                  rintro e w3 ⟨rfl, n3⟩
                  obtain ⟨e0, e1, e2, e3, e4, e5, e6, e7⟩ := DC.out _ (A.out.2.2.2.new_ n3)
                  clear d0 d1 d2 d3 d4 d5 d6 d7
                  have hD3 := (A.out.2.2.2.new_ n3).lt
                  go_wp2_with fail
                  refine (Q.out.2.2.1 _ (n3.alloc _)).mono ?_
                  rintro e w4 ⟨rfl, n4⟩
                  have hc := boxed n4
                  have hf := fun i => ((Blk.new w3 29 _).new_ n4).frozen i
                  obtain ⟨f0, f1, f2, f3, f4, f5, f6, f7⟩ := DC.out _ (((A.out.2.2.2.new_ n3).alloc (.cells #[.int .i64 0, .int .i64 0, .int .i64 0, .int .i64 0] 29)).new_ n4)
                  clear e0 e1 e2 e3 e4 e5 e6 e7
                  have hn34 : New wD w4 := (n3.alloc _).step n4
                  have HS := hid (And.intro n3.size hn34)
                  go_wp2_with fail
                  go_meet
                  have hF := set_new HS.out.2 HS.out.1 (.int .i64 0) (.int .i64 0) (.int .i64 0) (.int .i64 0)
                  exact ⟨S, A.out.1.new_ hF, A.out.2.1.new_ hF, A.out.2.2.1.step hF⟩
                · have h3b : (p 0 == 3) = false := by simpa using h3
                  have h3d : decide (p 0 = 3) = false := decide_eq_false h3
                  clear h3
                  as_aux_lemma =>
                  go_wp2_with fail
                  refine Q.out.2.1.mono ?_
                  rintro e w3 ⟨rfl, n3⟩
                  obtain ⟨e0, e1, e2, e3, e4, e5, e6, e7⟩ := DC.out _ (A.out.2.2.2.new_ n3)
                  clear d0 d1 d2 d3 d4 d5 d6 d7
                  have hD3 := (A.out.2.2.2.new_ n3).lt
                  go_wp2_with fail
                  go_meet
                  exact ⟨S, A.out.1.new_ (n3.alloc _), A.out.2.1.new_ (n3.alloc _), A.out.2.2.1.step (n3.alloc _)⟩
              · by_cases h5 : p 0 = 5
                · have h5b : (p 0 == 5) = true := beq_iff_eq.2 h5
                  have h5d : decide (p 0 = 5) = true := decide_eq_true h5
                  clear h5
                  as_aux_lemma =>
                  go_wp2_with fail
                  refine Q.out.2.2.2.1.mono ?_
                  rintro e w3 ⟨rfl, rfl⟩
                  go_wp2_with fail
                  go_quiet (fail)
                  go_wp2_with fail
                  go_meet
                  exact ⟨S, A.out.1.drewN _, A.out.2.1.drewN _, A.out.2.2.1.drewN _⟩
                · have h5b : (p 0 == 5) = false := by simpa using h5
                  have h5d : decide (p 0 = 5) = false := decide_eq_false h5
                  clear h5
                  as_aux_lemma =>
                  go_wp2_with fail
                  refine Q.out.2.2.2.2.mono ?_
                  rintro e w3 ⟨rfl, rfl⟩
                  go_wp2_with fail
                  go_meet
                  exact ⟨S, A.out.1, A.out.2.1, A.out.2.2.1⟩
          case rest =>
            as_aux_lemma =>
            obtain ⟨S', hat', hpl', hnr'⟩ := hcut
            have A2 := hid (And.intro hat' (And.intro hpl' hnr'))
            clear hat' hpl' hnr' d0 d1 d2 d3 d4 d5 d6 d7 A
            go_wp2_with fail
            go_loopw [16] (fun i wr => ∃ q : Nat, q ≤ 8 ∧ i = .int .i64 (q : Int) ∧ Frames.At wr W.heap.size w0.heap.size S' ∧ Play.At wr W.heap.size w1.heap.size S' ∧ New W wr) (fun i _ => 8 - (intOf i).toNat)
            case atStart => exact ⟨0, by omega, rfl, A2.out.1, A2.out.2.1, A2.out.2.2⟩
            case round =>
              clear A2
              obtain ⟨q, hq, rfl, hat, hpl, hnr⟩ := hrel
              have w2' : IntKind.i64.wrap ((q : Int) + 1) = q + 1 := by rw [IntKind.wrap_i64]; omega
              by_cases hql : q < 8
              · have hD := fun n => depth_yes (wr.drewN n) _ _ _ (hat.drewN n) q hql
                obtain ⟨va2, vc2, hmc2⟩ : ∃ va vc, wr.cell? ⟨w1.heap.size, q, none⟩ = some (.slice va (S' q).length vc) := by
                  obtain ⟨vs, ha, hs, _⟩ := hpl.row
                  obtain ⟨va, vc, hv⟩ := (hs q hql).val
                  exact ⟨va, vc, by rw [ha.cell hql, hv]⟩
                generalize (S' q).length = M at hD hmc2
                have j0 : (0 : Int) ≤ (q : Int) := by omega
                have j1 : (q : Int) < 8 := by omega
                have HD := hid (fun n => (hD n).mono (fun e w' h => (⟨h.1, 0, h.2.symm⟩ : e = .returned (.int .i64 (M : Int)) ∧ ∃ m, w' = (wr.drewN n).drewN m)))
                clear hD
                go_wp2_with fail
                go_quiet (first | (go_at_call 18; exact Calls.quiet_of (HD.out _)))
                go_wp2_with fail
                go_roundw
                case rel => exact ⟨q + 1, by omega, by go_num, hat.drewN nq, hpl.drewN nq, hnr.drewN nq⟩
                case measure => simp [intOf]; omega
              · have j1 : ¬ (q : Int) < 8 := by omega
                go_wp2_with fail
                go_roundw
                case rel => exact ⟨j + 1, S', by omega, by go_num, hat, hpl, hnr⟩
                case measure => simp [intOf]; omega
        --]] out
    · have hje : n = j := by omega
      subst hje
      have j1 : ¬ (n : Int) < (n : Int) := by omega
      have hd1 := fun X => depth_no X w0.heap.size (-1) (by decide)
      have hd2 := fun X => depth_no X w0.heap.size 8 (by decide)
      have HD := hid (And.intro hd1 (And.intro hd2 hnr))
      clear hd1 hd2 hnr hat hpl
      as_aux_lemma => --[[ exit
      go_wp2_with fail
      refine (HD.out.1 _).mono ?_
      rintro e w3 ⟨rfl, rfl⟩
      go_wp2_with fail
      refine (HD.out.2.1 _).mono ?_
      rintro e w3 ⟨rfl, rfl⟩
      go_wp2_with fail
      go_ret
      exact ⟨rfl, HD.out.2.2⟩
      --]] exit
end Go.Proofs.Ytfgfhaknecolpaa.Law
