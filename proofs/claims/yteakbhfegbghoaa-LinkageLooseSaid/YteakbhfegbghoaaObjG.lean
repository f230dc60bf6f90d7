/- The contracts of links, fits, May, Words. -/
import Derived.Test.YteakbhfegbghoaaObjF
namespace Go.Proofs.Yteakbhfegbghoaa.Obj
open Go Go.RowKit Go.Maps Go.Proofs.Yteakbhfegbghoaa.Kit Go.Proofs.Yteakbhfegbghoaa.Str Go.Proofs.Yteakbhfegbghoaa.Names Go.Proofs.Yteakbhfegbghoaa.Let
open Go.Proofs.Yteakbhfegbghoaa.Letters (wv WsAt word_info)
set_option linter.unusedSimpArgs false
set_option linter.unusedVariables false
theorem links_bad {ls : List Lk} {k : Nat} {x : Lk} (hx : ls[k]? = some x) (h : linkB x = false) : linksB ls = false := by
  unfold linksB
  rw [Bool.and_eq_false_iff]
  left
  rw [List.all_eq_false]
  exact ⟨x, List.mem_of_getElem? hx, by rw [h]; decide⟩
set_option maxRecDepth 100000 in
set_option maxHeartbeats 4000000 in
theorem links_any (w : World) (v : Value) (ls : List Lk) (h : LsAt 3 ul w v ls) (hL : ∀ x ∈ ls, x.1.length ≤ maxLen ∧ x.2.1.length ≤ maxLen) :
    Calls Try.prog 65 #[v] w fun e w' => e = .returned (.bool (linksB ls)) ∧ New w w' := by
  obtain ⟨a1, cc, ea, hk1, hk1m, _⟩ := id h
  obtain ⟨n, hn⟩ : ∃ m, m = ls.length := ⟨_, rfl⟩
  rw [← hn] at ea hk1
  subst ea
  unfold maxLen at hk1m
  have HA := hid (And.intro h (And.intro hL hn))
  clear h hL hn
  go_enter Try.func65, Try.ntmps65
  go_wp2_with fail
  go_loopw [7] (fun i wr => ∃ k : Nat, k ≤ n ∧ i = .int .i64 (k : Int) ∧ New w wr ∧ ∀ x ∈ ls.take k, linkB x = true) (fun i _ => n - (intOf i).toNat)
  case atStart => exact ⟨0, Nat.zero_le _, rfl, New.refl _, fun x hx => by simp at hx⟩
  case round =>
    obtain ⟨k, hk, rfl, hnr, hall⟩ := hrel
    by_cases hkn : k < n
    · have w2' : IntKind.i64.wrap ((k : Int) + 1) = k + 1 := by rw [IntKind.wrap_i64]; omega
      obtain ⟨bb, oo, x, rfl, hx, _, hcell⟩ := (HA.out.1.new_ hnr).get hkn
      obtain ⟨sg, nm, of⟩ := x
      have c0 := hcell 0 _ rfl
      have c1 := hcell 1 _ rfl
      have c2 := hcell 2 _ rfl
      rw [Nat.add_zero] at c0
      have j0 : (0 : Int) ≤ (k : Int) := by omega
      have j1 : (k : Int) < (n : Int) := by omega
      obtain ⟨hl1, hl2⟩ := HA.out.2.1 _ (List.mem_of_getElem? hx)
      obtain ⟨w4, hw4⟩ : ∃ w4, w4 = wr.alloc (.cells #[.string ⟨sg.toArray⟩, .string ⟨nm.toArray⟩, .int .i64 of] 38) := ⟨_, rfl⟩
      obtain ⟨D, hD⟩ : ∃ D, D = wr.heap.size := ⟨_, rfl⟩
      have hn4 : New wr w4 := by rw [hw4]; exact (New.refl _).alloc _
      have hd4 : Blk w4 D 38 #[.string ⟨sg.toArray⟩, .string ⟨nm.toArray⟩, .int .i64 of] := by rw [hw4, hD]; exact Blk.new _ _ _
      have d0 : w4.cell? ⟨D, 0, none⟩ = some (.string ⟨sg.toArray⟩) := by rw [hd4.cell]; rfl
      have d1 : w4.cell? ⟨D, 1, none⟩ = some (.string ⟨nm.toArray⟩) := by rw [hd4.cell]; rfl
      have d2 : w4.cell? ⟨D, 2, none⟩ = some (.int .i64 of) := by rw [hd4.cell]; rfl
      have HX := hid (And.intro hx (And.intro (hnr.step hn4) hall))
      clear hx hnr hall hcell hn4 hd4
      have hM2 := fun X => may_any nm (by unfold maxLen at hl2; exact hl2) X
      by_cases h0 : sg = []
      · subst h0
        by_cases h1 : signsB nm 32 = true
        · rw [h1] at hM2
          by_cases h3 : 0 ≤ of
          · have h3' : ¬ of < 0 := by omega
            by_cases h4 : of ≤ 262143
            · have h4' : ¬ 262143 < of := by omega
              have hall' : ∀ x ∈ ls.take (k + 1), linkB x = true := fun x hx => by
                rw [take_snoc HX.out.1] at hx
                rcases List.mem_append.1 hx with hx | hx
                · exact HX.out.2.2 x hx
                · rw [List.mem_singleton.1 hx]; unfold linkB; simp [h1, h3, h4, true_or]
              have HG := hid hall'
              clear h1 hall'
              go_wp2_with fail
              rw [← hw4, ← hD]
              clear hw4 hD
              refine (hM2 _).mono ?_
              rintro e w6 ⟨rfl, j2, rfl⟩
              go_wp2_with fail
              exact ⟨⟨k + 1, by omega, by go_num, HX.out.2.1.drewN _, HG.out⟩, by simp [intOf]; omega⟩
            · have h4' : 262143 < of := by omega
              have HF := hid (show linksB ls = false from links_bad HX.out.1 (by unfold linkB; simp [h1, h3, h4]))
              clear h1
              go_wp2_with fail
              rw [← hw4, ← hD]
              clear hw4 hD
              refine (hM2 _).mono ?_
              rintro e w6 ⟨rfl, j2, rfl⟩
              go_wp2_with fail
              go_ret
              exact ⟨ret_bool HF.out.symm, HX.out.2.1.drewN _⟩
          · have h3' : of < 0 := by omega
            have HF := hid (show linksB ls = false from links_bad HX.out.1 (by unfold linkB; simp [h1, h3]))
            clear h1 h3
            go_wp2_with fail
            rw [← hw4, ← hD]
            clear hw4 hD
            refine (hM2 _).mono ?_
            rintro e w6 ⟨rfl, j2, rfl⟩
            go_wp2_with fail
            go_ret
            exact ⟨ret_bool HF.out.symm, HX.out.2.1.drewN _⟩
        · have h1' : signsB nm 32 = false := by simpa using h1
          rw [h1'] at hM2
          have HF := hid (show linksB ls = false from links_bad HX.out.1 (by unfold linkB; simp [h1']))
          clear h1 h1'
          go_wp2_with fail
          rw [← hw4, ← hD]
          clear hw4 hD
          refine (hM2 _).mono ?_
          rintro e w6 ⟨rfl, j2, rfl⟩
          go_wp2_with fail
          go_ret
          exact ⟨ret_bool HF.out.symm, HX.out.2.1.drewN _⟩
      · have hM1 := fun X => may_any sg (by unfold maxLen at hl1; exact hl1) X
        have h0' : (sg == []) = false := beq_eq_false_iff_ne.2 h0
        by_cases hs : signsB sg 32 = true
        · rw [hs] at hM1
          by_cases h1 : signsB nm 32 = true
          · rw [h1] at hM2
            by_cases h3 : 0 ≤ of
            · have h3' : ¬ of < 0 := by omega
              by_cases h4 : of ≤ 262143
              · have h4' : ¬ 262143 < of := by omega
                have hall' : ∀ x ∈ ls.take (k + 1), linkB x = true := fun x hx => by
                  rw [take_snoc HX.out.1] at hx
                  rcases List.mem_append.1 hx with hx | hx
                  · exact HX.out.2.2 x hx
                  · rw [List.mem_singleton.1 hx]; unfold linkB; simp [h1, h3, h4, hs]
                have HG := hid hall'
                clear h1 hall'
                have hsh := hid hs
                clear hs
                go_wp2_with fail
                rw [← hw4, ← hD]
                clear hw4 hD
                refine (hM1 _).mono ?_
                rintro e w5 ⟨rfl, j, rfl⟩
                go_wp2_with fail
                refine (hM2 _).mono ?_
                rintro e w6 ⟨rfl, j2, rfl⟩
                go_wp2_with fail
                exact ⟨⟨k + 1, by omega, by go_num, HX.out.2.1.drewN _, HG.out⟩, by simp [intOf]; omega⟩
              · have h4' : 262143 < of := by omega
                have HF := hid (show linksB ls = false from links_bad HX.out.1 (by unfold linkB; simp [h1, h3, h4]))
                clear h1
                have hsh := hid hs
                clear hs
                go_wp2_with fail
                rw [← hw4, ← hD]
                clear hw4 hD
                refine (hM1 _).mono ?_
                rintro e w5 ⟨rfl, j, rfl⟩
                go_wp2_with fail
                refine (hM2 _).mono ?_
                rintro e w6 ⟨rfl, j2, rfl⟩
                go_wp2_with fail
                go_ret
                exact ⟨ret_bool HF.out.symm, HX.out.2.1.drewN _⟩
            · have h3' : of < 0 := by omega
              have HF := hid (show linksB ls = false from links_bad HX.out.1 (by unfold linkB; simp [h1, h3]))
              clear h1 h3
              have hsh := hid hs
              clear hs
              go_wp2_with fail
              rw [← hw4, ← hD]
              clear hw4 hD
              refine (hM1 _).mono ?_
              rintro e w5 ⟨rfl, j, rfl⟩
              go_wp2_with fail
              refine (hM2 _).mono ?_
              rintro e w6 ⟨rfl, j2, rfl⟩
              go_wp2_with fail
              go_ret
              exact ⟨ret_bool HF.out.symm, HX.out.2.1.drewN _⟩
          · have h1' : signsB nm 32 = false := by simpa using h1
            rw [h1'] at hM2
            have HF := hid (show linksB ls = false from links_bad HX.out.1 (by unfold linkB; simp [h1']))
            clear h1 h1'
            have hsh := hid hs
            clear hs
            go_wp2_with fail
            rw [← hw4, ← hD]
            clear hw4 hD
            refine (hM1 _).mono ?_
            rintro e w5 ⟨rfl, j, rfl⟩
            go_wp2_with fail
            refine (hM2 _).mono ?_
            rintro e w6 ⟨rfl, j2, rfl⟩
            go_wp2_with fail
            go_ret
            exact ⟨ret_bool HF.out.symm, HX.out.2.1.drewN _⟩
        · have hs' : signsB sg 32 = false := by simpa using hs
          rw [hs'] at hM1
          have HF := hid (show linksB ls = false from links_bad HX.out.1 (by unfold linkB; simp [h0, hs']))
          clear hs hs'
          go_wp2_with fail
          rw [← hw4, ← hD]
          clear hw4 hD
          refine (hM1 _).mono ?_
          rintro e w6 ⟨rfl, j2, rfl⟩
          go_wp2_with fail
          go_ret
          exact ⟨ret_bool HF.out.symm, HX.out.2.1.drewN _⟩
    · have hke : n = k := by omega
      subst hke
      have hlt : ¬ (n : Int) < (n : Int) := by omega
      have hfin : linksB ls = decide ((n : Int) ≤ 32) := by
        rw [HA.out.2.2, List.take_length] at hall
        unfold linksB
        rw [List.all_eq_true.2 hall, Bool.true_and, ← HA.out.2.2, Bool.eq_iff_iff]
        simp only [decide_eq_true_eq]
        omega
      have HF := hid (And.intro hfin hnr)
      clear hfin hall hnr
      go_wp2_with fail
      go_ret
      exact ⟨ret_bool HF.out.1.symm, HF.out.2⟩
set_option maxRecDepth 100000 in
set_option maxHeartbeats 4000000 in
theorem fits_any (w : World) (v : Value) (O : Ob) (h : ObAt w v O) (hL : Lens O) :
    Calls Try.prog 52 #[v] w fun e w' => e = .returned (.bool (fitsB O)) ∧ New w w' := by
  have hO := hid h
  obtain ⟨a, b, c, d, rfl, ha, hb, hc, hd⟩ := h
  obtain ⟨a1, k1, ea, hk1, hk1m, _⟩ := id ha
  obtain ⟨a2, k2, eb, hk2, hk2m, _⟩ := id hb
  obtain ⟨a3, k3, ec, hk3, hk3m, _⟩ := id hc
  obtain ⟨a4, k4, ed, hk4, hk4m, _⟩ := id hd
  obtain ⟨m1, hm1⟩ : ∃ m, m = O.text.length := ⟨_, rfl⟩
  obtain ⟨m2, hm2⟩ : ∃ m, m = O.static.length := ⟨_, rfl⟩
  obtain ⟨m3, hm3⟩ : ∃ m, m = O.defs.length := ⟨_, rfl⟩
  obtain ⟨m4, hm4⟩ : ∃ m, m = O.links.length := ⟨_, rfl⟩
  rw [← hm1] at ea
  rw [← hm2] at eb
  rw [← hm3] at ec
  rw [← hm4] at ed
  subst ea eb ec ed
  obtain ⟨cs, hcs⟩ : ∃ cs : Array Value, cs = #[.slice a1 m1 k1, .slice a2 m2 k2, .slice a3 m3 k3, .slice a4 m4 k4] := ⟨_, rfl⟩
  obtain ⟨B, hB⟩ : ∃ B, B = w.heap.size := ⟨_, rfl⟩
  obtain ⟨w1, hw1⟩ : ∃ w1, w1 = w.alloc (.cells #[.slice a1 m1 k1, .slice a2 m2 k2, .slice a3 m3 k3, .slice a4 m4 k4] 29) := ⟨_, rfl⟩
  have hbx : Blk w1 B 29 cs := by rw [hB, hw1, hcs]; exact Blk.new w _ _
  have hW1 : New w w1 := by rw [hw1]; exact (New.refl w).alloc _
  have HB : Hid (∀ X, New w1 X → X.cell? ⟨B, 0, none⟩ = some (.slice a1 m1 k1) ∧ X.cell? ⟨B, 1, none⟩ = some (.slice a2 m2 k2) ∧ X.cell? ⟨B, 2, none⟩ = some (.slice a3 m3 k3) ∧ X.cell? ⟨B, 3, none⟩ = some (.slice a4 m4 k4)) := fun X hX => by
    have := hbx.new_ hX
    refine ⟨?_, ?_, ?_, ?_⟩ <;> rw [this.cell, hcs] <;> rfl
  have HO : Hid (∀ X, New w1 X → ObAt X (.agg #[.slice a1 m1 k1, .slice a2 m2 k2, .slice a3 m3 k3, .slice a4 m4 k4]) O) := fun X hX => hO.out.new_ (hW1.step hX)
  have HA := hid (And.intro ha (And.intro hb (And.intro hd hW1)))
  have HM := hid (And.intro hm1 (And.intro hm2 (And.intro hm3 hm4)))
  have hw1' := hid hw1
  have hB' := hid hB
  have HLL := hid hL
  clear ha hb hc hd hm3 hm4 hbx hW1 hcs hO hw1 hB hL
  by_cases h1 : m1 ≤ 512
  · have h1' : (m1 : Int) ≤ 512 := by omega
    by_cases h2 : m2 ≤ 64
    · have h2' : (m2 : Int) ≤ 64 := by omega
      have hq1 : O.text.length ≤ 512 := by rw [← hm1]; exact h1
      have hq2 : O.static.length ≤ 64 := by rw [← hm2]; exact h2
      have HQ := hid (And.intro hq1 hq2)
      have hc1 := fun X (hX : New w1 X) => whole_any _ O.text X (HA.out.1.new_ (HA.out.2.2.2.step hX)) (by omega)
      have hc2 := fun X (hX : New w1 X) => whole_any _ O.static X (HA.out.2.1.new_ (HA.out.2.2.2.step hX)) (by omega)
      have hc3 := fun X (hX : New w1 X) => defs_any X _ O (HO.out X hX) HLL.out
      have hc4 := fun X (hX : New w1 X) => links_any X _ O.links (HA.out.2.2.1.new_ (HA.out.2.2.2.step hX)) HLL.out.links
      clear hq1 hq2 hm1 hm2 h1 h2
      cases g1 : wholeB O.text with
      | true =>
        rw [g1] at hc1
        cases g2 : wholeB O.static with
        | true =>
          rw [g2] at hc2
          cases g3 : defsB O.text.length O.defs with
          | true =>
            rw [g3] at hc3
            cases g4 : linksB O.links with
            | true =>
              rw [g4] at hc4
              have HF := hid (show fitsB O = true from by unfold fitsB; simp [HQ.out.1, HQ.out.2, g1, g2, g3, g4])
              clear g1 g2 g3 g4
              replace hc1 := hid hc1
              replace hc2 := hid hc2
              replace hc3 := hid hc3
              replace hc4 := hid hc4
              go_enter Try.func52, Try.ntmps52
              go_wp2_with fail
              rw [← hw1'.out, ← hB'.out]
              refine (hc1.out _ (New.refl w1)).mono ?_
              rintro e w2 ⟨rfl, n2⟩
              have N2 := hid ((New.refl w1).step n2)
              obtain ⟨f10, f11, f12, f13⟩ := HB.out _ N2.out
              clear n2
              go_wp2_with fail
              refine (hc2.out _ N2.out).mono ?_
              rintro e w3 ⟨rfl, n3⟩
              have N3 := hid (N2.out.step n3)
              obtain ⟨f20, f21, f22, f23⟩ := HB.out _ N3.out
              clear n3
              go_wp2_with fail
              refine (hc3.out _ N3.out).mono ?_
              rintro e w4 ⟨rfl, n4⟩
              have N4 := hid (N3.out.step n4)
              obtain ⟨f30, f31, f32, f33⟩ := HB.out _ N4.out
              clear n4
              go_wp2_with fail
              refine (hc4.out _ N4.out).mono ?_
              rintro e w5 ⟨rfl, n5⟩
              have N5 := hid (N4.out.step n5)
              obtain ⟨f40, f41, f42, f43⟩ := HB.out _ N5.out
              clear n5
              go_wp2_with fail
              go_ret
              exact ⟨ret_bool HF.out.symm, HA.out.2.2.2.step N5.out⟩
            | false =>
              rw [g4] at hc4
              have HF := hid (show fitsB O = false from by unfold fitsB; simp [HQ.out.1, HQ.out.2, g1, g2, g3, g4])
              clear g1 g2 g3 g4
              replace hc1 := hid hc1
              replace hc2 := hid hc2
              replace hc3 := hid hc3
              replace hc4 := hid hc4
              go_enter Try.func52, Try.ntmps52
              go_wp2_with fail
              rw [← hw1'.out, ← hB'.out]
              refine (hc1.out _ (New.refl w1)).mono ?_
              rintro e w2 ⟨rfl, n2⟩
              have N2 := hid ((New.refl w1).step n2)
              obtain ⟨f10, f11, f12, f13⟩ := HB.out _ N2.out
              clear n2
              go_wp2_with fail
              refine (hc2.out _ N2.out).mono ?_
              rintro e w3 ⟨rfl, n3⟩
              have N3 := hid (N2.out.step n3)
              obtain ⟨f20, f21, f22, f23⟩ := HB.out _ N3.out
              clear n3
              go_wp2_with fail
              refine (hc3.out _ N3.out).mono ?_
              rintro e w4 ⟨rfl, n4⟩
              have N4 := hid (N3.out.step n4)
              obtain ⟨f30, f31, f32, f33⟩ := HB.out _ N4.out
              clear n4
              go_wp2_with fail
              refine (hc4.out _ N4.out).mono ?_
              rintro e w5 ⟨rfl, n5⟩
              have N5 := hid (N4.out.step n5)
              obtain ⟨f40, f41, f42, f43⟩ := HB.out _ N5.out
              clear n5
              go_wp2_with fail
              go_ret
              exact ⟨ret_bool HF.out.symm, HA.out.2.2.2.step N5.out⟩
          | false =>
            rw [g3] at hc3
            have HF := hid (show fitsB O = false from by unfold fitsB; simp [HQ.out.1, HQ.out.2, g1, g2, g3])
            clear g1 g2 g3
            replace hc1 := hid hc1
            replace hc2 := hid hc2
            replace hc3 := hid hc3
            replace hc4 := hid hc4
            go_enter Try.func52, Try.ntmps52
            go_wp2_with fail
            rw [← hw1'.out, ← hB'.out]
            refine (hc1.out _ (New.refl w1)).mono ?_
            rintro e w2 ⟨rfl, n2⟩
            have N2 := hid ((New.refl w1).step n2)
            obtain ⟨f10, f11, f12, f13⟩ := HB.out _ N2.out
            clear n2
            go_wp2_with fail
            refine (hc2.out _ N2.out).mono ?_
            rintro e w3 ⟨rfl, n3⟩
            have N3 := hid (N2.out.step n3)
            obtain ⟨f20, f21, f22, f23⟩ := HB.out _ N3.out
            clear n3
            go_wp2_with fail
            refine (hc3.out _ N3.out).mono ?_
            rintro e w4 ⟨rfl, n4⟩
            have N4 := hid (N3.out.step n4)
            obtain ⟨f30, f31, f32, f33⟩ := HB.out _ N4.out
            clear n4
            go_wp2_with fail
            go_ret
            exact ⟨ret_bool HF.out.symm, HA.out.2.2.2.step N4.out⟩
        | false =>
          rw [g2] at hc2
          have HF := hid (show fitsB O = false from by unfold fitsB; simp [HQ.out.1, HQ.out.2, g1, g2])
          clear g1 g2
          replace hc1 := hid hc1
          replace hc2 := hid hc2
          replace hc3 := hid hc3
          replace hc4 := hid hc4
          go_enter Try.func52, Try.ntmps52
          go_wp2_with fail
          rw [← hw1'.out, ← hB'.out]
          refine (hc1.out _ (New.refl w1)).mono ?_
          rintro e w2 ⟨rfl, n2⟩
          have N2 := hid ((New.refl w1).step n2)
          obtain ⟨f10, f11, f12, f13⟩ := HB.out _ N2.out
          clear n2
          go_wp2_with fail
          refine (hc2.out _ N2.out).mono ?_
          rintro e w3 ⟨rfl, n3⟩
          have N3 := hid (N2.out.step n3)
          obtain ⟨f20, f21, f22, f23⟩ := HB.out _ N3.out
          clear n3
          go_wp2_with fail
          go_ret
          exact ⟨ret_bool HF.out.symm, HA.out.2.2.2.step N3.out⟩
      | false =>
        rw [g1] at hc1
        have HF := hid (show fitsB O = false from by unfold fitsB; simp [HQ.out.1, HQ.out.2, g1])
        clear g1
        replace hc1 := hid hc1
        replace hc2 := hid hc2
        replace hc3 := hid hc3
        replace hc4 := hid hc4
        go_enter Try.func52, Try.ntmps52
        go_wp2_with fail
        rw [← hw1'.out, ← hB'.out]
        refine (hc1.out _ (New.refl w1)).mono ?_
        rintro e w2 ⟨rfl, n2⟩
        have N2 := hid ((New.refl w1).step n2)
        obtain ⟨f10, f11, f12, f13⟩ := HB.out _ N2.out
        clear n2
        go_wp2_with fail
        go_ret
        exact ⟨ret_bool HF.out.symm, HA.out.2.2.2.step N2.out⟩
    · have h2' : ¬ (m2 : Int) ≤ 64 := by omega
      have HF := hid (show fitsB O = false from by unfold fitsB; rw [← hm2]; simp [h2])
      clear hm1 hm2 h1 h2
      go_enter Try.func52, Try.ntmps52
      go_wp2_with fail
      go_ret
      exact ⟨ret_bool HF.out.symm, (New.refl w).alloc _⟩
  · have h1' : ¬ (m1 : Int) ≤ 512 := by omega
    have HF := hid (show fitsB O = false from by unfold fitsB; rw [← hm1]; simp [h1])
    clear hm1 hm2 h1
    go_enter Try.func52, Try.ntmps52
    go_wp2_with fail
    go_ret
    exact ⟨ret_bool HF.out.symm, (New.refl w).alloc _⟩
end Go.Proofs.Yteakbhfegbghoaa.Obj
