/- The contracts of the reference's ObjectMay, ObjectWords. -/
import Derived.Test.YtnoahdobgndmnaaRefW
namespace Go.Proofs.Ytnoahdobgndmnaa.Obj
open Go Go.RowKit Go.Proofs.Ytnoahdobgndmnaa.Kit Go.Proofs.Ytnoahdobgndmnaa.Str Go.Proofs.Ytnoahdobgndmnaa.Names Go.Proofs.Ytnoahdobgndmnaa.Let
open Go.Proofs.Ytnoahdobgndmnaa.Letters (wv WsAt word_info)
set_option linter.unusedSimpArgs false
set_option linter.unusedVariables false
theorem may_no {O : Ob} (h : fitsB O = false) : mayB O = false := by unfold mayB; rw [h]; rfl
theorem may_defs {O : Ob} (h : defsB O.text.length O.defs = false) : mayB O = false := may_no (by unfold fitsB; rw [h]; simp)
theorem may_links {O : Ob} (h : linksB O.links = false) : mayB O = false := may_no (by unfold fitsB; rw [h]; simp)
theorem whole_bad {l : List Nat} {k x : Nat} (hx : l[k]? = some x) (h : maskN < x) : wholeB l = false := by
  unfold wholeB
  rw [List.all_eq_false]
  exact ⟨x, List.mem_of_getElem? hx, by simp; omega⟩
theorem whole_all {l : List Nat} (h : ∀ j x, j < l.length → l[j]? = some x → x ≤ maskN) : wholeB l = true := by
  unfold wholeB
  rw [List.all_eq_true]
  intro x hx
  obtain ⟨j, hj⟩ := List.getElem?_of_mem hx
  exact decide_eq_true (h j x (List.getElem?_eq_some_iff.1 hj).1 hj)
set_option maxRecDepth 100000 in
set_option maxHeartbeats 8000000 in
theorem refMay_any (w : World) (v : Value) (O : Ob) (h : ObAt w v O) (hLen : Lens O) :
    Calls Try.prog 21 #[v] w fun e w' => e = .returned (.bool (mayB O)) ∧ New w w' := by
  have hwd := fun X (hX : New w X) (hf : Fit O) => refWords_any X _ O (h.new_ hX) hf
  have HWD := hid hwd
  clear hwd
  obtain ⟨a, b, c, d, rfl, ha, hb, hc, hd⟩ := h
  obtain ⟨a1, k1, ea, hk1, hk1m, _⟩ := id ha
  obtain ⟨a2, k2, eb, hk2, hk2m, _⟩ := id hb
  obtain ⟨a3, k3, ec, hk3, hk3m, _⟩ := id hc
  obtain ⟨a4, k4, ed, hk4, hk4m, _⟩ := id hd
  obtain ⟨m1, hm1⟩ : ∃ m, m = O.text.length := ⟨_, rfl⟩
  obtain ⟨m2, hm2⟩ : ∃ m, m = O.static.length := ⟨_, rfl⟩
  obtain ⟨m3, hm3⟩ : ∃ m, m = O.defs.length := ⟨_, rfl⟩
  obtain ⟨m4, hm4⟩ : ∃ m, m = O.links.length := ⟨_, rfl⟩
  rw [← hm1] at ea hk1
  rw [← hm2] at eb hk2
  rw [← hm3] at ec hk3
  rw [← hm4] at ed hk4
  subst ea eb ec ed
  unfold maxLen at hk1m hk2m hk3m hk4m
  obtain ⟨B, hB⟩ : ∃ B, B = w.heap.size := ⟨_, rfl⟩
  obtain ⟨w1, hw1⟩ : ∃ w1, w1 = w.alloc (.cells #[.slice a1 m1 k1, .slice a2 m2 k2, .slice a3 m3 k3, .slice a4 m4 k4] 27) := ⟨_, rfl⟩
  have hN1 : New w w1 := by rw [hw1]; exact (New.refl w).alloc _
  have hB1 : Blk w1 B 27 #[.slice a1 m1 k1, .slice a2 m2 k2, .slice a3 m3 k3, .slice a4 m4 k4] := by rw [hw1, hB]; exact Blk.new w _ _
  have HA := hid (And.intro (ha.new_ hN1) (And.intro (hb.new_ hN1) (And.intro (hc.new_ hN1) (hd.new_ hN1))))
  have HM := hid (And.intro hm1 (And.intro hm2 (And.intro hm3 hm4)))
  have HB := hid (And.intro hB1 hN1)
  have HLn := hid hLen
  have hw1' := hid hw1
  have hB' := hid hB
  have b0 : w1.cell? ⟨B, 0, none⟩ = some (.slice a1 m1 k1) := by rw [hB1.cell]; rfl
  have b1 : w1.cell? ⟨B, 1, none⟩ = some (.slice a2 m2 k2) := by rw [hB1.cell]; rfl
  have b2 : w1.cell? ⟨B, 2, none⟩ = some (.slice a3 m3 k3) := by rw [hB1.cell]; rfl
  have b3 : w1.cell? ⟨B, 3, none⟩ = some (.slice a4 m4 k4) := by rw [hB1.cell]; rfl
  have HBX : Hid (∀ X, New w1 X → X.cell? ⟨B, 0, none⟩ = some (.slice a1 m1 k1) ∧ X.cell? ⟨B, 1, none⟩ = some (.slice a2 m2 k2) ∧ X.cell? ⟨B, 2, none⟩ = some (.slice a3 m3 k3) ∧ X.cell? ⟨B, 3, none⟩ = some (.slice a4 m4 k4)) := fun X hX => ⟨hX.cellK b0, hX.cellK b1, hX.cellK b2, hX.cellK b3⟩
  clear ha hb hc hd hm1 hm2 hm3 hm4 hN1 hB1 hLen hw1 hB
  by_cases g1 : 512 < m1
  · have g1' : (512 : Int) < (m1 : Int) := by omega
    have HF := hid (show mayB O = false from may_no (by unfold fitsB; rw [decide_eq_false (by rw [← HM.out.1]; omega)]; rfl))
    clear g1
    go_enter Try.func21, Try.ntmps21
    go_wp2_with fail
    rw [← hw1'.out, ← hB'.out]
    go_wp2_with fail
    go_ret
    exact ⟨ret_bool HF.out.symm, HB.out.2⟩
  have g1' : ¬ (512 : Int) < (m1 : Int) := by omega
  by_cases g2 : 64 < m2
  · have g2' : (64 : Int) < (m2 : Int) := by omega
    have HF := hid (show mayB O = false from may_no (by unfold fitsB; rw [decide_eq_false (p := O.static.length ≤ 64) (by rw [← HM.out.2.1]; omega)]; simp))
    clear g2
    go_enter Try.func21, Try.ntmps21
    go_wp2_with fail
    rw [← hw1'.out, ← hB'.out]
    go_wp2_with fail
    go_ret
    exact ⟨ret_bool HF.out.symm, HB.out.2⟩
  have g2' : ¬ (64 : Int) < (m2 : Int) := by omega
  by_cases g3 : 32 < m3
  · have g3' : (32 : Int) < (m3 : Int) := by omega
    have HF := hid (show mayB O = false from may_defs (by unfold defsB; rw [decide_eq_false (p := O.defs.length ≤ 32) (by rw [← HM.out.2.2.1]; omega)]; simp))
    clear g3
    go_enter Try.func21, Try.ntmps21
    go_wp2_with fail
    rw [← hw1'.out, ← hB'.out]
    go_wp2_with fail
    go_ret
    exact ⟨ret_bool HF.out.symm, HB.out.2⟩
  have g3' : ¬ (32 : Int) < (m3 : Int) := by omega
  by_cases g4 : 32 < m4
  · have g4' : (32 : Int) < (m4 : Int) := by omega
    have HF := hid (show mayB O = false from may_links (by unfold linksB; rw [decide_eq_false (p := O.links.length ≤ 32) (by rw [← HM.out.2.2.2]; omega)]; simp))
    clear g4
    go_enter Try.func21, Try.ntmps21
    go_wp2_with fail
    rw [← hw1'.out, ← hB'.out]
    go_wp2_with fail
    go_ret
    exact ⟨ret_bool HF.out.symm, HB.out.2⟩
  have g4' : ¬ (32 : Int) < (m4 : Int) := by omega
  go_enter Try.func21, Try.ntmps21
  go_wp2_with fail
  rw [← hw1'.out, ← hB'.out]
  go_wp2_with fail
  go_loopw [3] (fun i wr => ∃ k : Nat, k ≤ m1 ∧ i = .int .i64 (k : Int) ∧ New w1 wr ∧ ∀ j x, j < k → O.text[j]? = some x → x ≤ maskN) (fun i _ => m1 - (intOf i).toNat)
  case atStart => exact ⟨0, Nat.zero_le _, rfl, New.refl _, fun j x hj => absurd hj (by omega)⟩
  case round =>
    obtain ⟨k, hk, rfl, hnr, hall⟩ := hrel
    obtain ⟨e0, e1, e2, e3⟩ := HBX.out _ hnr
    by_cases hkn : k < m1
    · have w2 : IntKind.i64.wrap ((k : Int) + 1) = k + 1 := by rw [IntKind.wrap_i64]; omega
      obtain ⟨bb, oo, x, rfl, hx, _, hcell⟩ := (HA.out.1.new_ hnr).get hkn
      have c0 := hcell 0 _ rfl
      rw [Nat.add_zero, Nat.mul_one] at c0
      have j0 : (0 : Int) ≤ (k : Int) := by omega
      have j1 : (k : Int) < (m1 : Int) := by omega
      have HX := hid (And.intro hx (And.intro hall hnr))
      clear hx hall hnr hcell
      by_cases hq : maskN < x
      · have hq' : (68719476735 : Int) < (x : Int) := by unfold maskN at hq; omega
        have HF := hid (show mayB O = false from may_no (by unfold fitsB; rw [whole_bad HX.out.1 hq]; simp))
        clear hq
        go_wp2_with fail
        go_ret
        exact ⟨ret_bool HF.out.symm, HB.out.2.step HX.out.2.2⟩
      · have hq' : ¬ (68719476735 : Int) < (x : Int) := by unfold maskN at hq; omega
        have hall' : ∀ j y, j < k + 1 → O.text[j]? = some y → y ≤ maskN := fun j y hj hy => by
          by_cases e : j = k
          · subst e; rw [HX.out.1] at hy; rw [← Option.some.inj hy]; omega
          · exact HX.out.2.1 j y (by omega) hy
        have HA2 := hid hall'
        clear hall' hq
        go_wp2_with fail
        exact ⟨⟨k + 1, by omega, by go_num, HX.out.2.2, HA2.out⟩, by simp [intOf]; omega⟩
    · have hke : m1 = k := by omega
      subst hke
      have hlt : ¬ (m1 : Int) < (m1 : Int) := by omega
      have HT1 := hid (And.intro hnr (whole_all (l := O.text) (fun j x hj => hall j x (by rw [HM.out.1]; exact hj))))
      clear hnr hall
      go_wp2_with fail
      go_loopw [4] (fun i wr => ∃ k : Nat, k ≤ m2 ∧ i = .int .i64 (k : Int) ∧ New w1 wr ∧ ∀ j x, j < k → O.static[j]? = some x → x ≤ maskN) (fun i _ => m2 - (intOf i).toNat)
      case atStart => exact ⟨0, Nat.zero_le _, rfl, HT1.out.1, fun j x hj => absurd hj (by omega)⟩
      case round =>
        obtain ⟨k, hk, rfl, hnr, hall⟩ := hrel
        obtain ⟨e0, e1, e2, e3⟩ := HBX.out _ hnr
        by_cases hkn : k < m2
        · have w2 : IntKind.i64.wrap ((k : Int) + 1) = k + 1 := by rw [IntKind.wrap_i64]; omega
          obtain ⟨bb, oo, x, rfl, hx, _, hcell⟩ := (HA.out.2.1.new_ hnr).get hkn
          have c0 := hcell 0 _ rfl
          rw [Nat.add_zero, Nat.mul_one] at c0
          have j0 : (0 : Int) ≤ (k : Int) := by omega
          have j1 : (k : Int) < (m2 : Int) := by omega
          have HX := hid (And.intro hx (And.intro hall hnr))
          clear hx hall hnr hcell
          by_cases hq : maskN < x
          · have hq' : (68719476735 : Int) < (x : Int) := by unfold maskN at hq; omega
            have HF := hid (show mayB O = false from may_no (by unfold fitsB; rw [whole_bad (l := O.static) HX.out.1 hq]; simp))
            clear hq
            go_wp2_with fail
            go_ret
            exact ⟨ret_bool HF.out.symm, HB.out.2.step HX.out.2.2⟩
          · have hq' : ¬ (68719476735 : Int) < (x : Int) := by unfold maskN at hq; omega
            have hall' : ∀ j y, j < k + 1 → O.static[j]? = some y → y ≤ maskN := fun j y hj hy => by
              by_cases e : j = k
              · subst e; rw [HX.out.1] at hy; rw [← Option.some.inj hy]; omega
              · exact HX.out.2.1 j y (by omega) hy
            have HA2 := hid hall'
            clear hall' hq
            go_wp2_with fail
            exact ⟨⟨k + 1, by omega, by go_num, HX.out.2.2, HA2.out⟩, by simp [intOf]; omega⟩
        · have hke : m2 = k := by omega
          subst hke
          have hlt : ¬ (m2 : Int) < (m2 : Int) := by omega
          have HT2 := hid (And.intro hnr (whole_all (l := O.static) (fun j x hj => hall j x (by rw [HM.out.2.1]; exact hj))))
          clear hnr hall
          go_wp2_with fail
          clear e0 e1 e2 e3
          go_loopw [5] (fun i wr => ∃ k : Nat, k ≤ m3 ∧ i = .int .i64 (k : Int) ∧ New w1 wr ∧ (∀ d ∈ O.defs.take k, defB m1 d = true) ∧ ((O.defs.take k).map (·.1)).Nodup) (fun i _ => m3 - (intOf i).toNat)
          case atStart => exact ⟨0, Nat.zero_le _, rfl, HT2.out.1, fun d hd => by simp at hd, by simp⟩
          case round =>
            obtain ⟨k, hk, rfl, hnr, hall, hnd⟩ := hrel
            obtain ⟨e0, e1, e2, e3⟩ := HBX.out _ hnr
            by_cases hkn : k < m3
            · have w2 : IntKind.i64.wrap ((k : Int) + 1) = k + 1 := by rw [IntKind.wrap_i64]; omega
              obtain ⟨bb, oo, x, rfl, hx, _, hcell⟩ := (HA.out.2.2.1.new_ hnr).get hkn
              obtain ⟨nm, of⟩ := x
              have c0 := hcell 0 _ rfl
              have c1 := hcell 1 _ rfl
              rw [Nat.add_zero] at c0
              have j0 : (0 : Int) ≤ (k : Int) := by omega
              have j1 : (k : Int) < (m3 : Int) := by omega
              have hlen := HLn.out.defs _ (List.mem_of_getElem? hx)
              obtain ⟨w4, hw4⟩ : ∃ w4, w4 = wr.alloc (.cells #[.string ⟨nm.toArray⟩, .int .i64 of] 41) := ⟨_, rfl⟩
              obtain ⟨D, hD⟩ : ∃ D, D = wr.heap.size := ⟨_, rfl⟩
              have hn4 : New wr w4 := by rw [hw4]; exact (New.refl _).alloc _
              have hd4 : Blk w4 D 41 #[.string ⟨nm.toArray⟩, .int .i64 of] := by rw [hw4, hD]; exact Blk.new _ _ _
              have d0 : w4.cell? ⟨D, 0, none⟩ = some (.string ⟨nm.toArray⟩) := by rw [hd4.cell]; rfl
              have d1 : w4.cell? ⟨D, 1, none⟩ = some (.int .i64 of) := by rw [hd4.cell]; rfl
              have f0 : w4.cell? ⟨B, 0, none⟩ = some (.slice a1 m1 k1) := hn4.cellK e0
              have f2 := hn4.cellK e2
              have hMay := fun X => namemay_any nm (by unfold maxLen at hlen; exact hlen) X
              have HX := hid (And.intro hx (And.intro (hnr.step hn4) (And.intro hd4 (And.intro hall hnd))))
              clear hx hnr hall hnd hcell hn4 hd4
              by_cases h1 : signsB nm 32 = true
              · rw [h1] at hMay
                by_cases h3 : 0 ≤ of
                · by_cases h4 : of < (m1 : Int)
                  · have h3' : ¬ of < 0 := by omega
                    have h4' : ¬ (m1 : Int) ≤ of := by omega
                    have hg : defB m1 (nm, of) = true := by unfold defB; simp [h1, h3, h4]
                    have HG := hid hg
                    clear h1 hg
                    go_wp2_with fail
                    rw [← hw4, ← hD]
                    clear hw4 hD
                    refine (hMay _).mono ?_
                    rintro e w5 ⟨rfl, j, rfl⟩
                    go_wp2_with fail
                    clear c0 c1 d0 d1 f0 f2 e0 e1 e2 e3 hMay
                    go_loopw [7] (fun i wr2 => ∃ q : Nat, q ≤ k ∧ i = .int .i64 (q : Int) ∧ New w4 wr2 ∧ ∀ j y, j < q → O.defs[j]? = some y → y.1 ≠ nm) (fun i _ => k - (intOf i).toNat)
                    case atStart => exact ⟨0, Nat.zero_le _, rfl, (New.refl _).drewN _, fun j y hj => absurd hj (by omega)⟩
                    case round =>
                      obtain ⟨q, hq, rfl, hn2, hne⟩ := hrel
                      obtain ⟨e0, e1, e2, e3⟩ := HBX.out _ (HX.out.2.1.step hn2)
                      have hD2 := HX.out.2.2.1.new_ hn2
                      have d0 : wr.cell? ⟨D, 0, none⟩ = some (.string ⟨nm.toArray⟩) := by rw [hD2.cell]; rfl
                      by_cases hqk : q < k
                      · have w3 : IntKind.i64.wrap ((q : Int) + 1) = q + 1 := by rw [IntKind.wrap_i64]; omega
                        obtain ⟨b5, o5, y, hbo, hy, _, hcell⟩ := (HA.out.2.2.1.new_ (HX.out.2.1.step hn2)).get (show q < m3 by omega)
                        cases hbo
                        obtain ⟨nm2, of2⟩ := y
                        have c0 := hcell 0 _ rfl
                        rw [Nat.add_zero] at c0
                        have j2 : (0 : Int) ≤ (q : Int) := by omega
                        have j3 : (q : Int) < (k : Int) := by omega
                        have j4 : (q : Int) < (m3 : Int) := by omega
                        have HY := hid (And.intro hy (And.intro hn2 hne))
                        clear hy hn2 hne hcell hD2
                        by_cases he : nm2 = nm
                        · have he' : (nm2 == nm) = true := by rw [he]; exact beq_self_eq_true _
                          have HF := hid (show mayB O = false from may_defs (defs_dup HX.out.1 (List.mem_map.2 ⟨(nm2, of2), List.mem_of_getElem? (i := q) (by rw [List.getElem?_take_of_lt hqk]; exact HY.out.1), he⟩)))
                          clear he
                          go_wp2_with fail
                          go_quiet (fail)
                          go_wp2_with fail
                          go_ret
                          exact ⟨ret_bool HF.out.symm, HB.out.2.step ((HX.out.2.1.step HY.out.2.1).drewN _)⟩
                        · have he' : (nm2 == nm) = false := by rw [beq_eq_false_iff_ne]; exact he
                          have hne' : Hid (∀ j y, j < q + 1 → O.defs[j]? = some y → y.1 ≠ nm) := fun j y hj hy => by
                            by_cases e : j = q
                            · subst e; rw [HY.out.1] at hy; rw [← Option.some.inj hy]; exact he
                            · exact HY.out.2.2 j y (by omega) hy
                          clear he
                          go_wp2_with fail
                          go_quiet (fail)
                          go_wp2_with fail
                          exact ⟨⟨q + 1, by omega, by go_num, HY.out.2.1.drewN _, hne'.out⟩, by simp [intOf]; omega⟩
                      · have hqe : k = q := by omega
                        subst hqe
                        have hlt : ¬ (k : Int) < (k : Int) := by omega
                        have hall' : ∀ d ∈ O.defs.take (k + 1), defB m1 d = true := fun d hd => by
                          rw [take_snoc HX.out.1] at hd
                          rcases List.mem_append.1 hd with hd | hd
                          · exact HX.out.2.2.2.1 d hd
                          · rw [List.mem_singleton.1 hd]; exact HG.out
                        have hnd' : ((O.defs.take (k + 1)).map (·.1)).Nodup := by
                          rw [take_snoc HX.out.1, List.map_append, List.nodup_append]
                          refine ⟨HX.out.2.2.2.2, by simp, fun a ha b hb => ?_⟩
                          simp only [List.map_cons, List.map_nil, List.mem_singleton] at hb
                          rw [hb]
                          rintro rfl
                          obtain ⟨d, hd, hde⟩ := List.mem_map.1 ha
                          obtain ⟨j, hj⟩ := List.getElem?_of_mem hd
                          have hjk : j < k := by
                            have := (List.getElem?_eq_some_iff.1 hj).1
                            rw [List.length_take] at this
                            omega
                          rw [List.getElem?_take_of_lt hjk] at hj
                          exact hne j d hjk hj hde
                        have HG2 := hid (And.intro hall' (And.intro hnd' hn2))
                        clear hall' hnd' hn2 hne hD2
                        go_wp2_with fail
                        exact ⟨⟨k + 1, by omega, by go_num, HX.out.2.1.step HG2.out.2.2, HG2.out.1, HG2.out.2.1⟩, by simp [intOf]; omega⟩
                  · have h3' : ¬ of < 0 := by omega
                    have h4' : (m1 : Int) ≤ of := by omega
                    have HF := hid (show mayB O = false from may_defs (by rw [← HM.out.1]; exact defs_bad HX.out.1 (by unfold defB; simp [h1, h3, h4])))
                    clear h1
                    go_wp2_with fail
                    rw [← hw4, ← hD]
                    clear hw4 hD
                    refine (hMay _).mono ?_
                    rintro e w5 ⟨rfl, j, rfl⟩
                    go_wp2_with fail
                    go_ret
                    exact ⟨ret_bool HF.out.symm, HB.out.2.step (HX.out.2.1.drewN _)⟩
                · have h3' : of < 0 := by omega
                  have HF := hid (show mayB O = false from may_defs (by rw [← HM.out.1]; exact defs_bad HX.out.1 (by unfold defB; simp [h1, h3])))
                  clear h1 h3
                  go_wp2_with fail
                  rw [← hw4, ← hD]
                  clear hw4 hD
                  refine (hMay _).mono ?_
                  rintro e w5 ⟨rfl, j, rfl⟩
                  go_wp2_with fail
                  go_ret
                  exact ⟨ret_bool HF.out.symm, HB.out.2.step (HX.out.2.1.drewN _)⟩
              · have h1' : signsB nm 32 = false := by simpa using h1
                rw [h1'] at hMay
                have HF := hid (show mayB O = false from may_defs (by rw [← HM.out.1]; exact defs_bad HX.out.1 (by unfold defB; simp [h1'])))
                clear h1 h1'
                go_wp2_with fail
                rw [← hw4, ← hD]
                clear hw4 hD
                refine (hMay _).mono ?_
                rintro e w5 ⟨rfl, j, rfl⟩
                go_wp2_with fail
                go_ret
                exact ⟨ret_bool HF.out.symm, HB.out.2.step (HX.out.2.1.drewN _)⟩
            · have hke : m3 = k := by omega
              subst hke
              have hlt : ¬ (m3 : Int) < (m3 : Int) := by omega
              have htk : O.defs.take m3 = O.defs := by rw [HM.out.2.2.1, List.take_length]
              have hfin : defsB O.text.length O.defs = true := by
                rw [htk] at hall hnd
                unfold defsB
                rw [← HM.out.1, List.all_eq_true.2 hall, decide_eq_true hnd, decide_eq_true (by rw [← HM.out.2.2.1]; omega)]
                rfl
              have HT3 := hid (And.intro hnr hfin)
              clear hnr hfin hall hnd htk
              go_wp2_with fail
              clear e0 e1 e2 e3
              go_loopw [8] (fun i wr => ∃ k : Nat, k ≤ m4 ∧ i = .int .i64 (k : Int) ∧ New w1 wr ∧ ∀ x ∈ O.links.take k, linkB x = true) (fun i _ => m4 - (intOf i).toNat)
              case atStart => exact ⟨0, Nat.zero_le _, rfl, HT3.out.1, fun x hx => by simp at hx⟩
              case round =>
                obtain ⟨k, hk, rfl, hnr, hall⟩ := hrel
                obtain ⟨e0, e1, e2, e3⟩ := HBX.out _ hnr
                by_cases hkn : k < m4
                · have w2' : IntKind.i64.wrap ((k : Int) + 1) = k + 1 := by rw [IntKind.wrap_i64]; omega
                  obtain ⟨bb, oo, x, rfl, hx, _, hcell⟩ := (HA.out.2.2.2.new_ hnr).get hkn
                  obtain ⟨sg, nm, of⟩ := x
                  have c0 := hcell 0 _ rfl
                  have c1 := hcell 1 _ rfl
                  have c2 := hcell 2 _ rfl
                  rw [Nat.add_zero] at c0
                  have j0 : (0 : Int) ≤ (k : Int) := by omega
                  have j1 : (k : Int) < (m4 : Int) := by omega
                  obtain ⟨hl1, hl2⟩ := HLn.out.links _ (List.mem_of_getElem? hx)
                  obtain ⟨w4, hw4⟩ : ∃ w4, w4 = wr.alloc (.cells #[.string ⟨sg.toArray⟩, .string ⟨nm.toArray⟩, .int .i64 of] 43) := ⟨_, rfl⟩
                  obtain ⟨D, hD⟩ : ∃ D, D = wr.heap.size := ⟨_, rfl⟩
                  have hn4 : New wr w4 := by rw [hw4]; exact (New.refl _).alloc _
                  have hd4 : Blk w4 D 43 #[.string ⟨sg.toArray⟩, .string ⟨nm.toArray⟩, .int .i64 of] := by rw [hw4, hD]; exact Blk.new _ _ _
                  have d0 : w4.cell? ⟨D, 0, none⟩ = some (.string ⟨sg.toArray⟩) := by rw [hd4.cell]; rfl
                  have d1 : w4.cell? ⟨D, 1, none⟩ = some (.string ⟨nm.toArray⟩) := by rw [hd4.cell]; rfl
                  have d2 : w4.cell? ⟨D, 2, none⟩ = some (.int .i64 of) := by rw [hd4.cell]; rfl
                  have HX := hid (And.intro hx (And.intro (hnr.step hn4) hall))
                  clear hx hnr hall hcell hn4 hd4
                  have hM1 := fun X => namemay_any sg (by unfold maxLen at hl1; exact hl1) X
                  have hM2 := fun X => namemay_any nm (by unfold maxLen at hl2; exact hl2) X
                  by_cases h0 : sg = []
                  · subst h0
                    by_cases h1 : signsB nm 32 = true
                    · rw [h1] at hM2
                      by_cases h3 : 0 ≤ of
                      · have h3' : ¬ of < 0 := by omega
                        by_cases h4 : of ≤ 262143
                        · have h4' : ¬ 262143 < of := by omega
                          have hall' : ∀ x ∈ O.links.take (k + 1), linkB x = true := fun x hx => by
                            rw [take_snoc HX.out.1] at hx
                            rcases List.mem_append.1 hx with hx | hx
                            · exact HX.out.2.2 x hx
                            · rw [List.mem_singleton.1 hx]; unfold linkB; simp [true_or, h1, h3, h4]
                          have HG := hid hall'
                          clear h1 hall'
                          go_wp2_with fail
                          rw [← hw4, ← hD]
                          clear hw4 hD
                          refine (hM2 _).mono ?_
                          rintro e w5 ⟨rfl, j7, rfl⟩
                          go_wp2_with fail
                          exact ⟨⟨k + 1, by omega, by go_num, HX.out.2.1.drewN _, HG.out⟩, by simp [intOf]; omega⟩
                        · have h4' : 262143 < of := by omega
                          have HF := hid (show mayB O = false from may_links (links_bad HX.out.1 (by unfold linkB; simp [true_or, h1, h3, h4])))
                          clear h1
                          go_wp2_with fail
                          rw [← hw4, ← hD]
                          clear hw4 hD
                          refine (hM2 _).mono ?_
                          rintro e w5 ⟨rfl, j7, rfl⟩
                          go_wp2_with fail
                          go_ret
                          exact ⟨ret_bool HF.out.symm, HB.out.2.step (HX.out.2.1.drewN _)⟩
                      · have h3' : of < 0 := by omega
                        have HF := hid (show mayB O = false from may_links (links_bad HX.out.1 (by unfold linkB; simp [true_or, h1, h3])))
                        clear h1 h3
                        go_wp2_with fail
                        rw [← hw4, ← hD]
                        clear hw4 hD
                        refine (hM2 _).mono ?_
                        rintro e w5 ⟨rfl, j7, rfl⟩
                        go_wp2_with fail
                        go_ret
                        exact ⟨ret_bool HF.out.symm, HB.out.2.step (HX.out.2.1.drewN _)⟩
                    · have h1' : signsB nm 32 = false := by simpa using h1
                      rw [h1'] at hM2
                      have HF := hid (show mayB O = false from may_links (links_bad HX.out.1 (by unfold linkB; simp [true_or, h1'])))
                      clear h1 h1'
                      go_wp2_with fail
                      rw [← hw4, ← hD]
                      clear hw4 hD
                      refine (hM2 _).mono ?_
                      rintro e w5 ⟨rfl, j7, rfl⟩
                      go_wp2_with fail
                      go_ret
                      exact ⟨ret_bool HF.out.symm, HB.out.2.step (HX.out.2.1.drewN _)⟩
                  · have h0' : (sg == []) = false := beq_eq_false_iff_ne.2 h0
                    by_cases hs : signsB sg 32 = true
                    · rw [hs] at hM1
                      by_cases h1 : signsB nm 32 = true
                      · rw [h1] at hM2
                        by_cases h3 : 0 ≤ of
                        · have h3' : ¬ of < 0 := by omega
                          by_cases h4 : of ≤ 262143
                          · have h4' : ¬ 262143 < of := by omega
                            have hall' : ∀ x ∈ O.links.take (k + 1), linkB x = true := fun x hx => by
                              rw [take_snoc HX.out.1] at hx
                              rcases List.mem_append.1 hx with hx | hx
                              · exact HX.out.2.2 x hx
                              · rw [List.mem_singleton.1 hx]; unfold linkB; simp [h0, hs, h1, h3, h4]
                            have HG := hid hall'
                            clear h1 hall' hs
                            go_wp2_with fail
                            rw [← hw4, ← hD]
                            clear hw4 hD
                            refine (hM1 _).mono ?_
                            rintro e w5 ⟨rfl, j7, rfl⟩
                            go_wp2_with fail
                            refine (hM2 _).mono ?_
                            rintro e w6 ⟨rfl, j8, rfl⟩
                            go_wp2_with fail
                            exact ⟨⟨k + 1, by omega, by go_num, HX.out.2.1.drewN _, HG.out⟩, by simp [intOf]; omega⟩
                          · have h4' : 262143 < of := by omega
                            have HF := hid (show mayB O = false from may_links (links_bad HX.out.1 (by unfold linkB; simp [h0, hs, h1, h3, h4])))
                            clear h1 hs
                            go_wp2_with fail
                            rw [← hw4, ← hD]
                            clear hw4 hD
                            refine (hM1 _).mono ?_
                            rintro e w5 ⟨rfl, j7, rfl⟩
                            go_wp2_with fail
                            refine (hM2 _).mono ?_
                            rintro e w6 ⟨rfl, j8, rfl⟩
                            go_wp2_with fail
                            go_ret
                            exact ⟨ret_bool HF.out.symm, HB.out.2.step (HX.out.2.1.drewN _)⟩
                        · have h3' : of < 0 := by omega
                          have HF := hid (show mayB O = false from may_links (links_bad HX.out.1 (by unfold linkB; simp [h0, hs, h1, h3])))
                          clear h1 h3 hs
                          go_wp2_with fail
                          rw [← hw4, ← hD]
                          clear hw4 hD
                          refine (hM1 _).mono ?_
                          rintro e w5 ⟨rfl, j7, rfl⟩
                          go_wp2_with fail
                          refine (hM2 _).mono ?_
                          rintro e w6 ⟨rfl, j8, rfl⟩
                          go_wp2_with fail
                          go_ret
                          exact ⟨ret_bool HF.out.symm, HB.out.2.step (HX.out.2.1.drewN _)⟩
                      · have h1' : signsB nm 32 = false := by simpa using h1
                        rw [h1'] at hM2
                        have HF := hid (show mayB O = false from may_links (links_bad HX.out.1 (by unfold linkB; simp [h0, hs, h1'])))
                        clear h1 h1' hs
                        go_wp2_with fail
                        rw [← hw4, ← hD]
                        clear hw4 hD
                        refine (hM1 _).mono ?_
                        rintro e w5 ⟨rfl, j7, rfl⟩
                        go_wp2_with fail
                        refine (hM2 _).mono ?_
                        rintro e w6 ⟨rfl, j8, rfl⟩
                        go_wp2_with fail
                        go_ret
                        exact ⟨ret_bool HF.out.symm, HB.out.2.step (HX.out.2.1.drewN _)⟩
                    · have hs' : signsB sg 32 = false := by simpa using hs
                      rw [hs'] at hM1
                      have HF := hid (show mayB O = false from may_links (links_bad HX.out.1 (by unfold linkB; simp [h0, hs'])))
                      clear hs hs'
                      go_wp2_with fail
                      rw [← hw4, ← hD]
                      clear hw4 hD
                      refine (hM1 _).mono ?_
                      rintro e w5 ⟨rfl, j7, rfl⟩
                      go_wp2_with fail
                      go_ret
                      exact ⟨ret_bool HF.out.symm, HB.out.2.step (HX.out.2.1.drewN _)⟩
                · have hke : m4 = k := by omega
                  subst hke
                  have hlt : ¬ (m4 : Int) < (m4 : Int) := by omega
                  have htk : O.links.take m4 = O.links := by rw [HM.out.2.2.2, List.take_length]
                  have hfin : linksB O.links = true := by
                    rw [htk] at hall
                    unfold linksB
                    rw [List.all_eq_true.2 hall, decide_eq_true (by rw [← HM.out.2.2.2]; omega)]
                    rfl
                  have hfits : fitsB O = true := by
                    unfold fitsB
                    rw [hfin, HT3.out.2, HT1.out.2, HT2.out.2, decide_eq_true (p := O.text.length ≤ 512) (by rw [← HM.out.1]; omega), decide_eq_true (p := O.static.length ≤ 64) (by rw [← HM.out.2.1]; omega)]
                    rfl
                  have hW := HWD.out wr (HB.out.2.step hnr) ((fits_iff O).1 hfits)
                  have hmm : mayB O = decide ((encO O).length ≤ 1024) := by unfold mayB; rw [hfits]; rfl
                  obtain ⟨N, hN⟩ : ∃ N, N = (encO O).length := ⟨_, rfl⟩
                  rw [← hN] at hW hmm
                  have HW := hid hW
                  have HF := hid (And.intro hmm hnr)
                  clear hW hmm hnr hfin hfits hall htk hN
                  go_wp2_with fail
                  refine HW.out.mono ?_
                  rintro e w5 ⟨x, rfl, hs, hn5⟩
                  obtain ⟨ax, cx, rfl⟩ := hs.val
                  have H5 := hid hn5
                  clear hs hn5
                  go_wp2_with fail
                  go_ret
                  refine ⟨ret_bool ?_, (HB.out.2.step HF.out.2).step H5.out⟩
                  rw [HF.out.1, Bool.eq_iff_iff]
                  simp only [decide_eq_true_eq]
                  omega
/-- What ObjectWords leaves. -/
def RefWords (w : World) (O : Ob) (e : Ending) (w' : World) : Prop :=
  (mayB O = true ∧ ∃ v', e = .returned (.tuple #[v', .int .i64 0]) ∧ LsAt 1 uw w' v' (encO O) ∧ New w w') ∨ (mayB O = false ∧ e = .returned (.tuple #[.slice none 0 0, .int .i64 12]) ∧ New w w')
set_option maxRecDepth 100000 in
set_option maxHeartbeats 4000000 in
theorem refWordsO_any (w : World) (v : Value) (O : Ob) (h : ObAt w v O) (hL : Lens O) :
    Calls Try.prog 12 #[v] w (RefWords w O) := by
  obtain ⟨a, b, c, d, rfl, hcells⟩ := box_ob h
  obtain ⟨w1, hw1⟩ : ∃ w1, w1 = w.alloc (.cells #[a, b, c, d] 27) := ⟨_, rfl⟩
  have hW1 : New w w1 := by rw [hw1]; exact (New.refl w).alloc _
  rw [← hw1] at hcells
  have HB := hid hcells
  have HO := hid (fun X (hX : New w1 X) => h.new_ (hW1.step hX))
  have HW := hid hW1
  have hw1' := hid hw1
  have HL := hid hL
  clear hw1 hW1 hcells h hL
  have hf := fun X (hX : New w1 X) => refMay_any X _ O (HO.out X hX) HL.out
  obtain ⟨e0, e1, e2, e3⟩ := HB.out _ (New.refl w1)
  cases hb : mayB O with
  | false =>
    rw [hb] at hf
    have HF := hid hb
    replace hf := hid hf
    clear hb
    go_enter Try.func12, Try.ntmps12
    go_wp2_with fail
    rw [← hw1'.out]
    go_wp2_with fail
    refine (hf.out _ (New.refl _)).mono ?_
    rintro e w2 ⟨rfl, n2⟩
    go_wp2_with fail
    go_ret2
    exact .inr ⟨HF.out, rfl, HW.out.step n2⟩
  | true =>
    have hmd := fun X (hX : New w1 X) => refWords_any X _ O (HO.out X hX) ((fits_iff O).1 (by unfold mayB at hb; rw [Bool.and_eq_true] at hb; exact hb.1))
    rw [hb] at hf
    have HM := hid hb
    replace hf := hid hf
    replace hmd := hid hmd
    clear hb
    go_enter Try.func12, Try.ntmps12
    go_wp2_with fail
    rw [← hw1'.out]
    go_wp2_with fail
    refine (hf.out _ (New.refl _)).mono ?_
    rintro e w2 ⟨rfl, n2⟩
    obtain ⟨e0, e1, e2, e3⟩ := HB.out _ n2
    have N2 := hid n2
    clear n2
    go_wp2_with fail
    refine (hmd.out _ N2.out).mono ?_
    rintro e w3 ⟨x, rfl, hs, n3⟩
    have N3 := hid (And.intro hs n3)
    clear hs n3
    go_wp2_with fail
    go_ret2
    exact .inl ⟨HM.out, _, rfl, LsAt.of_sl uw_len N3.out.1, (HW.out.step N2.out).step N3.out.2⟩
end Go.Proofs.Ytnoahdobgndmnaa.Obj
