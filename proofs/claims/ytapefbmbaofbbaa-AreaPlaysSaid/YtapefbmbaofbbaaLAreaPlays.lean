/- The walk of AreaPlays. -/
import Derived.Test.YtapefbmbaofbbaaAreaPlay
import Derived.Test.YtapefbmbaofbbaaApp
import Derived.Test.YtapefbmbaofbbaaOpenG
import Derived.BigQuiet
import Derived.Deep.CutRange
import Derived.Deep.CutBlock
import Derived.Deep.RegionWith
import Derived.Deep.RegionHeld3
namespace Go.Proofs.Ytapefbmbaofbbaa.Law
open Go Go.RowKit Go.ChangeShapes Go.WideShapes Go.Deep Go.Proofs.Ytapefbmbaofbbaa.Kit Go.Proofs.Ytapefbmbaofbbaa.Area Go.Proofs.Ytapefbmbaofbbaa.Open
set_option linter.unusedSimpArgs false
set_option linter.unusedVariables false
theorem proom_info : (Try.prog.info? 50).map (fun i => (i.zero, i.size, i.bytes)) = some (some (.agg #[.int .i64 0, .slice none 0 0]), 2, 32) := by kernel_rfl
theorem news_room {w : World} {G x g n : Nat} (h : Blk w G 50 #[.int .i64 (x : Int), .slice (some ⟨g, 0, none⟩) n n]) : ∀ (j : Nat) (u : Value), (rc (x, g, List.replicate n 0))[j]? = some u → w.cell? ((⟨G, 0, none⟩ : Addr).add j) = some u := by
  intro j u hu
  rw [Addr.add_lit, Nat.zero_add, h.cell, ← hu]
  simp [rc, rsl]
theorem wrow_cell {l : List Int} {k : Nat} (h : k < l.length) : (wrow l)[k]? = some (.int .u64 (l.getD k 0)) := by
  simp [wrow, h]
theorem cuta_any (u : Int) (w : World) : Calls Try.prog 15 #[.int .u64 u] w fun e w' => e = .returned (.int .u64 (cutW u)) ∧ w' = w := by
  go_enter Try.func15, Try.ntmps15
  go_wp2
  go_ret
  exact ⟨rfl, rfl⟩
set_option maxRecDepth 100000 in
set_option maxHeartbeats 40000000 in
theorem areaPlays_walk (n : Int) (a : Option Addr) (L c : Nat) (f : Nat → Nat → Int) (W : World)
    (hc : 0 < L → ∃ b o, a = some ⟨b, o, none⟩ ∧ b < W.heap.size ∧ ∀ i, i < L → (∀ j, j < 3 → W.cell? ⟨b, o + i * 4 + j, none⟩ = some (.int .i64 (f i j))) ∧ W.cell? ⟨b, o + i * 4 + 3, none⟩ = some (.int .u64 (f i 3))) :
    Calls Try.prog 6 #[.int .i64 n, .slice a L c] W fun e w' => e = .returned (.bool true) ∧ New W w' := by
  have H := hid hc
  clear hc
  go_enter Try.func6, Try.ntmps6
  go_wp2_with fail
  refine (awake_any W).mono ?_
  rintro e w1 ⟨rfl, n1⟩
  by_cases h150 : 150 < L
  · have h150' : (150 : Int) < (L : Int) := by omega
    go_wp2
    go_ret
    exact ⟨rfl, n1⟩
  have h150' : ¬ (150 : Int) < (L : Int) := by omega
  by_cases h3000 : 3000 < n
  · go_wp2
    go_ret
    exact ⟨rfl, n1⟩
  have hmx := fun ats ty => max_i ats ty .i64 .i64 n 0
  obtain ⟨N, hN⟩ : ∃ N, N = n.toNat := ⟨_, rfl⟩
  have hmz : mxZ n 0 = (N : Int) := by unfold mxZ; omega
  have hN3 : N ≤ 3000 := by omega
  rw [hmz] at hmx
  have hnew := newW n w1
  rw [← hN] at hnew
  clear hmz hN
  have HN := hid n1
  clear n1
  go_wp2_with fail
  refine hnew.mono ?_
  rintro e w2 ⟨rfl, s2⟩
  clear hnew
  obtain ⟨A, hA⟩ : ∃ A, A = w1.heap.size := ⟨_, rfl⟩
  rw [← hA] at s2 ⊢
  have HS := hid (show Pst w1 w2 A N [] (.slice none 0 0) [] from ⟨s2.less (fun k hk => hk.elim (fun e => by cases e) (fun e => by obtain ⟨r, hr, _⟩ := e; cases hr)), Sl.nil _ _ _ _, fun r hr => (by cases hr), List.nodup_nil⟩)
  clear hA s2
  go_wp2_with fail
  go_loopw [7, 8] (fun m i wr => ∃ (j : Nat) (ms : Ms) (P : List Room), j ≤ L ∧ i = .int .i64 (j : Int) ∧ Pst w1 wr A N ms m P ∧ (ab P).Perm ms ∧ P.length ≤ j) (fun _ i _ => L - (intOf i).toNat)
  case atStart => exact ⟨0, [], [], Nat.zero_le _, rfl, HS.out, List.Perm.refl _, Nat.zero_le _⟩
  case round =>
    clear HS hmx
    obtain ⟨j, ms, P, hj, rfl, hst, hpm, hPj⟩ := hrel
    have w1' : IntKind.i64.wrap ((j : Int) + 1) = j + 1 := by rw [IntKind.wrap_i64]; omega
    by_cases hjl : j < L
    · obtain ⟨b, o, rfl, hb', hcell⟩ := H.out (by omega)
      obtain ⟨hC, hC3⟩ := hcell j hjl
      generalize f j = p at hC hC3
      have hnr := HN.out.step hst.1.new
      have c0 : wr.cell? ⟨b, o + j * 4, none⟩ = some (.int .i64 (p 0)) := hnr.cellK (hC 0 (by decide))
      have c1 := hnr.cellK (hC 1 (by decide))
      have c2 := hnr.cellK (hC 2 (by decide))
      have c3 := hnr.cellK hC3
      have i0 : (0 : Int) ≤ (j : Int) := by omega
      have i1 : (j : Int) < (L : Int) := by omega
      clear hcell hC hC3 hnr hb'
      obtain ⟨va, vc, rfl⟩ := hst.2.1.val
      obtain ⟨M, hM⟩ : ∃ M, M = P.length := ⟨_, rfl⟩
      rw [← hM] at hst hPj ⊢
      have hM150 : M ≤ 150 := by omega
      have hBD := Blk.new wr 47 #[.int .i64 (p 0), .int .i64 (p 1), .int .i64 (p 2), .int .u64 (p 3)]
      have hstD := hst.new_ ((New.refl wr).alloc (.cells #[.int .i64 (p 0), .int .i64 (p 1), .int .i64 (p 2), .int .u64 (p 3)] 47))
      have hwD := hst.1.box (.cells #[.int .i64 (p 0), .int .i64 (p 1), .int .i64 (p 2), .int .u64 (p 3)] 47)
      have HM := hid (And.intro hM (And.intro hpm (And.intro hstD (And.intro hBD hwD))))
      clear hM hpm hst hstD hBD hwD
      go_upto_block 2 with fail
      generalize (wr.alloc (.cells #[.int .i64 (p 0), .int .i64 (p 1), .int .i64 (p 2), .int .u64 (p 3)] 47)) = wD at *
      generalize wr.heap.size = D at *
      clear c0 c1 c2 c3
      go_cut [10, 11, 12] from 48 to 70 (fun at_ us _ wx => ∃ ai : Int, at_ = .int .i64 ai ∧ us = .int .i64 (usedR P : Int) ∧ AtIs P (p 1) M ai ∧ New wD wx)
      case first =>
        as_aux_lemma =>
        go_wp2_with fail
        go_loopw [10, 11, 12] (fun at_ us k wx => ∃ (q : Nat) (ai : Int), q ≤ M ∧ k = .int .i64 (q : Int) ∧ at_ = .int .i64 ai ∧ us = .int .i64 (usedR (P.take q) : Int) ∧ AtIs P (p 1) q ai ∧ New wD wx) (fun _ _ k _ => M - (intOf k).toNat)
        case atStart => exact ⟨0, -1, Nat.zero_le _, rfl, rfl, by simp [usedR], .inl ⟨rfl, fun i r hi => absurd hi (Nat.not_lt_zero _)⟩, New.refl _⟩
        case round =>
          obtain ⟨q, ai, hq, rfl, rfl, rfl, hat, hnx⟩ := hrel
          by_cases hqm : q < M
          · have w2' : IntKind.i64.wrap ((q : Int) + 1) = q + 1 := by rw [IntKind.wrap_i64]; omega
            obtain ⟨g, o', r, hg, hr, _, hcell⟩ := (HM.out.2.2.1.2.ls.new_ hnx).get hqm
            subst hg
            obtain ⟨K, hK⟩ : ∃ K, K = r.2.2.length := ⟨_, rfl⟩
            have d0 : wr.cell? ⟨g, o' + q * 2, none⟩ = some (.int .i64 (r.1 : Int)) := hcell 0 _ rfl
            have d1 : wr.cell? ⟨g, o' + q * 2 + 1, none⟩ = some (.slice (some ⟨r.2.1, 0, none⟩) K K) := by rw [hK]; exact hcell 1 _ rfl
            have e1 : wr.cell? ⟨D, 1, none⟩ = some (.int .i64 (p 1)) := by rw [(HM.out.2.2.2.1.new_ hnx).cell]; rfl
            obtain ⟨u, hu⟩ : ∃ u, u = usedR (P.take q) := ⟨_, rfl⟩
            have hu2 : usedR (P.take (q + 1)) = u + K := by rw [usedR_succ hr, hu, hK]
            have hub : u + K ≤ 3000 := by
              have := used_take P (q + 1)
              have := used_perm HM.out.2.1
              have := HM.out.2.2.1.1.used
              omega
            have hw3 : IntKind.i64.wrap ((u : Int) + (K : Int)) = ((u + K : Nat) : Int) := by rw [IntKind.wrap_i64]; omega
            have j0 : (0 : Int) ≤ (q : Int) := by omega
            have j1 : (q : Int) < (M : Int) := by omega
            have HQ := hid (And.intro hu2 (And.intro hat (And.intro hr hnx)))
            rw [← hu]
            clear hu hu2 hat hr hnx hcell hK
            by_cases he : (r.1 : Int) = p 1
            · rw [he] at d0
              go_wp2_with fail
              go_quiet (fail)
              go_wp2_with fail
              exact ⟨⟨q + 1, q, by omega, by go_num, rfl, by rw [HQ.out.1]; simp, .hit HQ.out.2.2.1 he, HQ.out.2.2.2.drewN _⟩, by simp [intOf]; omega⟩
            · go_wp2_with fail
              go_quiet (fail)
              go_wp2_with fail
              exact ⟨⟨q + 1, ai, by omega, by go_num, rfl, by rw [HQ.out.1]; simp, HQ.out.2.1.miss HQ.out.2.2.1 he, HQ.out.2.2.2.drewN _⟩, by simp [intOf]; omega⟩
          · have hqe : q = M := by omega
            subst hqe
            have hlt : ¬ (q : Int) < (q : Int) := by omega
            have hus : usedR (P.take q) = usedR P := by rw [HM.out.1, List.take_length]
            rw [hus]
            go_wp2_with fail
            go_meet
            exact ⟨ai, rfl, rfl, hat, hnx⟩
      case rest =>
        obtain ⟨ai, rfl, rfl, hat, hnx⟩ := hcut
        obtain ⟨u, hu⟩ : ∃ u, u = usedR P := ⟨_, rfl⟩
        rw [← hu]
        have HQ := hid (And.intro hu (And.intro hat hnx))
        clear hu hat hnx
        go_upto_block 4 with fail
        go_cut [7, 11, 13, 14, 15, 16, 17, 18, 19, 20, 21] from 71 to 282 (fun m us _ _ _ _ _ _ _ _ _ wx => ∃ (ms' : Ms) (P' : List Room), Pst w1 wx A N ms' m P' ∧ (ab P').Perm ms' ∧ P'.length ≤ j + 1 ∧ us = .int .i64 (usedR P' : Int))
        case first =>
          have hs := HM.out.2.2.1.new_ HQ.out.2.2
          have hB := HM.out.2.2.2.1.new_ HQ.out.2.2
          have hwb := HM.out.2.2.2.2.new_ HQ.out.2.2
          have e0 : wc.cell? ⟨D, 0, none⟩ = some (.int .i64 (p 0)) := by rw [hB.cell]; rfl
          have e1 : wc.cell? ⟨D, 1, none⟩ = some (.int .i64 (p 1)) := by rw [hB.cell]; rfl
          have HP := hid (And.intro hs (And.intro hB hwb))
          clear hs hB hwb
          by_cases h2 : p 0 ≤ 2
          · by_cases h1 : p 1 < 1
            · as_aux_lemma => --[[ small
              have hq := takeW wc HP.out.2.2 (by omega) (p 1)
              have t1 : takeE N ms (p 1) = 1 := by unfold takeE; rw [if_pos h1]
              have t2 : takeB N ms (p 1) = 0 := by unfold takeB; rw [t1, if_neg (by decide)]
              have t3 : takeM N ms (p 1) = ms := by unfold takeM; rw [t1, if_neg (by decide)]
              rw [t1, t2, t3] at hq
              have HT := hid hq
              clear hq t1 t2 t3
              go_wp2_with fail
              refine HT.out.mono ?_
              rintro e w4 ⟨rfl, hw4, hsm⟩
              have hB4 := HP.out.2.1.of_block (hsm.2 D (.inr rfl))
              have f1 : w4.cell? ⟨D, 1, none⟩ = some (.int .i64 (p 1)) := by rw [hB4.cell]; rfl
              have H4 := hid (HP.out.1.turnD hw4 hsm)
              clear hw4 hsm hB4 e0 e1
              go_wp2_with fail
              go_meet
              exact ⟨ms, P, H4.out, HM.out.2.1, by rw [← HM.out.1]; omega, by rw [HQ.out.1]⟩
              --]] small
            · as_aux_lemma => --[[ take
              obtain ⟨nn, hnn⟩ : ∃ nn : Nat, p 1 = nn := ⟨(p 1).toNat, by omega⟩
              have hn1 : ¬ (nn : Int) < 1 := by omega
              have hn1' : 1 ≤ nn := by omega
              have hq := takeW wc HP.out.2.2 (by omega) (nn : Int)
              obtain ⟨bb, hbb⟩ : ∃ bb, bb = takeB N ms (nn : Int) := ⟨_, rfl⟩
              obtain ⟨ee, hee⟩ : ∃ ee, ee = takeE N ms (nn : Int) := ⟨_, rfl⟩
              rw [← hbb, ← hee] at hq
              have HE := hid (And.intro hbb hee)
              have HT := hid hq
              rw [hnn] at e1
              have HNN := hid hnn
              clear hq hbb hee hnn h1
              go_wp2_with fail
              refine HT.out.mono ?_
              rintro e w4 ⟨rfl, hw4, hsm⟩
              have f1 : w4.cell? ⟨D, 1, none⟩ = some (.int .i64 (nn : Int)) := by
                rw [← HNN.out, (HP.out.2.1.of_block (hsm.2 D (.inr rfl))).cell]
                rfl
              have HB4 := hid (HP.out.2.1.of_block (hsm.2 D (.inr rfl)))
              have H4 := hid (HP.out.1.turnD hw4 hsm)
              clear hw4 hsm e0 e1 HT
              go_upto_block 5 with fail
              go_cut [15, 16, 17, 18] from 170 to 224 (fun want _ _ _ wx => ∃ z : Int, want = .int .i64 z ∧ New w4 wx ∧ ((z = -1 ∧ ∀ y, y + nn ≤ N → ¬ Free (ab P) nn y) ∨ ∃ x : Nat, z = x ∧ x + nn ≤ N ∧ Free (ab P) nn x ∧ ∀ y, y < x → ¬ Free (ab P) nn y))
              case first =>
                as_aux_lemma =>
                go_wp2_with fail
                go_loopw [15, 16, 17, 18] (fun want x _ _ wx => ∃ (xx : Nat) (z : Int), want = .int .i64 z ∧ x = .int .i64 (xx : Int) ∧ New w4 wx ∧ xx ≤ N + 1 ∧ ((z = -1 ∧ ∀ y, y < xx → y + nn ≤ N → ¬ Free (ab P) nn y) ∨ ∃ x0 : Nat, z = x0 ∧ xx = x0 + 1 ∧ x0 + nn ≤ N ∧ Free (ab P) nn x0 ∧ ∀ y, y < x0 → ¬ Free (ab P) nn y)) (fun _ x _ _ _ => N + 1 - (intOf x).toNat)
                case atStart => exact ⟨0, -1, rfl, rfl, New.refl _, Nat.zero_le _, .inl ⟨rfl, fun y hy => absurd hy (Nat.not_lt_zero _)⟩⟩
                case round =>
                  obtain ⟨xx, z, rfl, rfl, hnx, hxx, hz⟩ := hrel
                  have g1 : wr.cell? ⟨D, 1, none⟩ = some (.int .i64 (nn : Int)) := hnx.cellK f1
                  obtain ⟨F, hF⟩ : ∃ F, F = xx + nn := ⟨_, rfl⟩
                  rcases hz with ⟨rfl, hno⟩ | ⟨x0, rfl, rfl, hx0, hfr, hno⟩
                  · by_cases hnN : (nn : Int) ≤ (N : Int)
                    · have hwF : IntKind.i64.wrap ((xx : Int) + (nn : Int)) = (F : Int) := by rw [IntKind.wrap_i64]; omega
                      have hwx : IntKind.i64.wrap ((xx : Int) + 1) = xx + 1 := by rw [IntKind.wrap_i64]; omega
                      by_cases hFN : (F : Int) ≤ (N : Int)
                      · as_aux_lemma =>
                        have HF := hid (And.intro hF (And.intro hxx (And.intro hno hnx)))
                        have hF3 : F ≤ 3000 := by omega
                        clear hF hxx hno hnx
                        go_wp2_with fail
                        clear g1
                        go_loopw [17, 18] (fun fr k wx => ∃ (q : Nat) (fb : Bool), q ≤ M ∧ fr = .bool fb ∧ k = .int .i64 (q : Int) ∧ New w4 wx ∧ (fb = true ↔ FreeTo P nn xx q)) (fun _ k _ => M - (intOf k).toNat)
                        case atStart => exact ⟨0, true, Nat.zero_le _, rfl, rfl, HF.out.2.2.2, ⟨fun _ i r hi => absurd hi (Nat.not_lt_zero _), fun _ => rfl⟩⟩
                        case round =>
                          obtain ⟨q, fb, hq, rfl, rfl, hny, hfb⟩ := hrel
                          by_cases hqm : q < M
                          · as_aux_lemma =>
                            have w2' : IntKind.i64.wrap ((q : Int) + 1) = q + 1 := by rw [IntKind.wrap_i64]; omega
                            obtain ⟨g, o', r, hg, hr, _, hcell⟩ := (H4.out.2.ls.new_ hny).get hqm
                            subst hg
                            obtain ⟨K, hK⟩ : ∃ K, K = r.2.2.length := ⟨_, rfl⟩
                            obtain ⟨B, hB⟩ : ∃ B, B = r.1 := ⟨_, rfl⟩
                            obtain ⟨E, hE⟩ : ∃ E, E = B + K := ⟨_, rfl⟩
                            have d0 : wr.cell? ⟨g, o' + q * 2, none⟩ = some (.int .i64 (B : Int)) := by rw [hB]; exact hcell 0 _ rfl
                            have d1 : wr.cell? ⟨g, o' + q * 2 + 1, none⟩ = some (.slice (some ⟨r.2.1, 0, none⟩) K K) := by rw [hK]; exact hcell 1 _ rfl
                            have g1 : wr.cell? ⟨D, 1, none⟩ = some (.int .i64 (nn : Int)) := hny.cellK f1
                            have hrl := room_le HM.out.2.1 HP.out.1.1.good hr
                            rw [← hB, ← hK, ← hE] at hrl
                            have hwE : IntKind.i64.wrap ((B : Int) + (K : Int)) = (E : Int) := by rw [IntKind.wrap_i64]; omega
                            have j0 : (0 : Int) ≤ (q : Int) := by omega
                            have j1 : (q : Int) < (M : Int) := by omega
                            have hsu : FreeTo P nn xx (q + 1) ↔ FreeTo P nn xx q ∧ (E ≤ xx ∨ F ≤ B) := by
                              rw [FreeTo.succ hr, ← hB, ← hK, ← hE, ← HF.out.1]
                            rw [← hfb] at hsu
                            have HQ2 := hid (And.intro hsu hny)
                            clear hfb hr hrl hE hB hK hsu hny hcell
                            cases fb with
                            | false =>
                              as_aux_lemma =>
                              go_wp2_with fail
                              go_quiet (fail)
                              go_wp2_with fail
                              exact ⟨⟨q + 1, false, by omega, rfl, by go_num, HQ2.out.2.drewN _, by rw [HQ2.out.1]; simp⟩, by simp [intOf]; omega⟩
                            | true =>
                              by_cases ha : E ≤ xx
                              · as_aux_lemma =>
                                have hA : decide ((E : Int) ≤ (xx : Int)) = true := decide_eq_true (by omega)
                                have ha' : (E : Int) ≤ (xx : Int) := by omega
                                have HA := hid ha
                                clear ha
                                go_wp2_with fail
                                go_quiet (fail)
                                go_wp2_with fail
                                exact ⟨⟨q + 1, true, by omega, rfl, by go_num, HQ2.out.2.drewN _, by rw [HQ2.out.1]; simp [HA.out]⟩, by simp [intOf]; omega⟩
                              · have HA := hid ha
                                clear ha
                                by_cases hb : F ≤ B
                                · as_aux_lemma =>
                                  have hb' : (F : Int) ≤ (B : Int) := by omega
                                  have HB := hid hb
                                  clear hb
                                  go_wp2_with fail
                                  have ha' : ¬ (E : Int) ≤ (xx : Int) := by have := HA.out; omega
                                  go_quiet (fail)
                                  go_wp2_with fail
                                  exact ⟨⟨q + 1, true, by omega, rfl, by go_num, HQ2.out.2.drewN _, by rw [HQ2.out.1]; simp [HB.out]⟩, by simp [intOf]; omega⟩
                                · as_aux_lemma =>
                                  have HB := hid hb
                                  clear hb
                                  go_wp2_with fail
                                  have ha' : ¬ (E : Int) ≤ (xx : Int) := by have := HA.out; omega
                                  have hb' : ¬ (F : Int) ≤ (B : Int) := by have := HB.out; omega
                                  go_quiet (fail)
                                  go_wp2_with fail
                                  exact ⟨⟨q + 1, false, by omega, rfl, by go_num, HQ2.out.2.drewN _, by rw [HQ2.out.1]; simp [HA.out, HB.out]⟩, by simp [intOf]; omega⟩
                          · as_aux_lemma =>
                            have hqe : q = M := by omega
                            have hfb2 : fb = true ↔ Free (ab P) nn xx := by
                              rw [hfb, hqe, HM.out.1]
                              exact FreeTo.all
                            have hlt : ¬ (q : Int) < (M : Int) := by omega
                            have HQ2 := hid (And.intro hfb2 hny)
                            clear hfb hfb2 hqe hny
                            cases fb with
                            | true =>
                              go_wp2_with fail
                              exact ⟨⟨xx + 1, (xx : Int), rfl, by go_num, HQ2.out.2, by have := HF.out.1; omega, .inr ⟨xx, rfl, rfl, by have := HF.out.1; omega, HQ2.out.1.1 rfl, fun y hy => HF.out.2.2.1 y hy (by have := HF.out.1; omega)⟩⟩, by have := HF.out.1; simp [intOf]; omega⟩
                            | false =>
                              go_wp2_with fail
                              exact ⟨⟨xx + 1, -1, rfl, by go_num, HQ2.out.2, by have := HF.out.1; omega, .inl ⟨rfl, fun y hy hyn => by
                                by_cases e : y = xx
                                · rw [e]; intro h; exact absurd (HQ2.out.1.2 h) (by decide)
                                · exact HF.out.2.2.1 y (by omega) hyn⟩⟩, by have := HF.out.1; simp [intOf]; omega⟩
                      · as_aux_lemma =>
                        have HF := hid (And.intro hF (And.intro hxx (And.intro hno hnx)))
                        clear hF hxx hno hnx
                        go_wp2_with fail
                        go_meet
                        exact ⟨-1, rfl, HF.out.2.2.2, .inl ⟨rfl, fun y hy => HF.out.2.2.1 y (by have := HF.out.1; omega) hy⟩⟩
                    · as_aux_lemma =>
                      have HF := hid hnx
                      have hbig : ∀ y, ¬ y + nn ≤ N := fun y => by omega
                      clear hF hxx hno hnx
                      go_wp2_with fail
                      go_meet
                      exact ⟨-1, rfl, HF.out, .inl ⟨rfl, fun y hy => absurd hy (hbig y)⟩⟩
                  · as_aux_lemma =>
                    have HF := hid (show New w4 wr ∧ ((-1 : Int) = -1 ∧ ∀ y, y + nn ≤ N → ¬ Free (ab P) nn y ∨ True) from ⟨hnx, rfl, fun _ _ => .inr trivial⟩)
                    have HZ := hid (show ∃ x : Nat, (x0 : Int) = x ∧ x + nn ≤ N ∧ Free (ab P) nn x ∧ ∀ y, y < x → ¬ Free (ab P) nn y from ⟨x0, rfl, hx0, hfr, hno⟩)
                    have hneg : ¬ (x0 : Int) < 0 := by omega
                    clear hF hxx hno hnx hx0 hfr
                    go_wp2_with fail
                    go_meet
                    exact ⟨_, rfl, HF.out.1, .inr HZ.out⟩
              case rest =>
                obtain ⟨z, rfl, hnz, hz⟩ := hcut
                have g1 : wc.cell? ⟨D, 1, none⟩ = some (.int .i64 (nn : Int)) := hnz.cellK f1
                have H5 := hid (H4.out.new_ hnz)
                have HZ := hid hnz
                clear f1 hnz H4
                rcases hz with ⟨rfl, hno⟩ | ⟨x, rfl, hx, hfr, hno⟩
                · as_aux_lemma =>
                  have hfull := HP.out.2.2.full HM.out.2.1 hn1' hno
                  have hm : takeM N ms (nn : Int) = ms := by unfold takeM; rw [hfull.1, if_neg (by decide)]
                  rw [← HE.out.1, ← HE.out.2] at hfull
                  obtain ⟨rfl, rfl⟩ := hfull
                  rw [hm] at H5
                  clear hno hm
                  go_wp2_with fail
                  go_meet
                  exact ⟨ms, P, H5.out, HM.out.2.1, by rw [← HM.out.1]; omega, by rw [HQ.out.1]⟩
                · as_aux_lemma =>
                  have hfits := HP.out.2.2.fits HM.out.2.1 hn1' hx hfr hno
                  have hpm2 := fun g => took_perm (g := g) HM.out.2.1 hfits.1
                  rw [hfits.2.2] at hpm2
                  have hfits := And.intro hfits.1 hfits.2.1
                  rw [← HE.out.1, ← HE.out.2] at hfits
                  obtain ⟨rfl, rfl⟩ := hfits
                  have hxn : ¬ (x : Int) < 0 := by omega
                  have hun : usedR P ≤ N := by
                    have := used_perm HM.out.2.1
                    have := HP.out.1.1.used
                    omega
                  obtain ⟨U, hU⟩ : ∃ U, U = u + nn := ⟨_, rfl⟩
                  have hwU : IntKind.i64.wrap ((u : Int) + (nn : Int)) = (U : Int) := by rw [IntKind.wrap_i64]; have := HQ.out.1; omega
                  have hmk := fun X => run_make_row' (P := Try.prog) 48 41 (.int .u64 0) 8 Try.underlying48 word_info rfl .i64 .i64 nn (by omega) (by omega) X
                  obtain ⟨ti, hti, hzz⟩ := Option.map_eq_some_iff.1 proom_info
                  simp only [Prod.mk.injEq] at hzz
                  have HT := hid (And.intro hti hzz)
                  have q1 : M + 1 ≤ maxLen := by unfold maxLen; omega
                  have q2 : (M + 1) * 32 ≤ 140737488355328 := by omega
                  have HS := hid H5.out.2.1
                  rw [← HM.out.1] at HS
                  have HD6 : Hid (∀ X w6 : World, New wc X → X.grownBy w6 (Value.slice va M vc).ownBlock → w6.cell? ⟨D, 1, none⟩ = some (.int .i64 (nn : Int))) := by
                    intro X w6 hX hg
                    have hBX := (HB4.out.new_ HZ.out).new_ hX
                    rw [← HNN.out, (hBX.grown hg (fun e => by
                      obtain ⟨_, arr', hb'⟩ := HS.out.blk e.symm
                      exact absurd ((HB4.out.new_ HZ.out).inj hb') (by decide))).cell]
                    rfl
                  have hnb := hid (news_room (x := x) (g := wc.heap.size) (n := nn) (Blk.new (wc.alloc (.cells (madeCells #[.int .u64 0] nn) 41)) _ _))
                  rw [World.size_alloc] at hnb
                  have HU := hid (And.intro hU (And.intro hpm2 H5.out.1.new.size))
                  clear hti hzz hU hpm2 hno hfr hx hun
                  go_wp2_with (at_builtin; refine wpList_append_sl _ rfl (.tmp 240) (.tmp 246) 45 rfl w1.heap.size 50 ti _ 2 32 Try.underlying45 HT.out.1 HT.out.2.1 HT.out.2.2.1 HT.out.2.2.2 rfl (by decide) (.slice va M vc) M _ rfl ((HS.out.alloc _).alloc _) ⟨wc.heap.size + 1, 0, none⟩ 1 1 (rc (x, wc.heap.size, List.replicate nn 0)) rfl (by decide) rfl hnb.out (rc_one _) q1 q2 (by rw [World.size_alloc, World.size_alloc]; have := HU.out.2.2; omega) ?_; intro v6 w6 hs6 hg6 hb6; have g6 := HD6.out _ _ (((New.refl wc).alloc _).alloc _) hg6)
                  have hlen : (P ++ [(x, wc.heap.size, List.replicate nn 0)]).length = M + 1 := by rw [List.length_append, ← HM.out.1]; rfl
                  have hfin := H5.out.push (q := nn) (x := x) (by rw [← HM.out.1]; exact hs6) hg6 hb6
                  have husd : usedR (P ++ [(x, wc.heap.size, List.replicate nn 0)]) = U := by
                    rw [HU.out.1, HQ.out.1]
                    simp [usedR]
                  go_meet
                  exact ⟨_, _, hfin, HU.out.2.1 _, by rw [hlen]; omega, by rw [husd]⟩
              --]] take
          · by_cases h3 : p 0 = 3
            · rw [h3] at e0
              have H3 := hid h3
              clear h3 h2
              cases hai : decide (ai = -1) with
              | true =>
                as_aux_lemma => --[[ giveno
                have hai := of_decide_eq_true hai
                subst hai
                have hat := HQ.out.2.1
                rw [HM.out.1] at hat
                have hno := hat.none HM.out.2.1
                have hq := giveW wc HP.out.2.2 (by omega) (p 1)
                rw [give_none hno, hno] at hq
                have HT := hid hq
                clear hq hat hno
                go_wp2_with fail
                refine HT.out.mono ?_
                rintro e w4 ⟨rfl, hw4, hsm⟩
                have H4 := hid (HP.out.1.turnD hw4 hsm)
                clear hw4 hsm e0 e1
                go_wp2_with fail
                go_meet
                exact ⟨ms, P, H4.out, HM.out.2.1, by rw [← HM.out.1]; omega, by rw [HQ.out.1]⟩
                --]] giveno
              | false =>
                as_aux_lemma => --[[ give
                have hai' := of_decide_eq_false hai
                obtain ⟨i, r, hir, hri, hb⟩ : ∃ (i : Nat) (r : Room), ai = (i : Int) ∧ P[i]? = some r ∧ (r.1 : Int) = p 1 := by
                  rcases HQ.out.2.1 with ⟨e, _⟩ | ⟨i, r, _, e, h2, h3⟩
                  · exact absurd e hai'
                  · exact ⟨i, r, e, h2, h3⟩
                clear hai hai'
                subst hir
                have hiM : i < M := by rw [HM.out.1]; exact (List.getElem?_eq_some_iff.1 hri).1
                have hq := giveW wc HP.out.2.2 (by omega) (r.1 : Int)
                rw [find_at HM.out.2.1 HP.out.1.1.good hri] at hq
                rw [← hb] at e1
                have HR := hid (And.intro hri hb)
                simp only [Option.isSome_some] at hq
                have hpg := gave_perm HM.out.2.1 HP.out.1.1.good hri
                obtain ⟨B, hB⟩ : ∃ B, B = r.1 := ⟨_, rfl⟩
                rw [← hB] at e1 hq hpg
                have HT := hid hq
                have HB := hid hB
                have HG := hid hpg
                clear hq hri hb hB hpg
                go_wp2_with fail
                refine HT.out.mono ?_
                rintro e w4 ⟨rfl, hw4, hsm⟩
                have f1 : w4.cell? ⟨D, 1, none⟩ = some (.int .i64 (B : Int)) := by
                  rw [HB.out, HR.out.2, (HP.out.2.1.of_block (hsm.2 D (.inr rfl))).cell]
                  rfl
                have H4 := hid (HP.out.1.turnD hw4 hsm)
                clear hw4 hsm e0 e1 HT
                have hlen : 0 < M := by omega
                obtain ⟨g7, o7, r', hg, hr', _, hcell⟩ := H4.out.2.ls.get hiM
                subst hg
                rw [HR.out.1] at hr'
                cases hr'
                obtain ⟨K, hK⟩ : ∃ K, K = r.2.2.length := ⟨_, rfl⟩
                have d1 : w4.cell? ⟨g7, o7 + i * 2 + 1, none⟩ = some (.slice (some ⟨r.2.1, 0, none⟩) K K) := by rw [hK]; exact hcell 1 _ rfl
                obtain ⟨U, hU⟩ : ∃ U, U = usedR (P.take i ++ P.drop (i + 1)) := ⟨_, rfl⟩
                have huU : U + K = u := by rw [hU, hK, HQ.out.1]; exact used_cut HR.out.1
                have hu3 : u ≤ N := by
                  have := used_perm HM.out.2.1
                  have := HP.out.1.1.used
                  have := HQ.out.1
                  omega
                have hwU : IntKind.i64.wrap ((u : Int) - (K : Int)) = (U : Int) := by rw [IntKind.wrap_i64]; omega
                have hcap : M ≤ vc := by
                  obtain ⟨_, _, q, e, _, _, h, _⟩ := H4.out.2.1.form (by rw [← HM.out.1]; exact hlen)
                  cases e
                  rw [HM.out.1]; exact h
                have k0 : (0 : Int) ≤ (i : Int) := by omega
                have k1 : (i : Int) < (M : Int) := by omega
                have z3 : (i : Int) ≤ (vc : Int) := by omega
                have z5 : (0 : Int) ≤ (i : Int) + 1 := by omega
                have z6 : (i : Int) + 1 ≤ (M : Int) := by omega
                have z7 : ((i : Int) + 1).toNat = i + 1 := by omega
                have z8 : IntKind.i64.wrap ((i : Int) + 1) = (i : Int) + 1 := by rw [IntKind.wrap_i64]; omega
                have z9 : (M : Int) ≤ (vc : Int) := by omega
                have hiN : ¬ (i : Int) < 0 := by omega
                obtain ⟨ti, hti, hzz⟩ := Option.map_eq_some_iff.1 proom_info
                simp only [Prod.mk.injEq] at hzz
                have HT := hid (And.intro hti hzz)
                have HS := hid H4.out.2.1
                rw [← HM.out.1] at HS
                have hsz := H4.out.1.new.size
                have HU := hid (And.intro hU HG.out)
                have hone : ∀ u ∈ flatOf rc P, u.oneCell' = true := by
                  intro u hu
                  obtain ⟨x, _, hx⟩ := List.mem_flatMap.1 hu
                  exact rc_one x u hx
                have hcut2 := fun (a : Addr) (c : Nat) (ha : a = ⟨g7, o7 + (i + 1) * 2, none⟩ ∨ M - (i + 1) = 0) => cut_out (P := Try.prog) w4 w1.heap.size 45 45 50 ti _ 2 32 Try.underlying45 HT.out.1 HT.out.2.1 HT.out.2.2.1 HT.out.2.2.2 rfl (by decide) g7 o7 vc M i (flatOf rc P) HS.out hiM hone (by unfold maxLen; omega) (by omega) hsz a c ha
                clear hti hzz hU hcell hK huU hu3 hone
                by_cases y7 : vc = i + 1
                · as_aux_lemma =>
                  have hj0 : M - (i + 1) = 0 := by omega
                  obtain ⟨b1, k1, w5, b2, k2, w6, r1, r2, s6, n6, hbb⟩ := hcut2 ⟨g7, o7, none⟩ 0 (.inr hj0)
                  have z11 : (i : Int) ≤ (i : Int) + 1 := by omega
                  have z12 : (M : Int) ≤ (i : Int) + 1 := by omega
                  subst y7
                  clear hcut2 hj0
                  go_wp2_with fail
                  go_region_held3 (fun _ => True) (exact trivial) (first | (refine step_append_run rfl (.tmp 273) (.tmp 276) 45 45 rfl (.slice (some ⟨w4.heap.size, 0, none⟩) 0 0) (.slice (some ⟨g7, o7, none⟩) i (i + 1)) (by simp [Act.eval, Act.put]) (by simp [Act.eval, Act.put]) r1 ?_) | (refine step_append_run rfl (.tmp 277) (.tmp 281) 45 45 rfl (.slice (some b1) i k1) (.slice (some ⟨g7, o7, none⟩) (M - (i + 1)) 0) (by simp [Act.eval, Act.put]) (by simp [Act.eval, Act.put] <;> omega) r2 ?_))
                  go_wp2_with fail
                  go_meet
                  have hfin := H4.out.cut n6 (by rw [← HM.out.1]; exact hiM) (by rw [← HM.out.1]; exact s6) hbb
                  rw [← HM.out.1] at hfin
                  exact ⟨_, _, hfin, HU.out.2, by rw [List.length_append, List.length_take, List.length_drop, ← HM.out.1]; omega, by rw [HU.out.1]⟩
                · as_aux_lemma =>
                  obtain ⟨b1, k1, w5, b2, k2, w6, r1, r2, s6, n6, hbb⟩ := hcut2 ⟨g7, o7 + (i + 1) * 2, none⟩ (vc - (i + 1)) (.inl rfl)
                  clear hcut2
                  go_wp2_with fail
                  go_region_held3 (fun _ => True) (exact trivial) (first | (refine step_append_run rfl (.tmp 273) (.tmp 276) 45 45 rfl (.slice (some ⟨w4.heap.size, 0, none⟩) 0 0) (.slice (some ⟨g7, o7, none⟩) i vc) (by simp [Act.eval, Act.put]) (by simp [Act.eval, Act.put]) r1 ?_) | (refine step_append_run rfl (.tmp 277) (.tmp 281) 45 45 rfl (.slice (some b1) i k1) (.slice (some ⟨g7, o7 + (i + 1) * 2, none⟩) (M - (i + 1)) (vc - (i + 1))) (by simp [Act.eval, Act.put]) (by simp [Act.eval, Act.put] <;> omega) r2 ?_))
                  go_wp2_with fail
                  go_meet
                  have hfin := H4.out.cut n6 (by rw [← HM.out.1]; exact hiM) (by rw [← HM.out.1]; exact s6) hbb
                  rw [← HM.out.1] at hfin
                  exact ⟨_, _, hfin, HU.out.2, by rw [List.length_append, List.length_take, List.length_drop, ← HM.out.1]; omega, by rw [HU.out.1]⟩
                --]] give
            · have e2 : wc.cell? ⟨D, 2, none⟩ = some (.int .i64 (p 2)) := by rw [HP.out.2.1.cell]; rfl
              have e3 : wc.cell? ⟨D, 3, none⟩ = some (.int .u64 (p 3)) := by rw [HP.out.2.1.cell]; rfl
              cases hai : decide (ai = -1) with
              | true =>
                as_aux_lemma => --[[ rwnone
                have hai := of_decide_eq_true hai
                subst hai
                have hat := HQ.out.2.1
                rw [HM.out.1] at hat
                have hno := hat.none HM.out.2.1
                by_cases h4 : p 0 ≤ 4
                · as_aux_lemma =>
                  have hq := readWt wc HP.out.2.2 (by omega) (p 1) (p 2)
                  rw [(read_not hno (p 2)).1, (read_not hno (p 2)).2] at hq
                  have HT := hid hq
                  clear hq hat hno
                  go_wp2_with fail
                  refine HT.out.mono ?_
                  rintro e w4 ⟨rfl, n4⟩
                  have H4 := hid (HP.out.1.new_ n4)
                  clear e0 e1 e2 e3 n4 HT
                  go_wp2_with fail
                  go_quiet (fail)
                  go_wp2_with fail
                  go_meet
                  exact ⟨ms, P, H4.out.new_ ((New.refl _).drewN _), HM.out.2.1, by rw [← HM.out.1]; omega, by rw [HQ.out.1]⟩
                · as_aux_lemma =>
                  have hq := writeWt wc HP.out.2.2 (by omega) (p 1) (p 2) (p 3)
                  rw [(read_not hno (p 2)).1] at hq
                  have hpw := ab_perm_write HM.out.2.1 (p 1) (p 2) (cutW (p 3))
                  rw [writeP_no (fun i r hi hr => by
                    rw [← hr, find_at HM.out.2.1 HP.out.1.1.good hi] at hno
                    cases hno)] at hpw
                  have HT := hid hq
                  have HW := hid hpw
                  clear hq hat hno hpw
                  go_wp2_with fail
                  refine HT.out.mono ?_
                  rintro e w4 ⟨rfl, hw4, hsm⟩
                  have H4 := hid (HP.out.1.turnD hw4 hsm)
                  clear e0 e1 e2 e3 hw4 hsm HT
                  go_wp2_with fail
                  go_meet
                  exact ⟨_, P, H4.out, HW.out, by rw [← HM.out.1]; omega, by rw [HQ.out.1]⟩
                --]] rwnone
              | false =>
                as_aux_lemma => --[[ rwsome
                have hai' := of_decide_eq_false hai
                obtain ⟨i, r, hir, hri, hb⟩ : ∃ (i : Nat) (r : Room), ai = (i : Int) ∧ P[i]? = some r ∧ (r.1 : Int) = p 1 := by
                  rcases HQ.out.2.1 with ⟨e, _⟩ | ⟨i, r, _, e, h2, h3⟩
                  · exact absurd e hai'
                  · exact ⟨i, r, e, h2, h3⟩
                clear hai hai'
                subst hir
                have hiM : i < M := by rw [HM.out.1]; exact (List.getElem?_eq_some_iff.1 hri).1
                rw [← hb] at e1
                have hrd := fun off => read_at HM.out.2.1 HP.out.1.1.good hri off
                have hpw := ab_perm_write HM.out.2.1 (r.1 : Int) (p 2) (cutW (p 3))
                obtain ⟨K, hK⟩ : ∃ K, K = r.2.2.length := ⟨_, rfl⟩
                have hKN := room_le HM.out.2.1 HP.out.1.1.good hri
                rw [← hK] at hKN
                obtain ⟨g7, o7, r', hg, hr', _, hcell⟩ := HP.out.1.2.ls.get hiM
                subst hg
                rw [hri] at hr'
                cases hr'
                have d1 : wc.cell? ⟨g7, o7 + i * 2 + 1, none⟩ = some (.slice (some ⟨r.2.1, 0, none⟩) K K) := by rw [hK]; exact hcell 1 _ rfl
                have k0 : (0 : Int) ≤ (i : Int) := by omega
                have k1 : (i : Int) < (M : Int) := by omega
                have hiN : ¬ (i : Int) < 0 := by omega
                by_cases hin : 0 ≤ p 2 ∧ p 2 < (K : Int)
                · as_aux_lemma => --[[ rwin
                  obtain ⟨k, hk⟩ : ∃ k : Nat, p 2 = k := ⟨(p 2).toNat, by omega⟩
                  have hkK : k < K := by omega
                  have hinR : inR r (k : Int) = true := by
                    unfold inR
                    rw [decide_eq_true_eq, ← hK]
                    omega
                  have hrd := hrd (k : Int)
                  rw [hinR, if_pos rfl, if_pos rfl, Int.toNat_natCast] at hrd
                  rw [hk] at e2 hpw
                  rw [writeP_at (bases HM.out.2.1 HP.out.1.1.good) hri hinR, Int.toNat_natCast] at hpw
                  obtain ⟨V, hV⟩ : ∃ V, V = r.2.2.getD k 0 := ⟨_, rfl⟩
                  rw [← hV] at hrd
                  have hB : r.2.1 < wc.heap.size := HP.out.1.2.lt (List.mem_of_getElem? hri)
                  have HK := hid (And.intro hk (And.intro hK (And.intro hri (And.intro hb hV))))
                  have hk0 : ¬ (k : Int) < 0 := by omega
                  have hkk : (k : Int) < (K : Int) := by omega
                  have hk00 : (0 : Int) ≤ (k : Int) := by omega
                  have hkge : ¬ (K : Int) ≤ (k : Int) := by omega
                  by_cases h4 : p 0 ≤ 4
                  · as_aux_lemma => --[[ rdin
                    have hq := fun X (hX : New wc X) => readWt X (HP.out.2.2.new_ hX) (by omega) (r.1 : Int) (k : Int)
                    rw [hrd.1, hrd.2] at hq
                    obtain ⟨B, hBB⟩ : ∃ B, B = r.1 := ⟨_, rfl⟩
                    rw [← hBB] at hq e1
                    have HT := hid hq
                    clear hq hrd hpw hin hb hri hK hV hk hcell hKN hBB
                    go_wp2_with fail
                    have hkge : ¬ (K : Int) ≤ (k : Int) := by omega
                    go_quiet (fail)
                    go_wp2_with fail
                    refine (HT.out _ ((New.refl _).drewN _)).mono ?_
                    rintro e w4 ⟨rfl, n4⟩
                    have hn4 : New wc w4 := ((New.refl wc).drewN _).step n4
                    have H4 := hid (HP.out.1.new_ hn4)
                    have f2 := hn4.cellK e2
                    have f1 := hn4.cellK d1
                    have fV : w4.cell? ⟨r.2.1, k, none⟩ = some (.int .u64 V) := by
                      rw [(H4.out.2.2.1 r (List.mem_of_getElem? HK.out.2.2.1)).2.cell, HK.out.2.2.2.2]
                      exact wrow_cell (by rw [← HK.out.2.1]; exact hkK)
                    clear e0 e1 e2 e3 n4 HT d1 hn4
                    go_wp2_with fail
                    go_quiet (fail)
                    go_wp2_with fail
                    go_meet
                    exact ⟨ms, P, H4.out.new_ ((New.refl _).drewN _), HM.out.2.1, by rw [← HM.out.1]; omega, by rw [HQ.out.1]⟩
                    --]] rdin
                  · as_aux_lemma => --[[ wrin
                    have hq := fun X (hX : New wc X) => writeWt X (HP.out.2.2.new_ hX) (by omega) (r.1 : Int) (k : Int) (p 3)
                    rw [hrd.1] at hq
                    obtain ⟨B, hBB⟩ : ∃ B, B = r.1 := ⟨_, rfl⟩
                    rw [← hBB] at hq e1 hpw
                    have hcut3 := hid (cuta_any (p 3))
                    have HT := hid (And.intro hq hpw)
                    have HBB := hid hBB
                    clear hq hrd hpw hin hb hri hK hV hk hcell hKN hBB
                    go_wp2_with fail
                    have hkge : ¬ (K : Int) ≤ (k : Int) := by omega
                    go_quiet (fail)
                    go_wp2_with fail
                    refine (HT.out.1 _ ((New.refl _).drewN _)).mono ?_
                    rintro e w4 ⟨rfl, hw4, hsm⟩
                    have H4 := hid ((HP.out.1.new_ ((New.refl wc).drewN _)).turnD hw4 hsm)
                    have hB4 := (HP.out.2.1.new_ ((New.refl wc).drewN _)).of_block (hsm.2 D (.inr rfl))
                    have f2 : w4.cell? ⟨D, 2, none⟩ = some (.int .i64 (k : Int)) := by rw [← HK.out.1, hB4.cell]; rfl
                    have f3 : w4.cell? ⟨D, 3, none⟩ = some (.int .u64 (p 3)) := by rw [hB4.cell]; rfl
                    have hBr := (H4.out.2.2.1 r (List.mem_of_getElem? HK.out.2.2.1)).2
                    have hrD : ¬ r.2.1 = D := fun e => absurd ((e ▸ hBr).inj hB4) (by decide)
                    have hls := H4.out.2.ls.get hiM
                    obtain ⟨g9, o9, r9, hg9, hr9, _, hcell9⟩ := hls
                    cases hg9
                    rw [HK.out.2.2.1] at hr9
                    cases hr9
                    have f1 : w4.cell? ⟨g7, o7 + i * 2 + 1, none⟩ = some (.slice (some ⟨r.2.1, 0, none⟩) K K) := by rw [HK.out.2.1]; exact hcell9 1 _ rfl
                    have hrg : ¬ r.2.1 = g7 := fun e => H4.out.2.apart (List.mem_of_getElem? HK.out.2.2.1) (by rw [e]; rfl)
                    have fV : w4.cell? ⟨r.2.1, k, none⟩ = some (.int .u64 V) := by
                      rw [hBr.cell, HK.out.2.2.2.2]
                      exact wrow_cell (by rw [← HK.out.2.1]; exact hkK)
                    have hfr : w4.frozen? ⟨r.2.1, k, none⟩ = false := hBr.frozen k
                    clear e0 e1 e2 e3 d1 hw4 hsm hB4 hcell9 hBr
                    go_wp2_with fail
                    go_region_held3 (fun w' => w'.cell? ⟨D, 2, none⟩ = some (.int .i64 (k : Int)) ∧ w'.cell? ⟨D, 3, none⟩ = some (.int .u64 (p 3)) ∧ w'.cell? ⟨g7, o7 + i * 2 + 1, none⟩ = some (.slice (some ⟨r.2.1, 0, none⟩) K K)) ((simp [*, World.cell?_alloc_some, World.cell?_setCell_far, cell?_setBlock]; done)) (first | (go_at_call 15; (with_reducible refine (hcut3.out _).mono ?_); rintro e w5 ⟨rfl, rfl⟩))
                    all_goals
                      have hfin := (H4.out.new_ ((New.refl w4).drew)).wrote HK.out.2.2.1 (k := k) (by rw [← HK.out.2.1]; exact hkK) (cutW (p 3))
                      go_wp2_with fail
                      go_meet
                      exact ⟨_, _, hfin, by rw [← HBB.out]; exact HT.out.2, by rw [List.length_set, ← HM.out.1]; omega, by rw [usedR_set HK.out.2.2.1 (List.length_set ..), HQ.out.1]⟩
                    --]] wrin
                  --]] rwin
                · skip --[[ rwout
                  have hinR : inR r (p 2) = false := by
                    unfold inR
                    rw [decide_eq_false_iff_not, ← hK]
                    exact hin
                  have hrd := hrd (p 2)
                  rw [hinR, if_neg (by decide), if_neg (by decide)] at hrd
                  rw [writeP_no (fun j s hj hs => by
                    have hij := base_one HM.out.2.1 HP.out.1.1.good hri hj (by omega)
                    subst hij
                    rw [hri] at hj
                    cases hj
                    exact hinR)] at hpw
                  obtain ⟨B, hBB⟩ : ∃ B, B = r.1 := ⟨_, rfl⟩
                  rw [← hBB] at e1 hpw hrd
                  have hq1 := fun X (hX : New wc X) => readWt X (HP.out.2.2.new_ hX) (by omega) (B : Int) (p 2)
                  have hq2 := fun X (hX : New wc X) => writeWt X (HP.out.2.2.new_ hX) (by omega) (B : Int) (p 2) (p 3)
                  rw [hrd.1, hrd.2] at hq1
                  rw [hrd.1] at hq2
                  have HT := hid (And.intro hq1 (And.intro hq2 hpw))
                  have HI := hid hin
                  clear hq1 hq2 hpw hrd hinR hb hri hK hcell hKN hBB hin
                  by_cases hneg : p 2 < 0
                  · by_cases h4 : p 0 ≤ 4
                    · as_aux_lemma =>
                      go_wp2_with fail
                      go_quiet (fail)
                      go_wp2_with fail
                      refine (HT.out.1 _ ((New.refl _).drewN _)).mono ?_
                      rintro e w4 ⟨rfl, n4⟩
                      have H4 := hid (HP.out.1.new_ (((New.refl wc).drewN _).step n4))
                      clear e0 e1 e2 e3 n4 d1
                      go_wp2_with fail
                      go_quiet (fail)
                      go_wp2_with fail
                      go_meet
                      exact ⟨ms, P, H4.out.new_ ((New.refl _).drewN _), HM.out.2.1, by rw [← HM.out.1]; omega, by rw [HQ.out.1]⟩
                    · as_aux_lemma =>
                      go_wp2_with fail
                      go_quiet (fail)
                      go_wp2_with fail
                      refine (HT.out.2.1 _ ((New.refl _).drewN _)).mono ?_
                      rintro e w4 ⟨rfl, hw4, hsm⟩
                      have H4 := hid ((HP.out.1.new_ ((New.refl wc).drewN _)).turnD hw4 hsm)
                      clear e0 e1 e2 e3 hw4 hsm d1
                      go_wp2_with fail
                      go_meet
                      exact ⟨_, P, H4.out, HT.out.2.2, by rw [← HM.out.1]; omega, by rw [HQ.out.1]⟩
                  · have hge : (K : Int) ≤ p 2 := by have := HI.out; omega
                    by_cases h4 : p 0 ≤ 4
                    · as_aux_lemma =>
                      go_wp2_with fail
                      have hneg' : ¬ p 2 < 0 := by omega
                      go_quiet (fail)
                      go_wp2_with fail
                      refine (HT.out.1 _ ((New.refl _).drewN _)).mono ?_
                      rintro e w4 ⟨rfl, n4⟩
                      have H4 := hid (HP.out.1.new_ (((New.refl wc).drewN _).step n4))
                      clear e0 e1 e2 e3 n4 d1
                      go_wp2_with fail
                      go_quiet (fail)
                      go_wp2_with fail
                      go_meet
                      exact ⟨ms, P, H4.out.new_ ((New.refl _).drewN _), HM.out.2.1, by rw [← HM.out.1]; omega, by rw [HQ.out.1]⟩
                    · as_aux_lemma =>
                      go_wp2_with fail
                      have hneg' : ¬ p 2 < 0 := by omega
                      go_quiet (fail)
                      go_wp2_with fail
                      refine (HT.out.2.1 _ ((New.refl _).drewN _)).mono ?_
                      rintro e w4 ⟨rfl, hw4, hsm⟩
                      have H4 := hid ((HP.out.1.new_ ((New.refl wc).drewN _)).turnD hw4 hsm)
                      clear e0 e1 e2 e3 hw4 hsm d1
                      go_wp2_with fail
                      go_meet
                      exact ⟨_, P, H4.out, HT.out.2.2, by rw [← HM.out.1]; omega, by rw [HQ.out.1]⟩
                --]] rwsome
        case rest =>
          as_aux_lemma =>
          obtain ⟨ms', P', hst', hpm', hP', rfl⟩ := hcut
          clear HM HQ i0 i1
          have hu := usedW wc hst'.1 (by omega)
          rw [← used_perm hpm'] at hu
          obtain ⟨va', vc', rfl⟩ := hst'.2.1.val
          obtain ⟨M', hM'⟩ : ∃ M', M' = P'.length := ⟨_, rfl⟩
          rw [← hM'] at hst' hP' ⊢
          obtain ⟨u', hu'⟩ : ∃ u', u' = usedR P' := ⟨_, rfl⟩
          rw [← hu'] at hu ⊢
          have hM151 : M' ≤ 151 := by omega
          have HX := hid (And.intro hM' (And.intro hpm' (And.intro hst' hP')))
          clear hM' hu' hpm' hst' hP'
          go_wp2_with fail
          refine hu.mono ?_
          rintro e w4 ⟨rfl, n4⟩
          have H4 := hid n4
          clear n4 hu
          go_wp2_with fail
          go_loopw [22] (fun k wx => ∃ q : Nat, q ≤ M' ∧ k = .int .i64 (q : Int) ∧ New wc wx) (fun k _ => M' - (intOf k).toNat)
          case atStart => exact ⟨0, Nat.zero_le _, rfl, H4.out⟩
          case round =>
            obtain ⟨q, hq, rfl, hnx⟩ := hrel
            by_cases hqm : q < M'
            · have w2' : IntKind.i64.wrap ((q : Int) + 1) = q + 1 := by rw [IntKind.wrap_i64]; omega
              obtain ⟨g, o', r, hg, hr, _, hcell⟩ := (HX.out.2.2.1.2.ls.new_ hnx).get hqm
              subst hg
              obtain ⟨K, hK⟩ : ∃ K, K = r.2.2.length := ⟨_, rfl⟩
              have d0 : wr.cell? ⟨g, o' + q * 2, none⟩ = some (.int .i64 (r.1 : Int)) := hcell 0 _ rfl
              have d1 : wr.cell? ⟨g, o' + q * 2 + 1, none⟩ = some (.slice (some ⟨r.2.1, 0, none⟩) K K) := by rw [hK]; exact hcell 1 _ rfl
              have j0 : (0 : Int) ≤ (q : Int) := by omega
              have j1 : (q : Int) < (M' : Int) := by omega
              have hS := fun X (hX : New wr X) => sizeW X (HX.out.2.2.1.1.new_ (hnx.step hX)) (by omega) (r.1 : Int)
              have hz : sizeM ms' (r.1 : Int) = K := by
                unfold sizeM
                rw [find_at HX.out.2.1 HX.out.2.2.1.1.good hr, hK]
              rw [hz] at hS
              have HS := hid (And.intro hS hnx)
              clear hS hz hnx hcell hK hr
              as_aux_lemma =>
              go_wp2_with fail
              refine wp_region_quiet (C := fun w' => New wr w') (by kernel_rfl) (by kernel_rfl) (New.refl wr).drew ?_
              simp only [List.toList_toArray]
              repeat (first
                | go_big_quiet_skip
                | (go_big_quiet_want
                   apply Exists.intro
                   refine ⟨fun w' hw' => ?_, ?_⟩
                   · have d0_ := hw'.cellK d0; have d1_ := hw'.cellK d1; go_simp; first | (with_reducible rfl) | (go_at_call 11; with_reducible exact ((HS.out.1 w' hw').mono (fun e w2 h => ⟨h.1, hw'.step h.2⟩)))
                   go_big_quiet_on
                   try simp only [Act.put, List.setIfInBounds_toArray, List.set_cons_zero, List.set_cons_succ]))
              refine wpQuiet_nil ?_
              intro wQ hwQ
              go_wp2_with fail
              exact ⟨⟨q + 1, by omega, by go_num, HS.out.2.step hwQ⟩, by simp [intOf]; omega⟩
            · have hlt : ¬ (q : Int) < (M' : Int) := by omega
              have HY := hid hnx
              clear hnx
              go_wp2_with fail
              exact ⟨⟨j + 1, ms', P', by omega, by go_num, HX.out.2.2.1.new_ HY.out, HX.out.2.1, by rw [← HX.out.1]; exact HX.out.2.2.2⟩, by simp [intOf]; omega⟩
    · have hje : ¬ (j : Int) < (L : Int) := by omega
      have hS := sizeW wr hst.1 (by omega) (-1)
      rw [find_neg] at hS
      have HX := hid (HN.out.step hst.1.new)
      clear hst
      go_wp2_with fail
      refine hS.mono ?_
      rintro e w5 ⟨rfl, n5⟩
      go_wp2
      go_ret
      exact ⟨rfl, HX.out.step n5⟩
end Go.Proofs.Ytapefbmbaofbbaa.Law
