/- The contract of letters.Read. -/
import Derived.Test.YtnoahdobgndmnaaLetters
namespace Go.Proofs.Ytnoahdobgndmnaa.Letters
open Go Go.RowKit Go.Proofs.Ytnoahdobgndmnaa.Kit Go.Proofs.Ytnoahdobgndmnaa.Wd Go.Proofs.Ytnoahdobgndmnaa.Word Go.Proofs.Ytnoahdobgndmnaa.Let Go.Proofs.Ytnoahdobgndmnaa.Same
set_option linter.unusedSimpArgs false
set_option linter.unusedVariables false
def readV (ws : List Nat) : Value := .tuple #[st (rdL ws), .int .i64 ((1 + nW (rdN ws) : Nat) : Int), .int .i64 0]
def noV : Value := .tuple #[.string ⟨#[]⟩, .int .i64 0, .int .i64 2]
/-- The bytes that stand behind j steps. -/
def bys (ws : List Nat) (k : Nat) : List Value := (List.range k).map fun i => Value.int .u8 ((rf ws i : Nat) : Int)
theorem bys_succ (ws : List Nat) (k : Nat) : bys ws (k + 1) = bys ws k ++ [.int .u8 ((rf ws k : Nat) : Int)] := by unfold bys; rw [List.range_succ, List.map_append]; rfl
theorem bys_len (ws : List Nat) (k : Nat) : (bys ws k).length = k := by unfold bys; simp
set_option maxRecDepth 100000 in
set_option maxHeartbeats 4000000 in
theorem Read_any (w : World) (v : Value) (ws : List Nat) (h : WsAt w v ws) (hx : ∀ i, ws.getD i 0 < 18446744073709551616) (hlen : ws.length ≤ 1000000) :
    Calls Try.prog 37 #[v] w fun e w' => ((RdOk ws ∧ e = .returned (readV ws)) ∨ (¬ RdOk ws ∧ e = .returned noV)) ∧ New w w' := by
  obtain ⟨a, c, rfl, hcell⟩ := h
  obtain ⟨Lw, hLw⟩ : ∃ Lw, Lw = ws.length := ⟨_, rfl⟩
  rw [← hLw] at hcell hlen ⊢
  have HL := hid hLw
  by_cases h0 : 0 < Lw
  · clear hLw
    obtain ⟨b, o, rfl, hb, hcell⟩ := hcell h0
    have hc0 := hcell 0 h0
    obtain ⟨N, hN⟩ : ∃ N, N = rdN ws := ⟨_, rfl⟩
    have hx0 := hx 0
    have hN2 : N = ws.getD 0 0 % 68719476736 := hN
    have hNb : N < 68719476736 := by omega
    generalize ws.getD 0 0 = X0 at hc0 hx0 hN2
    have hband : Go.bits .and .u64 (X0 : Int) 68719476735 = (N : Int) := by rw [and_mask (by omega) (by omega)]; omega
    have hc0' : w.cell? ⟨b, o, none⟩ = some (.int .u64 (X0 : Int)) := hc0
    have h0' : ¬ (Lw : Int) = 0 := by omega
    have h0'' : (0 : Int) < (Lw : Int) := by omega
    have w1 : IntKind.i64.wrap (N : Int) = N := by rw [IntKind.wrap_i64]; omega
    have HC := hid hcell
    have HN := hid hN
    have HH := hid h0
    clear hcell hN hN2 h0
    by_cases h255 : 255 < N
    · have h255' : (255 : Int) < (N : Int) := by omega
      have hno : Hid (¬ RdOk ws) := fun hk => by have := hk.2.1; have := HN.out; omega
      clear h255
      go_enter Try.func37, Try.ntmps37
      go_wp2_with fail
      go_ret3
      exact ⟨.inr ⟨hno.out, rfl⟩, New.refl _⟩
    · have h255' : ¬ (255 : Int) < (N : Int) := by omega
      have hwd := fun W => words_any N (by omega) W
      obtain ⟨m, hm⟩ : ∃ m, m = nW N := ⟨_, rfl⟩
      have hm2 : m ≤ 64 := by rw [hm]; unfold nW; omega
      obtain ⟨M, hM⟩ : ∃ M, M = 1 + m := ⟨_, rfl⟩
      rw [← hm] at hwd
      have w2 : IntKind.i64.wrap (1 + (m : Int)) = (M : Int) := by rw [IntKind.wrap_i64]; omega
      have HM := hid (And.intro hm hM)
      by_cases hlM : Lw < M
      · have hlM' : (Lw : Int) < (M : Int) := by omega
        have hno : Hid (¬ RdOk ws) := fun hk => by
          have h1 := hk.2.2.1
          have h2 := HL.out
          rw [← HN.out, ← hm, ← hM] at h1
          omega
        clear hm hM hlM h255
        go_enter Try.func37, Try.ntmps37
        go_wp2_with fail
        refine (hwd _).mono ?_
        rintro e w' ⟨rfl, rfl⟩
        go_wp2_with fail
        go_ret3
        exact ⟨.inr ⟨hno.out, rfl⟩, New.refl _⟩
      · have hlM' : ¬ (Lw : Int) < (M : Int) := by omega
        obtain ⟨F4, hF4⟩ : ∃ F4, F4 = m * 4 := ⟨_, rfl⟩
        have w3 : IntKind.i64.wrap ((m : Int) * 4) = (F4 : Int) := by rw [IntKind.wrap_i64]; omega
        obtain ⟨ti, hi, hzz⟩ := Option.map_eq_some_iff.1 byte_info
        simp only [Prod.mk.injEq] at hzz
        obtain ⟨hz1, hz2, hz3⟩ := hzz
        obtain ⟨w1', hmk, hown, hgr⟩ := run_make_own (P := Try.prog) w w.heap.size 52 5 ti (.int .u8 0) 1 Try.underlying52 hi hz1 hz2 .i64 .i64 N (by rw [hz3]; omega) (by unfold maxLen; omega) (Nat.le_refl _)
        have HT := hid (And.intro hi (And.intro hz1 (And.intro hz2 hz3)))
        have hn1 : New w w1' := New.grown (New.refl w) hgr (fun k hk => by cases hk)
        have A := hid (And.intro (Sl.of_owns hown) (And.intro hn1 hF4))
        clear hi hz1 hz2 hz3 hown hgr hn1 hF4 hm hM hlM
        go_enter Try.func37, Try.ntmps37
        go_wp2_with fail
        refine (hwd _).mono ?_
        rintro e w' ⟨rfl, rfl⟩
        go_wp2_with fail
        refine (hwd _).mono ?_
        rintro e w' ⟨rfl, rfl⟩
        go_wp2_with fail
        go_loopw [7, 38] (fun v q wr => ∃ j g o2 cap : Nat, j ≤ F4 ∧ q = .int .i64 (j : Int) ∧ v = .slice (some ⟨g, o2, none⟩) (min j N) cap ∧ Sl wr w.heap.size 5 1 v (min j N) (bys ws (min j N)) ∧ (∀ i, i < j → rf ws i ≤ 255 ∧ (N ≤ i → rf ws i = 0)) ∧ New w wr) (fun _ q _ => F4 - (intOf q).toNat)
        case atStart =>
          refine ⟨0, w.heap.size, 0, N, Nat.zero_le _, rfl, by rw [Nat.zero_min], ?_, fun i hi => absurd hi (by omega), A.out.2.1⟩
          rw [Nat.zero_min]
          exact A.out.1
        case round =>
          obtain ⟨j, g, o2, cap, hj, rfl, rfl, hsl, hall, hnr⟩ := hrel
          have hm := HM.out.1
          have hM := HM.out.2
          have hF4 := A.out.2.2
          have w4 : IntKind.i64.wrap ((j : Int) + 1) = j + 1 := by rw [IntKind.wrap_i64]; omega
          by_cases hjl : j < F4
          · obtain ⟨K, hK⟩ : ∃ K, K = 1 + j / 4 := ⟨_, rfl⟩
            obtain ⟨T, hT⟩ : ∃ T, T = j % 4 * 9 := ⟨_, rfl⟩
            have hKL : K < Lw := by omega
            have hck := hnr.cellK (HC.out K hKL)
            have hxk := hx K
            have hq := fun X => get_yes_any (ws.getD K 0) (j % 4 * 9) 9 hxk (by decide) (by omega) X
            have eF : getN (ws.getD K 0) (j % 4 * 9) 9 = rf ws j := by rw [hK]; rfl
            rw [eF, ← hT] at hq
            obtain ⟨F, hF⟩ : ∃ F, F = rf ws j := ⟨_, rfl⟩
            have hF512 : F < 512 := by rw [hF]; exact fl_lt _ _
            rw [← hF] at hq
            generalize ws.getD K 0 = X1 at hck hxk hq
            have t1 : (j : Int).tdiv 4 = (j : Int) / 4 := by rw [Int.tdiv_eq_ediv_of_nonneg (by omega)]
            have t2 : (j : Int).tmod 4 = (j : Int) % 4 := by rw [Int.tmod_eq_emod_of_nonneg (by omega)]
            have w5 : IntKind.i64.wrap (1 + (j : Int) / 4) = (K : Int) := by rw [IntKind.wrap_i64]; omega
            have w5' : IntKind.i64.wrap ((j : Int) / 4) = (j : Int) / 4 := by rw [IntKind.wrap_i64]; omega
            have w6 : IntKind.i64.wrap ((j : Int) % 4 * 9) = (T : Int) := by rw [IntKind.wrap_i64]; omega
            have i0 : (0 : Int) ≤ (K : Int) := by omega
            have i1 : (K : Int) < (Lw : Int) := by omega
            have hjl' : (j : Int) < (F4 : Int) := by omega
            have hjm : j < nW (rdN ws) * 4 := by rw [← HN.out, ← hm, ← hF4]; exact hjl
            have Q := hid hq
            have R := hid (And.intro hsl (And.intro hall (And.intro hnr (And.intro hF hjm))))
            clear hq hsl hall hnr hF hjm eF hK hT hm hM hF4 hKL
            by_cases h255F : 255 < F
            · have hF1 : (255 : Int) < (F : Int) := by omega
              have hno : Hid (¬ RdOk ws) := fun hk => by
                have h1 := (hk.2.2.2 j R.out.2.2.2.2).1
                rw [← R.out.2.2.2.1] at h1
                omega
              clear h255F
              go_wp2_with fail
              refine (Q.out _).mono ?_
              rintro e w4 ⟨rfl, rfl⟩
              go_wp2_with fail
              go_ret3
              exact ⟨.inr ⟨hno.out, rfl⟩, R.out.2.2.1⟩
            · have hF1 : ¬ (255 : Int) < (F : Int) := by omega
              by_cases hjN : j < N
              · have hjN' : (j : Int) < (N : Int) := by omega
                have hjN2 : ¬ (N : Int) ≤ (j : Int) := by omega
                have w7 : IntKind.u8.wrap (F : Int) = (F : Int) := by rw [IntKind.wrap_u8]; omega
                have hmin : min j N = j := Nat.min_eq_left (by omega)
                have hns := R.out.2.2.1.size
                have HSL := R.out.1
                rw [hmin] at HSL ⊢
                obtain ⟨hi, hz, hs, hbt⟩ := HT.out
                have hi' := hid hi
                have hz' := hid hz
                have hs' := hid hs
                have hbt' := hid hbt
                have hsl' := hid HSL
                have HF := hid hmin
                clear hi hz hs hbt HSL hmin
                go_wp2_with fail
                refine (Q.out _).mono ?_
                rintro e w4 ⟨rfl, rfl⟩
                go_wp2_with (at_builtin; refine wpList_append_sl _ rfl (.tmp 68) (.tmp 71) 52 rfl w.heap.size 5 ti (.int .u8 0) 1 1 Try.underlying52 hi'.out hz'.out hs'.out hbt'.out rfl (by decide) (.slice (some ⟨g, o2, none⟩) j cap) j _ rfl (hsl'.out.alloc _) ⟨wr.heap.size, 0, none⟩ 1 1 [.int .u8 (F : Int)] rfl (by decide) rfl (cell_one_new _ _ _) (by simp [Value.oneCell']) (by unfold maxLen; omega) (by omega) (by rw [World.size_alloc]; omega) ?_; intro v' w3 hs3 hg3 hb3)
                obtain ⟨g3, o3, cap3, hv3, _⟩ := hs3.form (by omega)
                have hnw : New w w3 := New.grown (R.out.2.2.1.alloc _) hg3 (fun k hk => (hsl'.out.lt k hk).1)
                have hmin2 : min (j + 1) N = j + 1 := Nat.min_eq_left (by omega)
                refine ⟨⟨j + 1, g3, o3, cap3, by omega, by go_num, by rw [hmin2]; exact hv3, ?_, fun i hi => ?_, hnw⟩, ?_⟩
                · rw [hmin2, bys_succ, ← R.out.2.2.2.1]
                  exact hs3
                · by_cases e : i = j
                  · rw [e, ← R.out.2.2.2.1]
                    exact ⟨by omega, fun h => by omega⟩
                  · exact R.out.2.1 i (by omega)
                · simp [intOf]; omega
              · have hjN' : ¬ (j : Int) < (N : Int) := by omega
                have hjN2 : (N : Int) ≤ (j : Int) := by omega
                have hmin : min j N = N := Nat.min_eq_right (by omega)
                have hmin2 : min (j + 1) N = N := Nat.min_eq_right (by omega)
                have HF := hid (And.intro hmin hmin2)
                by_cases hFz : F = 0
                · have hall2 : Hid (∀ i, i < j + 1 → rf ws i ≤ 255 ∧ (N ≤ i → rf ws i = 0)) := fun i hi => by
                    by_cases e : i = j
                    · rw [e, ← R.out.2.2.2.1]
                      exact ⟨by omega, fun h => hFz⟩
                    · exact R.out.2.1 i (by omega)
                  have hFz' : (F : Int) = 0 := by omega
                  rw [hmin]
                  clear hFz hF512 h255F hmin hmin2
                  go_wp2_with fail
                  refine (Q.out _).mono ?_
                  rintro e w4 ⟨rfl, rfl⟩
                  go_wp2_with fail
                  have hsl := R.out.1
                  rw [HF.out.1] at hsl
                  refine ⟨⟨j + 1, g, o2, cap, by omega, by go_num, by rw [HF.out.2], by rw [HF.out.2]; exact hsl, hall2.out, R.out.2.2.1⟩, ?_⟩
                  simp [intOf]; omega
                · have hFz' : ¬ (F : Int) = 0 := by omega
                  have hFb1 : ((F : Int) == 0) = false := by simpa using hFz
                  have hFb2 : ((F : Int) != 0) = true := by simpa using hFz
                  have hno : Hid (¬ RdOk ws) := fun hk => by
                    have h1 := (hk.2.2.2 j R.out.2.2.2.2).2 (by rw [← HN.out]; omega)
                    rw [← R.out.2.2.2.1] at h1
                    exact hFz h1
                  clear hFz hmin hmin2
                  go_wp2_with fail
                  refine (Q.out _).mono ?_
                  rintro e w4 ⟨rfl, rfl⟩
                  go_wp2_with fail
                  go_ret3
                  exact ⟨.inr ⟨hno.out, rfl⟩, R.out.2.2.1⟩
          · have ej : j = F4 := by omega
            have hmin : min j N = N := Nat.min_eq_right (by rw [ej, hF4, hm]; unfold nW; omega)
            have hok : Hid (RdOk ws) := by
              refine ⟨by have := HL.out; omega, by rw [← HN.out]; omega, by rw [← HN.out, ← hm, ← hM]; have := HL.out; omega, fun i hi => ?_⟩
              rw [← HN.out] at hi ⊢
              exact hall i (by rw [ej, hF4, hm]; exact hi)
            have hMv : Hid ((M : Int) = ((1 + nW (rdN ws) : Nat) : Int)) := by
              show (M : Int) = _
              rw [← HN.out, ← hm, ← hM]
            rw [hmin] at hsl ⊢
            have hback : (convert 52 9 (.slice (some ⟨g, o2, none⟩) N cap)).run Try.prog wr = .ok (st (rdL ws)) wr := by
              have := run_convert_bytes_back (P := Try.prog) wr 52 9 5 ⟨g, o2, none⟩ cap (rdL ws) Try.underlying52 Try.underlying5 Try.underlying9 (fun q hq => by
                rw [rdL_len, ← HN.out] at hq
                obtain ⟨g', o', cap', hv', _, _, _, hcl, _⟩ := hsl.form (by omega)
                injection hv' with h1 _ _
                injection h1 with h1
                injection h1 with h1 h2
                subst h1 h2
                rw [Addr.add_lit]
                have e := hcl q (.int .u8 ((rf ws q : Nat) : Int)) (by unfold bys; rw [List.getElem?_map, List.getElem?_range hq]; rfl)
                rw [e]
                have h255 := (hall q (by rw [ej, hF4, hm]; unfold nW; omega)).1
                have e2 : (rdL ws)[q]'(by rw [rdL_len, ← HN.out]; exact hq) = UInt8.ofNat (rf ws q) := by simp [rdL]
                rw [e2, UInt8.toNat_ofNat', Nat.mod_eq_of_lt (by omega)])
              rw [rdL_len, ← HN.out] at this
              exact this
            have R := hid (And.intro hsl hnr)
            have hjl' : ¬ (j : Int) < (F4 : Int) := by omega
            clear hsl hnr hall hmin ej hm hM hF4
            go_wp2_with fail
            go_ret3
            refine ⟨.inl ⟨hok.out, ?_⟩, R.out.2⟩
            have e9 : readV ws = .tuple #[st (rdL ws), .int .i64 (M : Int), .int .i64 0] := by unfold readV; rw [hMv.out]
            rw [e9]
            rfl
  · have hno : Hid (¬ RdOk ws) := fun hk => h0 (by have := hk.1; omega)
    have h0' : Lw = 0 := by omega
    subst h0'
    clear h0 hcell hlen hLw HL
    go_enter Try.func37, Try.ntmps37
    go_wp2_with fail
    go_ret3
    exact ⟨.inr ⟨hno.out, rfl⟩, New.refl _⟩
theorem Read_yes (w : World) (v : Value) (ws : List Nat) (h : WsAt w v ws) (hx : ∀ i, ws.getD i 0 < 18446744073709551616) (hlen : ws.length ≤ 1000000) (hk : RdOk ws) :
    Calls Try.prog 37 #[v] w fun e w' => e = .returned (readV ws) ∧ New w w' := by
  refine (Read_any w v ws h hx hlen).mono ?_
  rintro e w' ⟨⟨_, he⟩ | ⟨hn, _⟩, hw⟩
  · exact ⟨he, hw⟩
  · exact absurd hk hn
theorem Read_no (w : World) (v : Value) (ws : List Nat) (h : WsAt w v ws) (hx : ∀ i, ws.getD i 0 < 18446744073709551616) (hlen : ws.length ≤ 1000000) (hk : ¬ RdOk ws) :
    Calls Try.prog 37 #[v] w fun e w' => e = .returned noV ∧ New w w' := by
  refine (Read_any w v ws h hx hlen).mono ?_
  rintro e w' ⟨⟨hn, _⟩ | ⟨_, he⟩, hw⟩
  · exact absurd hn hk
  · exact ⟨he, hw⟩
end Go.Proofs.Ytnoahdobgndmnaa.Letters
