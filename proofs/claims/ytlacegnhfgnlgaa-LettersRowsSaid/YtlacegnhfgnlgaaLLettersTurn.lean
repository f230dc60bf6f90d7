/- The walk of LettersTurn. -/
import Derived.Test.YtlacegnhfgnlgaaLLettersRead
import Derived.ChangeMaps5
namespace Go.Proofs.Ytlacegnhfgnlgaa.Law
open Go Go.RowKit Go.ChangeShapes Go.WideShapes Go.Proofs.Ytlacegnhfgnlgaa.Kit Go.Proofs.Ytlacegnhfgnlgaa.Wd Go.Proofs.Ytlacegnhfgnlgaa.Let Go.Proofs.Ytlacegnhfgnlgaa.Letters Go.Proofs.Ytlacegnhfgnlgaa.Same Go.Proofs.Ytlacegnhfgnlgaa.Open
open Go.ChangeMaps (open_string shut_string)
set_option linter.unusedSimpArgs false
set_option linter.unusedVariables false
theorem wv_one (ws : List Nat) : ∀ u ∈ ws.map wv, u.oneCell' = true := by
  intro u hu
  obtain ⟨x, _, rfl⟩ := List.mem_map.1 hu
  rfl
theorem news_at {w : World} {b o n : Nat} {ws : List Nat} (hn : n = ws.length) (h : ∀ i, i < n → w.cell? ⟨b, o + i, none⟩ = some (wv (ws.getD i 0))) : ∀ j u, (ws.map wv)[j]? = some u → w.cell? ((⟨b, o, none⟩ : Addr).add j) = some u := by
  intro j u hu
  have hj : j < ws.length := by
    have := (List.getElem?_eq_some_iff.1 hu).1
    rwa [List.length_map] at this
  rw [Addr.add_lit, h j (by omega), ← hu, List.getElem?_map, List.getElem?_eq_getElem hj, List.getD_eq_getElem?_getD, List.getElem?_eq_getElem hj]
  rfl
set_option maxRecDepth 100000 in
set_option maxHeartbeats 4000000 in
theorem lettersTurn_walk (l : List UInt8) (v : Value) (ms : List Nat) (hx : ∀ i, ms.getD i 0 < 18446744073709551616) (w : World) (h : WsAt w v ms) : Calls Try.prog 3 #[st l, v] w fun e w' => e = .returned (.bool true) ∧ New w w' := by
  obtain ⟨m, hm⟩ : ∃ m, m = ms.length := ⟨_, rfl⟩
  have HM := hid hm
  obtain ⟨a, c, rfl, hc⟩ := h
  rw [← hm] at hc ⊢
  have hcase : (∃ ad, a = some ad ∧ ∀ W, New w W → ∀ j u, (ms.map wv)[j]? = some u → W.cell? (ad.add j) = some u) ∨ (a = none ∧ m = 0) := by
    rcases Nat.eq_zero_or_pos m with h0 | h0
    · cases a with
      | none => exact .inr ⟨rfl, h0⟩
      | some ad =>
        refine .inl ⟨ad, rfl, fun W hW j u hu => ?_⟩
        rw [List.eq_nil_of_length_eq_zero (l := ms) (by omega)] at hu
        cases hu
    · obtain ⟨b, o, e, _, hcell⟩ := hc h0
      exact .inl ⟨⟨b, o, none⟩, e, fun W hW => news_at hm (fun i hi => hW.cellK (hcell i hi))⟩
  clear hc hm
  by_cases h2000 : 2000 < l.length
  · have h2 : (2000 : Int) < l.length := by omega
    go_enter Try.func3, Try.ntmps3
    go_wp2_with fail
    refine (awake_any w).mono ?_
    rintro e w0 ⟨rfl, n0⟩
    go_wp2
    go_ret
    exact ⟨rfl, n0⟩
  have h2 : ¬ (2000 : Int) < l.length := by omega
  by_cases h100 : 100 < m
  · have h3 : (100 : Int) < m := by omega
    go_enter Try.func3, Try.ntmps3
    go_wp2_with fail
    refine (awake_any w).mono ?_
    rintro e w0 ⟨rfl, n0⟩
    go_wp2
    go_ret
    exact ⟨rfl, n0⟩
  have h3 : ¬ (100 : Int) < m := by omega
  by_cases h255 : 255 < l.length
  · have h4 : (255 : Int) < l.length := by omega
    go_enter Try.func3, Try.ntmps3
    go_wp2_with fail
    refine (awake_any w).mono ?_
    rintro e w0 ⟨rfl, n0⟩
    go_wp2_with fail
    refine (Words_no l h255 w0).mono ?_
    rintro e w1 ⟨rfl, rfl⟩
    go_wp2
    go_ret
    exact ⟨rfl, n0⟩
  have h4 : ¬ (255 : Int) < l.length := by omega
  obtain ⟨M, hM⟩ : ∃ M, M = (enc l).length := ⟨_, rfl⟩
  have hM2 : M ≤ 65 := by rw [hM, enc_len]; unfold nW; omega
  have hMe : M = 1 + nW l.length := by rw [hM, enc_len]
  have hrd := rdOk_enc l (by omega) ms
  have hrN : rdN (enc l ++ ms) = l.length := by
    unfold rdN
    rw [show (enc l ++ ms).getD 0 0 = l.length from rfl, Nat.mod_eq_of_lt (by omega)]
  have e9 : readV (enc l ++ ms) = .tuple #[st l, .int .i64 (M : Int), .int .i64 0] := by unfold readV; rw [hrd.2, hrN, ← hMe]
  have hxx : ∀ i, (enc l ++ ms).getD i 0 < 18446744073709551616 := by
    intro i
    rw [List.getD_eq_getElem?_getD, List.getElem?_append]
    split
    · rw [← List.getD_eq_getElem?_getD]; exact enc_lt l (by omega) i
    · rw [← List.getD_eq_getElem?_getD]; exact hx _
  have qR := fun X v (h : WsAt X v (enc l ++ ms)) => Read_yes X v _ h hxx (by rw [List.length_append, ← hM, ← HM.out]; omega) hrd.1
  rw [e9] at qR
  have qL := fun X => Letters_any l (by omega) X
  have Q := hid (And.intro qR (And.intro qL hM))
  clear qR qL e9 hxx hrd hrN hMe hM
  obtain ⟨ti, hi, hzz⟩ := Option.map_eq_some_iff.1 word_info
  simp only [Prod.mk.injEq] at hzz
  obtain ⟨hz1, hz2, hz3⟩ := hzz
  have HT := hid (And.intro hi (And.intro hz1 (And.intro hz2 hz3)))
  clear hi hz1 hz2 hz3
  go_enter Try.func3, Try.ntmps3
  go_wp2_with fail
  refine (awake_any w).mono ?_
  rintro e w0 ⟨rfl, n0⟩
  go_wp2_with fail
  refine (Words_yes l (by omega) w0).mono ?_
  rintro e w1 ⟨v1, rfl, s1, n1⟩
  have hws1 := WsAt.of_sl s1
  have H1 := hid hws1
  have hn1 := n0.step n1
  obtain ⟨a1, c1, rfl, hc1⟩ := hws1
  obtain ⟨b1, o1, rfl, hb1, hc1⟩ := hc1 (by rw [enc_len]; omega)
  rw [← Q.out.2.2] at hc1 H1 ⊢
  have hN1 := hid (fun W (hW : New w1 W) => news_at Q.out.2.2 (fun i hi => hW.cellK (hc1 i hi)))
  clear s1 hc1 n0 n1
  rcases hcase with ⟨ad, rfl, hnews⟩ | ⟨rfl, hm0⟩
  · have HNW := hid hnews
    clear hnews
    go_wp2_with (at_builtin; first
      | (refine wpList_append_own _ rfl (.tmp 36) (.tmp 37) 22 rfl w1.heap.size 33 ti (.int .u64 0) 1 8 Try.underlying22 HT.out.1 HT.out.2.1 HT.out.2.2.1 HT.out.2.2.2 rfl (by decide) _ 0 [] rfl (World.ownsRow_made w1 #[] 0 (Nat.le_refl _) (by simp) rfl) ⟨b1, o1, none⟩ M c1 ((enc l).map wv) rfl (by rw [List.length_map, Nat.mul_one]; exact Q.out.2.2.symm) (hN1.out _ ((New.refl _).alloc _)) (wv_one _) (by unfold maxLen; omega) (by omega) (by rw [World.size_alloc]; omega) ?_; intro v2 w2 ho2 hg2 hnil2)
      | (refine wpList_append_own _ rfl (.tmp 38) (.tmp 39) 22 rfl w1.heap.size 33 ti (.int .u64 0) 1 8 Try.underlying22 HT.out.1 HT.out.2.1 HT.out.2.2.1 HT.out.2.2.2 rfl (by decide) v2 (0 + M) _ rfl ho2 ad m c (ms.map wv) rfl (by rw [List.length_map, Nat.mul_one]; exact HM.out.symm) (HNW.out _ (hn1.step (New.grown ((New.refl _).alloc _) hg2 (fun k hk => by cases hk; exact Nat.le_refl _)))) (wv_one _) (by unfold maxLen; omega) (by omega) (Nat.le_trans (Nat.le_of_lt (Nat.lt_of_lt_of_le (by rw [World.size_alloc]; omega) hg2.size)) (Nat.le_refl _)) ?_; intro v3 w3 ho3 hg3 hnil3))
    have nA : New w1 w2 := New.grown ((New.refl _).alloc _) hg2 (fun k hk => by cases hk; exact Nat.le_refl _)
    have nB : New w1 w3 := New.grown nA hg3 (fun k hk => ((Sl.of_owns ho2).lt k hk).1)
    have hsl : Sl w3 w1.heap.size 33 1 v3 (enc l ++ ms).length ((enc l ++ ms).map wv) := by
      have := Sl.of_owns ho3
      rw [List.nil_append, ← List.map_append, Nat.zero_add, Q.out.2.2, HM.out, ← List.length_append] at this
      exact this
    have qq := Q.out.1 w3 v3 (WsAt.of_sl hsl)
    have HQ := hid qq
    have NB := hid nB
    clear qq hsl ho2 ho3 hg2 hg3 hnil2 hnil3 nA nB
    go_wp2_with fail
    refine HQ.out.mono ?_
    rintro e w4 ⟨rfl, n4⟩
    go_wp2_with fail
    refine (Q.out.2.1 _).mono ?_
    rintro e w5 ⟨v5, rfl, s5, n5⟩
    have qs := same_any w5 (.slice (some ⟨b1, o1, none⟩) M c1) v5 _ _ ((H1.out.new_ (NB.out.step (n4.step n5))).words) (WsAt.of_sl s5).words (by rw [List.length_map, ← Q.out.2.2]; omega) (by rw [List.length_map, ← Q.out.2.2]; omega)
    rw [decide_eq_true rfl] at qs
    have QS := hid qs
    clear qs s5
    go_wp2_with fail
    refine QS.out.mono ?_
    rintro e w6 ⟨rfl, k6, rfl⟩
    go_wp2
    go_ret
    exact ⟨rfl, (hn1.step (NB.out.step (n4.step n5))).drewN k6⟩
  · subst hm0
    go_wp2_with (at_builtin; refine wpList_append_own _ rfl (.tmp 36) (.tmp 37) 22 rfl w1.heap.size 33 ti (.int .u64 0) 1 8 Try.underlying22 HT.out.1 HT.out.2.1 HT.out.2.2.1 HT.out.2.2.2 rfl (by decide) _ 0 [] rfl (World.ownsRow_made w1 #[] 0 (Nat.le_refl _) (by simp) rfl) ⟨b1, o1, none⟩ M c1 ((enc l).map wv) rfl (by rw [List.length_map, Nat.mul_one]; exact Q.out.2.2.symm) (hN1.out _ ((New.refl _).alloc _)) (wv_one _) (by unfold maxLen; omega) (by omega) (by rw [World.size_alloc]; omega) ?_; intro v2 w2 ho2 hg2 hnil2; obtain ⟨g2, p2, cap2, hv2, hA2⟩ := (Sl.of_owns ho2).form (by have := enc_len l; have := Q.out.2.2; omega); have HV := hid hA2; clear hA2; subst hv2; have hcap2 : (0 + M : Nat) ≤ cap2 := HV.out.2.2.1)
    have nB : New w1 w2 := New.grown ((New.refl _).alloc _) hg2 (fun k hk => by cases hk; exact Nat.le_refl _)
    have hms : ms = [] := List.eq_nil_of_length_eq_zero HM.out.symm
    have hsl : Sl w2 w1.heap.size 33 1 (.slice (some ⟨g2, p2, none⟩) M cap2) (enc l ++ ms).length ((enc l ++ ms).map wv) := by
      have := Sl.of_owns ho2
      rw [List.nil_append, Nat.zero_add] at this
      rw [hms, List.append_nil, ← Q.out.2.2]
      exact this
    have qq := Q.out.1 w2 _ (WsAt.of_sl hsl)
    have HQ := hid qq
    have NB := hid nB
    clear qq hsl ho2 hg2 hnil2 nB hms
    refine HQ.out.mono ?_
    rintro e w4 ⟨rfl, n4⟩
    go_wp2_with fail
    refine (Q.out.2.1 _).mono ?_
    rintro e w5 ⟨v5, rfl, s5, n5⟩
    have qs := same_any w5 (.slice (some ⟨b1, o1, none⟩) M c1) v5 _ _ ((H1.out.new_ (NB.out.step (n4.step n5))).words) (WsAt.of_sl s5).words (by rw [List.length_map, ← Q.out.2.2]; omega) (by rw [List.length_map, ← Q.out.2.2]; omega)
    rw [decide_eq_true rfl] at qs
    have QS := hid qs
    clear qs s5
    go_wp2_with fail
    refine QS.out.mono ?_
    rintro e w6 ⟨rfl, k6, rfl⟩
    go_wp2
    go_ret
    exact ⟨rfl, (hn1.step (NB.out.step (n4.step n5))).drewN k6⟩
theorem lettersTurn_row {H : Type} {enc : TypeId × Value → H} (W : World) {base : Nat}
    (v0 : Value) (d0 : DataW H) (p0 : List MemPlace) (k0 : Value.okWide Try.prog W .any base 9 v0) (h0 : DataW.Trod enc Try.prog W 0 (fun _ => true) true 9 v0 d0 p0) (l0 : ∀ x ∈ p0, x.block < W.heap.size)
    (v1 : Value) (d1 : DataW H) (p1 : List MemPlace) (k1 : Value.okWide Try.prog W .any base 22 v1) (h1 : DataW.Trod enc Try.prog W 0 (fun _ => true) true 22 v1 d1 p1) (l1 : ∀ x ∈ p1, x.block < W.heap.size)
    : Calls Try.prog 3 #[v0, v1] W fun e W' => e = .returned (.bool true) ∧ Below W.heap.size W W' := by
  obtain ⟨s, rfl, _⟩ := open_string Try.underlying9 k0 h0
  obtain ⟨ms, hms, hx⟩ := open_words k1 h1
  exact lettersTurn_walk s.data.toList v1 ms hx W hms
end Go.Proofs.Ytlacegnhfgnlgaa.Law
