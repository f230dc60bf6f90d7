/- The walk of LettersRead. -/
import Derived.Test.YtlacegnhfgnlgaaLettersAwake
import Derived.Test.YtlacegnhfgnlgaaOpenS
namespace Go.Proofs.Ytlacegnhfgnlgaa.Law
open Go Go.RowKit Go.ChangeShapes Go.WideShapes Go.Proofs.Ytlacegnhfgnlgaa.Kit Go.Proofs.Ytlacegnhfgnlgaa.Wd Go.Proofs.Ytlacegnhfgnlgaa.Let Go.Proofs.Ytlacegnhfgnlgaa.Letters Go.Proofs.Ytlacegnhfgnlgaa.Same Go.Proofs.Ytlacegnhfgnlgaa.Open
set_option linter.unusedSimpArgs false
set_option linter.unusedVariables false
theorem cut_any (x : Nat) (hx : x < 18446744073709551616) (w : World) : Calls Try.prog 12 #[.int .u64 (x : Int)] w fun e w' => e = .returned (.int .u64 ((x % 68719476736 : Nat) : Int)) ∧ ∃ k, w' = w.drewN k := by
  have h := and_mask (a := (x : Int)) (by omega) (by omega)
  obtain ⟨y, hy⟩ : ∃ y, y = x % 68719476736 := ⟨_, rfl⟩
  rw [← hy]
  have h2 : Go.bits .and .u64 (x : Int) 68719476735 = (y : Int) := by rw [h, hy]; omega
  clear h hy
  go_enter Try.func12, Try.ntmps12
  go_wp2
  go_ret
  exact ⟨rfl, 0, rfl⟩
theorem enc_rd {ws : List Nat} (h : RdOk ws) (j : Nat) (hj : j < 1 + nW (rdN ws)) : (enc (rdL ws)).getD j 0 = ws.getD j 0 % 68719476736 := by
  cases j with
  | zero => rw [enc_zero, rdL_len]; rfl
  | succ k => rw [enc_succ _ (by rw [rdL_len]; omega), rdL_wd h (by omega), Nat.add_comm]
set_option maxRecDepth 100000 in
set_option maxHeartbeats 4000000 in
theorem lettersRead_walk (v : Value) (ws : List Nat) (hx : ∀ i, ws.getD i 0 < 18446744073709551616) (w : World) (h : WsAt w v ws) : Calls Try.prog 4 #[v] w fun e w' => e = .returned (.bool true) ∧ New w w' := by
  obtain ⟨Lw, hLw⟩ : ∃ Lw, Lw = ws.length := ⟨_, rfl⟩
  have HL := hid hLw
  have H := hid h
  obtain ⟨a, c, rfl, hc⟩ := h
  rw [← hLw] at hc H ⊢
  have HC := hid hc
  clear hc hLw
  by_cases h300 : 300 < Lw
  · have h300' : (300 : Int) < Lw := by omega
    go_enter Try.func4, Try.ntmps4
    go_wp2_with fail
    refine (awake_any w).mono ?_
    rintro e w0 ⟨rfl, n0⟩
    go_wp2
    go_ret
    exact ⟨rfl, n0⟩
  have h300' : ¬ (300 : Int) < Lw := by omega
  by_cases hok : RdOk ws
  · have q1 := fun X (h : New w X) => Read_yes X _ ws (H.out.new_ h) hx (by have := HL.out; omega) hok
    obtain ⟨M, hM⟩ : ∃ M, M = 1 + nW (rdN ws) := ⟨_, rfl⟩
    have e9 : readV ws = .tuple #[st (rdL ws), .int .i64 (M : Int), .int .i64 0] := by unfold readV; rw [hM]
    rw [e9] at q1
    have hlN : (rdL ws).length ≤ 255 := by rw [rdL_len]; exact hok.2.1
    have q2 := fun X => Letters_any (rdL ws) hlN X
    have hEM : (enc (rdL ws)).length = M := by rw [enc_len, rdL_len, hM]
    have hML : M ≤ Lw := by rw [hM, HL.out]; exact hok.2.2.1
    have Q := hid (And.intro q1 (And.intro q2 (And.intro hEM (And.intro hM hok))))
    have hML' : ¬ (Lw : Int) < (M : Int) := by omega
    clear q1 q2 e9 hlN hok hEM hM
    go_enter Try.func4, Try.ntmps4
    go_wp2_with fail
    refine (awake_any w).mono ?_
    rintro e w0 ⟨rfl, n0⟩
    go_wp2_with fail
    refine (Q.out.1 _ n0).mono ?_
    rintro e w1 ⟨rfl, n1⟩
    go_wp2_with fail
    refine (Q.out.2.1 _).mono ?_
    rintro e w2 ⟨v2, rfl, s2, n2⟩
    have h2 := WsAt.of_sl s2
    have hn := n0.step (n1.step n2)
    obtain ⟨a2, c2, rfl, hc2⟩ := h2
    rw [Q.out.2.2.1] at hc2 ⊢
    have HC2 := hid hc2
    clear hc2 s2 n0 n1 n2
    go_wp2_with fail
    go_loopw [7] (fun i wr => ∃ j : Nat, j ≤ M ∧ i = .int .i64 (j : Int) ∧ New w2 wr) (fun i _ => M - (intOf i).toNat)
    case atStart => exact ⟨0, Nat.zero_le _, rfl, New.refl _⟩
    case round =>
      obtain ⟨j, hj, rfl, hnr⟩ := hrel
      have w3 : IntKind.i64.wrap ((j : Int) + 1) = j + 1 := by rw [IntKind.wrap_i64]; omega
      by_cases hjl : j < M
      · obtain ⟨b, o, rfl, hb, hc⟩ := HC.out (by omega)
        obtain ⟨b2, o2, rfl, hb2, hc2⟩ := HC2.out (by omega)
        have e1 := (hn.step hnr).cellK (hc j (by omega))
        have e2 := hnr.cellK (hc2 j hjl)
        have hxj := hx j
        rw [enc_rd Q.out.2.2.2.2 j (by rw [← Q.out.2.2.2.1]; exact hjl)] at e2
        have hq := fun X => cut_any (ws.getD j 0) hxj X
        generalize ws.getD j 0 = X at e1 e2 hxj hq
        generalize X % 68719476736 = Y at e2 hq
        have HQ := hid hq
        have i0 : (0 : Int) ≤ (j : Int) := by omega
        have i1 : (j : Int) < (M : Int) := by omega
        have i2 : (j : Int) < (Lw : Int) := by omega
        clear hc hc2 hq
        go_wp2_with fail
        go_quiet (first | (go_at_call 12; exact Calls.quiet_of (HQ.out _)))
        go_wp2_with fail
        go_roundw
        case rel => exact ⟨j + 1, by omega, by go_num, hnr.drewN nq⟩
        case measure => simp [intOf]; omega
      · have i1 : ¬ (j : Int) < (M : Int) := by omega
        go_wp2_with fail
        go_ret
        exact ⟨rfl, hn.step hnr⟩
  · have q1 := fun X (h : New w X) => Read_no X _ ws (H.out.new_ h) hx (by have := HL.out; omega) hok
    have Q := hid q1
    have e0 : noV = .tuple #[.string ⟨#[]⟩, .int .i64 0, .int .i64 2] := rfl
    rw [e0] at Q
    clear q1 hok e0
    go_enter Try.func4, Try.ntmps4
    go_wp2_with fail
    refine (awake_any w).mono ?_
    rintro e w0 ⟨rfl, n0⟩
    go_wp2_with fail
    refine (Q.out _ n0).mono ?_
    rintro e w1 ⟨rfl, n1⟩
    go_wp2
    go_ret
    exact ⟨rfl, n0.step n1⟩
theorem open_words {H : Type} {enc : TypeId × Value → H} {W : World} {base : Nat} {v : Value} {d : DataW H} {p : List MemPlace} {b0 : Nat} {r : Reach} {sp : Nat → Bool} {held : Bool} (k : Value.okWide Try.prog W r b0 22 v) (h : DataW.Trod enc Try.prog W base sp held 22 v d p) :
    ∃ ws : List Nat, WsAt W v ws ∧ ∀ i, ws.getD i 0 < 18446744073709551616 := by
  obtain ⟨xs, ⟨a, c, rfl, hc⟩, hw, _⟩ := open_sints Try.underlying22 Try.underlying33 (by kernel_rfl) k h
  refine ⟨xs.map Int.toNat, ⟨a, c, by rw [List.length_map], fun h0 => ?_⟩, fun i => ?_⟩
  · rw [List.length_map] at h0
    obtain ⟨b, o, e, hb, hcell⟩ := hc h0
    refine ⟨b, o, e, hb, fun i hi => ?_⟩
    rw [List.length_map] at hi
    rw [hcell i hi]
    have hg := wf_u64 (hw xs[i] (List.getElem_mem hi))
    simp only [List.getD_eq_getElem?_getD, List.getElem?_map, List.getElem?_eq_getElem hi, Option.map_some, Option.getD_some]
    show _ = some (Value.int .u64 ((xs[i].toNat : Nat) : Int))
    rw [Int.toNat_of_nonneg hg.1]
  · rw [List.getD_eq_getElem?_getD, List.getElem?_map]
    by_cases hi : i < xs.length
    · have hg := wf_u64 (hw xs[i] (List.getElem_mem hi))
      rw [List.getElem?_eq_getElem hi]
      show (xs[i]).toNat < _
      omega
    · rw [List.getElem?_eq_none (by omega)]
      show 0 < _
      decide
theorem lettersRead_row {H : Type} {enc : TypeId × Value → H} (W : World) {base : Nat}
    (v0 : Value) (d0 : DataW H) (p0 : List MemPlace) (k0 : Value.okWide Try.prog W .any base 22 v0) (h0 : DataW.Trod enc Try.prog W 0 (fun _ => true) true 22 v0 d0 p0) (l0 : ∀ x ∈ p0, x.block < W.heap.size)
    : Calls Try.prog 4 #[v0] W fun e W' => e = .returned (.bool true) ∧ Below W.heap.size W W' := by
  obtain ⟨ws, hws, hx⟩ := open_words k0 h0
  exact lettersRead_walk v0 ws hx W hws
end Go.Proofs.Ytlacegnhfgnlgaa.Law
