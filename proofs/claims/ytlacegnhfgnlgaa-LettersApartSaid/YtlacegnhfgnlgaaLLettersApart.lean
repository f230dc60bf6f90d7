/- The walk of LettersApart. -/
import Derived.Test.YtlacegnhfgnlgaaLettersAwake
import Derived.ChangeMaps5
namespace Go.Proofs.Ytlacegnhfgnlgaa.Law
open Go Go.RowKit Go.ChangeShapes Go.WideShapes Go.Proofs.Ytlacegnhfgnlgaa.Kit Go.Proofs.Ytlacegnhfgnlgaa.Let Go.Proofs.Ytlacegnhfgnlgaa.Letters Go.Proofs.Ytlacegnhfgnlgaa.Same
open Go.ChangeMaps (open_string shut_string)
set_option linter.unusedSimpArgs false
set_option linter.unusedVariables false
theorem enc_small (l : List UInt8) (hl : l.length ≤ 255) (i : Nat) : (enc l).getD i 0 ≤ 68719476735 := by
  cases i with
  | zero => rw [enc_zero]; omega
  | succ i =>
    by_cases h : i < nW l.length
    · rw [enc_succ l h]; have := wd_lt l i; omega
    · rw [List.getD_eq_getElem?_getD, List.getElem?_eq_none (by rw [enc_len]; omega)]; decide
theorem cast_inj {a b : List Nat} : (a.map fun x : Nat => (x : Int)) = (b.map fun x : Nat => (x : Int)) ↔ a = b := by
  constructor
  · intro h
    apply List.ext_getElem?
    intro i
    have := congrArg (fun l => l[i]?) h
    simp only [List.getElem?_map] at this
    cases ha : a[i]? <;> cases hb : b[i]? <;> rw [ha, hb] at this <;> simp at this ⊢
    omega
  · intro h; rw [h]
set_option maxRecDepth 100000 in
set_option maxHeartbeats 4000000 in
theorem lettersApart_walk (l m : List UInt8) (w : World) : Calls Try.prog 6 #[st l, st m] w fun e w' => e = .returned (.bool true) ∧ New w w' := by
  by_cases hl : 255 < l.length
  · go_enter Try.func6, Try.ntmps6
    go_wp2_with fail
    refine (awake_any w).mono ?_
    rintro e w0 ⟨rfl, n0⟩
    go_wp2
    go_ret
    exact ⟨rfl, n0⟩
  by_cases hm : 255 < m.length
  · go_enter Try.func6, Try.ntmps6
    go_wp2_with fail
    refine (awake_any w).mono ?_
    rintro e w0 ⟨rfl, n0⟩
    go_wp2
    go_ret
    exact ⟨rfl, n0⟩
  go_enter Try.func6, Try.ntmps6
  go_wp2_with fail
  refine (awake_any w).mono ?_
  rintro e w0 ⟨rfl, n0⟩
  go_wp2_with fail
  refine (Words_yes l (by omega) w0).mono ?_
  rintro e w1 ⟨v1, rfl, s1, n1⟩
  go_wp2_with fail
  refine (Words_yes m (by omega) w1).mono ?_
  rintro e w2 ⟨v2, rfl, s2, n2⟩
  have h1 := (WsAt.of_sl s1).new_ n2
  have h2 := WsAt.of_sl s2
  have hl1 := enc_len l
  have hl2 := enc_len m
  have hb1 : nW l.length ≤ 64 := by unfold nW; omega
  have hb2 : nW m.length ≤ 64 := by unfold nW; omega
  have q3 := fun X (h : New w2 X) => same_any X v1 v2 _ _ (h1.new_ h).words (h2.new_ h).words (by rw [List.length_map]; omega) (by rw [List.length_map]; omega)
  have Q3 := hid q3
  have hn := n0.step (n1.step n2)
  have H1 := hid h1
  have HL := hid (And.intro hl1 hb1)
  obtain ⟨L, hL⟩ : ∃ L, L = (enc l).length := ⟨_, rfl⟩
  obtain ⟨a1, c1, rfl, hc1⟩ := h1
  rw [← hL] at hc1 ⊢ Q3 H1
  have HC := hid hc1
  have HLL := hid hL
  clear h2 q3 hc1 s1 s2 n0 n1 n2 hL hl1 hl2 hb1 hb2
  go_wp2_with fail
  go_loopw [9] (fun i wr => ∃ j : Nat, j ≤ L ∧ i = .int .i64 (j : Int) ∧ wr = w2) (fun i _ => L - (intOf i).toNat)
  case atStart => exact ⟨0, Nat.zero_le _, rfl, rfl⟩
  case round =>
    obtain ⟨j, hj, rfl, rfl⟩ := hrel
    have hL2 : L ≤ 65 := by rw [HLL.out]; have := HL.out; omega
    have w3 : IntKind.i64.wrap ((j : Int) + 1) = j + 1 := by rw [IntKind.wrap_i64]; omega
    by_cases hjl : j < L
    · obtain ⟨b, o, rfl, hb, hc⟩ := HC.out (by omega)
      have hcj := hc j hjl
      have hsm := enc_small l (by omega) j
      generalize (enc l).getD j 0 = X at hcj hsm
      have hX : ¬ (68719476735 : Int) < (X : Int) := by omega
      have i0 : (0 : Int) ≤ (j : Int) := by omega
      have i1 : (j : Int) < (L : Int) := by omega
      clear hc
      go_wp2_with fail
      go_roundw
      case rel => exact ⟨j + 1, by omega, by go_num, trivial⟩
      case measure => simp [intOf]; omega
    · have i1 : ¬ (j : Int) < (L : Int) := by omega
      have hQ := Q3.out wr (New.refl _)
      by_cases he : l = m
      · subst he
        rw [decide_eq_true rfl] at hQ
        have Q := hid hQ
        clear hQ
        go_wp2_with fail
        refine Q.out.mono ?_
        rintro e w4 ⟨rfl, k, rfl⟩
        go_wp2_with fail
        go_ret
        exact ⟨rfl, hn.drewN k⟩
      · have hne : ¬ ((enc l).map fun x : Nat => (x : Int)) = ((enc m).map fun x : Nat => (x : Int)) := fun h => he (enc_inj (by omega) (by omega) (cast_inj.1 h))
        rw [decide_eq_false hne] at hQ
        have Q := hid hQ
        have hs2 : (l == m) = false := by simpa using he
        clear hQ hne
        go_wp2_with fail
        refine Q.out.mono ?_
        rintro e w4 ⟨rfl, k, rfl⟩
        go_wp2_with fail
        go_ret
        exact ⟨rfl, hn.drewN k⟩
theorem lettersApart_row {H : Type} {enc : TypeId × Value → H} (W : World) {base : Nat}
    (v0 : Value) (d0 : DataW H) (p0 : List MemPlace) (k0 : Value.okWide Try.prog W .any base 9 v0) (h0 : DataW.Trod enc Try.prog W 0 (fun _ => true) true 9 v0 d0 p0) (l0 : ∀ x ∈ p0, x.block < W.heap.size)
    (v1 : Value) (d1 : DataW H) (p1 : List MemPlace) (k1 : Value.okWide Try.prog W .any base 9 v1) (h1 : DataW.Trod enc Try.prog W 0 (fun _ => true) true 9 v1 d1 p1) (l1 : ∀ x ∈ p1, x.block < W.heap.size)
    : Calls Try.prog 6 #[v0, v1] W fun e W' => e = .returned (.bool true) ∧ Below W.heap.size W W' := by
  obtain ⟨s, rfl, _⟩ := open_string Try.underlying9 k0 h0
  obtain ⟨t, rfl, _⟩ := open_string Try.underlying9 k1 h1
  exact lettersApart_walk s.data.toList t.data.toList W
end Go.Proofs.Ytlacegnhfgnlgaa.Law
