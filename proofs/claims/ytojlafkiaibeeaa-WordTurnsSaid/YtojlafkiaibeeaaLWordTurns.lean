/- The walk of WordTurns. -/
import Derived.Test.YtojlafkiaibeeaaWordAwake
import Derived.Test.YtojlafkiaibeeaaRef1Word
import Derived.Test.YtojlafkiaibeeaaOpen
namespace Go.Proofs.Ytojlafkiaibeeaa.Law
open Go Go.RowKit Go.ChangeShapes Go.WideShapes Go.Proofs.Ytojlafkiaibeeaa.Wd Go.Proofs.Ytojlafkiaibeeaa.Word
set_option linter.unusedVariables false

theorem get_put {w at_ n v : Nat} (h : at_ + n ≤ 36) : getN (putN w at_ n v) at_ n = v % 2 ^ n := by
  apply Nat.eq_of_testBit_eq
  intro i
  rw [testBit_getN, Nat.testBit_mod_two_pow]
  by_cases c : i < n
  · rw [testBit_putN h _ (by omega), if_pos (by omega), show i + (36 - at_ - n) - (36 - at_ - n) = i by omega]
  · simp [c]
theorem put_put {w at_ n v u : Nat} (h : at_ + n ≤ 36) : putN (putN w at_ n v) at_ n u = putN w at_ n u := by
  refine eq_of_bits (putN_lt _ _ _ _ h) (putN_lt _ _ _ _ h) fun i hi => ?_
  rw [testBit_putN h i hi, testBit_putN h i hi, testBit_putN h i hi]
  by_cases c : 36 - at_ - n ≤ i ∧ i < 36 - at_
  · rw [if_pos c, if_pos c]
  · rw [if_neg c, if_neg c, if_neg c]
theorem put_out {w at_ n v i : Nat} (h : at_ + n ≤ 36) (hi : i < 36) (c : i < at_ ∨ at_ + n ≤ i) : getN (putN w at_ n v) i 1 = getN w i 1 := by
  rw [getN_one _ i hi, getN_one _ i hi, bitN_putN h hi, if_neg (by omega)]

theorem wordTurns_walk (x v : Nat) (n0 n1 : Int) (hx : x < 18446744073709551616) (hv : v < 18446744073709551616) (b0 : 0 ≤ n0) (b1 : n0 < 256) (c0 : 0 ≤ n1) (c1 : n1 < 256) (w : World) :
    Calls Try.prog 5 #[.int .u64 x, .agg #[.int .u8 n0, .int .u8 n1], .int .u64 v] w fun e w' => e = .returned (.bool true) ∧ Below w.heap.size w w' := by
  obtain ⟨A, hA⟩ : ∃ A : Nat, n0 % 36 = (A : Int) := ⟨(n0 % 36).toNat, by omega⟩
  have hA2 : A < 36 := by omega
  obtain ⟨K, hK⟩ : ∃ K : Nat, 1 + n1 % (36 - (A : Int)) = (K : Int) := ⟨(1 + n1 % (36 - (A : Int))).toNat, by
    have := Int.emod_nonneg n1 (show 36 - (A : Int) ≠ 0 by omega); omega⟩
  have hm1 := Int.emod_nonneg n1 (show 36 - (A : Int) ≠ 0 by omega)
  have hm2 := Int.emod_lt_of_pos n1 (show 0 < 36 - (A : Int) by omega)
  have hK1 : 1 ≤ K := by omega
  have hK2 : A + K ≤ 36 := by omega
  have hput := putN_lt x A K v hK2
  have hgp := get_put (w := x) (at_ := A) (n := K) (v := v) hK2
  have hp : Hid _ := shl_one (n := K) (by omega)
  have hp36 := pow_le_36 (k := K) (by omega)
  have hpp := pow_pos K
  have e1 : IntKind.u64.wrap (IntKind.u64.wrap (2 ^ K) - 1) = ((2 ^ K - 1 : Nat) : Int) := by
    rw [hp.out, u64_small (by omega) (by omega)]; omega
  have g1 : (((getN (putN x A K v) A K : Nat) : Int) != Go.bits .and .u64 (v : Int) (IntKind.u64.wrap (IntKind.u64.wrap (2 ^ K) - 1))) = false := by
    rw [e1, u64_and_nat _ _ hv (by omega), Nat.and_two_pow_sub_one_eq_mod, hgp]; exact bne_self_eq_false _
  have g2 : K = 36 → (((getN (putN x A K v) A K : Nat) : Int) != (v : Int) % 68719476736) = false := by
    intro h; subst h; rw [hgp, bne_eq_false_iff_eq]; omega
  have HA := hid hA
  have HK := hid hK
  clear hA hK
  have hA := HA.out
  have hK := HK.out
  clear hput hgp hp hp36 hpp e1 hm1 hm2
  go_enter Try.func5, Try.ntmps5
  go_wp2_with fail
  refine (awake_any _).mono ?_
  rintro e w' ⟨rfl, rfl⟩
  go_wp2_with fail
  refine (put_yes_any x A K v hx hv hK1 hK2 _).mono ?_
  rintro e w' ⟨rfl, rfl⟩
  go_wp2_with fail
  refine (get_yes_any (putN x A K v) A K (by have := putN_lt x A K v hK2; omega) hK1 hK2 _).mono ?_
  rintro e w' ⟨rfl, rfl⟩
  by_cases hk36 : K = 36
  · subst hk36
    have g2' := g2 rfl
    clear g1 g2
    go_wp2_with fail
    refine (Ref1.cut_any (v : Int) (by omega) (by omega) _).mono ?_
    rintro e w' ⟨rfl, rfl⟩
    go_wp2_with fail
    go_loop [13] (fun i => ∃ m : Nat, m ≤ 36 ∧ i = .int .i64 (m : Int)) (fun i => 36 - (intOf i).toNat)
    case atStart => exact ⟨0, by omega, rfl⟩
    case round =>
      obtain ⟨m, hm, rfl⟩ := hrel
      by_cases hlt : m < 36
      · have hpl := putN_lt x A 36 v hK2
        have ho : m < A ∨ A + 36 ≤ m → (((getN (putN x A 36 v) m 1 : Nat) : Int) != ((getN x m 1 : Nat) : Int)) = false := by
          intro h; rw [put_out hK2 hlt h]; exact bne_self_eq_false _
        by_cases c1 : m < A
        · exfalso; omega
        by_cases c2 : A + 36 ≤ m
        · exfalso; omega
        · clear ho
          go_wp2_with fail
          refine (get_yes_any (putN x A 36 v) m 1 (by omega) (by omega) (by omega) _).mono ?_
          rintro e w' ⟨rfl, rfl⟩
          go_wp2_with fail
          refine (get_yes_any x m 1 hx (by omega) (by omega) _).mono ?_
          rintro e w' ⟨rfl, rfl⟩
          go_wp2_with fail
          exact ⟨⟨m + 1, by omega, by go_num⟩, by simp [intOf]; omega⟩
      · have hpp := hid (put_put (w := x) (at_ := A) (n := 36) (v := v) (u := 0) hK2)
        have hpl := putN_lt x A 36 v hK2
        go_wp2_with fail
        refine (put_yes_any (putN x A 36 v) A 36 0 (by omega) (by omega) hK1 hK2 _).mono ?_
        rintro e w' ⟨rfl, rfl⟩
        rw [hpp.out]
        go_wp2_with fail
        refine (put_yes_any x A 36 0 hx (by omega) hK1 hK2 _).mono ?_
        rintro e w' ⟨rfl, rfl⟩
        go_wp2
        go_ret
        exact ⟨rfl, (Below.refl _ _).alloc (Nat.le_refl _) _⟩
  · have hk36' : (K : Int) < 36 := by omega
    clear g2
    go_wp2_with fail
    go_loop [13] (fun i => ∃ m : Nat, m ≤ 36 ∧ i = .int .i64 (m : Int)) (fun i => 36 - (intOf i).toNat)
    case atStart => exact ⟨0, by omega, rfl⟩
    case round =>
      obtain ⟨m, hm, rfl⟩ := hrel
      by_cases hlt : m < 36
      · have hpl := putN_lt x A K v hK2
        have ho : m < A ∨ A + K ≤ m → (((getN (putN x A K v) m 1 : Nat) : Int) != ((getN x m 1 : Nat) : Int)) = false := by
          intro h; rw [put_out hK2 hlt h]; exact bne_self_eq_false _
        by_cases c1 : m < A
        · have ho1 := ho (.inl c1)
          clear ho
          go_wp2_with fail
          refine (get_yes_any (putN x A K v) m 1 (by omega) (by omega) (by omega) _).mono ?_
          rintro e w' ⟨rfl, rfl⟩
          go_wp2_with fail
          refine (get_yes_any x m 1 hx (by omega) (by omega) _).mono ?_
          rintro e w' ⟨rfl, rfl⟩
          go_wp2_with fail
          exact ⟨⟨m + 1, by omega, by go_num⟩, by simp [intOf]; omega⟩
        by_cases c2 : A + K ≤ m
        · have ho1 := ho (.inr c2)
          clear ho
          go_wp2_with fail
          refine (get_yes_any (putN x A K v) m 1 (by omega) (by omega) (by omega) _).mono ?_
          rintro e w' ⟨rfl, rfl⟩
          go_wp2_with fail
          refine (get_yes_any x m 1 hx (by omega) (by omega) _).mono ?_
          rintro e w' ⟨rfl, rfl⟩
          go_wp2_with fail
          exact ⟨⟨m + 1, by omega, by go_num⟩, by simp [intOf]; omega⟩
        · clear ho
          go_wp2_with fail
          refine (get_yes_any (putN x A K v) m 1 (by omega) (by omega) (by omega) _).mono ?_
          rintro e w' ⟨rfl, rfl⟩
          go_wp2_with fail
          refine (get_yes_any x m 1 hx (by omega) (by omega) _).mono ?_
          rintro e w' ⟨rfl, rfl⟩
          go_wp2_with fail
          exact ⟨⟨m + 1, by omega, by go_num⟩, by simp [intOf]; omega⟩
      · have hpp := hid (put_put (w := x) (at_ := A) (n := K) (v := v) (u := 0) hK2)
        have hpl := putN_lt x A K v hK2
        go_wp2_with fail
        refine (put_yes_any (putN x A K v) A K 0 (by omega) (by omega) hK1 hK2 _).mono ?_
        rintro e w' ⟨rfl, rfl⟩
        rw [hpp.out]
        go_wp2_with fail
        refine (put_yes_any x A K 0 hx (by omega) hK1 hK2 _).mono ?_
        rintro e w' ⟨rfl, rfl⟩
        go_wp2
        go_ret
        exact ⟨rfl, (Below.refl _ _).alloc (Nat.le_refl _) _⟩
theorem wordTurns_row {H : Type} {enc : TypeId × Value → H} (W : World) {base : Nat}
    (v0 : Value) (d0 : DataW H) (p0 : List MemPlace) (k0 : Value.okWide Try.prog W .any base 23 v0) (h0 : DataW.Trod enc Try.prog W 0 (fun _ => true) true 23 v0 d0 p0) (l0 : ∀ x ∈ p0, x.block < W.heap.size)
    (v1 : Value) (d1 : DataW H) (p1 : List MemPlace) (k1 : Value.okWide Try.prog W .any base 39 v1) (h1 : DataW.Trod enc Try.prog W 0 (fun _ => true) true 39 v1 d1 p1) (l1 : ∀ x ∈ p1, x.block < W.heap.size)
    (v2 : Value) (d2 : DataW H) (p2 : List MemPlace) (k2 : Value.okWide Try.prog W .any base 23 v2) (h2 : DataW.Trod enc Try.prog W 0 (fun _ => true) true 23 v2 d2 p2) (l2 : ∀ x ∈ p2, x.block < W.heap.size)
    : Calls Try.prog 5 #[v0, v1, v2] W fun e W' => e = .returned (.bool true) ∧ Below W.heap.size W W' := by
  obtain ⟨x, rfl, rfl, rfl, wx⟩ := open_int Try.underlying23 k0 h0
  obtain ⟨l, rfl, hl, hw⟩ := Open.open_arr Try.underlying39 Try.underlying5 (by kernel_rfl) (by kernel_rfl) k1 h1
  obtain ⟨n0, n1, rfl⟩ := Open.list2 hl
  obtain ⟨v, rfl, rfl, rfl, wv⟩ := open_int Try.underlying23 k2 h2
  have x' := wf_u64 wx
  have v' := wf_u64 wv
  have a' := wf_u8 (hw n0 (by simp))
  have b' := wf_u8 (hw n1 (by simp))
  obtain ⟨x, rfl⟩ := Int.eq_ofNat_of_zero_le x'.1
  obtain ⟨v, rfl⟩ := Int.eq_ofNat_of_zero_le v'.1
  exact wordTurns_walk x v n0 n1 (by omega) (by omega) a'.1 a'.2 b'.1 b'.2 W
end Go.Proofs.Ytojlafkiaibeeaa.Law
