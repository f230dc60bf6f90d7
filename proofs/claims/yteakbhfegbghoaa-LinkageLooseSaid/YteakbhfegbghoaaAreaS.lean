/- slices.BinarySearchFunc at rooms. -/
import Derived.Test.YteakbhfegbghoaaArea
namespace Go.Proofs.Yteakbhfegbghoaa.Area
open Go Go.RowKit Go.Proofs.Yteakbhfegbghoaa.Kit
set_option linter.unusedSimpArgs false
set_option linter.unusedVariables false
/-- Rooms in order. -/
def Asc (l : List Room) : Prop := ∀ (i : Nat) (t s : Room), 0 < i → l[i]? = some t → l[i - 1]? = some s → s.1 < t.1
theorem Asc.lt {l : List Room} (h : Asc l) : ∀ (d i : Nat) (s t : Room), l[i]? = some s → l[i + d + 1]? = some t → s.1 < t.1
  | 0, i, s, t, hs, ht => h (i + 0 + 1) t s (by omega) ht (by simpa using hs)
  | d + 1, i, s, t, hs, ht => by
    have hlt : i + d + 1 < l.length := by have := (List.getElem?_eq_some_iff.1 ht).1; omega
    have hm := List.getElem?_eq_getElem hlt
    exact Nat.lt_trans (h.lt d i s _ hs hm) (h (i + (d + 1) + 1) t _ (by omega) ht (by rw [show i + (d + 1) + 1 - 1 = i + d + 1 by omega]; exact hm))
/-- The place of a base. -/
def Spot (l : List Room) (u : Int) (i : Nat) (ok : Bool) : Prop :=
  i ≤ l.length ∧ (∀ (q : Nat) (x : Room), q < i → l[q]? = some x → (x.1 : Int) < u) ∧ (∀ (q : Nat) (x : Room), i ≤ q → l[q]? = some x → u ≤ (x.1 : Int)) ∧ (ok = true ↔ ∃ x, l[i]? = some x ∧ (x.1 : Int) = u)
def SpotPost (w : World) (l : List Room) (u : Int) (e : Ending) (w' : World) : Prop :=
  (∃ i ok, e = .returned (.tuple #[.int .i64 ((i : Nat) : Int), .bool ok]) ∧ Spot l u i ok) ∧ New w w'
theorem cmpZ_lt {a b : Int} (h : a < b) : cmpZ a b = -1 := by unfold cmpZ; rw [if_pos h]
theorem cmpZ_gt {a b : Int} (h : b < a) : cmpZ a b = 1 := by unfold cmpZ; rw [if_neg (by omega), if_pos h]
theorem cmpZ_eq {a b : Int} (h : a = b) : cmpZ a b = 0 := by unfold cmpZ; rw [if_neg (by omega), if_neg (by omega)]
set_option maxRecDepth 100000 in
set_option maxHeartbeats 4000000 in
theorem search_any (v : Value) (l : List Room) (u : Int) (w : World) (h : LsAt 2 rc w v l) (ha : Asc l) (hl : l.length ≤ 1000000) :
    Calls Try.prog 70 #[v, .int .i64 u, .func (.func 71) #[] #[]] w (SpotPost w l u) := by
  obtain ⟨a, c, hv, hlc, hcm, _⟩ := id h
  subst hv
  unfold maxLen at hcm
  obtain ⟨n, hn⟩ : ∃ n, n = l.length := ⟨_, rfl⟩
  rw [← hn] at hlc hl h ⊢
  have H := hid (And.intro h (And.intro ha hn))
  clear h hn ha
  go_enter Try.func70, Try.ntmps70
  go_wp2_with fail
  go_loopw [9, 10] (fun i j wr => ∃ p q : Nat, p ≤ q ∧ q ≤ n ∧ i = .int .i64 (p : Int) ∧ j = .int .i64 (q : Int) ∧ (∀ (k : Nat) (x : Room), k < p → l[k]? = some x → (x.1 : Int) < u) ∧ (∀ (k : Nat) (x : Room), q ≤ k → l[k]? = some x → u ≤ (x.1 : Int)) ∧ New w wr) (fun i j _ => (intOf j).toNat - (intOf i).toNat)
  case atStart => exact ⟨0, n, Nat.zero_le _, Nat.le_refl _, rfl, rfl, fun k x hk => absurd hk (by omega), fun k x hk hx => absurd (List.getElem?_eq_some_iff.1 hx).1 (by have := H.out.2.2; omega), New.refl _⟩
  case round =>
    obtain ⟨p, q, hpq, hqn, rfl, rfl, hlo, hhi, hnr⟩ := hrel
    have HX := hid (And.intro hlo (And.intro hhi hnr))
    clear hlo hhi
    by_cases hlt : p < q
    · obtain ⟨m, hm⟩ : ∃ m : Nat, m = (p + q) / 2 := ⟨_, rfl⟩
      have hm1 : p ≤ m := by omega
      have hm2 : m < q := by omega
      obtain ⟨b, o, x, rfl, hx, _, hcell⟩ := (H.out.1.new_ hnr).get (show m < n by omega)
      have c0 := hcell 0 _ rfl
      have c1 := hcell 1 _ rfl
      rw [Nat.add_zero] at c0
      have i0 : (0 : Int) ≤ (m : Int) := by omega
      have i1 : (m : Int) < (n : Int) := by omega
      have e1 : IntKind.i64.wrap ((p : Int) + q) = (p : Int) + q := by rw [IntKind.wrap_i64]; omega
      have e2 : IntKind.u64.wrap ((p : Int) + q) = (p : Int) + q := by rw [IntKind.wrap_u64]; omega
      have e3 : ((p : Int) + q) / 2 = (m : Int) := by omega
      have e4 : IntKind.i64.wrap (m : Int) = (m : Int) := by rw [IntKind.wrap_i64]; omega
      have e5 : IntKind.i64.wrap ((m : Int) + 1) = (m : Int) + 1 := by rw [IntKind.wrap_i64]; omega
      have hlt' : (p : Int) < (q : Int) := by omega
      have HM := hid (And.intro hm hx)
      clear hm hx hcell hnr
      go_wp2_with fail
      refine (clo_any (x.1 : Int) u (rsl x) wr).mono ?_
      rintro e w4 ⟨rfl, n4⟩
      clear c0 c1
      by_cases hv : (x.1 : Int) < u
      · rw [cmpZ_lt hv]
        have HV := hid (And.intro hv n4)
        clear hv n4
        go_wp2_with fail
        refine ⟨⟨m + 1, q, by omega, hqn, by go_num, rfl, fun k y hk hy => ?_, HX.out.2.1, HX.out.2.2.step HV.out.2⟩, by simp [intOf]; omega⟩
        by_cases e : k = m
        · rw [e, HM.out.2] at hy
          cases hy
          exact HV.out.1
        · have := H.out.2.1.lt (m - k - 1) k y x hy (by rw [show k + (m - k - 1) + 1 = m by omega]; exact HM.out.2)
          have := HV.out.1
          omega
      · have hge : ∀ (k : Nat) (y : Room), m ≤ k → l[k]? = some y → u ≤ (y.1 : Int) := fun k y hk hy => by
          by_cases e : k = m
          · rw [e, HM.out.2] at hy
            cases hy
            omega
          · have := H.out.2.1.lt (k - m - 1) m x y HM.out.2 (by rw [show m + (k - m - 1) + 1 = k by omega]; exact hy)
            omega
        have HV := hid (And.intro hge n4)
        obtain ⟨z, hz, hz0⟩ : ∃ z, z = cmpZ (x.1 : Int) u ∧ ¬ z < 0 := ⟨_, rfl, by unfold cmpZ; rw [if_neg hv]; split <;> omega⟩
        rw [← hz]
        clear hv n4 hge hz
        go_wp2_with fail
        exact ⟨⟨p, m, hm1, by omega, rfl, rfl, HX.out.1, HV.out.1, HX.out.2.2.step HV.out.2⟩, by simp [intOf]; omega⟩
    · have hpe : p = q := by omega
      subst hpe
      have hlt' : ¬ (p : Int) < (p : Int) := by omega
      by_cases hpn : p < n
      · obtain ⟨b, o, x, rfl, hx, _, hcell⟩ := (H.out.1.new_ hnr).get hpn
        have c0 := hcell 0 _ rfl
        have c1 := hcell 1 _ rfl
        rw [Nat.add_zero] at c0
        have i0 : (0 : Int) ≤ (p : Int) := by omega
        have i1 : (p : Int) < (n : Int) := by omega
        have i2 : decide (p < n) = true := decide_eq_true hpn
        have HS : Hid (∀ ok : Bool, (ok = true ↔ (x.1 : Int) = u) → Spot l u p ok) := fun ok hok =>
          ⟨by have := H.out.2.2; omega, HX.out.1, HX.out.2.1, hok.trans ⟨fun h => ⟨x, hx, h⟩, fun ⟨y, hy, h⟩ => by rw [hx] at hy; cases hy; exact h⟩⟩
        clear hx hcell hlt hnr
        go_wp2_with fail
        refine (clo_any (x.1 : Int) u (rsl x) wr).mono ?_
        rintro e w4 ⟨rfl, n4⟩
        have HN := hid n4
        clear c0 c1 n4
        by_cases hv : (x.1 : Int) = u
        · rw [cmpZ_eq hv]
          have HV := hid hv
          clear hv
          go_wp2_with fail
          go_ret2
          exact ⟨⟨p, true, rfl, HS.out _ ⟨fun _ => HV.out, fun _ => rfl⟩⟩, HX.out.2.2.step HN.out⟩
        · have hz : (cmpZ (x.1 : Int) u == 0) = false := by
            rw [beq_eq_false_iff_ne]; unfold cmpZ; split
            · decide
            · split
              · decide
              · omega
          have HV := hid hv
          have hz1 : ¬ cmpZ (x.1 : Int) u = 0 := by simpa using hz
          generalize cmpZ (x.1 : Int) u = z at *
          clear hv
          go_wp2_with fail
          go_ret2
          exact ⟨⟨p, false, rfl, HS.out _ ⟨fun h => (by cases h), fun h => absurd h HV.out⟩⟩, HX.out.2.2.step HN.out⟩
      · have i1 : ¬ (p : Int) < (n : Int) := by omega
        have i2 : decide (p < n) = false := decide_eq_false hpn
        have HS : Hid (Spot l u p false) := ⟨by have := H.out.2.2; omega, HX.out.1, HX.out.2.1, fun h => (by cases h), fun ⟨y, hy, h⟩ => absurd (List.getElem?_eq_some_iff.1 hy).1 (by have := H.out.2.2; omega)⟩
        clear hlt hnr
        go_wp2_with fail
        go_ret2
        exact ⟨⟨p, false, rfl, HS.out⟩, HX.out.2.2⟩
end Go.Proofs.Yteakbhfegbghoaa.Area
