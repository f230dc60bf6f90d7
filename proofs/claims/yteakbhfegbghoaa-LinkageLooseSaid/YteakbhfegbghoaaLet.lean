/- Strings in words: plain laws. -/
import Derived.Test.YteakbhfegbghoaaWd
namespace Go.Proofs.Yteakbhfegbghoaa.Let
open Go Go.Proofs.Yteakbhfegbghoaa.Wd
set_option linter.unusedSimpArgs false
set_option linter.unusedVariables false
theorem putN_add {w at_ n v : Nat} (h : at_ + n ≤ 36) (hw : w < 68719476736) (hv : v < 2 ^ n) (hz : w / 2 ^ (36 - at_ - n) % 2 ^ n = 0) : putN w at_ n v = w + v * 2 ^ (36 - at_ - n) := by
  have hn36 := pow_le_36 (k := n) (by omega)
  generalize hb : 36 - at_ - n = b at hz
  have hbn : at_ + n + b = 36 := by omega
  have e1 : 2 ^ b * (w / 2 ^ b) + w % 2 ^ b = w := Nat.div_add_mod w (2 ^ b)
  have e2 : 2 ^ n * (w / 2 ^ b / 2 ^ n) + w / 2 ^ b % 2 ^ n = w / 2 ^ b := Nat.div_add_mod _ (2 ^ n)
  rw [hz, Nat.add_zero] at e2
  have hsum : w + v * 2 ^ b = 2 ^ b * (2 ^ n * (w / 2 ^ b / 2 ^ n) + v) + w % 2 ^ b := by
    rw [Nat.mul_add, e2, Nat.mul_comm v]
    omega
  have hbits : ∀ i, (w + v * 2 ^ b).testBit i = if b ≤ i ∧ i < b + n then v.testBit (i - b) else w.testBit i := by
    intro i
    rw [hsum, Nat.testBit_two_pow_mul_add _ (Nat.mod_lt _ (Nat.two_pow_pos b))]
    by_cases h1 : i < b
    · rw [if_pos h1, if_neg (by omega), Nat.testBit_mod_two_pow]
      simp [h1]
    · rw [if_neg h1, Nat.testBit_two_pow_mul_add _ hv]
      by_cases h2 : i < b + n
      · rw [if_pos (by omega), if_pos (by omega)]
      · rw [if_neg (by omega), if_neg (by omega), Nat.testBit_div_two_pow, Nat.testBit_div_two_pow]
        congr 1; omega
  have hlt : w + v * 2 ^ b < 68719476736 := by
    refine Nat.lt_of_not_le fun hge => ?_
    have : (w + v * 2 ^ b) / 2 ^ 36 ≠ 0 := by
      have := Nat.div_le_div_right (c := 2 ^ 36) hge
      intro e
      rw [e] at this
      exact absurd this (by decide)
    refine this (Nat.eq_of_testBit_eq fun i => ?_)
    rw [Nat.testBit_div_two_pow, hbits, Nat.zero_testBit, if_neg (by omega)]
    exact testBit_high (k := 36) hw (by omega)
  refine eq_of_bits (putN_lt w at_ n v h) hlt fun i hi => ?_
  rw [testBit_putN h i hi, hb, hbits]
  by_cases h1 : b ≤ i ∧ i < b + n
  · rw [if_pos h1, if_pos (by omega)]
  · rw [if_neg h1, if_neg (by omega)]
/-- A byte of a text, 0 behind its end. -/
def byN (l : List UInt8) (i : Nat) : Nat := (l.getD i 0).toNat
theorem byN_lt (l : List UInt8) (i : Nat) : byN l i < 256 := UInt8.toNat_lt _
theorem byN_out {l : List UInt8} {i : Nat} (h : l.length ≤ i) : byN l i = 0 := by
  unfold byN
  rw [List.getD_eq_getElem?_getD, List.getElem?_eq_none h]; rfl
theorem byN_take (l : List UInt8) (n i : Nat) : byN (l.take n) i = if i < n then byN l i else 0 := by
  unfold byN
  rw [List.getD_eq_getElem?_getD, List.getD_eq_getElem?_getD]
  by_cases h : i < n
  · rw [if_pos h, List.getElem?_take_of_lt h]
  · rw [if_neg h, List.getElem?_eq_none (by rw [List.length_take]; omega)]; rfl
/-- A word of a text. -/
def wd (l : List UInt8) (k : Nat) : Nat := byN l (4 * k) * 134217728 + byN l (4 * k + 1) * 262144 + byN l (4 * k + 2) * 512 + byN l (4 * k + 3)
theorem wd_lt (l : List UInt8) (k : Nat) : wd l k < 68719476736 := by
  unfold wd
  have := byN_lt l (4 * k)
  have := byN_lt l (4 * k + 1)
  have := byN_lt l (4 * k + 2)
  have := byN_lt l (4 * k + 3)
  omega
def nW (n : Nat) : Nat := (n + 3) / 4
/-- A text's words. -/
def enc (l : List UInt8) : List Nat := l.length :: (List.range (nW l.length)).map (wd l)
theorem enc_len (l : List UInt8) : (enc l).length = 1 + nW l.length := by unfold enc; simp [Nat.add_comm]
/-- One byte more. -/
theorem wd_step (l : List UInt8) (i : Nat) : putN (wd (l.take i) (i / 4)) (i % 4 * 9) 9 (byN l i) = wd (l.take (i + 1)) (i / 4) := by
  have hv := byN_lt l i
  have hw := wd_lt (l.take i) (i / 4)
  have h0 := byN_lt l (4 * (i / 4))
  have h1 := byN_lt l (4 * (i / 4) + 1)
  have h2 := byN_lt l (4 * (i / 4) + 2)
  rcases (show i % 4 = 0 ∨ i % 4 = 1 ∨ i % 4 = 2 ∨ i % 4 = 3 by omega) with e | e | e | e
  · have ei : i = 4 * (i / 4) := by omega
    have ew : wd (l.take i) (i / 4) = 0 := by
      unfold wd
      rw [byN_take, byN_take, byN_take, byN_take, if_neg (by omega), if_neg (by omega), if_neg (by omega), if_neg (by omega)]
    rw [e, putN_add (by decide) hw (by omega) (by rw [ew]), ew]
    unfold wd
    rw [byN_take, byN_take, byN_take, byN_take, if_pos (by omega), if_neg (by omega), if_neg (by omega), if_neg (by omega), ← ei]
    omega
  · have ei : i = 4 * (i / 4) + 1 := by omega
    have ew : wd (l.take i) (i / 4) = byN l (4 * (i / 4)) * 134217728 := by
      unfold wd
      rw [byN_take, byN_take, byN_take, byN_take, if_pos (by omega), if_neg (by omega), if_neg (by omega), if_neg (by omega)]
      omega
    rw [e, putN_add (by decide) hw (by omega) (by rw [ew]; show _ / 2 ^ 18 % 2 ^ 9 = 0; omega), ew]
    unfold wd
    rw [byN_take, byN_take, byN_take, byN_take, if_pos (by omega), if_pos (by omega), if_neg (by omega), if_neg (by omega), ← ei]
    omega
  · have ei : i = 4 * (i / 4) + 2 := by omega
    have ew : wd (l.take i) (i / 4) = byN l (4 * (i / 4)) * 134217728 + byN l (4 * (i / 4) + 1) * 262144 := by
      unfold wd
      rw [byN_take, byN_take, byN_take, byN_take, if_pos (by omega), if_pos (by omega), if_neg (by omega), if_neg (by omega)]
      omega
    rw [e, putN_add (by decide) hw (by omega) (by rw [ew]; show _ / 2 ^ 9 % 2 ^ 9 = 0; omega), ew]
    unfold wd
    rw [byN_take, byN_take, byN_take, byN_take, if_pos (by omega), if_pos (by omega), if_pos (by omega), if_neg (by omega), ← ei]
    omega
  · have ei : i = 4 * (i / 4) + 3 := by omega
    have ew : wd (l.take i) (i / 4) = byN l (4 * (i / 4)) * 134217728 + byN l (4 * (i / 4) + 1) * 262144 + byN l (4 * (i / 4) + 2) * 512 := by
      unfold wd
      rw [byN_take, byN_take, byN_take, byN_take, if_pos (by omega), if_pos (by omega), if_pos (by omega), if_neg (by omega)]
      omega
    rw [e, putN_add (by decide) hw (by omega) (by rw [ew]; show _ / 2 ^ 0 % 2 ^ 9 = 0; omega), ew]
    unfold wd
    rw [byN_take, byN_take, byN_take, byN_take, if_pos (by omega), if_pos (by omega), if_pos (by omega), if_pos (by omega), ← ei]
    omega
theorem wd_other (l : List UInt8) (i k : Nat) (h : k ≠ i / 4) : wd (l.take i) k = wd (l.take (i + 1)) k := by
  unfold wd
  rw [byN_take, byN_take, byN_take, byN_take, byN_take, byN_take, byN_take, byN_take]
  have e : ∀ q, q < 4 → (4 * k + q < i ↔ 4 * k + q < i + 1) := fun q hq => by omega
  have e0 := e 0 (by decide)
  have e1 := e 1 (by decide)
  have e2 := e 2 (by decide)
  have e3 := e 3 (by decide)
  simp only [Nat.add_zero] at e0
  simp only [e0, e1, e2, e3]
theorem wd_nil (k : Nat) : wd [] k = 0 := by
  unfold wd
  rw [byN_out (Nat.zero_le _), byN_out (Nat.zero_le _), byN_out (Nat.zero_le _), byN_out (Nat.zero_le _)]
/-- A field of a word. -/
def fl (x : Nat) (q : Nat) : Nat := getN x (q * 9) 9
theorem fl_lt (x q : Nat) : fl x q < 512 := getN_lt x (q * 9) 9
theorem fl_all (x : Nat) : x % 68719476736 = fl x 0 * 134217728 + fl x 1 * 262144 + fl x 2 * 512 + fl x 3 := by
  have h0 : fl x 0 = x / 134217728 % 512 := rfl
  have h1 : fl x 1 = x / 262144 % 512 := rfl
  have h2 : fl x 2 = x / 512 % 512 := rfl
  have h3 : fl x 3 = x / 1 % 512 := rfl
  omega
theorem fl_wd (l : List UInt8) (i : Nat) : fl (wd l (i / 4)) (i % 4) = byN l i := by
  have h0 := byN_lt l (4 * (i / 4))
  have h1 := byN_lt l (4 * (i / 4) + 1)
  have h2 := byN_lt l (4 * (i / 4) + 2)
  have h3 := byN_lt l (4 * (i / 4) + 3)
  rcases (show i % 4 = 0 ∨ i % 4 = 1 ∨ i % 4 = 2 ∨ i % 4 = 3 by omega) with e | e | e | e
  · have ei : i = 4 * (i / 4) := by omega
    rw [e]
    have : fl (wd l (i / 4)) 0 = wd l (i / 4) / 134217728 % 512 := rfl
    rw [this]
    unfold wd
    conv => rhs; rw [ei]
    omega
  · have ei : i = 4 * (i / 4) + 1 := by omega
    rw [e]
    have : fl (wd l (i / 4)) 1 = wd l (i / 4) / 262144 % 512 := rfl
    rw [this]
    unfold wd
    conv => rhs; rw [ei]
    omega
  · have ei : i = 4 * (i / 4) + 2 := by omega
    rw [e]
    have : fl (wd l (i / 4)) 2 = wd l (i / 4) / 512 % 512 := rfl
    rw [this]
    unfold wd
    conv => rhs; rw [ei]
    omega
  · have ei : i = 4 * (i / 4) + 3 := by omega
    rw [e]
    have : fl (wd l (i / 4)) 3 = wd l (i / 4) / 1 % 512 := rfl
    rw [this]
    unfold wd
    conv => rhs; rw [ei]
    omega
theorem enc_zero (l : List UInt8) : (enc l).getD 0 0 = l.length := rfl
theorem enc_succ (l : List UInt8) {k : Nat} (h : k < nW l.length) : (enc l).getD (k + 1) 0 = wd l k := by
  unfold enc
  rw [List.getD_cons_succ, List.getD_eq_getElem?_getD, List.getElem?_map, List.getElem?_range h]; rfl
theorem nW_le (n i : Nat) (h : i < n) : i / 4 < nW n := by unfold nW; omega
/-- The reference's way to a word. -/
def acc (l : List UInt8) (k : Nat) : Nat → Nat
  | 0 => 0
  | q + 1 => acc l k q * 512 + byN l (4 * k + q)
theorem acc_four (l : List UInt8) (k : Nat) : acc l k 4 = wd l k := by
  simp only [acc, wd]
  rw [Nat.add_zero]
  omega
theorem acc_lt (l : List UInt8) (k q : Nat) (hq : q ≤ 4) : acc l k q < 68719476736 := by
  have h0 := byN_lt l (4 * k)
  have h1 := byN_lt l (4 * k + 1)
  have h2 := byN_lt l (4 * k + 2)
  have h3 := byN_lt l (4 * k + 3)
  rcases (show q = 0 ∨ q = 1 ∨ q = 2 ∨ q = 3 ∨ q = 4 by omega) with rfl | rfl | rfl | rfl | rfl <;> simp only [acc, Nat.add_zero] <;> omega
/-- What Read asks. -/
def rdN (ws : List Nat) : Nat := ws.getD 0 0 % 68719476736
def rf (ws : List Nat) (i : Nat) : Nat := fl (ws.getD (1 + i / 4) 0) (i % 4)
def RdOk (ws : List Nat) : Prop := 0 < ws.length ∧ rdN ws ≤ 255 ∧ 1 + nW (rdN ws) ≤ ws.length ∧ ∀ i, i < nW (rdN ws) * 4 → rf ws i ≤ 255 ∧ (rdN ws ≤ i → rf ws i = 0)
def rdL (ws : List Nat) : List UInt8 := (List.range (rdN ws)).map fun i => UInt8.ofNat (rf ws i)
theorem rdL_len (ws : List Nat) : (rdL ws).length = rdN ws := by unfold rdL; simp
theorem rdL_by {ws : List Nat} (h : RdOk ws) (i : Nat) : byN (rdL ws) i = if i < rdN ws then rf ws i else 0 := by
  by_cases hi : i < rdN ws
  · rw [if_pos hi]
    unfold byN rdL
    rw [List.getD_eq_getElem?_getD, List.getElem?_map, List.getElem?_range hi]
    have := (h.2.2.2 i (by unfold nW; omega)).1
    show (UInt8.ofNat (rf ws i)).toNat = _
    rw [UInt8.toNat_ofNat', Nat.mod_eq_of_lt (by omega)]
  · rw [if_neg hi]
    exact byN_out (by rw [rdL_len]; omega)
theorem rdL_wd {ws : List Nat} (h : RdOk ws) {k : Nat} (hk : k < nW (rdN ws)) : wd (rdL ws) k = ws.getD (1 + k) 0 % 68719476736 := by
  have key : ∀ q, q < 4 → byN (rdL ws) (4 * k + q) = fl (ws.getD (1 + k) 0) q := by
    intro q hq
    rw [rdL_by h]
    have e : rf ws (4 * k + q) = fl (ws.getD (1 + k) 0) q := by
      unfold rf
      rw [show (4 * k + q) / 4 = k by omega, show (4 * k + q) % 4 = q by omega]
    by_cases hi : 4 * k + q < rdN ws
    · rw [if_pos hi, e]
    · rw [if_neg hi, ← e]
      exact ((h.2.2.2 (4 * k + q) (by omega)).2 (by omega)).symm
  rw [fl_all]
  unfold wd
  have k0 := key 0 (by decide)
  rw [Nat.add_zero] at k0
  rw [k0, key 1 (by decide), key 2 (by decide), key 3 (by decide)]
/-- A text's words are read as the text, whatever stands behind. -/
theorem rdOk_enc (l : List UInt8) (hl : l.length ≤ 255) (more : List Nat) : RdOk (enc l ++ more) ∧ rdL (enc l ++ more) = l := by
  have h0 : rdN (enc l ++ more) = l.length := by
    unfold rdN
    rw [show (enc l ++ more).getD 0 0 = l.length from rfl, Nat.mod_eq_of_lt (by omega)]
  have hf : ∀ i, i < nW l.length * 4 → rf (enc l ++ more) i = byN l i := by
    intro i hi
    unfold rf
    have hk : i / 4 < nW l.length := by omega
    have : (enc l ++ more).getD (1 + i / 4) 0 = wd l (i / 4) := by
      rw [List.getD_eq_getElem?_getD, List.getElem?_append_left (by rw [enc_len]; omega), ← List.getD_eq_getElem?_getD, Nat.add_comm, enc_succ l hk]
    rw [this, fl_wd]
  have hok : RdOk (enc l ++ more) := by
    refine ⟨by rw [List.length_append, enc_len]; omega, by rw [h0]; exact hl, by rw [h0, List.length_append, enc_len]; omega, fun i hi => ?_⟩
    rw [h0] at hi ⊢
    rw [hf i hi]
    exact ⟨by have := byN_lt l i; omega, fun h => byN_out h⟩
  refine ⟨hok, ?_⟩
  apply List.ext_getElem (by rw [rdL_len, h0])
  intro i h1 h2
  have e := rdL_by hok i
  rw [h0, if_pos h2, hf i (by unfold nW; omega)] at e
  unfold byN at e
  rw [List.getD_eq_getElem?_getD, List.getD_eq_getElem?_getD, List.getElem?_eq_getElem h1, List.getElem?_eq_getElem h2] at e
  exact UInt8.toNat_inj.1 e
theorem enc_inj {l m : List UInt8} (hl : l.length ≤ 255) (hm : m.length ≤ 255) (h : enc l = enc m) : l = m := by
  have a := (rdOk_enc l hl []).2
  have b := (rdOk_enc m hm []).2
  rw [← a, ← b, h]
end Go.Proofs.Yteakbhfegbghoaa.Let
