/- ReferRings: what it says, in plain lists. -/
import Derived.Test.YtakhidieomalhaaReferMany
namespace Go.Proofs.Ytakhidieomalhaa.Refer
open Go Go.RowKit Go.ChangeMaps Go.Proofs.Ytakhidieomalhaa.Kit Go.Proofs.Ytakhidieomalhaa.Str Go.Proofs.Ytakhidieomalhaa.Names
set_option linter.unusedSimpArgs false
set_option linter.unusedVariables false
def bitR (R i : Nat) : Bool := decide (R / 2 ^ i % 2 = 1)
theorem and_u8 {a : Int} (h0 : 0 ≤ a) (h1 : a < 256) : Go.bits .and .u8 a 1 = a % 2 := by
  have h : ∀ b : Fin 256, Go.bits .and .u8 (b.val : Int) 1 = (b.val : Int) % 2 := by decide +kernel
  obtain ⟨n, rfl⟩ := Int.eq_ofNat_of_zero_le h0
  exact h ⟨n, by omega⟩
theorem bit_one {R i : Nat} (hR : R < 256) (h : bitR R i = true) : Go.bits .and .u8 ((R : Int) / 2 ^ i) 1 = 1 := by
  have h2 : R / 2 ^ i % 2 = 1 := of_decide_eq_true h
  have hle : R / 2 ^ i ≤ R := Nat.div_le_self _ _
  rw [show ((R : Int) / 2 ^ i) = ((R / 2 ^ i : Nat) : Int) by simp]
  generalize R / 2 ^ i = q at *
  rw [and_u8 (by omega) (by omega)]
  omega
theorem bit_none {R i : Nat} (hR : R < 256) (h : bitR R i = false) : Go.bits .and .u8 ((R : Int) / 2 ^ i) 1 = 0 := by
  have h2 : ¬ R / 2 ^ i % 2 = 1 := of_decide_eq_false h
  have hle : R / 2 ^ i ≤ R := Nat.div_le_self _ _
  rw [show ((R : Int) / 2 ^ i) = ((R / 2 ^ i : Nat) : Int) by simp]
  generalize R / 2 ^ i = q at *
  rw [and_u8 (by omega) (by omega)]
  omega
/-- The name in the first k rings that are asked for. -/
def RL (s : List UInt8) (g : Int) (R : Nat) : Nat → List (Key × Int)
  | 0 => []
  | k + 1 => if bitR R k then RL s g R k ++ [(((k : Int), s), g)] else RL s g R k
section
variable {s : List UInt8} {g : Int} {R : Nat}
theorem RL_yes {k : Nat} (h : bitR R k = true) : RL s g R (k + 1) = RL s g R k ++ [(((k : Int), s), g)] := by rw [RL, if_pos h]
theorem RL_no {k : Nat} (h : bitR R k = false) : RL s g R (k + 1) = RL s g R k := by rw [RL, if_neg (by rw [h]; decide)]
theorem RL_len (k : Nat) : (RL s g R k).length ≤ k := by
  induction k with
  | zero => simp [RL]
  | succ k ih =>
    rw [RL]
    split
    · rw [List.length_append, List.length_singleton]; omega
    · omega
theorem RL_val (k : Nat) : ∀ p ∈ RL s g R k, p.2 = g := by
  induction k with
  | zero => intro p hp; cases hp
  | succ k ih =>
    intro p hp
    rw [RL] at hp
    split at hp
    · rcases List.mem_append.1 hp with hp | hp
      · exact ih p hp
      · rw [List.mem_singleton.1 hp]
    · exact ih p hp
theorem RL_get (k j : Nat) : get? (RL s g R k) ((j : Int), s) = if j < k ∧ bitR R j = true then some g else none := by
  induction k with
  | zero => simp [RL, get?_nil]
  | succ k ih =>
    rw [RL]
    split
    · rename_i hb
      rw [get?_append, ih, get?_cons, get?_nil]
      by_cases e : j = k
      · subst e; simp [hb]
      · have e2 : ¬ ((k : Int), s) = ((j : Int), s) := by intro h; simp at h; omega
        rw [if_neg e2]
        by_cases h : j < k ∧ bitR R j = true
        · rw [if_pos h, if_pos ⟨by omega, h.2⟩]; rfl
        · rw [if_neg h, if_neg (fun h' => h ⟨by omega, h'.2⟩)]; rfl
    · rename_i hb
      rw [ih]
      by_cases e : j = k
      · subst e
        rw [if_neg (by omega), if_neg (fun h => hb h.2)]
      · by_cases h : j < k ∧ bitR R j = true
        · rw [if_pos h, if_pos ⟨by omega, h.2⟩]
        · rw [if_neg h, if_neg (fun h' => h ⟨by omega, h'.2⟩)]
theorem put_same {L : List (Key × Int)} {x : Key} {v : Int} (h : get? L x = some v) (hL : ∀ p ∈ L, p.2 = v) : put L x v = L := by
  rw [put_of_some h]
  refine (List.map_congr_left fun p hp => ?_).trans (List.map_id _)
  by_cases e : p.1 = x
  · rw [if_pos e]
    exact Prod.ext e.symm (hL p hp).symm
  · rw [if_neg e]; rfl
theorem bind_first {k : Nat} (hk : k < 8) (hg0 : 1 ≤ g) (hg1 : g ≤ 63) (hs : signsB s 32 = true) : bindE (RL s g R k) (k : Int) s g = 0 := by
  unfold bindE
  rw [if_neg (by omega), if_neg (by rw [hs]; decide), RL_get, if_neg (by omega)]
theorem bindL_first {k : Nat} (hk : k < 8) (hg0 : 1 ≤ g) (hg1 : g ≤ 63) (hs : signsB s 32 = true) (hb : bitR R k = true) : bindL (RL s g R k) (k : Int) s g = RL s g R (k + 1) := by
  unfold bindL
  rw [bind_first hk hg0 hg1 hs, if_pos rfl, put_of_none (by rw [RL_get, if_neg (by omega)]), RL_yes hb]
theorem bind_again {k : Nat} (hk : k < 8) (hg0 : 1 ≤ g) (hg1 : g ≤ 63) (hs : signsB s 32 = true) (hb : bitR R k = true) : bindE (RL s g R (k + 1)) (k : Int) s g = 0 := by
  unfold bindE
  rw [if_neg (by omega), if_neg (by rw [hs]; decide), RL_get, if_pos ⟨by omega, hb⟩]
  simp
theorem bindL_again {k : Nat} (hk : k < 8) (hg0 : 1 ≤ g) (hg1 : g ≤ 63) (hs : signsB s 32 = true) (hb : bitR R k = true) : bindL (RL s g R (k + 1)) (k : Int) s g = RL s g R (k + 1) := by
  unfold bindL
  rw [bind_again hk hg0 hg1 hs hb, if_pos rfl, put_same (by rw [RL_get, if_pos ⟨by omega, hb⟩]) (RL_val _)]
theorem RL_names (k j : Nat) : namesOf (RL s g R k) (j : Int) g = if j < k ∧ bitR R j = true then [s] else [] := by
  induction k with
  | zero => simp [RL, namesOf]
  | succ k ih =>
    rw [RL]
    split
    · rename_i hb
      have e1 : namesOf (RL s g R k ++ [(((k : Int), s), g)]) (j : Int) g = namesOf (RL s g R k) (j : Int) g ++ namesOf [(((k : Int), s), g)] (j : Int) g := by simp [namesOf]
      rw [e1, ih]
      by_cases e : j = k
      · subst e; simp [hb, namesOf, hit]
      · have e2 : ¬ ((k : Int) = (j : Int)) := by omega
        have e3 : namesOf [(((k : Int), s), g)] (j : Int) g = [] := by simp [namesOf, hit, e2]
        rw [e3, List.append_nil]
        by_cases h : j < k ∧ bitR R j = true
        · rw [if_pos h, if_pos ⟨by omega, h.2⟩]
        · rw [if_neg h, if_neg (fun h' => h ⟨by omega, h'.2⟩)]
    · rename_i hb
      rw [ih]
      by_cases e : j = k
      · subst e
        rw [if_neg (by omega), if_neg (fun h => hb h.2)]
      · by_cases h : j < k ∧ bitR R j = true
        · rw [if_pos h, if_pos ⟨by omega, h.2⟩]
        · rw [if_neg h, if_neg (fun h' => h ⟨by omega, h'.2⟩)]
theorem RL_gone (k : Nat) : (RL s g R k).filter (fun p => decide (p.2 ≠ g)) = [] := by
  rw [List.filter_eq_nil_iff]
  intro p hp
  simp [RL_val k p hp]
end
theorem sort_one (s : List UInt8) : sortS [s] = [s] := by unfold sortS; simp
theorem sort_none : sortS [] = [] := by unfold sortS; simp
end Go.Proofs.Ytakhidieomalhaa.Refer
