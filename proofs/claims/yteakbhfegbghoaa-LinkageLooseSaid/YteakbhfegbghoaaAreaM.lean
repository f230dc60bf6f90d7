/- The contracts of area's at, Size, word, Read. -/
import Derived.Test.YteakbhfegbghoaaAreaP
import Derived.LaidEqlPtr
import Derived.WideLaws
namespace Go.Proofs.Yteakbhfegbghoaa.Area
open Go Go.RowKit Go.Proofs.Yteakbhfegbghoaa.Kit
set_option linter.unusedSimpArgs false
set_option linter.unusedVariables false
/-- The room of a base. -/
def look (rs : List Room) (b : Int) : Option Room := rs.find? fun r => (r.1 : Int) == b
theorem spot_yes {rs : List Room} {b : Int} {i : Nat} (ha : Asc rs) (h : Spot rs b i true) : ∃ r, rs[i]? = some r ∧ (r.1 : Int) = b ∧ look rs b = some r ∧ rs.take i ++ rs.drop (i + 1) = rs.filter (fun r => !((r.1 : Int) == b)) := by
  obtain ⟨r, hr, hb⟩ := h.2.2.2.1 rfl
  have hi := (List.getElem?_eq_some_iff.1 hr).1
  have hspl : rs = rs.take i ++ r :: rs.drop (i + 1) := by
    have e : rs[i] = r := (List.getElem?_eq_some_iff.1 hr).2
    rw [← e, List.getElem_cons_drop, List.take_append_drop]
  have h1 : ∀ x ∈ rs.take i, ((x.1 : Int) == b) = false := fun x hx => by
    obtain ⟨q, hq⟩ := List.getElem?_of_mem hx
    have hql := (List.getElem?_eq_some_iff.1 hq).1
    rw [List.length_take] at hql
    rw [List.getElem?_take_of_lt (by omega)] at hq
    have := h.2.1 q x (by omega) hq
    rw [beq_eq_false_iff_ne]; omega
  have h2 : ∀ x ∈ rs.drop (i + 1), ((x.1 : Int) == b) = false := fun x hx => by
    obtain ⟨q, hq⟩ := List.getElem?_of_mem hx
    rw [List.getElem?_drop] at hq
    have := ha.lt q i r x hr (by rw [show i + q + 1 = i + 1 + q by omega]; exact hq)
    rw [beq_eq_false_iff_ne]; omega
  have h3 : ((r.1 : Int) == b) = true := by rw [beq_iff_eq]; exact hb
  refine ⟨r, hr, hb, ?_, ?_⟩
  · unfold look
    rw [hspl, List.find?_append, List.find?_eq_none.2 (fun x hx => by rw [h1 x hx]; decide), List.find?_cons, h3]
    rfl
  · have e : rs.filter (fun r => !((r.1 : Int) == b)) = (rs.take i ++ r :: rs.drop (i + 1)).filter (fun r => !((r.1 : Int) == b)) := by rw [← hspl]
    rw [e, List.filter_append, List.filter_cons, h3, Bool.not_true, if_neg (by decide), List.filter_eq_self.2 (fun x hx => by rw [h1 x hx]; rfl), List.filter_eq_self.2 (fun x hx => by rw [h2 x hx]; rfl)]
theorem spot_no {rs : List Room} {b : Int} {i : Nat} (ha : Asc rs) (h : Spot rs b i false) : look rs b = none ∧ rs.filter (fun r => !((r.1 : Int) == b)) = rs := by
  have h1 : ∀ x ∈ rs, ((x.1 : Int) == b) = false := fun x hx => by
    obtain ⟨q, hq⟩ := List.getElem?_of_mem hx
    rw [beq_eq_false_iff_ne]
    intro e
    rcases Nat.lt_or_ge q i with hlt | hge
    · have := h.2.1 q x hlt hq; omega
    · by_cases e2 : q = i
      · subst e2
        have := h.2.2.2.2 ⟨x, hq, e⟩
        cases this
      · have hil : i < rs.length := by have := (List.getElem?_eq_some_iff.1 hq).1; omega
        have hg := List.getElem?_eq_getElem hil
        have h1 := h.2.2.1 i _ (Nat.le_refl _) hg
        have h2 := ha.lt (q - i - 1) i _ x hg (by rw [show i + (q - i - 1) + 1 = q by omega]; exact hq)
        omega
  refine ⟨List.find?_eq_none.2 (fun x hx => by rw [h1 x hx]; decide), List.filter_eq_self.2 (fun x hx => by rw [h1 x hx]; rfl)⟩
theorem at_any (w : World) (A N : Nat) (S : Nat → Prop) (rs : List Room) (h : Own w A N S rs) (hN : N ≤ 100000) (b : Int) :
    Calls Try.prog 55 #[.pointer (some ⟨A, 0, none⟩), .int .i64 b] w (SpotPost w rs b) := by
  obtain ⟨lv, har, _⟩ := h
  have hv := har.2.1.val
  obtain ⟨a, c, rfl⟩ := hv
  have d1 : w.cell? ⟨A, 1, none⟩ = some (.slice a rs.length c) := by rw [har.1.cell]; rfl
  have hS := search_any (.slice a rs.length c) rs b w (LsAt.of_sl rc_len har.2.1) har.2.2.2.2.asc (by have := har.2.2.2.2.len; omega)
  generalize rs.length = n at *
  have H := hid hS
  clear hS har
  go_enter Try.func55, Try.ntmps55
  go_wp2_with fail
  refine H.out.mono ?_
  rintro e w' ⟨⟨i, ok, rfl, hsp⟩, hn⟩
  have HP := hid (And.intro hsp hn)
  clear hsp hn
  go_wp2
  go_ret2
  exact ⟨⟨i, ok, rfl, HP.out.1⟩, HP.out.2⟩
def sizeR (rs : List Room) (b : Int) : Nat := match look rs b with | none => 0 | some r => r.2.2.length
def ptr0 (p : Option Addr) (e : Int) : Ending := .returned (.tuple #[.pointer p, .int .i64 e])
def WordPost (w : World) (rs : List Room) (b off : Int) (e : Ending) (w' : World) : Prop :=
  New w w' ∧ ((look rs b = none ∧ e = .returned (.tuple #[.pointer none, .int .i64 4])) ∨ ∃ (i : Nat) (r : Room), rs[i]? = some r ∧ look rs b = some r ∧ (r.1 : Int) = b ∧ ((¬ (0 ≤ off ∧ off < (r.2.2.length : Int)) ∧ e = .returned (.tuple #[.pointer none, .int .i64 8])) ∨ ((0 ≤ off ∧ off < (r.2.2.length : Int)) ∧ e = .returned (.tuple #[.pointer (some ⟨r.2.1, off.toNat, none⟩), .int .i64 0]))))
set_option maxRecDepth 100000 in
set_option maxHeartbeats 4000000 in
theorem word_any (w : World) (A N : Nat) (S : Nat → Prop) (rs : List Room) (h : Own w A N S rs) (hN : N ≤ 100000) (b off : Int) :
    Calls Try.prog 59 #[.pointer (some ⟨A, 0, none⟩), .int .i64 b, .int .i64 off] w (WordPost w rs b off) := by
  have H := hid h
  obtain ⟨lv, har, _⟩ := h
  have HA := hid har
  obtain ⟨a, c, rfl⟩ := har.2.1.val
  clear har
  go_enter Try.func59, Try.ntmps59
  go_wp2_with fail
  refine (at_any w A N S rs H.out hN b).mono ?_
  rintro e w' ⟨⟨i, ok, rfl, hsp⟩, hn⟩
  cases ok with
  | false =>
    have HP := hid (show WordPost w rs b off (.returned (.tuple #[.pointer none, .int .i64 4])) w' from ⟨hn, .inl ⟨(spot_no HA.out.2.2.2.2.asc hsp).1, rfl⟩⟩)
    clear hsp hn
    go_wp2
    go_ret2
    exact HP.out
  | true =>
    obtain ⟨r, hr, hb, hl, _⟩ := spot_yes HA.out.2.2.2.2.asc hsp
    have hi := (List.getElem?_eq_some_iff.1 hr).1
    have d1 : w'.cell? ⟨A, 1, none⟩ = some (.slice a rs.length c) := by rw [(HA.out.1.new_ hn).cell]; rfl
    obtain ⟨bb, o, x, rfl, hx, _, hcell⟩ := ((LsAt.of_sl rc_len HA.out.2.1).new_ hn).get hi
    rw [hr] at hx
    cases hx
    have c1 := hcell 1 _ rfl
    unfold rsl at c1
    have i0 : (0 : Int) ≤ (i : Int) := by omega
    have i1 : (i : Int) < (rs.length : Int) := by omega
    obtain ⟨g, hg⟩ : ∃ g, g = r.2.1 := ⟨_, rfl⟩
    obtain ⟨m, hm⟩ : ∃ m, m = r.2.2.length := ⟨_, rfl⟩
    rw [← hg, ← hm] at c1
    have HW : Hid (∀ e, ((¬ (0 ≤ off ∧ off < (m : Int)) ∧ e = Ending.returned (.tuple #[.pointer none, .int .i64 8])) ∨ ((0 ≤ off ∧ off < (m : Int)) ∧ e = .returned (.tuple #[.pointer (some ⟨g, off.toNat, none⟩), .int .i64 0]))) → WordPost w rs b off e w') := fun e he =>
      ⟨hn, .inr ⟨i, r, hr, hl, hb, by rw [← hg, ← hm]; exact he⟩⟩
    clear hsp hn hl hr hb hcell hg hm hi
    generalize rs.length = n at *
    by_cases ho : off < 0
    · have hf := HW.out _ (.inl ⟨by omega, rfl⟩)
      have HF := hid hf
      clear hf
      go_wp2
      go_ret2
      exact HF.out
    · by_cases ho2 : off < (m : Int)
      · have hf := HW.out _ (.inr ⟨by omega, rfl⟩)
        obtain ⟨k, rfl⟩ := Int.eq_ofNat_of_zero_le (show 0 ≤ off by omega)
        have q1 : decide ((k : Int) < 0) = false := decide_eq_false ho
        have q2 : decide ((m : Int) ≤ (k : Int)) = false := decide_eq_false (by omega)
        have q3 : (0 : Int) ≤ (k : Int) := by omega
        have q4 : ¬ (m : Int) ≤ (k : Int) := by omega
        have q5 : decide (m ≤ k) = false := decide_eq_false (by omega)
        have hkt : ((k : Int)).toNat = k := by omega
        rw [hkt] at hf
        have HF := hid hf
        clear hf
        go_wp2
        go_ret2
        exact HF.out
      · have hf := HW.out _ (.inl ⟨by omega, rfl⟩)
        have HF := hid hf
        obtain ⟨k, rfl⟩ := Int.eq_ofNat_of_zero_le (show 0 ≤ off by omega)
        have q4 : (m : Int) ≤ (k : Int) := by omega
        have q5 : decide (m ≤ k) = true := decide_eq_true (by omega)
        clear hf
        go_wp2
        go_ret2
        exact HF.out
end Go.Proofs.Yteakbhfegbghoaa.Area
