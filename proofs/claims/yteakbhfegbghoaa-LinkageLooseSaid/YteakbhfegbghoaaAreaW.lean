/- The contracts of area's Read, Write, Used, New, Give. -/
import Derived.Test.YteakbhfegbghoaaAreaM
namespace Go.Proofs.Yteakbhfegbghoaa.Area
open Go Go.RowKit Go.Proofs.Yteakbhfegbghoaa.Kit
set_option linter.unusedSimpArgs false
set_option linter.unusedVariables false
def inR (r : Room) (off : Int) : Bool := decide (0 ≤ off ∧ off < (r.2.2.length : Int))
def readE (rs : List Room) (b off : Int) : Int := match look rs b with | none => 4 | some r => if inR r off then 0 else 8
def readW (rs : List Room) (b off : Int) : Int := match look rs b with | none => 0 | some r => if inR r off then r.2.2.getD off.toNat 0 else 0
theorem wrow_get {l : List Int} {k : Nat} (h : k < l.length) : (wrow l)[k]? = some (.int .u64 (l.getD k 0)) := by
  unfold wrow
  rw [List.getElem?_toArray, List.getElem?_map, List.getElem?_eq_getElem h]
  simp [List.getD, List.getElem?_eq_getElem h]
theorem read_any (w : World) (A N : Nat) (S : Nat → Prop) (rs : List Room) (h : Own w A N S rs) (hN : N ≤ 100000) (b off : Int) :
    Calls Try.prog 42 #[.pointer (some ⟨A, 0, none⟩), .int .i64 b, .int .i64 off] w fun e w' => e = .returned (.tuple #[.int .u64 (readW rs b off), .int .i64 (readE rs b off)]) ∧ New w w' := by
  have H := hid h
  go_enter Try.func42, Try.ntmps42
  go_wp2_with fail
  refine (word_any w A N S rs H.out hN b off).mono ?_
  rintro e w' ⟨hn, ⟨hl, rfl⟩ | ⟨i, r, hr, hl, hb, ⟨ho, rfl⟩ | ⟨ho, rfl⟩⟩⟩
  · have HP := hid (show (0 = readW rs b off ∧ 4 = readE rs b off) ∧ New w w' from ⟨⟨by unfold readW; rw [hl], by unfold readE; rw [hl]⟩, hn⟩)
    clear hl hn
    go_wp2
    go_ret2
    exact ⟨by rw [← HP.out.1.1, ← HP.out.1.2]; rfl, HP.out.2⟩
  · have hi : inR r off = false := by unfold inR; exact decide_eq_false ho
    have HP := hid (show (0 = readW rs b off ∧ 8 = readE rs b off) ∧ New w w' from ⟨⟨by unfold readW; rw [hl]; simp [hi], by unfold readE; rw [hl]; simp [hi]⟩, hn⟩)
    clear hl hn hr hb ho hi
    go_wp2
    go_ret2
    exact ⟨by rw [← HP.out.1.1, ← HP.out.1.2]; rfl, HP.out.2⟩
  · have hi : inR r off = true := by unfold inR; exact decide_eq_true ho
    have hlt : off.toNat < r.2.2.length := by omega
    have c0 : w'.cell? ⟨r.2.1, off.toNat, none⟩ = some (.int .u64 (readW rs b off)) := by
      obtain ⟨lv, har, _⟩ := H.out
      rw [((har.2.2.1 r (List.mem_of_getElem? hr)).new_ hn).cell, wrow_get hlt]
      unfold readW
      rw [hl]
      simp [hi]
    obtain ⟨z, hz⟩ : ∃ z, z = readW rs b off := ⟨_, rfl⟩
    rw [← hz] at c0
    have HP := hid (show (z = readW rs b off ∧ 0 = readE rs b off) ∧ New w w' from ⟨⟨hz, by unfold readE; rw [hl]; simp [hi]⟩, hn⟩)
    generalize off.toNat = k at *
    clear hl hn hr hb ho hi hlt hz
    go_wp2
    go_ret2
    exact ⟨by rw [← HP.out.1.1, ← HP.out.1.2]; rfl, HP.out.2⟩
def cutW (x : Int) : Int := Go.bits .and .u64 x 68719476735
def writeR (rs : List Room) (b off x : Int) : List Room := rs.map fun r => if (r.1 : Int) = b ∧ inR r off = true then (r.1, r.2.1, r.2.2.set off.toNat x) else r
theorem writeR_none {rs : List Room} {b off x : Int} (h : look rs b = none) : writeR rs b off x = rs := by
  unfold writeR
  refine (List.map_congr_left fun r hr => ?_).trans (List.map_id _)
  rw [if_neg]
  · rfl
  rintro ⟨hb, _⟩
  have := List.find?_eq_none.1 h r hr
  simp [hb] at this
theorem asc_ne {rs : List Room} (ha : Asc rs) {i j : Nat} {x y : Room} (hx : rs[i]? = some x) (hy : rs[j]? = some y) (e : x.1 = y.1) : i = j := by
  rcases Nat.lt_trichotomy i j with h | h | h
  · have := ha.lt (j - i - 1) i x y hx (by rw [show i + (j - i - 1) + 1 = j by omega]; exact hy); omega
  · exact h
  · have := ha.lt (i - j - 1) j y x hy (by rw [show j + (i - j - 1) + 1 = i by omega]; exact hx); omega
theorem writeR_set {rs : List Room} {b off x : Int} {i : Nat} {r : Room} (ha : Asc rs) (hr : rs[i]? = some r) (hb : (r.1 : Int) = b) : writeR rs b off x = if inR r off = true then rs.set i (r.1, r.2.1, r.2.2.set off.toNat x) else rs := by
  apply List.ext_getElem?
  intro j
  unfold writeR
  rw [List.getElem?_map]
  cases hj : rs[j]? with
  | none =>
    split
    · rw [List.getElem?_set]
      by_cases e : i = j
      · subst e; rw [hr] at hj; cases hj
      · rw [if_neg e, hj]; rfl
    · rw [hj]; rfl
  | some y =>
    simp only [Option.map_some]
    by_cases e : i = j
    · subst e
      rw [hr] at hj
      cases hj
      split
      · rename_i h
        rw [if_pos h.2, List.getElem?_set, if_pos rfl, if_pos (List.getElem?_eq_some_iff.1 hr).1]
      · rename_i h
        rw [if_neg (fun h2 => h ⟨hb, h2⟩), hr]
    · rw [if_neg (fun h => e (asc_ne ha hr hj (by omega)))]
      split
      · rw [List.getElem?_set, if_neg e, hj]
      · rw [hj]
theorem Foot.congr {A : Nat} {lv : Value} {rs ys : List Room} (h : rs.map (fun r => r.2.1) = ys.map (fun r => r.2.1)) (k : Nat) : Foot A lv rs k ↔ Foot A lv ys k := by
  have e : (∃ r ∈ rs, r.2.1 = k) ↔ ∃ r ∈ ys, r.2.1 = k := by
    have h1 : (∃ r ∈ rs, r.2.1 = k) ↔ k ∈ rs.map (fun r => r.2.1) := by simp
    have h2 : (∃ r ∈ ys, r.2.1 = k) ↔ k ∈ ys.map (fun r => r.2.1) := by simp
    rw [h1, h2, h]
  unfold Foot
  rw [e]
theorem flatOf_set {rs : List Room} {i : Nat} {r y : Room} (hr : rs[i]? = some r) (h : rc y = rc r) : flatOf rc (rs.set i y) = flatOf rc rs := by
  unfold flatOf
  have : (rs.set i y).map rc = rs.map rc := by
    rw [List.map_set]
    apply List.ext_getElem?
    intro j
    rw [List.getElem?_set]
    by_cases e : i = j
    · subst e
      rw [if_pos rfl, List.getElem?_map, hr]
      simp [(List.getElem?_eq_some_iff.1 hr).1, h]
    · rw [if_neg e]
  rw [List.flatMap_def, List.flatMap_def, this]
theorem Own.wrote {w : World} {A N : Nat} {S : Nat → Prop} {rs : List Room} (h : Own w A N S rs) {i : Nat} {r : Room} (hr : rs[i]? = some r) {k : Nat} (hk : k < r.2.2.length) (x : Int) :
    Own (w.setCell ⟨r.2.1, k, none⟩ (.int .u64 x)) A N S (rs.set i (r.1, r.2.1, r.2.2.set k x)) ∧ Keeps S w (w.setCell ⟨r.2.1, k, none⟩ (.int .u64 x)) := by
  obtain ⟨lv, har, hS⟩ := h
  have hap := har.apart
  have hrm := List.mem_of_getElem? hr
  have hm : (rs.set i (r.1, r.2.1, r.2.2.set k x)).map (fun r => r.2.1) = rs.map (fun r => r.2.1) := by
    rw [List.map_set]
    apply List.ext_getElem?
    intro j
    rw [List.getElem?_set]
    by_cases e : i = j
    · subst e
      rw [if_pos rfl, List.getElem?_map, hr]
      simp [(List.getElem?_eq_some_iff.1 hr).1]
    · rw [if_neg e]
  refine ⟨⟨lv, ⟨har.1.far (hap.2 r hrm).1.symm _, ?_, ?_, by rw [hm]; exact har.2.2.2.1, har.2.2.2.2.set hr rfl (by simp)⟩, fun j => by rw [hS j]; exact Foot.congr hm.symm j⟩, Keeps.setCell (Keeps.refl _ _) (.inr ((hS _).2 (.inr (.inr ⟨r, hrm, rfl⟩)))) _⟩
  · rw [List.length_set, flatOf_set hr (by simp [rc, rsl])]
    exact har.2.1.far (fun g hg e => (hap.2 r hrm).2 (by rw [hg, e])) _
  · intro y hy
    obtain ⟨j, hj⟩ := List.getElem?_of_mem hy
    rw [List.getElem?_set] at hj
    by_cases e : i = j
    · subst e
      rw [if_pos rfl, if_pos (List.getElem?_eq_some_iff.1 hr).1] at hj
      cases hj
      have := (har.2.2.1 r hrm).set k (.int .u64 x)
      have e2 : (wrow r.2.2).setIfInBounds k (.int .u64 x) = wrow (r.2.2.set k x) := by simp [wrow, List.map_set]
      rw [e2] at this
      exact this
    · rw [if_neg e] at hj
      refine (har.2.2.1 y (List.mem_of_getElem? hj)).far (fun e2 => ?_) _
      have hnd := har.2.2.2.1
      have h1 : (rs.map (fun r => r.2.1))[i]? = some r.2.1 := by rw [List.getElem?_map, hr]; rfl
      have h2 : (rs.map (fun r => r.2.1))[j]? = some y.2.1 := by rw [List.getElem?_map, hj]; rfl
      rcases Nat.lt_or_gt_of_ne e with hlt | hlt
      · exact nodup_ne hnd hlt (List.getElem?_eq_some_iff.1 h2).1 (by rw [h1, h2, e2])
      · exact nodup_ne hnd hlt (List.getElem?_eq_some_iff.1 h1).1 (by rw [h1, h2, e2])
theorem write_any (w : World) (A N : Nat) (S : Nat → Prop) (rs : List Room) (h : Own w A N S rs) (hN : N ≤ 100000) (b off x : Int) :
    Calls Try.prog 45 #[.pointer (some ⟨A, 0, none⟩), .int .i64 b, .int .i64 off, .int .u64 x] w fun e w' => e = .returned (.int .i64 (readE rs b off)) ∧ Own w' A N S (writeR rs b off (cutW x)) ∧ Keeps S w w' := by
  have H := hid h
  go_enter Try.func45, Try.ntmps45
  go_wp2_with fail
  refine (word_any w A N S rs H.out hN b off).mono ?_
  rintro e w' ⟨hn, ⟨hl, rfl⟩ | ⟨i, r, hr, hl, hb, ⟨ho, rfl⟩ | ⟨ho, rfl⟩⟩⟩
  · have HP := hid (show 4 = readE rs b off ∧ Own w' A N S (writeR rs b off (cutW x)) ∧ Keeps S w w' from ⟨by unfold readE; rw [hl], by rw [writeR_none hl]; exact H.out.new_ hn, hn.keeps _⟩)
    clear hl hn
    go_wp2
    go_ret
    exact ⟨by rw [← HP.out.1]; rfl, HP.out.2⟩
  · have hi : inR r off = false := by unfold inR; exact decide_eq_false ho
    have HP := hid (show 8 = readE rs b off ∧ Own w' A N S (writeR rs b off (cutW x)) ∧ Keeps S w w' from ⟨by unfold readE; rw [hl]; simp [hi], by
      obtain ⟨lv, har, _⟩ := H.out
      rw [writeR_set har.2.2.2.2.asc hr hb, hi]; exact H.out.new_ hn, hn.keeps _⟩)
    clear hl hn hr hb ho hi
    go_wp2
    go_ret
    exact ⟨by rw [← HP.out.1]; rfl, HP.out.2⟩
  · have hi : inR r off = true := by unfold inR; exact decide_eq_true ho
    have hlt : off.toNat < r.2.2.length := by omega
    have hblk : Blk w' r.2.1 52 (wrow r.2.2) := by
      obtain ⟨lv, har, _⟩ := H.out
      exact (har.2.2.1 r (List.mem_of_getElem? hr)).new_ hn
    obtain ⟨z, c0⟩ : ∃ z, w'.cell? ⟨r.2.1, off.toNat, none⟩ = some (.int .u64 z) := ⟨_, by rw [hblk.cell, wrow_get hlt]⟩
    have f0 := hblk.frozen off.toNat
    have hwr := (H.out.new_ hn).wrote hr hlt (cutW x)
    have HP := hid (show 0 = readE rs b off ∧ Own (w'.setCell ⟨r.2.1, off.toNat, none⟩ (.int .u64 (cutW x))) A N S (writeR rs b off (cutW x)) ∧ Keeps S w (w'.setCell ⟨r.2.1, off.toNat, none⟩ (.int .u64 (cutW x))) from ⟨by unfold readE; rw [hl]; simp [hi], by
      obtain ⟨lv, har, _⟩ := H.out
      rw [writeR_set har.2.2.2.2.asc hr hb, hi, if_pos rfl]; exact hwr.1, (hn.keeps S).trans hwr.2 (fun _ _ h => h)⟩)
    generalize off.toNat = k at *
    clear hl hn hr hb ho hi hlt hblk hwr
    go_wp2
    go_ret
    exact ⟨by rw [← HP.out.1]; rfl, HP.out.2⟩
end Go.Proofs.Yteakbhfegbghoaa.Area
