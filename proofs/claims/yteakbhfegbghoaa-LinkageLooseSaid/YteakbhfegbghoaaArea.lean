/- Rooms; cmp.Compare at whole numbers; the closure of area.at; slices.BinarySearchFunc at rooms. -/
import Derived.Test.YteakbhfegbghoaaProg
import Derived.Test.YteakbhfegbghoaaLs
import Derived.WalkSpells
import Derived.BigQuiet
namespace Go.Proofs.Yteakbhfegbghoaa.Area
open Go Go.RowKit Go.Proofs.Yteakbhfegbghoaa.Kit
set_option linter.unusedSimpArgs false
set_option linter.unusedVariables false
/-- A room: its base, the block of its words, its words. -/
abbrev Room := Nat × Nat × List Int
def rsl (r : Room) : Value := .slice (some ⟨r.2.1, 0, none⟩) r.2.2.length r.2.2.length
def rc (r : Room) : List Value := [.int .i64 (r.1 : Int), rsl r]
theorem rc_len (r : Room) : (rc r).length = 2 := rfl
theorem rc_one (r : Room) : ∀ u ∈ rc r, u.oneCell' = true := by
  intro u hu
  simp only [rc, List.mem_cons, List.not_mem_nil, or_false] at hu
  rcases hu with rfl | rfl <;> rfl
theorem room_info : (Try.prog.info? 126).map (fun i => (i.zero, i.size, i.bytes)) = some (some (.agg #[.int .i64 0, .slice none 0 0]), 2, 32) := by kernel_rfl
def cmpZ (a b : Int) : Int := if a < b then -1 else if b < a then 1 else 0
theorem nan_any (a : Int) (w : World) : Calls Try.prog 81 #[.int .i64 a] w fun e w' => e = .returned (.bool false) ∧ w' = w := by
  go_enter Try.func81, Try.ntmps81
  go_wp2
  go_ret
  exact ⟨by simp, rfl⟩
theorem cmp_any (a b : Int) (w : World) : Calls Try.prog 72 #[.int .i64 a, .int .i64 b] w fun e w' => e = .returned (.int .i64 (cmpZ a b)) ∧ w' = w := by
  by_cases h1 : a < b
  · have e : cmpZ a b = -1 := by unfold cmpZ; rw [if_pos h1]
    rw [e]
    go_enter Try.func72, Try.ntmps72
    go_wp2_with fail
    refine (nan_any a _).mono ?_
    rintro e w' ⟨rfl, rfl⟩
    go_wp2_with fail
    refine (nan_any b _).mono ?_
    rintro e w' ⟨rfl, rfl⟩
    go_wp2
    go_ret
    exact ⟨rfl, rfl⟩
  · by_cases h2 : b < a
    · have e : cmpZ a b = 1 := by unfold cmpZ; rw [if_neg h1, if_pos h2]
      rw [e]
      go_enter Try.func72, Try.ntmps72
      go_wp2_with fail
      refine (nan_any a _).mono ?_
      rintro e w' ⟨rfl, rfl⟩
      go_wp2_with fail
      refine (nan_any b _).mono ?_
      rintro e w' ⟨rfl, rfl⟩
      go_wp2
      go_ret
      exact ⟨rfl, rfl⟩
    · have e : cmpZ a b = 0 := by unfold cmpZ; rw [if_neg h1, if_neg h2]
      rw [e]
      go_enter Try.func72, Try.ntmps72
      go_wp2_with fail
      refine (nan_any a _).mono ?_
      rintro e w' ⟨rfl, rfl⟩
      go_wp2_with fail
      refine (nan_any b _).mono ?_
      rintro e w' ⟨rfl, rfl⟩
      go_wp2
      go_ret
      exact ⟨rfl, rfl⟩
theorem clo_any (x b : Int) (s : Value) (w : World) : Calls Try.prog 71 #[.agg #[.int .i64 x, s], .int .i64 b] w fun e w' => e = .returned (.int .i64 (cmpZ x b)) ∧ New w w' := by
  have c0 : (w.alloc (.cells #[.int .i64 x, s] 126)).cell? ⟨w.heap.size, 0, none⟩ = some (.int .i64 x) := by rw [(Blk.new w _ _).cell]; rfl
  go_enter Try.func71, Try.ntmps71
  go_wp2_with fail
  refine (cmp_any x b _).mono ?_
  rintro e w' ⟨rfl, rfl⟩
  go_wp2
  go_ret
  exact ⟨rfl, (New.refl w).alloc _⟩
end Go.Proofs.Yteakbhfegbghoaa.Area
