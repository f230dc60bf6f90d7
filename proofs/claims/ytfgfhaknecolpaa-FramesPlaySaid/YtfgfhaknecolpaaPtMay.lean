/- Whether a pointer may be: point.May. A pointer is four whole numbers; its parameter is boxed: so a block of the call's own stays behind. -/
import Derived.Test.YtfgfhaknecolpaaProg
import Derived.Test.YtfgfhaknecolpaaKit
import Derived.Laws.StructEq
import Derived.KernelRfl
namespace Go.Proofs.Ytfgfhaknecolpaa.Point
open Go Go.RowKit Go.Proofs.Ytfgfhaknecolpaa.Kit
set_option linter.unusedSimpArgs false
set_option linter.unusedVariables false

/-- A pointer's value. -/
abbrev pt (a b c d : Int) : Value := .agg #[.int .i64 a, .int .i64 b, .int .i64 c, .int .i64 d]

attribute [go_sem] pt
@[go_sem] theorem field_pt0 (a b c d : Int) (w : World) : (Instr.field 29 (.agg #[.int .i64 a, .int .i64 b, .int .i64 c, .int .i64 d]) 0).run Try.prog w = .ok (.int .i64 a) w := by kernel_rfl
@[go_sem] theorem field_pt1 (a b c d : Int) (w : World) : (Instr.field 29 (.agg #[.int .i64 a, .int .i64 b, .int .i64 c, .int .i64 d]) 1).run Try.prog w = .ok (.int .i64 b) w := by kernel_rfl
@[go_sem] theorem field_pt2 (a b c d : Int) (w : World) : (Instr.field 29 (.agg #[.int .i64 a, .int .i64 b, .int .i64 c, .int .i64 d]) 2).run Try.prog w = .ok (.int .i64 c) w := by kernel_rfl
@[go_sem] theorem field_pt3 (a b c d : Int) (w : World) : (Instr.field 29 (.agg #[.int .i64 a, .int .i64 b, .int .i64 c, .int .i64 d]) 3).run Try.prog w = .ok (.int .i64 d) w := by kernel_rfl
def mayB (a b c d : Int) : Bool := decide (0 ≤ a ∧ a ≤ 4095 ∧ 0 ≤ b ∧ b ≤ 7 ∧ 0 ≤ c ∧ c ≤ 7 ∧ 0 ≤ d ∧ d ≤ 262143)
theorem mayB_iff {a b c d : Int} : mayB a b c d = true ↔ (0 ≤ a ∧ a ≤ 4095 ∧ 0 ≤ b ∧ b ≤ 7 ∧ 0 ≤ c ∧ c ≤ 7 ∧ 0 ≤ d ∧ d ≤ 262143) := by simp [mayB]

theorem within_any (n most : Int) (w : World) : Calls Try.prog 23 #[.int .i64 n, .int .i64 most] w fun e w' => e = .returned (.bool (decide (0 ≤ n ∧ n ≤ most))) ∧ w = w' := by
  by_cases c1 : n < 0
  · have e : decide (0 ≤ n ∧ n ≤ most) = false := by simp; omega
    rw [e]
    go_enter Try.func23, Try.ntmps23
    go_wp2
    go_ret
    exact ⟨rfl, rfl⟩
  · have e : decide (0 ≤ n ∧ n ≤ most) = decide (n ≤ most) := by simp; omega
    rw [e]
    go_enter Try.func23, Try.ntmps23
    go_wp2
    go_ret
    exact ⟨rfl, rfl⟩

theorem may_any (a b c d : Int) (w : World) : Calls Try.prog 20 #[pt a b c d] w fun e w' => e = .returned (.bool (mayB a b c d)) ∧ New w w' := by
  have hb : Hid (mayB a b c d = (((decide (0 ≤ a ∧ a ≤ 4095) && decide (0 ≤ b ∧ b ≤ 7)) && decide (0 ≤ c ∧ c ≤ 7)) && decide (0 ≤ d ∧ d ≤ 262143))) := by
    unfold mayB Hid; simp only [Bool.decide_and, Bool.and_assoc]
  go_enter Try.func20, Try.ntmps20
  go_wp2_with (go_at_call 23; refine (within_any _ _ _).mono ?_; rintro e w' ⟨rfl, rfl⟩)
  clear hb
  all_goals
    go_ret
    refine ⟨ret_bool (Bool.eq_iff_iff.2 ?_), (New.refl _).alloc _⟩
    rw [mayB_iff]
    simp
    try omega

/-- Are two pointers one? -/
def ptEq (a b c d a' b' c' d' : Int) : Bool := decide (a = a' ∧ b = b' ∧ c = c' ∧ d = d')
theorem ptEq_iff {a b c d a' b' c' d' : Int} : ptEq a b c d a' b' c' d' = true ↔ (a = a' ∧ b = b' ∧ c = c' ∧ d = d') := by simp [ptEq]
theorem eqf_cons {P : Program} {d : Nat} {xs ys : Array Value} {f : Field} {fs : List Field} {a b : Value} {r s : Bool} {w : World} (hn : (f.name == "_") = false) (ha : (part f.type xs f.offset).run P w = .ok a w) (hb : (part f.type ys f.offset).run P w = .ok b w) (he : (Op.equalIn d f.type a b).run P w = .ok r w) (hr : (Op.eqFields d xs ys fs).run P w = .ok s w) : (Op.eqFields d xs ys (f :: fs)).run P w = .ok (r && s) w := by
  have hn' : f.name ≠ "_" := by simpa using hn
  rw [Op.eqFields]
  simp only [if_pos hn', Sem.run_bind, ha, hb, he, Result.andThen_ok]
  cases r
  · simp
  · simpa using hr
theorem eqf_nil {P : Program} {d : Nat} {xs ys : Array Value} {w : World} : (Op.eqFields d xs ys []).run P w = .ok true w := by simp [Op.eqFields]
theorem eqA_of {P : Program} {d : Nat} {xs ys : Array Value} {r : Bool} {w : World} {t : TypeId} {fs : Array Field} (hu : P.underlying t = some (.struct fs)) (hp : P.stoodInHeld t = false) (h : (Op.eqFields d xs ys fs.toList).run P w = .ok r w) : (Op.equalIn (d + 1) t (.agg xs) (.agg ys)).run P w = .ok r w := by
  have hf : P.fieldsOf t = fs := by simp [Program.fieldsOf, hu]
  rw [run_equalIn_struct (P := P) w d t xs ys (by rw [hf]; exact hu) hp, hf]
  exact h
theorem equalIn_int {P : Program} {t : TypeId} {k : IntKind} (d : Nat) (h : P.underlying t = some (.int k)) (a b : Int) (w : World) : (Op.equalIn (d + 1) t (.int k a) (.int k b)).run P w = .ok (a == b) w := by
  simp [Op.equalIn, run_underlying h]
theorem equalIn_pt (n : Nat) (a b c d a' b' c' d' : Int) (w : World) : (Op.equalIn (n + 2) 29 (pt a b c d) (pt a' b' c' d')).run Try.prog w = .ok (ptEq a b c d a' b' c' d') w := by
  have e : ptEq a b c d a' b' c' d' = (a == a' && (b == b' && (c == c' && (d == d' && true)))) := by
    unfold ptEq
    rw [Bool.eq_iff_iff]; simp
  rw [e]
  refine eqA_of Try.underlying29 (by kernel_rfl) ?_
  refine eqf_cons (by rfl) rfl rfl (equalIn_int _ Try.underlying3 _ _ _) (eqf_cons (by rfl) rfl rfl (equalIn_int _ Try.underlying3 _ _ _) (eqf_cons (by rfl) rfl rfl (equalIn_int _ Try.underlying3 _ _ _) (eqf_cons (by rfl) rfl rfl (equalIn_int _ Try.underlying3 _ _ _) eqf_nil)))
theorem eql_pt (a b c d a' b' c' d' : Int) (w : World) : (binOp .eql 29 (pt a b c d) (pt a' b' c' d')).run Try.prog w = .ok (.bool (ptEq a b c d a' b' c' d')) w := by
  simp only [binOp, Op.equal, Op.maxDepth, Sem.run_bind, equalIn_pt 9998, Result.andThen_ok]
  rfl
theorem neq_pt (a b c d a' b' c' d' : Int) (w : World) : (binOp .neq 29 (pt a b c d) (pt a' b' c' d')).run Try.prog w = .ok (.bool (!ptEq a b c d a' b' c' d')) w := by
  simp only [binOp, Op.equal, Op.maxDepth, Sem.run_bind, equalIn_pt 9998, Result.andThen_ok]
  rfl
end Go.Proofs.Ytfgfhaknecolpaa.Point
