/- The contracts of package point. A pointer is four whole numbers; its parameter is boxed: so a block of the call's own stays behind. -/
import Derived.Test.YteakbhfegbghoaaWord
import Derived.Test.YteakbhfegbghoaaKit
import Derived.Laws.StructEq
import Derived.KernelRfl
namespace Go.Proofs.Yteakbhfegbghoaa.Point
open Go Go.RowKit Go.Proofs.Yteakbhfegbghoaa.Wd Go.Proofs.Yteakbhfegbghoaa.Word Go.Proofs.Yteakbhfegbghoaa.Kit
set_option linter.unusedSimpArgs false
set_option linter.unusedVariables false

/-- A pointer's value. -/
abbrev pt (a b c d : Int) : Value := .agg #[.int .i64 a, .int .i64 b, .int .i64 c, .int .i64 d]

attribute [go_sem] pt
@[go_sem] theorem field_pt0 (a b c d : Int) (w : World) : (Instr.field 43 (.agg #[.int .i64 a, .int .i64 b, .int .i64 c, .int .i64 d]) 0).run Try.prog w = .ok (.int .i64 a) w := by kernel_rfl
@[go_sem] theorem field_pt1 (a b c d : Int) (w : World) : (Instr.field 43 (.agg #[.int .i64 a, .int .i64 b, .int .i64 c, .int .i64 d]) 1).run Try.prog w = .ok (.int .i64 b) w := by kernel_rfl
@[go_sem] theorem field_pt2 (a b c d : Int) (w : World) : (Instr.field 43 (.agg #[.int .i64 a, .int .i64 b, .int .i64 c, .int .i64 d]) 2).run Try.prog w = .ok (.int .i64 c) w := by kernel_rfl
@[go_sem] theorem field_pt3 (a b c d : Int) (w : World) : (Instr.field 43 (.agg #[.int .i64 a, .int .i64 b, .int .i64 c, .int .i64 d]) 3).run Try.prog w = .ok (.int .i64 d) w := by kernel_rfl
def mayB (a b c d : Int) : Bool := decide (0 ≤ a ∧ a ≤ 4095 ∧ 0 ≤ b ∧ b ≤ 7 ∧ 0 ≤ c ∧ c ≤ 7 ∧ 0 ≤ d ∧ d ≤ 262143)
theorem mayB_iff {a b c d : Int} : mayB a b c d = true ↔ (0 ≤ a ∧ a ≤ 4095 ∧ 0 ≤ b ∧ b ≤ 7 ∧ 0 ≤ c ∧ c ≤ 7 ∧ 0 ≤ d ∧ d ≤ 262143) := by simp [mayB]

theorem within_any (n most : Int) (w : World) : Calls Try.prog 57 #[.int .i64 n, .int .i64 most] w fun e w' => e = .returned (.bool (decide (0 ≤ n ∧ n ≤ most))) ∧ w = w' := by
  by_cases c1 : n < 0
  · have e : decide (0 ≤ n ∧ n ≤ most) = false := by simp; omega
    rw [e]
    go_enter Try.func57, Try.ntmps57
    go_wp2
    go_ret
    exact ⟨rfl, rfl⟩
  · have e : decide (0 ≤ n ∧ n ≤ most) = decide (n ≤ most) := by simp; omega
    rw [e]
    go_enter Try.func57, Try.ntmps57
    go_wp2
    go_ret
    exact ⟨rfl, rfl⟩

theorem may_any (a b c d : Int) (w : World) : Calls Try.prog 39 #[pt a b c d] w fun e w' => e = .returned (.bool (mayB a b c d)) ∧ New w w' := by
  have hb : Hid (mayB a b c d = (((decide (0 ≤ a ∧ a ≤ 4095) && decide (0 ≤ b ∧ b ≤ 7)) && decide (0 ≤ c ∧ c ≤ 7)) && decide (0 ≤ d ∧ d ≤ 262143))) := by
    unfold mayB Hid; simp only [Bool.decide_and, Bool.and_assoc]
  go_enter Try.func39, Try.ntmps39
  go_wp2_with (go_at_call 57; refine (within_any _ _ _).mono ?_; rintro e w' ⟨rfl, rfl⟩)
  clear hb
  all_goals
    go_ret
    refine ⟨ret_bool (Bool.eq_iff_iff.2 ?_), (New.refl _).alloc _⟩
    rw [mayB_iff]
    simp
    try omega

/-- The word of a pointer that may be. -/
def packN (a b c d : Nat) : Nat := putN (putN (putN (putN 0 0 12 a) 12 3 b) 15 3 c) 18 18 d
theorem pack_yes (a b c d : Nat) (h : mayB a b c d = true) (w : World) : Calls Try.prog 40 #[pt a b c d] w fun e w' => e = .returned (.tuple #[.int .u64 ((packN a b c d : Nat) : Int), .int .i64 0]) ∧ New w w' := by
  have hm := mayB_iff.1 h
  have p1 := putN_lt 0 0 12 a (by omega)
  have p2 := putN_lt (putN 0 0 12 a) 12 3 b (by omega)
  have p3 := putN_lt (putN (putN 0 0 12 a) 12 3 b) 15 3 c (by omega)
  go_enter Try.func40, Try.ntmps40
  go_wp2_with fail
  refine (may_any _ _ _ _ _).mono ?_
  rintro e w1 ⟨rfl, hb1⟩
  rw [h]
  have hc := boxed hb1
  go_wp2_with fail
  refine (put_yes_any 0 0 12 a (by omega) (by omega) (by omega) (by omega) _).mono ?_
  rintro e w' ⟨rfl, rfl⟩
  go_wp2_with fail
  refine (put_yes_any (putN 0 0 12 a) 12 3 b (by omega) (by omega) (by omega) (by omega) _).mono ?_
  rintro e w' ⟨rfl, rfl⟩
  go_wp2_with fail
  refine (put_yes_any (putN (putN 0 0 12 a) 12 3 b) 15 3 c (by omega) (by omega) (by omega) (by omega) _).mono ?_
  rintro e w' ⟨rfl, rfl⟩
  go_wp2_with fail
  refine (put_yes_any (putN (putN (putN 0 0 12 a) 12 3 b) 15 3 c) 18 18 d (by omega) (by omega) (by omega) (by omega) _).mono ?_
  rintro e w' ⟨rfl, rfl⟩
  go_wp2_with fail
  go_ret2
  exact ⟨rfl, ((New.refl _).alloc _).step hb1⟩
theorem pack_no (a b c d : Int) (h : mayB a b c d = false) (w : World) : Calls Try.prog 40 #[pt a b c d] w fun e w' => e = .returned (.tuple #[.int .u64 0, .int .i64 1]) ∧ New w w' := by
  go_enter Try.func40, Try.ntmps40
  go_wp2_with fail
  refine (may_any _ _ _ _ _).mono ?_
  rintro e w1 ⟨rfl, hb1⟩
  rw [h]
  go_wp2_with fail
  go_ret2
  exact ⟨rfl, ((New.refl _).alloc _).step hb1⟩
attribute [local go_sem] max_i min_i
theorem raise_any (a b c d r : Int) (w : World) : Calls Try.prog 41 #[pt a b c d, .int .i64 r] w fun e w' => e = .returned (pt a (mxZ b (mnZ (mxZ r 0) 7)) c d) ∧ New w w' := by
  go_enter Try.func41, Try.ntmps41
  go_wp2
  refine bodyPost_ret (v := pt a (mxZ b (mnZ (mxZ r 0) 7)) c d) (by simp [results, Try.results41, go_sem]) rfl ⟨rfl, ?_⟩
  (repeat (first | exact New.refl _ | (refine New.step ?_ (by assumption)) | apply New.alloc | apply New.drewN | apply New.drew))
theorem and18 (x : Int) : Go.bits .and .i64 x 262143 = x % 262144 := by
  have h : (BitVec.ofInt 64 x &&& BitVec.ofInt 64 262143).toNat = (x % 262144).toNat := by
    rw [BitVec.toNat_and, BitVec.toNat_ofInt, BitVec.toNat_ofInt]
    rw [show ((262143 : Int) % ((2 ^ 64 : Nat) : Int)).toNat = 2 ^ 18 - 1 from rfl, Nat.and_two_pow_sub_one_eq_mod]
    omega
  show IntKind.i64.wrap ((BitVec.ofInt 64 x &&& BitVec.ofInt 64 262143).toNat : Int) = _
  rw [h, IntKind.wrap_i64]
  omega
theorem wrap_mod18 (x : Int) : wrap64 x % 262144 = x % 262144 := by unfold wrap64; omega

/-- Are two pointers one? -/
def ptEq (a b c d a' b' c' d' : Int) : Bool := decide (a = a' ∧ b = b' ∧ c = c' ∧ d = d')
theorem ptEq_iff {a b c d a' b' c' d' : Int} : ptEq a b c d a' b' c' d' = true ↔ (a = a' ∧ b = b' ∧ c = c' ∧ d = d') := by simp [ptEq]
theorem eqf_cons {P : Program} {d : Nat} {xs ys : Array Value} {f : Field} {fs : List Field} {a b : Value} {r s : Bool} {w : World} (hn : (f.name == "_") = false) (ha : (part f.type xs f.offset).run P w = .ok a w) (hb : (part f.type ys f.offset).run P w = .ok b w) (he : (Op.equalIn d f.type a b).run P w = .ok r w) (hr : (Op.eqFields d xs ys fs).run P w = .ok s w) : (Op.eqFields d xs ys (f :: fs)).run P w = .ok (r && s) w := by
  have hn' : f.name ≠ "_" := by simpa using hn
  rw [Op.eqFields]
  simp only [if_pos hn', Sem.run_bind, ha, hb, he, Result.andThen_ok]
  cases r
  · simp
  · simpa using hr
theorem eqf_nil {P : Program} {d : Nat} {xs ys : Array Value} {w : World} : (Op.eqFields d xs ys []).run P w = .ok true w := by simp [Op.eqFields]
theorem eqA_of {P : Program} {d : Nat} {xs ys : Array Value} {r : Bool} {w : World} {t : TypeId} {fs : Array Field} (hu : P.underlying t = some (.struct fs)) (hp : P.stoodInHeld t = false) (h : (Op.eqFields d xs ys fs.toList).run P w = .ok r w) : (Op.equalIn (d + 1) t (.agg xs) (.agg ys)).run P w = .ok r w := by
  have hf : P.fieldsOf t = fs := by simp [Program.fieldsOf, hu]
  rw [run_equalIn_struct (P := P) w d t xs ys (by rw [hf]; exact hu) hp, hf]
  exact h
theorem equalIn_int {P : Program} {t : TypeId} {k : IntKind} (d : Nat) (h : P.underlying t = some (.int k)) (a b : Int) (w : World) : (Op.equalIn (d + 1) t (.int k a) (.int k b)).run P w = .ok (a == b) w := by
  simp [Op.equalIn, run_underlying h]
set_option maxRecDepth 100000 in
theorem equalIn_pt (n : Nat) (a b c d a' b' c' d' : Int) (w : World) : (Op.equalIn (n + 2) 43 (pt a b c d) (pt a' b' c' d')).run Try.prog w = .ok (ptEq a b c d a' b' c' d') w := by
  have e : ptEq a b c d a' b' c' d' = (a == a' && (b == b' && (c == c' && (d == d' && true)))) := by
    unfold ptEq
    rw [Bool.eq_iff_iff]; simp
  rw [e]
  refine eqA_of Try.underlying43 (by kernel_rfl) ?_
  refine eqf_cons (by rfl) rfl rfl (equalIn_int _ Try.underlying3 _ _ _) (eqf_cons (by rfl) rfl rfl (equalIn_int _ Try.underlying3 _ _ _) (eqf_cons (by rfl) rfl rfl (equalIn_int _ Try.underlying3 _ _ _) (eqf_cons (by rfl) rfl rfl (equalIn_int _ Try.underlying3 _ _ _) eqf_nil)))
theorem eql_pt (a b c d a' b' c' d' : Int) (w : World) : (binOp .eql 43 (pt a b c d) (pt a' b' c' d')).run Try.prog w = .ok (.bool (ptEq a b c d a' b' c' d')) w := by
  simp only [binOp, Op.equal, Op.maxDepth, Sem.run_bind, equalIn_pt 9998, Result.andThen_ok]
  rfl
theorem neq_pt (a b c d a' b' c' d' : Int) (w : World) : (binOp .neq 43 (pt a b c d) (pt a' b' c' d')).run Try.prog w = .ok (.bool (!ptEq a b c d a' b' c' d')) w := by
  simp only [binOp, Op.equal, Op.maxDepth, Sem.run_bind, equalIn_pt 9998, Result.andThen_ok]
  rfl
theorem get_any (x at_ n : Nat) (hx : x < 18446744073709551616) (h1 : 1 ≤ n) (h : at_ + n ≤ 36) (w : World) :
    Calls Try.prog 60 #[.int .u64 x, .int .i64 at_, .int .i64 n] w fun e w' => e = .returned (.int .i64 ((getN x at_ n : Nat) : Int)) ∧ w = w' := by
  have hl := getN_lt x at_ n
  have hp := pow_le_36 (k := n) (by omega)
  go_enter Try.func60, Try.ntmps60
  go_wp2_with fail
  refine (get_yes_any x at_ n hx h1 h _).mono ?_
  rintro e w' ⟨rfl, rfl⟩
  go_wp2
  go_ret
  exact ⟨rfl, rfl⟩
theorem unpack_any (x : Nat) (hx : x < 18446744073709551616) (w : World) :
    Calls Try.prog 43 #[.int .u64 x] w fun e w' => e = .returned (pt ((getN x 0 12 : Nat) : Int) ((getN x 12 3 : Nat) : Int) ((getN x 15 3 : Nat) : Int) ((getN x 18 18 : Nat) : Int)) ∧ New w w' := by
  go_enter Try.func43, Try.ntmps43
  go_wp2_with fail
  refine (get_any x 0 12 hx (by omega) (by omega) _).mono ?_
  rintro e w' ⟨rfl, rfl⟩
  go_wp2_with fail
  refine (get_any x 12 3 hx (by omega) (by omega) _).mono ?_
  rintro e w' ⟨rfl, rfl⟩
  go_wp2_with fail
  refine (get_any x 15 3 hx (by omega) (by omega) _).mono ?_
  rintro e w' ⟨rfl, rfl⟩
  go_wp2_with fail
  refine (get_any x 18 18 hx (by omega) (by omega) _).mono ?_
  rintro e w' ⟨rfl, rfl⟩
  go_wp2
  refine bodyPost_ret (v := pt ((getN x 0 12 : Nat) : Int) ((getN x 12 3 : Nat) : Int) ((getN x 15 3 : Nat) : Int) ((getN x 18 18 : Nat) : Int)) (by simp [results, Try.results43, go_sem]) rfl ⟨rfl, ?_⟩
  (repeat (first | exact New.refl _ | (refine New.step ?_ (by assumption)) | apply New.alloc | apply New.drewN | apply New.drew))
end Go.Proofs.Yteakbhfegbghoaa.Point
