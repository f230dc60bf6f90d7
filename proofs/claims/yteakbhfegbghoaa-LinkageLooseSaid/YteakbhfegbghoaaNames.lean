/- The contracts of names.signs, May, User and of the reference's plain. -/
import Derived.Test.YteakbhfegbghoaaProg
import Derived.Test.YteakbhfegbghoaaStr
namespace Go.Proofs.Yteakbhfegbghoaa.Names
open Go Go.RowKit Go.Proofs.Yteakbhfegbghoaa.Kit Go.Proofs.Yteakbhfegbghoaa.Str
set_option linter.unusedSimpArgs false
set_option linter.unusedVariables false
set_option maxRecDepth 100000 in
set_option maxHeartbeats 4000000 in
theorem signs_any (l : List UInt8) (most : Nat) (hm : most ≤ 1000) (hl : l.length ≤ 9223372036854775807) (w : World) :
    Calls Try.prog 83 #[st l, .int .i64 (most : Int)] w fun e w' => e = .returned (.bool (signsB l most)) ∧ ∃ k, w' = w.drewN k := by
  by_cases h1 : l.length < 1
  · have e : signsB l most = false := by simp [signsB]; omega
    rw [e]
    have h1' : (l.length : Int) < 1 := by omega
    clear e
    go_enter Try.func83, Try.ntmps83
    go_wp2
    go_ret
    exact ⟨rfl, 0, rfl⟩
  by_cases h2 : most < l.length
  · have e : signsB l most = false := by simp [signsB]; omega
    rw [e]
    clear e
    have h1' : ¬ (l.length : Int) < 1 := by omega
    have h2' : (most : Int) < (l.length : Int) := by omega
    go_enter Try.func83, Try.ntmps83
    go_wp2
    go_ret
    exact ⟨rfl, 0, rfl⟩
  have h62 : (((ByteArray.mk #[62])[0]'(by decide)).toNat : Int) = 62 := rfl
  have h1' : ¬ (l.length : Int) < 1 := by omega
  have h2' : ¬ (most : Int) < (l.length : Int) := by omega
  go_enter Try.func83, Try.ntmps83
  go_wp2_with fail
  go_loopw [17] (fun i wr => ∃ j k : Nat, j ≤ l.length ∧ i = .int .i64 (j : Int) ∧ (l.take j).all okB = true ∧ wr = w.drewN k) (fun i _ => l.length - (intOf i).toNat)
  case atStart => exact ⟨0, 0, Nat.zero_le _, rfl, rfl, rfl⟩
  case round =>
    obtain ⟨j, k, hj, rfl, hall, rfl⟩ := hrel
    have w1 : IntKind.i64.wrap ((j : Int) + 1) = j + 1 := by rw [IntKind.wrap_i64]; omega
    by_cases hjl : j < l.length
    · have hjs : j < (ByteArray.mk l.toArray).size := by show j < l.toArray.size; rw [List.size_toArray]; exact hjl
      obtain ⟨c, hc⟩ : ∃ c, c = l[j] := ⟨_, rfl⟩
      have hby : (((ByteArray.mk l.toArray)[j]'hjs).toNat : Int) = (c.toNat : Int) := by rw [hc]; rfl
      have i0 : (0 : Int) ≤ (j : Int) := by omega
      have i1 : (j : Int) < (l.length : Int) := by omega
      have htk : l.take (j + 1) = l.take j ++ [c] := by rw [hc, List.take_succ_eq_append_getElem hjl]
      have hcl := c.toNat_lt
      have HA := hid (And.intro hall htk)
      have hC := hid hc
      clear hall htk hc
      by_cases c1 : c.toNat < 33
      · have c1' : decide ((c.toNat : Int) < 33) = true := by simp; omega
        have hbad : okB c = false := by simp [okB]; omega
        have HB := hid hbad
        clear hbad
        go_wp2_with fail
        go_quiet (fail)
        go_wp2_with fail
        go_ret
        refine ⟨ret_bool ?_, k + nq, by first | rfl | simp⟩
        have : l.all okB = false := by
          rw [List.all_eq_false]
          exact ⟨c, by rw [hC.out]; exact List.getElem_mem hjl, by rw [HB.out]; decide⟩
        simp [signsB, this]
      · have c1' : decide ((c.toNat : Int) < 33) = false := by simp; omega
        by_cases c2 : 126 < c.toNat
        · have c2' : decide ((126 : Int) < c.toNat) = true := by simp; omega
          have hbad : okB c = false := by simp [okB]; omega
          have HB := hid hbad
          clear hbad
          go_wp2_with fail
          go_quiet (fail)
          go_wp2_with fail
          go_ret
          refine ⟨ret_bool ?_, k + nq, by first | rfl | simp⟩
          have : l.all okB = false := by
            rw [List.all_eq_false]
            exact ⟨c, by rw [hC.out]; exact List.getElem_mem hjl, by rw [HB.out]; decide⟩
          simp [signsB, this]
        · have c2' : decide ((126 : Int) < c.toNat) = false := by simp; omega
          by_cases c3 : c.toNat = 62
          · have c3' : ((c.toNat : Int) == 62) = true := by simp; omega
            have hbad : okB c = false := by simp [okB]; omega
            have HB := hid hbad
            clear hbad c3
            go_wp2_with fail
            go_quiet (fail)
            go_wp2_with fail
            go_ret
            refine ⟨ret_bool ?_, k + nq, by first | rfl | simp⟩
            have : l.all okB = false := by
              rw [List.all_eq_false]
              exact ⟨c, by rw [hC.out]; exact List.getElem_mem hjl, by rw [HB.out]; decide⟩
            simp [signsB, this]
          · have c3' : ((c.toNat : Int) == 62) = false := by simp; omega
            have hok : okB c = true := by simp [okB]; omega
            have HB := hid hok
            clear hok
            go_wp2_with fail
            go_quiet (fail)
            go_wp2_with fail
            refine ⟨⟨j + 1, k + nq, by omega, by go_num, ?_, by first | rfl | simp⟩, by simp [intOf]; omega⟩
            rw [HA.out.2, List.all_append, HA.out.1]
            simp [HB.out]
    · have ej : j = l.length := by omega
      have he : signsB l most = true := by
        rw [ej, List.take_length] at hall
        simp [signsB, hall]
        omega
      have HE := hid he
      clear hall he
      go_wp2_with fail
      go_ret
      exact ⟨ret_bool HE.out.symm, _, rfl⟩
theorem may_any (l : List UInt8) (hl : l.length ≤ 9223372036854775807) (w : World) : Calls Try.prog 77 #[st l] w fun e w' => e = .returned (.bool (signsB l 32)) ∧ ∃ k, w' = w.drewN k := by
  go_enter Try.func77, Try.ntmps77
  go_wp2_with fail
  refine (signs_any l 32 (by omega) hl _).mono ?_
  rintro e w' ⟨rfl, k, rfl⟩
  go_wp2
  go_ret
  exact ⟨rfl, k, rfl⟩
end Go.Proofs.Yteakbhfegbghoaa.Names
