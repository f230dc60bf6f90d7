/- Lists that lie in a block. -/
import Derived.Test.YteakbhfegbghoaaObjH
import Derived.Test.YteakbhfegbghoaaArr
namespace Go.Proofs.Yteakbhfegbghoaa.Link
open Go Go.RowKit Go.Proofs.Yteakbhfegbghoaa.Kit Go.Proofs.Yteakbhfegbghoaa.Obj
open Go.Proofs.Yteakbhfegbghoaa.Letters (wv word_info zarr_made)
set_option linter.unusedSimpArgs false
set_option linter.unusedVariables false
theorem kmake_w (n : Nat) (hn : n ≤ 100000) (w : World) : (Instr.makeSlice 25 (.int .i64 (n : Int)) (.int .i64 (n : Int))).run Try.prog w = .ok (.slice (some ⟨w.heap.size, 0, none⟩) n n) (w.alloc (.cells (zarr n (.int .u64 0)) 52)) := by
  rw [zarr_made]
  exact run_make_row' 25 52 (.int .u64 0) 8 Try.underlying25 word_info rfl .i64 .i64 n (by omega) (by omega) w
theorem kls {α : Type} {f : α → List Value} {k g : Nat} {t : TypeId} {w : World} {cs : Array Value} (xs : List α) (h : Blk w g t cs) (hk : ∀ x, (f x).length = k) (he : cs = (flatOf f xs).toArray) (hm : xs.length ≤ 100000) : LsAt k f w (.slice (some ⟨g, 0, none⟩) xs.length xs.length) xs := by
  subst he
  refine LsAt.of_sl hk (base := 0) (e := t) ⟨flatOf_len hk xs, .inr ⟨g, 0, xs.length, _, rfl, Nat.zero_le _, h, Nat.le_refl _, by unfold maxLen; omega, ?_, ?_⟩⟩
  · have := flatOf_len hk xs
    simp only [List.size_toArray]
    omega
  · have := flatOf_len hk xs
    simp only [List.drop_zero]
    rw [List.take_of_length_le (by omega)]
theorem kls_w {w : World} {g n : Nat} (h : Blk w g 52 (zarr n (.int .u64 0))) (hn : n ≤ 100000) : LsAt 1 uw w (.slice (some ⟨g, 0, none⟩) n n) (List.replicate n 0) := by
  have hl : (List.replicate n (0 : Nat)).length = n := by simp
  refine ⟨_, n, by rw [hl], by omega, by unfold maxLen; omega, fun h0 => ⟨g, 0, rfl, h.lt, fun i x hx j u hu => ?_⟩⟩
  have hi : i < n := by rw [← hl]; exact (List.getElem?_eq_some_iff.1 hx).1
  have hx0 : x = 0 := List.eq_of_mem_replicate (List.mem_of_getElem? hx)
  subst hx0
  match j, hu with
  | 0, hu =>
    rw [Nat.mul_one, Nat.add_zero, Nat.zero_add, h.cell, zarr_get _ hi]
    exact hu
end Go.Proofs.Yteakbhfegbghoaa.Link
