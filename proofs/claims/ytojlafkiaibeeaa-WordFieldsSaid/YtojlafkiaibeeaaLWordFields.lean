/- The walk of WordFields. -/
import Derived.Test.YtojlafkiaibeeaaWordAwake
import Derived.Test.YtojlafkiaibeeaaRef1Word
import Derived.Test.YtojlafkiaibeeaaOpen
namespace Go.Proofs.Ytojlafkiaibeeaa.Law
open Go Go.RowKit Go.ChangeShapes Go.WideShapes Go.Proofs.Ytojlafkiaibeeaa.Wd Go.Proofs.Ytojlafkiaibeeaa.Word
set_option linter.unusedVariables false

theorem wordFields_walk (x n0 n1 v : Int) (a0 : 0 ≤ x) (a1 : x < 18446744073709551616) (v0 : 0 ≤ v) (v1 : v < 18446744073709551616) (b0 : -9223372036854775808 ≤ n0) (b1 : n0 ≤ 9223372036854775807) (c0 : -9223372036854775808 ≤ n1) (c1 : n1 ≤ 9223372036854775807) (w : World) :
    Calls Try.prog 3 #[.int .u64 x, .agg #[.int .i64 n0, .int .i64 n1], .int .u64 v] w fun e w' => e = .returned (.bool true) ∧ Below w.heap.size w w' := by
  go_enter Try.func3, Try.ntmps3
  go_wp2_with fail
  refine (awake_any _).mono ?_
  rintro e w' ⟨rfl, rfl⟩
  go_wp2_with fail
  refine (get_any x n0 n1 a0 a1 c0 c1 _).mono ?_
  rintro e w' ⟨rfl, rfl⟩
  go_wp2_with fail
  refine (Ref1.get_any x n0 n1 a0 a1 c0 c1 _).mono ?_
  rintro e w' ⟨rfl, rfl⟩
  go_wp2_with fail
  refine (put_any x n0 n1 v a0 a1 v0 v1 c0 c1 _).mono ?_
  rintro e w' ⟨rfl, rfl⟩
  go_wp2_with fail
  refine (Ref1.put_any x n0 n1 v a0 a1 v0 v1 c0 c1 _).mono ?_
  rintro e w' ⟨rfl, rfl⟩
  go_wp2
  go_ret
  exact ⟨rfl, (Below.refl _ _).alloc (Nat.le_refl _) _⟩

theorem wordFields_row {H : Type} {enc : TypeId × Value → H} (W : World) {base : Nat}
    (v0 : Value) (d0 : DataW H) (p0 : List MemPlace) (k0 : Value.okWide Try.prog W .any base 23 v0) (h0 : DataW.Trod enc Try.prog W 0 (fun _ => true) true 23 v0 d0 p0) (l0 : ∀ x ∈ p0, x.block < W.heap.size)
    (v1 : Value) (d1 : DataW H) (p1 : List MemPlace) (k1 : Value.okWide Try.prog W .any base 24 v1) (h1 : DataW.Trod enc Try.prog W 0 (fun _ => true) true 24 v1 d1 p1) (l1 : ∀ x ∈ p1, x.block < W.heap.size)
    (v2 : Value) (d2 : DataW H) (p2 : List MemPlace) (k2 : Value.okWide Try.prog W .any base 23 v2) (h2 : DataW.Trod enc Try.prog W 0 (fun _ => true) true 23 v2 d2 p2) (l2 : ∀ x ∈ p2, x.block < W.heap.size)
    : Calls Try.prog 3 #[v0, v1, v2] W fun e W' => e = .returned (.bool true) ∧ Below W.heap.size W W' := by
  obtain ⟨x, rfl, rfl, rfl, wx⟩ := open_int Try.underlying23 k0 h0
  obtain ⟨l, rfl, hl, hw⟩ := Open.open_arr Try.underlying24 Try.underlying3 (by kernel_rfl) (by kernel_rfl) k1 h1
  obtain ⟨n0, n1, rfl⟩ := Open.list2 hl
  obtain ⟨v, rfl, rfl, rfl, wv⟩ := open_int Try.underlying23 k2 h2
  have x' := wf_u64 wx
  have v' := wf_u64 wv
  have a' := wf_i64 (hw n0 (by simp))
  have b' := wf_i64 (hw n1 (by simp))
  exact wordFields_walk x n0 n1 v x'.1 x'.2 v'.1 v'.2 a'.1 a'.2 b'.1 b'.2 W
end Go.Proofs.Ytojlafkiaibeeaa.Law
