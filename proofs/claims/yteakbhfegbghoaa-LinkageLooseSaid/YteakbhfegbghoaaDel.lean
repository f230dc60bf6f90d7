/- An element taken out of a slice in place (slices.Delete): plain laws over any program. -/
import Derived.Test.YteakbhfegbghoaaCopy
namespace Go.Proofs.Yteakbhfegbghoaa.Kit
open Go Go.RowKit
set_option linter.unusedSimpArgs false
set_option linter.unusedVariables false
section
variable {w w' : World} {base : Nat} {e : TypeId} {size : Nat} {v : Value} {n : Nat} {cs : List Value}
/-- What stands behind element i goes one element down; the last place is overwritten. -/
theorem Sl.delIn {g o cap i : Nat} {zs : List Value} (h : Sl w base e size (.slice (some ⟨g, o, none⟩) n cap) n cs) (hi : i < n) (hz : zs.length = size) :
    ∃ cur cur1, Blk w g e cur ∧ o + i * size + (cs.drop ((i + 1) * size)).length ≤ cur.size ∧ Blk (w.setCells g (o + i * size) (cs.drop ((i + 1) * size))) g e cur1 ∧ o + (n - 1) * size + zs.length ≤ cur1.size ∧
      Sl ((w.setCells g (o + i * size) (cs.drop ((i + 1) * size))).setCells g (o + (n - 1) * size) zs) base e size (.slice (some ⟨g, o, none⟩) (n - 1) cap) (n - 1) (cs.take (i * size) ++ cs.drop ((i + 1) * size)) := by
  have hcl := h.1
  rcases h.2 with ⟨e, _⟩ | ⟨g', o', cap', cur, hv, hb, hg, hnc, hm, hs, ht⟩
  · cases e
  · injection hv with hv1 hv2 hv3
    injection hv1 with hv1
    injection hv1 with hv1 hv4
    subst hv1 hv4 hv3
    obtain ⟨d, rfl⟩ : ∃ d, n = i + 1 + d := ⟨n - i - 1, by omega⟩
    have m1 : (i + 1 + d) * size ≤ cap * size := Nat.mul_le_mul_right _ hnc
    have m2 : (i + 1 + d) * size = i * size + size + d * size := by rw [Nat.add_mul, Nat.add_mul, Nat.one_mul]
    have m3 : (i + 1) * size = i * size + size := by rw [Nat.add_mul, Nat.one_mul]
    have m4 : (i + 1 + d - 1) * size = i * size + d * size := by rw [show i + 1 + d - 1 = i + d by omega, Nat.add_mul]
    obtain ⟨Pp, hPp⟩ : ∃ Pp, Pp = cur.toList.take o := ⟨_, rfl⟩
    obtain ⟨T, hT⟩ : ∃ T, T = cur.toList.drop (o + (i + 1 + d) * size) := ⟨_, rfl⟩
    have hcur : cur.toList = Pp ++ (cs ++ T) := by
      rw [hPp, hT, ← ht, ← List.drop_drop, List.take_append_drop, List.take_append_drop]
    have hPl : Pp.length = o := by rw [hPp, List.length_take, Array.length_toList]; omega
    obtain ⟨A, hA⟩ : ∃ A, A = cs.take (i * size) := ⟨_, rfl⟩
    obtain ⟨X, hX⟩ : ∃ X, X = (cs.drop (i * size)).take size := ⟨_, rfl⟩
    obtain ⟨D, hD⟩ : ∃ D, D = cs.drop ((i + 1) * size) := ⟨_, rfl⟩
    have hcs : cs = A ++ (X ++ D) := by
      rw [hA, hX, hD, m3, ← List.drop_drop, List.take_append_drop, List.take_append_drop]
    have hAl : A.length = i * size := by rw [hA, List.length_take, hcl]; omega
    have hDl : D.length = d * size := by rw [hD, List.length_drop, hcl]; omega
    have hXl : X.length = size := by rw [hX, List.length_take, List.length_drop, hcl]; omega
    rw [← hD, ← hA]
    have hf1 : o + i * size + D.length ≤ cur.size := by omega
    obtain ⟨cur1, h1, l1⟩ := setCells_block g D (o + i * size) w cur hg hf1
    have hs1 : cur1.size = cur.size := by
      have := congrArg List.length l1
      simp only [Array.length_toList, List.length_append, List.length_take, List.length_drop] at this
      omega
    have hf2 : o + (i + 1 + d - 1) * size + zs.length ≤ cur1.size := by omega
    obtain ⟨cur2, h2, l2⟩ := setCells_block g zs (o + (i + 1 + d - 1) * size) _ cur1 h1 hf2
    have hs2 : cur2.size = cur1.size := by
      have := congrArg List.length l2
      simp only [Array.length_toList, List.length_append, List.length_take, List.length_drop] at this
      omega
    have x1 : cur.toList.take (o + i * size) = Pp ++ A := by
      rw [hcur, hcs, ← hPl, List.take_length_add_append, List.append_assoc, ← hAl, List.take_left]
    rw [x1] at l1
    have x2 : cur1.toList.take (o + (i + 1 + d - 1) * size) = Pp ++ A ++ D := by
      rw [l1]
      exact List.take_left' (by simp only [List.length_append]; omega)
    rw [x2] at l2
    refine ⟨cur, cur1, hg, hf1, h1, hf2, by simp only [List.length_append]; omega, .inr ⟨g, o, cap, cur2, rfl, hb, h2, by omega, hm, by omega, ?_⟩⟩
    rw [l2, show Pp ++ A ++ D ++ zs = Pp ++ (A ++ D ++ zs) by simp [List.append_assoc], List.append_assoc Pp, ← hPl, List.drop_left, List.append_assoc (A ++ D)]
    exact List.take_left' (by simp only [List.length_append]; omega)
end
section
variable {P : Program}
theorem step_append_run {ops : Array Oper} {o : Oper} {a : Act} {w : World} {K : Act → World → Prop} {Q : Exit → Act → World → Prop} {E : Prop}
    (hg : o.guard = none) (s x : Operand) (t tn : TypeId) (ho : o.op = .call { callee := .builtin .append, args := #[s, x], argTypes := #[t, tn] })
    (v u : Value) (hs : a.eval s = v) (hx : a.eval x = u) {v' : Value} {w' : World} (hr : (Builtin.append_ #[t, tn] o.type #[v, u]).run P w = .ok v' w') (hK : K (a.put o.dst v') w') :
    if Region.wanted o (yielded ops a.tmps) = true then Oper.wp P o a w K Q else E := by
  have hw : Region.wanted o (yielded ops a.tmps) = true := by simp [Region.wanted, hg]
  rw [if_pos hw]
  exact Lib.wp_append_run w s x t tn ho v u hs hx v' w' hr hK
end
end Go.Proofs.Yteakbhfegbghoaa.Kit
