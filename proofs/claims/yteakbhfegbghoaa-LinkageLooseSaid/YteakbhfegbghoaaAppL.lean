/- append of a list, none too, to a slice of the call's own, nil too. Plain laws over any program. -/
import Derived.Test.YteakbhfegbghoaaLs
import Derived.Test.YteakbhfegbghoaaCopy
namespace Go.Proofs.Yteakbhfegbghoaa.Kit
open Go Go.RowKit
set_option linter.unusedSimpArgs false
set_option linter.unusedVariables false
section
variable {P : Program} (w : World)
theorem run_append_naught (t ty e : TypeId) (i : TypeInfo) (ht : P.underlying t = some (.slice e)) (hi : P.info? e = some i) (v : Value) (n base size : Nat) (cs : List Value) (hs : Sl w base e size v n cs) (a : Option Addr) (c : Nat) :
    (Builtin.append_ #[t, t] ty #[v, .slice a 0 c]).run P w = .ok v w := by
  rcases hs.2 with ⟨rfl, rfl⟩ | ⟨g, o, cap, cur, rfl, _, _, hn, _⟩
  · cases a <;> simp [Builtin.append_, run_underlying ht, sizeOf, typeInfo, hi, Builtin.lenOf, Builtin.firstCells, loadCells, loadCellsFrom, storeCells, Result.andThen]
  · cases a <;> simp [Builtin.append_, run_underlying ht, sizeOf, typeInfo, hi, Builtin.lenOf, Builtin.firstCells, loadCells, loadCellsFrom, storeCells, Result.andThen, hn]
/-- The result of an append: an own slice; only the slice's own row is written, all else is new. -/
def Onto (w : World) (base : Nat) (e : TypeId) (size : Nat) (v : Value) (n : Nat) (cs : List Value) (v' : Value) (w' : World) : Prop :=
  Sl w' base e size v' n cs ∧ w.grownBy w' v.ownBlock ∧ (v'.ownBlock = v.ownBlock ∨ ∃ g, v'.ownBlock = some g ∧ w.heap.size ≤ g)
theorem run_append_ls {α : Type} {f : α → List Value} (base : Nat) (t ty e : TypeId) (i : TypeInfo) (z : Value) (size bytes : Nat) (ht : P.underlying t = some (.slice e)) (hi : P.info? e = some i) (hz : i.zero = some z)
    (hsize : i.size = size) (hby : i.bytes = bytes) (hzs : z.cells.size = size) (hsz : 0 < size) (hk : ∀ x, (f x).length = size) (h1 : ∀ x, ∀ u ∈ f x, u.oneCell' = true)
    (v : Value) (n : Nat) (cs : List Value) (hown : Sl w base e size v n cs) (x : Value) (xs : List α) (hx : LsAt size f w x xs)
    (h63 : n + xs.length ≤ maxLen) (hbytes : (n + xs.length) * bytes ≤ 140737488355328) (hbase : base ≤ w.heap.size) :
    ∃ v' w', (Builtin.append_ #[t, t] ty #[v, x]).run P w = .ok v' w' ∧ Onto w base e size v (n + xs.length) (cs ++ flatOf f xs) v' w' := by
  obtain ⟨a, c, rfl, hc, hcm, hcell⟩ := hx
  rcases Nat.eq_zero_or_pos xs.length with h0 | h0
  · have hnil := List.eq_nil_of_length_eq_zero h0
    subst hnil
    refine ⟨v, w, run_append_naught w t ty e i ht hi v n base size cs hown a c, ?_, ⟨rfl, rfl, rfl, Nat.le_refl _, fun _ _ _ => rfl⟩, .inl rfl⟩
    rw [flatOf_nil, List.append_nil]
    exact hown
  · obtain ⟨b, o, rfl, hb, hcl⟩ := hcell h0
    exact run_append_sl w base t ty e i z size bytes ht hi hz hsize hby hzs hsz v n cs hown ⟨b, o, none⟩ xs.length c (flatOf f xs) h0 (flatOf_len hk xs) (fun j u hu => by
      have hj : j < xs.length * size := by rw [← flatOf_len hk]; exact (List.getElem?_eq_some_iff.1 hu).1
      have hjd : j / size < xs.length := Nat.div_lt_of_lt_mul (by rw [Nat.mul_comm]; exact hj)
      have hx : xs[j / size]? = some (xs[j / size]'hjd) := List.getElem?_eq_getElem hjd
      have h4 : j % size < (f (xs[j / size]'hjd)).length := by rw [hk]; exact Nat.mod_lt _ hsz
      have := flatOf_get hk hx (List.getElem?_eq_getElem h4)
      have hdm : j / size * size + j % size = j := by rw [Nat.mul_comm]; exact Nat.div_add_mod j size
      rw [hdm, hu] at this
      rw [Addr.add_lit, ← hdm, ← Nat.add_assoc]
      exact hcl _ _ hx _ _ (by rw [List.getElem?_eq_getElem h4, this])) (fun u hu => by
      obtain ⟨y, _, hy⟩ := List.mem_flatMap.1 hu
      exact h1 y u hy) h63 hbytes hbase
end
section
variable {w w' : World} {base size : Nat} {e : TypeId} {v v' : Value} {n : Nat} {cs : List Value}
theorem Onto.new (h : Onto w base e size v n cs v' w') {w0 : World} (h0 : New w0 w) (hb : ∀ g, v.ownBlock = some g → w0.heap.size ≤ g) : New w0 w' := h0.grown h.2.1 fun k hk => hb k hk
end
end Go.Proofs.Yteakbhfegbghoaa.Kit
