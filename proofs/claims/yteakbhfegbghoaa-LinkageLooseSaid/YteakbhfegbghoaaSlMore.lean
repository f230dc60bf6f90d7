/- More on own slices: setting, cutting, their blocks; append as one step of a region that draws. Plain laws over any program. -/
import Derived.Test.YteakbhfegbghoaaKit
import Derived.Test.YteakbhfegbghoaaSl
import Derived.StillTailTactics
namespace Go.Proofs.Yteakbhfegbghoaa.Kit
open Go Go.RowKit
set_option linter.unusedSimpArgs false
set_option linter.unusedVariables false
set_option linter.unusedSectionVars false
section
variable {w w' : World} {base : Nat} {e : TypeId} {size : Nat} {v : Value} {n : Nat} {cs : List Value}
theorem Sl.setAt {g o cap : Nat} (h : Sl w base e size (.slice (some ⟨g, o, none⟩) n cap) n cs) (i : Nat) (hi : i < n * size) (u : Value) : Sl (w.setCell ⟨g, o + i, none⟩ u) base e size (.slice (some ⟨g, o, none⟩) n cap) n (cs.set i u) := by
  refine ⟨by simpa using h.1, ?_⟩
  rcases h.2 with ⟨e, _⟩ | ⟨g', o', cap', cur, hv, hb, hg, hnc, hm, hs, ht⟩
  · cases e
  · injection hv with hv1 hv2 hv3
    injection hv1 with hv1
    injection hv1 with hv1 hv4
    subst hv1 hv4 hv3
    have hle : n * size ≤ cap * size := Nat.mul_le_mul_right _ hnc
    refine .inr ⟨g, o, cap, cur.setIfInBounds (o + i) u, rfl, hb, by simp [World.setCell, Array.getElem?_modify, hg], hnc, hm, by simpa using hs, ?_⟩
    rw [← ht]
    apply List.ext_getElem?
    intro j
    simp only [Array.toList_setIfInBounds, List.getElem?_take, List.getElem?_drop, List.getElem?_set, List.length_take, List.length_drop, List.length_set, Array.length_toList]
    by_cases hj : j < n * size
    · by_cases e : i = j
      · subst e
        rw [if_pos hj, if_pos rfl, if_pos (by omega), if_pos rfl, if_pos (by omega)]
      · rw [if_pos hj, if_neg (by omega), if_neg e, if_pos hj]
    · by_cases e : i = j
      · omega
      · rw [if_neg hj, if_neg e, if_neg hj]
/-- s[:m]. -/
theorem Sl.cutTo {g o cap m : Nat} {A B : List Value} (h : Sl w base e size (.slice (some ⟨g, o, none⟩) n cap) n (A ++ B)) (hm : m ≤ n) (hA : A.length = m * size) : Sl w base e size (.slice (some ⟨g, o, none⟩) m cap) m A := by
  refine ⟨hA, ?_⟩
  rcases h.2 with ⟨e, _⟩ | ⟨g', o', cap', cur, hv, hb, hg, hnc, hmx, hs, ht⟩
  · cases e
  · injection hv with hv1 hv2 hv3
    injection hv1 with hv1
    injection hv1 with hv1 hv4
    subst hv1 hv4 hv3
    refine .inr ⟨g, o, cap, cur, rfl, hb, hg, by omega, hmx, hs, ?_⟩
    have hle : m * size ≤ n * size := Nat.mul_le_mul_right _ hm
    have := congrArg (List.take (m * size)) ht
    rw [List.take_take, Nat.min_eq_left hle, ← hA, List.take_left' rfl, hA] at this
    exact this
theorem Sl.val (h : Sl w base e size v n cs) : ∃ a cap, v = .slice a n cap := by
  rcases h.2 with ⟨e, h0⟩ | ⟨g, o, cap, cur, e, _⟩
  · exact ⟨none, 0, by rw [e, h0]⟩
  · exact ⟨_, _, e⟩
theorem Sl.blk (h : Sl w base e size v n cs) {g : Nat} (hg : v.ownBlock = some g) : base ≤ g ∧ ∃ arr, Blk w g e arr := by
  rcases h.2 with ⟨rfl, _⟩ | ⟨g', o, cap, cur, rfl, hb, hg', _⟩
  · cases hg
  · cases hg
    exact ⟨hb, cur, hg'⟩
theorem Blk.inj {g : Nat} {t t' : TypeId} {a a' : Array Value} (h : Blk w g t a) (h' : Blk w g t' a') : t = t' := by
  unfold Blk at h h'
  rw [h] at h'
  injection h' with h'
  injection h' with _ h2
end
section
variable {P : Program}
/-- append, as one step of a region that draws. -/
theorem step_append_sl {ops : Array Oper} {o : Oper} {a : Act} {w : World} {K : Act → World → Prop} {Q : Exit → Act → World → Prop} {E : Prop}
    (hgd : o.guard = none) (s x : Operand) (t : TypeId)
    (ho : o.op = .call { callee := .builtin .append, args := #[s, x], argTypes := #[t, t] })
    (base : Nat) (e : TypeId) (i : TypeInfo) (z : Value) (size bytes : Nat) (ht : P.underlying t = some (.slice e)) (hi : P.info? e = some i) (hz : i.zero = some z)
    (hsize : i.size = size) (hby : i.bytes = bytes) (hzs : z.cells.size = size) (hsz : 0 < size)
    (v : Value) (n : Nat) (cs : List Value) (hs : a.eval s = v) (hown : Sl w base e size v n cs)
    (ad : Addr) (m c : Nat) (news : List Value) (hx : a.eval x = .slice (some ad) m c) (hm : 0 < m) (hl : news.length = m * size) (hnews : ∀ j u, news[j]? = some u → w.cell? (ad.add j) = some u) (h1 : ∀ u ∈ news, u.oneCell' = true)
    (h63 : n + m ≤ maxLen) (hbytes : (n + m) * bytes ≤ 140737488355328) (hbase : base ≤ w.heap.size)
    (h : ∀ v' w', Sl w' base e size v' (n + m) (cs ++ news) → w.grownBy w' v.ownBlock → (v'.ownBlock = v.ownBlock ∨ ∃ g, v'.ownBlock = some g ∧ w.heap.size ≤ g) → K (a.put o.dst v') w') :
    if Region.wanted o (yielded ops a.tmps) = true then Oper.wp P o a w K Q else E := by
  have hw : Region.wanted o (yielded ops a.tmps) = true := by simp [Region.wanted, hgd]
  rw [if_pos hw]
  exact wp_append_sl w s x t ho base e i z size bytes ht hi hz hsize hby hzs hsz v n cs hs hown ad m c news hx hm hl hnews h1 h63 hbytes hbase h
end
end Go.Proofs.Yteakbhfegbghoaa.Kit
