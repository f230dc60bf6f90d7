/- append of any number of elements, none too, to a slice of the call's own that is not nil. Plain laws over any program. -/
import Derived.Test.YtakhidieomalhaaCopy
import Derived.Test.YtakhidieomalhaaDel
namespace Go.Proofs.Ytakhidieomalhaa.Kit
open Go Go.RowKit
set_option linter.unusedSimpArgs false
set_option linter.unusedVariables false
section
variable {P : Program} (w : World)
theorem run_append_none (t ty e : TypeId) (i : TypeInfo) (ht : P.underlying t = some (.slice e)) (hi : P.info? e = some i) (b : Addr) (n cap : Nat) (hn : n ≤ cap) (a : Addr) (c : Nat) :
    (Builtin.append_ #[t, t] ty #[.slice (some b) n cap, .slice (some a) 0 c]).run P w = .ok (.slice (some b) n cap) w := by
  simp [Builtin.append_, run_underlying ht, sizeOf, typeInfo, hi, Builtin.lenOf, Builtin.firstCells, loadCells, loadCellsFrom, storeCells, Result.andThen, hn]
theorem run_append_any (base : Nat) (t ty e : TypeId) (i : TypeInfo) (z : Value) (size bytes : Nat) (ht : P.underlying t = some (.slice e)) (hi : P.info? e = some i) (hz : i.zero = some z)
    (hsize : i.size = size) (hby : i.bytes = bytes) (hzs : z.cells.size = size) (hsz : 0 < size)
    (b : Addr) (cap n : Nat) (cs : List Value) (hown : Sl w base e size (.slice (some b) n cap) n cs)
    (a : Addr) (m c : Nat) (news : List Value) (hl : news.length = m * size) (hnews : ∀ j u, news[j]? = some u → w.cell? (a.add j) = some u) (h1 : ∀ u ∈ news, u.oneCell' = true)
    (h63 : n + m ≤ maxLen) (hbytes : (n + m) * bytes ≤ 140737488355328) (hbase : base ≤ w.heap.size) :
    ∃ b' cap' w', (Builtin.append_ #[t, t] ty #[.slice (some b) n cap, .slice (some a) m c]).run P w = .ok (.slice (some b') (n + m) cap') w' ∧ Sl w' base e size (.slice (some b') (n + m) cap') (n + m) (cs ++ news) ∧ w.grownBy w' (some b.block) ∧ (b'.block = b.block ∨ w.heap.size ≤ b'.block) := by
  have hnc : n ≤ cap := by
    rcases hown.2 with ⟨e, _⟩ | ⟨g, o, cap', cur, e, _, _, h, _⟩
    · cases e
    · injection e with e1 e2 e3; omega
  rcases Nat.eq_zero_or_pos m with h0 | h0
  · subst h0
    have : news = [] := List.eq_nil_of_length_eq_zero (by rw [hl, Nat.zero_mul])
    subst this
    refine ⟨b, cap, w, run_append_none w t ty e i ht hi b n cap hnc a c, by rw [List.append_nil]; exact hown, ⟨rfl, rfl, rfl, Nat.le_refl _, fun _ _ _ => rfl⟩, .inl rfl⟩
  · obtain ⟨v', w', hr, hs, hg, ho⟩ := run_append_sl (P := P) w base t ty e i z size bytes ht hi hz hsize hby hzs hsz _ n cs hown a m c news h0 hl hnews h1 h63 hbytes hbase
    obtain ⟨g, o, cap', rfl, _, _, _⟩ := hs.form (by omega)
    refine ⟨_, _, w', hr, hs, hg, ?_⟩
    rcases ho with e | ⟨g', e, hg'⟩
    · left
      have : some g = some b.block := e
      exact Option.some.inj this
    · right
      have : some g = some g' := e
      rw [Option.some.inj this]; exact hg'
/-- append(append([]T{}, s[:j]...), s[j+1:]...): the two runs; all that they write is new. -/
theorem cut_out (base : Nat) (t ty e : TypeId) (i : TypeInfo) (z : Value) (size bytes : Nat) (ht : P.underlying t = some (.slice e)) (hi : P.info? e = some i) (hz : i.zero = some z)
    (hsize : i.size = size) (hby : i.bytes = bytes) (hzs : z.cells.size = size) (hsz : 0 < size)
    (g o q m j : Nat) (cs : List Value) (hs : Sl w base e size (.slice (some ⟨g, o, none⟩) m q) m cs) (hj : j < m) (h1 : ∀ u ∈ cs, u.oneCell' = true)
    (h63 : m ≤ maxLen) (hbytes : m * bytes ≤ 140737488355328) (hbase : base ≤ w.heap.size) (a : Addr) (c : Nat) (ha : a = ⟨g, o + (j + 1) * size, none⟩ ∨ m - (j + 1) = 0) :
    ∃ b1 k1 w5 b2 k2 w6, (Builtin.append_ #[t, t] ty #[.slice (some ⟨w.heap.size, 0, none⟩) 0 0, .slice (some ⟨g, o, none⟩) j q]).run P (w.alloc (.cells #[] e)).drew = .ok (.slice (some b1) j k1) w5 ∧
      (Builtin.append_ #[t, t] ty #[.slice (some b1) j k1, .slice (some a) (m - (j + 1)) c]).run P w5 = .ok (.slice (some b2) (m - 1) k2) w6 ∧
      Sl w6 base e size (.slice (some b2) (m - 1) k2) (m - 1) (cs.take (j * size) ++ cs.drop ((j + 1) * size)) ∧ New w w6 ∧ w.heap.size ≤ b2.block := by
  have hcl := hs.1
  have m1 : (j + 1) * size ≤ m * size := Nat.mul_le_mul_right _ hj
  have m2 : (j + 1) * size = j * size + size := by rw [Nat.add_mul, Nat.one_mul]
  have m3 : (m - (j + 1)) * size = m * size - (j + 1) * size := Nat.sub_mul _ _ _
  have mb : (0 + j) * bytes ≤ m * bytes := Nat.mul_le_mul_right _ (by omega)
  obtain ⟨g', o', q', hv, _, hg, _, hcell, _⟩ := hs.form (by omega)
  injection hv with hv _ _
  injection hv with hv
  injection hv with hv1 hv2
  subst hv1 hv2
  have n0 : New w (w.alloc (.cells #[] e)).drew := ((New.refl w).alloc _).drew
  have hown : Sl (w.alloc (.cells #[] e)).drew base e size (.slice (some ⟨w.heap.size, 0, none⟩) 0 0) 0 [] :=
    ⟨by simp, .inr ⟨w.heap.size, 0, 0, #[], rfl, hbase, (Blk.new w e #[]).drew, Nat.le_refl _, Nat.zero_le _, by simp, by simp⟩⟩
  obtain ⟨b1, k1, w5, r1, s5, g5, o5⟩ := run_append_any (P := P) (w.alloc (.cells #[] e)).drew base t ty e i z size bytes ht hi hz hsize hby hzs hsz ⟨w.heap.size, 0, none⟩ 0 0 [] hown ⟨g, o, none⟩ j q (cs.take (j * size)) (by rw [List.length_take, hcl]; omega)
    (fun k u hk => by
      have hkl := (List.getElem?_eq_some_iff.1 hk).1
      rw [List.length_take] at hkl
      rw [List.getElem?_take_of_lt (by omega)] at hk
      rw [Addr.add_lit]
      exact n0.cellK (hcell k u hk)) (fun u hu => h1 u (List.mem_of_mem_take hu)) (by omega) (by omega) (by simp; omega)
  rw [Nat.zero_add, List.nil_append] at s5
  rw [Nat.zero_add] at r1
  have n5 : New w w5 := n0.grown g5 (fun k hk => by cases hk; exact Nat.le_refl _)
  have hb1 : w.heap.size ≤ b1.block := by
    rcases o5 with e | h
    · rw [e]; exact Nat.le_refl _
    · exact Nat.le_trans n0.size h
  have hm5 : base ≤ w5.heap.size := Nat.le_trans hbase n5.size
  have mb2 : (j + (m - (j + 1))) * bytes ≤ m * bytes := Nat.mul_le_mul_right _ (by omega)
  have hdl : (cs.drop ((j + 1) * size)).length = (m - (j + 1)) * size := by rw [List.length_drop, hcl, m3]
  obtain ⟨b2, k2, w6, r2, s6, g6, o6⟩ := run_append_any (P := P) w5 base t ty e i z size bytes ht hi hz hsize hby hzs hsz b1 k1 j _ s5 a (m - (j + 1)) c (cs.drop ((j + 1) * size)) hdl
    (fun k u hk => by
      rcases ha with rfl | h0
      · rw [List.getElem?_drop] at hk
        rw [Addr.add_lit, Nat.add_assoc]
        exact n5.cellK (hcell _ u hk)
      · have := (List.getElem?_eq_some_iff.1 hk).1
        rw [hdl, h0, Nat.zero_mul] at this
        omega) (fun u hu => h1 u (List.mem_of_mem_drop hu)) (by omega) (by omega) hm5
  rw [show j + (m - (j + 1)) = m - 1 by omega] at r2 s6
  refine ⟨b1, k1, w5, b2, k2, w6, r1, r2, s6, n5.grown g6 (fun k hk => by cases hk; exact hb1), ?_⟩
  rcases o6 with e | h
  · rw [e]; exact hb1
  · exact Nat.le_trans n5.size h
end
end Go.Proofs.Ytakhidieomalhaa.Kit
