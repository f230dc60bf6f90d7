/- append(append(append([]T{}, s[:j]...), x), s[j:]...): its runs, in each order in which the box of x comes up. Elements of one cell. Plain laws over any program. -/
import Derived.Test.YtakhidieomalhaaApp
namespace Go.Proofs.Ytakhidieomalhaa.Kit
open Go Go.RowKit
set_option linter.unusedSimpArgs false
set_option linter.unusedVariables false
section
variable {P : Program}
theorem run_append_none' (w : World) (t ty e : TypeId) (i : TypeInfo) (ht : P.underlying t = some (.slice e)) (hi : P.info? e = some i) (b : Addr) (n cap : Nat) (hn : n ≤ cap) (a : Option Addr) (c : Nat) :
    (Builtin.append_ #[t, t] ty #[.slice (some b) n cap, .slice a 0 c]).run P w = .ok (.slice (some b) n cap) w := by
  cases a with
  | some a => exact run_append_none w t ty e i ht hi b n cap hn a c
  | none => simp [Builtin.append_, run_underlying ht, sizeOf, typeInfo, hi, Builtin.lenOf, Builtin.firstCells, loadCells, loadCellsFrom, storeCells, Result.andThen, hn]
theorem run_append_of (w : World) (base : Nat) (t ty e : TypeId) (i : TypeInfo) (z : Value) (bytes : Nat) (ht : P.underlying t = some (.slice e)) (hi : P.info? e = some i) (hz : i.zero = some z)
    (hsize : i.size = 1) (hby : i.bytes = bytes) (hzs : z.cells.size = 1)
    (b : Addr) (cap n : Nat) (cs : List Value) (hown : Sl w base e 1 (.slice (some b) n cap) n cs)
    (a : Option Addr) (m c : Nat) (news : List Value) (hl : news.length = m) (ha : m = 0 ∨ ∃ a', a = some a' ∧ ∀ j u, news[j]? = some u → w.cell? (a'.add j) = some u) (h1 : ∀ u ∈ news, u.oneCell' = true)
    (h63 : n + m ≤ maxLen) (hbytes : (n + m) * bytes ≤ 140737488355328) (hbase : base ≤ w.heap.size) :
    ∃ b' cap' w', (Builtin.append_ #[t, t] ty #[.slice (some b) n cap, .slice a m c]).run P w = .ok (.slice (some b') (n + m) cap') w' ∧ Sl w' base e 1 (.slice (some b') (n + m) cap') (n + m) (cs ++ news) ∧ w.grownBy w' (some b.block) ∧ (b'.block = b.block ∨ w.heap.size ≤ b'.block) := by
  have hnc : n ≤ cap := by
    rcases hown.2 with ⟨e, _⟩ | ⟨g, o, cap', cur, e, _, _, h, _⟩
    · cases e
    · injection e with e1 e2 e3; omega
  rcases ha with h0 | ⟨a', rfl, hnews⟩
  · subst h0
    have : news = [] := List.eq_nil_of_length_eq_zero hl
    subst this
    exact ⟨b, cap, w, run_append_none' w t ty e i ht hi b n cap hnc a c, by rw [List.append_nil]; exact hown, ⟨rfl, rfl, rfl, Nat.le_refl _, fun _ _ _ => rfl⟩, .inl rfl⟩
  · exact run_append_any (P := P) w base t ty e i z 1 bytes ht hi hz hsize hby hzs (by decide) b cap n cs hown a' m c news (by rw [hl, Nat.mul_one]) hnews h1 h63 hbytes hbase
/-- The first run: the head into the new row. -/
theorem ins_head (w w2 : World) (base : Nat) (t ty e : TypeId) (i : TypeInfo) (z : Value) (bytes : Nat) (ht : P.underlying t = some (.slice e)) (hi : P.info? e = some i) (hz : i.zero = some z)
    (hsize : i.size = 1) (hby : i.bytes = bytes) (hzs : z.cells.size = 1)
    (cs : List Value) (h1 : ∀ u ∈ cs, u.oneCell' = true) (j : Nat) (hj : j ≤ cs.length) (h63 : cs.length + 1 ≤ maxLen) (hbytes : (cs.length + 1) * bytes ≤ 140737488355328) (hbase : base ≤ w.heap.size)
    (hn2 : New w w2) (b0 : Addr) (own0 : Sl w2 base e 1 (.slice (some b0) 0 0) 0 []) (hb0 : w.heap.size ≤ b0.block)
    (xa : Option Addr) (xc : Nat) (hx : j = 0 ∨ ∃ g o, xa = some ⟨g, o, none⟩ ∧ ∀ k u, cs[k]? = some u → w.cell? ⟨g, o + k, none⟩ = some u) :
    ∃ b1 k1 w5, (Builtin.append_ #[t, t] ty #[.slice (some b0) 0 0, .slice xa j xc]).run P w2 = .ok (.slice (some b1) j k1) w5 ∧ Sl w5 base e 1 (.slice (some b1) j k1) j (cs.take j) ∧ New w w5 ∧ w.heap.size ≤ b1.block ∧ w2.grownBy w5 (some b0.block) := by
  have mb : (0 + j) * bytes ≤ (cs.length + 1) * bytes := Nat.mul_le_mul_right _ (by omega)
  obtain ⟨b1, k1, w5, r, s, g, o⟩ := run_append_of (P := P) w2 base t ty e i z bytes ht hi hz hsize hby hzs b0 0 0 [] own0 xa j xc (cs.take j) (by rw [List.length_take]; omega)
    (by
      rcases hx with h0 | ⟨g, o, rfl, hc⟩
      · exact .inl h0
      · refine .inr ⟨_, rfl, fun k u hk => ?_⟩
        have hkl := (List.getElem?_eq_some_iff.1 hk).1
        rw [List.length_take] at hkl
        rw [List.getElem?_take_of_lt (by omega)] at hk
        rw [Addr.add_lit]
        exact hn2.cellK (hc k u hk))
    (fun u hu => h1 u (List.mem_of_mem_take hu)) (by omega) (by omega) (Nat.le_trans hbase hn2.size)
  rw [Nat.zero_add, List.nil_append] at s
  rw [Nat.zero_add] at r
  refine ⟨b1, k1, w5, r, s, hn2.grown g (fun k hk => by cases hk; exact hb0), ?_, g⟩
  rcases o with e | h
  · rw [e]; exact hb0
  · exact Nat.le_trans hn2.size h
/-- The other two: the element, and the tail. -/
theorem ins_tail (w w5 : World) (base : Nat) (t ty e : TypeId) (i : TypeInfo) (z : Value) (bytes : Nat) (ht : P.underlying t = some (.slice e)) (hi : P.info? e = some i) (hz : i.zero = some z)
    (hsize : i.size = 1) (hby : i.bytes = bytes) (hzs : z.cells.size = 1)
    (cs : List Value) (h1 : ∀ u ∈ cs, u.oneCell' = true) (j : Nat) (hj : j ≤ cs.length) (h63 : cs.length + 1 ≤ maxLen) (hbytes : (cs.length + 1) * bytes ≤ 140737488355328) (hbase : base ≤ w.heap.size)
    (hn5 : New w w5) (b1 : Addr) (k1 : Nat) (own1 : Sl w5 base e 1 (.slice (some b1) j k1) j (cs.take j)) (hb1 : w.heap.size ≤ b1.block)
    (a1 : Addr) (x : Value) (ha1 : w5.cell? (a1.add 0) = some x) (hx1 : x.oneCell' = true)
    (ya : Option Addr) (yc : Nat) (hy : cs.length - j = 0 ∨ ∃ g o, ya = some ⟨g, o + j, none⟩ ∧ ∀ k u, cs[k]? = some u → w.cell? ⟨g, o + k, none⟩ = some u) :
    ∃ b2 k2 w7 b3 k3 w8, (Builtin.append_ #[t, t] ty #[.slice (some b1) j k1, .slice (some a1) 1 1]).run P w5 = .ok (.slice (some b2) (j + 1) k2) w7 ∧
      (Builtin.append_ #[t, t] ty #[.slice (some b2) (j + 1) k2, .slice ya (cs.length - j) yc]).run P w7 = .ok (.slice (some b3) (cs.length + 1) k3) w8 ∧
      Sl w8 base e 1 (.slice (some b3) (cs.length + 1) k3) (cs.length + 1) (cs.take j ++ x :: cs.drop j) ∧ New w w8 ∧ New w w7 := by
  have mb : (j + 1) * bytes ≤ (cs.length + 1) * bytes := Nat.mul_le_mul_right _ (by omega)
  obtain ⟨b2, k2, w7, r, s, g, o⟩ := run_append_of (P := P) w5 base t ty e i z bytes ht hi hz hsize hby hzs b1 k1 j _ own1 (some a1) 1 1 [x] rfl
    (.inr ⟨_, rfl, fun k u hk => by
      have hkl := (List.getElem?_eq_some_iff.1 hk).1
      have hk0 : k = 0 := by simpa using hkl
      subst hk0
      simp only [List.getElem?_cons_zero, Option.some.injEq] at hk
      subst hk
      exact ha1⟩)
    (fun u hu => by rw [List.mem_singleton.1 hu]; exact hx1) (by omega) (by omega) (Nat.le_trans hbase hn5.size)
  have n7 : New w w7 := hn5.grown g (fun k hk => by cases hk; exact hb1)
  have hb2 : w.heap.size ≤ b2.block := by
    rcases o with e | h
    · rw [e]; exact hb1
    · exact Nat.le_trans hn5.size h
  have mb2 : (j + 1 + (cs.length - j)) * bytes ≤ (cs.length + 1) * bytes := Nat.mul_le_mul_right _ (by omega)
  obtain ⟨b3, k3, w8, r3, s3, g3, o3⟩ := run_append_of (P := P) w7 base t ty e i z bytes ht hi hz hsize hby hzs b2 k2 (j + 1) _ s ya (cs.length - j) yc (cs.drop j) (by rw [List.length_drop])
    (by
      rcases hy with h0 | ⟨g, o, rfl, hc⟩
      · exact .inl h0
      · refine .inr ⟨_, rfl, fun k u hk => ?_⟩
        rw [List.getElem?_drop] at hk
        rw [Addr.add_lit, Nat.add_assoc]
        exact n7.cellK (hc _ u hk))
    (fun u hu => h1 u (List.mem_of_mem_drop hu)) (by omega) (by omega) (Nat.le_trans hbase n7.size)
  rw [show j + 1 + (cs.length - j) = cs.length + 1 by omega] at r3 s3
  refine ⟨b2, k2, w7, b3, k3, w8, r, r3, ?_, n7.grown g3 (fun k hk => by cases hk; exact hb2), n7⟩
  rw [List.append_assoc, List.singleton_append] at s3
  exact s3
/-- What the three orders leave: order 1 (the element's box first), 2 (the empty row first, then the box), 3 (the box behind the first append). -/
theorem ins_runs (w : World) (base : Nat) (t ty e : TypeId) (i : TypeInfo) (z : Value) (bytes : Nat) (ht : P.underlying t = some (.slice e)) (hi : P.info? e = some i) (hz : i.zero = some z)
    (hsize : i.size = 1) (hby : i.bytes = bytes) (hzs : z.cells.size = 1)
    (cs : List Value) (h1 : ∀ u ∈ cs, u.oneCell' = true) (n : Nat) (hn : cs.length = n) (j : Nat) (hj : j ≤ n) (h63 : n + 1 ≤ maxLen) (hbytes : (n + 1) * bytes ≤ 140737488355328) (hbase : base ≤ w.heap.size)
    (x : Value) (hx1 : x.oneCell' = true) (xa : Option Addr) (xc : Nat) (ya : Option Addr) (yc : Nat)
    (hx : j = 0 ∨ ∃ g o, xa = some ⟨g, o, none⟩ ∧ ∀ k u, cs[k]? = some u → w.cell? ⟨g, o + k, none⟩ = some u)
    (hy : n - j = 0 ∨ ∃ g o, ya = some ⟨g, o + j, none⟩ ∧ ∀ k u, cs[k]? = some u → w.cell? ⟨g, o + k, none⟩ = some u) :
    (∃ b1 k1 w5 b2 k2 w7 b3 k3 w8, (Builtin.append_ #[t, t] ty #[.slice (some ⟨w.heap.size + 1, 0, none⟩) 0 0, .slice xa j xc]).run P ((w.alloc (.cells #[x] e)).alloc (.cells #[] e)).drew = .ok (.slice (some b1) j k1) w5 ∧
      (Builtin.append_ #[t, t] ty #[.slice (some b1) j k1, .slice (some ⟨w.heap.size, 0, none⟩) 1 1]).run P w5 = .ok (.slice (some b2) (j + 1) k2) w7 ∧
      (Builtin.append_ #[t, t] ty #[.slice (some b2) (j + 1) k2, .slice ya (n - j) yc]).run P w7 = .ok (.slice (some b3) (n + 1) k3) w8 ∧
      Sl w8 base e 1 (.slice (some b3) (n + 1) k3) (n + 1) (cs.take j ++ x :: cs.drop j) ∧ New w w8 ∧ New w w5 ∧ New w w7) ∧
    (∃ b1 k1 w5 b2 k2 w7 b3 k3 w8, (Builtin.append_ #[t, t] ty #[.slice (some ⟨w.heap.size, 0, none⟩) 0 0, .slice xa j xc]).run P ((w.alloc (.cells #[] e)).alloc (.cells #[x] e)).drew = .ok (.slice (some b1) j k1) w5 ∧
      (Builtin.append_ #[t, t] ty #[.slice (some b1) j k1, .slice (some ⟨w.heap.size + 1, 0, none⟩) 1 1]).run P w5 = .ok (.slice (some b2) (j + 1) k2) w7 ∧
      (Builtin.append_ #[t, t] ty #[.slice (some b2) (j + 1) k2, .slice ya (n - j) yc]).run P w7 = .ok (.slice (some b3) (n + 1) k3) w8 ∧
      Sl w8 base e 1 (.slice (some b3) (n + 1) k3) (n + 1) (cs.take j ++ x :: cs.drop j) ∧ New w w8 ∧ New w w5 ∧ New w w7) ∧
    (∃ b1 k1 w5 b2 k2 w7 b3 k3 w8, (Builtin.append_ #[t, t] ty #[.slice (some ⟨w.heap.size, 0, none⟩) 0 0, .slice xa j xc]).run P (w.alloc (.cells #[] e)).drew = .ok (.slice (some b1) j k1) w5 ∧
      (Builtin.append_ #[t, t] ty #[.slice (some b1) j k1, .slice (some ⟨w5.heap.size, 0, none⟩) 1 1]).run P (w5.alloc (.cells #[x] e)) = .ok (.slice (some b2) (j + 1) k2) w7 ∧
      (Builtin.append_ #[t, t] ty #[.slice (some b2) (j + 1) k2, .slice ya (n - j) yc]).run P w7 = .ok (.slice (some b3) (n + 1) k3) w8 ∧
      Sl w8 base e 1 (.slice (some b3) (n + 1) k3) (n + 1) (cs.take j ++ x :: cs.drop j) ∧ New w w8 ∧ New w w5 ∧ New w w7) := by
  subst hn
  have own : ∀ (w2 : World) (g : Nat), Blk w2 g e #[] → base ≤ g → Sl w2 base e 1 (.slice (some ⟨g, 0, none⟩) 0 0) 0 [] := fun w2 g hb hg =>
    ⟨by simp, .inr ⟨g, 0, 0, #[], rfl, hg, hb, Nat.le_refl _, Nat.zero_le _, by simp, by simp⟩⟩
  refine ⟨?_, ?_, ?_⟩
  · have n2 : New w ((w.alloc (.cells #[x] e)).alloc (.cells #[] e)).drew := (((New.refl w).alloc _).alloc _).drew
    have hB0 : Blk ((w.alloc (.cells #[x] e)).alloc (.cells #[] e)).drew (w.heap.size + 1) e #[] := by
      have h := Blk.new (w.alloc (.cells #[x] e)) e #[]
      rw [World.size_alloc] at h
      exact h.drew
    have hB1 : Blk ((w.alloc (.cells #[x] e)).alloc (.cells #[] e)).drew w.heap.size e #[x] := ((Blk.new w e #[x]).alloc _).drew
    obtain ⟨b1, k1, w5, r, s, n5, hb1, g5⟩ := ins_head (P := P) w _ base t ty e i z bytes ht hi hz hsize hby hzs cs h1 j hj h63 hbytes hbase n2 ⟨w.heap.size + 1, 0, none⟩ (own _ _ hB0 (by omega)) (Nat.le_succ _) xa xc hx
    have hB5 : Blk w5 w.heap.size e #[x] := hB1.grown g5 (fun h => by injection h with h; exact absurd h (Nat.ne_of_lt (Nat.lt_succ_self _)))
    obtain ⟨b2, k2, w7, b3, k3, w8, r7, r8, s8, n8, n7⟩ := ins_tail (P := P) w w5 base t ty e i z bytes ht hi hz hsize hby hzs cs h1 j hj h63 hbytes hbase n5 b1 k1 s hb1 ⟨w.heap.size, 0, none⟩ x (by rw [Addr.add_lit, hB5.cell]; rfl) hx1 ya yc hy
    exact ⟨b1, k1, w5, b2, k2, w7, b3, k3, w8, r, r7, r8, s8, n8, n5, n7⟩
  · have n2 : New w ((w.alloc (.cells #[] e)).alloc (.cells #[x] e)).drew := (((New.refl w).alloc _).alloc _).drew
    have hB1 : Blk ((w.alloc (.cells #[] e)).alloc (.cells #[x] e)).drew (w.heap.size + 1) e #[x] := by
      have h := Blk.new (w.alloc (.cells #[] e)) e #[x]
      rw [World.size_alloc] at h
      exact h.drew
    have hB0 : Blk ((w.alloc (.cells #[] e)).alloc (.cells #[x] e)).drew w.heap.size e #[] := ((Blk.new w e #[]).alloc _).drew
    obtain ⟨b1, k1, w5, r, s, n5, hb1, g5⟩ := ins_head (P := P) w _ base t ty e i z bytes ht hi hz hsize hby hzs cs h1 j hj h63 hbytes hbase n2 ⟨w.heap.size, 0, none⟩ (own _ _ hB0 hbase) (Nat.le_refl _) xa xc hx
    have hB5 : Blk w5 (w.heap.size + 1) e #[x] := hB1.grown g5 (fun h => by injection h with h; exact absurd h (Nat.succ_ne_self _))
    obtain ⟨b2, k2, w7, b3, k3, w8, r7, r8, s8, n8, n7⟩ := ins_tail (P := P) w w5 base t ty e i z bytes ht hi hz hsize hby hzs cs h1 j hj h63 hbytes hbase n5 b1 k1 s hb1 ⟨w.heap.size + 1, 0, none⟩ x (by rw [Addr.add_lit, hB5.cell]; rfl) hx1 ya yc hy
    exact ⟨b1, k1, w5, b2, k2, w7, b3, k3, w8, r, r7, r8, s8, n8, n5, n7⟩
  · have n2 : New w (w.alloc (.cells #[] e)).drew := ((New.refl w).alloc _).drew
    have hB0 : Blk (w.alloc (.cells #[] e)).drew w.heap.size e #[] := (Blk.new w e #[]).drew
    obtain ⟨b1, k1, w5, r, s, n5, hb1, g5⟩ := ins_head (P := P) w _ base t ty e i z bytes ht hi hz hsize hby hzs cs h1 j hj h63 hbytes hbase n2 ⟨w.heap.size, 0, none⟩ (own _ _ hB0 hbase) (Nat.le_refl _) xa xc hx
    have hB5 : Blk (w5.alloc (.cells #[x] e)) w5.heap.size e #[x] := Blk.new w5 e #[x]
    obtain ⟨b2, k2, w7, b3, k3, w8, r7, r8, s8, n8, n7⟩ := ins_tail (P := P) w (w5.alloc (.cells #[x] e)) base t ty e i z bytes ht hi hz hsize hby hzs cs h1 j hj h63 hbytes hbase (n5.alloc _) b1 k1 (s.alloc _) hb1 ⟨w5.heap.size, 0, none⟩ x (by rw [Addr.add_lit, hB5.cell]; rfl) hx1 ya yc hy
    exact ⟨b1, k1, w5, b2, k2, w7, b3, k3, w8, r, r7, r8, s8, n8, n5, n7⟩
end
end Go.Proofs.Ytakhidieomalhaa.Kit
