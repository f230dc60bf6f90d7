/- Slices of the call's own, at whatever place of their row: reading, cutting, appending. Plain laws over any program. -/
import Derived.Test.YteakbhfegbghoaaKit
import Derived.Maps.AppendAt
import Derived.ArgAppend
namespace Go.Proofs.Yteakbhfegbghoaa.Kit
open Go Go.RowKit
set_option linter.unusedSimpArgs false
set_option linter.unusedVariables false
set_option linter.unusedSectionVars false

/-- v is a slice of n elements (the cells cs) in a row of the blocks from base on. -/
def Sl (w : World) (base : Nat) (e : TypeId) (size : Nat) (v : Value) (n : Nat) (cs : List Value) : Prop :=
  cs.length = n * size ∧ ((v = .slice none 0 0 ∧ n = 0) ∨
    ∃ g o cap cur, v = .slice (some ⟨g, o, none⟩) n cap ∧ base ≤ g ∧ w.heap[g]? = some (.cells cur e (0, 0)) ∧ n ≤ cap ∧ cap ≤ maxLen ∧ o + cap * size ≤ cur.size ∧ (cur.toList.drop o).take (n * size) = cs)
section
variable {w w' : World} {base : Nat} {e : TypeId} {size : Nat} {v : Value} {n : Nat} {cs : List Value}
theorem Sl.nil (w : World) (base : Nat) (e : TypeId) (size : Nat) : Sl w base e size (.slice none 0 0) 0 [] := ⟨by simp, .inl ⟨rfl, rfl⟩⟩
theorem Sl.of_owns (h : w.ownsRow base e size v n cs) : Sl w base e size v n cs := by
  refine ⟨h.1, ?_⟩
  rcases h.2 with h0 | ⟨g, cap, cur, hv, hb, hg, hn, hm, hs, ht⟩
  · exact .inl h0
  · exact .inr ⟨g, 0, cap, cur, hv, hb, hg, hn, hm, by omega, by simpa using ht⟩
theorem Sl.mono (h : Sl w base e size v n cs) {b' : Nat} (hb : b' ≤ base) : Sl w b' e size v n cs := by
  refine ⟨h.1, ?_⟩
  rcases h.2 with h0 | ⟨g, o, cap, cur, hv, hg, r⟩
  · exact .inl h0
  · exact .inr ⟨g, o, cap, cur, hv, by omega, r⟩
theorem Sl.of_block (h : Sl w base e size v n cs) (hb : ∀ g, v.ownBlock = some g → w'.heap[g]? = w.heap[g]?) : Sl w' base e size v n cs := by
  refine ⟨h.1, ?_⟩
  rcases h.2 with h0 | ⟨g, o, cap, cur, hv, hg, hb', r⟩
  · exact .inl h0
  · exact .inr ⟨g, o, cap, cur, hv, hg, (hb g (by rw [hv]; rfl)).trans hb', r⟩
theorem Sl.lt (h : Sl w base e size v n cs) : ∀ g, v.ownBlock = some g → base ≤ g ∧ g < w.heap.size := by
  intro g hg
  rcases h.2 with ⟨rfl, _⟩ | ⟨g', o, cap, cur, rfl, hb, hg', _⟩
  · cases hg
  · cases hg
    exact ⟨hb, (Array.getElem?_eq_some_iff.1 hg').1⟩
theorem Sl.keeps (h : Sl w base e size v n cs) {F : Nat → Prop} (k : Keeps F w w') (hF : ∀ g, v.ownBlock = some g → ¬ F g) : Sl w' base e size v n cs :=
  h.of_block fun g hg => k.block g (h.lt g hg).2 (hF g hg)
theorem Sl.new_ (h : Sl w base e size v n cs) (k : New w w') : Sl w' base e size v n cs := h.of_block fun g hg => k.block g (h.lt g hg).2
theorem Sl.drewN (h : Sl w base e size v n cs) (k : Nat) : Sl (w.drewN k) base e size v n cs := h
theorem Sl.drew (h : Sl w base e size v n cs) : Sl w.drew base e size v n cs := h
theorem Sl.alloc (h : Sl w base e size v n cs) (o : Obj) : Sl (w.alloc o) base e size v n cs := h.of_block fun g hg => Below.heap_alloc w o g (h.lt g hg).2
theorem Sl.far (h : Sl w base e size v n cs) {p : Addr} (hp : ∀ g, v.ownBlock = some g → g ≠ p.block) (u : Value) : Sl (w.setCell p u) base e size v n cs := h.of_block fun g hg => Below.heap_setCell w p u g (hp g hg)
theorem Sl.grown (h : Sl w base e size v n cs) {row : Option Nat} (hg : w.grownBy w' row) (hr : ∀ g, v.ownBlock = some g → some g ≠ row) : Sl w' base e size v n cs := h.of_block fun g h' => hg.block g (h.lt g h').2 (hr g h')
/-- Where there is an element there is a row. -/
theorem Sl.form (h : Sl w base e size v n cs) (hn : 0 < n) : ∃ g o cap, v = .slice (some ⟨g, o, none⟩) n cap ∧ base ≤ g ∧ g < w.heap.size ∧ n ≤ cap ∧ (∀ i u, cs[i]? = some u → w.cell? ⟨g, o + i, none⟩ = some u) ∧ (∀ i, w.frozen? ⟨g, i, none⟩ = false) := by
  rcases h.2 with ⟨_, h0⟩ | ⟨g, o, cap, cur, hv, hb, hg, hnc, hm, hs, ht⟩
  · omega
  · refine ⟨g, o, cap, hv, hb, (Array.getElem?_eq_some_iff.1 hg).1, hnc, ?_, ?_⟩
    · intro i u hu
      have hi : i < n * size := by rw [← h.1]; exact (List.getElem?_eq_some_iff.1 hu).1
      rw [← ht, List.getElem?_take_of_lt hi, List.getElem?_drop] at hu
      simp only [World.cell?, hg]
      simpa using hu
    · intro i
      simp [World.frozen?, hg]
/-- s[1:]. -/
theorem Sl.cut1 {g o n' cap : Nat} {c0 : Value} {cs' : List Value} (h : Sl w base e 1 (.slice (some ⟨g, o, none⟩) (n' + 1) cap) (n' + 1) (c0 :: cs')) :
    Sl w base e 1 (.slice (if cap = 1 then some ⟨g, o, none⟩ else some ⟨g, o + 1, none⟩) n' (cap - 1)) n' cs' := by
  have hl : cs'.length = n' * 1 := by have := h.1; simp at this; omega
  refine ⟨hl, ?_⟩
  rcases h.2 with ⟨e, _⟩ | ⟨g', o', cap', cur, hv, hb, hg, hnc, hm, hs, ht⟩
  · cases e
  · injection hv with hv1 hv2 hv3
    injection hv1 with hv1
    injection hv1 with hv1 hv4
    subst hv1 hv4 hv3
    have ht' : (cur.toList.drop (o + 1)).take (n' * 1) = cs' := by
      have := congrArg (List.drop 1) ht
      simp only [List.drop_take, List.drop_drop, List.drop_succ_cons, List.drop_zero] at this
      rw [← this]
      congr 1
    by_cases hc : cap = 1
    · subst hc
      obtain rfl : n' = 0 := by omega
      have hnil : cs' = [] := List.eq_nil_of_length_eq_zero (by omega)
      subst hnil
      exact .inr ⟨g, o, 0, cur, by simp, hb, hg, by omega, by omega, by omega, by simp⟩
    · exact .inr ⟨g, o + 1, cap - 1, cur, by rw [if_neg hc], hb, hg, by omega, by omega, by omega, ht'⟩
theorem Sl.set {g o cap : Nat} (h : Sl w base e 1 (.slice (some ⟨g, o, none⟩) n cap) n cs) (i : Nat) (hi : i < n) (u : Value) : Sl (w.setCell ⟨g, o + i, none⟩ u) base e 1 (.slice (some ⟨g, o, none⟩) n cap) n (cs.set i u) := by
  refine ⟨by simpa using h.1, ?_⟩
  rcases h.2 with ⟨e, _⟩ | ⟨g', o', cap', cur, hv, hb, hg, hnc, hm, hs, ht⟩
  · cases e
  · injection hv with hv1 hv2 hv3
    injection hv1 with hv1
    injection hv1 with hv1 hv4
    subst hv1 hv4 hv3
    refine .inr ⟨g, o, cap, cur.setIfInBounds (o + i) u, rfl, hb, by simp [World.setCell, Array.getElem?_modify, hg], hnc, hm, by simpa using hs, ?_⟩
    rw [← ht]
    apply List.ext_getElem?
    intro j
    simp only [Array.toList_setIfInBounds, List.getElem?_take, List.getElem?_drop, List.getElem?_set, List.length_take, List.length_drop, List.length_set, Array.length_toList]
    by_cases hj : j < n * 1
    · by_cases e : i = j
      · subst e
        rw [if_pos hj, if_pos rfl, if_pos (by omega), if_pos rfl, if_pos (by omega)]
      · rw [if_pos hj, if_neg (by omega), if_neg e, if_pos hj]
    · by_cases e : i = j
      · omega
      · rw [if_neg hj, if_neg e, if_neg hj]
/-- A fresh row as a slice. -/
theorem Sl.of_blk {g : Nat} {arr : Array Value} (h : Blk w g e arr) (hb : base ≤ g) (hm : arr.size ≤ maxLen) : Sl w base e 1 (.slice (some ⟨g, 0, none⟩) arr.size arr.size) arr.size arr.toList :=
  ⟨by simp, .inr ⟨g, 0, arr.size, arr, rfl, hb, h, Nat.le_refl _, hm, by omega, by simp [List.take_of_length_le]⟩⟩
theorem setCells_block {e : TypeId} (b : Nat) : ∀ (vs : List Value) (o : Nat) (w : World) (cur : Array Value), w.heap[b]? = some (.cells cur e (0, 0)) → o + vs.length ≤ cur.size →
    ∃ cur', (w.setCells b o vs).heap[b]? = some (.cells cur' e (0, 0)) ∧ cur'.toList = cur.toList.take o ++ vs ++ cur.toList.drop (o + vs.length)
  | [], o, w, cur, h, _ => ⟨cur, h, by simp⟩
  | v :: r, o, w, cur, h, hl => by
    simp only [List.length_cons] at hl
    have hs : (w.setCell ⟨b, o, none⟩ v).heap[b]? = some (.cells (cur.setIfInBounds o v) e (0, 0)) := by simp [World.setCell, Array.getElem?_modify, h]
    obtain ⟨cur', h1, h2⟩ := setCells_block b r (o + 1) _ _ hs (by simp; omega)
    refine ⟨cur', h1, ?_⟩
    rw [h2]
    have e := list_seg_step cur.toList o v r (by simp; omega)
    simpa [Array.toList_setIfInBounds, Nat.add_assoc] using e
theorem setCells_keeps (b : Nat) : ∀ (vs : List Value) (o : Nat) (w : World), w.grownBy (w.setCells b o vs) (some b)
  | [], o, w => ⟨rfl, rfl, rfl, Nat.le_refl _, fun _ _ _ => rfl⟩
  | v :: r, o, w => by
    have h1 : w.grownBy (w.setCell ⟨b, o, none⟩ v) (some b) := ⟨rfl, rfl, rfl, by simp [World.setCell], fun k hk hn => Below.heap_setCell w _ v k (fun e => hn (by rw [e]))⟩
    exact h1.trans (setCells_keeps b r (o + 1) _)
end
section
variable {P : Program} (w : World)
/-- 'append(s, news...)' where s is a slice of the call's own. -/
theorem run_append_sl (base : Nat) (t ty e : TypeId) (i : TypeInfo) (z : Value) (size bytes : Nat) (ht : P.underlying t = some (.slice e)) (hi : P.info? e = some i) (hz : i.zero = some z)
    (hsize : i.size = size) (hby : i.bytes = bytes) (hzs : z.cells.size = size) (hsz : 0 < size)
    (v : Value) (n : Nat) (cs : List Value) (hown : Sl w base e size v n cs)
    (a : Addr) (m c : Nat) (news : List Value) (hm : 0 < m) (hl : news.length = m * size) (hnews : ∀ j u, news[j]? = some u → w.cell? (a.add j) = some u) (h1 : ∀ u ∈ news, u.oneCell' = true)
    (h63 : n + m ≤ maxLen) (hbytes : (n + m) * bytes ≤ 140737488355328) (hbase : base ≤ w.heap.size) :
    ∃ v' w', (Builtin.append_ #[t, t] ty #[v, .slice (some a) m c]).run P w = .ok v' w' ∧ Sl w' base e size v' (n + m) (cs ++ news) ∧ w.grownBy w' v.ownBlock ∧ (v'.ownBlock = v.ownBlock ∨ ∃ g, v'.ownBlock = some g ∧ w.heap.size ≤ g) := by
  rcases hown.2 with ⟨rfl, rfl⟩ | ⟨g, o, cap, cur, rfl, hb, hg, hnc, hmx, hs, htk⟩
  · have hcs : cs = [] := List.eq_nil_of_length_eq_zero (by simpa using hown.1)
    subst hcs
    obtain ⟨v', w', r1, r2, r3, _, r5⟩ := run_append_own_at (P := P) w base t ty e i z size bytes ht hi hz hsize hby hzs hsz _ 0 [] (World.ownsRow_nil w base e size) a m c news hl hnews h1 h63 hbytes hbase
    exact ⟨v', w', r1, .of_owns r2, r3, r5.imp id fun h => ⟨_, h, Nat.le_refl _⟩⟩
  · have hcl : cs.length = n * size := hown.1
    have hmul : (n + m) * size = n * size + m * size := Nat.add_mul _ _ _
    have hread : ∀ j u, cs[j]? = some u → w.cell? ((⟨g, o, none⟩ : Addr).add j) = some u := by
      intro j u hj
      have hjl : j < n * size := by rw [← hcl]; exact (List.getElem?_eq_some_iff.1 hj).1
      rw [Addr.add_lit]
      rw [← htk, List.getElem?_take_of_lt hjl, List.getElem?_drop] at hj
      simp only [World.cell?, hg]
      simpa using hj
    by_cases hroom : n + m ≤ cap
    · have hle : (n + m) * size ≤ cap * size := Nat.mul_le_mul_right _ hroom
      subst hsize
      have hin : ∀ j, j < news.length → o + n * i.size + j < cur.size := fun j hj => by omega
      have hrun := run_append_room_cells (P := P) w t ty e i ht hi g o n cap a m c news hl hnews h1 hroom
        (fun j hj => by simp [World.cell?, hg, hin j hj]) (fun j hj => by simp [World.frozen?, hg])
      obtain ⟨cur', h2, h3⟩ := setCells_block g news (o + n * i.size) w cur hg (by omega)
      refine ⟨_, _, hrun, ⟨by rw [List.length_append, hcl, hl, hmul], .inr ⟨g, o, cap, cur', rfl, hb, h2, hroom, hmx, ?_, ?_⟩⟩, setCells_keeps g _ _ _, .inl rfl⟩
      · have : cur'.size = cur.size := by
          have := congrArg List.length h3
          simp only [Array.length_toList, List.length_append, List.length_take, List.length_drop] at this
          omega
        omega
      · rw [h3, List.append_assoc, List.drop_append_of_le_length (by simp; omega), List.drop_take, Nat.add_sub_cancel_left, htk, ← List.append_assoc]
        exact List.take_left' (by rw [List.length_append, hcl, hl, hmul])
    · obtain ⟨v', w', r1, r2, r3⟩ := run_append_arg_grows (P := P) w t ty e i z size bytes ht hi hz hsize hby hzs hsz ⟨g, o, none⟩ n cap cs hcl hread a m c news hl hnews (by omega) h63 hbytes
      refine ⟨v', w', r1, (Sl.of_owns r2).mono hbase, ⟨r3.os, r3.tape, r3.output, r3.size, fun k hk _ => r3.block k hk (by simp)⟩, .inr ?_⟩
      rcases r2.2 with ⟨_, h0⟩ | ⟨g', cap', cur', rfl, hb', hg', _⟩
      · omega
      · exact ⟨g', rfl, hb'⟩
theorem wp_append_sl {o : Oper} {a : Act} {K : Act → World → Prop} {Q : Exit → Act → World → Prop} (s x : Operand) (t : TypeId)
    (ho : o.op = .call { callee := .builtin .append, args := #[s, x], argTypes := #[t, t] })
    (base : Nat) (e : TypeId) (i : TypeInfo) (z : Value) (size bytes : Nat) (ht : P.underlying t = some (.slice e)) (hi : P.info? e = some i) (hz : i.zero = some z)
    (hsize : i.size = size) (hby : i.bytes = bytes) (hzs : z.cells.size = size) (hsz : 0 < size)
    (v : Value) (n : Nat) (cs : List Value) (hs : a.eval s = v) (hown : Sl w base e size v n cs)
    (ad : Addr) (m c : Nat) (news : List Value) (hx : a.eval x = .slice (some ad) m c) (hm : 0 < m) (hl : news.length = m * size) (hnews : ∀ j u, news[j]? = some u → w.cell? (ad.add j) = some u) (h1 : ∀ u ∈ news, u.oneCell' = true)
    (h63 : n + m ≤ maxLen) (hbytes : (n + m) * bytes ≤ 140737488355328) (hbase : base ≤ w.heap.size)
    (h : ∀ v' w', Sl w' base e size v' (n + m) (cs ++ news) → w.grownBy w' v.ownBlock → (v'.ownBlock = v.ownBlock ∨ ∃ g, v'.ownBlock = some g ∧ w.heap.size ≤ g) → K (a.put o.dst v') w') : o.wp P a w K Q := by
  obtain ⟨v', w', hr, h2, h3, h4⟩ := run_append_sl (P := P) w base t o.type e i z size bytes ht hi hz hsize hby hzs hsz v n cs hown ad m c news hm hl hnews h1 h63 hbytes hbase
  unfold Oper.wp execOp
  simp only [ho, resolve, invoke, builtin, Sem.run_bind, Sem.run_pure, Result.andThen_ok, List.map_toArray, List.map_cons, List.map_nil, hs, hx, hr]
  exact h v' w' h2 h3 h4
theorem wpList_append_sl {ops : Array Oper} {rest : List Oper} {o : Oper} {a : Act} {Q : Exit → Act → World → Prop} (hgd : o.guard = none) (s x : Operand) (t : TypeId)
    (ho : o.op = .call { callee := .builtin .append, args := #[s, x], argTypes := #[t, t] })
    (base : Nat) (e : TypeId) (i : TypeInfo) (z : Value) (size bytes : Nat) (ht : P.underlying t = some (.slice e)) (hi : P.info? e = some i) (hz : i.zero = some z)
    (hsize : i.size = size) (hby : i.bytes = bytes) (hzs : z.cells.size = size) (hsz : 0 < size)
    (v : Value) (n : Nat) (cs : List Value) (hs : a.eval s = v) (hown : Sl w base e size v n cs)
    (ad : Addr) (m c : Nat) (news : List Value) (hx : a.eval x = .slice (some ad) m c) (hm : 0 < m) (hl : news.length = m * size) (hnews : ∀ j u, news[j]? = some u → w.cell? (ad.add j) = some u) (h1 : ∀ u ∈ news, u.oneCell' = true)
    (h63 : n + m ≤ maxLen) (hbytes : (n + m) * bytes ≤ 140737488355328) (hbase : base ≤ w.heap.size)
    (h : ∀ v' w', Sl w' base e size v' (n + m) (cs ++ news) → w.grownBy w' v.ownBlock → (v'.ownBlock = v.ownBlock ∨ ∃ g, v'.ownBlock = some g ∧ w.heap.size ≤ g) → wpList P ops Q rest (a.put o.dst v') w') : wpList P ops Q (o :: rest) a w :=
  wpList_plain hgd fun _ hK => wp_append_sl w s x t ho base e i z size bytes ht hi hz hsize hby hzs hsz v n cs hs hown ad m c news hx hm hl hnews h1 h63 hbytes hbase fun v' w' h2 h3 h4 => hK _ _ (h v' w' h2 h3 h4)
end
end Go.Proofs.Yteakbhfegbghoaa.Kit
