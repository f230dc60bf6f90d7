/- copy into a block that is known whole, whatever the elements' size; a copy handed to the walk by its run. Plain laws over any program. -/
import Derived.Test.YteakbhfegbghoaaKit
import Derived.Test.YteakbhfegbghoaaSl
import Derived.Test.YteakbhfegbghoaaSlMore
import Derived.Laws.IdiomCopy
import Derived.Lib.AppendZeros
import Derived.Lib.AppendZerosOnto
namespace Go.Proofs.Yteakbhfegbghoaa.Kit
open Go Go.RowKit
set_option linter.unusedSimpArgs false
set_option linter.unusedVariables false
section
variable {P : Program}
theorem run_copy_k (w : World) (dT sT ty elem te : TypeId) (i : TypeInfo) (g o dLen dCap : Nat) (a : Addr) (sLen sCap : Nat) (cs : List Value) (cur : Array Value)
    (hu : P.underlying dT = some (.slice elem)) (hi : P.info? elem = some i) (hn : cs.length = Nat.min sLen dLen * i.size)
    (hsrc : ∀ j v, cs[j]? = some v → w.cell? (a.add j) = some v) (hB : Blk w g te cur) (hfit : o + cs.length ≤ cur.size) (h1 : ∀ v ∈ cs, v.oneCell' = true) :
    (Builtin.copy_ #[dT, sT] ty #[.slice (some ⟨g, o, none⟩) dLen dCap, .slice (some a) sLen sCap]).run P w = .ok (goInt (Nat.min sLen dLen)) (w.setCells g o cs) := by
  have hl := run_loadCells_list (P := P) w a cs hsrc
  have hst := run_storeCells_cells (P := P) g o cs 0 w (fun j hj => by rw [hB.cell]; simp; omega) (fun j hj => hB.frozen _) h1
  simp [Builtin.copy_, run_underlying hu, Builtin.lenOf, Builtin.firstCells, sizeOf, typeInfo, hi, ← hn, hl, hst]
theorem wp_copy_run (w : World) {o : Oper} {a : Act} {K : Act → World → Prop} {Q : Exit → Act → World → Prop} (d s : Operand) (t t' : TypeId)
    (ho : o.op = .call { callee := .builtin .copy, args := #[d, s], argTypes := #[t, t'] }) (v u : Value) (hd : a.eval d = v) (hs : a.eval s = u) {v' : Value} {w' : World}
    (hr : (Builtin.copy_ #[t, t'] o.type #[v, u]).run P w = .ok v' w') (h : K (a.put o.dst v') w') : o.wp P a w K Q := by
  unfold Oper.wp execOp
  simp only [ho, resolve, invoke, builtin, Sem.run_bind, Sem.run_pure, Result.andThen_ok, List.map_toArray, List.map_cons, List.map_nil, hd, hs, hr]
  exact h
theorem wpList_copy_run (w : World) {ops : Array Oper} {rest : List Oper} {o : Oper} {a : Act} {Q : Exit → Act → World → Prop} (hgd : o.guard = none) (d s : Operand) (t t' : TypeId)
    (ho : o.op = .call { callee := .builtin .copy, args := #[d, s], argTypes := #[t, t'] }) (v u : Value) (hd : a.eval d = v) (hs : a.eval s = u) {v' : Value} {w' : World}
    (hr : (Builtin.copy_ #[t, t'] o.type #[v, u]).run P w = .ok v' w') (h : wpList P ops Q rest (a.put o.dst v') w') : wpList P ops Q (o :: rest) a w :=
  wpList_plain hgd fun _ hK => wp_copy_run w d s t t' ho v u hd hs hr (hK _ _ h)
theorem step_copy_run {ops : Array Oper} {o : Oper} {a : Act} {w : World} {K : Act → World → Prop} {Q : Exit → Act → World → Prop} {E : Prop}
    (hg : o.guard = none) (d x : Operand) (dT sT : TypeId) (hop : o.op = Op.call { callee := Callee.builtin Builtin.copy, args := #[d, x], argTypes := #[dT, sT] })
    (v u : Value) (hd : a.eval d = v) (hx : a.eval x = u) {v' : Value} {w' : World} (hr : (Builtin.copy_ #[dT, sT] o.type #[v, u]).run P w = .ok v' w') (hK : K (a.put o.dst v') w') :
    if Region.wanted o (yielded ops a.tmps) = true then Oper.wp P o a w K Q else E := by
  have hw : Region.wanted o (yielded ops a.tmps) = true := by simp [Region.wanted, hg]
  rw [if_pos hw]
  exact wp_copy_run w d x dT sT hop v u hd hx hr hK
end
section
variable {w w' : World} {base : Nat} {e : TypeId} {size : Nat} {v : Value} {n : Nat} {cs : List Value}
/-- Two stores in place: what stood from place i on goes one element up, and the new one stands there. -/
theorem Sl.insIn {g o cap i : Nat} {news : List Value} (h : Sl w base e size (.slice (some ⟨g, o, none⟩) n cap) n cs) (hi : i ≤ n) (hroom : n + 1 ≤ cap) (hnl : news.length = size) :
    ∃ cur cur1, Blk w g e cur ∧ o + (i + 1) * size + (cs.drop (i * size)).length ≤ cur.size ∧ Blk (w.setCells g (o + (i + 1) * size) (cs.drop (i * size))) g e cur1 ∧ o + i * size + news.length ≤ cur1.size ∧
      Sl ((w.setCells g (o + (i + 1) * size) (cs.drop (i * size))).setCells g (o + i * size) news) base e size (.slice (some ⟨g, o, none⟩) (n + 1) cap) (n + 1) (cs.take (i * size) ++ news ++ cs.drop (i * size)) := by
  have hcl := h.1
  rcases h.2 with ⟨e, _⟩ | ⟨g', o', cap', cur, hv, hb, hg, hnc, hm, hs, ht⟩
  · cases e
  · injection hv with hv1 hv2 hv3
    injection hv1 with hv1
    injection hv1 with hv1 hv4
    subst hv1 hv4 hv3
    have m1 : (n + 1) * size ≤ cap * size := Nat.mul_le_mul_right _ hroom
    have m2 : i * size ≤ n * size := Nat.mul_le_mul_right _ hi
    have m3 : (n + 1) * size = n * size + size := by rw [Nat.add_mul, Nat.one_mul]
    have m4 : (i + 1) * size = i * size + size := by rw [Nat.add_mul, Nat.one_mul]
    have hdl : (cs.drop (i * size)).length = n * size - i * size := by rw [List.length_drop, hcl]
    have hf1 : o + (i + 1) * size + (cs.drop (i * size)).length ≤ cur.size := by omega
    obtain ⟨cur1, h1, l1⟩ := setCells_block g (cs.drop (i * size)) (o + (i + 1) * size) w cur hg hf1
    have hs1 : cur1.size = cur.size := by
      have := congrArg List.length l1
      simp only [Array.length_toList, List.length_append, List.length_take, List.length_drop] at this
      omega
    have hf2 : o + i * size + news.length ≤ cur1.size := by omega
    obtain ⟨cur2, h2, l2⟩ := setCells_block g news (o + i * size) _ cur1 h1 hf2
    have hs2 : cur2.size = cur1.size := by
      have := congrArg List.length l2
      simp only [Array.length_toList, List.length_append, List.length_take, List.length_drop] at this
      omega
    refine ⟨cur, cur1, hg, hf1, h1, hf2, by simp only [List.length_append, List.length_take, hcl, hnl, hdl]; omega, .inr ⟨g, o, cap, cur2, rfl, hb, h2, hroom, hm, by omega, ?_⟩⟩
    -- the row as parts
    obtain ⟨Pp, hPp⟩ : ∃ Pp, Pp = cur.toList.take o := ⟨_, rfl⟩
    obtain ⟨T, hT⟩ : ∃ T, T = cur.toList.drop (o + n * size) := ⟨_, rfl⟩
    have hcur : cur.toList = Pp ++ (cs ++ T) := by
      rw [hPp, hT, ← ht, ← List.drop_drop, List.take_append_drop, List.take_append_drop]
    have hPl : Pp.length = o := by rw [hPp, List.length_take, Array.length_toList]; omega
    have hTl : size ≤ T.length := by rw [hT, List.length_drop, Array.length_toList]; omega
    obtain ⟨A, hA⟩ : ∃ A, A = cs.take (i * size) := ⟨_, rfl⟩
    obtain ⟨D, hD⟩ : ∃ D, D = cs.drop (i * size) := ⟨_, rfl⟩
    have hAl : A.length = i * size := by rw [hA, List.length_take, hcl]; omega
    have hDl : D.length = n * size - i * size := by rw [hD]; exact hdl
    have hcs : cs = A ++ D := by rw [hA, hD, List.take_append_drop]
    rw [← hD] at l1
    rw [← hA, ← hD]
    rw [hcs] at hcur
    rw [l2, l1, hcur]
    have x1 : (Pp ++ (A ++ D ++ T)).take (o + (i + 1) * size) = Pp ++ (A ++ (D ++ T).take size) := by
      rw [m4, ← hPl, List.take_length_add_append, List.append_assoc, ← hAl, List.take_length_add_append]
    have x2 : (Pp ++ (A ++ D ++ T)).drop (o + (i + 1) * size + D.length) = T.drop size := by
      rw [m4, show o + (i * size + size) + D.length = o + (i * size + (D.length + size)) by omega, ← hPl, List.drop_length_add_append, List.append_assoc, ← hAl, List.drop_length_add_append, List.drop_length_add_append]
    rw [x1, x2]
    have hzl : ((D ++ T).take size).length = size := by rw [List.length_take, List.length_append]; omega
    have x3 : (Pp ++ (A ++ (D ++ T).take size) ++ D ++ T.drop size).take (o + i * size) = Pp ++ A := by
      rw [List.append_assoc, List.append_assoc, ← hPl, List.take_length_add_append, List.append_assoc, ← hAl]
      simp
    have x4 : (Pp ++ (A ++ (D ++ T).take size) ++ D ++ T.drop size).drop (o + i * size + news.length) = D ++ T.drop size := by
      rw [hnl, show o + i * size + size = o + (i * size + size) by omega, List.append_assoc, List.append_assoc, ← hPl, List.drop_length_add_append, List.append_assoc, ← hAl, List.drop_length_add_append, List.drop_left' hzl]
    rw [x3, x4]
    have x5 : (Pp ++ A ++ news ++ (D ++ T.drop size)) = Pp ++ (A ++ news ++ D ++ T.drop size) := by simp [List.append_assoc]
    rw [x5, ← hPl, List.drop_left]
    exact List.take_left' (by simp only [List.length_append]; omega)
/-- A new row: what stands ahead of place i, the new one, what stood from i on. -/
theorem Sl.insNew {g m i : Nat} {A D news zs : List Value} {cur : Array Value} (hg : Blk w g e cur) (hcur : cur.toList = A ++ zs) (hAl : A.length = i * size) (hDl : D.length = n * size - i * size) (hi : i ≤ n) (hnl : news.length = size)
    (hm : n + 1 ≤ m) (hmx : m ≤ maxLen) (hsz : cur.size = m * size) (hb : base ≤ g) :
    i * size + news.length ≤ cur.size ∧ ∃ cur1, Blk (w.setCells g (i * size) news) g e cur1 ∧ (i + 1) * size + D.length ≤ cur1.size ∧
      ∀ W, Blk W g e cur1 → Sl (W.setCells g ((i + 1) * size) D) base e size (.slice (some ⟨g, 0, none⟩) (n + 1) m) (n + 1) (A ++ news ++ D) := by
  have m1 : (n + 1) * size ≤ m * size := Nat.mul_le_mul_right _ hm
  have m2 : i * size ≤ n * size := Nat.mul_le_mul_right _ hi
  have m3 : (n + 1) * size = n * size + size := by rw [Nat.add_mul, Nat.one_mul]
  have m4 : (i + 1) * size = i * size + size := by rw [Nat.add_mul, Nat.one_mul]
  have hf1 : i * size + news.length ≤ cur.size := by omega
  obtain ⟨cur1, h1, l1⟩ := setCells_block g news (i * size) w cur hg hf1
  have hs1 : cur1.size = cur.size := by
    have := congrArg List.length l1
    simp only [Array.length_toList, List.length_append, List.length_take, List.length_drop] at this
    omega
  have hf2 : (i + 1) * size + D.length ≤ cur1.size := by omega
  refine ⟨hf1, cur1, h1, hf2, fun W hW => ?_⟩
  obtain ⟨cur2, h2, l2⟩ := setCells_block g D ((i + 1) * size) W cur1 hW hf2
  have hs2 : cur2.size = cur1.size := by
    have := congrArg List.length l2
    simp only [Array.length_toList, List.length_append, List.length_take, List.length_drop] at this
    omega
  refine ⟨by simp only [List.length_append]; omega, .inr ⟨g, 0, m, cur2, rfl, hb, h2, hm, hmx, by omega, ?_⟩⟩
  have x1 : (A ++ zs).take (i * size) = A := by rw [← hAl, List.take_left]
  rw [hcur, x1] at l1
  have x2 : cur1.toList.take ((i + 1) * size) = A ++ news := by
    rw [l1, List.take_left' (by simp only [List.length_append]; omega)]
  rw [l2, x2, List.drop_zero]
  exact List.take_left' (by simp only [List.length_append]; omega)
/-- What stands from a place on is overwritten. -/
theorem Sl.setTail {g o cap m : Nat} {A B zs : List Value} (h : Sl w base e size (.slice (some ⟨g, o, none⟩) n cap) n (A ++ B)) (hA : A.length = m * size) (hB : zs.length = B.length) :
    ∃ cur, Blk w g e cur ∧ o + m * size + zs.length ≤ cur.size ∧ Sl (w.setCells g (o + m * size) zs) base e size (.slice (some ⟨g, o, none⟩) n cap) n (A ++ zs) := by
  have hcl := h.1
  rcases h.2 with ⟨e, _⟩ | ⟨g', o', cap', cur, hv, hb, hg, hnc, hm, hs, ht⟩
  · cases e
  · injection hv with hv1 hv2 hv3
    injection hv1 with hv1
    injection hv1 with hv1 hv4
    subst hv1 hv4 hv3
    have m1 : n * size ≤ cap * size := Nat.mul_le_mul_right _ hnc
    rw [List.length_append, hA] at hcl
    have hf : o + m * size + zs.length ≤ cur.size := by omega
    obtain ⟨cur', h1, l1⟩ := setCells_block g zs (o + m * size) w cur hg hf
    have hs1 : cur'.size = cur.size := by
      have := congrArg List.length l1
      simp only [Array.length_toList, List.length_append, List.length_take, List.length_drop] at this
      omega
    refine ⟨cur, hg, hf, by rw [List.length_append, hA, hB]; exact hcl, .inr ⟨g, o, cap, cur', rfl, hb, h1, hnc, hm, by omega, ?_⟩⟩
    obtain ⟨Pp, hPp⟩ : ∃ Pp, Pp = cur.toList.take o := ⟨_, rfl⟩
    obtain ⟨T, hT⟩ : ∃ T, T = cur.toList.drop (o + n * size) := ⟨_, rfl⟩
    have hcur : cur.toList = Pp ++ (A ++ B ++ T) := by
      rw [hPp, hT, ← ht, ← List.drop_drop, List.take_append_drop, List.take_append_drop]
    have hPl : Pp.length = o := by rw [hPp, List.length_take, Array.length_toList]; omega
    rw [l1, hcur]
    have x1 : (Pp ++ (A ++ B ++ T)).take (o + m * size) = Pp ++ A := by
      rw [← hPl, List.take_length_add_append, List.append_assoc, ← hA, List.take_left]
    have x2 : (Pp ++ (A ++ B ++ T)).drop (o + m * size + zs.length) = T := by
      rw [hB, show o + m * size + B.length = o + (m * size + B.length) by omega, ← hPl, List.drop_length_add_append, ← hA, ← List.length_append, List.drop_left]
    rw [x1, x2, show Pp ++ A ++ zs ++ T = Pp ++ (A ++ zs ++ T) by simp [List.append_assoc], ← hPl, List.drop_left]
    exact List.take_left' (by rw [List.length_append, hA, hB]; exact hcl)
end
section
variable {P : Program}
theorem run_clear_k (w : World) (t ty e te : TypeId) (i : TypeInfo) (z : Value) (ht : P.underlying t = some (.slice e)) (hi : P.info? e = some i) (hz : i.zero = some z) (g o n c : Nat) (hn : 0 < n) (zs : List Value) (hzs : (Builtin.zeroCells z.cells n).toList = zs)
    (cur : Array Value) (hB : Blk w g te cur) (hfit : o + zs.length ≤ cur.size) (h1 : ∀ v ∈ zs, v.oneCell' = true) :
    (Builtin.clear_ #[t] ty #[.slice (some ⟨g, o, none⟩) n c]).run P w = .ok (.tuple #[]) (w.setCells g o zs) := by
  have hst := run_storeCells_cells (P := P) g o zs 0 w (fun j hj => by rw [hB.cell]; simp; omega) (fun j hj => hB.frozen _) h1
  obtain ⟨m, rfl⟩ : ∃ m, n = m + 1 := ⟨n - 1, by omega⟩
  simp [Builtin.clear_, run_underlying ht, zeroValue, typeInfo, hi, hz, hzs, hst]
theorem zeroCells_one {z : Array Value} (hz : ∀ i, i < z.size → (z[i]!).oneCell' = true) (n : Nat) : ∀ v ∈ (Builtin.zeroCells z n).toList, v.oneCell' = true := by
  intro v hv
  simp only [Builtin.zeroCells, Array.toList_map, List.mem_map] at hv
  obtain ⟨i, hi, rfl⟩ := hv
  refine hz _ (Nat.mod_lt _ ?_)
  rcases Nat.eq_zero_or_pos z.size with h | h
  · rw [h, Nat.mul_zero] at hi
    simp at hi
  · exact h
theorem wp_clear_run (w : World) {o : Oper} {a : Act} {K : Act → World → Prop} {Q : Exit → Act → World → Prop} (x : Operand) (t : TypeId)
    (ho : o.op = .call { callee := .builtin .clear, args := #[x], argTypes := #[t] }) (v : Value) (hx : a.eval x = v) {v' : Value} {w' : World}
    (hr : (Builtin.clear_ #[t] o.type #[v]).run P w = .ok v' w') (h : K (a.put o.dst v') w') : o.wp P a w K Q := by
  unfold Oper.wp execOp
  simp only [ho, resolve, invoke, builtin, Sem.run_bind, Sem.run_pure, Result.andThen_ok, List.map_toArray, List.map_cons, List.map_nil, hx, hr]
  exact h
theorem wpList_clear_run (w : World) {ops : Array Oper} {rest : List Oper} {o : Oper} {a : Act} {Q : Exit → Act → World → Prop} (hgd : o.guard = none) (x : Operand) (t : TypeId)
    (ho : o.op = .call { callee := .builtin .clear, args := #[x], argTypes := #[t] }) (v : Value) (hx : a.eval x = v) {v' : Value} {w' : World}
    (hr : (Builtin.clear_ #[t] o.type #[v]).run P w = .ok v' w') (h : wpList P ops Q rest (a.put o.dst v') w') : wpList P ops Q (o :: rest) a w :=
  wpList_plain hgd fun _ hK => wp_clear_run w x t ho v hx hr (hK _ _ h)
end
end Go.Proofs.Yteakbhfegbghoaa.Kit
