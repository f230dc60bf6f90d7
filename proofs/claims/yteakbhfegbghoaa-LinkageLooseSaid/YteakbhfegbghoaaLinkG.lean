/- Package linkage: the contracts over sections. -/
import Derived.Test.YteakbhfegbghoaaLinkP
namespace Go.Proofs.Yteakbhfegbghoaa.Link
open Go Go.RowKit Go.ChangeMaps Go.Proofs.Yteakbhfegbghoaa.Kit Go.Proofs.Yteakbhfegbghoaa.Area Go.Proofs.Yteakbhfegbghoaa.Wd
open Go.Proofs.Yteakbhfegbghoaa.Obj (Ob ObAt Lens)
open Go.Proofs.Yteakbhfegbghoaa.Point (pt packN mayB)
set_option linter.unusedSimpArgs false
set_option linter.unusedVariables false
/-- The sections Q, come up since w0; beside them the blocks of T. -/
def Lk (w0 w : World) (X b : Nat) (Q : List Sc) (T : Nat → Prop) : Prop := ∃ A ms, LkO w0 w X b A ms (Q.map Sc.sec) T ∧ Rel ms Q
section
variable {w0 w w' : World} {X b : Nat} {Q : List Sc} {T : Nat → Prop} {q : Sc}
theorem Lk.new_ (h : Lk w0 w X b Q T) (hn : New w w') : Lk w0 w' X b Q T := by obtain ⟨A, ms, h1, h2⟩ := h; exact ⟨A, ms, h1.new_ hn, h2⟩
theorem Lk.new (h : Lk w0 w X b Q T) : New w0 w := by obtain ⟨A, ms, h1, h2⟩ := h; exact h1.new
theorem Lk.ltT (h : Lk w0 w X b Q T) {k : Nat} (hk : T k) : k < w.heap.size := by obtain ⟨A, ms, h1, h2⟩ := h; exact h1.ltT hk
theorem Lk.less {T' : Nat → Prop} (h : Lk w0 w X b Q T) (hT : ∀ k, T' k → T k) : Lk w0 w X b Q T' := by obtain ⟨A, ms, h1, h2⟩ := h; exact ⟨A, ms, h1.less hT, h2⟩
theorem Lk.kept {T' : Nat → Prop} (h : Lk w0 w X b Q T) (hk : Keeps T w w') (hT : ∀ k, T' k → (T k ∨ w.heap.size ≤ k) ∧ k < w'.heap.size) : Lk w0 w' X b Q T' := by obtain ⟨A, ms, h1, h2⟩ := h; exact ⟨A, ms, h1.kept hk hT, h2⟩
theorem Lk.box (h : Lk w0 w X b Q T) (o : Obj) : Lk w0 (w.alloc o) X b Q (fun k => T k ∨ k = w.heap.size) := by obtain ⟨A, ms, h1, h2⟩ := h; exact ⟨A, ms, h1.box o, h2⟩
theorem Lk.nodup (h : Lk w0 w X b Q T) : (Q.map Sc.key).Nodup := by
  obtain ⟨A, ms, h1, h2⟩ := h
  have := h1.map.nodup
  rw [List.map_map] at this
  exact this
theorem Lk.ok (h : Lk w0 w X b Q T) (hq : q ∈ Q) : okS q := by obtain ⟨A, ms, h1, h2⟩ := h; exact h2.2 q hq
theorem Lk.mapB (h : Lk w0 w X b Q T) : b < w.heap.size := by obtain ⟨A, ms, h1, h2⟩ := h; exact MapIs.lt h1.map
theorem get_mem (hn : (Q.map Sc.key).Nodup) (hq : q ∈ Q) : get? (Q.map Sc.sec) ((q.ring : Int), (q.seg : Int)) = some (q.base, q.st.length, q.ls.length) := by
  rw [get_sec]
  show (findS Q q.key).map _ = _
  rw [find_of_mem hn hq]; rfl
theorem get_not {x : Key} (h : findS Q x = none) : get? (Q.map Sc.sec) x = none := by rw [get_sec, h]; rfl
theorem LkO.goods {A : Nat → Nat} {ms : Nat → Ms} {M : List (Key × Sec)} (h : LkO w0 w X b A ms M T) : ∀ r, r < 8 → Area.Good 256 (ms r) := fun r hr => h.good hr
theorem newQ (w : World) : Calls Try.prog 9 #[] w fun e w' => e = .returned (ptr (w.heap.size + 1)) ∧ Lk w w' (w.heap.size + 1) w.heap.size [] (fun _ => False) :=
  (newK w).mono fun e w' h => by
    obtain ⟨h1, A, h2⟩ := h
    exact ⟨h1, A, _, h2, fun r hr => List.Perm.refl _, fun q hq => by cases hq⟩
theorem hasQ (h : Lk w0 w X b Q T) (r s : Int) (hk : okK (r, s)) (g : Bool) (hg : (findS Q (r, s)).isSome = g) : Calls Try.prog 29 #[ptr X, .int .i64 r, .int .i64 s] w fun e w' => e = .returned (.bool g) ∧ New w w' := by
  obtain ⟨A, ms, h1, h2⟩ := h
  have := hasM_any h1 r s hk
  rw [get_sec, Option.isSome_map, hg] at this
  exact this
theorem usedQ (h : Lk w0 w X b Q T) {r n : Nat} (hr : r < 8) (hn : ((ofR Q r).map Sc.size).sum = n) : Calls Try.prog 12 #[ptr X, .int .i64 (r : Int)] w fun e w' => e = .returned (.int .i64 (n : Int)) ∧ New w w' := by
  obtain ⟨A, ms, h1, h2⟩ := h
  have := usedM_any h1 hr
  rw [h2.used hr, hn] at this
  exact this
theorem LinkQ_none (h : Lk w0 w X b Q T) (r s i : Int) (hk : okK (r, s)) (hf : findS Q (r, s) = none) : Calls Try.prog 14 #[ptr X, .int .i64 r, .int .i64 s, .int .i64 i] w fun e w' => e = .returned (.tuple #[pt 0 0 0 0, .int .i64 4]) ∧ New w w' := by
  obtain ⟨A, ms, h1, h2⟩ := h
  exact Link_err r s i 4 (by decide) (fun W hW => link_none (h1.new_ hW) r s i hk (get_not hf))
theorem LinkQ_bad (h : Lk w0 w X b Q T) (hq : q ∈ Q) (i : Int) (hi : i < 0 ∨ (q.ls.length : Int) ≤ i) : Calls Try.prog 14 #[ptr X, .int .i64 (q.ring : Int), .int .i64 (q.seg : Int), .int .i64 i] w fun e w' => e = .returned (.tuple #[pt 0 0 0 0, .int .i64 8]) ∧ New w w' := by
  have hn := h.nodup
  have hk := (h.ok hq).key
  obtain ⟨A, ms, h1, h2⟩ := h
  exact Link_err _ _ i 8 (by decide) (fun W hW => link_bad (h1.new_ hW) _ _ i hk (get_mem hn hq) hi)
theorem LinkQ_ok (h : Lk w0 w X b Q T) (hq : q ∈ Q) {n : Nat} {p : P4} (hp : q.ls[n]? = some p) : Calls Try.prog 14 #[ptr X, .int .i64 (q.ring : Int), .int .i64 (q.seg : Int), .int .i64 (n : Int)] w fun e w' => e = .returned (.tuple #[pv p, .int .i64 0]) ∧ New w w' := by
  have hn := h.nodup
  have ho := h.ok hq
  obtain ⟨A, ms, h1, h2⟩ := h
  have hr := h2.read h1.goods hq (words_ls hp)
  have hpo := ho.ls p (List.mem_of_getElem? hp)
  have hl := (List.getElem?_eq_some_iff.1 hp).1
  have hlt := pack_lt hpo
  have := LinkM_ok h1 ho.ring (q.seg : Int) n _ (pw p) ho.key (get_mem hn hq) hl (by have := ho.stl; omega) (by have := ho.lsl; omega) rfl hr.1 hr.2 (by unfold pw; omega)
  obtain ⟨e1, e2, e3, e4⟩ := get_pack0 hpo
  unfold pw at this
  rw [e1, e2, e3, e4] at this
  exact this
theorem OwnQ_none (h : Lk w0 w X b Q T) (r s i : Int) (hk : okK (r, s)) (hf : findS Q (r, s) = none) : Calls Try.prog 17 #[ptr X, .int .i64 r, .int .i64 s, .int .i64 i] w fun e w' => e = .returned (.tuple #[.int .u64 0, .int .i64 4]) ∧ New w w' := by
  obtain ⟨A, ms, h1, h2⟩ := h
  exact Own_err r s i 4 (by decide) (fun W hW => own_none (h1.new_ hW) r s i hk (get_not hf))
theorem OwnQ_bad (h : Lk w0 w X b Q T) (hq : q ∈ Q) (i : Int) (hi : i < 0 ∨ (q.st.length : Int) ≤ i) : Calls Try.prog 17 #[ptr X, .int .i64 (q.ring : Int), .int .i64 (q.seg : Int), .int .i64 i] w fun e w' => e = .returned (.tuple #[.int .u64 0, .int .i64 8]) ∧ New w w' := by
  have hn := h.nodup
  have hk := (h.ok hq).key
  obtain ⟨A, ms, h1, h2⟩ := h
  exact Own_err _ _ i 8 (by decide) (fun W hW => own_bad (h1.new_ hW) _ _ i hk (get_mem hn hq) hi)
theorem OwnQ_ok (h : Lk w0 w X b Q T) (hq : q ∈ Q) {n x : Nat} (hx : q.st[n]? = some x) : Calls Try.prog 17 #[ptr X, .int .i64 (q.ring : Int), .int .i64 (q.seg : Int), .int .i64 (n : Int)] w fun e w' => e = .returned (.tuple #[.int .u64 (x : Int), .int .i64 0]) ∧ New w w' := by
  have hn := h.nodup
  have ho := h.ok hq
  obtain ⟨A, ms, h1, h2⟩ := h
  have hr := h2.read h1.goods hq (words_st hx)
  have hl := (List.getElem?_eq_some_iff.1 hx).1
  exact OwnM_ok h1 ho.ring (q.seg : Int) n _ x ho.key (get_mem hn hq) hl (by have := ho.stl; omega) (by have := ho.lsl; omega) rfl hr.1 hr.2
theorem SetOwnQ_none (h : Lk w0 w X b Q T) (r s i y : Int) (hk : okK (r, s)) (hf : findS Q (r, s) = none) : Calls Try.prog 16 #[ptr X, .int .i64 r, .int .i64 s, .int .i64 i, .int .u64 y] w fun e w' => e = .returned (.int .i64 4) ∧ New w w' := by
  obtain ⟨A, ms, h1, h2⟩ := h
  exact SetOwn_err r s i 4 y (by decide) (fun W hW => own_none (h1.new_ hW) r s i hk (get_not hf))
theorem SetOwnQ_bad (h : Lk w0 w X b Q T) (hq : q ∈ Q) (i y : Int) (hi : i < 0 ∨ (q.st.length : Int) ≤ i) : Calls Try.prog 16 #[ptr X, .int .i64 (q.ring : Int), .int .i64 (q.seg : Int), .int .i64 i, .int .u64 y] w fun e w' => e = .returned (.int .i64 8) ∧ New w w' := by
  have hn := h.nodup
  have hk := (h.ok hq).key
  obtain ⟨A, ms, h1, h2⟩ := h
  exact SetOwn_err _ _ i 8 y (by decide) (fun W hW => own_bad (h1.new_ hW) _ _ i hk (get_mem hn hq) hi)
theorem setS_keys {q' : Sc} (hk : q'.key = q.key) (hq : q ∈ Q) (hn : (Q.map Sc.key).Nodup) (h1 : q'.base = q.base) (h2 : q'.st.length = q.st.length) (h3 : q'.ls.length = q.ls.length) : (setS Q q').map Sc.sec = Q.map Sc.sec :=
  setS_sec hn hq (by unfold Sc.sec; rw [hk, h1, h2, h3])
theorem okS.setSt (h : okS q) {n x : Nat} (hx : x < 68719476736) : okS (setSt q n x) := by
  refine ⟨h.ring, h.seg0, h.seg1, fun y hy => ?_, h.ls, ?_, h.lsl⟩
  · rcases List.mem_or_eq_of_mem_set hy with hy | rfl
    · exact h.st y hy
    · exact hx
  · show (q.st.set n x).length ≤ 64
    rw [List.length_set]; exact h.stl
theorem okS.setLs (h : okS q) {n : Nat} {p : P4} (hx : okP p) : okS (setLs q n p) := by
  refine ⟨h.ring, h.seg0, h.seg1, h.st, fun y hy => ?_, h.stl, ?_⟩
  · rcases List.mem_or_eq_of_mem_set hy with hy | rfl
    · exact h.ls y hy
    · exact hx
  · show (q.ls.set n p).length ≤ 32
    rw [List.length_set]; exact h.lsl
theorem SetOwnQ_ok (h : Lk w0 w X b Q T) (hq : q ∈ Q) {n : Nat} (hl : n < q.st.length) {y : Int} (y0 : 0 ≤ y) (y1 : y < 18446744073709551616) {z : Nat} (hz : y % 68719476736 = (z : Int)) :
    Calls Try.prog 16 #[ptr X, .int .i64 (q.ring : Int), .int .i64 (q.seg : Int), .int .i64 (n : Int), .int .u64 y] w fun e w' => e = .returned (.int .i64 0) ∧ Lk w0 w' X b (setS Q (setSt q n z)) T ∧ Same (fun k => T k ∨ k = b) w w' := by
  have hn := h.nodup
  have ho := h.ok hq
  obtain ⟨A, ms, h1, h2⟩ := h
  have hr := h2.read h1.goods hq (words_st (List.getElem?_eq_getElem hl))
  have hzl : z < 68719476736 := by omega
  refine (SetOwnM_ok h1 ho.ring (q.seg : Int) y n _ ho.key (get_mem hn hq) hl (by have := ho.stl; omega) (by have := ho.lsl; omega) rfl hr.1).mono ?_
  rintro e w' ⟨rfl, h5, s5⟩
  have h6 := h5
  rw [← setS_keys (q := q) (q' := setSt q n z) rfl hq hn rfl (List.length_set ..) rfl] at h6
  refine ⟨rfl, ⟨A, _, h6, ?_⟩, s5⟩
  · have hw := words_setSt (q := q) (x := z) hl
    rw [show cutW y = (z : Int) by unfold cutW; rw [and_mask y0 y1]; exact hz]
    exact h2.write h1.goods hn hq (by rw [Sc.words_len]; unfold Sc.size; omega) rfl rfl hw (ho.setSt hzl)
theorem SnapQ_none (h : Lk w0 w X b Q T) (r s i a1 a2 a3 a4 : Int) (hk : okK (r, s)) (hf : findS Q (r, s) = none) : Calls Try.prog 13 #[ptr X, .int .i64 r, .int .i64 s, .int .i64 i, pt a1 a2 a3 a4] w fun e w' => e = .returned (.int .i64 4) ∧ New w w' := by
  obtain ⟨A, ms, h1, h2⟩ := h
  exact Snap_err r s i 4 a1 a2 a3 a4 (by decide) (fun W hW => link_none (h1.new_ hW) r s i hk (get_not hf))
theorem SnapQ_bad (h : Lk w0 w X b Q T) (hq : q ∈ Q) (i a1 a2 a3 a4 : Int) (hi : i < 0 ∨ (q.ls.length : Int) ≤ i) : Calls Try.prog 13 #[ptr X, .int .i64 (q.ring : Int), .int .i64 (q.seg : Int), .int .i64 i, pt a1 a2 a3 a4] w fun e w' => e = .returned (.int .i64 8) ∧ New w w' := by
  have hn := h.nodup
  have hk := (h.ok hq).key
  obtain ⟨A, ms, h1, h2⟩ := h
  exact Snap_err _ _ i 8 a1 a2 a3 a4 (by decide) (fun W hW => link_bad (h1.new_ hW) _ _ i hk (get_mem hn hq) hi)
theorem SnapQ_arg (h : Lk w0 w X b Q T) (hq : q ∈ Q) {n : Nat} (hl : n < q.ls.length) (a1 a2 a3 a4 : Int) (hp : mayB a1 a2 a3 a4 = false ∨ a3 ≠ 0) : Calls Try.prog 13 #[ptr X, .int .i64 (q.ring : Int), .int .i64 (q.seg : Int), .int .i64 (n : Int), pt a1 a2 a3 a4] w fun e w' => e = .returned (.int .i64 1) ∧ New w w' := by
  have hn := h.nodup
  have ho := h.ok hq
  obtain ⟨A, ms, h1, h2⟩ := h
  exact Snap_arg _ _ _ _ a1 a2 a3 a4 hp (fun W hW => link_ok (h1.new_ hW) _ _ n _ ho.key (get_mem hn hq) hl (by have := ho.stl; omega) (by have := ho.lsl; omega) rfl)
theorem may_raise {a1 a2 a4 r : Nat} (hr : r < 8) (hp : mayB a1 a2 (0 : Nat) a4 = true) : mayB a1 (max a2 r : Nat) (0 : Nat) a4 = true := by
  rw [Point.mayB_iff] at hp ⊢
  omega
theorem SnapQ_ok (h : Lk w0 w X b Q T) (hq : q ∈ Q) {n : Nat} (hl : n < q.ls.length) (a1 a2 a4 : Nat) (hp : mayB a1 a2 (0 : Nat) a4 = true) :
    Calls Try.prog 13 #[ptr X, .int .i64 (q.ring : Int), .int .i64 (q.seg : Int), .int .i64 (n : Int), pt a1 a2 0 a4] w fun e w' => e = .returned (.int .i64 0) ∧ Lk w0 w' X b (setS Q (setLs q n (a1, max a2 q.ring, 0, a4))) T ∧ Same (fun k => T k ∨ k = b) w w' := by
  have hn := h.nodup
  have ho := h.ok hq
  obtain ⟨A, ms, h1, h2⟩ := h
  have hp2 := may_raise ho.ring hp
  refine (SnapM_ok h1 ho.ring (q.seg : Int) n _ a1 a2 a4 ho.key (get_mem hn hq) hl (by have := ho.stl; omega) (by have := ho.lsl; omega) rfl hp hp2).mono ?_
  rintro e w' ⟨rfl, h5, s5⟩
  have h6 := h5
  rw [← setS_keys (q := q) (q' := setLs q n (a1, max a2 q.ring, 0, a4)) rfl hq hn rfl rfl (List.length_set ..)] at h6
  refine ⟨rfl, ⟨A, _, h6, ?_⟩, s5⟩
  · rw [cut_nat (pack_lt hp2)]
    exact h2.write h1.goods hn hq (by rw [Sc.words_len]; unfold Sc.size; omega) rfl rfl words_setLs (ho.setLs hp2)
theorem UnsnapQ_none (h : Lk w0 w X b Q T) (r s i : Int) (hk : okK (r, s)) (hf : findS Q (r, s) = none) : Calls Try.prog 26 #[ptr X, .int .i64 r, .int .i64 s, .int .i64 i] w fun e w' => e = .returned (.tuple #[.bool false, .int .i64 4]) ∧ New w w' :=
  Unsnap_err r s i 4 (by decide) (fun W hW => LinkQ_none (h.new_ hW) r s i hk hf)
theorem UnsnapQ_bad (h : Lk w0 w X b Q T) (hq : q ∈ Q) (i : Int) (hi : i < 0 ∨ (q.ls.length : Int) ≤ i) : Calls Try.prog 26 #[ptr X, .int .i64 (q.ring : Int), .int .i64 (q.seg : Int), .int .i64 i] w fun e w' => e = .returned (.tuple #[.bool false, .int .i64 8]) ∧ New w w' :=
  Unsnap_err _ _ i 8 (by decide) (fun W hW => LinkQ_bad (h.new_ hW) hq i hi)
theorem UnsnapQ_no (h : Lk w0 w X b Q T) (hq : q ∈ Q) {n : Nat} {p : P4} (hp : q.ls[n]? = some p) (hp0 : ¬ p.2.2.1 = 0) : Calls Try.prog 26 #[ptr X, .int .i64 (q.ring : Int), .int .i64 (q.seg : Int), .int .i64 (n : Int)] w fun e w' => e = .returned (.tuple #[.bool false, .int .i64 0]) ∧ New w w' :=
  Unsnap_no _ _ _ _ _ _ _ (by omega) (fun W hW => LinkQ_ok (h.new_ hW) hq hp)
/-- A link that is not bound. -/
def flt (q : Sc) (n : Nat) : P4 := (q.seg, q.ring, 1, n)
theorem UnsnapQ_yes (h : Lk w0 w X b Q T) (hq : q ∈ Q) {n : Nat} {p : P4} (hp : q.ls[n]? = some p) (hp0 : p.2.2.1 = 0) :
    Calls Try.prog 26 #[ptr X, .int .i64 (q.ring : Int), .int .i64 (q.seg : Int), .int .i64 (n : Int)] w fun e w' => e = .returned (.tuple #[.bool true, .int .i64 0]) ∧ Lk w0 w' X b (setS Q (setLs q n (flt q n))) T ∧ Same (fun k => T k ∨ k = b) w w' := by
  have hn := h.nodup
  have ho := h.ok hq
  have hl := (List.getElem?_eq_some_iff.1 hp).1
  have hL := fun W (hW : New w W) => LinkQ_ok (h.new_ hW) hq hp
  obtain ⟨p1, p2, p3, p4⟩ := p
  simp only at hp0
  subst hp0
  obtain ⟨A, ms, h1, h2⟩ := h
  have hfm := may_fault ho.ring ho.seg1 (show n ≤ 32 by have := ho.lsl; omega)
  refine (UnsnapM_yes h1 ho.ring q.seg n _ ho.key (get_mem hn hq) hl (by have := ho.stl; omega) (by have := ho.lsl; omega) rfl hfm hL).mono ?_
  rintro e w' ⟨rfl, h5, s5⟩
  have h6 := h5
  rw [← setS_keys (q := q) (q' := setLs q n (flt q n)) rfl hq hn rfl rfl (List.length_set ..)] at h6
  refine ⟨rfl, ⟨A, _, h6, ?_⟩, s5⟩
  · rw [cut_nat (pack_lt hfm)]
    exact h2.write h1.goods hn hq (by rw [Sc.words_len]; unfold Sc.size; omega) rfl rfl words_setLs (ho.setLs hfm)
theorem CloseQ_no (h : Lk w0 w X b Q T) (r s : Int) (hk : okK (r, s)) (hf : findS Q (r, s) = none) : Calls Try.prog 11 #[ptr X, .int .i64 r, .int .i64 s] w fun e w' => e = .returned (.bool false) ∧ New w w' := by
  obtain ⟨A, ms, h1, h2⟩ := h
  exact CloseM_no h1 r s hk (get_not hf)
theorem del_sec (Q : List Sc) (x : Key) : del (Q.map Sc.sec) x = (Q.filter fun p => decide (p.key ≠ x)).map Sc.sec := by
  unfold del
  rw [List.filter_map]
  rfl
theorem CloseQ_yes (h : Lk w0 w X b Q T) (hq : q ∈ Q) :
    Calls Try.prog 11 #[ptr X, .int .i64 (q.ring : Int), .int .i64 (q.seg : Int)] w fun e w' => e = .returned (.bool true) ∧ Lk w0 w' X b (Q.filter fun p => decide (p.key ≠ q.key)) T ∧ Same T w w' := by
  have hn := h.nodup
  have ho := h.ok hq
  obtain ⟨A, ms, h1, h2⟩ := h
  refine (CloseM_yes h1 ho.ring (q.seg : Int) ho.key (get_mem hn hq)).mono ?_
  rintro e w' ⟨rfl, h5, s5⟩
  have h6 := h5
  rw [show ((q.ring : Int), (q.seg : Int)) = q.key from rfl, del_sec] at h6
  exact ⟨rfl, ⟨A, _, h6, h2.close h1.goods hn hq⟩, s5⟩
theorem OpenQ_there (h : Lk w0 w X b Q T) (hq : q ∈ Q) (va vb vc vd : Value) :
    Calls Try.prog 10 #[ptr X, .int .i64 (q.ring : Int), .int .i64 (q.seg : Int), .agg #[va, vb, vc, vd]] w fun e w' => e = .returned (.tuple #[.int .i64 (q.base : Int), .int .i64 0]) ∧ New w w' := by
  have hn := h.nodup
  have ho := h.ok hq
  obtain ⟨A, ms, h1, h2⟩ := h
  exact OpenM_there h1 ho.ring ho.seg0 ho.seg1 ho.key va vb vc vd (get_mem hn hq)
theorem okK_of {r s : Nat} (hr : r < 8) (hs : s ≤ 63) : okK ((r : Int), (s : Int)) := by
  have e1 : IntKind.i64.min = -9223372036854775808 := rfl
  have e2 : IntKind.i64.max = 9223372036854775807 := rfl
  unfold okK
  constructor <;> simp [Lit.wf, e1, e2] <;> omega
theorem OpenQ_not (h : Lk w0 w X b Q T) {r s : Nat} (hr : r < 8) (hs0 : 1 ≤ s) (hs : s ≤ 63) (va vb vc vd : Value) (O : Ob) (hO : ObAt w (.agg #[va, vb, vc, vd]) O) (hL : Lens O) (hm : Obj.mayB O = false) (hg : findS Q ((r : Int), (s : Int)) = none) :
    Calls Try.prog 10 #[ptr X, .int .i64 (r : Int), .int .i64 (s : Int), .agg #[va, vb, vc, vd]] w fun e w' => e = .returned (.tuple #[.int .i64 0, .int .i64 12]) ∧ New w w' := by
  obtain ⟨A, ms, h1, h2⟩ := h
  exact OpenM_not h1 hr hs0 hs (okK_of hr hs) va vb vc vd O hO hL hm (get_not hg)
theorem ob_bounds {O : Ob} (hm : Obj.mayB O = true) : O.static.length ≤ 64 ∧ O.links.length ≤ 32 ∧ ∀ x ∈ O.static, x < 68719476736 := by
  unfold Obj.mayB Obj.fitsB at hm
  simp only [Bool.and_eq_true, decide_eq_true_eq] at hm
  obtain ⟨⟨_, h2, _, h4, _, h6⟩, _⟩ := hm
  refine ⟨h2, ?_, fun x hx => ?_⟩
  · unfold Obj.linksB at h6
    simp only [Bool.and_eq_true, decide_eq_true_eq] at h6
    exact h6.2
  · unfold Obj.wholeB at h4
    have := List.all_eq_true.1 h4 x hx
    simp only [decide_eq_true_eq] at this
    unfold Obj.maskN at this
    omega
theorem OpenQ_full (h : Lk w0 w X b Q T) {r s : Nat} (hr : r < 8) (hs0 : 1 ≤ s) (hs : s ≤ 63) (va vb vc vd : Value) (O : Ob) (hO : ObAt w (.agg #[va, vb, vc, vd]) O) (hL : Lens O) (hm : Obj.mayB O = true) (hg : findS Q ((r : Int), (s : Int)) = none)
    (hf : ∀ y, y + (1 + O.static.length + O.links.length) ≤ 256 → ¬ FreeQ Q r (1 + O.static.length + O.links.length) y) :
    Calls Try.prog 10 #[ptr X, .int .i64 (r : Int), .int .i64 (s : Int), .agg #[va, vb, vc, vd]] w fun e w' => e = .returned (.tuple #[.int .i64 0, .int .i64 7]) ∧ Lk w0 w' X b Q T ∧ Same T w w' := by
  obtain ⟨A, ms, h1, h2⟩ := h
  obtain ⟨b1, b2, _⟩ := ob_bounds hm
  obtain ⟨f1, f2⟩ := h1.first hr (1 + O.static.length + O.links.length)
  have f3 : ¬ (fitG ((1 + O.static.length + O.links.length : Nat) : Int) 0 (ms r)).2 + (1 + O.static.length + O.links.length) ≤ 256 := fun e => hf _ e ((h2.free hr _ _).1 f1)
  have he : takeE 256 (ms r) ((1 + O.static.length + O.links.length : Nat) : Int) = 7 := by
    unfold takeE
    rw [if_neg (by omega), if_pos (by omega)]
  refine (OpenM_full h1 hr hs0 hs (okK_of hr hs) va vb vc vd O hO hL hm (get_not hg) b1 b2 he (by decide)).mono ?_
  rintro e w' ⟨rfl, h5, s5⟩
  exact ⟨rfl, ⟨A, ms, h5, h2⟩, s5⟩
theorem newSc_ok {r s B : Nat} {O : Ob} (hr : r < 8) (hs0 : 1 ≤ s) (hs : s ≤ 63) (hm : Obj.mayB O = true) : okS (newSc r s B O) := by
  obtain ⟨b1, b2, b3⟩ := ob_bounds hm
  refine ⟨hr, hs0, hs, b3, fun p hp => ?_, b1, ?_⟩
  · obtain ⟨i, hi, rfl⟩ := List.mem_map.1 hp
    have h7 : i < O.links.length := List.mem_range.1 hi
    exact may_fault (i := i) hr hs (Nat.le_of_lt (Nat.lt_of_lt_of_le h7 b2))
  · show (faults r s O.links.length).length ≤ 32
    rw [faults_len]; exact b2
theorem OpenQ_ok (h : Lk w0 w X b Q T) {r s B : Nat} (hr : r < 8) (hs0 : 1 ≤ s) (hs : s ≤ 63) (va vb vc vd : Value) (O : Ob) (hO : ∀ W, New w0 W → Same T w W → ObAt W (.agg #[va, vb, vc, vd]) O) (hL : Lens O) (hm : Obj.mayB O = true) (hg : findS Q ((r : Int), (s : Int)) = none)
    (hB : B + (1 + O.static.length + O.links.length) ≤ 256) (hf : FreeQ Q r (1 + O.static.length + O.links.length) B) (hy : ∀ y, y < B → ¬ FreeQ Q r (1 + O.static.length + O.links.length) y) :
    Calls Try.prog 10 #[ptr X, .int .i64 (r : Int), .int .i64 (s : Int), .agg #[va, vb, vc, vd]] w fun e w' => e = .returned (.tuple #[.int .i64 (B : Int), .int .i64 0]) ∧ Lk w0 w' X b (Q ++ [newSc r s B O]) T ∧ Same T w w' := by
  have hn := h.nodup
  obtain ⟨A, ms, h1, h2⟩ := h
  obtain ⟨b1, b2, b3⟩ := ob_bounds hm
  obtain ⟨f1, f2⟩ := h1.first hr (1 + O.static.length + O.links.length)
  have e1 : ¬ B < (fitG ((1 + O.static.length + O.links.length : Nat) : Int) 0 (ms r)).2 := fun e => f2 B e ((h2.free hr _ _).2 hf)
  have e2 : ¬ (fitG ((1 + O.static.length + O.links.length : Nat) : Int) 0 (ms r)).2 < B := fun e => hy _ e ((h2.free hr _ _).1 f1)
  have e3 : (fitG ((1 + O.static.length + O.links.length : Nat) : Int) 0 (ms r)).2 = B := by omega
  have he : takeE 256 (ms r) ((1 + O.static.length + O.links.length : Nat) : Int) = 0 := by
    unfold takeE
    rw [if_neg (by omega), if_neg (by omega)]
  have hb : takeB 256 (ms r) ((1 + O.static.length + O.links.length : Nat) : Int) = (B : Int) := by unfold takeB; rw [he, if_pos rfl, e3]
  have hp0 : List.replicate (((1 + O.static.length + O.links.length : Nat) : Int)).toNat (0 : Int) = part (newSc r s B O).words 0 := by
    rw [part_zero, Sc.words_len, newSc_size, Int.toNat_natCast]
  have hM : takeM 256 (ms r) ((1 + O.static.length + O.links.length : Nat) : Int) = (ms r).take (fitG ((1 + O.static.length + O.links.length : Nat) : Int) 0 (ms r)).1 ++ (B, part (newSc r s B O).words 0) :: (ms r).drop (fitG ((1 + O.static.length + O.links.length : Nat) : Int) 0 (ms r)).1 := by
    unfold takeM
    rw [he, if_pos rfl, e3, hp0]
  refine (OpenM_ok h1 hr hs0 hs (okK_of hr hs) va vb vc vd O hO hL hm (get_not hg) b1 b2 b3 he hb hM).mono ?_
  rintro e w' ⟨rfl, h5, s5⟩
  refine ⟨rfl, ⟨A, _, ?_, h2.open (q := newSc r s B O) (newSc_ok hr hs0 hs hm) (m' := (ms r).take (fitG ((1 + O.static.length + O.links.length : Nat) : Int) 0 (ms r)).1 ++ (B, (newSc r s B O).words) :: (ms r).drop (fitG ((1 + O.static.length + O.links.length : Nat) : Int) 0 (ms r)).1) ?_⟩, s5⟩
  · rw [put_of_none (get_not hg)] at h5
    rw [List.map_append]
    have : [newSc r s B O].map Sc.sec = [(((r : Int), (s : Int)), (B, O.static.length, O.links.length))] := by
      show [(newSc r s B O).sec] = _
      unfold Sc.sec newSc Sc.key
      simp only [faults_len]
    rw [this]
    exact h5
  · refine List.perm_middle.trans ?_
    rw [List.take_append_drop]
    exact List.Perm.refl _
end
end Go.Proofs.Yteakbhfegbghoaa.Link
