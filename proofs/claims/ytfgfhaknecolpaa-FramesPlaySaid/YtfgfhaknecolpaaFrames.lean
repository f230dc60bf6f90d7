/- The contracts of package frames. The stacks are a block of eight slices, each in a row of its own. -/
import Derived.Test.YtfgfhaknecolpaaProg
import Derived.Test.YtfgfhaknecolpaaKit
import Derived.Test.YtfgfhaknecolpaaSl
import Derived.Test.YtfgfhaknecolpaaArr
import Derived.Test.YtfgfhaknecolpaaPtMay
import Derived.StillTailTactics
import Derived.WideLaws
namespace Go.Proofs.Ytfgfhaknecolpaa.Kit
open Go Go.RowKit
set_option linter.unusedSimpArgs false
set_option linter.unusedVariables false
set_option linter.unusedSectionVars false
section
variable {w w' : World} {base : Nat} {e : TypeId} {size : Nat} {v : Value} {n : Nat} {cs : List Value}
theorem Sl.setAt {g o cap : Nat} (h : Sl w base e size (.slice (some ⟨g, o, none⟩) n cap) n cs) (i : Nat) (hi : i < n * size) (u : Value) : Sl (w.setCell ⟨g, o + i, none⟩ u) base e size (.slice (some ⟨g, o, none⟩) n cap) n (cs.set i u) := by
  refine ⟨by simpa using h.1, ?_⟩
  rcases h.2 with ⟨e, _⟩ | ⟨g', o', cap', cur, hv, hb, hg, hnc, hm, hs, ht⟩
  · cases e
  · injection hv with hv1 hv2 hv3
    injection hv1 with hv1
    injection hv1 with hv1 hv4
    subst hv1 hv4 hv3
    have hle : n * size ≤ cap * size := Nat.mul_le_mul_right _ hnc
    refine .inr ⟨g, o, cap, cur.setIfInBounds (o + i) u, rfl, hb, by simp [World.setCell, Array.getElem?_modify, hg], hnc, hm, by simpa using hs, ?_⟩
    rw [← ht]
    apply List.ext_getElem?
    intro j
    simp only [Array.toList_setIfInBounds, List.getElem?_take, List.getElem?_drop, List.getElem?_set, List.length_take, List.length_drop, List.length_set, Array.length_toList]
    by_cases hj : j < n * size
    · by_cases e : i = j
      · subst e
        rw [if_pos hj, if_pos rfl, if_pos (by omega), if_pos rfl, if_pos (by omega)]
      · rw [if_pos hj, if_neg (by omega), if_neg e, if_pos hj]
    · by_cases e : i = j
      · omega
      · rw [if_neg hj, if_neg e, if_neg hj]
/-- s[:m]. -/
theorem Sl.cutTo {g o cap m : Nat} {A B : List Value} (h : Sl w base e size (.slice (some ⟨g, o, none⟩) n cap) n (A ++ B)) (hm : m ≤ n) (hA : A.length = m * size) : Sl w base e size (.slice (some ⟨g, o, none⟩) m cap) m A := by
  refine ⟨hA, ?_⟩
  rcases h.2 with ⟨e, _⟩ | ⟨g', o', cap', cur, hv, hb, hg, hnc, hmx, hs, ht⟩
  · cases e
  · injection hv with hv1 hv2 hv3
    injection hv1 with hv1
    injection hv1 with hv1 hv4
    subst hv1 hv4 hv3
    refine .inr ⟨g, o, cap, cur, rfl, hb, hg, by omega, hmx, hs, ?_⟩
    have hle : m * size ≤ n * size := Nat.mul_le_mul_right _ hm
    have := congrArg (List.take (m * size)) ht
    rw [List.take_take, Nat.min_eq_left hle, ← hA, List.take_left' rfl, hA] at this
    exact this
theorem Sl.val (h : Sl w base e size v n cs) : ∃ a cap, v = .slice a n cap := by
  rcases h.2 with ⟨e, h0⟩ | ⟨g, o, cap, cur, e, _⟩
  · exact ⟨none, 0, by rw [e, h0]⟩
  · exact ⟨_, _, e⟩
theorem Sl.blk (h : Sl w base e size v n cs) {g : Nat} (hg : v.ownBlock = some g) : base ≤ g ∧ ∃ arr, Blk w g e arr := by
  rcases h.2 with ⟨rfl, _⟩ | ⟨g', o, cap, cur, rfl, hb, hg', _⟩
  · cases hg
  · cases hg
    exact ⟨hb, cur, hg'⟩
theorem Blk.inj {g : Nat} {t t' : TypeId} {a a' : Array Value} (h : Blk w g t a) (h' : Blk w g t' a') : t = t' := by
  unfold Blk at h h'
  rw [h] at h'
  injection h' with h'
  injection h' with _ h2
end
section
variable {P : Program}
/-- append, as one step of a region that draws. -/
theorem step_append_sl {ops : Array Oper} {o : Oper} {a : Act} {w : World} {K : Act → World → Prop} {Q : Exit → Act → World → Prop} {E : Prop}
    (hgd : o.guard = none) (s x : Operand) (t : TypeId)
    (ho : o.op = .call { callee := .builtin .append, args := #[s, x], argTypes := #[t, t] })
    (base : Nat) (e : TypeId) (i : TypeInfo) (z : Value) (size bytes : Nat) (ht : P.underlying t = some (.slice e)) (hi : P.info? e = some i) (hz : i.zero = some z)
    (hsize : i.size = size) (hby : i.bytes = bytes) (hzs : z.cells.size = size) (hsz : 0 < size)
    (v : Value) (n : Nat) (cs : List Value) (hs : a.eval s = v) (hown : Sl w base e size v n cs)
    (ad : Addr) (m c : Nat) (news : List Value) (hx : a.eval x = .slice (some ad) m c) (hm : 0 < m) (hl : news.length = m * size) (hnews : ∀ j u, news[j]? = some u → w.cell? (ad.add j) = some u) (h1 : ∀ u ∈ news, u.oneCell' = true)
    (h63 : n + m ≤ maxLen) (hbytes : (n + m) * bytes ≤ 140737488355328) (hbase : base ≤ w.heap.size)
    (h : ∀ v' w', Sl w' base e size v' (n + m) (cs ++ news) → w.grownBy w' v.ownBlock → (v'.ownBlock = v.ownBlock ∨ ∃ g, v'.ownBlock = some g ∧ w.heap.size ≤ g) → K (a.put o.dst v') w') :
    if Region.wanted o (yielded ops a.tmps) = true then Oper.wp P o a w K Q else E := by
  have hw : Region.wanted o (yielded ops a.tmps) = true := by simp [Region.wanted, hgd]
  rw [if_pos hw]
  exact wp_append_sl w s x t ho base e i z size bytes ht hi hz hsize hby hzs hsz v n cs hs hown ad m c news hx hm hl hnews h1 h63 hbytes hbase h
end
end Go.Proofs.Ytfgfhaknecolpaa.Kit
namespace Go.Proofs.Ytfgfhaknecolpaa.Frames
open Go Go.RowKit Go.Proofs.Ytfgfhaknecolpaa.Kit Go.Proofs.Ytfgfhaknecolpaa.Point
set_option linter.unusedSimpArgs false
set_option linter.unusedVariables false

structure Fr where
  w : Nat → Int
  a : Int
  b : Int
  c : Int
  d : Int
def Fr.cells (f : Fr) : List Value := [.int .u64 (f.w 0), .int .u64 (f.w 1), .int .u64 (f.w 2), .int .u64 (f.w 3), .int .u64 (f.w 4), .int .u64 (f.w 5), .int .u64 (f.w 6), .int .i64 f.a, .int .i64 f.b, .int .i64 f.c, .int .i64 f.d]
def Fr.put (f : Fr) (k : Nat) (x : Int) : Fr := { f with w := fun i => if i = k then x else f.w i }
def flat (L : List Fr) : List Value := L.flatMap Fr.cells
theorem flat_nil : flat [] = [] := rfl
theorem flat_app (L M : List Fr) : flat (L ++ M) = flat L ++ flat M := by unfold flat; rw [List.flatMap_append]
theorem flat_one (x : Fr) : flat [x] = x.cells := by simp [flat]
theorem flat_len (L : List Fr) : (flat L).length = L.length * 11 := by
  induction L with
  | nil => rfl
  | cons x t ih =>
    have : flat (x :: t) = x.cells ++ flat t := rfl
    rw [this, List.length_append, ih, List.length_cons]
    show 11 + _ = _
    omega
theorem cells_put (f : Fr) (k : Nat) (hk : k < 7) (x : Int) : f.cells.set k (.int .u64 x) = (f.put k x).cells := by
  rcases (show k = 0 ∨ k = 1 ∨ k = 2 ∨ k = 3 ∨ k = 4 ∨ k = 5 ∨ k = 6 by omega) with rfl | rfl | rfl | rfl | rfl | rfl | rfl <;> rfl
theorem cells_get (f : Fr) (k : Nat) (hk : k < 7) : f.cells[k]? = some (.int .u64 (f.w k)) := by
  rcases (show k = 0 ∨ k = 1 ∨ k = 2 ∨ k = 3 ∨ k = 4 ∨ k = 5 ∨ k = 6 by omega) with rfl | rfl | rfl | rfl | rfl | rfl | rfl <;> rfl
theorem flat_put (L : List Fr) (x : Fr) (k : Nat) (hk : k < 7) (u : Int) : (flat (L ++ [x])).set (L.length * 11 + k) (.int .u64 u) = flat (L ++ [x.put k u]) := by
  rw [flat_app, flat_app, flat_one, flat_one, List.set_append_right _ _ (by rw [flat_len]; omega), flat_len, Nat.add_sub_cancel_left, cells_put x k hk]
theorem flat_get (L : List Fr) (x : Fr) (k : Nat) : (flat (L ++ [x]))[L.length * 11 + k]? = x.cells[k]? := by
  rw [flat_app, flat_one, List.getElem?_append_right (by rw [flat_len]; omega), flat_len, Nat.add_sub_cancel_left]
/-- The blocks of the stacks, by their types. -/
def FT (w : World) (base i : Nat) : Prop := base ≤ i ∧ ((∃ arr, Blk w i 57 arr) ∨ ∃ arr, Blk w i 60 arr)
structure At (w : World) (base p : Nat) (S : Nat → List Fr) : Prop where
  row : ∃ vs : Nat → Value, Arr w p 57 8 vs ∧ (∀ r, r < 8 → Sl w base 60 11 (vs r) (S r).length (flat (S r))) ∧ (∀ r r', r < 8 → r' < 8 → r ≠ r' → ∀ g, (vs r).ownBlock = some g → (vs r').ownBlock ≠ some g)
  base : base ≤ p
  len : ∀ r, (S r).length ≤ 16
theorem At.keeps {w w' : World} {base p : Nat} {S : Nat → List Fr} (h : At w base p S) {F : Nat → Prop} (k : Keeps F w w') (hF : ∀ i, FT w base i → ¬ F i) : At w' base p S := by
  obtain ⟨vs, ha, hs, hd⟩ := h.row
  refine ⟨⟨vs, ha.keeps k (hF _ ⟨h.base, .inl ?_⟩), fun r hr => (hs r hr).keeps k fun g hg => hF _ ?_, hd⟩, h.base, h.len⟩
  · obtain ⟨arr, hb, _⟩ := ha
    exact ⟨arr, hb⟩
  · have := (hs r hr).blk hg
    exact ⟨this.1, .inr this.2⟩
theorem At.new_ {w w' : World} {base p : Nat} {S : Nat → List Fr} (h : At w base p S) (k : New w w') : At w' base p S := h.keeps (k.keeps (fun _ => False)) fun _ _ h => h
theorem At.drewN {w : World} {base p : Nat} {S : Nat → List Fr} (h : At w base p S) (n : Nat) : At (w.drewN n) base p S := h.new_ ((New.refl w).drewN n)
theorem At.lt {w : World} {base p : Nat} {S : Nat → List Fr} (h : At w base p S) : p < w.heap.size := by
  obtain ⟨vs, ha, _⟩ := h.row
  exact ha.lt
theorem FT.not {w : World} {base g : Nat} {t : TypeId} {arr : Array Value} (h : Blk w g t arr) (h1 : t ≠ 57) (h2 : t ≠ 60) : ¬ FT w base g := by
  rintro ⟨_, ⟨a, hb⟩ | ⟨a, hb⟩⟩
  · exact h1 (h.inj hb)
  · exact h2 (h.inj hb)
def upd (S : Nat → List Fr) (r : Nat) (L : List Fr) : Nat → List Fr := fun k => if k = r then L else S k
def nothing : Nat → List Fr := fun _ => []
set_option maxRecDepth 100000 in
theorem new_any (w : World) : Calls Try.prog 10 #[] w fun e w' => e = .returned (.pointer (some ⟨w.heap.size, 0, none⟩)) ∧ New w w' ∧ ∀ base, base ≤ w.heap.size → At w' base w.heap.size nothing := by
  have hz : (zeroValue 57).run Try.prog w = .ok (.agg (zarr 8 (.slice none 0 0))) w := by kernel_rfl
  have hr := Arr.new w 57 8 (.slice none 0 0)
  have HR := hid hr
  clear hr
  go_enter Try.func10, Try.ntmps10
  go_wp2
  go_ret
  refine ⟨rfl, by (repeat (first | exact New.refl _ | (refine New.step ?_ (by assumption)) | apply New.alloc | apply New.drewN | apply New.drew)), fun base hb => ⟨⟨_, HR.out, fun r hr => Sl.nil _ _ _ _, fun r r' _ _ _ g hg => by cases hg⟩, hb, fun r => Nat.zero_le _⟩⟩
theorem there_any (w : World) (p : Nat) (r : Int) : Calls Try.prog 19 #[.pointer (some ⟨p, 0, none⟩), .int .i64 r] w fun e w' => e = .returned (.bool (decide (0 ≤ r ∧ r < 8))) ∧ w = w' := by
  by_cases c1 : r < 0
  · have e : decide (0 ≤ r ∧ r < 8) = false := by simp; omega
    rw [e]
    go_enter Try.func19, Try.ntmps19
    go_wp2
    go_ret
    exact ⟨rfl, rfl⟩
  · by_cases c2 : r < 8
    · have e : decide (0 ≤ r ∧ r < 8) = true := by simp; omega
      rw [e]
      go_enter Try.func19, Try.ntmps19
      go_wp2
      go_ret
      exact ⟨rfl, rfl⟩
    · have e : decide (0 ≤ r ∧ r < 8) = false := by simp; omega
      rw [e]
      go_enter Try.func19, Try.ntmps19
      go_wp2
      go_ret
      exact ⟨rfl, rfl⟩
theorem depth_no (w : World) (p : Nat) (r : Int) (hr : ¬ (0 ≤ r ∧ r < 8)) : Calls Try.prog 18 #[.pointer (some ⟨p, 0, none⟩), .int .i64 r] w fun e w' => e = .returned (.int .i64 0) ∧ w = w' := by
  have ht := there_any w p r
  rw [decide_eq_false hr] at ht
  clear hr
  go_enter Try.func18, Try.ntmps18
  go_wp2_with fail
  refine (ht).mono ?_
  rintro e w' ⟨rfl, rfl⟩
  go_wp2
  go_ret
  exact ⟨rfl, rfl⟩
theorem depth_yes (w : World) (base p : Nat) (S : Nat → List Fr) (h : At w base p S) (r : Nat) (hr : r < 8) : Calls Try.prog 18 #[.pointer (some ⟨p, 0, none⟩), .int .i64 (r : Int)] w fun e w' => e = .returned (.int .i64 ((S r).length : Int)) ∧ w = w' := by
  have ht := there_any w p r
  rw [decide_eq_true (by omega)] at ht
  obtain ⟨vs, ha, hs, _⟩ := h.row
  have hc := ha.cell hr
  obtain ⟨a, cap, hv⟩ := (hs r hr).val
  rw [hv] at hc
  have i0 : (0 : Int) ≤ (r : Int) := by omega
  have i1 : (r : Int) < 8 := by omega
  clear hv hs ha h
  go_enter Try.func18, Try.ntmps18
  go_wp2_with fail
  refine (ht).mono ?_
  rintro e w' ⟨rfl, rfl⟩
  go_wp2
  go_ret
  exact ⟨rfl, rfl⟩
/-- What the last frame's place gives. -/
theorem At.top {w : World} {base p : Nat} {S : Nat → List Fr} (h : At w base p S) {r : Nat} (hr : r < 8) {L : List Fr} {x : Fr} (hS : S r = L ++ [x]) :
    ∃ g o cap, w.cell? ⟨p, r, none⟩ = some (.slice (some ⟨g, o, none⟩) (L.length + 1) cap) ∧ L.length + 1 ≤ cap ∧ (∀ k u, x.cells[k]? = some u → w.cell? ⟨g, o + L.length * 11 + k, none⟩ = some u) ∧ (∀ k, w.frozen? ⟨g, k, none⟩ = false) ∧ w.frozen? ⟨p, r, none⟩ = false ∧
      (∀ W, New w W → ∀ k u, k < 7 → At (W.setCell ⟨g, o + L.length * 11 + k, none⟩ (.int .u64 u)) base p (upd S r (L ++ [x.put k u])) ∧ Keeps (FT w base) w (W.setCell ⟨g, o + L.length * 11 + k, none⟩ (.int .u64 u))) ∧
      (∀ W, New w W → At (W.setCell ⟨p, r, none⟩ (.slice (some ⟨g, o, none⟩) L.length cap)) base p (upd S r L) ∧ Keeps (FT w base) w (W.setCell ⟨p, r, none⟩ (.slice (some ⟨g, o, none⟩) L.length cap))) := by
  obtain ⟨vs, ha0, hs0, hd⟩ := h.row
  have ha := ha0
  have hs := hs0
  have hsr := hs r hr
  have hlen : (S r).length = L.length + 1 := by rw [hS]; simp
  obtain ⟨g, o, cap, hv, hb, hg, hcap, hcl, hfr⟩ := hsr.form (by omega)
  rw [hlen] at hv hcap
  have hown : (vs r).ownBlock = some g := by rw [hv]; rfl
  have hbg := hsr.blk hown
  have hp : FT w base p := by
    obtain ⟨arr, hb, _⟩ := ha
    exact ⟨h.base, .inl ⟨arr, hb⟩⟩
  have hgF : FT w base g := ⟨hbg.1, .inr hbg.2⟩
  have hgp : g ≠ p := by
    rintro rfl
    obtain ⟨arr, hb, _⟩ := ha
    obtain ⟨_, arr', hb'⟩ := hbg
    exact absurd (hb.inj hb') (by decide)
  have hc := ha.cell hr
  rw [hv] at hc
  refine ⟨g, o, cap, hc, hcap, fun k u hu => ?_, hfr, ha.frozen r, fun W hW k u hk => ⟨⟨⟨vs, (ha.new_ hW).far hgp.symm _, fun r' hr' => ?_, hd⟩, h.base, fun r' => ?_⟩, Keeps.setCell (hW.keeps _) (.inr hgF) _⟩, fun W hW => ⟨⟨⟨fun k => if k = r then .slice (some ⟨g, o, none⟩) L.length cap else vs k, (ha.new_ hW).set r _, fun r' hr' => ?_, fun r1 r2 h1 h2 hn g' hg' => ?_⟩, h.base, fun r' => ?_⟩, Keeps.setCell (hW.keeps _) (.inr hp) _⟩⟩
  · have := hcl (L.length * 11 + k) u (by rw [hS, flat_get]; exact hu)
    rw [← Nat.add_assoc] at this
    exact this
  · by_cases e : r' = r
    · subst e
      have h2 := hsr.new_ hW
      rw [hv, hlen] at h2
      have h3 := h2.setAt (L.length * 11 + k) (by omega) (.int .u64 u)
      rw [hS, flat_put _ _ _ hk, ← Nat.add_assoc] at h3
      have e2 : upd S r' (L ++ [x.put k u]) r' = L ++ [x.put k u] := if_pos rfl
      rw [e2, hv, List.length_append]
      exact h3
    · have e2 : upd S r (L ++ [x.put k u]) r' = S r' := if_neg e
      rw [e2]
      exact ((hs r' hr').new_ hW).far (fun g' hg' e3 => hd r' r hr' hr e g' hg' (by rw [hown, show g' = g from e3])) _
  · by_cases e : r' = r
    · subst e
      have e2 : upd S r' (L ++ [x.put k u]) r' = L ++ [x.put k u] := if_pos rfl
      have := h.len r'
      rw [e2]
      rw [hS] at this
      simpa using this
    · have e2 : upd S r (L ++ [x.put k u]) r' = S r' := if_neg e
      rw [e2]
      exact h.len r'
  · dsimp only
    by_cases e : r' = r
    · subst e
      have e2 : upd S r' L r' = L := if_pos rfl
      rw [if_pos rfl, e2]
      have h2 := hsr.new_ hW
      rw [hv, hlen, hS, flat_app] at h2
      exact (h2.cutTo (by omega) (flat_len L)).far (fun g' hg' e3 => by cases hg'; exact hgp e3) _
    · have e2 : upd S r L r' = S r' := if_neg e
      rw [if_neg e, e2]
      refine ((hs r' hr').new_ hW).far (fun g' hg' e3 => ?_) _
      obtain ⟨arr, hb, _⟩ := ha
      obtain ⟨_, arr', hb'⟩ := (hs r' hr').blk hg'
      rw [show g' = p from e3] at hb'
      exact absurd (hb.inj hb') (by decide)
  · dsimp only at hg' ⊢
    by_cases e1 : r1 = r
    · rw [if_pos e1] at hg'
      have hg2 : g' = g := by cases hg'; rfl
      subst e1
      have e2 : ¬ r2 = r1 := fun e => hn e.symm
      rw [if_neg e2]
      rw [hg2]
      exact hd r1 r2 h1 h2 hn g hown
    · rw [if_neg e1] at hg'
      by_cases e2 : r2 = r
      · rw [if_pos e2]
        intro e3
        have hg2 : g' = g := by cases e3; rfl
        subst e2
        exact hd r1 r2 h1 h2 hn g' hg' (by rw [hown, hg2])
      · rw [if_neg e2]
        exact hd r1 r2 h1 h2 hn g' hg'
  · by_cases e : r' = r
    · subst e
      have e2 : upd S r' L r' = L := if_pos rfl
      have := h.len r'
      rw [e2]
      omega
    · have e2 : upd S r L r' = S r' := if_neg e
      rw [e2]
      exact h.len r'
/-- What hinders a look at the last frame. -/
def topE (S : Nat → List Fr) (r : Int) : Int := if 0 ≤ r ∧ r < 8 then (if S r.toNat = [] then 18 else 0) else 1
theorem top_no (w : World) (base p : Nat) (S : Nat → List Fr) (h : At w base p S) (r : Int) (he : topE S r ≠ 0) : Calls Try.prog 21 #[.pointer (some ⟨p, 0, none⟩), .int .i64 r] w fun e w' => e = .returned (.tuple #[.pointer none, .int .i64 (topE S r)]) ∧ w = w' := by
  have ht := there_any w p r
  by_cases hr : 0 ≤ r ∧ r < 8
  · obtain ⟨n, rfl⟩ : ∃ n : Nat, r = n := ⟨r.toNat, by omega⟩
    have hn : n < 8 := by omega
    have e0 : S n = [] := by
      unfold topE at he
      rw [if_pos hr, Int.toNat_natCast] at he
      by_cases e : S n = []
      · exact e
      · rw [if_neg e] at he; exact absurd rfl he
    have e1 : topE S n = 18 := by unfold topE; rw [if_pos hr, Int.toNat_natCast, if_pos e0]
    rw [e1]
    rw [decide_eq_true (by omega)] at ht
    obtain ⟨vs, ha, hs, _⟩ := h.row
    have hc := ha.cell hn
    obtain ⟨a, cap, hv⟩ := (hs n hn).val
    rw [hv, e0] at hc
    have i0 : (0 : Int) ≤ (n : Int) := by omega
    have i1 : (n : Int) < 8 := by omega
    simp only [List.length_nil] at hc
    clear hv hs ha h he e0 e1 hr
    go_enter Try.func21, Try.ntmps21
    go_wp2_with fail
    refine (ht).mono ?_
    rintro e w' ⟨rfl, rfl⟩
    go_wp2
    go_ret2
    exact ⟨rfl, rfl⟩
  · have e1 : topE S r = 1 := by unfold topE; rw [if_neg hr]
    rw [e1]
    rw [decide_eq_false hr] at ht
    clear hr he e1 h
    go_enter Try.func21, Try.ntmps21
    go_wp2_with fail
    refine (ht).mono ?_
    rintro e w' ⟨rfl, rfl⟩
    go_wp2
    go_ret2
    exact ⟨rfl, rfl⟩
theorem top_yes (w : World) (p r n g o cap : Nat) (hr : r < 8) (hn : n < 16) (hc : w.cell? ⟨p, r, none⟩ = some (.slice (some ⟨g, o, none⟩) (n + 1) cap)) : Calls Try.prog 21 #[.pointer (some ⟨p, 0, none⟩), .int .i64 (r : Int)] w fun e w' => e = .returned (.tuple #[.pointer (some ⟨g, o + n * 11, none⟩), .int .i64 0]) ∧ w = w' := by
  have ht := there_any w p r
  rw [decide_eq_true (by omega)] at ht
  have i0 : (0 : Int) ≤ (r : Int) := by omega
  have i1 : (r : Int) < 8 := by omega
  have w1 : IntKind.i64.wrap ((n : Int) + 1 - 1) = n := by rw [IntKind.wrap_i64]; omega
  have w2 : IntKind.i64.wrap (((n + 1 : Nat) : Int) - 1) = n := by rw [IntKind.wrap_i64]; omega
  have i2 : (0 : Int) ≤ (n : Int) := by omega
  have i3 : (n : Int) < ((n + 1 : Nat) : Int) := by omega
  have i4 : ¬ ((n + 1 : Nat) : Int) = 0 := by omega
  go_enter Try.func21, Try.ntmps21
  go_wp2_with fail
  refine (ht).mono ?_
  rintro e w' ⟨rfl, rfl⟩
  go_wp2
  go_ret2
  exact ⟨rfl, rfl⟩
theorem Top_no (w : World) (base p : Nat) (S : Nat → List Fr) (h : At w base p S) (r : Int) (he : topE S r ≠ 0) : Calls Try.prog 13 #[.pointer (some ⟨p, 0, none⟩), .int .i64 r] w fun e w' => e = .returned (.tuple #[pt 0 0 0 0, .int .i64 (topE S r)]) ∧ New w w' := by
  have ht := fun W (hW : New w W) => top_no W base p S (h.new_ hW) r he
  generalize topE S r = x at ht he
  go_enter Try.func13, Try.ntmps13
  go_wp2_with fail
  refine (ht _ (by (repeat (first | exact New.refl _ | (refine New.step ?_ (by assumption)) | apply New.alloc | apply New.drewN | apply New.drew)))).mono ?_
  rintro e w' ⟨rfl, rfl⟩
  go_wp2
  refine bodyPost_ret (v := .tuple #[pt 0 0 0 0, .int .i64 x]) (by simp [results, Try.results13, go_sem]) rfl ?_
  exact ⟨rfl, by (repeat (first | exact New.refl _ | (refine New.step ?_ (by assumption)) | apply New.alloc | apply New.drewN | apply New.drew))⟩
theorem Top_yes (w : World) (base p : Nat) (S : Nat → List Fr) (h : At w base p S) (r : Nat) (hr : r < 8) (L : List Fr) (x : Fr) (hS : S r = L ++ [x]) : Calls Try.prog 13 #[.pointer (some ⟨p, 0, none⟩), .int .i64 (r : Int)] w fun e w' => e = .returned (.tuple #[pt x.a x.b x.c x.d, .int .i64 0]) ∧ New w w' := by
  obtain ⟨g, o, cap, hc, hcap, hcl, hfg, hfp, _, _⟩ := h.top hr hS
  have hl := h.len r
  rw [hS] at hl
  simp only [List.length_append, List.length_cons, List.length_nil] at hl
  have ht := fun W (hW : New w W) => top_yes W p r L.length g o cap hr (by omega) (hW.cellK hc)
  have c0 := hcl 7 _ rfl
  have c1 := hcl 8 _ rfl
  have c2 := hcl 9 _ rfl
  have c3 := hcl 10 _ rfl
  have hg : g < w.heap.size := World.block_lt_of_cell? w _ c0
  clear hcl hfg hfp hc hS hl h
  generalize o + L.length * 11 = q at *
  go_enter Try.func13, Try.ntmps13
  go_wp2_with fail
  refine (ht _ (by (repeat (first | exact New.refl _ | (refine New.step ?_ (by assumption)) | apply New.alloc | apply New.drewN | apply New.drew)))).mono ?_
  rintro e w' ⟨rfl, rfl⟩
  go_wp2
  refine bodyPost_ret (v := .tuple #[pt x.a x.b x.c x.d, .int .i64 0]) (by simp [results, Try.results13, go_sem]) rfl ?_
  exact ⟨rfl, by (repeat (first | exact New.refl _ | (refine New.step ?_ (by assumption)) | apply New.alloc | apply New.drewN | apply New.drew))⟩
theorem Pop_no (w : World) (base p : Nat) (S : Nat → List Fr) (h : At w base p S) (r : Int) (he : topE S r ≠ 0) : Calls Try.prog 14 #[.pointer (some ⟨p, 0, none⟩), .int .i64 r] w fun e w' => e = .returned (.tuple #[pt 0 0 0 0, .int .i64 (topE S r)]) ∧ New w w' := by
  have ht := fun W (hW : New w W) => Top_no W base p S (h.new_ hW) r he
  generalize topE S r = x at ht he
  go_enter Try.func14, Try.ntmps14
  go_wp2_with fail
  refine (ht _ (by (repeat (first | exact New.refl _ | (refine New.step ?_ (by assumption)) | apply New.alloc | apply New.drewN | apply New.drew)))).mono ?_
  rintro e w1 ⟨rfl, hn⟩
  have hc := boxed hn
  have hf := fun i => ((Blk.new w 29 _).new_ hn).frozen i
  have hs := hn.size
  rw [World.size_alloc] at hs
  have hz : w.heap.size < w1.heap.size := by omega
  have hn1 := New.step ((New.refl w).alloc _) hn
  clear ht h
  go_wp2
  refine bodyPost_ret (v := .tuple #[pt 0 0 0 0, .int .i64 x]) (by simp [results, Try.results14, go_sem, hz, hc, hf, size_setCell, World.cell?_setCell_other]) rfl ?_
  refine ⟨rfl, ?_⟩
  repeat (first | exact hn1 | (refine New.alloc ?_ _) | (refine New.setCell ?_ (by first | exact Nat.le_refl _ | (simp; omega)) _) | exact New.drew ?_)
theorem At.setPt {w : World} {base p g : Nat} {S : Nat → List Fr} (h : At w base p S ∧ ∃ arr, Blk w g 29 arr) (i : Nat) (v : Value) : At (w.setCell ⟨g, i, none⟩ v) base p S ∧ ∃ arr, Blk (w.setCell ⟨g, i, none⟩ v) g 29 arr := by
  obtain ⟨h, arr, hb⟩ := h
  refine ⟨h.keeps (F := fun i => i = g) (Keeps.setCell (F := fun i => i = g) (Keeps.refl _ _) (.inr rfl) _) fun j hj e => ?_, _, hb.set i v⟩
  rw [e] at hj
  exact FT.not hb (by decide) (by decide) hj
set_option maxHeartbeats 1000000 in
theorem Pop_yes (w : World) (base p : Nat) (S : Nat → List Fr) (h : At w base p S) (hbase : base ≤ w.heap.size) (r : Nat) (hr : r < 8) (L : List Fr) (x : Fr) (hS : S r = L ++ [x]) : Calls Try.prog 14 #[.pointer (some ⟨p, 0, none⟩), .int .i64 (r : Int)] w fun e w' => e = .returned (.tuple #[pt x.a x.b x.c x.d, .int .i64 0]) ∧ At w' base p (upd S r L) ∧ Keeps (FT w base) w w' := by
  have ht := fun W (hW : New w W) => Top_yes W base p S (h.new_ hW) r hr L x hS
  go_enter Try.func14, Try.ntmps14
  go_wp2_with fail
  refine (ht _ (by (repeat (first | exact New.refl _ | (refine New.step ?_ (by assumption)) | apply New.alloc | apply New.drewN | apply New.drew)))).mono ?_
  rintro e w1 ⟨rfl, hn⟩
  have hc := boxed hn
  have hf := fun i => ((Blk.new w 29 _).new_ hn).frozen i
  have hs := hn.size
  rw [World.size_alloc] at hs
  have hz : w.heap.size < w1.heap.size := by omega
  have hn1 := New.step ((New.refl w).alloc _) hn
  obtain ⟨g, o, cap, hcr, hcap, hcl, hfg, hfp, _, hst⟩ := h.top hr hS
  have hcr1 := hn1.cellK hcr
  have hpl := h.lt
  have hfp1 : w1.frozen? ⟨p, r, none⟩ = false := by rw [hn1.cells.2 p r hpl]; exact hfp
  have i0 : (0 : Int) ≤ (r : Int) := by omega
  have i1 : (r : Int) < 8 := by omega
  have hl := h.len r
  rw [hS] at hl
  simp only [List.length_append, List.length_cons, List.length_nil] at hl
  have w1' : IntKind.i64.wrap ((L.length : Int) + 1 - 1) = L.length := by rw [IntKind.wrap_i64]; omega
  have w2' : IntKind.i64.wrap (((L.length + 1 : Nat) : Int) - 1) = L.length := by rw [IntKind.wrap_i64]; omega
  have w3' : IntKind.i64.wrap (L.length : Int) = L.length := by rw [IntKind.wrap_i64]; omega
  have i2 : (0 : Int) ≤ (L.length : Int) := by omega
  have i3 : (L.length : Int) ≤ ((L.length + 1 : Nat) : Int) := by omega
  have i4 : ((L.length : Int)) ≤ (cap : Int) := by omega
  have hpw1 : p < w1.heap.size := by omega
  have hpne : p ≠ w.heap.size := by omega
  have A := hid hst
  clear ht h hcl hfg hst hS
  go_wp2_with fail
  have HB : Hid (∃ arr, Blk w1 w.heap.size 29 arr) := ⟨_, (Blk.new w 29 _).new_ hn⟩
  have hpr : w.heap.size ≠ p := by omega
  go_region_law (fail)
  all_goals
    go_wp2_with fail
    refine bodyPost_ret (v := .tuple #[pt x.a x.b x.c x.d, .int .i64 0]) (by simp [results, Try.results14, go_sem, hz, hc, hf, size_setCell, World.cell?_setCell_other, hpr]) rfl ?_
    obtain ⟨arr, hb⟩ := HB.out
    have h1 := A.out w1 hn1
    have h2 := At.setPt (At.setPt (At.setPt (At.setPt ⟨h1.1, arr, hb.far (p := ⟨p, r, none⟩) hpr _⟩ 0 (.int .i64 x.a)) 1 (.int .i64 x.b)) 2 (.int .i64 x.c)) 3 (.int .i64 x.d)
    have h3 := Keeps.setCell (Keeps.setCell (Keeps.setCell (Keeps.setCell h1.2 (p := ⟨w.heap.size, 0, none⟩) (.inl (Nat.le_refl _)) (.int .i64 x.a)) (p := ⟨w.heap.size, 1, none⟩) (.inl (Nat.le_refl _)) (.int .i64 x.b)) (p := ⟨w.heap.size, 2, none⟩) (.inl (Nat.le_refl _)) (.int .i64 x.c)) (p := ⟨w.heap.size, 3, none⟩) (.inl (Nat.le_refl _)) (.int .i64 x.d)
    exact ⟨rfl, h2.1.new_ (((New.refl _).alloc _).drew), (h3.alloc _).drew⟩
theorem word_no1 (w : World) (base p : Nat) (S : Nat → List Fr) (h : At w base p S) (r k : Int) (he : topE S r ≠ 0) : Calls Try.prog 22 #[.pointer (some ⟨p, 0, none⟩), .int .i64 r, .int .i64 k] w fun e w' => e = .returned (.tuple #[.pointer none, .int .i64 (topE S r)]) ∧ w = w' := by
  have ht := top_no w base p S h r he
  generalize topE S r = x at ht he
  clear h
  go_enter Try.func22, Try.ntmps22
  go_wp2_with fail
  refine (ht).mono ?_
  rintro e w' ⟨rfl, rfl⟩
  go_wp2
  go_ret2
  exact ⟨rfl, rfl⟩
theorem word_no2 (w : World) (p r n g o cap : Nat) (hr : r < 8) (hn : n < 16) (hc : w.cell? ⟨p, r, none⟩ = some (.slice (some ⟨g, o, none⟩) (n + 1) cap)) (k : Int) (hk : ¬ (0 ≤ k ∧ k < 7)) : Calls Try.prog 22 #[.pointer (some ⟨p, 0, none⟩), .int .i64 (r : Int), .int .i64 k] w fun e w' => e = .returned (.tuple #[.pointer none, .int .i64 8]) ∧ w = w' := by
  have ht := top_yes w p r n g o cap hr hn hc
  clear hc
  by_cases h0 : k < 0
  · clear hk
    go_enter Try.func22, Try.ntmps22
    go_wp2_with fail
    refine (ht).mono ?_
    rintro e w' ⟨rfl, rfl⟩
    go_wp2
    go_ret2
    exact ⟨rfl, rfl⟩
  · have h7 : 7 ≤ k := by omega
    clear hk
    go_enter Try.func22, Try.ntmps22
    go_wp2_with fail
    refine (ht).mono ?_
    rintro e w' ⟨rfl, rfl⟩
    go_wp2
    go_ret2
    exact ⟨rfl, rfl⟩
theorem word_yes (w : World) (p r n g o cap : Nat) (hr : r < 8) (hn : n < 16) (hc : w.cell? ⟨p, r, none⟩ = some (.slice (some ⟨g, o, none⟩) (n + 1) cap)) (k : Nat) (hk : k < 7) : Calls Try.prog 22 #[.pointer (some ⟨p, 0, none⟩), .int .i64 (r : Int), .int .i64 (k : Int)] w fun e w' => e = .returned (.tuple #[.pointer (some ⟨g, o + n * 11 + k, none⟩), .int .i64 0]) ∧ w = w' := by
  have ht := top_yes w p r n g o cap hr hn hc
  have i0 : (0 : Int) ≤ (k : Int) := by omega
  have i1 : (k : Int) < 7 := by omega
  clear hc
  go_enter Try.func22, Try.ntmps22
  go_wp2_with fail
  refine (ht).mono ?_
  rintro e w' ⟨rfl, rfl⟩
  go_wp2
  go_ret2
  exact ⟨rfl, rfl⟩
/-- What a word's place gives. -/
def wordE (S : Nat → List Fr) (r k : Int) : Int := if topE S r = 0 then (if 0 ≤ k ∧ k < 7 then 0 else 8) else topE S r
theorem topE_app {S : Nat → List Fr} {r : Nat} (hr : r < 8) {L : List Fr} {x : Fr} (hS : S r = L ++ [x]) : topE S r = 0 := by
  unfold topE
  rw [if_pos (by omega), Int.toNat_natCast, hS, if_neg (by simp)]
theorem topE_zero {S : Nat → List Fr} {r : Int} (h : topE S r = 0) : ∃ (n : Nat) (L : List Fr) (x : Fr), r = n ∧ n < 8 ∧ S n = L ++ [x] := by
  unfold topE at h
  by_cases hr : 0 ≤ r ∧ r < 8
  · rw [if_pos hr] at h
    by_cases e : S r.toNat = []
    · rw [if_pos e] at h; exact absurd h (by decide)
    · exact ⟨r.toNat, (S r.toNat).dropLast, (S r.toNat).getLast e, by omega, by omega, (List.dropLast_concat_getLast e).symm⟩
  · rw [if_neg hr] at h; exact absurd h (by decide)
theorem word_no (w : World) (base p : Nat) (S : Nat → List Fr) (h : At w base p S) (r k : Int) (he : wordE S r k ≠ 0) : Calls Try.prog 22 #[.pointer (some ⟨p, 0, none⟩), .int .i64 r, .int .i64 k] w fun e w' => e = .returned (.tuple #[.pointer none, .int .i64 (wordE S r k)]) ∧ w = w' := by
  by_cases h0 : topE S r = 0
  · obtain ⟨n, L, x, rfl, hn, hS⟩ := topE_zero h0
    obtain ⟨g, o, cap, hc, hcap, hcl, hfg, hfp, _, _⟩ := h.top hn hS
    have hl := h.len n
    rw [hS] at hl
    simp only [List.length_append, List.length_cons, List.length_nil] at hl
    have hk : ¬ (0 ≤ k ∧ k < 7) := by
      intro hk
      unfold wordE at he
      rw [if_pos h0, if_pos hk] at he
      exact he rfl
    have e8 : wordE S n k = 8 := by unfold wordE; rw [if_pos h0, if_neg hk]
    rw [e8]
    exact word_no2 w p n L.length g o cap hn (by omega) hc k hk
  · have e8 : wordE S r k = topE S r := by unfold wordE; rw [if_neg h0]
    rw [e8]
    exact word_no1 w base p S h r k h0
theorem read_no (w : World) (base p : Nat) (S : Nat → List Fr) (h : At w base p S) (r k : Int) (he : wordE S r k ≠ 0) : Calls Try.prog 15 #[.pointer (some ⟨p, 0, none⟩), .int .i64 r, .int .i64 k] w fun e w' => e = .returned (.tuple #[.int .u64 0, .int .i64 (wordE S r k)]) ∧ w = w' := by
  have ht := word_no w base p S h r k he
  generalize wordE S r k = x at ht he
  clear h
  go_enter Try.func15, Try.ntmps15
  go_wp2_with fail
  refine (ht).mono ?_
  rintro e w' ⟨rfl, rfl⟩
  go_wp2
  go_ret2
  exact ⟨rfl, rfl⟩
theorem read_yes (w : World) (base p : Nat) (S : Nat → List Fr) (h : At w base p S) (r : Nat) (hr : r < 8) (L : List Fr) (x : Fr) (hS : S r = L ++ [x]) (k : Nat) (hk : k < 7) : Calls Try.prog 15 #[.pointer (some ⟨p, 0, none⟩), .int .i64 (r : Int), .int .i64 (k : Int)] w fun e w' => e = .returned (.tuple #[.int .u64 (x.w k), .int .i64 0]) ∧ w = w' := by
  obtain ⟨g, o, cap, hc, hcap, hcl, hfg, hfp, _, _⟩ := h.top hr hS
  have hl := h.len r
  rw [hS] at hl
  simp only [List.length_append, List.length_cons, List.length_nil] at hl
  have ht := word_yes w p r L.length g o cap hr (by omega) hc k hk
  have ck := hcl k _ (cells_get x k hk)
  clear hcl hfg hfp hc hS hl h
  generalize o + L.length * 11 + k = q at *
  go_enter Try.func15, Try.ntmps15
  go_wp2_with fail
  refine (ht).mono ?_
  rintro e w' ⟨rfl, rfl⟩
  go_wp2
  go_ret2
  exact ⟨rfl, rfl⟩
theorem write_no (w : World) (base p : Nat) (S : Nat → List Fr) (h : At w base p S) (r k u : Int) (he : wordE S r k ≠ 0) : Calls Try.prog 16 #[.pointer (some ⟨p, 0, none⟩), .int .i64 r, .int .i64 k, .int .u64 u] w fun e w' => e = .returned (.int .i64 (wordE S r k)) ∧ w = w' := by
  have ht := word_no w base p S h r k he
  generalize wordE S r k = x at ht he
  clear h
  go_enter Try.func16, Try.ntmps16
  go_wp2_with fail
  refine (ht).mono ?_
  rintro e w' ⟨rfl, rfl⟩
  go_wp2
  go_ret
  exact ⟨rfl, rfl⟩
theorem write_yes (w : World) (base p : Nat) (S : Nat → List Fr) (h : At w base p S) (r : Nat) (hr : r < 8) (L : List Fr) (x : Fr) (hS : S r = L ++ [x]) (k : Nat) (hk : k < 7) (u : Int) : Calls Try.prog 16 #[.pointer (some ⟨p, 0, none⟩), .int .i64 (r : Int), .int .i64 (k : Int), .int .u64 u] w fun e w' => e = .returned (.int .i64 0) ∧ At w' base p (upd S r (L ++ [x.put k (Go.bits .and .u64 u 68719476735)])) ∧ Keeps (FT w base) w w' := by
  obtain ⟨g, o, cap, hc, hcap, hcl, hfg, hfp, hst, _⟩ := h.top hr hS
  have hl := h.len r
  rw [hS] at hl
  simp only [List.length_append, List.length_cons, List.length_nil] at hl
  have ht := word_yes w p r L.length g o cap hr (by omega) hc k hk
  have ck := hcl k _ (cells_get x k hk)
  have fk := hfg (o + L.length * 11 + k)
  have A := hid (hst w (New.refl w) k (Go.bits .and .u64 u 68719476735) hk)
  clear hcl hfg hfp hc hS hl h hst
  go_enter Try.func16, Try.ntmps16
  go_wp2_with fail
  refine (ht).mono ?_
  rintro e w' ⟨rfl, rfl⟩
  go_wp2
  go_ret
  exact ⟨rfl, A.out.1, A.out.2⟩
/-- What Push refuses. -/
def pushE (S : Nat → List Fr) (r a b c d : Int) : Int := if (0 ≤ r ∧ r < 8) ∧ mayB a b c d = true then (if 16 ≤ (S r.toNat).length then 18 else 0) else 1
theorem push_arg1 (w : World) (p : Nat) (r a b c d : Int) (hr : ¬ (0 ≤ r ∧ r < 8)) : Calls Try.prog 11 #[.pointer (some ⟨p, 0, none⟩), .int .i64 r, pt a b c d] w fun e w' => e = .returned (.int .i64 1) ∧ New w w' := by
  have ht := fun W => there_any W p r
  rw [decide_eq_false hr] at ht
  go_enter Try.func11, Try.ntmps11
  go_wp2_with fail
  refine (ht _).mono ?_
  rintro e w' ⟨rfl, rfl⟩
  go_wp2
  go_ret
  exact ⟨rfl, by (repeat (first | exact New.refl _ | (refine New.step ?_ (by assumption)) | apply New.alloc | apply New.drewN | apply New.drew))⟩
theorem push_arg2 (w : World) (p : Nat) (r a b c d : Int) (hr : 0 ≤ r ∧ r < 8) (hm : mayB a b c d = false) : Calls Try.prog 11 #[.pointer (some ⟨p, 0, none⟩), .int .i64 r, pt a b c d] w fun e w' => e = .returned (.int .i64 1) ∧ New w w' := by
  have ht := fun W => there_any W p r
  rw [decide_eq_true hr] at ht
  have hmm := may_any a b c d
  rw [hm] at hmm
  go_enter Try.func11, Try.ntmps11
  go_wp2_with fail
  refine (ht _).mono ?_
  rintro e w' ⟨rfl, rfl⟩
  go_wp2_with fail
  refine (hmm _).mono ?_
  rintro e w1 ⟨rfl, hn⟩
  have hn1 := New.step ((New.refl w).alloc _) hn
  go_wp2
  go_ret
  exact ⟨rfl, hn1⟩
theorem push_full (w : World) (base p : Nat) (S : Nat → List Fr) (h : At w base p S) (r : Nat) (hr : r < 8) (a b c d : Int) (hm : mayB a b c d = true) (hf : (S r).length = 16) : Calls Try.prog 11 #[.pointer (some ⟨p, 0, none⟩), .int .i64 (r : Int), pt a b c d] w fun e w' => e = .returned (.int .i64 18) ∧ New w w' := by
  have ht := fun W => there_any W p r
  rw [decide_eq_true (by omega)] at ht
  have hmm := may_any a b c d
  rw [hm] at hmm
  obtain ⟨vs, ha, hs, _⟩ := h.row
  have hc := ha.cell hr
  obtain ⟨x, cap, hv⟩ := (hs r hr).val
  rw [hv, hf] at hc
  have i0 : (0 : Int) ≤ (r : Int) := by omega
  have i1 : (r : Int) < 8 := by omega
  have hpl := h.lt
  clear hv hs ha h hf hm
  go_enter Try.func11, Try.ntmps11
  go_wp2_with fail
  refine (ht _).mono ?_
  rintro e w' ⟨rfl, rfl⟩
  go_wp2_with fail
  refine (hmm _).mono ?_
  rintro e w1 ⟨rfl, hn⟩
  have hn1 := New.step ((New.refl w).alloc _) hn
  have hc1 := hn1.cellK hc
  go_wp2
  go_ret
  exact ⟨rfl, hn1⟩
theorem At.sl {w : World} {base p : Nat} {S : Nat → List Fr} (h : At w base p S) {r : Nat} (hr : r < 8) {v : Value} (hc : w.cell? ⟨p, r, none⟩ = some v) : Sl w base 60 11 v (S r).length (flat (S r)) := by
  obtain ⟨vs, ha, hs, hd⟩ := h.row
  have h1 := ha.cell hr
  rw [hc] at h1
  rw [Option.some.inj h1]
  exact hs r hr
theorem At.pushed {w W w3 : World} {base p : Nat} {S : Nat → List Fr} (h : At w base p S) {r : Nat} (hr : r < 8) {v v' : Value} (hc : w.cell? ⟨p, r, none⟩ = some v) (hW : New w W) {x : Fr} (hl : (S r).length < 16) (hbase : base ≤ w.heap.size)
    (hs3 : Sl w3 base 60 11 v' ((S r).length + 1) (flat (S r) ++ x.cells)) (hg3 : W.grownBy w3 v.ownBlock) (hb3 : v'.ownBlock = v.ownBlock ∨ ∃ g, v'.ownBlock = some g ∧ W.heap.size ≤ g) :
    w3.cell? ⟨p, r, none⟩ = some v ∧ w3.frozen? ⟨p, r, none⟩ = false ∧ At (w3.setCell ⟨p, r, none⟩ v') base p (upd S r (S r ++ [x])) ∧ Keeps (FT w base) w (w3.setCell ⟨p, r, none⟩ v') := by
  have hsl := h.sl hr hc
  obtain ⟨vs, ha, hs, hd⟩ := h.row
  have h1 := ha.cell hr
  rw [hc] at h1
  have hv : v = vs r := Option.some.inj h1
  have hpl := ha.lt
  have hWs := hW.size
  have hpF : FT w base p := by
    obtain ⟨arr, hb, _⟩ := ha
    exact ⟨h.base, .inl ⟨arr, hb⟩⟩
  have tne : ∀ {W : World} {arr arr' : Array Value} {g : Nat}, Blk W g 57 arr → Blk W g 60 arr' → False := fun h h' => absurd (h.inj h') (by decide)
  have hpn : v'.ownBlock ≠ some p := by
    intro e
    rcases hb3 with e2 | ⟨g, e2, hg⟩
    · rw [e] at e2
      obtain ⟨_, arr', hb'⟩ := hsl.blk e2.symm
      obtain ⟨arr, hb, _⟩ := ha
      exact tne hb hb'
    · rw [e] at e2
      cases e2
      omega
  have hpv : v.ownBlock ≠ some p := by
    intro e
    obtain ⟨_, arr', hb'⟩ := hsl.blk e
    obtain ⟨arr, hb, _⟩ := ha
    exact tne hb hb'
  have hk3 : Keeps (FT w base) w w3 := (hW.keeps _).grown hg3 (fun k hk => by
    have := hsl.blk hk
    exact .inr ⟨this.1, .inr this.2⟩)
  have ha3 : Arr w3 p 57 8 vs := by
    obtain ⟨arr, hb, h8, hg⟩ := ha
    exact ⟨arr, (hb.new_ hW).grown hg3 (fun e => hpv e.symm), h8, hg⟩
  have hoth : ∀ r', r' < 8 → r' ≠ r → ∀ g, (vs r').ownBlock = some g → v'.ownBlock ≠ some g := by
    intro r' hr' hne g hg e
    rcases hb3 with e2 | ⟨g2, e2, hg2⟩
    · rw [e] at e2
      rw [hv] at e2
      exact hd r' r hr' hr hne g hg e2.symm
    · rw [e] at e2
      cases e2
      have := ((hs r' hr').lt g hg).2
      omega
  refine ⟨?_, ha3.frozen r, ⟨⟨fun k => if k = r then v' else vs k, ha3.set r v', fun r' hr' => ?_, fun r1 r2 h1 h2 hn g hg => ?_⟩, h.base, fun r' => ?_⟩, hk3.setCell (.inr hpF) _⟩
  · rw [ha3.cell hr, hv]
  · dsimp only
    by_cases e : r' = r
    · subst e
      have e2 : upd S r' (S r' ++ [x]) r' = S r' ++ [x] := if_pos rfl
      rw [if_pos rfl, e2, flat_app, flat_one, List.length_append]
      exact hs3.far (fun g hg e3 => hpn (by rw [hg, show g = p from e3])) _
    · have e2 : upd S r (S r ++ [x]) r' = S r' := if_neg e
      rw [if_neg e, e2]
      refine (((hs r' hr').new_ hW).grown hg3 (fun g hg e3 => hd r' r hr' hr e g hg (by rw [← hv]; exact e3.symm))).far (fun g hg e3 => ?_) _
      obtain ⟨_, arr', hb'⟩ := (hs r' hr').blk hg
      obtain ⟨arr, hb, _⟩ := ha
      rw [show g = p from e3] at hb'
      exact tne hb hb'
  · dsimp only at hg ⊢
    by_cases e1 : r1 = r
    · rw [if_pos e1] at hg
      have e2 : ¬ r2 = r := fun e => hn (e1.trans e.symm)
      rw [if_neg e2]
      exact fun e => hoth r2 h2 e2 g e hg
    · rw [if_neg e1] at hg
      by_cases e2 : r2 = r
      · rw [if_pos e2]
        exact hoth r1 h1 e1 g hg
      · rw [if_neg e2]
        exact hd r1 r2 h1 h2 hn g hg
  · by_cases e : r' = r
    · subst e
      have e2 : upd S r' (S r' ++ [x]) r' = S r' ++ [x] := if_pos rfl
      rw [e2, List.length_append]
      show _ + 1 ≤ 16
      omega
    · have e2 : upd S r (S r ++ [x]) r' = S r' := if_neg e
      rw [e2]
      exact h.len r'
theorem frame_info : (Try.prog.info? 60).map (fun i => (i.zero.map (fun z => z.cells.size), i.size, i.bytes)) = some (some 11, 11, 88) := by kernel_rfl
theorem push_yes (w : World) (base p : Nat) (S : Nat → List Fr) (h : At w base p S) (hbase : base ≤ w.heap.size) (r : Nat) (hr : r < 8) (a b c d : Int) (hm : mayB a b c d = true) (hf : (S r).length < 16) : Calls Try.prog 11 #[.pointer (some ⟨p, 0, none⟩), .int .i64 (r : Int), pt a b c d] w fun e w' => e = .returned (.int .i64 0) ∧ At w' base p (upd S r (S r ++ [⟨fun _ => 0, a, b, c, d⟩])) ∧ Keeps (FT w base) w w' := by
  have ht := fun W => there_any W p r
  rw [decide_eq_true (by omega)] at ht
  have hmm := may_any a b c d
  rw [hm] at hmm
  obtain ⟨vs, ha, hs, hd⟩ := h.row
  have hc := ha.cell hr
  obtain ⟨x, cap, hv⟩ := (hs r hr).val
  rw [hv] at hc
  have i0 : (0 : Int) ≤ (r : Int) := by omega
  have i1 : (r : Int) < 8 := by omega
  have hpl := h.lt
  have i2 : ¬ (16 : Int) ≤ ((S r).length : Int) := by omega
  obtain ⟨ti, hi, hzz⟩ := Option.map_eq_some_iff.1 frame_info
  simp only [Prod.mk.injEq] at hzz
  obtain ⟨hz1, hz2, hz3⟩ := hzz
  obtain ⟨z, hz4, hz5⟩ := Option.map_eq_some_iff.1 hz1
  have hfr0 := ha.frozen r
  have A := hid (And.intro h (And.intro hi (And.intro (And.intro hz2 hz3) (And.intro hz4 hz5))))
  have HF := hid hf
  clear hv hs ha h hf hm hd hi hz1 hz2 hz3 hz4 hz5
  go_enter Try.func11, Try.ntmps11
  go_wp2_with fail
  refine (ht _).mono ?_
  rintro e w' ⟨rfl, rfl⟩
  go_wp2_with fail
  refine (hmm _).mono ?_
  rintro e w1 ⟨rfl, hn⟩
  have hn1 := New.step ((New.refl w).alloc _) hn
  have hc1 := hn1.cellK hc
  have hcb := boxed hn
  have hfb := hn1.cells.2 p r hpl
  rw [hfr0] at hfb
  have h0 := A.out.1
  have hf0 := HF.out
  have HX := hid (fun (W : World) (hW : New w W) v' w3 hs3 hg3 hb3 => h0.pushed (W := W) (w3 := w3) hr hc hW (x := ⟨fun _ => 0, a, b, c, d⟩) (v' := v') hf0 hbase hs3 hg3 hb3)
  have HN : Hid (∀ W : World, W.heap[w1.heap.size]? = some (.cells (Fr.cells ⟨fun _ => 0, a, b, c, d⟩).toArray 60 (0, 0)) → ∀ j u, (Fr.cells ⟨fun _ => 0, a, b, c, d⟩)[j]? = some u → W.cell? ((⟨w1.heap.size, 0, none⟩ : Addr).add j) = some u) := by
    intro W hW j u hu
    rw [Addr.add_lit, Nat.zero_add, Blk.cell hW, List.getElem?_toArray]
    exact hu
  have HN1 : Hid (∀ u ∈ Fr.cells ⟨fun _ => 0, a, b, c, d⟩, u.oneCell' = true) := by
    intro u hu
    simp only [Fr.cells, List.mem_cons, List.not_mem_nil, or_false] at hu
    rcases hu with rfl | rfl | rfl | rfl | rfl | rfl | rfl | rfl | rfl | rfl | rfl <;> rfl
  have hbs : base ≤ w1.heap.size := by have := hn1.size; omega
  have hpw : p < w1.heap.size := by have := hn1.size; omega
  have hpw2 : w.heap.size < w1.heap.size := by have := hn.size; rw [World.size_alloc] at this; omega
  have HS := hid (h0.sl hr hc)
  clear ht hmm h0 hf0
  go_wp2_with fail
  go_region_law (refine step_append_sl rfl (.tmp 33) (.tmp 36) 54 rfl base 60 ti z 11 88 Try.underlying54 A.out.2.1 A.out.2.2.2.1 A.out.2.2.1.1 A.out.2.2.1.2 A.out.2.2.2.2 (by decide) (.slice x (S r).length cap) (S r).length (flat (S r)) rfl (HS.out.new_ (by first | exact (hn1.alloc _).drew | exact (hn1.drew).alloc _)) ⟨w1.heap.size, 0, none⟩ 1 1 (Fr.cells ⟨fun _ => 0, a, b, c, d⟩) rfl (by decide) rfl (HN.out _ (heap_alloc_new w1 _)) HN1.out (by unfold maxLen; omega) (by omega) (by show base ≤ (w1.alloc _).heap.size; rw [World.size_alloc]; omega) ?_; intro v' w3 hs3 hg3 hb3; obtain ⟨a', cap', rfl⟩ := hs3.val; obtain ⟨hc3, hf3, hA3⟩ := HX.out _ (by first | exact (hn1.alloc _).drew | exact (hn1.drew).alloc _) _ w3 hs3 hg3 hb3; have HA3 := hid hA3; clear hA3)
  all_goals
    go_wp2_with fail
    go_ret
    exact ⟨rfl, HA3.out.1, HA3.out.2⟩
end Go.Proofs.Ytfgfhaknecolpaa.Frames
