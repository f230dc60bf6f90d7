/- FramesPlay's own model of the stacks: a block of eight slices of the law's own frames. Printed by wip/mkplay.py out of XFrames. -/
import Derived.Test.YtfgfhaknecolpaaFrames
namespace Go.Proofs.Ytfgfhaknecolpaa.Play
open Go Go.RowKit Go.Proofs.Ytfgfhaknecolpaa.Kit Go.Proofs.Ytfgfhaknecolpaa.Point
open Go.Proofs.Ytfgfhaknecolpaa.Frames (Fr Fr.put upd nothing)
set_option linter.unusedSimpArgs false
set_option linter.unusedVariables false
def mcells (f : Fr) : List Value := [.int .i64 f.a, .int .i64 f.b, .int .i64 f.c, .int .i64 f.d, .int .u64 (f.w 0), .int .u64 (f.w 1), .int .u64 (f.w 2), .int .u64 (f.w 3), .int .u64 (f.w 4), .int .u64 (f.w 5), .int .u64 (f.w 6)]
def flat (L : List Fr) : List Value := L.flatMap mcells
theorem flat_nil : flat [] = [] := rfl
theorem flat_app (L M : List Fr) : flat (L ++ M) = flat L ++ flat M := by unfold flat; rw [List.flatMap_append]
theorem flat_one (x : Fr) : flat [x] = (mcells x) := by simp [flat]
theorem flat_len (L : List Fr) : (flat L).length = L.length * 11 := by
  induction L with
  | nil => rfl
  | cons x t ih =>
    have : flat (x :: t) = (mcells x) ++ flat t := rfl
    rw [this, List.length_append, ih, List.length_cons]
    show 11 + _ = _
    omega
theorem cells_put (f : Fr) (k : Nat) (hk : k < 7) (x : Int) : (mcells f).set (4 + k) (.int .u64 x) = mcells (f.put k x) := by
  rcases (show k = 0 ∨ k = 1 ∨ k = 2 ∨ k = 3 ∨ k = 4 ∨ k = 5 ∨ k = 6 by omega) with rfl | rfl | rfl | rfl | rfl | rfl | rfl <;> rfl
theorem cells_get (f : Fr) (k : Nat) (hk : k < 7) : (mcells f)[4 + k]? = some (.int .u64 (f.w k)) := by
  rcases (show k = 0 ∨ k = 1 ∨ k = 2 ∨ k = 3 ∨ k = 4 ∨ k = 5 ∨ k = 6 by omega) with rfl | rfl | rfl | rfl | rfl | rfl | rfl <;> rfl
theorem flat_put (L : List Fr) (x : Fr) (k : Nat) (hk : k < 7) (u : Int) : (flat (L ++ [x])).set (L.length * 11 + (4 + k)) (.int .u64 u) = flat (L ++ [x.put k u]) := by
  rw [flat_app, flat_app, flat_one, flat_one, List.set_append_right _ _ (by rw [flat_len]; omega), flat_len, Nat.add_sub_cancel_left, cells_put x k hk]
theorem flat_get (L : List Fr) (x : Fr) (k : Nat) : (flat (L ++ [x]))[L.length * 11 + k]? = (mcells x)[k]? := by
  rw [flat_app, flat_one, List.getElem?_append_right (by rw [flat_len]; omega), flat_len, Nat.add_sub_cancel_left]
/-- The blocks of the stacks, by their types. -/
def FT (w : World) (base i : Nat) : Prop := base ≤ i ∧ ((∃ arr, Blk w i 27 arr) ∨ ∃ arr, Blk w i 39 arr)
structure At (w : World) (base p : Nat) (S : Nat → List Fr) : Prop where
  row : ∃ vs : Nat → Value, Arr w p 27 8 vs ∧ (∀ r, r < 8 → Sl w base 39 11 (vs r) (S r).length (flat (S r))) ∧ (∀ r r', r < 8 → r' < 8 → r ≠ r' → ∀ g, (vs r).ownBlock = some g → (vs r').ownBlock ≠ some g)
  base : base ≤ p
  len : ∀ r, (S r).length ≤ 16
theorem At.keeps {w w' : World} {base p : Nat} {S : Nat → List Fr} (h : At w base p S) {F : Nat → Prop} (k : Keeps F w w') (hF : ∀ i, FT w base i → ¬ F i) : At w' base p S := by
  obtain ⟨vs, ha, hs, hd⟩ := h.row
  refine ⟨⟨vs, ha.keeps k (hF _ ⟨h.base, .inl ?_⟩), fun r hr => (hs r hr).keeps k fun g hg => hF _ ?_, hd⟩, h.base, h.len⟩
  · obtain ⟨arr, hb, _⟩ := ha
    exact ⟨arr, hb⟩
  · have := (hs r hr).blk hg
    exact ⟨this.1, .inr this.2⟩
theorem At.new_ {w w' : World} {base p : Nat} {S : Nat → List Fr} (h : At w base p S) (k : New w w') : At w' base p S := h.keeps (k.keeps (fun _ => False)) fun _ _ h => h
theorem At.drewN {w : World} {base p : Nat} {S : Nat → List Fr} (h : At w base p S) (n : Nat) : At (w.drewN n) base p S := h.new_ ((New.refl w).drewN n)
theorem At.lt {w : World} {base p : Nat} {S : Nat → List Fr} (h : At w base p S) : p < w.heap.size := by
  obtain ⟨vs, ha, _⟩ := h.row
  exact ha.lt
theorem FT.not {w : World} {base g : Nat} {t : TypeId} {arr : Array Value} (h : Blk w g t arr) (h1 : t ≠ 27) (h2 : t ≠ 39) : ¬ FT w base g := by
  rintro ⟨_, ⟨a, hb⟩ | ⟨a, hb⟩⟩
  · exact h1 (h.inj hb)
  · exact h2 (h.inj hb)
/-- What the last frame's place gives. -/
theorem At.top {w : World} {base p : Nat} {S : Nat → List Fr} (h : At w base p S) {r : Nat} (hr : r < 8) {L : List Fr} {x : Fr} (hS : S r = L ++ [x]) :
    ∃ g o cap, w.cell? ⟨p, r, none⟩ = some (.slice (some ⟨g, o, none⟩) (L.length + 1) cap) ∧ L.length + 1 ≤ cap ∧ (∀ k u, (mcells x)[k]? = some u → w.cell? ⟨g, o + L.length * 11 + k, none⟩ = some u) ∧ (∀ k, w.frozen? ⟨g, k, none⟩ = false) ∧ w.frozen? ⟨p, r, none⟩ = false ∧
      (∀ W, New w W → ∀ k u, k < 7 → At (W.setCell ⟨g, o + L.length * 11 + 4 + k, none⟩ (.int .u64 u)) base p (upd S r (L ++ [x.put k u])) ∧ Keeps (FT w base) w (W.setCell ⟨g, o + L.length * 11 + 4 + k, none⟩ (.int .u64 u))) ∧
      (∀ W, New w W → At (W.setCell ⟨p, r, none⟩ (.slice (some ⟨g, o, none⟩) L.length cap)) base p (upd S r L) ∧ Keeps (FT w base) w (W.setCell ⟨p, r, none⟩ (.slice (some ⟨g, o, none⟩) L.length cap))) := by
  obtain ⟨vs, ha0, hs0, hd⟩ := h.row
  have ha := ha0
  have hs := hs0
  have hsr := hs r hr
  have hlen : (S r).length = L.length + 1 := by rw [hS]; simp
  obtain ⟨g, o, cap, hv, hb, hg, hcap, hcl, hfr⟩ := hsr.form (by omega)
  rw [hlen] at hv hcap
  have hown : (vs r).ownBlock = some g := by rw [hv]; rfl
  have hbg := hsr.blk hown
  have hp : FT w base p := by
    obtain ⟨arr, hb, _⟩ := ha
    exact ⟨h.base, .inl ⟨arr, hb⟩⟩
  have hgF : FT w base g := ⟨hbg.1, .inr hbg.2⟩
  have hgp : g ≠ p := by
    rintro rfl
    obtain ⟨arr, hb, _⟩ := ha
    obtain ⟨_, arr', hb'⟩ := hbg
    exact absurd (hb.inj hb') (by decide)
  have hc := ha.cell hr
  rw [hv] at hc
  refine ⟨g, o, cap, hc, hcap, fun k u hu => ?_, hfr, ha.frozen r, fun W hW k u hk => ⟨⟨⟨vs, (ha.new_ hW).far hgp.symm _, fun r' hr' => ?_, hd⟩, h.base, fun r' => ?_⟩, Keeps.setCell (hW.keeps _) (.inr hgF) _⟩, fun W hW => ⟨⟨⟨fun k => if k = r then .slice (some ⟨g, o, none⟩) L.length cap else vs k, (ha.new_ hW).set r _, fun r' hr' => ?_, fun r1 r2 h1 h2 hn g' hg' => ?_⟩, h.base, fun r' => ?_⟩, Keeps.setCell (hW.keeps _) (.inr hp) _⟩⟩
  · have := hcl (L.length * 11 + k) u (by rw [hS, flat_get]; exact hu)
    rw [← Nat.add_assoc] at this
    exact this
  · by_cases e : r' = r
    · subst e
      have h2 := hsr.new_ hW
      rw [hv, hlen] at h2
      have h3 := h2.setAt (L.length * 11 + (4 + k)) (by omega) (.int .u64 u)
      rw [hS, flat_put _ _ _ hk, ← Nat.add_assoc, ← Nat.add_assoc] at h3
      have e2 : upd S r' (L ++ [x.put k u]) r' = L ++ [x.put k u] := if_pos rfl
      rw [e2, hv, List.length_append]
      exact h3
    · have e2 : upd S r (L ++ [x.put k u]) r' = S r' := if_neg e
      rw [e2]
      exact ((hs r' hr').new_ hW).far (fun g' hg' e3 => hd r' r hr' hr e g' hg' (by rw [hown, show g' = g from e3])) _
  · by_cases e : r' = r
    · subst e
      have e2 : upd S r' (L ++ [x.put k u]) r' = L ++ [x.put k u] := if_pos rfl
      have := h.len r'
      rw [e2]
      rw [hS] at this
      simpa using this
    · have e2 : upd S r (L ++ [x.put k u]) r' = S r' := if_neg e
      rw [e2]
      exact h.len r'
  · dsimp only
    by_cases e : r' = r
    · subst e
      have e2 : upd S r' L r' = L := if_pos rfl
      rw [if_pos rfl, e2]
      have h2 := hsr.new_ hW
      rw [hv, hlen, hS, flat_app] at h2
      exact (h2.cutTo (by omega) (flat_len L)).far (fun g' hg' e3 => by cases hg'; exact hgp e3) _
    · have e2 : upd S r L r' = S r' := if_neg e
      rw [if_neg e, e2]
      refine ((hs r' hr').new_ hW).far (fun g' hg' e3 => ?_) _
      obtain ⟨arr, hb, _⟩ := ha
      obtain ⟨_, arr', hb'⟩ := (hs r' hr').blk hg'
      rw [show g' = p from e3] at hb'
      exact absurd (hb.inj hb') (by decide)
  · dsimp only at hg' ⊢
    by_cases e1 : r1 = r
    · rw [if_pos e1] at hg'
      have hg2 : g' = g := by cases hg'; rfl
      subst e1
      have e2 : ¬ r2 = r1 := fun e => hn e.symm
      rw [if_neg e2]
      rw [hg2]
      exact hd r1 r2 h1 h2 hn g hown
    · rw [if_neg e1] at hg'
      by_cases e2 : r2 = r
      · rw [if_pos e2]
        intro e3
        have hg2 : g' = g := by cases e3; rfl
        subst e2
        exact hd r1 r2 h1 h2 hn g' hg' (by rw [hown, hg2])
      · rw [if_neg e2]
        exact hd r1 r2 h1 h2 hn g' hg'
  · by_cases e : r' = r
    · subst e
      have e2 : upd S r' L r' = L := if_pos rfl
      have := h.len r'
      rw [e2]
      omega
    · have e2 : upd S r L r' = S r' := if_neg e
      rw [e2]
      exact h.len r'
theorem At.sl {w : World} {base p : Nat} {S : Nat → List Fr} (h : At w base p S) {r : Nat} (hr : r < 8) {v : Value} (hc : w.cell? ⟨p, r, none⟩ = some v) : Sl w base 39 11 v (S r).length (flat (S r)) := by
  obtain ⟨vs, ha, hs, hd⟩ := h.row
  have h1 := ha.cell hr
  rw [hc] at h1
  rw [Option.some.inj h1]
  exact hs r hr
theorem At.pushed {w W w3 : World} {base p : Nat} {S : Nat → List Fr} (h : At w base p S) {r : Nat} (hr : r < 8) {v v' : Value} (hc : w.cell? ⟨p, r, none⟩ = some v) (hW : New w W) {x : Fr} (hl : (S r).length < 16) (hbase : base ≤ w.heap.size)
    (hs3 : Sl w3 base 39 11 v' ((S r).length + 1) (flat (S r) ++ (mcells x))) (hg3 : W.grownBy w3 v.ownBlock) (hb3 : v'.ownBlock = v.ownBlock ∨ ∃ g, v'.ownBlock = some g ∧ W.heap.size ≤ g) :
    w3.cell? ⟨p, r, none⟩ = some v ∧ w3.frozen? ⟨p, r, none⟩ = false ∧ At (w3.setCell ⟨p, r, none⟩ v') base p (upd S r (S r ++ [x])) ∧ Keeps (FT w base) w (w3.setCell ⟨p, r, none⟩ v') := by
  have hsl := h.sl hr hc
  obtain ⟨vs, ha, hs, hd⟩ := h.row
  have h1 := ha.cell hr
  rw [hc] at h1
  have hv : v = vs r := Option.some.inj h1
  have hpl := ha.lt
  have hWs := hW.size
  have hpF : FT w base p := by
    obtain ⟨arr, hb, _⟩ := ha
    exact ⟨h.base, .inl ⟨arr, hb⟩⟩
  have tne : ∀ {W : World} {arr arr' : Array Value} {g : Nat}, Blk W g 27 arr → Blk W g 39 arr' → False := fun h h' => absurd (h.inj h') (by decide)
  have hpn : v'.ownBlock ≠ some p := by
    intro e
    rcases hb3 with e2 | ⟨g, e2, hg⟩
    · rw [e] at e2
      obtain ⟨_, arr', hb'⟩ := hsl.blk e2.symm
      obtain ⟨arr, hb, _⟩ := ha
      exact tne hb hb'
    · rw [e] at e2
      cases e2
      omega
  have hpv : v.ownBlock ≠ some p := by
    intro e
    obtain ⟨_, arr', hb'⟩ := hsl.blk e
    obtain ⟨arr, hb, _⟩ := ha
    exact tne hb hb'
  have hk3 : Keeps (FT w base) w w3 := (hW.keeps _).grown hg3 (fun k hk => by
    have := hsl.blk hk
    exact .inr ⟨this.1, .inr this.2⟩)
  have ha3 : Arr w3 p 27 8 vs := by
    obtain ⟨arr, hb, h8, hg⟩ := ha
    exact ⟨arr, (hb.new_ hW).grown hg3 (fun e => hpv e.symm), h8, hg⟩
  have hoth : ∀ r', r' < 8 → r' ≠ r → ∀ g, (vs r').ownBlock = some g → v'.ownBlock ≠ some g := by
    intro r' hr' hne g hg e
    rcases hb3 with e2 | ⟨g2, e2, hg2⟩
    · rw [e] at e2
      rw [hv] at e2
      exact hd r' r hr' hr hne g hg e2.symm
    · rw [e] at e2
      cases e2
      have := ((hs r' hr').lt g hg).2
      omega
  refine ⟨?_, ha3.frozen r, ⟨⟨fun k => if k = r then v' else vs k, ha3.set r v', fun r' hr' => ?_, fun r1 r2 h1 h2 hn g hg => ?_⟩, h.base, fun r' => ?_⟩, hk3.setCell (.inr hpF) _⟩
  · rw [ha3.cell hr, hv]
  · dsimp only
    by_cases e : r' = r
    · subst e
      have e2 : upd S r' (S r' ++ [x]) r' = S r' ++ [x] := if_pos rfl
      rw [if_pos rfl, e2, flat_app, flat_one, List.length_append]
      exact hs3.far (fun g hg e3 => hpn (by rw [hg, show g = p from e3])) _
    · have e2 : upd S r (S r ++ [x]) r' = S r' := if_neg e
      rw [if_neg e, e2]
      refine (((hs r' hr').new_ hW).grown hg3 (fun g hg e3 => hd r' r hr' hr e g hg (by rw [← hv]; exact e3.symm))).far (fun g hg e3 => ?_) _
      obtain ⟨_, arr', hb'⟩ := (hs r' hr').blk hg
      obtain ⟨arr, hb, _⟩ := ha
      rw [show g = p from e3] at hb'
      exact tne hb hb'
  · dsimp only at hg ⊢
    by_cases e1 : r1 = r
    · rw [if_pos e1] at hg
      have e2 : ¬ r2 = r := fun e => hn (e1.trans e.symm)
      rw [if_neg e2]
      exact fun e => hoth r2 h2 e2 g e hg
    · rw [if_neg e1] at hg
      by_cases e2 : r2 = r
      · rw [if_pos e2]
        exact hoth r1 h1 e1 g hg
      · rw [if_neg e2]
        exact hd r1 r2 h1 h2 hn g hg
  · by_cases e : r' = r
    · subst e
      have e2 : upd S r' (S r' ++ [x]) r' = S r' ++ [x] := if_pos rfl
      rw [e2, List.length_append]
      show _ + 1 ≤ 16
      omega
    · have e2 : upd S r (S r ++ [x]) r' = S r' := if_neg e
      rw [e2]
      exact h.len r'
/-- What the code may write is no block of the model, and the other way round. -/
theorem not_code {w : World} {base i : Nat} (h : FT w base i) : ¬ Frames.FT w base i := by
  rintro ⟨_, ⟨a, hb⟩ | ⟨a, hb⟩⟩ <;> rcases h with ⟨_, ⟨a', hb'⟩ | ⟨a', hb'⟩⟩ <;> exact absurd (hb.inj hb') (by decide)
theorem mframe_info : (Try.prog.info? 39).map (fun i => (i.zero.map (fun z => z.cells.size), i.size, i.bytes)) = some (some 11, 11, 88) := by kernel_rfl
theorem z_run (w : World) : (zeroValue 27).run Try.prog w = .ok (.agg (zarr 8 (.slice none 0 0))) w := by kernel_rfl
theorem At.new (w : World) (base : Nat) (hb : base ≤ w.heap.size) : At (w.alloc (.cells (zarr 8 (.slice none 0 0)) 27)) base w.heap.size nothing :=
  ⟨⟨_, Arr.new w _ 8 (.slice none 0 0), fun r hr => Sl.nil _ _ _ _, fun r r' _ _ _ g hg => by cases hg⟩, hb, fun r => Nat.zero_le _⟩
end Go.Proofs.Ytfgfhaknecolpaa.Play
