/- The contract of the reference's read. -/
import Derived.Test.YtnoahdobgndmnaaRefP
import Derived.Test.YtnoahdobgndmnaaObjE
import Derived.Deep.CutRange
import Derived.BigQuiet
import Derived.Deep.CutBlock
namespace Go.Proofs.Ytnoahdobgndmnaa.Obj
open Go Go.RowKit Go.Maps Go.Proofs.Ytnoahdobgndmnaa.Kit Go.Proofs.Ytnoahdobgndmnaa.Str Go.Proofs.Ytnoahdobgndmnaa.Names Go.Proofs.Ytnoahdobgndmnaa.Let
open Go.Proofs.Ytnoahdobgndmnaa.Letters (wv WsAt word_info)
set_option linter.unusedSimpArgs false
set_option linter.unusedVariables false
theorem zero_four (w : World) : (zeroValue 66).run Try.prog w = .ok (.agg #[.int .i64 0, .int .i64 0, .int .i64 0, .int .i64 0]) w := by kernel_rfl
abbrev zO : Array Value := #[.slice none 0 0, .slice none 0 0, .slice none 0 0, .slice none 0 0]
/-- The four numbers, k of them read. -/
def mc (t0 t1 t2 t3 k : Nat) : Array Value := #[.int .i64 (if 0 < k then (t0 : Int) else 0), .int .i64 (if 1 < k then (t1 : Int) else 0), .int .i64 (if 2 < k then (t2 : Int) else 0), .int .i64 (if 3 < k then (t3 : Int) else 0)]
theorem on_blk {w : World} {base : Nat} {e : TypeId} {size n : Nat} {v v' : Value} {cs : List Value} {w' : World} (on : Onto w base e size v n cs v' w') {g : Nat} {t : TypeId} {bs : Array Value} (h : Blk w g t bs) (hn : ¬ v.ownBlock = some g) : Blk w' g t bs :=
  Blk.keeps (F := fun k => v.ownBlock = some k) h ((Keeps.refl _ w).grown on.2.1 fun k hk => .inr hk) hn
theorem nil_own {g : Nat} : ¬ (Value.slice none 0 0).ownBlock = some g := by intro e; cases e
theorem on_lt {w : World} {base : Nat} {e : TypeId} {size n : Nat} {v v' : Value} {cs : List Value} {w' : World} (on : Onto w base e size v n cs v' w') : ∀ g, v'.ownBlock = some g → base ≤ g ∧ g < w'.heap.size := fun g hg => on.1.lt g hg
theorem on_ge {w : World} {base : Nat} {e : TypeId} {size n : Nat} {v' : Value} {cs : List Value} {w' : World} (on : Onto w base e size (.slice none 0 0) n cs v' w') : ∀ g, v'.ownBlock = some g → w.heap.size ≤ g := fun g hg => by
  rcases on.2.2 with h | ⟨k, h, hk⟩
  · rw [h] at hg; cases hg
  · rw [h] at hg; cases hg; exact hk
/-- An object's box with its first two parts. -/
def Box2 (wd : World) (L1 L2 : List Nat) (t0 t1 : Nat) (v : Value) (wx : World) : Prop :=
  ∃ (G : Nat) (x1 : Option Addr) (y1 : Nat) (x2 : Option Addr) (y2 : Nat), v = .pointer (some ⟨G, 0, none⟩) ∧ wd.heap.size ≤ G ∧ Blk wx G 27 #[.slice x1 t0 y1, .slice x2 t1 y2, .slice none 0 0, .slice none 0 0] ∧ LsAt 1 uw wx (.slice x1 t0 y1) L1 ∧ LsAt 1 uw wx (.slice x2 t1 y2) L2 ∧ (∀ g, (Value.slice x1 t0 y1).ownBlock = some g → ¬ g = G ∧ g < wx.heap.size) ∧ (∀ g, (Value.slice x2 t1 y2).ownBlock = some g → ¬ g = G ∧ g < wx.heap.size) ∧ New wd wx
theorem box2_meet {wd w5 w6 wx : World} {G : Nat} {x1 x2 : Option Addr} {y1 y2 t0 t1 : Nat} {L1 L2 : List Nat} (hN5 : New wd w5) (hN56 : New w5 w6) (kx : Keeps (fun k => k = G) w6 wx) (hG : wd.heap.size ≤ G) (h0 : L1.length = t0) (h1 : L2.length = t1)
    {b1 b2 : Nat} (l1 : Sl w5 b1 37 1 (.slice x1 t0 y1) t0 (flatOf uw L1)) (l2 : Sl w6 b2 37 1 (.slice x2 t1 y2) t1 (flatOf uw L2)) (n1 : ∀ g, (Value.slice x1 t0 y1).ownBlock = some g → ¬ g = G) (n2 : ∀ g, (Value.slice x2 t1 y2).ownBlock = some g → ¬ g = G)
    (hb : Blk wx G 27 #[.slice x1 t0 y1, .slice x2 t1 y2, .slice none 0 0, .slice none 0 0]) : Box2 wd L1 L2 t0 t1 (.pointer (some ⟨G, 0, none⟩)) wx := by
  subst h0 h1
  have z1 := hN56.size
  have z2 := kx.size
  refine ⟨G, x1, y1, x2, y2, rfl, hG, hb, ((LsAt.of_sl uw_len l1).new_ hN56).keeps kx n1, (LsAt.of_sl uw_len l2).keeps kx n2, fun g hg => ⟨n1 g hg, by have := (l1.lt g hg).2; omega⟩, fun g hg => ⟨n2 g hg, by have := (l2.lt g hg).2; omega⟩, (hN5.step hN56).kept kx (fun i hi => by rw [hi]; exact hG)⟩
/-- Behind the definitions. -/
def AtD (Bd : Nat) (wA : World) (ws ws5 : List Nat) (R G : Nat) (v1 v2 : Value) (wr : World) : Prop :=
  ∃ (ds : List Df) (at_ : Nat) (bad : Bool) (a3 : Option Addr) (c3 : Nat), Blk wr G 27 #[v1, v2, .slice a3 ds.length c3, .slice none 0 0] ∧ LsAt 2 ud wr (.slice a3 ds.length c3) ds ∧ (∀ g, (Value.slice a3 ds.length c3).ownBlock = some g → wA.heap.size ≤ g ∧ g < wr.heap.size) ∧ QAt Bd wr R ws5 at_ bad ∧ at_ ≤ ws5.length ∧ (∀ d ∈ ds, d.1.length ≤ 255) ∧ ds.length ≤ 1024 ∧ Keeps (fun g => g = R ∨ g = G) wA wr ∧ ∀ O, mayB O = true → encO O = ws → ds = O.defs ∧ at_ = posL O 0 ∧ bad = false
/-- Behind the links. -/
def AtL (Bd : Nat) (wA : World) (ws ws5 : List Nat) (R G : Nat) (v1 v2 v3 : Value) (ds : List Df) (wr : World) : Prop :=
  ∃ (ls : List Lk) (at_ : Nat) (bad : Bool) (a4 : Option Addr) (c4 : Nat), Blk wr G 27 #[v1, v2, v3, .slice a4 ls.length c4] ∧ LsAt 3 ul wr (.slice a4 ls.length c4) ls ∧ QAt Bd wr R ws5 at_ bad ∧ at_ ≤ ws5.length ∧ (∀ x ∈ ls, x.1.length ≤ 255 ∧ x.2.1.length ≤ 255) ∧ Keeps (fun g => g = R ∨ g = G) wA wr ∧ ∀ O, mayB O = true → encO O = ws → ls = O.links ∧ at_ = (bodyO O).length ∧ bad = false
theorem QAt.drew {Bd : Nat} {w : World} {R : Nat} {ws : List Nat} {at_ : Nat} {bad : Bool} (h : QAt Bd w R ws at_ bad) : QAt Bd w.drew R ws at_ bad := h.keeps ((Keeps.refl (fun _ => False) w).drew) (fun _ _ h => h)
theorem QAt.off {Bd : Nat} {w : World} {R : Nat} {ws : List Nat} {at_ : Nat} {bad : Bool} {G j : Nat} {u : Value} (h : QAt Bd w R ws at_ bad) (hG : ¬ R = G) (hB : Bd ≤ G) : QAt Bd (w.setCell ⟨G, j, none⟩ u) R ws at_ bad := by
  obtain ⟨v, h1, h2, h3⟩ := h
  have k8 : Keeps (fun k => k = G) w (w.setCell ⟨G, j, none⟩ u) := Keeps.setCell (F := fun k => k = G) (Keeps.refl _ _) (.inr rfl) _
  exact ⟨v, h1.keeps k8 hG, h2.keeps k8 (fun g hg e => by have := (h3 g hg).2; omega), h3⟩
theorem qstep_meet {Bd : Nat} {wc X w6 w7 : World} {R G j n size : Nat} {E : TypeId} {v v9 : Value} {cs9 : List Value} {ws : List Nat} {at_ : Nat} {bad : Bool} {cs : Array Value} (hX : Keeps (fun k => k = R ∨ k = G) wc X) (k6 : Keeps (fun k => k = R) X w6) (k7 : Keeps (fun g => v.ownBlock = some g) w6 w7)
    (hv : ∀ g, v.ownBlock = some g → wc.heap.size ≤ g) (hRc : R < wc.heap.size) (hG : G < wc.heap.size) (hRG : ¬ R = G) (hBd : Bd ≤ G) (hra : QAt Bd w6 R ws at_ bad) (hb : Blk w7 G 27 cs) (hs : Sl w7 wc.heap.size E size v9 n cs9) :
    Keeps (fun k => k = R ∨ k = G) wc (w7.setCell ⟨G, j, none⟩ v9) ∧ Blk (w7.setCell ⟨G, j, none⟩ v9) G 27 (cs.setIfInBounds j v9) ∧ Sl (w7.setCell ⟨G, j, none⟩ v9) wc.heap.size E size v9 n cs9 ∧ QAt Bd (w7.setCell ⟨G, j, none⟩ v9) R ws at_ bad := by
  have z1 := hX.size
  have z2 := k6.size
  have z3 := k7.size
  have a6 : Keeps (fun k => k = R ∨ k = G) wc w6 := hX.trans k6 fun i _ h => .inl h
  have a7 : Keeps (fun k => k = R ∨ k = G) wc w7 := a6.trans k7 fun i hi h => absurd (hv i h) (by omega)
  have k8 : Keeps (fun k => k = G) w7 (w7.setCell ⟨G, j, none⟩ v9) := Keeps.setCell (F := fun k => k = G) (Keeps.refl _ _) (.inr rfl) _
  exact ⟨a7.trans k8 fun i _ h => .inr h, hb.set j v9, hs.keeps k8 (fun g hg e => by have := (hs.lt g hg).1; omega), (hra.keeps k7 (fun k hk e => by have := hv k e; omega)).off hRG hBd⟩
theorem body_parts {O : Ob} {ws : List Nat} {t0 t1 N5 : Nat} (h0 : t0 = O.text.length) (h1 : t1 = O.static.length) (hb : ws.take N5 = bodyO O) (hle : t0 + t1 ≤ N5) : ws.take t0 = O.text ∧ (ws.drop t0).take t1 = O.static := by
  have e1 : ws.take t0 = (bodyO O).take t0 := by rw [← hb, List.take_take, Nat.min_eq_left (by omega)]
  have e2 : (ws.drop t0).take t1 = ((bodyO O).drop t0).take t1 := by
    rw [← hb, List.drop_take, List.take_take, Nat.min_eq_left (by omega)]
  rw [e1, e2]
  unfold bodyO
  subst h0 h1
  exact ⟨by rw [List.take_left'] <;> rfl, by rw [List.drop_left' rfl, List.take_left'] <;> rfl⟩
theorem S4_st {P G : Nat} {a b c d : Value} {w : World} {p q r s : Value} (hne : ¬ P = G) (h : w.cell? ⟨P, 0, none⟩ = some a ∧ w.cell? ⟨P, 1, none⟩ = some b ∧ w.cell? ⟨P, 2, none⟩ = some c ∧ w.cell? ⟨P, 3, none⟩ = some d) : ((((w.setCell ⟨G, 0, none⟩ p).setCell ⟨G, 1, none⟩ q).setCell ⟨G, 2, none⟩ r).setCell ⟨G, 3, none⟩ s).cell? ⟨P, 0, none⟩ = some a ∧ ((((w.setCell ⟨G, 0, none⟩ p).setCell ⟨G, 1, none⟩ q).setCell ⟨G, 2, none⟩ r).setCell ⟨G, 3, none⟩ s).cell? ⟨P, 1, none⟩ = some b ∧ ((((w.setCell ⟨G, 0, none⟩ p).setCell ⟨G, 1, none⟩ q).setCell ⟨G, 2, none⟩ r).setCell ⟨G, 3, none⟩ s).cell? ⟨P, 2, none⟩ = some c ∧ ((((w.setCell ⟨G, 0, none⟩ p).setCell ⟨G, 1, none⟩ q).setCell ⟨G, 2, none⟩ r).setCell ⟨G, 3, none⟩ s).cell? ⟨P, 3, none⟩ = some d := by
  have hk := set4_keeps w G p q r s
  unfold set4 at hk
  exact ⟨hk.cell h.1 hne, hk.cell h.2.1 hne, hk.cell h.2.2.1 hne, hk.cell h.2.2.2 hne⟩
theorem S4_new {P : Nat} {a b c d : Value} {w w' : World} (n : New w w') (h : w.cell? ⟨P, 0, none⟩ = some a ∧ w.cell? ⟨P, 1, none⟩ = some b ∧ w.cell? ⟨P, 2, none⟩ = some c ∧ w.cell? ⟨P, 3, none⟩ = some d) : w'.cell? ⟨P, 0, none⟩ = some a ∧ w'.cell? ⟨P, 1, none⟩ = some b ∧ w'.cell? ⟨P, 2, none⟩ = some c ∧ w'.cell? ⟨P, 3, none⟩ = some d := ⟨n.cellK h.1, n.cellK h.2.1, n.cellK h.2.2.1, n.cellK h.2.2.2⟩
/-- A way out with nothing. -/
theorem qpost_no {w w' : World} {ws : List Nat} (hn : ¬ ∃ O, mayB O = true ∧ encO O = ws) (n : New w w') : QPost w ws (.returned (.tuple #[.agg #[.slice none 0 0, .slice none 0 0, .slice none 0 0, .slice none 0 0], .bool false])) w' :=
  ⟨none, 0, 0, none, 0, 0, none, 0, 0, none, 0, 0, false, rfl, n, (fun h => by cases h), fun h => absurd h hn⟩
set_option maxRecDepth 100000 in
set_option maxHeartbeats 40000000 in
theorem qread_any (w : World) (v : Value) (ws : List Nat) (h : LsAt 1 uw w v ws) (hlo : Lo ws) (hlen : ws.length ≤ 1000000) :
    Calls Try.prog 20 #[v] w (QPost w ws) := by
  obtain ⟨a, c, hv, hlc, hcm, _⟩ := id h
  subst hv
  have hz := zero_obj
  have hz4 := zero_four
  unfold maxLen at hcm
  obtain ⟨B, hB⟩ : ∃ B, B = w.heap.size := ⟨_, rfl⟩
  obtain ⟨w1, hw1⟩ : ∃ w1, w1 = w.alloc (.cells #[.slice none 0 0, .slice none 0 0, .slice none 0 0, .slice none 0 0] 27) := ⟨_, rfl⟩
  have hN1 : New w w1 := by rw [hw1]; exact (New.refl w).alloc _
  have hB1 : Blk w1 B 27 #[.slice none 0 0, .slice none 0 0, .slice none 0 0, .slice none 0 0] := by rw [hw1, hB]; exact Blk.new w _ _
  obtain ⟨L, hL⟩ : ∃ L, L = ws.length := ⟨_, rfl⟩
  rw [← hL] at hlc hlen h ⊢
  have hw1' := hid hw1
  have hB' := hid hB
  have HL := hid (And.intro hL hlo)
  obtain ⟨b0, b1, b2, b3⟩ := blk4 hB1
  have bf := hB1.frozen
  obtain ⟨z0, z1, z2, z3⟩ := blk4 (set4_blk hB1 (.slice none 0 0) (.slice none 0 0) (.slice none 0 0) (.slice none 0 0))
  unfold set4 at z0 z1 z2 z3
  have HZ := hid (And.intro z0 (And.intro z1 (And.intro z2 z3)))
  have HN := hid (And.intro hN1 (And.intro hB1 (h.new_ hN1)))
  clear hw1 hB hL hlo h hB1 hN1 z0 z1 z2 z3
  by_cases h5 : L < 5
  · have h5' : (L : Int) < 5 := by omega
    have hno : Hid (¬ ∃ O, mayB O = true ∧ encO O = ws) := fun ⟨O, _, he⟩ => by have := (hd_tl he).1; have := HL.out.1; omega
    clear h5
    go_enter Try.func20, Try.ntmps20
    go_wp2_with fail
    rw [← hw1'.out, ← hB'.out]
    go_wp2_with fail
    refine bodyPost_ret (v := .tuple #[.agg #[.slice none 0 0, .slice none 0 0, .slice none 0 0, .slice none 0 0], .bool false]) (by simp [results, Try.results20, go_sem, b0, b1, b2, b3]) rfl ?_
    exact qpost_no hno.out HN.out.1
  · have h5' : ¬ (L : Int) < 5 := by omega
    obtain ⟨N1, hN1⟩ : ∃ N1, N1 = L - 1 := ⟨_, rfl⟩
    have i1 : IntKind.i64.wrap ((L : Int) - 1) = (N1 : Int) := by rw [IntKind.wrap_i64]; omega
    obtain ⟨bb, oo, x, rfl, hx, hbb, hcell⟩ := HN.out.2.2.get (show N1 < L by omega)
    have c0 := hcell 0 _ rfl
    rw [Nat.add_zero, Nat.mul_one] at c0
    have j0 : (0 : Int) ≤ (N1 : Int) := by omega
    have j1 : (N1 : Int) < (L : Int) := by omega
    have HX := hid (And.intro hx hN1)
    clear hx hcell hN1
    by_cases hmg : x = 45812815077
    · have hmg' : (x : Int) = 45812815077 := by omega
      have HMG := hid hmg
      clear hmg
      have hL5 : 5 ≤ L := by omega
      obtain ⟨T, hT⟩ : ∃ T : Nat → Nat, T = fun i => ws.getD (L - 5 + i) 0 := ⟨_, rfl⟩
      have hTx : ∀ i, i < 5 → ws[L - 5 + i]? = some (T i) := fun i hi => by
        have hl : L - 5 + i < ws.length := by have := HL.out.1; omega
        rw [hT]
        show ws[L - 5 + i]? = some (ws.getD (L - 5 + i) 0)
        rw [List.getD_eq_getElem?_getD, List.getElem?_eq_getElem hl, Option.getD_some]
      have HT := hid hTx
      clear hT hTx
      go_enter Try.func20, Try.ntmps20
      go_upto_region 2 with fail
      rw [← hw1'.out, ← hB'.out]
      obtain ⟨M, hM⟩ : ∃ M, M = w1.heap.size := ⟨_, rfl⟩
      obtain ⟨w2, hw2⟩ : ∃ w2, w2 = w1.alloc (.cells #[.int .i64 0, .int .i64 0, .int .i64 0, .int .i64 0] 66) := ⟨_, rfl⟩
      have hN2 : New w1 w2 := by rw [hw2]; exact (New.refl _).alloc _
      have hM2 : Blk w2 M 66 (mc (T 0) (T 1) (T 2) (T 3) 0) := by rw [hw2, hM]; exact Blk.new w1 _ _
      have hBM : B < M := by rw [hM]; exact HN.out.2.1.lt
      have H2 := hid (And.intro hN2 (And.intro hM2 (And.intro hBM hM)))
      have HBB := hid hbb
      clear hN2 hM2 hbb hBM HZ HX HMG b0 b1 b2 b3 bf
      go_wp2_with fail
      rw [← hw2, ← hM]
      clear hw2 hM c0
      obtain ⟨N5, hN5⟩ : ∃ N5, N5 = L - 5 := ⟨_, rfl⟩
      have i5 : IntKind.i64.wrap ((L : Int) - 5) = (N5 : Int) := by rw [IntKind.wrap_i64]; omega
      have H5 := hid hN5
      have hNL : N5 + 5 = L := by omega
      clear hN5
      go_loopw [6] (fun i wr => ∃ k : Nat, k ≤ 4 ∧ i = .int .i64 (k : Int) ∧ Blk wr M 66 (mc (T 0) (T 1) (T 2) (T 3) k) ∧ Keeps (fun g => g = M) w2 wr ∧ ∀ j, j < k → T j ≤ 1024) (fun i _ => 4 - (intOf i).toNat)
      case atStart => exact ⟨0, by omega, rfl, H2.out.2.1, Keeps.refl _ _, fun j hj => absurd hj (by omega)⟩
      case round =>
        obtain ⟨k, hk, rfl, hbM, hkp, hT4⟩ := hrel
        have hn2 : New w1 wr := H2.out.1.kept hkp (fun i hi => by rw [hi, H2.out.2.2.2]; exact Nat.le_refl _)
        have hls := HN.out.2.2.new_ hn2
        have hBw := HN.out.2.1.new_ hn2
        obtain ⟨q0, q1, q2, q3⟩ := blk4 hBw
        have qf := hBw.frozen
        obtain ⟨z0, z1, z2, z3⟩ := blk4 (set4_blk hBw (.slice none 0 0) (.slice none 0 0) (.slice none 0 0) (.slice none 0 0))
        unfold set4 at z0 z1 z2 z3
        have HZ := hid (And.intro z0 (And.intro z1 (And.intro z2 z3)))
        clear z0 z1 z2 z3
        by_cases hk4 : k < 4
        · have hxk := HT.out k (by omega)
          have w2' : IntKind.i64.wrap ((k : Int) + 1) = k + 1 := by rw [IntKind.wrap_i64]; omega
          have w3' : IntKind.i64.wrap ((N5 : Int) + (k : Int)) = ((N5 + k : Nat) : Int) := by rw [IntKind.wrap_i64]; omega
          have w4' : (N5 : Int) + (k : Int) = ((N5 + k : Nat) : Int) := by omega
          obtain ⟨b9, o9, x, hbo, hx, _, hcell⟩ := hls.get (show N5 + k < L by omega)
          cases hbo
          have c0 := hcell 0 _ rfl
          rw [Nat.add_zero, Nat.mul_one] at c0
          have hxT : x = T k := by
            rw [← H5.out] at hxk
            rw [hx] at hxk
            exact Option.some.inj hxk
          obtain ⟨N6, hN6⟩ : ∃ N6, N6 = N5 + k := ⟨_, rfl⟩
          rw [← hN6] at c0 w3' w4'
          have j0 : (0 : Int) ≤ (N6 : Int) := by omega
          have j1 : (N6 : Int) < (L : Int) := by omega
          have j2 : (k : Int) < 4 := by omega
          have j3 : (0 : Int) ≤ (k : Int) := by omega
          have hxm := HL.out.2 x (List.mem_of_getElem? hx)
          unfold maskN at hxm
          have hf := hbM.frozen k
          have HX := hid (And.intro hbM (And.intro hkp (And.intro hT4 (And.intro hxT hn2))))
          clear hbM hkp hT4 hxT hn2 hxk hx hcell hls hBw hN6 w4'
          by_cases hbig : 1024 < x
          · have hbig' : (1024 : Int) < (x : Int) := by omega
            have hno : Hid (¬ ∃ O, mayB O = true ∧ encO O = ws) := fun ⟨O, hm, he⟩ => by
              obtain ⟨_, _, h0, h1, h2, h3, _⟩ := hd_tl he
              have hfit : Fit O := (fits_iff O).1 (by unfold mayB at hm; rw [Bool.and_eq_true] at hm; exact hm.1)
              have ht := HT.out k (by omega)
              have e1 := HX.out.2.2.2.1
              have a1 := hfit.text
              have a2 := hfit.static
              have a3 := hfit.ndefs
              have a4 := hfit.nlinks
              rw [HL.out.1] at ht
              rcases (show k = 0 ∨ k = 1 ∨ k = 2 ∨ k = 3 by omega) with rfl | rfl | rfl | rfl
              · rw [Nat.add_zero, h0] at ht; have := Option.some.inj ht; omega
              · rw [h1] at ht; have := Option.some.inj ht; omega
              · rw [h2] at ht; have := Option.some.inj ht; omega
              · rw [h3] at ht; have := Option.some.inj ht; omega
            clear hbig
            go_wp2_with fail
            refine bodyPost_ret (v := .tuple #[.agg #[.slice none 0 0, .slice none 0 0, .slice none 0 0, .slice none 0 0], .bool false]) (by simp [results, Try.results20, go_sem, HZ.out.1, HZ.out.2.1, HZ.out.2.2.1, HZ.out.2.2.2]) rfl ?_
            exact qpost_no hno.out ((HN.out.1.step HX.out.2.2.2.2).kept (set4_keeps _ _ _ _ _ _) (fun i hi => by rw [hi, hB'.out]; exact Nat.le_refl _))
          · have hbig' : ¬ (1024 : Int) < (x : Int) := by omega
            have i9 : IntKind.i64.wrap (x : Int) = x := by rw [IntKind.wrap_i64]; omega
            have hcm' : ∃ u, wr.cell? ⟨M, k, none⟩ = some u := by
              rcases (show k = 0 ∨ k = 1 ∨ k = 2 ∨ k = 3 by omega) with rfl | rfl | rfl | rfl <;> exact ⟨_, by rw [HX.out.1.cell]; rfl⟩
            obtain ⟨u, hu⟩ := hcm'
            have hset := HX.out.1.set k (.int .i64 (x : Int))
            have hsb : Hid (Blk (wr.setCell ⟨M, k, none⟩ (.int .i64 (x : Int))) M 66 (mc (T 0) (T 1) (T 2) (T 3) (k + 1))) := by
              have e1 := HX.out.2.2.2.1
              have e : (mc (T 0) (T 1) (T 2) (T 3) k).setIfInBounds k (.int .i64 (x : Int)) = mc (T 0) (T 1) (T 2) (T 3) (k + 1) := by
                rw [e1]
                rcases (show k = 0 ∨ k = 1 ∨ k = 2 ∨ k = 3 by omega) with rfl | rfl | rfl | rfl <;> simp [mc]
              rw [e] at hset
              exact hset
            have hT5 : Hid (∀ j, j < k + 1 → T j ≤ 1024) := fun j hj => by
              by_cases e : j = k
              · rw [e, ← HX.out.2.2.2.1]; omega
              · exact HX.out.2.2.1 j (by omega)
            clear hbig hset
            go_wp2_with fail
            exact ⟨⟨k + 1, by omega, by go_num, hsb.out, HX.out.2.1.trans (Keeps.setCell (F := fun g => g = M) (Keeps.refl _ _) (.inr rfl) _) (fun i _ h => h), hT5.out⟩, by simp [intOf]; omega⟩
        · obtain rfl : k = 4 := by omega
          have HK := hid (And.intro hbM (And.intro hkp (And.intro hT4 (And.intro hn2 (And.intro hls hBw)))))
          have hm0 : wr.cell? ⟨M, 0, none⟩ = some (.int .i64 (T 0 : Int)) := by rw [hbM.cell]; rfl
          have hm1 : wr.cell? ⟨M, 1, none⟩ = some (.int .i64 (T 1 : Int)) := by rw [hbM.cell]; rfl
          have hm2 : wr.cell? ⟨M, 2, none⟩ = some (.int .i64 (T 2 : Int)) := by rw [hbM.cell]; rfl
          have hm3 : wr.cell? ⟨M, 3, none⟩ = some (.int .i64 (T 3 : Int)) := by rw [hbM.cell]; rfl
          obtain ⟨t0, ht0⟩ : ∃ t0, t0 = T 0 := ⟨_, rfl⟩
          obtain ⟨t1, ht1⟩ : ∃ t1, t1 = T 1 := ⟨_, rfl⟩
          obtain ⟨t2, ht2⟩ : ∃ t2, t2 = T 2 := ⟨_, rfl⟩
          obtain ⟨t3, ht3⟩ : ∃ t3, t3 = T 3 := ⟨_, rfl⟩
          have l0 : t0 ≤ 1024 := by rw [ht0]; exact hT4 0 (by omega)
          have l1 : t1 ≤ 1024 := by rw [ht1]; exact hT4 1 (by omega)
          have l2 : t2 ≤ 1024 := by rw [ht2]; exact hT4 2 (by omega)
          have l3 : t3 ≤ 1024 := by rw [ht3]; exact hT4 3 (by omega)
          rw [← ht0] at hm0
          rw [← ht1] at hm1
          rw [← ht2] at hm2
          rw [← ht3] at hm3
          have HH : Hid (∀ O, mayB O = true → encO O = ws → t0 = O.text.length ∧ t1 = O.static.length ∧ t2 = O.defs.length ∧ t3 = O.links.length ∧ ws.take N5 = bodyO O ∧ t0 + t1 ≤ N5) := fun O _ he => by
            obtain ⟨_, _, h0, h1, h2, h3, h4, h5⟩ := hd_tl he
            have a0 := HT.out 0 (by omega)
            have a1 := HT.out 1 (by omega)
            have a2 := HT.out 2 (by omega)
            have a3 := HT.out 3 (by omega)
            rw [HL.out.1, Nat.add_zero, h0] at a0
            rw [HL.out.1, h1] at a1
            rw [HL.out.1, h2] at a2
            rw [HL.out.1, h3] at a3
            have e0 := Option.some.inj a0
            have e1 := Option.some.inj a1
            have e2 := Option.some.inj a2
            have e3 := Option.some.inj a3
            rw [H5.out, HL.out.1]
            have := HL.out.1
            exact ⟨by omega, by omega, by omega, by omega, h4, by omega⟩
          clear hbM hkp hT4 hn2 hls hBw ht0 ht1 ht2 ht3 HT
          obtain ⟨T01, hT01⟩ : ∃ T01, T01 = t0 + t1 := ⟨_, rfl⟩
          have u1 : IntKind.i64.wrap ((t0 : Int) + (t1 : Int)) = (T01 : Int) := by rw [IntKind.wrap_i64]; omega
          have u2 : IntKind.i64.wrap ((T01 : Int) + 5) = (T01 : Int) + 5 := by rw [IntKind.wrap_i64]; omega
          have H01 := hid hT01
          have hle01 : T01 ≤ 2048 := by omega
          clear hT01
          obtain ⟨wd, hwd⟩ : ∃ wd, wd = wr := ⟨_, rfl⟩
          subst hwd
          by_cases hb5 : L < T01 + 5
          · have hb5' : (L : Int) < (T01 : Int) + 5 := by omega
            have hno : Hid (¬ ∃ O, mayB O = true ∧ encO O = ws) := fun ⟨O, hm, he⟩ => by
              have := (HH.out O hm he).2.2.2.2.2
              have := H01.out
              omega
            clear hb5
            go_wp2_with fail
            refine bodyPost_ret (v := .tuple #[.agg #[.slice none 0 0, .slice none 0 0, .slice none 0 0, .slice none 0 0], .bool false]) (by simp [results, Try.results20, go_sem, HZ.out.1, HZ.out.2.1, HZ.out.2.2.1, HZ.out.2.2.2]) rfl ?_
            exact qpost_no hno.out ((HN.out.1.step HK.out.2.2.2.1).kept (set4_keeps _ _ _ _ _ _) (fun i hi => by rw [hi, hB'.out]; exact Nat.le_refl _))
          · have hb5' : ¬ (L : Int) < (T01 : Int) + 5 := by omega
            clear HZ
            have v0 : (0 : Int) ≤ (t0 : Int) := by omega
            have v1 : (t0 : Int) ≤ (c : Int) := by have := H01.out; omega
            have v2 : (t0 : Int) ≤ (T01 : Int) := by have := H01.out; omega
            have v3 : (T01 : Int) ≤ (c : Int) := by omega
            have v4 : (0 : Int) ≤ (T01 : Int) := by omega
            have v5 : ¬ c = t0 := by have := H01.out; omega
            obtain ⟨ti, hti, hzz⟩ := Option.map_eq_some_iff.1 word_info
            simp only [Prod.mk.injEq] at hzz
            have HW := hid (And.intro hti hzz)
            have NDw : New wd wd.drew := (New.refl _).drew
            have HS : Hid (∀ X, New wd X → X.cell? ⟨M, 0, none⟩ = some (.int .i64 (t0 : Int)) ∧ X.cell? ⟨M, 1, none⟩ = some (.int .i64 (t1 : Int))) := fun X hX => ⟨hX.cellK hm0, hX.cellK hm1⟩
            have hML : M < wd.heap.size := HK.out.1.lt
            have hl0 : (ws.take t0).length = t0 := by rw [List.length_take]; have := HL.out.1; have := H01.out; omega
            have hl1 : ((ws.drop t0).take t1).length = t1 := by rw [List.length_take, List.length_drop]; have := HL.out.1; have := H01.out; omega
            have hlA : ∀ X, New wd X → LsAt 1 uw X (.slice (some ⟨bb, oo, none⟩) t0 c) (ws.take t0) := fun X hX => by
              obtain ⟨a', c', hv, h1, h2, h3⟩ := HK.out.2.2.2.2.1.new_ hX
              injection hv with e1 e2 e3
              subst e3
              refine ⟨_, _, by rw [hl0], by omega, h2, fun h0 => ?_⟩
              obtain ⟨b', o', e, hb, hc⟩ := h3 (by have := HL.out.1; have := H01.out; omega)
              refine ⟨b', o', by rw [e1, e], hb, fun i x hx => ?_⟩
              have hi : i < t0 := by rw [← hl0]; exact (List.getElem?_eq_some_iff.1 hx).1
              rw [List.getElem?_take_of_lt hi] at hx
              exact hc i x hx
            have hlB : ∀ X, New wd X → LsAt 1 uw X (.slice (some ⟨bb, oo + t0, none⟩) (T01 - t0) (c - t0)) ((ws.drop t0).take t1) := fun X hX => by
              obtain ⟨a', c', hv, h1, h2, h3⟩ := HK.out.2.2.2.2.1.new_ hX
              injection hv with e1 e2 e3
              subst e3
              have := H01.out
              refine ⟨_, _, by rw [hl1]; congr 1; omega, by rw [hl1]; omega, by omega, fun h0 => ?_⟩
              obtain ⟨b', o', e, hb, hc⟩ := h3 (by have := HL.out.1; omega)
              rw [e] at e1
              simp only [Option.some.injEq, Addr.mk.injEq] at e1
              refine ⟨b', o' + t0, by rw [e1.1, e1.2.1], hb, fun i x hx k u hu => ?_⟩
              have hi : i < t1 := by rw [← hl1]; exact (List.getElem?_eq_some_iff.1 hx).1
              rw [List.getElem?_take_of_lt hi, List.getElem?_drop] at hx
              have := hc _ x hx k u hu
              rw [← this]
              congr 2
              omega
            have HLA := hid (And.intro hlA (And.intro hlB (And.intro hl0 hl1)))
            have HMW := hid hML
            have q1 : 0 + (ws.take t0).length ≤ maxLen := by unfold maxLen; omega
            have q2 : (0 + (ws.take t0).length) * 8 ≤ 140737488355328 := by omega
            have q3 : 0 + ((ws.drop t0).take t1).length ≤ maxLen := by unfold maxLen; omega
            have q4 : (0 + ((ws.drop t0).take t1).length) * 8 ≤ 140737488355328 := by omega
            have HQ := hid (And.intro q1 (And.intro q2 (And.intro q3 q4)))
            clear hti hzz hlA hlB hl0 hl1 hML q1 q2 q3 q4
            go_upto_region 13 with fail
            go_cut [7] from 59 to 74 (fun v wx => Box2 wd (ws.take t0) ((ws.drop t0).take t1) t0 t1 v wx)
            case first =>
              have NA : ∀ o, New wd (wd.alloc o).drew := fun o => ((New.refl _).alloc o).drew
              have H0t : Hid (0 + (ws.take t0).length = t0) := by show _ = _; rw [HLA.out.2.2.1]; omega
              have H1t : Hid (0 + ((ws.drop t0).take t1).length = t1) := by show _ = _; rw [HLA.out.2.2.2]; omega
              go_region_held3 (fun w' => w'.cell? ⟨M, 0, none⟩ = some (.int .i64 (t0 : Int)) ∧ w'.cell? ⟨M, 1, none⟩ = some (.int .i64 (t1 : Int))) (first | with_reducible exact S_set4 hS6 hGM | with_reducible exact HS.out _ NDw | with_reducible exact HS.out _ (NA _) | with_reducible exact HS.out _ hN5 | with_reducible exact HS.out _ (New.alloc hN5 _) | with_reducible exact HS.out _ hN6 | with_reducible exact HS.out _ (New.alloc hN6 _)) (first
                | (refine step_append_ls (f := uw) rfl (.const (.slice none 0 0)) (.tmp 62) 22 37 rfl wd.heap.size ti _ 1 8 Try.underlying22 HW.out.1 HW.out.2.1 HW.out.2.2.1 HW.out.2.2.2 rfl (by decide) uw_len uw_one (.slice none 0 0) 0 [] rfl (.slice (some ⟨bb, oo, none⟩) t0 c) (ws.take t0) (by simp [Act.eval, Act.put]) HQ.out.1 HQ.out.2.1 (Sl.nil _ _ _ _) (HLA.out.1 _ NDw) NDw.size ?_; intro v5 w5 hon5; have hN5 := own_new (Sl.nil _ _ _ _) NDw (Nat.le_refl _) hon5; rw [H0t.out] at hon5; obtain ⟨a5, c5, rfl⟩ := Sl.val hon5.1)
                | (refine step_append_ls (f := uw) rfl (.const (.slice none 0 0)) (.tmp 62) 22 37 rfl wd.heap.size ti _ 1 8 Try.underlying22 HW.out.1 HW.out.2.1 HW.out.2.2.1 HW.out.2.2.2 rfl (by decide) uw_len uw_one (.slice none 0 0) 0 [] rfl (.slice (some ⟨bb, oo, none⟩) t0 c) (ws.take t0) (by simp [Act.eval, Act.put]) HQ.out.1 HQ.out.2.1 (Sl.nil _ _ _ _) (HLA.out.1 _ (NA _)) (New.size (NA _)) ?_; intro v5 w5 hon5; have hN5 := own_new (Sl.nil _ _ _ _) (NA _) (Nat.le_refl _) hon5; rw [H0t.out] at hon5; have hG5 := on_blk hon5 (show Blk (wd.alloc (.cells #[.slice none 0 0, .slice none 0 0, .slice none 0 0, .slice none 0 0] 27)).drew wd.heap.size 27 #[.slice none 0 0, .slice none 0 0, .slice none 0 0, .slice none 0 0] from Blk.new wd _ _) nil_own; obtain ⟨a5, c5, rfl⟩ := Sl.val hon5.1)
                | (refine step_append_ls (f := uw) rfl (.const (.slice none 0 0)) (.tmp 72) 22 37 rfl w5.heap.size ti _ 1 8 Try.underlying22 HW.out.1 HW.out.2.1 HW.out.2.2.1 HW.out.2.2.2 rfl (by decide) uw_len uw_one (.slice none 0 0) 0 [] rfl (.slice (some ⟨bb, oo + t0, none⟩) (T01 - t0) (c - t0)) ((ws.drop t0).take t1) (by simp [Act.eval, Act.put]) HQ.out.2.2.1 HQ.out.2.2.2 (Sl.nil _ _ _ _) (HLA.out.2.1 _ hN5) (Nat.le_refl _) ?_; intro v6 w6 hon6; have hN56 := own_new (Sl.nil _ _ _ _) (New.refl w5) (Nat.le_refl _) hon6; have hN6 := New.step hN5 hN56; have hS6 := HS.out _ hN6; rw [H1t.out] at hon6; have hG6 := on_blk hon6 hG5 nil_own; obtain ⟨g60, g61, g62, g63⟩ := blk4 hG6; have gf6 := hG6.frozen; have hGM := ne_R HMW.out (Nat.le_refl _); obtain ⟨a6, c6, rfl⟩ := Sl.val hon6.1)
                | (refine step_append_ls (f := uw) rfl (.const (.slice none 0 0)) (.tmp 72) 22 37 rfl w5.heap.size ti _ 1 8 Try.underlying22 HW.out.1 HW.out.2.1 HW.out.2.2.1 HW.out.2.2.2 rfl (by decide) uw_len uw_one (.slice none 0 0) 0 [] rfl (.slice (some ⟨bb, oo + t0, none⟩) (T01 - t0) (c - t0)) ((ws.drop t0).take t1) (by simp [Act.eval, Act.put]) HQ.out.2.2.1 HQ.out.2.2.2 (Sl.nil _ _ _ _) (HLA.out.2.1 _ hN5) (Nat.le_refl _) ?_; intro v6 w6 hon6; have hN56 := own_new (Sl.nil _ _ _ _) (New.refl w5) (Nat.le_refl _) hon6; have hN6 := New.step hN5 hN56; have hS6 := HS.out _ hN6; rw [H1t.out] at hon6; obtain ⟨a6, c6, rfl⟩ := Sl.val hon6.1)
                | (refine step_append_ls (f := uw) rfl (.const (.slice none 0 0)) (.tmp 72) 22 37 rfl w5.heap.size ti _ 1 8 Try.underlying22 HW.out.1 HW.out.2.1 HW.out.2.2.1 HW.out.2.2.2 rfl (by decide) uw_len uw_one (.slice none 0 0) 0 [] rfl (.slice (some ⟨bb, oo + t0, none⟩) (T01 - t0) (c - t0)) ((ws.drop t0).take t1) (by simp [Act.eval, Act.put]) HQ.out.2.2.1 HQ.out.2.2.2 (Sl.nil _ _ _ _) (HLA.out.2.1 _ (New.alloc hN5 _)) (New.size (New.alloc (New.refl w5) _)) ?_; intro v6 w6 hon6; have hN56 := own_new (Sl.nil _ _ _ _) (New.alloc (New.refl w5) _) (Nat.le_refl _) hon6; have hN6 := New.step hN5 hN56; have hS6 := HS.out _ hN6; rw [H1t.out] at hon6; have hG6 := on_blk hon6 (Blk.new w5 27 #[.slice none 0 0, .slice none 0 0, .slice none 0 0, .slice none 0 0]) nil_own; obtain ⟨g60, g61, g62, g63⟩ := blk4 hG6; have gf6 := hG6.frozen; have hGM := ne_R HMW.out hN5.size; obtain ⟨a6, c6, rfl⟩ := Sl.val hon6.1))
              all_goals (go_wp2_with fail; go_meet)
              · exact box2_meet hN5 hN56 (((New.refl w6).alloc _).keeps _) (New.size hN6) HLA.out.2.2.1 HLA.out.2.2.2 (on_sl hon5) (on_sl hon6) (fun g hg => by have := (on_lt hon5 g hg).2; have := hN56.size; omega) (fun g hg => by have := (on_lt hon6 g hg).2; omega) (Blk.new w6 _ _)
              · exact box2_meet hN5 hN56 (set4_keeps w6 w5.heap.size _ _ _ _) (New.size hN5) HLA.out.2.2.1 HLA.out.2.2.2 (on_sl hon5) (on_sl hon6) (fun g hg => by have := (on_lt hon5 g hg).2; omega) (fun g hg => by have := on_ge hon6 g hg; rw [World.size_alloc] at this; omega) (set4_blk hG6 _ _ _ _)
              · exact box2_meet hN5 hN56 (set4_keeps w6 wd.heap.size _ _ _ _) (Nat.le_refl _) HLA.out.2.2.1 HLA.out.2.2.2 (on_sl hon5) (on_sl hon6) (fun g hg => by have := on_ge hon5 g hg; rw [size_drew, World.size_alloc] at this; omega) (fun g hg => by have := on_ge hon6 g hg; have := hG5.lt; omega) (set4_blk hG6 _ _ _ _)
            case rest =>
              obtain ⟨G, x1, y1, x2, y2, rfl, hG, hbG, hl1, hl2, hn1, hn2, hnx⟩ := hcut
              have hm0' := hnx.cellK hm0
              have hm1' := hnx.cellK hm1
              have hm2' := hnx.cellK hm2
              have hm3' := hnx.cellK hm3
              have HC := hid (And.intro hG (And.intro hbG (And.intro hl1 (And.intro hl2 (And.intro hn1 (And.intro hn2 hnx))))))
              clear hG hbG hl1 hl2 hn1 hn2 hnx hm0 hm1 hm2 hm3 HS NDw HQ v2 v3 v4 v5
              have s1 : (N5 : Int) ≤ (c : Int) := by omega
              have s0 : (0 : Int) ≤ (N5 : Int) := by omega
              have NDc : New wc wc.drew := (New.refl _).drew
              have HS2 : Hid (∀ X, New wc X → X.cell? ⟨M, 0, none⟩ = some (.int .i64 (t0 : Int)) ∧ X.cell? ⟨M, 1, none⟩ = some (.int .i64 (t1 : Int))) := fun X hX => ⟨hX.cellK hm0', hX.cellK hm1'⟩
              go_upto_region 14 with fail
              go_region_held3 (fun w' => w'.cell? ⟨M, 0, none⟩ = some (.int .i64 (t0 : Int)) ∧ w'.cell? ⟨M, 1, none⟩ = some (.int .i64 (t1 : Int))) (first | with_reducible exact HS2.out _ NDc | with_reducible exact HS2.out _ (New.alloc NDc _) | with_reducible exact HS2.out _ (New.drew (New.alloc (New.refl wc) _))) (first | fail)
              obtain ⟨wA, hwA⟩ : ∃ wA, wA = (wc.alloc (.cells #[.slice (some ⟨bb, oo, none⟩) N5 c, .int .i64 (T01 : Int), .bool false] 69)).drew := ⟨_, rfl⟩
              obtain ⟨R, hR⟩ : ∃ R, R = wc.heap.size := ⟨_, rfl⟩
              obtain ⟨ws5, hws5⟩ : ∃ ws5, ws5 = ws.take N5 := ⟨_, rfl⟩
              have hnA : New wc wA := by rw [hwA]; exact ((New.refl _).alloc _).drew
              have hRlt : R < wA.heap.size := by rw [hwA, hR, size_drew, World.size_alloc]; omega
              have hGR : G < R := by rw [hR]; exact HC.out.2.1.lt
              have hwl : ws5.length = N5 := by rw [hws5, List.length_take]; have := HL.out.1; omega
              have hbdG : w1.heap.size ≤ G := by have := HC.out.1; have := HK.out.2.2.2.1.size; omega
              have hQA : QAt w1.heap.size wA R ws5 T01 false := by
                have hb : Blk wA R 69 #[.slice (some ⟨bb, oo, none⟩) N5 c, .int .i64 (T01 : Int), .bool false] := by rw [hwA, hR]; exact (Blk.new wc _ _).new_ ((New.refl _).drew)
                obtain ⟨a', c', hv, h1, h2, h3⟩ := HK.out.2.2.2.2.1.new_ (HC.out.2.2.2.2.2.2.step hnA)
                injection hv with e1 e2 e3
                subst e3
                refine ⟨_, hb, ⟨_, _, by rw [hwl], by omega, h2, fun h0 => ?_⟩, fun g hg => ?_⟩
                · obtain ⟨b', o', e, hlt, hc⟩ := h3 (by have := HL.out.1; omega)
                  refine ⟨b', o', by rw [e1, e], hlt, fun i x hx => ?_⟩
                  have hi : i < N5 := by rw [← hwl]; exact (List.getElem?_eq_some_iff.1 hx).1
                  rw [hws5, List.getElem?_take_of_lt hi] at hx
                  exact hc i x hx
                · have hg' : bb = g := by cases hg; rfl
                  have := HBB.out
                  omega
              have hlo5 : Lo ws5 := fun x hx => HL.out.2 x (by rw [hws5] at hx; exact List.mem_of_mem_take hx)
              have hbGA := HC.out.2.1.new_ hnA
              have hnwA : New w wA := (HN.out.1.step HK.out.2.2.2.1).step (HC.out.2.2.2.2.2.2.step hnA)
              have hmA : wA.cell? ⟨M, 2, none⟩ = some (.int .i64 (t2 : Int)) := hnA.cellK hm2'
              have hmA3 : wA.cell? ⟨M, 3, none⟩ = some (.int .i64 (t3 : Int)) := hnA.cellK hm3'
              have hMG : ¬ (M = R ∨ M = G) := by have := HMW.out; have := HC.out.1; omega
              have HR := hid (And.intro hRlt (And.intro hGR (And.intro hwl (And.intro hbdG (And.intro hlo5 (And.intro hnwA (And.intro hmA (And.intro hmA3 hMG))))))))
              have HQA := hid (And.intro hQA (And.intro hbGA hnA))
              have HW5 := hid hws5
              have HGR : Hid (¬ G = R) := by show ¬ G = R; omega
              have HRG : Hid (¬ R = G) := by show ¬ R = G; omega
              have HRW : Hid (R = wc.heap.size) := hR
              have HFit : Hid (∀ O, mayB O = true → Fit O) := fun O hm => (fits_iff O).1 (by unfold mayB at hm; rw [Bool.and_eq_true] at hm; exact hm.1)
              go_upto_block 2 with fail
              rw [← hwA, ← hR]
              clear hwA hR hws5 hnA hRlt hGR hwl hbdG hQA hlo5 hbGA hnwA hmA hmA3 hMG hm0' hm1' hm2' hm3' NDc HS2
              go_cut [9] from 86 to 108 (fun _ wx => AtD w1.heap.size wA ws ws5 R G (.slice x1 t0 y1) (.slice x2 t1 y2) wx)
              case first =>
                obtain ⟨tj, htj, hzz⟩ := Option.map_eq_some_iff.1 def_info
                simp only [Prod.mk.injEq] at hzz
                have HT := hid (And.intro htj hzz)
                clear htj hzz
                go_wp2_with fail
                go_loopw [9] (fun i wr => ∃ k : Nat, k ≤ t2 ∧ i = .int .i64 (k : Int) ∧ Keeps (fun g => g = R ∨ g = G) wA wr ∧ ∃ (ds : List Df) (at_ : Nat) (bad : Bool) (vd : Value), ds.length = k ∧ Blk wr G 27 #[.slice x1 t0 y1, .slice x2 t1 y2, vd, .slice none 0 0] ∧ Sl wr wA.heap.size 41 2 vd k (flatOf ud ds) ∧ QAt w1.heap.size wr R ws5 at_ bad ∧ at_ ≤ ws5.length ∧ (∀ d ∈ ds, d.1.length ≤ 255) ∧ ∀ O, mayB O = true → encO O = ws → ds = O.defs.take k ∧ at_ = posD O k ∧ bad = false) (fun i _ => t2 - (intOf i).toNat)
                case atStart =>
                  refine ⟨0, Nat.zero_le _, rfl, Keeps.refl _ _, [], T01, false, _, rfl, HQA.out.2.1, Sl.nil _ _ _ _, HQA.out.1, by rw [HR.out.2.2.1]; omega, (fun d hd => by cases hd), fun O hm he => ⟨rfl, ?_, rfl⟩⟩
                  obtain ⟨e0, e1, _⟩ := HH.out O hm he
                  unfold posD
                  rw [H01.out, e0, e1]
                  simp
                case round =>
                  obtain ⟨k, hk, rfl, hkp, ds, at_, bad, vd, hdl, hbG, hsd, hq, hat, hds, hcan⟩ := hrel
                  have e2 : wr.cell? ⟨M, 2, none⟩ = some (.int .i64 (t2 : Int)) := hkp.cell HR.out.2.2.2.2.2.2.1 HR.out.2.2.2.2.2.2.2.2
                  obtain ⟨vq, hqb, _, _⟩ := id hq
                  have q2 : wr.cell? ⟨R, 2, none⟩ = some (.bool bad) := by rw [hqb.cell]; rfl
                  obtain ⟨a7, c7, rfl⟩ := hsd.val
                  by_cases hgo : k < t2 ∧ bad = false
                  · obtain ⟨hkn, rfl⟩ := hgo
                    have w2' : IntKind.i64.wrap ((k : Int) + 1) = k + 1 := by rw [IntKind.wrap_i64]; omega
                    have hlt : (k : Int) < (t2 : Int) := by omega
                    have hwl := HR.out.2.2.1
                    have hTX := fun X (hX : QAt w1.heap.size X R ws5 at_ false) => qtext_any X R ws5 at_ false hX HR.out.2.2.2.2.1 (by omega) hat
                    have hNX := fun X a b (hX : QAt w1.heap.size X R ws5 a b) (ha : a ≤ ws5.length) => qnumber_any X R ws5 a b hX HR.out.2.2.2.2.1 (by omega) ha
                    have HTX := hid hTX
                    have HNX := hid hNX
                    have hown : ∀ g, (Value.slice a7 k c7).ownBlock = some g → wA.heap.size ≤ g := fun g hg => (hsd.lt g hg).1
                    have HOR : Hid (∀ g, (Value.slice a7 k c7).ownBlock = some g → ¬ g = R) := fun g hg e => by have := hown g hg; have := HR.out.1; omega
                    have HOG : Hid (¬ (Value.slice a7 k c7).ownBlock = some G) := fun e => by have := hown G e; have := HR.out.1; have := HR.out.2.1; omega
                    obtain ⟨g0, g1, g2, g3⟩ := blk4 hbG
                    have HX := hid (And.intro hkp (And.intro hbG (And.intro hsd (And.intro hdl (And.intro hds hcan)))))
                    have HSZ : Hid (wA.heap.size ≤ wr.drew.heap.size) := hkp.size
                    have HQD := hid hq.drew
                    have HBD := hid (hbG.new_ ((New.refl wr).drew))
                    have HSD := hid (hsd.new_ ((New.refl wr).drew))
                    have p1 : k + 1 ≤ maxLen := by unfold maxLen; omega
                    have p2 : (k + 1) * 24 ≤ 140737488355328 := by omega
                    clear hkp hbG hsd hdl hds hcan hq hqb hwl hTX hNX hown g0 g1 g3 hat
                    go_wp2_with fail
                    clear e2 q2
                    go_region_law (first
                      | (go_simp; go_at_call 28; (with_reducible refine (HTX.out _ HQD.out).mono ?_); rintro e w5 ⟨nm, at5, b5, rfl, hl5, ha5, hq5, hk5, hc5⟩; have hb5 := Blk.keeps HBD.out hk5 HGR.out; obtain ⟨_, _, g52, _⟩ := blk4 hb5; have hs5 := Sl.keeps HSD.out hk5 HOR.out)
                      | (go_simp; go_at_call 29; (with_reducible refine (HNX.out _ _ _ hq5 ha5).mono ?_); rintro e w6 ⟨rfl, hq6, hk6⟩; have hb6 := Blk.keeps hb5 hk6 HGR.out; obtain ⟨_, _, g62, _⟩ := blk4 hb6; have ga62 := fun o => ((New.refl w6).alloc o).cellK g62; have hs6 := Sl.keeps hs5 hk6 HOR.out; have hz6 := Nat.le_trans HSZ.out (Nat.le_trans hk5.size hk6.size))
                      | (refine step_append_sl rfl (.tmp 100) (.tmp 106) 24 rfl wA.heap.size 41 tj _ 2 24 Try.underlying24 HT.out.1 HT.out.2.1 HT.out.2.2.1 HT.out.2.2.2 rfl (by decide) (.slice a7 k c7) k _ (by simp [Act.eval, Act.put]) (hs6.alloc _) ⟨w6.heap.size, 0, none⟩ 1 1 (ud (nm, ((numQ ws5 at5 b5).1 : Int))) (by simp [Act.eval, Act.put]) (by decide) rfl (news_one (l := ud (nm, ((numQ ws5 at5 b5).1 : Int)))) (ud_one _) p1 p2 (by rw [World.size_alloc]; omega) ?_; intro v7 w7 hs7 hg7 ho7; have hk7 := Keeps.grown (F := fun g => (Value.slice a7 k c7).ownBlock = some g) (((New.refl w6).alloc _).keeps _) hg7 (fun g hg => Or.inr hg); have hb7 := Blk.keeps hb6 hk7 HOG.out; obtain ⟨_, _, g72, _⟩ := blk4 hb7; have gf7 := blk4f hb7 2; obtain ⟨a9, c9, rfl⟩ := hs7.val))
                    all_goals
                      have hm := qstep_meet (j := 2) HX.out.1.drew (Keeps.trans hk5 hk6 fun i _ h => h) hk7 (fun g hg => (hs6.lt g hg).1) HR.out.1 (Nat.lt_trans HR.out.2.1 HR.out.1) HRG.out HR.out.2.2.2.1 hq6 hb7 hs7
                      have hat6 : (numQ ws5 at5 b5).2.1 ≤ ws5.length := wordQ_at _ _ _ ha5
                      have hnew : ∀ O, mayB O = true → encO O = ws → ds ++ [(nm, ((numQ ws5 at5 b5).1 : Int))] = O.defs.take (k + 1) ∧ (numQ ws5 at5 b5).2.1 = posD O (k + 1) ∧ (numQ ws5 at5 b5).2.2 = false := fun O hmm he => by
                        obtain ⟨h1, h2, h3⟩ := HX.out.2.2.2.2.2 O hmm he
                        obtain ⟨e0, e1, e2, e3, e4, _⟩ := HH.out O hmm he
                        have hw5 : ws5 = bodyO O := by rw [HW5.out, e4]
                        obtain ⟨d, hd⟩ : ∃ d, O.defs[k]? = some d := ⟨_, List.getElem?_eq_getElem (by omega)⟩
                        obtain ⟨c1, c2, c3⟩ := defs_can (HFit.out O hmm) hd h2 (rfl : false = false)
                        rw [← hw5] at c1 c2
                        obtain ⟨x1, x2, x3⟩ := hc5 d.1 c1
                        rw [x2, x3, c2]
                        refine ⟨?_, rfl, rfl⟩
                        rw [take_snoc hd, h1, x1, ← c3]
                      have hdn : ∀ d ∈ ds ++ [(nm, ((numQ ws5 at5 b5).1 : Int))], d.1.length ≤ 255 := fun d hd => by
                        rcases List.mem_append.1 hd with hd | hd
                        · exact HX.out.2.2.2.2.1 d hd
                        · rw [List.mem_singleton.1 hd]; exact hl5
                      have HM := hid (And.intro hm (And.intro hat6 (And.intro hnew hdn)))
                      clear hm hat6 hnew hdn hs7 hg7 ho7 hk7 hb7 g72 gf7 hc5 hq5 hk5 hb5 g52 hs5 hq6 hk6 hb6 g62 ga62 hs6 hz6
                      go_wp2_with fail
                      refine ⟨⟨k + 1, by omega, by go_num, HM.out.1.1, ds ++ [(nm, ((numQ ws5 at5 b5).1 : Int))], _, _, _, by rw [List.length_append, HX.out.2.2.2.1]; rfl, by simpa using HM.out.1.2.1, ?_, HM.out.1.2.2.2, HM.out.2.1, HM.out.2.2.2, HM.out.2.2.1⟩, by simp [intOf]; omega⟩
                      rw [flatOf_app, flatOf_one]
                      exact HM.out.1.2.2.1
                  · have hfin : AtD w1.heap.size wA ws ws5 R G (.slice x1 t0 y1) (.slice x2 t1 y2) wr := by
                      subst hdl
                      refine ⟨ds, at_, bad, a7, c7, hbG, LsAt.of_sl ud_len hsd, fun g hg => hsd.lt g hg, hq, hat, hds, by omega, hkp, fun O hm he => ?_⟩
                      obtain ⟨h1, h2, h3⟩ := hcan O hm he
                      obtain ⟨e0, e1, e2, e3, e4, _⟩ := HH.out O hm he
                      have hk2 : ds.length = t2 := by
                        refine Nat.le_antisymm hk (Nat.le_of_not_lt fun hlt => hgo ⟨hlt, h3⟩)
                      refine ⟨by rw [h1]; rw [List.take_of_length_le (by omega)], ?_, h3⟩
                      rw [h2, hk2, e2, posD_end]
                    have HF := hid hfin
                    clear hfin hbG hsd hq hqb hat hds hcan hkp
                    by_cases hkn : k < t2
                    · have hbd : bad = true := by
                        cases bad
                        · exact absurd ⟨hkn, rfl⟩ hgo
                        · rfl
                      subst hbd
                      have hlt : (k : Int) < (t2 : Int) := by omega
                      clear hgo
                      go_wp2_with fail
                      go_meet
                      exact HF.out
                    · have hlt : ¬ (k : Int) < (t2 : Int) := by omega
                      clear hgo
                      go_wp2_with fail
                      go_meet
                      exact HF.out
              case rest =>
                obtain ⟨ds, at_, bad, a3, c3, hbG, hld, hod, hq, hat, hds, hdl, hkp, hcan⟩ := hcut
                obtain ⟨wD, hwD⟩ : ∃ wD, wD = wc := ⟨_, rfl⟩
                subst hwD
                have e3 : wD.cell? ⟨M, 3, none⟩ = some (.int .i64 (t3 : Int)) := hkp.cell HR.out.2.2.2.2.2.2.2.1 HR.out.2.2.2.2.2.2.2.2
                have hRD : R < wD.heap.size := Nat.lt_of_lt_of_le HR.out.1 hkp.size
                have HE := hid (And.intro hbG (And.intro hld (And.intro hod (And.intro hq (And.intro hat (And.intro hds (And.intro hkp (And.intro hcan (And.intro e3 (And.intro hRD hdl))))))))))
                clear hbG hld hod hq hat hds hkp hcan e3 hRD hdl
                go_upto_block 4 with fail
                go_cut [10] from 109 to 133 (fun _ wx => AtL w1.heap.size wD ws ws5 R G (.slice x1 t0 y1) (.slice x2 t1 y2) (.slice a3 ds.length c3) ds wx)
                case first =>
                  obtain ⟨tj, htj, hzz⟩ := Option.map_eq_some_iff.1 link_info
                  simp only [Prod.mk.injEq] at hzz
                  have HT := hid (And.intro htj hzz)
                  clear htj hzz
                  go_wp2_with fail
                  go_loopw [10] (fun i wr => ∃ k : Nat, k ≤ t3 ∧ i = .int .i64 (k : Int) ∧ Keeps (fun g => g = R ∨ g = G) wD wr ∧ ∃ (ls : List Lk) (at_ : Nat) (bad : Bool) (vd : Value), ls.length = k ∧ Blk wr G 27 #[.slice x1 t0 y1, .slice x2 t1 y2, .slice a3 ds.length c3, vd] ∧ Sl wr wD.heap.size 43 3 vd k (flatOf ul ls) ∧ QAt w1.heap.size wr R ws5 at_ bad ∧ at_ ≤ ws5.length ∧ (∀ x ∈ ls, x.1.length ≤ 255 ∧ x.2.1.length ≤ 255) ∧ ∀ O, mayB O = true → encO O = ws → ls = O.links.take k ∧ at_ = posL O k ∧ bad = false) (fun i _ => t3 - (intOf i).toNat)
                  case atStart =>
                    refine ⟨0, Nat.zero_le _, rfl, Keeps.refl _ _, [], at_, bad, _, rfl, HE.out.1, Sl.nil _ _ _ _, HE.out.2.2.2.1, HE.out.2.2.2.2.1, (fun d hd => by cases hd), fun O hm he => ?_⟩
                    obtain ⟨_, h2, h3⟩ := HE.out.2.2.2.2.2.2.2.1 O hm he
                    exact ⟨rfl, h2, h3⟩
                  case round =>
                    obtain ⟨k, hk, rfl, hkp, ls, at_, bad, vd, hdl, hbG, hsd, hq, hat, hds, hcan⟩ := hrel
                    have e2 : wr.cell? ⟨M, 3, none⟩ = some (.int .i64 (t3 : Int)) := hkp.cell HE.out.2.2.2.2.2.2.2.2.1 HR.out.2.2.2.2.2.2.2.2
                    obtain ⟨vq, hqb, _, _⟩ := id hq
                    have q2 : wr.cell? ⟨R, 2, none⟩ = some (.bool bad) := by rw [hqb.cell]; rfl
                    obtain ⟨a7, c7, rfl⟩ := hsd.val
                    by_cases hgo : k < t3 ∧ bad = false
                    · obtain ⟨hkn, rfl⟩ := hgo
                      have w2' : IntKind.i64.wrap ((k : Int) + 1) = k + 1 := by rw [IntKind.wrap_i64]; omega
                      have hlt : (k : Int) < (t3 : Int) := by omega
                      have hwl := HR.out.2.2.1
                      have hTX := fun X a b (hX : QAt w1.heap.size X R ws5 a b) (ha : a ≤ ws5.length) => qtext_any X R ws5 a b hX HR.out.2.2.2.2.1 (by omega) ha
                      have hNX := fun X a b (hX : QAt w1.heap.size X R ws5 a b) (ha : a ≤ ws5.length) => qnumber_any X R ws5 a b hX HR.out.2.2.2.2.1 (by omega) ha
                      have HTX := hid hTX
                      have HNX := hid hNX
                      have hown : ∀ g, (Value.slice a7 k c7).ownBlock = some g → wD.heap.size ≤ g := fun g hg => (hsd.lt g hg).1
                      have hRD := HE.out.2.2.2.2.2.2.2.2.2.1
                      have HOR : Hid (∀ g, (Value.slice a7 k c7).ownBlock = some g → ¬ g = R) := fun g hg e => by have := hown g hg; omega
                      have HOG : Hid (¬ (Value.slice a7 k c7).ownBlock = some G) := fun e => by have := hown G e; have := HR.out.2.1; omega
                      obtain ⟨g0, g1, g2, g3⟩ := blk4 hbG
                      have HX := hid (And.intro hkp (And.intro hbG (And.intro hsd (And.intro hdl (And.intro hds hcan)))))
                      have HSZ : Hid (wD.heap.size ≤ wr.drew.heap.size) := hkp.size
                      have HQD := hid (And.intro hq.drew hat)
                      have HBD := hid (hbG.new_ ((New.refl wr).drew))
                      have HSD := hid (hsd.new_ ((New.refl wr).drew))
                      have HRD := hid hRD
                      have p1 : k + 1 ≤ maxLen := by unfold maxLen; omega
                      have p2 : (k + 1) * 40 ≤ 140737488355328 := by omega
                      clear hkp hbG hsd hdl hds hcan hq hqb hwl hTX hNX hown g0 g1 g2 hat hRD
                      go_wp2_with fail
                      clear e2 q2
                      go_region_law (first
                        | (go_simp; go_at_call 28; (with_reducible refine (HTX.out _ _ _ hq4 ha4).mono ?_); rintro e w5 ⟨nm, at5, b5, rfl, hl5, ha5, hq5, hk5, hc5⟩; have hb5 := Blk.keeps hb4 hk5 HGR.out; obtain ⟨_, _, _, g53⟩ := blk4 hb5; have hs5 := Sl.keeps hs4 hk5 HOR.out)
                        | (go_simp; go_at_call 28; (with_reducible refine (HTX.out _ _ _ HQD.out.1 HQD.out.2).mono ?_); rintro e w4 ⟨sg, at4, b4, rfl, hl4, ha4, hq4, hk4, hc4⟩; have hb4 := Blk.keeps HBD.out hk4 HGR.out; obtain ⟨_, _, _, g43⟩ := blk4 hb4; have hs4 := Sl.keeps HSD.out hk4 HOR.out)
                        | (go_simp; go_at_call 29; (with_reducible refine (HNX.out _ _ _ hq5 ha5).mono ?_); rintro e w6 ⟨rfl, hq6, hk6⟩; have hb6 := Blk.keeps hb5 hk6 HGR.out; obtain ⟨_, _, _, g63⟩ := blk4 hb6; have ga63 := fun o => ((New.refl w6).alloc o).cellK g63; have hs6 := Sl.keeps hs5 hk6 HOR.out; have hz6 := Nat.le_trans HSZ.out (Nat.le_trans hk4.size (Nat.le_trans hk5.size hk6.size)))
                        | (refine step_append_sl rfl (.tmp 123) (.tmp 131) 25 rfl wD.heap.size 43 tj _ 3 40 Try.underlying25 HT.out.1 HT.out.2.1 HT.out.2.2.1 HT.out.2.2.2 rfl (by decide) (.slice a7 k c7) k _ (by simp [Act.eval, Act.put]) (hs6.alloc _) ⟨w6.heap.size, 0, none⟩ 1 1 (ul (sg, nm, ((numQ ws5 at5 b5).1 : Int))) (by simp [Act.eval, Act.put]) (by decide) rfl (news_one (l := ul (sg, nm, ((numQ ws5 at5 b5).1 : Int)))) (ul_one _) p1 p2 (by rw [World.size_alloc]; omega) ?_; intro v7 w7 hs7 hg7 ho7; have hk7 := Keeps.grown (F := fun g => (Value.slice a7 k c7).ownBlock = some g) (((New.refl w6).alloc _).keeps _) hg7 (fun g hg => Or.inr hg); have hb7 := Blk.keeps hb6 hk7 HOG.out; obtain ⟨_, _, _, g73⟩ := blk4 hb7; have gf7 := blk4f hb7 3; obtain ⟨a9, c9, rfl⟩ := hs7.val))
                      all_goals
                        have hm := qstep_meet (j := 3) HX.out.1.drew (Keeps.trans (Keeps.trans hk4 hk5 fun i _ h => h) hk6 fun i _ h => h) hk7 (fun g hg => (hs6.lt g hg).1) HRD.out (Nat.lt_trans HR.out.2.1 HRD.out) HRG.out HR.out.2.2.2.1 hq6 hb7 hs7
                        have hat6 : (numQ ws5 at5 b5).2.1 ≤ ws5.length := wordQ_at _ _ _ ha5
                        have hnew : ∀ O, mayB O = true → encO O = ws → ls ++ [(sg, nm, ((numQ ws5 at5 b5).1 : Int))] = O.links.take (k + 1) ∧ (numQ ws5 at5 b5).2.1 = posL O (k + 1) ∧ (numQ ws5 at5 b5).2.2 = false := fun O hmm he => by
                          obtain ⟨h1, h2, h3⟩ := HX.out.2.2.2.2.2 O hmm he
                          obtain ⟨e0, e1, e2, e3, e4, _⟩ := HH.out O hmm he
                          have hw5 : ws5 = bodyO O := by rw [HW5.out, e4]
                          obtain ⟨d, hd⟩ : ∃ d, O.links[k]? = some d := ⟨_, List.getElem?_eq_getElem (by omega)⟩
                          obtain ⟨c1, c2, c3, c4⟩ := links_can (HFit.out O hmm) hd h2 (rfl : false = false)
                          rw [← hw5] at c1 c2 c3
                          obtain ⟨x1, x2, x3⟩ := hc4 d.1 c1
                          rw [← x2] at c2 c3
                          rw [← x3] at c2
                          obtain ⟨y1, y2, y3⟩ := hc5 d.2.1 c2
                          rw [← y2] at c3
                          rw [y3, c3]
                          refine ⟨?_, rfl, rfl⟩
                          rw [take_snoc hd, h1, x1, y1, ← c4]
                        have hdn : ∀ x ∈ ls ++ [(sg, nm, ((numQ ws5 at5 b5).1 : Int))], x.1.length ≤ 255 ∧ x.2.1.length ≤ 255 := fun d hd => by
                          rcases List.mem_append.1 hd with hd | hd
                          · exact HX.out.2.2.2.2.1 d hd
                          · rw [List.mem_singleton.1 hd]; exact ⟨hl4, hl5⟩
                        have HM := hid (And.intro hm (And.intro hat6 (And.intro hnew hdn)))
                        clear hm hat6 hnew hdn hs7 hg7 ho7 hk7 hb7 g73 gf7 hc5 hq5 hk5 hb5 g53 hs5 hc4 hq4 hk4 hb4 g43 hs4 hq6 hk6 hb6 g63 ga63 hs6 hz6
                        go_wp2_with fail
                        refine ⟨⟨k + 1, by omega, by go_num, HM.out.1.1, ls ++ [(sg, nm, ((numQ ws5 at5 b5).1 : Int))], _, _, _, by rw [List.length_append, HX.out.2.2.2.1]; rfl, by simpa using HM.out.1.2.1, ?_, HM.out.1.2.2.2, HM.out.2.1, HM.out.2.2.2, HM.out.2.2.1⟩, by simp [intOf]; omega⟩
                        rw [flatOf_app, flatOf_one]
                        exact HM.out.1.2.2.1
                    · have hfin : AtL w1.heap.size wD ws ws5 R G (.slice x1 t0 y1) (.slice x2 t1 y2) (.slice a3 ds.length c3) ds wr := by
                        subst hdl
                        refine ⟨ls, at_, bad, a7, c7, hbG, LsAt.of_sl ul_len hsd, hq, hat, hds, hkp, fun O hm he => ?_⟩
                        obtain ⟨h1, h2, h3⟩ := hcan O hm he
                        obtain ⟨e0, e1, e2, e3, e4, _⟩ := HH.out O hm he
                        have hk2 : ls.length = t3 := by
                          refine Nat.le_antisymm hk (Nat.le_of_not_lt fun hlt => hgo ⟨hlt, h3⟩)
                        refine ⟨by rw [h1]; rw [List.take_of_length_le (by omega)], ?_, h3⟩
                        rw [h2, hk2, e3, posL_end]
                      have HF := hid hfin
                      clear hfin hbG hsd hq hqb hat hds hcan hkp
                      by_cases hkn : k < t3
                      · have hbd : bad = true := by
                          cases bad
                          · exact absurd ⟨hkn, rfl⟩ hgo
                          · rfl
                        subst hbd
                        have hlt : (k : Int) < (t3 : Int) := by omega
                        clear hgo
                        go_wp2_with fail
                        go_meet
                        exact HF.out
                      · have hlt : ¬ (k : Int) < (t3 : Int) := by omega
                        clear hgo
                        go_wp2_with fail
                        go_meet
                        exact HF.out
                case rest =>
                  obtain ⟨ls, at2, bad2, a4, c4, hbG, hll, hq, hat, hls, hkp, hcan⟩ := hcut
                  obtain ⟨wE, hwE⟩ : ∃ wE, wE = wc := ⟨_, rfl⟩
                  subst hwE
                  obtain ⟨Oq, hOq⟩ : ∃ Oq : Ob, Oq = ⟨ws.take t0, (ws.drop t0).take t1, ds, ls⟩ := ⟨_, rfl⟩
                  have hkA : Keeps (fun g => g = R ∨ g = G) wA wE := HE.out.2.2.2.2.2.2.1.trans hkp fun i _ h => h
                  have HKA := hid hkA
                  have hob : ObAt wE (.agg #[.slice x1 t0 y1, .slice x2 t1 y2, .slice a3 ds.length c3, .slice a4 ls.length c4]) Oq := by
                    rw [hOq]
                    refine ⟨_, _, _, _, rfl, ?_, ?_, ?_, hll⟩
                    · exact (HC.out.2.2.1.new_ HQA.out.2.2).keeps hkA (fun g hg e => by
                        have := HC.out.2.2.2.2.1 g hg
                        rcases e with e | e
                        · have := HRW.out; omega
                        · exact this.1 e)
                    · exact (HC.out.2.2.2.1.new_ HQA.out.2.2).keeps hkA (fun g hg e => by
                        have := HC.out.2.2.2.2.2.1 g hg
                        rcases e with e | e
                        · have := HRW.out; omega
                        · exact this.1 e)
                    · exact HE.out.2.1.keeps hkp (fun g hg e => by
                        have := HE.out.2.2.1 g hg
                        have := HR.out.1
                        have := HR.out.2.1
                        rcases e with e | e <;> omega)
                  have hlens : Lens Oq := by
                    rw [hOq]
                    exact ⟨fun d hd => Nat.le_trans (HE.out.2.2.2.2.2.1 d hd) (by unfold maxLen; decide), fun x hx => ⟨Nat.le_trans (hls x hx).1 (by unfold maxLen; decide), Nat.le_trans (hls x hx).2 (by unfold maxLen; decide)⟩⟩
                  have hgood : ∀ O, mayB O = true → encO O = ws → O = Oq ∧ at2 = N5 ∧ bad2 = false := fun O hm he => by
                    obtain ⟨h1, h2, h3⟩ := hcan O hm he
                    obtain ⟨g1, _, _⟩ := HE.out.2.2.2.2.2.2.2.1 O hm he
                    obtain ⟨e0, e1, e2, e3, e4, e5⟩ := HH.out O hm he
                    obtain ⟨p1, p2⟩ := body_parts e0 e1 e4 e5
                    refine ⟨by rw [hOq, p1, p2, g1, h1], ?_, h3⟩
                    have := HR.out.2.2.1
                    rw [h2, ← e4, ← HW5.out, this]
                  have hnE : New w wE := HR.out.2.2.2.2.2.1.kept hkA (fun i hi => by
                    have h1 := HR.out.2.1
                    have h2 := HR.out.2.2.2.1
                    have h3 := HN.out.1.size
                    rcases hi with rfl | rfl <;> omega)
                  have hBR : ¬ (B = R ∨ B = G) := by
                    have h1 := HN.out.2.1.lt
                    have h2 := HR.out.2.2.2.1
                    have h3 := HR.out.2.1
                    omega
                  have hBE : Blk wE B 27 #[.slice none 0 0, .slice none 0 0, .slice none 0 0, .slice none 0 0] := (HN.out.2.1.new_ (HK.out.2.2.2.1.step (HC.out.2.2.2.2.2.2.step HQA.out.2.2))).keeps hkA hBR
                  obtain ⟨g0, g1, g2, g3⟩ := blk4 hbG
                  obtain ⟨vq, hqb, hql, hqo⟩ := id hq
                  obtain ⟨aq, cq, rfl, _⟩ := id hql
                  have r0 : wE.cell? ⟨R, 0, none⟩ = some (.slice aq ws5.length cq) := by rw [hqb.cell]; rfl
                  have r1 : wE.cell? ⟨R, 1, none⟩ = some (.int .i64 (at2 : Int)) := by rw [hqb.cell]; rfl
                  have r2 : wE.cell? ⟨R, 2, none⟩ = some (.bool bad2) := by rw [hqb.cell]; rfl
                  rw [HR.out.2.2.1] at r0
                  obtain ⟨b0, b1, b2, b3⟩ := blk4 hBE
                  have hMay := fun X (hX : New wE X) => refMay_any X _ Oq (hob.new_ hX) hlens
                  have hWds := fun X (hX : New wE X) => refWordsO_any X _ Oq (hob.new_ hX) hlens
                  have HWd := hid hWds
                  have HF := hid (And.intro hob (And.intro hlens (And.intro hgood (And.intro hnE (And.intro hBE hbG)))))
                  have HNO : Hid (∀ X, New wE X → Blk X B 27 #[.slice none 0 0, .slice none 0 0, .slice none 0 0, .slice none 0 0]) := fun X hX => hBE.new_ hX
                  clear hob hlens hgood hnE hBE hbG hqb hql hqo hq hll hls hkp hcan hkA hWds hat hOq hBR
                  have bad_out : ∀ X, New wE X → (¬ ∃ O, mayB O = true ∧ encO O = ws) → True := fun _ _ _ => trivial
                  clear bad_out
                  go_upto_region 23 with fail
                  cases bad2 with
                  | true =>
                    have hno : Hid (¬ ∃ O, mayB O = true ∧ encO O = ws) := fun ⟨O, hm, he⟩ => by have := (HF.out.2.2.1 O hm he).2.2; cases this
                    clear hMay g0 g1 g2 g3
                    refine wp_region_quiet (C := fun w' => New wE w') (by kernel_rfl) (by kernel_rfl) (New.refl wE).drew ?_
                    simp only [List.toList_toArray]
                    repeat (first
                      | go_big_quiet_skip
                      | (go_big_quiet_want
                         apply Exists.intro
                         refine ⟨fun w' hw' => ?_, ?_⟩
                         · have r0_ := hw'.cellK r0; have r1_ := hw'.cellK r1; have r2_ := hw'.cellK r2; go_simp; first | (with_reducible rfl)
                         go_big_quiet_on
                         try simp only [Act.put, List.setIfInBounds_toArray, List.set_cons_zero, List.set_cons_succ]))
                    refine wpQuiet_nil ?_
                    intro wQ hwQ
                    have hBQ := HNO.out _ hwQ
                    obtain ⟨d0, d1, d2, d3⟩ := blk4 hBQ
                    have df := hBQ.frozen
                    obtain ⟨z0, z1, z2, z3⟩ := blk4 (set4_blk hBQ (.slice none 0 0) (.slice none 0 0) (.slice none 0 0) (.slice none 0 0))
                    unfold set4 at z0 z1 z2 z3
                    have HZ := hid (And.intro z0 (And.intro z1 (And.intro z2 z3)))
                    clear z0 z1 z2 z3 r0 r1 r2 b0 b1 b2 b3
                    go_wp2_with fail
                    refine bodyPost_ret (v := .tuple #[.agg #[.slice none 0 0, .slice none 0 0, .slice none 0 0, .slice none 0 0], .bool false]) (by simp [results, Try.results20, go_sem, HZ.out.1, HZ.out.2.1, HZ.out.2.2.1, HZ.out.2.2.2]) rfl ?_
                    exact qpost_no hno.out ((HF.out.2.2.2.1.step hwQ).kept (set4_keeps _ _ _ _ _ _) (fun i hi => by rw [hi, hB'.out]; exact Nat.le_refl _))
                  | false =>
                    by_cases hate : at2 = N5
                    · have hate1 : ((at2 : Int) != (N5 : Int)) = false := by simp; omega
                      have hate2 : (at2 : Int) = (N5 : Int) := by omega
                      cases hmb : mayB Oq with
                      | false =>
                        rw [hmb] at hMay
                        have hno : Hid (¬ ∃ O, mayB O = true ∧ encO O = ws) := fun ⟨O, hm, he⟩ => by have := (HF.out.2.2.1 O hm he).1; rw [this, hmb] at hm; cases hm
                        subst hate
                        clear hmb hate1 hate2
                        have hM2 := hid hMay
                        clear hMay
                        refine wp_region_quiet (C := fun w' => New wE w') (by kernel_rfl) (by kernel_rfl) (New.refl wE).drew ?_
                        simp only [List.toList_toArray]
                        repeat (first
                          | go_big_quiet_skip
                          | (go_big_quiet_want
                             apply Exists.intro
                             refine ⟨fun w' hw' => ?_, ?_⟩
                             · have r0_ := hw'.cellK r0; have r1_ := hw'.cellK r1; have r2_ := hw'.cellK r2; have g0_ := hw'.cellK g0; have g1_ := hw'.cellK g1; have g2_ := hw'.cellK g2; have g3_ := hw'.cellK g3; go_simp; first | (with_reducible rfl) | (go_at_call 21; with_reducible exact ((hM2.out _ hw').mono (fun e w2 h => ⟨h.1, hw'.step h.2⟩)))
                             go_big_quiet_on
                             try simp only [Act.put, List.setIfInBounds_toArray, List.set_cons_zero, List.set_cons_succ]))
                        refine wpQuiet_nil ?_
                        intro wQ hwQ
                        have hBQ := HNO.out _ hwQ
                        obtain ⟨d0, d1, d2, d3⟩ := blk4 hBQ
                        have df := hBQ.frozen
                        obtain ⟨z0, z1, z2, z3⟩ := blk4 (set4_blk hBQ (.slice none 0 0) (.slice none 0 0) (.slice none 0 0) (.slice none 0 0))
                        unfold set4 at z0 z1 z2 z3
                        have HZ := hid (And.intro z0 (And.intro z1 (And.intro z2 z3)))
                        clear z0 z1 z2 z3 r0 r1 r2 b0 b1 b2 b3 g0 g1 g2 g3
                        go_wp2_with fail
                        refine bodyPost_ret (v := .tuple #[.agg #[.slice none 0 0, .slice none 0 0, .slice none 0 0, .slice none 0 0], .bool false]) (by simp [results, Try.results20, go_sem, HZ.out.1, HZ.out.2.1, HZ.out.2.2.1, HZ.out.2.2.2]) rfl ?_
                        exact qpost_no hno.out ((HF.out.2.2.2.1.step hwQ).kept (set4_keeps _ _ _ _ _ _) (fun i hi => by rw [hi, hB'.out]; exact Nat.le_refl _))
                      | true =>
                        rw [hmb] at hMay
                        have HMB := hid hmb
                        subst hate
                        clear hmb hate1 hate2
                        have hM2 := hid hMay
                        clear hMay
                        refine wp_region_quiet (C := fun w' => New wE w') (by kernel_rfl) (by kernel_rfl) (New.refl wE).drew ?_
                        simp only [List.toList_toArray]
                        repeat (first
                          | go_big_quiet_skip
                          | (go_big_quiet_want
                             apply Exists.intro
                             refine ⟨fun w' hw' => ?_, ?_⟩
                             · have r0_ := hw'.cellK r0; have r1_ := hw'.cellK r1; have r2_ := hw'.cellK r2; have g0_ := hw'.cellK g0; have g1_ := hw'.cellK g1; have g2_ := hw'.cellK g2; have g3_ := hw'.cellK g3; go_simp; first | (with_reducible rfl) | (go_at_call 21; with_reducible exact ((hM2.out _ hw').mono (fun e w2 h => ⟨h.1, hw'.step h.2⟩)))
                             go_big_quiet_on
                             try simp only [Act.put, List.setIfInBounds_toArray, List.set_cons_zero, List.set_cons_succ]))
                        refine wpQuiet_nil ?_
                        intro wQ hwQ
                        have hGQ := HF.out.2.2.2.2.2.new_ hwQ
                        obtain ⟨k0, k1, k2, k3⟩ := blk4 hGQ
                        clear r0 r1 r2 b0 b1 b2 b3 g0 g1 g2 g3
                        have hW2 := hid (HWd.out _ hwQ)
                        have HQ2 := hid hwQ
                        go_wp2_with fail
                        refine hW2.out.mono ?_
                        rintro e w7 (⟨_, v5, rfl, hl7, n7⟩ | ⟨hmn, _⟩)
                        · obtain ⟨a5, c5, rfl, _⟩ := id hl7
                          have hE7 := HQ2.out.step n7
                          have hS7 := blk4 (HF.out.2.2.2.2.2.new_ hE7)
                          have hwl7 : LsAt 1 uw w7 (.slice (some ⟨bb, oo, none⟩) L c) ws := (HN.out.2.2.new_ (HK.out.2.2.2.1.step (HC.out.2.2.2.2.2.2.step HQA.out.2.2))).keeps HKA.out (fun g hg e => by
                            have hg' : bb = g := by cases hg; rfl
                            have h1 := HBB.out
                            have h2 := HR.out.2.2.2.1
                            have h3 := HR.out.2.1
                            rcases e with rfl | rfl <;> omega) |>.new_ hE7
                          have hlenE : (encO Oq).length ≤ 1024 := by
                            have := HMB.out
                            unfold mayB at this
                            rw [Bool.and_eq_true] at this
                            exact of_decide_eq_true this.2
                          have hwsl : ws.length ≤ 1000000 := by rw [← HL.out.1]; exact hlen
                          have hSW := fun X h1 h2 => (sameW X (.slice a5 (encO Oq).length c5) (.slice (some ⟨bb, oo, none⟩) L c) (encO Oq) ws h1 h2 (by omega) hwsl).mono (fun e w' h => (show e = .returned (.bool (decide (encO Oq = ws))) ∧ New X w' from ⟨h.1, by obtain ⟨k, rfl⟩ := h.2; exact (New.refl X).drewN k⟩))
                          obtain ⟨nE, hnE⟩ : ∃ nE, nE = (encO Oq).length := ⟨_, rfl⟩
                          rw [← hnE] at hSW hl7 ⊢
                          have HSW := hid hSW
                          have hB7 := HNO.out _ hE7
                          have hBd : Blk w7.drew B 27 #[.slice none 0 0, .slice none 0 0, .slice none 0 0, .slice none 0 0] := hB7.new_ ((New.refl w7).drew)
                          have hSd := S4_new ((New.refl w7).drew) hS7
                          have HL7 := hid (And.intro (hl7.new_ ((New.refl w7).drew)) (hwl7.new_ ((New.refl w7).drew)))
                          have HLs := hid (fun (p q r s : Value) => And.intro (ls_off HL7.out.1 hBd (fun x => ⟨_, rfl, by simp⟩) (set4_keeps w7.drew B p q r s)) (ls_off HL7.out.2 hBd (fun x => ⟨_, rfl, by simp⟩) (set4_keeps w7.drew B p q r s)))
                          unfold set4 at HLs
                          obtain ⟨d0, d1, d2, d3⟩ := blk4 hBd
                          have df := hBd.frozen
                          have HGB : Hid (¬ G = B) := by
                            have h1 := HN.out.2.1.lt
                            have h2 := HR.out.2.2.2.1
                            show ¬ G = B
                            omega
                          obtain ⟨z0, z1, z2, z3⟩ := blk4 (set4_blk hBd (.slice x1 t0 y1) (.slice x2 t1 y2) (.slice a3 ds.length c3) (.slice a4 ls.length c4))
                          have HBd := hid (And.intro hBd (And.intro hE7 (blk4 (set4_blk hBd (.slice x1 t0 y1) (.slice x2 t1 y2) (.slice a3 ds.length c3) (.slice a4 ls.length c4)))))
                          unfold set4 at z0 z1 z2 z3
                          clear hwl7 hSW hB7 hBd hE7 hl7 n7 k0 k1 k2 k3 hlenE hwsl hnE
                          obtain ⟨k0, k1, k2, k3⟩ := id hS7
                          go_upto_region 26 with fail
                          go_region_held3 (fun w' => w'.cell? ⟨G, 0, none⟩ = some (.slice x1 t0 y1) ∧ w'.cell? ⟨G, 1, none⟩ = some (.slice x2 t1 y2) ∧ w'.cell? ⟨G, 2, none⟩ = some (.slice a3 ds.length c3) ∧ w'.cell? ⟨G, 3, none⟩ = some (.slice a4 ls.length c4)) (first | with_reducible exact S4_st HGB.out hS8 | with_reducible exact S4_st HGB.out hSd | with_reducible exact hSd | with_reducible exact hS8) (first
                            | (go_at_call 15; (with_reducible refine (HSW.out _ HL7.out.1 HL7.out.2).mono ?_); rintro e w8 ⟨rfl, n8⟩; have hS8 := S4_new n8 hSd; have hB8 := HBd.out.1.new_ n8; obtain ⟨f0, f1, f2, f3⟩ := blk4 hB8; have ff := hB8.frozen)
                            | (go_at_call 15; (with_reducible refine (HSW.out _ (HLs.out _ _ _ _).1 (HLs.out _ _ _ _).2).mono ?_); rintro e w8 ⟨rfl, n8⟩; have hS8 := S4_new n8 (S4_st HGB.out hSd)))
                          · obtain ⟨y0, y1', y2', y3⟩ := blk4 (set4_blk hB8 (.slice x1 t0 y1) (.slice x2 t1 y2) (.slice a3 ds.length c3) (.slice a4 ls.length c4))
                            unfold set4 at y0 y1' y2' y3
                            go_wp2_with fail
                            refine bodyPost_ret (v := .tuple #[.agg #[.slice x1 t0 y1, .slice x2 t1 y2, .slice a3 ds.length c3, .slice a4 ls.length c4], .bool (decide (encO Oq = ws))]) (by simp [results, Try.results20, go_sem, y0, y1', y2', y3]) rfl ?_
                            exact ⟨x1, t0, y1, x2, t1, y2, a3, ds.length, c3, a4, ls.length, c4, decide (encO Oq = ws), rfl, ((((HF.out.2.2.2.1.step HBd.out.2.1).drew).step n8).kept (set4_keeps w8 B _ _ _ _) (fun i hi => by rw [hi, hB'.out]; exact Nat.le_refl _)), (fun hok => ⟨Oq, ob_off (HF.out.1.new_ ((HBd.out.2.1.drew).step n8)) hB8 (set4_keeps w8 B _ _ _ _), HF.out.2.1, HMB.out, of_decide_eq_true hok⟩), fun ⟨O, hm, he⟩ => decide_eq_true (by rw [← (HF.out.2.2.1 O hm he).1]; exact he)⟩
                        · rw [HMB.out] at hmn
                          cases hmn
                    · have hate1 : ((at2 : Int) != (N5 : Int)) = true := by simp; omega
                      have hate2 : ¬ (at2 : Int) = (N5 : Int) := by omega
                      have hno : Hid (¬ ∃ O, mayB O = true ∧ encO O = ws) := fun ⟨O, hm, he⟩ => hate (HF.out.2.2.1 O hm he).2.1
                      clear hMay g0 g1 g2 g3 hate
                      refine wp_region_quiet (C := fun w' => New wE w') (by kernel_rfl) (by kernel_rfl) (New.refl wE).drew ?_
                      simp only [List.toList_toArray]
                      repeat (first
                        | go_big_quiet_skip
                        | (go_big_quiet_want
                           apply Exists.intro
                           refine ⟨fun w' hw' => ?_, ?_⟩
                           · have r0_ := hw'.cellK r0; have r1_ := hw'.cellK r1; have r2_ := hw'.cellK r2; go_simp; first | (with_reducible rfl)
                           go_big_quiet_on
                           try simp only [Act.put, List.setIfInBounds_toArray, List.set_cons_zero, List.set_cons_succ]))
                      refine wpQuiet_nil ?_
                      intro wQ hwQ
                      have hBQ := HNO.out _ hwQ
                      obtain ⟨d0, d1, d2, d3⟩ := blk4 hBQ
                      have df := hBQ.frozen
                      obtain ⟨z0, z1, z2, z3⟩ := blk4 (set4_blk hBQ (.slice none 0 0) (.slice none 0 0) (.slice none 0 0) (.slice none 0 0))
                      unfold set4 at z0 z1 z2 z3
                      have HZ := hid (And.intro z0 (And.intro z1 (And.intro z2 z3)))
                      clear z0 z1 z2 z3 r0 r1 r2 b0 b1 b2 b3
                      go_wp2_with fail
                      refine bodyPost_ret (v := .tuple #[.agg #[.slice none 0 0, .slice none 0 0, .slice none 0 0, .slice none 0 0], .bool false]) (by simp [results, Try.results20, go_sem, HZ.out.1, HZ.out.2.1, HZ.out.2.2.1, HZ.out.2.2.2]) rfl ?_
                      exact qpost_no hno.out ((HF.out.2.2.2.1.step hwQ).kept (set4_keeps _ _ _ _ _ _) (fun i hi => by rw [hi, hB'.out]; exact Nat.le_refl _))
    · have hmg' : ¬ (x : Int) = 45812815077 := by omega
      have hmb : ((x : Int) == 45812815077) = false := by simpa using hmg'
      have hno : Hid (¬ ∃ O, mayB O = true ∧ encO O = ws) := fun ⟨O, _, he⟩ => by
        have h1 := (hd_tl he).2.1
        rw [← HL.out.1, ← HX.out.2, HX.out.1] at h1
        injection h1 with h1
        unfold magic at h1
        exact hmg h1
      clear hmg
      go_enter Try.func20, Try.ntmps20
      go_upto_region 2 with fail
      rw [← hw1'.out, ← hB'.out]
      go_wp2_with fail
      refine bodyPost_ret (v := .tuple #[.agg #[.slice none 0 0, .slice none 0 0, .slice none 0 0, .slice none 0 0], .bool false]) (by simp [results, Try.results20, go_sem, HZ.out.1, HZ.out.2.1, HZ.out.2.2.1, HZ.out.2.2.2]) rfl ?_
      exact qpost_no hno.out (HN.out.1.kept (set4_keeps _ _ _ _ _ _) (fun i hi => by rw [hi, hB'.out]; exact Nat.le_refl _))
end Go.Proofs.Ytnoahdobgndmnaa.Obj
