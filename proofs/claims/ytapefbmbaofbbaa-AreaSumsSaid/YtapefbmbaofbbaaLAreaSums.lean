/- The walk of AreaSums. -/
import Derived.Test.YtapefbmbaofbbaaAreaSum
import Derived.Test.YtapefbmbaofbbaaApp
import Derived.Test.YtapefbmbaofbbaaArr
import Derived.Test.YtapefbmbaofbbaaOpenG
import Derived.Deep.RegionWith
namespace Go.Proofs.Ytapefbmbaofbbaa.Law
open Go Go.RowKit Go.ChangeShapes Go.WideShapes Go.Proofs.Ytapefbmbaofbbaa.Kit Go.Proofs.Ytapefbmbaofbbaa.Area Go.Proofs.Ytapefbmbaofbbaa.Open
set_option linter.unusedSimpArgs false
set_option linter.unusedVariables false
theorem zon_run (w : World) : (zeroValue 33).run Try.prog w = .ok (.agg (zarr 256 (.bool false))) w := by kernel_rfl
def covB (ms : Ms) (x : Nat) : Bool := ms.any fun r => decide (r.1 ≤ x ∧ x < r.1 + r.2.length)
theorem covB_iff {ms : Ms} {x : Nat} : covB ms x = true ↔ Cov ms x := by unfold covB Cov; simp
def bI (P : List (Nat × Nat)) : List Value := P.map fun p => .int .i64 (p.1 : Int)
def zI (P : List (Nat × Nat)) : List Value := P.map fun p => .int .i64 (p.2 : Int)
def uc (x : Nat) : List Value := [.int .u8 (x : Int)]
/-- The blocks of the law's own: the array, the two lists. -/
def Mine (D : Nat) (b z : Value) (j : Nat) : Prop := j = D ∨ b.ownBlock = some j ∨ z.ownBlock = some j
def St (w1 w : World) (A N D : Nat) (ms : Ms) (P : List (Nat × Nat)) (b z : Value) (f : Nat → Bool) : Prop :=
  With w1 w A N ms (Mine D b z) ∧ Sl w w1.heap.size 3 1 b P.length (bI P) ∧ Sl w w1.heap.size 3 1 z P.length (zI P) ∧ (∀ g, b.ownBlock = some g → z.ownBlock ≠ some g) ∧ Arr w D 33 256 (fun x => .bool (f x))
section
variable {w1 w w' : World} {A N D : Nat} {ms ms' : Ms} {P P' : List (Nat × Nat)} {b z b' z' : Value} {f : Nat → Bool}
theorem arr_of {w w' : World} {g n : Nat} {t : TypeId} {f : Nat → Value} (h : Arr w g t n f) (hb : w'.heap[g]? = w.heap[g]?) : Arr w' g t n f := by
  obtain ⟨arr, h1, h2, h3⟩ := h
  exact ⟨arr, h1.of_block hb, h2, h3⟩
theorem St.turn (h : St w1 w A N D ms P b z f) (hw : With w1 w' A N ms' (Mine D b z)) (hs : Same (Mine D b z) w w') : St w1 w' A N D ms' P b z f :=
  ⟨hw, h.2.1.of_block fun g hg => hs.2 g (.inr (.inl hg)), h.2.2.1.of_block fun g hg => hs.2 g (.inr (.inr hg)), h.2.2.2.1, arr_of h.2.2.2.2 (hs.2 D (.inl rfl))⟩
theorem St.new_ (h : St w1 w A N D ms P b z f) (hn : New w w') : St w1 w' A N D ms P b z f := h.turn (h.1.new_ hn) (h.1.same hn)
theorem St.ne (h : St w1 w A N D ms P b z f) : b.ownBlock ≠ some D ∧ z.ownBlock ≠ some D := by
  obtain ⟨arr, hb, _⟩ := h.2.2.2.2
  refine ⟨fun e => ?_, fun e => ?_⟩
  · obtain ⟨_, a', h'⟩ := h.2.1.blk e
    exact absurd (hb.inj h') (by decide)
  · obtain ⟨_, a', h'⟩ := h.2.2.1.blk e
    exact absurd (hb.inj h') (by decide)
theorem St.setOn (h : St w1 w A N D ms P b z f) (i : Nat) (v : Bool) : St w1 (w.setCell ⟨D, i, none⟩ (.bool v)) A N D ms P b z (fun x => if x = i then v else f x) := by
  have hlt := h.2.2.2.2.lt
  refine ⟨h.1.kept (Keeps.setCell (F := Mine D b z) (Keeps.refl _ _) (.inr (.inl rfl)) _) (fun k hk => ⟨.inl hk, ?_⟩), h.2.1.far (fun g hg e => h.ne.1 (by rw [hg, e])) _, h.2.2.1.far (fun g hg e => h.ne.2 (by rw [hg, e])) _, h.2.2.2.1, ?_⟩
  · rw [size_setCell]
    obtain ⟨S, _, _, _, h4⟩ := h.1
    exact (h4 k hk).2.1
  · refine (h.2.2.2.2.set i (.bool v)).congr fun x _ => ?_
    by_cases e : x = i
    · simp [e]
    · simp [e]
theorem St.lists (h : St w1 w A N D ms P b z f) (hk : Keeps (Mine D b z) w w') (hD : w'.heap[D]? = w.heap[D]?) (hb : Sl w' w1.heap.size 3 1 b' P'.length (bI P')) (hz : Sl w' w1.heap.size 3 1 z' P'.length (zI P')) (hne : ∀ g, b'.ownBlock = some g → z'.ownBlock ≠ some g)
    (hown : ∀ j, Mine D b' z' j → Mine D b z j ∨ w.heap.size ≤ j) : St w1 w' A N D ms P' b' z' f := by
  refine ⟨h.1.kept hk (fun k hk' => ⟨hown k hk', ?_⟩), hb, hz, hne, arr_of h.2.2.2.2 hD⟩
  rcases hk' with rfl | hk' | hk'
  · exact (arr_of h.2.2.2.2 hD).lt
  · exact (hb.lt k hk').2
  · exact (hz.lt k hk').2
end
theorem St.congr {w1 w : World} {A N D : Nat} {ms : Ms} {P : List (Nat × Nat)} {b z : Value} {f f' : Nat → Bool} (h : St w1 w A N D ms P b z f) (e : ∀ x, x < 256 → f x = f' x) : St w1 w A N D ms P b z f' :=
  ⟨h.1, h.2.1, h.2.2.1, h.2.2.2.1, h.2.2.2.2.congr fun i hi => by rw [e i hi]⟩
theorem int_info : (Try.prog.info? 3).map (fun i => (i.zero, i.size, i.bytes)) = some (some (.int .i64 0), 1, 8) := by kernel_rfl
theorem news_int {w : World} {g : Nat} {x : Int} (h : Blk w g 3 #[.int .i64 x]) : ∀ j u, [Value.int .i64 x][j]? = some u → w.cell? ((⟨g, 0, none⟩ : Addr).add j) = some u := by
  intro j u hu
  rw [Addr.add_lit, Nat.zero_add, h.cell]
  have : (#[.int .i64 x] : Array Value) = [Value.int .i64 x].toArray := rfl
  rw [this, List.getElem?_toArray]
  exact hu
theorem one_int (x : Int) : ∀ u ∈ [Value.int .i64 x], u.oneCell' = true := by
  intro u hu
  rw [List.mem_singleton.1 hu]
  rfl
theorem St.at {w1 w : World} {A N D g7 o7 g8 o8 m c7 c8 : Nat} {ms : Ms} {P : List (Nat × Nat)} {f : Nat → Bool} (h : St w1 w A N D ms P (.slice (some ⟨g7, o7, none⟩) m c7) (.slice (some ⟨g8, o8, none⟩) m c8) f) {j : Nat} {B K : Nat} (hp : P[j]? = some (B, K)) :
    w.cell? ⟨g7, o7 + j, none⟩ = some (.int .i64 (B : Int)) ∧ w.cell? ⟨g8, o8 + j, none⟩ = some (.int .i64 (K : Int)) := by
  have hjP := (List.getElem?_eq_some_iff.1 hp).1
  obtain ⟨g, o, q, e7, _, _, _, hc7, _⟩ := h.2.1.form (by omega)
  obtain ⟨g', o', q', e8, _, _, _, hc8, _⟩ := h.2.2.1.form (by omega)
  injection e7 with e7 _ e7c
  injection e8 with e8 _ e8c
  injection e7 with e7
  injection e8 with e8
  injection e7 with e7 e7'
  injection e8 with e8 e8'
  subst e7 e8 e7' e8'
  exact ⟨hc7 j _ (by unfold bI; rw [List.getElem?_map, hp]; rfl), hc8 j _ (by unfold zI; rw [List.getElem?_map, hp]; rfl)⟩
/-- What is covered when a room is given back, as Bools. -/
theorem lists_rid {N : Nat} {ms : Ms} {P : List (Nat × Nat)} (h : Lists ms P) (hg : Area.Good N ms) {j B K : Nat} (hp : P[j]? = some (B, K)) (y : Nat) : (covB ms y && !decide (B ≤ y ∧ y < B + K)) = covB (giveM ms (B : Int)) y := by
  have := Cov.give h hg hp y
  rw [Bool.eq_iff_iff, covB_iff, this, Bool.and_eq_true, covB_iff, Bool.not_eq_true', decide_eq_false_iff_not]
/-- One element less in each of the two lists. -/
theorem St.cut {w1 wr w6 w8 : World} {A N D m j k2 k4 : Nat} {ms : Ms} {P : List (Nat × Nat)} {b z : Value} {b2 b4 : Addr} {f : Nat → Bool} (h : St w1 wr A N D ms P b z f) (hm : m = P.length) (hj : j < m)
    (s6 : Sl w6 w1.heap.size 3 1 (.slice (some b2) (m - 1) k2) (m - 1) ((bI P).take (j * 1) ++ (bI P).drop ((j + 1) * 1))) (n6 : New wr w6) (h6 : wr.heap.size ≤ b2.block)
    (s8 : Sl w8 w1.heap.size 3 1 (.slice (some b4) (m - 1) k4) (m - 1) ((zI P).take (j * 1) ++ (zI P).drop ((j + 1) * 1))) (n8 : New w6 w8) (h8 : w6.heap.size ≤ b4.block) :
    St w1 w8 A N D ms (P.take j ++ P.drop (j + 1)) (.slice (some b2) (m - 1) k2) (.slice (some b4) (m - 1) k4) f := by
  have hn := n6.step n8
  have hl : (P.take j ++ P.drop (j + 1)).length = m - 1 := by rw [List.length_append, List.length_take, List.length_drop]; omega
  refine h.lists (hn.keeps _) (hn.block D h.2.2.2.2.lt) ?_ ?_ ?_ ?_
  · rw [hl]
    have := s6.new_ n8
    simpa [bI] using this
  · rw [hl]
    simpa [zI] using s8
  · intro g hg e
    have hg' : some b2.block = some g := hg
    have e' : some b4.block = some g := e
    have := (s6.lt b2.block rfl).2
    have := Option.some.inj hg'
    have := Option.some.inj e'
    omega
  · rintro i (hi | hi | hi)
    · exact .inl (.inl hi)
    · have hi' : some b2.block = some i := hi
      have := Option.some.inj hi'
      exact .inr (by omega)
    · have hi' : some b4.block = some i := hi
      have := Option.some.inj hi'
      have := n6.size
      exact .inr (by omega)
theorem all_int (P : List (Nat × Nat)) {g : Nat × Nat → Nat} : ∀ u ∈ P.map (fun p => Value.int .i64 (g p : Int)), u.oneCell' = true := by
  intro u hu
  obtain ⟨p, _, rfl⟩ := List.mem_map.1 hu
  rfl
/-- One more in each of the two lists. -/
theorem St.two {w1 wx w6 w8 : World} {A N D B K m : Nat} {ms : Ms} {P : List (Nat × Nat)} {b z v6 v8 : Value} {f : Nat → Bool} {o o' : Obj} (h : St w1 wx A N D ms P b z f) (hm : m = P.length)
    (hs6 : Sl w6 w1.heap.size 3 1 v6 (m + 1) (bI P ++ [.int .i64 (B : Int)])) (hg6 : (wx.alloc o).grownBy w6 b.ownBlock) (hb6 : v6.ownBlock = b.ownBlock ∨ ∃ g, v6.ownBlock = some g ∧ (wx.alloc o).heap.size ≤ g)
    (hs8 : Sl w8 w1.heap.size 3 1 v8 (m + 1) (zI P ++ [.int .i64 (K : Int)])) (hg8 : (w6.alloc o').grownBy w8 z.ownBlock) (hb8 : v8.ownBlock = z.ownBlock ∨ ∃ g, v8.ownBlock = some g ∧ (w6.alloc o').heap.size ≤ g) : St w1 w8 A N D ms (P ++ [(B, K)]) v6 v8 f := by
  have hl : (P ++ [(B, K)]).length = m + 1 := by simp [hm]
  have k6 : Keeps (Mine D b z) wx w6 := ((Keeps.refl _ wx).alloc o).grown hg6 (fun k hk => .inr (.inr (.inl hk)))
  have k8 : Keeps (Mine D b z) wx w8 := (k6.alloc o').grown hg8 (fun k hk => .inr (.inr (.inr hk)))
  have s6 := k6.size
  have z6 : ∀ g, z.ownBlock = some g → v6.ownBlock ≠ some g := fun g hg e => by
    have hlt := (h.2.2.1.lt g hg).2
    rcases hb6 with e' | ⟨g', e', hg'⟩
    · exact h.2.2.2.1 g (by rw [← e', e]) hg
    · rw [World.size_alloc] at hg'
      rw [e'] at e
      cases e
      omega
  refine h.lists k8 ?_ ?_ ?_ ?_ ?_
  · have hD := h.2.2.2.2.lt
    rw [hg8.block D (by rw [World.size_alloc]; omega) (fun e => h.ne.2 e.symm), Below.heap_alloc w6 o' D (by omega), hg6.block D (by rw [World.size_alloc]; omega) (fun e => h.ne.1 e.symm), Below.heap_alloc wx o D hD]
  · rw [hl]
    have := (hs6.alloc o').grown hg8 (fun g hg e => z6 g e.symm hg)
    simpa [bI] using this
  · rw [hl]
    simpa [zI] using hs8
  · intro g hg e
    rcases hb8 with e' | ⟨g', e', hg'⟩
    · exact z6 g (by rw [← e', e]) hg
    · have := (hs6.lt g hg).2
      rw [World.size_alloc] at hg'
      rw [e'] at e
      cases e
      omega
  · rintro j (hj | hj | hj)
    · exact .inl (.inl hj)
    · rcases hb6 with e' | ⟨g', e', hg'⟩
      · exact .inl (.inr (.inl (by rw [← e', hj])))
      · rw [World.size_alloc] at hg'
        rw [e'] at hj; cases hj
        exact .inr (by omega)
    · rcases hb8 with e' | ⟨g', e', hg'⟩
      · exact .inl (.inr (.inr (by rw [← e', hj])))
      · rw [World.size_alloc] at hg'
        rw [e'] at hj; cases hj
        exact .inr (by omega)
set_option maxRecDepth 100000 in
set_option maxHeartbeats 8000000 in
theorem areaSums_walk (n : Nat) (hn : n < 256) (v : Value) (l : List Nat) (hl : ∀ x ∈ l, x < 256) (w : World) (h : LsAt 1 uc w v l) :
    Calls Try.prog 4 #[.int .u8 (n : Int), v] w fun e w' => e = .returned (.bool true) ∧ New w w' := by
  obtain ⟨a, c, hv, hlc, hcm, _⟩ := id h
  subst hv
  unfold maxLen at hcm
  obtain ⟨L, hL⟩ : ∃ L, L = l.length := ⟨_, rfl⟩
  rw [← hL] at hlc h ⊢
  have H := hid (And.intro h (And.intro hL hl))
  clear h hL hl
  have hzon := zon_run
  have i0 : IntKind.i64.wrap (n : Int) = n := by rw [IntKind.wrap_i64]; omega
  go_enter Try.func4, Try.ntmps4
  go_wp2_with fail
  refine (awake_any w).mono ?_
  rintro e w1 ⟨rfl, n1⟩
  have HN := hid n1
  clear n1
  go_wp2_with fail
  refine (newW (n : Int) w1).mono ?_
  rintro e w2 ⟨rfl, s2⟩
  rw [Int.toNat_natCast] at s2
  obtain ⟨A, hA⟩ : ∃ A, A = w1.heap.size := ⟨_, rfl⟩
  rw [← hA] at s2 ⊢
  clear hA
  by_cases h200 : 200 < L
  · have h200' : (200 : Int) < (L : Int) := by omega
    have HF := hid (HN.out.step s2.new)
    clear s2
    go_wp2
    go_ret
    exact ⟨rfl, HF.out⟩
  · have h200' : ¬ (200 : Int) < (L : Int) := by omega
    have hB := Arr.new w2 33 256 (.bool false)
    have s3 : With w1 (w2.alloc (.cells (zarr 256 (.bool false)) 33)) A n [] (Mine w2.heap.size (.slice none 0 0) (.slice none 0 0)) := s2.kept ((Keeps.refl _ w2).alloc _) (fun k hk => by
      rcases hk with hk | hk | hk
      · rw [hk, World.size_alloc]; exact ⟨.inr (Nat.le_refl _), Nat.lt_succ_self _⟩
      · cases hk
      · cases hk)
    have HS := hid (show St w1 (w2.alloc (.cells (zarr 256 (.bool false)) 33)) A n w2.heap.size [] [] (.slice none 0 0) (.slice none 0 0) (fun _ => false) from ⟨s3, Sl.nil _ _ _ _, Sl.nil _ _ _ _, fun g hg => (by cases hg), hB⟩)
    clear s2 hB s3
    go_wp2_with fail
    generalize (w2.alloc (.cells (zarr 256 (.bool false)) 33)) = w3 at *
    generalize w2.heap.size = D at *
    go_loopw [7, 8, 9] (fun b z i wr => ∃ (k : Nat) (ms : Ms) (P : List (Nat × Nat)), k ≤ L ∧ i = .int .i64 (k : Int) ∧ P.length ≤ k ∧ Lists ms P ∧ ∃ f : Nat → Bool, (∀ y, y < 256 → f y = covB ms y) ∧ St w1 wr A n D ms P b z f) (fun _ _ i _ => L - (intOf i).toNat)
    case atStart => exact ⟨0, [], [], Nat.zero_le _, rfl, Nat.le_refl _, Lists.nil, fun _ => false, fun _ _ => rfl, HS.out⟩
    case round =>
      obtain ⟨k, ms, P, hk, rfl, hPk, hls, f, hf, hst⟩ := hrel
      by_cases hkn : k < L
      · have w2' : IntKind.i64.wrap ((k : Int) + 1) = k + 1 := by rw [IntKind.wrap_i64]; omega
        obtain ⟨a7, c7, rfl⟩ := hst.2.1.val
        obtain ⟨a8, c8, rfl⟩ := hst.2.2.1.val
        obtain ⟨bb, oo, x, rfl, hx, _, hcell⟩ := (H.out.1.new_ (HN.out.step hst.1.new)).get hkn
        have c0 := hcell 0 _ rfl
        rw [Nat.add_zero, Nat.mul_one] at c0
        have hx256 := H.out.2.2 x (List.mem_of_getElem? hx)
        obtain ⟨m, hm⟩ : ∃ m, m = P.length := ⟨_, rfl⟩
        rw [← hm] at hPk ⊢
        have j0 : (0 : Int) ≤ (k : Int) := by omega
        have j1 : (k : Int) < (L : Int) := by omega
        have HST := hid (And.intro hm (And.intro hls (And.intro hf hst)))
        obtain ⟨kk, hkk⟩ : ∃ kk : Nat, kk = 1 + x / 4 % 20 := ⟨_, rfl⟩
        have e1 : 1 + (x : Int) / 4 % 20 = (kk : Int) := by omega
        have hk1 : 1 ≤ kk ∧ kk ≤ 20 := by omega
        clear hst hcell hx hm hls hf hkk
        by_cases hb3 : Go.bits .and .u8 (x : Int) 3 = 0
        · by_cases hm0 : 0 < m
          · have hm0' : (0 : Int) < (m : Int) := by omega
            have hm0'' : ¬ (m : Int) = 0 := by omega
            obtain ⟨j, hj⟩ : ∃ j : Nat, j = kk % m := ⟨_, rfl⟩
            have hjm : j < m := by rw [hj]; exact Nat.mod_lt _ hm0
            have e2 : Int.tmod (kk : Int) (m : Int) = (j : Int) := by rw [hj]; rfl
            clear hj
            have hjP : j < P.length := by rw [← HST.out.1]; exact hjm
            have hp := List.getElem?_eq_getElem hjP
            generalize P[j]'hjP = p at hp
            obtain ⟨B, K⟩ := p
            have hb := HST.out.2.2.2.2.1
            have hz := HST.out.2.2.2.2.2.1
            rw [← HST.out.1] at hb hz
            obtain ⟨g7, o7, q7, e7, _, _, hq7, _, _⟩ := hb.form hm0
            obtain ⟨g8, o8, q8, e8, _, _, hq8, _, _⟩ := hz.form hm0
            injection e7 with e7 _ e7c
            injection e8 with e8 _ e8c
            subst e7 e8 e7c e8c
            obtain ⟨c0, d0⟩ := HST.out.2.2.2.at hp
            obtain ⟨h1, h2⟩ := HST.out.2.1.found HST.out.2.2.2.1.good hp
            have hG := giveW wr HST.out.2.2.2.1 (by omega) (B : Int)
            rw [h1] at hG
            have hls' := HST.out.2.1.give HST.out.2.2.2.1.good hp
            have hcov := fun y => lists_rid HST.out.2.1 HST.out.2.2.2.1.good hp y
            have hBK : B + K ≤ n := by
              obtain ⟨r, hr, e1, e2⟩ := HST.out.2.1.at hp
              have := (HST.out.2.2.2.1.good.2 r hr).2
              rw [e1, e2] at this
              exact this
            have HP := hid hp
            have HG := hid (And.intro hG (And.intro hls' hcov))
            clear hG hls' hcov h1 h2 hb hz hp hjP
            have j2 : (0 : Int) ≤ (j : Int) := by omega
            have j3 : (j : Int) < (m : Int) := by omega
            go_wp2_with fail
            refine HG.out.1.mono ?_
            rintro e w4 ⟨rfl, hw4, hsm⟩
            have H4 := hid (HST.out.2.2.2.turn hw4 hsm)
            clear hw4 hsm c0 d0
            go_wp2_with fail
            go_loopw [12] (fun i wx => ∃ q : Nat, q ≤ K ∧ i = .int .i64 (q : Int) ∧ St w1 wx A n D (giveM ms (B : Int)) P (.slice (some ⟨g7, o7, none⟩) m c7) (.slice (some ⟨g8, o8, none⟩) m c8) (fun y => f y && !decide (B ≤ y ∧ y < B + q))) (fun i _ => K - (intOf i).toNat)
            case atStart => exact ⟨0, Nat.zero_le _, rfl, by rw [HST.out.1]; exact H4.out.congr fun y _ => by rw [decide_eq_false (by omega), Bool.not_false, Bool.and_true]⟩
            case round =>
              obtain ⟨q, hqk, rfl, hsx⟩ := hrel
              obtain ⟨c0, d0⟩ := hsx.at HP.out
              by_cases hqn : q < K
              · have w3' : IntKind.i64.wrap ((q : Int) + 1) = q + 1 := by rw [IntKind.wrap_i64]; omega
                have p6 : IntKind.i64.wrap ((B : Int) + (q : Int)) = (B : Int) + (q : Int) := by rw [IntKind.wrap_i64]; omega
                have p7 : (0 : Int) ≤ (B : Int) + (q : Int) := by omega
                have p8 : (B : Int) + (q : Int) < 256 := by omega
                have p9 : ((B : Int) + (q : Int)).toNat = B + q := by omega
                have hlt : (q : Int) < (K : Int) := by omega
                have x0 := hsx.2.2.2.2.cell (i := B + q) (by omega)
                have f0 := hsx.2.2.2.2.frozen (B + q)
                have hst5 := hsx.setOn (B + q) false
                have H5 := hid hst5
                clear hsx hst5
                go_wp2_with fail
                refine ⟨⟨q + 1, by omega, by go_num, H5.out.congr fun y _ => ?_⟩, by simp [intOf]; omega⟩
                by_cases e : y = B + q
                · rw [if_pos e, decide_eq_true (by omega), Bool.not_true, Bool.and_false]
                · rw [if_neg e]
                  congr 2
                  rw [Bool.eq_iff_iff]; simp only [decide_eq_true_eq]; omega
              · have hqe : q = K := by omega
                subst hqe
                have hlt : ¬ (q : Int) < (q : Int) := by omega
                obtain ⟨ti, hti, hzz⟩ := Option.map_eq_some_iff.1 int_info
                simp only [Prod.mk.injEq] at hzz
                have HT := hid (And.intro hti hzz)
                clear hti hzz c0
                have HX := hid hsx
                have hb1 : Hid (Sl wr w1.heap.size 3 1 (.slice (some ⟨g7, o7, none⟩) m c7) m (bI P)) := by have := hsx.2.1; rw [← HST.out.1] at this; exact this
                have hb2 : Hid (Sl wr w1.heap.size 3 1 (.slice (some ⟨g8, o8, none⟩) m c8) m (zI P)) := by have := hsx.2.2.1; rw [← HST.out.1] at this; exact this
                have hsz : w1.heap.size ≤ wr.heap.size := hsx.1.new.size
                clear hsx
                have hmk : m ≤ k := hPk
                have z3 : (j : Int) ≤ (c7 : Int) := by omega
                have z4 : (j : Int) ≤ (c8 : Int) := by omega
                have z5 : (0 : Int) ≤ (j : Int) + 1 := by omega
                have z6 : (j : Int) + 1 ≤ (m : Int) := by omega
                have z7 : ((j : Int) + 1).toNat = j + 1 := by omega
                have z8 : IntKind.i64.wrap ((j : Int) + 1) = (j : Int) + 1 := by rw [IntKind.wrap_i64]; omega
                have z9 : (m : Int) ≤ (c7 : Int) := by omega
                have z10 : (m : Int) ≤ (c8 : Int) := by omega
                have hcut := fun (a : Addr) (c : Nat) (ha : a = ⟨g7, o7 + (j + 1), none⟩ ∨ m - (j + 1) = 0) => cut_out (P := Try.prog) wr w1.heap.size 34 34 3 ti _ 1 8 Try.underlying34 HT.out.1 HT.out.2.1 HT.out.2.2.1 HT.out.2.2.2 rfl (by decide) g7 o7 c7 m j (bI P) hb1.out hjm (all_int _) (by unfold maxLen; omega) (by omega) hsz a c (by rw [Nat.mul_one]; exact ha)
                by_cases y7 : c7 = j + 1
                · have hj0 : m - (j + 1) = 0 := by omega
                  obtain ⟨b1, k1, w5, b2, k2, w6, r1, r2, s6, n6, hbb⟩ := hcut ⟨g7, o7, none⟩ 0 (.inr hj0)
                  have z11 : (j : Int) ≤ (j : Int) + 1 := by omega
                  have z12 : (m : Int) ≤ (j : Int) + 1 := by omega
                  subst y7
                  clear hcut hj0
                  go_wp2_with fail
                  go_region_law (first | (refine step_append_run rfl (.tmp 84) (.tmp 87) 34 34 rfl (.slice (some ⟨wr.heap.size, 0, none⟩) 0 0) (.slice (some ⟨g7, o7, none⟩) j (j + 1)) (by simp [Act.eval, Act.put]) (by simp [Act.eval, Act.put]) r1 ?_) | (refine step_append_run rfl (.tmp 88) (.tmp 92) 34 34 rfl (.slice (some b1) j k1) (.slice (some ⟨g7, o7, none⟩) (m - (j + 1)) 0) (by simp [Act.eval, Act.put]) (by simp [Act.eval, Act.put] <;> omega) r2 ?_))
                  have hb2' := hb2.out.new_ n6
                  have hsz6 : w1.heap.size ≤ w6.heap.size := Nat.le_trans hsz n6.size
                  have HS6 := hid (And.intro s6 (And.intro n6 hbb))
                  have hcut := fun (a : Addr) (c : Nat) (ha : a = ⟨g8, o8 + (j + 1), none⟩ ∨ m - (j + 1) = 0) => cut_out (P := Try.prog) w6 w1.heap.size 34 34 3 ti _ 1 8 Try.underlying34 HT.out.1 HT.out.2.1 HT.out.2.2.1 HT.out.2.2.2 rfl (by decide) g8 o8 c8 m j (zI P) hb2' hjm (all_int _) (by unfold maxLen; omega) (by omega) hsz6 a c (by rw [Nat.mul_one]; exact ha)
                  clear hb2' s6 n6 hbb r1 r2
                  by_cases y8 : c8 = j + 1
                  · have hj0 : m - (j + 1) = 0 := by omega
                    obtain ⟨b3, k3, w7, b4, k4, w8, r3, r4, s8, n8, hb8⟩ := hcut ⟨g8, o8, none⟩ 0 (.inr hj0)
                    have z11 : (j : Int) ≤ (j : Int) + 1 := by omega
                    have z12 : (m : Int) ≤ (j : Int) + 1 := by omega
                    subst y8
                    clear hcut hj0
                    go_wp2_with fail
                    go_region_law (first | (refine step_append_run rfl (.tmp 94) (.tmp 97) 34 34 rfl (.slice (some ⟨w6.heap.size, 0, none⟩) 0 0) (.slice (some ⟨g8, o8, none⟩) j (j + 1)) (by simp [Act.eval, Act.put]) (by simp [Act.eval, Act.put]) r3 ?_) | (refine step_append_run rfl (.tmp 98) (.tmp 102) 34 34 rfl (.slice (some b3) j k3) (.slice (some ⟨g8, o8, none⟩) (m - (j + 1)) 0) (by simp [Act.eval, Act.put]) (by simp [Act.eval, Act.put] <;> omega) r4 ?_))
                    go_wp2
                    have hfin := St.cut HX.out HST.out.1 hjm HS6.out.1 HS6.out.2.1 HS6.out.2.2 s8 n8 hb8
                    refine ⟨⟨k + 1, giveM ms (B : Int), P.take j ++ P.drop (j + 1), by omega, by go_num, by simp; have := HST.out.1; omega, HG.out.2.1, _, fun y hy => ?_, hfin⟩, by simp [intOf]; omega⟩
                    rw [HST.out.2.2.1 y hy]
                    exact HG.out.2.2 y
                  · obtain ⟨b3, k3, w7, b4, k4, w8, r3, r4, s8, n8, hb8⟩ := hcut ⟨g8, o8 + (j + 1), none⟩ (c8 - (j + 1)) (.inl rfl)
                    clear hcut
                    go_wp2_with fail
                    go_region_law (first | (refine step_append_run rfl (.tmp 94) (.tmp 97) 34 34 rfl (.slice (some ⟨w6.heap.size, 0, none⟩) 0 0) (.slice (some ⟨g8, o8, none⟩) j c8) (by simp [Act.eval, Act.put]) (by simp [Act.eval, Act.put]) r3 ?_) | (refine step_append_run rfl (.tmp 98) (.tmp 102) 34 34 rfl (.slice (some b3) j k3) (.slice (some ⟨g8, o8 + (j + 1), none⟩) (m - (j + 1)) (c8 - (j + 1))) (by simp [Act.eval, Act.put]) (by simp [Act.eval, Act.put] <;> omega) r4 ?_))
                    go_wp2
                    have hfin := St.cut HX.out HST.out.1 hjm HS6.out.1 HS6.out.2.1 HS6.out.2.2 s8 n8 hb8
                    refine ⟨⟨k + 1, giveM ms (B : Int), P.take j ++ P.drop (j + 1), by omega, by go_num, by simp; have := HST.out.1; omega, HG.out.2.1, _, fun y hy => ?_, hfin⟩, by simp [intOf]; omega⟩
                    rw [HST.out.2.2.1 y hy]
                    exact HG.out.2.2 y
                · obtain ⟨b1, k1, w5, b2, k2, w6, r1, r2, s6, n6, hbb⟩ := hcut ⟨g7, o7 + (j + 1), none⟩ (c7 - (j + 1)) (.inl rfl)
                  clear hcut
                  go_wp2_with fail
                  go_region_law (first | (refine step_append_run rfl (.tmp 84) (.tmp 87) 34 34 rfl (.slice (some ⟨wr.heap.size, 0, none⟩) 0 0) (.slice (some ⟨g7, o7, none⟩) j c7) (by simp [Act.eval, Act.put]) (by simp [Act.eval, Act.put]) r1 ?_) | (refine step_append_run rfl (.tmp 88) (.tmp 92) 34 34 rfl (.slice (some b1) j k1) (.slice (some ⟨g7, o7 + (j + 1), none⟩) (m - (j + 1)) (c7 - (j + 1))) (by simp [Act.eval, Act.put]) (by simp [Act.eval, Act.put] <;> omega) r2 ?_))
                  have hb2' := hb2.out.new_ n6
                  have hsz6 : w1.heap.size ≤ w6.heap.size := Nat.le_trans hsz n6.size
                  have HS6 := hid (And.intro s6 (And.intro n6 hbb))
                  have hcut := fun (a : Addr) (c : Nat) (ha : a = ⟨g8, o8 + (j + 1), none⟩ ∨ m - (j + 1) = 0) => cut_out (P := Try.prog) w6 w1.heap.size 34 34 3 ti _ 1 8 Try.underlying34 HT.out.1 HT.out.2.1 HT.out.2.2.1 HT.out.2.2.2 rfl (by decide) g8 o8 c8 m j (zI P) hb2' hjm (all_int _) (by unfold maxLen; omega) (by omega) hsz6 a c (by rw [Nat.mul_one]; exact ha)
                  clear hb2' s6 n6 hbb r1 r2
                  by_cases y8 : c8 = j + 1
                  · have hj0 : m - (j + 1) = 0 := by omega
                    obtain ⟨b3, k3, w7, b4, k4, w8, r3, r4, s8, n8, hb8⟩ := hcut ⟨g8, o8, none⟩ 0 (.inr hj0)
                    have z11 : (j : Int) ≤ (j : Int) + 1 := by omega
                    have z12 : (m : Int) ≤ (j : Int) + 1 := by omega
                    subst y8
                    clear hcut hj0
                    go_wp2_with fail
                    go_region_law (first | (refine step_append_run rfl (.tmp 94) (.tmp 97) 34 34 rfl (.slice (some ⟨w6.heap.size, 0, none⟩) 0 0) (.slice (some ⟨g8, o8, none⟩) j (j + 1)) (by simp [Act.eval, Act.put]) (by simp [Act.eval, Act.put]) r3 ?_) | (refine step_append_run rfl (.tmp 98) (.tmp 102) 34 34 rfl (.slice (some b3) j k3) (.slice (some ⟨g8, o8, none⟩) (m - (j + 1)) 0) (by simp [Act.eval, Act.put]) (by simp [Act.eval, Act.put] <;> omega) r4 ?_))
                    go_wp2
                    have hfin := St.cut HX.out HST.out.1 hjm HS6.out.1 HS6.out.2.1 HS6.out.2.2 s8 n8 hb8
                    refine ⟨⟨k + 1, giveM ms (B : Int), P.take j ++ P.drop (j + 1), by omega, by go_num, by simp; have := HST.out.1; omega, HG.out.2.1, _, fun y hy => ?_, hfin⟩, by simp [intOf]; omega⟩
                    rw [HST.out.2.2.1 y hy]
                    exact HG.out.2.2 y
                  · obtain ⟨b3, k3, w7, b4, k4, w8, r3, r4, s8, n8, hb8⟩ := hcut ⟨g8, o8 + (j + 1), none⟩ (c8 - (j + 1)) (.inl rfl)
                    clear hcut
                    go_wp2_with fail
                    go_region_law (first | (refine step_append_run rfl (.tmp 94) (.tmp 97) 34 34 rfl (.slice (some ⟨w6.heap.size, 0, none⟩) 0 0) (.slice (some ⟨g8, o8, none⟩) j c8) (by simp [Act.eval, Act.put]) (by simp [Act.eval, Act.put]) r3 ?_) | (refine step_append_run rfl (.tmp 98) (.tmp 102) 34 34 rfl (.slice (some b3) j k3) (.slice (some ⟨g8, o8 + (j + 1), none⟩) (m - (j + 1)) (c8 - (j + 1))) (by simp [Act.eval, Act.put]) (by simp [Act.eval, Act.put] <;> omega) r4 ?_))
                    go_wp2
                    have hfin := St.cut HX.out HST.out.1 hjm HS6.out.1 HS6.out.2.1 HS6.out.2.2 s8 n8 hb8
                    refine ⟨⟨k + 1, giveM ms (B : Int), P.take j ++ P.drop (j + 1), by omega, by go_num, by simp; have := HST.out.1; omega, HG.out.2.1, _, fun y hy => ?_, hfin⟩, by simp [intOf]; omega⟩
                    rw [HST.out.2.2.1 y hy]
                    exact HG.out.2.2 y
          · have hm0' : ¬ (0 : Int) < (m : Int) := by omega
            have hq := takeW wr HST.out.2.2.2.1 (by omega) (kk : Int)
            by_cases he : takeE n ms (kk : Int) = 0
            · obtain ⟨B, hB⟩ : ∃ B, B = (fitG (kk : Int) 0 ms).2 := ⟨_, rfl⟩
              have hb0 : takeB n ms (kk : Int) = (B : Int) := by unfold takeB; rw [if_pos he, hB]
              have HE := hid (And.intro he hB)
              rw [he, hb0] at hq
              have HQ := hid hq
              clear hq hb0 he hB
              go_wp2_with fail
              refine HQ.out.mono ?_
              rintro e w4 ⟨rfl, hw4, hsm⟩
              have hfree : ∀ y, y < kk → ¬ Cov ms (B + y) ∧ B + kk ≤ n := fun y hy => by have := take_free HE.out.1 hw4.good hy; rw [← HE.out.2] at this; exact this
              have hBn := (hfree 0 (by omega)).2
              have H4 := hid (And.intro (HST.out.2.2.2.turn hw4 hsm) hfree)
              clear hw4 hsm hfree
              have p1 : ¬ (B : Int) < 0 := by omega
              have p2 : IntKind.i64.wrap ((B : Int) + (kk : Int)) = (B : Int) + (kk : Int) := by rw [IntKind.wrap_i64]; omega
              have p3 : ¬ (n : Int) < (B : Int) + (kk : Int) := by omega
              have p4 : decide ((B : Int) < 0) = false := decide_eq_false p1
              have p5 : decide ((n : Int) < (B : Int) + (kk : Int)) = false := decide_eq_false p3
              go_wp2_with fail
              go_loopw [15] (fun i wx => ∃ q : Nat, q ≤ kk ∧ i = .int .i64 (q : Int) ∧ St w1 wx A n D (takeM n ms (kk : Int)) P (.slice a7 m c7) (.slice a8 m c8) (fun y => f y || decide (B ≤ y ∧ y < B + q))) (fun i _ => kk - (intOf i).toNat)
              case atStart => exact ⟨0, Nat.zero_le _, rfl, by rw [HST.out.1]; exact H4.out.1.congr fun y _ => by rw [decide_eq_false (by omega), Bool.or_false]⟩
              case round =>
                obtain ⟨q, hqk, rfl, hsx⟩ := hrel
                by_cases hqn : q < kk
                · have w3' : IntKind.i64.wrap ((q : Int) + 1) = q + 1 := by rw [IntKind.wrap_i64]; omega
                  have p6 : IntKind.i64.wrap ((B : Int) + (q : Int)) = (B : Int) + (q : Int) := by rw [IntKind.wrap_i64]; omega
                  have p7 : (0 : Int) ≤ (B : Int) + (q : Int) := by omega
                  have p8 : (B : Int) + (q : Int) < 256 := by omega
                  have p9 : ((B : Int) + (q : Int)).toNat = B + q := by omega
                  have hlt : (q : Int) < (kk : Int) := by omega
                  have hfq : (f (B + q) || decide (B ≤ B + q ∧ B + q < B + q)) = false := by
                    rw [decide_eq_false (by omega), Bool.or_false, HST.out.2.2.1 _ (by omega)]
                    cases hc : covB ms (B + q) with
                    | false => rfl
                    | true => exact absurd (covB_iff.1 hc) (H4.out.2 q hqn).1
                  have c0 := hsx.2.2.2.2.cell (i := B + q) (by omega)
                  have f0 := hsx.2.2.2.2.frozen (B + q)
                  simp only [hfq] at c0
                  have hst5 := hsx.setOn (B + q) true
                  have H5 := hid hst5
                  clear hsx hst5 hfq
                  go_wp2_with fail
                  refine ⟨⟨q + 1, by omega, by go_num, H5.out.congr fun y _ => ?_⟩, by simp [intOf]; omega⟩
                  by_cases e : y = B + q
                  · rw [if_pos e, decide_eq_true (by omega), Bool.or_true]
                  · rw [if_neg e]
                    congr 1
                    rw [Bool.eq_iff_iff]; simp only [decide_eq_true_eq]; omega
                · have hqe : q = kk := by omega
                  subst hqe
                  have hlt : ¬ (q : Int) < (q : Int) := by omega
                  obtain ⟨ti, hti, hzz⟩ := Option.map_eq_some_iff.1 int_info
                  simp only [Prod.mk.injEq] at hzz
                  have HT := hid (And.intro hti hzz)
                  clear hti hzz
                  have hmk : m ≤ k := hPk
                  have HX := hid hsx
                  have hb1 : Hid (Sl wr w1.heap.size 3 1 (.slice a7 m c7) m (bI P)) := by have := hsx.2.1; rw [← HST.out.1] at this; exact this
                  have hb2 : Hid (Sl wr w1.heap.size 3 1 (.slice a8 m c8) m (zI P)) := by have := hsx.2.2.1; rw [← HST.out.1] at this; exact this
                  have hsz : w1.heap.size ≤ wr.heap.size := hsx.1.new.size
                  have hne := hid hsx.2.2.2.1
                  clear hsx
                  have q1 : m + 1 ≤ maxLen := by unfold maxLen; omega
                  have q2 : (m + 1) * 8 ≤ 140737488355328 := by omega
                  go_wp2_with (at_builtin; first | (refine wpList_append_sl _ rfl (.tmp 136) (.tmp 138) 34 rfl w1.heap.size 3 ti _ 1 8 Try.underlying34 HT.out.1 HT.out.2.1 HT.out.2.2.1 HT.out.2.2.2 rfl (by decide) (.slice a7 m c7) m _ rfl (hb1.out.alloc _) ⟨wr.heap.size, 0, none⟩ 1 1 [.int .i64 (B : Int)] rfl (by decide) rfl (news_int (Blk.new wr _ _)) (one_int _) q1 q2 (by rw [World.size_alloc]; omega) ?_; intro v6 w6 hs6 hg6 hb6; have hs66 : w1.heap.size ≤ w6.heap.size := Nat.le_trans hsz (Nat.le_trans (by rw [World.size_alloc]; omega) hg6.size); obtain ⟨a6, c6, rfl⟩ := hs6.val) | (refine wpList_append_sl _ rfl (.tmp 140) (.tmp 142) 34 rfl w1.heap.size 3 ti _ 1 8 Try.underlying34 HT.out.1 HT.out.2.1 HT.out.2.2.1 HT.out.2.2.2 rfl (by decide) (.slice a8 m c8) m _ rfl (((hb2.out.alloc _).grown hg6 (fun g hg e => hne.out g e.symm hg)).alloc _) ⟨w6.heap.size, 0, none⟩ 1 1 [.int .i64 (q : Int)] rfl (by decide) rfl (news_int (Blk.new w6 _ _)) (one_int _) q1 q2 (by rw [World.size_alloc]; omega) ?_; intro v8 w8 hs8 hg8 hb8))
                  have hfin := St.two HX.out HST.out.1 hs6 hg6 hb6 hs8 hg8 hb8
                  refine ⟨⟨k + 1, takeM n ms (q : Int), P ++ [(B, q)], by omega, by go_num, by rw [List.length_append, ← HST.out.1]; simp; omega, by rw [HE.out.2]; exact HST.out.2.1.take HE.out.1, _, fun y hy => ?_, hfin⟩, by simp [intOf]; omega⟩
                  rw [Bool.eq_iff_iff, Bool.or_eq_true, HST.out.2.2.1 y hy, covB_iff, covB_iff, decide_eq_true_eq, HE.out.2]
                  exact (Cov.take HE.out.1).symm
            · have he7 : takeE n ms (kk : Int) = 7 := by
                unfold takeE at he ⊢
                rw [if_neg (by omega)] at he ⊢
                by_cases h : (n : Int) - (fitG (kk : Int) 0 ms).2 < (kk : Int)
                · rw [if_pos h]
                · rw [if_neg h] at he; exact absurd rfl he
              have hm7 : takeM n ms (kk : Int) = ms := by unfold takeM; rw [if_neg he]
              have hb7 : takeB n ms (kk : Int) = 0 := by unfold takeB; rw [if_neg he]
              rw [he7, hm7, hb7] at hq
              have HQ := hid hq
              clear hq he7 hm7 hb7 he
              go_wp2_with fail
              refine HQ.out.mono ?_
              rintro e w4 ⟨rfl, hw4, hsm⟩
              have H4 := hid (HST.out.2.2.2.turn hw4 hsm)
              clear hw4 hsm
              go_wp2_with fail
              exact ⟨⟨k + 1, ms, P, by omega, by go_num, by have := HST.out.1; omega, HST.out.2.1, f, HST.out.2.2.1, by have := H4.out; rw [HST.out.1] at *; exact this⟩, by simp [intOf]; omega⟩
        · have hb3' : (Go.bits .and .u8 (x : Int) 3 == 0) = false := beq_eq_false_iff_ne.2 hb3
          have hq := takeW wr HST.out.2.2.2.1 (by omega) (kk : Int)
          by_cases he : takeE n ms (kk : Int) = 0
          · obtain ⟨B, hB⟩ : ∃ B, B = (fitG (kk : Int) 0 ms).2 := ⟨_, rfl⟩
            have hb0 : takeB n ms (kk : Int) = (B : Int) := by unfold takeB; rw [if_pos he, hB]
            have HE := hid (And.intro he hB)
            rw [he, hb0] at hq
            have HQ := hid hq
            clear hq hb0 he hB
            go_wp2_with fail
            refine HQ.out.mono ?_
            rintro e w4 ⟨rfl, hw4, hsm⟩
            have hfree : ∀ y, y < kk → ¬ Cov ms (B + y) ∧ B + kk ≤ n := fun y hy => by have := take_free HE.out.1 hw4.good hy; rw [← HE.out.2] at this; exact this
            have hBn := (hfree 0 (by omega)).2
            have H4 := hid (And.intro (HST.out.2.2.2.turn hw4 hsm) hfree)
            clear hw4 hsm hfree
            have p1 : ¬ (B : Int) < 0 := by omega
            have p2 : IntKind.i64.wrap ((B : Int) + (kk : Int)) = (B : Int) + (kk : Int) := by rw [IntKind.wrap_i64]; omega
            have p3 : ¬ (n : Int) < (B : Int) + (kk : Int) := by omega
            have p4 : decide ((B : Int) < 0) = false := decide_eq_false p1
            have p5 : decide ((n : Int) < (B : Int) + (kk : Int)) = false := decide_eq_false p3
            go_wp2_with fail
            go_loopw [15] (fun i wx => ∃ q : Nat, q ≤ kk ∧ i = .int .i64 (q : Int) ∧ St w1 wx A n D (takeM n ms (kk : Int)) P (.slice a7 m c7) (.slice a8 m c8) (fun y => f y || decide (B ≤ y ∧ y < B + q))) (fun i _ => kk - (intOf i).toNat)
            case atStart => exact ⟨0, Nat.zero_le _, rfl, by rw [HST.out.1]; exact H4.out.1.congr fun y _ => by rw [decide_eq_false (by omega), Bool.or_false]⟩
            case round =>
              obtain ⟨q, hqk, rfl, hsx⟩ := hrel
              by_cases hqn : q < kk
              · have w3' : IntKind.i64.wrap ((q : Int) + 1) = q + 1 := by rw [IntKind.wrap_i64]; omega
                have p6 : IntKind.i64.wrap ((B : Int) + (q : Int)) = (B : Int) + (q : Int) := by rw [IntKind.wrap_i64]; omega
                have p7 : (0 : Int) ≤ (B : Int) + (q : Int) := by omega
                have p8 : (B : Int) + (q : Int) < 256 := by omega
                have p9 : ((B : Int) + (q : Int)).toNat = B + q := by omega
                have hlt : (q : Int) < (kk : Int) := by omega
                have hfq : (f (B + q) || decide (B ≤ B + q ∧ B + q < B + q)) = false := by
                  rw [decide_eq_false (by omega), Bool.or_false, HST.out.2.2.1 _ (by omega)]
                  cases hc : covB ms (B + q) with
                  | false => rfl
                  | true => exact absurd (covB_iff.1 hc) (H4.out.2 q hqn).1
                have c0 := hsx.2.2.2.2.cell (i := B + q) (by omega)
                have f0 := hsx.2.2.2.2.frozen (B + q)
                simp only [hfq] at c0
                have hst5 := hsx.setOn (B + q) true
                have H5 := hid hst5
                clear hsx hst5 hfq
                go_wp2_with fail
                refine ⟨⟨q + 1, by omega, by go_num, H5.out.congr fun y _ => ?_⟩, by simp [intOf]; omega⟩
                by_cases e : y = B + q
                · rw [if_pos e, decide_eq_true (by omega), Bool.or_true]
                · rw [if_neg e]
                  congr 1
                  rw [Bool.eq_iff_iff]; simp only [decide_eq_true_eq]; omega
              · have hqe : q = kk := by omega
                subst hqe
                have hlt : ¬ (q : Int) < (q : Int) := by omega
                obtain ⟨ti, hti, hzz⟩ := Option.map_eq_some_iff.1 int_info
                simp only [Prod.mk.injEq] at hzz
                have HT := hid (And.intro hti hzz)
                clear hti hzz
                have hmk : m ≤ k := hPk
                have HX := hid hsx
                have hb1 : Hid (Sl wr w1.heap.size 3 1 (.slice a7 m c7) m (bI P)) := by have := hsx.2.1; rw [← HST.out.1] at this; exact this
                have hb2 : Hid (Sl wr w1.heap.size 3 1 (.slice a8 m c8) m (zI P)) := by have := hsx.2.2.1; rw [← HST.out.1] at this; exact this
                have hsz : w1.heap.size ≤ wr.heap.size := hsx.1.new.size
                have hne := hid hsx.2.2.2.1
                clear hsx
                have q1 : m + 1 ≤ maxLen := by unfold maxLen; omega
                have q2 : (m + 1) * 8 ≤ 140737488355328 := by omega
                go_wp2_with (at_builtin; first | (refine wpList_append_sl _ rfl (.tmp 136) (.tmp 138) 34 rfl w1.heap.size 3 ti _ 1 8 Try.underlying34 HT.out.1 HT.out.2.1 HT.out.2.2.1 HT.out.2.2.2 rfl (by decide) (.slice a7 m c7) m _ rfl (hb1.out.alloc _) ⟨wr.heap.size, 0, none⟩ 1 1 [.int .i64 (B : Int)] rfl (by decide) rfl (news_int (Blk.new wr _ _)) (one_int _) q1 q2 (by rw [World.size_alloc]; omega) ?_; intro v6 w6 hs6 hg6 hb6; have hs66 : w1.heap.size ≤ w6.heap.size := Nat.le_trans hsz (Nat.le_trans (by rw [World.size_alloc]; omega) hg6.size); obtain ⟨a6, c6, rfl⟩ := hs6.val) | (refine wpList_append_sl _ rfl (.tmp 140) (.tmp 142) 34 rfl w1.heap.size 3 ti _ 1 8 Try.underlying34 HT.out.1 HT.out.2.1 HT.out.2.2.1 HT.out.2.2.2 rfl (by decide) (.slice a8 m c8) m _ rfl (((hb2.out.alloc _).grown hg6 (fun g hg e => hne.out g e.symm hg)).alloc _) ⟨w6.heap.size, 0, none⟩ 1 1 [.int .i64 (q : Int)] rfl (by decide) rfl (news_int (Blk.new w6 _ _)) (one_int _) q1 q2 (by rw [World.size_alloc]; omega) ?_; intro v8 w8 hs8 hg8 hb8))
                have hfin := St.two HX.out HST.out.1 hs6 hg6 hb6 hs8 hg8 hb8
                refine ⟨⟨k + 1, takeM n ms (q : Int), P ++ [(B, q)], by omega, by go_num, by rw [List.length_append, ← HST.out.1]; simp; omega, by rw [HE.out.2]; exact HST.out.2.1.take HE.out.1, _, fun y hy => ?_, hfin⟩, by simp [intOf]; omega⟩
                rw [Bool.eq_iff_iff, Bool.or_eq_true, HST.out.2.2.1 y hy, covB_iff, covB_iff, decide_eq_true_eq, HE.out.2]
                exact (Cov.take HE.out.1).symm
          · have he7 : takeE n ms (kk : Int) = 7 := by
              unfold takeE at he ⊢
              rw [if_neg (by omega)] at he ⊢
              by_cases h : (n : Int) - (fitG (kk : Int) 0 ms).2 < (kk : Int)
              · rw [if_pos h]
              · rw [if_neg h] at he; exact absurd rfl he
            have hm7 : takeM n ms (kk : Int) = ms := by unfold takeM; rw [if_neg he]
            have hb7 : takeB n ms (kk : Int) = 0 := by unfold takeB; rw [if_neg he]
            rw [he7, hm7, hb7] at hq
            have HQ := hid hq
            clear hq he7 hm7 hb7 he
            go_wp2_with fail
            refine HQ.out.mono ?_
            rintro e w4 ⟨rfl, hw4, hsm⟩
            have H4 := hid (HST.out.2.2.2.turn hw4 hsm)
            clear hw4 hsm
            go_wp2_with fail
            exact ⟨⟨k + 1, ms, P, by omega, by go_num, by have := HST.out.1; omega, HST.out.2.1, f, HST.out.2.2.1, by have := H4.out; rw [HST.out.1] at *; exact this⟩, by simp [intOf]; omega⟩
      · have hke : ¬ (k : Int) < (L : Int) := by omega
        obtain ⟨a7, c7, rfl⟩ := hst.2.1.val
        obtain ⟨a8, c8, rfl⟩ := hst.2.2.1.val
        obtain ⟨m, hm⟩ : ∃ m, m = P.length := ⟨_, rfl⟩
        rw [← hm] at hPk hst ⊢
        have hm200 : m ≤ 200 := by omega
        have HST := hid (And.intro hm (And.intro hls (And.intro hf hst)))
        clear hst hm hls hf
        go_wp2_with fail
        go_loopw [16] (fun i wx => ∃ (j : Nat) (ms' : Ms), j ≤ m ∧ i = .int .i64 (j : Int) ∧ Lists ms' (P.drop j) ∧ St w1 wx A n D ms' P (.slice a7 m c7) (.slice a8 m c8) f) (fun i _ => m - (intOf i).toNat)
        case atStart => exact ⟨0, ms, Nat.zero_le _, rfl, HST.out.2.1, HST.out.2.2.2⟩
        case round =>
          obtain ⟨j, ms', hjm, rfl, hls, hsx⟩ := hrel
          by_cases hjn : j < m
          · have w3' : IntKind.i64.wrap ((j : Int) + 1) = j + 1 := by rw [IntKind.wrap_i64]; omega
            have hjP : j < P.length := by rw [← HST.out.1]; exact hjn
            have hp := List.getElem?_eq_getElem hjP
            generalize P[j]'hjP = p at hp
            have hb := hsx.2.1
            have hz := hsx.2.2.1
            rw [← HST.out.1] at hb hz
            obtain ⟨g7, o7, q7, e7, _, _, _, hc7, _⟩ := hb.form (by omega)
            obtain ⟨g8, o8, q8, e8, _, _, _, hc8, _⟩ := hz.form (by omega)
            injection e7 with e7 _ e7c
            injection e8 with e8 _ e8c
            subst e7 e8 e7c e8c
            have c0 := hc7 j (.int .i64 (p.1 : Int)) (by unfold bI; rw [List.getElem?_map, hp]; rfl)
            have d0 := hc8 j (.int .i64 (p.2 : Int)) (by unfold zI; rw [List.getElem?_map, hp]; rfl)
            have hp0 : (P.drop j)[0]? = some p := by rw [List.getElem?_drop, Nat.add_zero]; exact hp
            obtain ⟨h1, h2⟩ := hls.found hsx.1.good hp0
            have hS := fun X hX => sizeW X (hsx.1.new_ (w' := X) hX) (by omega) (p.1 : Int)
            have hG := fun X hX => giveW X (hsx.1.new_ (w' := X) hX) (by omega) (p.1 : Int)
            rw [h2] at hS
            rw [h1] at hG
            have hls' := hls.give hsx.1.good hp0
            have j0 : (0 : Int) ≤ (j : Int) := by omega
            have j1 : (j : Int) < (m : Int) := by omega
            have HX := hid (And.intro hls' (And.intro hsx (And.intro hS hG)))
            clear hls hsx hS hG hls' h1 h2 hp0 hp hb hz hc7 hc8 hjP
            go_wp2_with fail
            go_region_with (first | (go_at_call 11; refine (HX.out.2.2.1 _ (by first | exact New.refl _ | exact (New.refl _).drew)).mono ?_; rintro e w5 ⟨rfl, n5⟩; have c5 := n5.cellK c0; have d5 := n5.cellK d0) | (go_at_call 10; refine (HX.out.2.2.2 w5 ((New.refl _).drew.step n5)).mono ?_; rintro e w6 ⟨rfl, hw6, hsm6⟩))
            all_goals
              have hw7 := HX.out.2.1.new_ ((New.refl _).drew.step n5)
              have H7 := hid (hw7.turn hw6 hsm6)
              clear hw7 hw6 hsm6 n5 c5 d5 c0 d0
              go_wp2_with fail
              refine ⟨⟨j + 1, giveM ms' (p.1 : Int), by omega, by go_num, ?_, H7.out⟩, by simp [intOf]; omega⟩
              have := HX.out.1
              rw [List.take_zero, List.nil_append, List.drop_drop] at this
              exact this
          · have hjm' : j = m := by omega
            subst hjm'
            have hms : ms' = [] := by
              have := hls.len
              rw [List.length_drop, ← HST.out.1, Nat.sub_self] at this
              exact List.eq_nil_of_length_eq_zero this.symm
            subst hms
            have hjj : ¬ (j : Int) < (j : Int) := by omega
            obtain ⟨M, hM⟩ : ∃ M : Nat, M = max n 1 := ⟨_, rfl⟩
            have hmx := fun ats ty => max_i ats ty .i64 .i64 (n : Int) 1
            have hmz : mxZ (n : Int) 1 = (M : Int) := by unfold mxZ; omega
            rw [hmz] at hmx
            have hq := takeW wr hsx.1 (by omega) (M : Int)
            by_cases hn0 : n = 0
            · subst hn0
              clear i0
              have hM1 : M = 1 := by omega
              clear hM hmz
              subst hM1
              have t1 : takeB 0 [] ((1 : Nat) : Int) = 0 ∧ takeE 0 [] ((1 : Nat) : Int) = 7 ∧ takeM 0 [] ((1 : Nat) : Int) = [] := by decide
              rw [t1.1, t1.2.1, t1.2.2] at hq
              have HQ := hid hq
              clear hq hsx hls t1
              go_wp2_with fail
              refine HQ.out.mono ?_
              rintro e w5 ⟨rfl, hw5, hsm⟩
              have hu := usedW w5 hw5 (by decide)
              rw [show usedM [] = 0 from rfl] at hu
              have HU := hid (And.intro hu (HN.out.step hw5.new))
              clear hu hw5 hsm
              go_wp2_with fail
              refine HU.out.1.mono ?_
              rintro e w6 ⟨rfl, n6⟩
              go_wp2
              go_ret
              exact ⟨rfl, HU.out.2.step n6⟩
            · have hM1 : M = n := by omega
              clear hM hmz
              subst hM1
              have f1 : fitG (M : Int) 0 [] = (0, 0) := rfl
              have t2 : takeE M [] (M : Int) = 0 := by unfold takeE; rw [if_neg (by omega), f1, if_neg (by simp only; omega)]
              have t1 : takeB M [] (M : Int) = 0 := by unfold takeB; rw [if_pos t2, f1]; rfl
              have t3 : usedM (takeM M [] (M : Int)) = M := by unfold takeM; rw [if_pos t2, f1]; simp [usedM]
              rw [t1, t2] at hq
              have HQ := hid hq
              have hn0' : ¬ (M : Int) = 0 := by omega
              clear hq hsx hls t1 t2 f1
              go_wp2_with fail
              refine HQ.out.mono ?_
              rintro e w5 ⟨rfl, hw5, hsm⟩
              have hu := usedW w5 hw5 (by omega)
              rw [t3] at hu
              have HU := hid (And.intro hu (HN.out.step hw5.new))
              clear hu hw5 hsm t3
              go_wp2_with fail
              refine HU.out.1.mono ?_
              rintro e w6 ⟨rfl, n6⟩
              go_wp2
              go_ret
              exact ⟨rfl, HU.out.2.step n6⟩
end Go.Proofs.Ytapefbmbaofbbaa.Law
