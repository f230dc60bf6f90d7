/- The walk of ObjectLimits. -/
import Derived.Test.YtnoahdobgndmnaaLim
import Derived.Test.YtnoahdobgndmnaaArr
import Derived.Laws.IdiomStrings
import Derived.BigQuiet
import Derived.Deep.CutRange
import Derived.Deep.RegionHeld3
namespace Go.Proofs.Ytnoahdobgndmnaa.Law
open Go Go.RowKit Go.ChangeShapes Go.WideShapes Go.Proofs.Ytnoahdobgndmnaa.Kit Go.Proofs.Ytnoahdobgndmnaa.Str Go.Proofs.Ytnoahdobgndmnaa.Open Go.Proofs.Ytnoahdobgndmnaa.Obj
open Go.Proofs.Ytnoahdobgndmnaa.Letters (wv WsAt word_info zarr_made)
set_option linter.unusedSimpArgs false
set_option linter.unusedVariables false
theorem make_w (n : Nat) (hn : n ≤ 100000) (w : World) : (Instr.makeSlice 22 (.int .i64 (n : Int)) (.int .i64 (n : Int))).run Try.prog w = .ok (.slice (some ⟨w.heap.size, 0, none⟩) n n) (w.alloc (.cells (zarr n (.int .u64 0)) 37)) := by
  rw [zarr_made]
  exact run_make_row' 22 37 (.int .u64 0) 8 Try.underlying22 word_info rfl .i64 .i64 n (by omega) (by omega) w
theorem make_ls (n : Nat) (hn : n ≤ 100000) (w : World) : LsAt 1 uw (w.alloc (.cells (zarr n (.int .u64 0)) 37)) (.slice (some ⟨w.heap.size, 0, none⟩) n n) (List.replicate n 0) := by
  have hl : (List.replicate n (0 : Nat)).length = n := by simp
  refine ⟨_, n, by rw [hl], by omega, by unfold maxLen; omega, fun h0 => ⟨w.heap.size, 0, rfl, by rw [World.size_alloc]; omega, fun i x hx j u hu => ?_⟩⟩
  have hi : i < n := by rw [← hl]; exact (List.getElem?_eq_some_iff.1 hx).1
  have hx0 : x = 0 := List.eq_of_mem_replicate (List.mem_of_getElem? hx)
  subst hx0
  match j, hu with
  | 0, hu =>
    rw [Nat.mul_one, Nat.add_zero, Nat.zero_add, (Blk.new w 37 _).cell, zarr_get _ hi]
    exact hu
theorem two_back (w : World) (q r : Nat) (hq : q < 10) (hr : r < 10) : (convert 52 9 (.slice (some ⟨w.heap.size, 0, none⟩) 2 2)).run Try.prog (w.alloc (.cells #[.int .u8 (48 + (q : Int)), .int .u8 (48 + (r : Int))] 5)) = .ok (st [UInt8.ofNat (48 + q), UInt8.ofNat (48 + r)]) (w.alloc (.cells #[.int .u8 (48 + (q : Int)), .int .u8 (48 + (r : Int))] 5)) :=
  run_convert_bytes_back (P := Try.prog) (w.alloc (.cells #[.int .u8 (48 + (q : Int)), .int .u8 (48 + (r : Int))] 5)) 52 9 5 ⟨w.heap.size, 0, none⟩ 2 [UInt8.ofNat (48 + q), UInt8.ofNat (48 + r)] Try.underlying52 Try.underlying5 Try.underlying9 (fun j hj => by
    have e : ∀ k : Nat, k < 10 → ((UInt8.ofNat (48 + k)).toNat : Int) = 48 + (k : Int) := fun k hk => by rw [UInt8.toNat_ofNat', Nat.mod_eq_of_lt (by omega)]; omega
    rw [Addr.add_lit, Nat.zero_add, (Blk.new w 5 #[.int .u8 (48 + (q : Int)), .int .u8 (48 + (r : Int))]).cell]
    match j, hj with
    | 0, _ =>
      show some (Value.int .u8 (48 + (q : Int))) = some (.int .u8 ((UInt8.ofNat (48 + q)).toNat : Int))
      rw [e q hq]
    | 1, _ =>
      show some (Value.int .u8 (48 + (r : Int))) = some (.int .u8 ((UInt8.ofNat (48 + r)).toNat : Int))
      rw [e r hr])
theorem bytes3 (x y : UInt8) : ((⟨#[101]⟩ : ByteArray) ++ (⟨#[x, y]⟩ : ByteArray)) = ⟨#[101, x, y]⟩ := by
  apply ByteArray.ext
  simp [ByteArray.data_append]
theorem nm_str (k q r : Nat) (hq : q = k / 10) (hr : r = k % 10) : Value.string ((⟨#[101]⟩ : ByteArray) ++ (⟨#[48 + UInt8.ofNat q, 48 + UInt8.ofNat r]⟩ : ByteArray)) = st (nm k) := by
  rw [bytes3, hq, hr]
  have e : ∀ x : Nat, UInt8.ofNat (48 + x) = 48 + UInt8.ofNat x := fun x => by rw [UInt8.ofNat_add]; rfl
  unfold nm
  rw [e, e]
theorem put_meet {wc wr w7 : World} {G j n size : Nat} {E : TypeId} {v v9 : Value} {cs9 : List Value} {cs : Array Value} (hX : Keeps (fun k => k = G) wc wr) (k7 : Keeps (fun g => v.ownBlock = some g) wr w7)
    (hv : ∀ g, v.ownBlock = some g → wc.heap.size ≤ g) (hG : G < wc.heap.size) (hb : Blk w7 G 27 cs) (hs : Sl w7 wc.heap.size E size v9 n cs9) :
    Keeps (fun k => k = G) wc (w7.setCell ⟨G, j, none⟩ v9) ∧ Blk (w7.setCell ⟨G, j, none⟩ v9) G 27 (cs.setIfInBounds j v9) ∧ Sl (w7.setCell ⟨G, j, none⟩ v9) wc.heap.size E size v9 n cs9 := by
  have z1 := hX.size
  have a7 : Keeps (fun k => k = G) wc w7 := hX.trans k7 fun i hi h => absurd (hv i h) (by omega)
  have k8 : Keeps (fun k => k = G) w7 (w7.setCell ⟨G, j, none⟩ v9) := Keeps.setCell (F := fun k => k = G) (Keeps.refl _ _) (.inr rfl) _
  exact ⟨a7.trans k8 fun i _ h => h, hb.set j v9, hs.keeps k8 (fun g hg e => by have := (hs.lt g hg).1; omega)⟩
/-- What the first part leaves. -/
def Made (w1 : World) (a b : Nat) (v : Value) (wx : World) : Prop :=
  ∃ (G : Nat) (v1 v2 : Value), v = .pointer (some ⟨G, 0, none⟩) ∧ Blk wx G 27 #[v1, v2, .slice none 0 0, .slice none 0 0] ∧ LsAt 1 uw wx v1 (List.replicate a 0) ∧ LsAt 1 uw wx v2 (List.replicate b 0) ∧ (∀ g, v1.ownBlock = some g → g ≠ G ∧ g < wx.heap.size) ∧ (∀ g, v2.ownBlock = some g → g ≠ G ∧ g < wx.heap.size) ∧ w1.heap.size ≤ G ∧ New w1 wx
theorem ls_blk {w : World} {g n : Nat} (h : Blk w g 37 (zarr n (.int .u64 0))) (hn : n ≤ 100000) : LsAt 1 uw w (.slice (some ⟨g, 0, none⟩) n n) (List.replicate n 0) := by
  have hl : (List.replicate n (0 : Nat)).length = n := by simp
  refine ⟨_, n, by rw [hl], by omega, by unfold maxLen; omega, fun h0 => ⟨g, 0, rfl, h.lt, fun i x hx j u hu => ?_⟩⟩
  have hi : i < n := by rw [← hl]; exact (List.getElem?_eq_some_iff.1 hx).1
  have hx0 : x = 0 := List.eq_of_mem_replicate (List.mem_of_getElem? hx)
  subst hx0
  match j, hu with
  | 0, hu =>
    rw [Nat.mul_one, Nat.add_zero, Nat.zero_add, h.cell, zarr_get _ hi]
    exact hu
theorem at3 (X : World) (o1 o2 o3 : Obj) : (((X.alloc o1).alloc o2).alloc o3).drew.heap[X.heap.size]? = some o1 ∧ (((X.alloc o1).alloc o2).alloc o3).drew.heap[X.heap.size + 1]? = some o2 ∧ (((X.alloc o1).alloc o2).alloc o3).drew.heap[X.heap.size + 1 + 1]? = some o3 := by
  have e1 : (X.alloc o1).heap[X.heap.size]? = some o1 := (MapKept.heap_alloc X o1).1
  have e2 : ((X.alloc o1).alloc o2).heap[(X.alloc o1).heap.size]? = some o2 := (MapKept.heap_alloc _ o2).1
  have e3 : (((X.alloc o1).alloc o2).alloc o3).heap[((X.alloc o1).alloc o2).heap.size]? = some o3 := (MapKept.heap_alloc _ o3).1
  rw [World.size_alloc] at e2
  rw [World.size_alloc, World.size_alloc] at e3
  exact ⟨heap_alloc_lt (heap_alloc_lt e1), heap_alloc_lt e2, e3⟩
theorem made_of {w2 W : World} {a b pa pb pg : Nat} (hG : Blk W pg 27 #[.slice (some ⟨pa, 0, none⟩) a a, .slice (some ⟨pb, 0, none⟩) b b, .slice none 0 0, .slice none 0 0]) (hA : Blk W pa 37 (zarr a (.int .u64 0))) (hB : Blk W pb 37 (zarr b (.int .u64 0)))
    (h1 : pa ≠ pg) (h2 : pb ≠ pg) (h3 : w2.heap.size ≤ pg) (h4 : a ≤ 100000) (h5 : b ≤ 100000) (hN : New w2 W) : Made w2 a b (.pointer (some ⟨pg, 0, none⟩)) W :=
  ⟨pg, _, _, rfl, hG, ls_blk hA h4, ls_blk hB h5, fun g hg => by cases hg; exact ⟨h1, hA.lt⟩, fun g hg => by cases hg; exact ⟨h2, hB.lt⟩, h3, hN⟩
set_option maxRecDepth 100000 in
set_option maxHeartbeats 8000000 in
theorem objectLimits_walk (n0 n1 n2 n3 : Nat) (h0 : n0 < 65536) (h1 : n1 < 65536) (h2 : n2 < 65536) (h3 : n3 < 65536) (w : World) :
    Calls Try.prog 7 #[.agg #[.int .u16 (n0 : Int), .int .u16 (n1 : Int), .int .u16 (n2 : Int), .int .u16 (n3 : Int)]] w fun e w' => e = .returned (.bool true) ∧ New w w' := by
  obtain ⟨a, ha⟩ : ∃ a, a = n0 % 516 := ⟨_, rfl⟩
  obtain ⟨b, hb⟩ : ∃ b, b = n1 % 68 := ⟨_, rfl⟩
  obtain ⟨d, hd⟩ : ∃ d, d = n2 % 36 := ⟨_, rfl⟩
  obtain ⟨l, hl⟩ : ∃ l, l = n3 % 36 := ⟨_, rfl⟩
  have ra : (n0 : Int) % 516 = (a : Int) := by omega
  have rb : (n1 : Int) % 68 = (b : Int) := by omega
  have rd : (n2 : Int) % 36 = (d : Int) := by omega
  have rl : (n3 : Int) % 36 = (l : Int) := by omega
  have wa : IntKind.i64.wrap (n0 : Int) = n0 := by rw [IntKind.wrap_i64]; omega
  have wb : IntKind.i64.wrap (n1 : Int) = n1 := by rw [IntKind.wrap_i64]; omega
  have wd' : IntKind.i64.wrap (n2 : Int) = n2 := by rw [IntKind.wrap_i64]; omega
  have wl : IntKind.i64.wrap (n3 : Int) = n3 := by rw [IntKind.wrap_i64]; omega
  have la : a < 516 := by omega
  have lb : b < 68 := by omega
  have ld : d < 36 := by omega
  have ll : l < 36 := by omega
  have ra2 : Int.tmod (n0 : Int) 516 = (a : Int) := by rw [ha]; rfl
  have rb2 : Int.tmod (n1 : Int) 68 = (b : Int) := by rw [hb]; rfl
  have rd2 : Int.tmod (n2 : Int) 36 = (d : Int) := by rw [hd]; rfl
  have rl2 : Int.tmod (n3 : Int) 36 = (l : Int) := by rw [hl]; rfl
  clear ha hb hd hl
  obtain ⟨B, hB⟩ : ∃ B, B = w.heap.size := ⟨_, rfl⟩
  obtain ⟨w1, hw1⟩ : ∃ w1, w1 = w.alloc (.cells #[.int .u16 (n0 : Int), .int .u16 (n1 : Int), .int .u16 (n2 : Int), .int .u16 (n3 : Int)] 51) := ⟨_, rfl⟩
  have hW1 : New w w1 := by rw [hw1]; exact (New.refl w).alloc _
  have hB1 : Blk w1 B 51 #[.int .u16 (n0 : Int), .int .u16 (n1 : Int), .int .u16 (n2 : Int), .int .u16 (n3 : Int)] := by rw [hw1, hB]; exact Blk.new w _ _
  have HBX := hid (fun X (hX : New w1 X) => blk4 (hB1.new_ hX))
  have hBlt := hB1.lt
  have HW := hid hW1
  have hw1' := hid hw1
  have hB' := hid hB
  clear hW1 hB1 hw1 hB
  go_enter Try.func7, Try.ntmps7
  go_wp2_with fail
  rw [← hw1'.out, ← hB'.out]
  refine (awake_any w1).mono ?_
  rintro e w2 ⟨rfl, n2'⟩
  obtain ⟨x0, x1, x2, x3⟩ := HBX.out _ n2'
  have N2 := hid n2'
  have hm1 := fun X => make_w a (by omega) X
  have hm2 := fun X => make_w b (by omega) X
  clear n2'
  go_upto_region 3 with fail
  go_cut [3] from 14 to 24 (fun v wx => Made w2 a b v wx)
  case first =>
    have hS := fun X (hX : New w2 X) => (show X.cell? ⟨B, 0, none⟩ = some (.int .u16 (n0 : Int)) ∧ X.cell? ⟨B, 1, none⟩ = some (.int .u16 (n1 : Int)) from ⟨hX.cellK x0, hX.cellK x1⟩)
    have R2 := New.refl w2
    have hk0 := hS _ R2.drew
    have hk1 := fun o => hS _ (R2.alloc o).drew
    have hk2 := fun o o' => hS _ ((R2.alloc o).alloc o').drew
    have hk3 := fun o o' o'' => hS _ (((R2.alloc o).alloc o').alloc o'').drew
    clear hS R2
    go_region_held3 (fun X => X.cell? ⟨B, 0, none⟩ = some (.int .u16 (n0 : Int)) ∧ X.cell? ⟨B, 1, none⟩ = some (.int .u16 (n1 : Int))) (first | with_reducible exact hk0 | with_reducible exact hk1 _ | with_reducible exact hk2 _ _ | with_reducible exact hk3 _ _ _) (fail)
    all_goals
      go_wp2_with fail
      go_meet
      apply made_of
      · first | exact (at3 w2 _ _ _).1 | exact (at3 w2 _ _ _).2.1 | exact (at3 w2 _ _ _).2.2
      · first | exact (at3 w2 _ _ _).1 | exact (at3 w2 _ _ _).2.1 | exact (at3 w2 _ _ _).2.2
      · first | exact (at3 w2 _ _ _).1 | exact (at3 w2 _ _ _).2.1 | exact (at3 w2 _ _ _).2.2
      · omega
      · omega
      · omega
      · omega
      · omega
      · exact ((((New.refl w2).alloc _).alloc _).alloc _).drew
  case rest =>
    obtain ⟨G, v1, v2, rfl, hbG, hv1, hv2, n1', n2', hG, hnc⟩ := hcut
    obtain ⟨z1, y1, e1, _⟩ := id hv1
    obtain ⟨z2, y2, e2, _⟩ := id hv2
    rw [List.length_replicate] at e1 e2
    subst e1 e2
    obtain ⟨x0, x1, x2, x3⟩ := HBX.out _ (N2.out.step hnc)
    obtain ⟨ti, hti, hzz⟩ := Option.map_eq_some_iff.1 def_info
    simp only [Prod.mk.injEq] at hzz
    have HT := hid (And.intro hti hzz)
    have HC := hid (And.intro hbG (And.intro hv1 (And.intro hv2 (And.intro n1' (And.intro n2' (And.intro hG hnc))))))
    clear hbG hv1 hv2 n1' n2' hG hnc hti hzz hm1 hm2
    go_wp2_with fail
    go_quiet (fail)
    go_wp2_with fail
    clear x0 x1 x2 x3
    go_loopw [6] (fun i wr => ∃ k : Nat, k ≤ d ∧ i = .int .i64 (k : Int) ∧ Keeps (fun g => g = G) wc wr ∧ ∃ vd, Blk wr G 27 #[.slice z1 a y1, .slice z2 b y2, vd, .slice none 0 0] ∧ Sl wr wc.heap.size 41 2 vd k (flatOf ud (limD k))) (fun i _ => d - (intOf i).toNat)
    case atStart => exact ⟨0, Nat.zero_le _, rfl, (Keeps.refl _ _).drewN _, .slice none 0 0, HC.out.1.new_ ((New.refl _).drewN _), Sl.nil _ _ _ _⟩
    case round =>
      obtain ⟨k, hk, rfl, hkp, vd, hb, hs⟩ := hrel
      by_cases hkn : k < d
      · have w2' : IntKind.i64.wrap ((k : Int) + 1) = k + 1 := by rw [IntKind.wrap_i64]; omega
        have hlt : (k : Int) < (d : Int) := by omega
        obtain ⟨q, hq⟩ : ∃ q, q = k / 10 := ⟨_, rfl⟩
        obtain ⟨r, hr⟩ : ∃ r, r = k % 10 := ⟨_, rfl⟩
        have q1 : (k : Int) / 10 = (q : Int) := by omega
        have r1 : (k : Int) % 10 = (r : Int) := by omega
        have q2 : IntKind.u8.wrap (q : Int) = q := by rw [IntKind.wrap_u8]; omega
        have r2 : IntKind.u8.wrap (r : Int) = r := by rw [IntKind.wrap_u8]; omega
        have q3 : IntKind.u8.wrap (48 + (q : Int)) = 48 + q := by rw [IntKind.wrap_u8]; omega
        have r3 : IntKind.u8.wrap (48 + (r : Int)) = 48 + r := by rw [IntKind.wrap_u8]; omega
        have hcb := two_back wr q r (by omega) (by omega)
        obtain ⟨a7, c7, rfl⟩ := hs.val
        obtain ⟨g0, g1, g2, g3⟩ := blk4 hb
        have ga2 := fun o => ((New.refl wr).alloc o).cellK g2
        have ga22 := fun o o' => (((New.refl wr).alloc o).alloc o').cellK g2
        have HX := hid (And.intro hkp (And.intro hb (And.intro hs (And.intro hq hr))))
        have hown : ∀ g, (Value.slice a7 k c7).ownBlock = some g → wc.heap.size ≤ g := fun g hg => (hs.lt g hg).1
        have HOG : Hid (¬ (Value.slice a7 k c7).ownBlock = some G) := fun e => by have := hown G e; have := HC.out.1.lt; omega
        have HOW := hid hown
        have hnews : ∀ j u, ([.string ((⟨#[101]⟩ : ByteArray) ++ (⟨#[48 + UInt8.ofNat q, 48 + UInt8.ofNat r]⟩ : ByteArray)), .int .i64 0] : List Value)[j]? = some u → ((wr.alloc (.cells #[.int .u8 (48 + (q : Int)), .int .u8 (48 + (r : Int))] 5)).alloc (.cells #[.string ((⟨#[101]⟩ : ByteArray) ++ (⟨#[48 + UInt8.ofNat q, 48 + UInt8.ofNat r]⟩ : ByteArray)), .int .i64 0] 41)).cell? ((⟨wr.heap.size + 1, 0, none⟩ : Addr).add j) = some u := by
          have := news_l (l := [.string ((⟨#[101]⟩ : ByteArray) ++ (⟨#[48 + UInt8.ofNat q, 48 + UInt8.ofNat r]⟩ : ByteArray)), .int .i64 0]) (Blk.new (wr.alloc (.cells #[.int .u8 (48 + (q : Int)), .int .u8 (48 + (r : Int))] 5)) 41 _)
          rw [World.size_alloc] at this
          exact this
        have hone : ∀ u ∈ ([.string ((⟨#[101]⟩ : ByteArray) ++ (⟨#[48 + UInt8.ofNat q, 48 + UInt8.ofNat r]⟩ : ByteArray)), .int .i64 0] : List Value), u.oneCell' = true := fun u hu => by
          simp only [List.mem_cons, List.not_mem_nil, or_false] at hu
          rcases hu with rfl | rfl <;> rfl
        have HNW := hid (And.intro hnews hone)
        have p1 : k + 1 ≤ maxLen := by unfold maxLen; omega
        have p2 : (k + 1) * 24 ≤ 140737488355328 := by omega
        have HSZ : Hid (wc.heap.size ≤ ((wr.alloc (.cells #[.int .u8 (48 + (q : Int)), .int .u8 (48 + (r : Int))] 5)).alloc (.cells #[.string ((⟨#[101]⟩ : ByteArray) ++ (⟨#[48 + UInt8.ofNat q, 48 + UInt8.ofNat r]⟩ : ByteArray)), .int .i64 0] 41)).heap.size) := Nat.le_trans hkp.size (((New.refl wr).alloc _).alloc _).size
        clear hkp hb hs hq hr hown hnews hone
        go_wp2_with (at_builtin; refine wpList_append_sl _ rfl (.tmp 39) (.tmp 52) 24 rfl wc.heap.size 41 ti _ 2 24 Try.underlying24 HT.out.1 HT.out.2.1 HT.out.2.2.1 HT.out.2.2.2 rfl (by decide) (.slice a7 k c7) k _ rfl ((HX.out.2.2.1.alloc _).alloc _) ⟨wr.heap.size + 1, 0, none⟩ 1 1 [.string ((⟨#[101]⟩ : ByteArray) ++ (⟨#[48 + UInt8.ofNat q, 48 + UInt8.ofNat r]⟩ : ByteArray)), .int .i64 0] rfl (by decide) rfl HNW.out.1 HNW.out.2 p1 p2 HSZ.out ?_; intro v7 w7 hs7 hg7 ho7; have hk7 := Keeps.grown (F := fun g => (Value.slice a7 k c7).ownBlock = some g) ((((New.refl wr).alloc _).alloc _).keeps _) hg7 (fun g hg => Or.inr hg); have hb7 := Blk.keeps HX.out.2.1 hk7 HOG.out; obtain ⟨_, _, g72, _⟩ := blk4 hb7; have gf7 := blk4f hb7 2; obtain ⟨a9, c9, rfl⟩ := hs7.val)
        have hm := put_meet (j := 2) HX.out.1 hk7 HOW.out HC.out.1.lt hb7 hs7
        refine ⟨⟨k + 1, by omega, by go_num, hm.1, _, by simpa using hm.2.1, ?_⟩, by simp [intOf]; omega⟩
        have := hm.2.2
        rw [nm_str k q r HX.out.2.2.2.1 HX.out.2.2.2.2] at this
        rw [limD_succ, flatOf_app, flatOf_one]
        exact this
      · have hke : d = k := by omega
        subst hke
        have hlt : ¬ (d : Int) < (d : Int) := by omega
        obtain ⟨wf, hwf⟩ : ∃ wf, wf = wr := ⟨_, rfl⟩
        subst hwf
        obtain ⟨a7, c7, rfl⟩ := hs.val
        obtain ⟨tj, htj, hzj⟩ := Option.map_eq_some_iff.1 link_info
        simp only [Prod.mk.injEq] at hzj
        have HJ := hid (And.intro htj hzj)
        have hGf : G < wf.heap.size := hb.lt
        have HD := hid (And.intro hkp (And.intro hb (And.intro hs hGf)))
        clear hkp hb hs hGf htj hzj
        go_wp2_with fail
        go_loopw [7] (fun i wr => ∃ k : Nat, k ≤ l ∧ i = .int .i64 (k : Int) ∧ Keeps (fun g => g = G) wf wr ∧ ∃ vl, Blk wr G 27 #[.slice z1 a y1, .slice z2 b y2, .slice a7 d c7, vl] ∧ Sl wr wf.heap.size 43 3 vl k (flatOf ul (limL k))) (fun i _ => l - (intOf i).toNat)
        case atStart => exact ⟨0, Nat.zero_le _, rfl, Keeps.refl _ _, .slice none 0 0, HD.out.2.1, Sl.nil _ _ _ _⟩
        case round =>
          obtain ⟨k, hk, rfl, hkp, vl, hb, hs⟩ := hrel
          by_cases hkn : k < l
          · have w2' : IntKind.i64.wrap ((k : Int) + 1) = k + 1 := by rw [IntKind.wrap_i64]; omega
            have hlt : (k : Int) < (l : Int) := by omega
            obtain ⟨a8, c8, rfl⟩ := hs.val
            obtain ⟨g0, g1, g2, g3⟩ := blk4 hb
            have ga3 := fun o => ((New.refl wr).alloc o).cellK g3
            have hown : ∀ g, (Value.slice a8 k c8).ownBlock = some g → wf.heap.size ≤ g := fun g hg => (hs.lt g hg).1
            have HOG : Hid (¬ (Value.slice a8 k c8).ownBlock = some G) := fun e => by have := hown G e; have := HD.out.2.2.2; omega
            have HOW := hid hown
            have HX := hid (And.intro hkp (And.intro hb hs))
            have p1 : k + 1 ≤ maxLen := by unfold maxLen; omega
            have p2 : (k + 1) * 40 ≤ 140737488355328 := by omega
            have HSZ : Hid (∀ o, wf.heap.size ≤ (wr.alloc o).heap.size) := fun o => Nat.le_trans hkp.size ((New.refl wr).alloc o).size
            clear hkp hb hs hown
            go_wp2_with (at_builtin; refine wpList_append_sl _ rfl (.tmp 61) (.tmp 63) 25 rfl wf.heap.size 43 tj _ 3 40 Try.underlying25 HJ.out.1 HJ.out.2.1 HJ.out.2.2.1 HJ.out.2.2.2 rfl (by decide) (.slice a8 k c8) k _ rfl (HX.out.2.2.alloc _) ⟨wr.heap.size, 0, none⟩ 1 1 (ul ([], [120], 0)) rfl (by decide) rfl (news_one (l := ul ([], [120], 0))) (ul_one _) p1 p2 (HSZ.out _) ?_; intro v7 w7 hs7 hg7 ho7; have hk7 := Keeps.grown (F := fun g => (Value.slice a8 k c8).ownBlock = some g) (((New.refl wr).alloc _).keeps _) hg7 (fun g hg => Or.inr hg); have hb7 := Blk.keeps HX.out.2.1 hk7 HOG.out; obtain ⟨_, _, _, g73⟩ := blk4 hb7; have gf7 := blk4f hb7 3; obtain ⟨a9, c9, rfl⟩ := hs7.val)
            have hm := put_meet (j := 3) HX.out.1 hk7 HOW.out HD.out.2.2.2 hb7 hs7
            refine ⟨⟨k + 1, by omega, by go_num, hm.1, _, by simpa using hm.2.1, ?_⟩, by simp [intOf]; omega⟩
            rw [limL_succ, flatOf_app, flatOf_one]
            exact hm.2.2
          · have hke : l = k := by omega
            subst hke
            have hlt : ¬ (l : Int) < (l : Int) := by omega
            obtain ⟨a8, c8, rfl⟩ := hs.val
            obtain ⟨g0, g1, g2, g3⟩ := blk4 hb
            have hGc := HC.out.1.lt
            have hkw : Keeps (fun g => g = G) wc wr := HD.out.1.trans hkp fun i _ h => h
            have hob : ObAt wr (.agg #[.slice z1 a y1, .slice z2 b y2, .slice a7 d c7, .slice a8 l c8]) (limO a b d l) :=
              ⟨_, _, _, _, rfl, HC.out.2.1.keeps hkw (fun g hg => (HC.out.2.2.2.1 g hg).1), HC.out.2.2.1.keeps hkw (fun g hg => (HC.out.2.2.2.2.1 g hg).1),
                (LsAt.of_sl (xs := limD d) ud_len (by rw [limD_len]; exact HD.out.2.2.1) |> fun q => (by have := limD_len d; exact q.keeps hkp (fun g hg e => by have := (HD.out.2.2.1.lt g hg).1; omega))),
                LsAt.of_sl (xs := limL l) ul_len (by rw [limL_len]; exact hs)⟩
            have hnn : New w wr := ((HW.out.step (N2.out.step HC.out.2.2.2.2.2.2)).kept hkw (fun i hi => by rw [hi]; exact Nat.le_trans (HW.out.step N2.out).size HC.out.2.2.2.2.2.1))
            have HOB := hid hob
            have HBG := hid hb
            have HNN := hid hnn
            clear hob hb hs hkp hkw hnn hGc HJ HT HD HC
            have s1 : IntKind.i64.wrap ((a : Int) + b) = (a : Int) + b := by rw [IntKind.wrap_i64]; omega
            have s2 : IntKind.i64.wrap (3 * (d : Int)) = 3 * (d : Int) := by rw [IntKind.wrap_i64]; omega
            have s3 : IntKind.i64.wrap ((a : Int) + b + 3 * d) = (a : Int) + b + 3 * d := by rw [IntKind.wrap_i64]; omega
            have s4 : IntKind.i64.wrap (4 * (l : Int)) = 4 * (l : Int) := by rw [IntKind.wrap_i64]; omega
            have s5 : IntKind.i64.wrap ((a : Int) + b + 3 * d + 4 * l) = (a : Int) + b + 3 * d + 4 * l := by rw [IntKind.wrap_i64]; omega
            obtain ⟨Z, hZ⟩ : ∃ Z, Z = a + b + 3 * d + 4 * l + 5 := ⟨_, rfl⟩
            have s6 : IntKind.i64.wrap ((a : Int) + b + 3 * d + 4 * l + 5) = (Z : Int) := by rw [IntKind.wrap_i64]; omega
            have HZZ := hid hZ
            clear hZ
            by_cases t1 : a ≤ 512
            · have i1 : (a : Int) ≤ 512 := by omega
              by_cases t2 : b ≤ 64
              · have i2 : (b : Int) ≤ 64 := by omega
                by_cases t3 : d ≤ 32
                · have i3 : (d : Int) ≤ 32 := by omega
                  by_cases t4 : l ≤ 32
                  · have i4 : (l : Int) ≤ 32 := by omega
                    by_cases t5 : Z ≤ 1024
                    · have i5 : (Z : Int) ≤ 1024 := by omega
                      by_cases t6 : d = 0
                      · subst t6
                        have e6 : ((Z : Int) == (a : Int) + b + 4 * l + 5) = true := by rw [beq_iff_eq]; have := HZZ.out; omega
                        have hmb : mayB (limO a b 0 l) = true := by rw [lim_may (by omega), decide_eq_true_eq]; exact ⟨t1, t2, by decide, t4, by rw [← HZZ.out]; exact t5, .inl rfl⟩
                        have HMB := hid hmb
                        clear hmb
                        go_wp2_with fail
                        refine (wordsO_any wr _ (limO a b 0 l) HOB.out (lim_lens a b 0 l)).mono ?_
                        rintro e w8 (⟨_, u, rfl, hu, n8⟩ | ⟨hno, _⟩)
                        · obtain ⟨au, cu, hvu, _⟩ := id hu
                          rw [lim_size, ← HZZ.out] at hvu
                          subst hvu
                          obtain ⟨g0, g1, g2, g3⟩ := blk4 (HBG.out.new_ n8)
                          have hM := mayO_any w8 _ (limO a b 0 l) (HOB.out.new_ n8) (lim_lens a b 0 l)
                          rw [HMB.out] at hM
                          have HMM := hid hM
                          have N8 := hid (HNN.out.step n8)
                          clear hM n8 hu
                          go_wp2_with fail
                          refine HMM.out.mono ?_
                          rintro e w9 ⟨rfl, n9⟩
                          go_wp2_with fail
                          go_ret
                          exact ⟨rfl, N8.out.step n9⟩
                        · rw [HMB.out] at hno; cases hno
                      · have i6 : ¬ (d : Int) = 0 := by omega
                        by_cases t7 : 0 < a
                        · have i7 : (0 : Int) < (a : Int) := by omega
                          have hmb : mayB (limO a b d l) = true := by rw [lim_may (by omega)]; simp only [decide_eq_true_eq]; have := HZZ.out; omega
                          have HMB := hid hmb
                          clear hmb
                          go_wp2_with fail
                          refine (wordsO_any wr _ (limO a b d l) HOB.out (lim_lens a b d l)).mono ?_
                          rintro e w8 (⟨_, u, rfl, hu, n8⟩ | ⟨hno, _⟩)
                          · obtain ⟨au, cu, hvu, _⟩ := id hu
                            rw [lim_size, ← HZZ.out] at hvu
                            subst hvu
                            obtain ⟨g0, g1, g2, g3⟩ := blk4 (HBG.out.new_ n8)
                            have hM := mayO_any w8 _ (limO a b d l) (HOB.out.new_ n8) (lim_lens a b d l)
                            rw [HMB.out] at hM
                            have HMM := hid hM
                            have N8 := hid (HNN.out.step n8)
                            clear hM n8 hu
                            go_wp2_with fail
                            refine HMM.out.mono ?_
                            rintro e w9 ⟨rfl, n9⟩
                            go_wp2_with fail
                            go_ret
                            exact ⟨rfl, N8.out.step n9⟩
                          · rw [HMB.out] at hno; cases hno
                        · obtain rfl : a = 0 := by omega
                          have e7 : ((d : Int) == 0) = false := beq_eq_false_iff_ne.2 i6
                          have hmb : mayB (limO 0 b d l) = false := by rw [lim_may (by omega)]; rw [decide_eq_false_iff_not]; have := HZZ.out; omega
                          have HMB := hid hmb
                          clear hmb
                          go_wp2_with fail
                          refine (wordsO_any wr _ (limO 0 b d l) HOB.out (lim_lens 0 b d l)).mono ?_
                          rintro e w8 (⟨hno, _⟩ | ⟨_, rfl, n8⟩)
                          · rw [HMB.out] at hno; cases hno
                          · skip
                            obtain ⟨g0, g1, g2, g3⟩ := blk4 (HBG.out.new_ n8)
                            have hM := mayO_any w8 _ (limO 0 b d l) (HOB.out.new_ n8) (lim_lens 0 b d l)
                            rw [HMB.out] at hM
                            have HMM := hid hM
                            have N8 := hid (HNN.out.step n8)
                            clear hM n8
                            go_wp2_with fail
                            refine HMM.out.mono ?_
                            rintro e w9 ⟨rfl, n9⟩
                            go_wp2_with fail
                            go_ret
                            exact ⟨rfl, N8.out.step n9⟩
                    · have i5 : ¬ (Z : Int) ≤ 1024 := by omega
                      have hmb : mayB (limO a b d l) = false := by rw [lim_may (by omega)]; rw [decide_eq_false_iff_not]; have := HZZ.out; omega
                      have HMB := hid hmb
                      clear hmb
                      go_wp2_with fail
                      refine (wordsO_any wr _ (limO a b d l) HOB.out (lim_lens a b d l)).mono ?_
                      rintro e w8 (⟨hno, _⟩ | ⟨_, rfl, n8⟩)
                      · rw [HMB.out] at hno; cases hno
                      · skip
                        obtain ⟨g0, g1, g2, g3⟩ := blk4 (HBG.out.new_ n8)
                        have hM := mayO_any w8 _ (limO a b d l) (HOB.out.new_ n8) (lim_lens a b d l)
                        rw [HMB.out] at hM
                        have HMM := hid hM
                        have N8 := hid (HNN.out.step n8)
                        clear hM n8
                        go_wp2_with fail
                        refine HMM.out.mono ?_
                        rintro e w9 ⟨rfl, n9⟩
                        go_wp2_with fail
                        go_ret
                        exact ⟨rfl, N8.out.step n9⟩
                  · have i4 : ¬ (l : Int) ≤ 32 := by omega
                    have hmb : mayB (limO a b d l) = false := by rw [lim_may (by omega)]; rw [decide_eq_false_iff_not]; have := HZZ.out; omega
                    have HMB := hid hmb
                    clear hmb
                    go_wp2_with fail
                    refine (wordsO_any wr _ (limO a b d l) HOB.out (lim_lens a b d l)).mono ?_
                    rintro e w8 (⟨hno, _⟩ | ⟨_, rfl, n8⟩)
                    · rw [HMB.out] at hno; cases hno
                    · skip
                      obtain ⟨g0, g1, g2, g3⟩ := blk4 (HBG.out.new_ n8)
                      have hM := mayO_any w8 _ (limO a b d l) (HOB.out.new_ n8) (lim_lens a b d l)
                      rw [HMB.out] at hM
                      have HMM := hid hM
                      have N8 := hid (HNN.out.step n8)
                      clear hM n8
                      go_wp2_with fail
                      refine HMM.out.mono ?_
                      rintro e w9 ⟨rfl, n9⟩
                      go_wp2_with fail
                      go_ret
                      exact ⟨rfl, N8.out.step n9⟩
                · have i3 : ¬ (d : Int) ≤ 32 := by omega
                  have hmb : mayB (limO a b d l) = false := by rw [lim_may (by omega)]; rw [decide_eq_false_iff_not]; have := HZZ.out; omega
                  have HMB := hid hmb
                  clear hmb
                  go_wp2_with fail
                  refine (wordsO_any wr _ (limO a b d l) HOB.out (lim_lens a b d l)).mono ?_
                  rintro e w8 (⟨hno, _⟩ | ⟨_, rfl, n8⟩)
                  · rw [HMB.out] at hno; cases hno
                  · skip
                    obtain ⟨g0, g1, g2, g3⟩ := blk4 (HBG.out.new_ n8)
                    have hM := mayO_any w8 _ (limO a b d l) (HOB.out.new_ n8) (lim_lens a b d l)
                    rw [HMB.out] at hM
                    have HMM := hid hM
                    have N8 := hid (HNN.out.step n8)
                    clear hM n8
                    go_wp2_with fail
                    refine HMM.out.mono ?_
                    rintro e w9 ⟨rfl, n9⟩
                    go_wp2_with fail
                    go_ret
                    exact ⟨rfl, N8.out.step n9⟩
              · have i2 : ¬ (b : Int) ≤ 64 := by omega
                have hmb : mayB (limO a b d l) = false := by rw [lim_may (by omega)]; rw [decide_eq_false_iff_not]; have := HZZ.out; omega
                have HMB := hid hmb
                clear hmb
                go_wp2_with fail
                refine (wordsO_any wr _ (limO a b d l) HOB.out (lim_lens a b d l)).mono ?_
                rintro e w8 (⟨hno, _⟩ | ⟨_, rfl, n8⟩)
                · rw [HMB.out] at hno; cases hno
                · skip
                  obtain ⟨g0, g1, g2, g3⟩ := blk4 (HBG.out.new_ n8)
                  have hM := mayO_any w8 _ (limO a b d l) (HOB.out.new_ n8) (lim_lens a b d l)
                  rw [HMB.out] at hM
                  have HMM := hid hM
                  have N8 := hid (HNN.out.step n8)
                  clear hM n8
                  go_wp2_with fail
                  refine HMM.out.mono ?_
                  rintro e w9 ⟨rfl, n9⟩
                  go_wp2_with fail
                  go_ret
                  exact ⟨rfl, N8.out.step n9⟩
            · have i1 : ¬ (a : Int) ≤ 512 := by omega
              have hmb : mayB (limO a b d l) = false := by rw [lim_may (by omega)]; rw [decide_eq_false_iff_not]; have := HZZ.out; omega
              have HMB := hid hmb
              clear hmb
              go_wp2_with fail
              refine (wordsO_any wr _ (limO a b d l) HOB.out (lim_lens a b d l)).mono ?_
              rintro e w8 (⟨hno, _⟩ | ⟨_, rfl, n8⟩)
              · rw [HMB.out] at hno; cases hno
              · skip
                obtain ⟨g0, g1, g2, g3⟩ := blk4 (HBG.out.new_ n8)
                have hM := mayO_any w8 _ (limO a b d l) (HOB.out.new_ n8) (lim_lens a b d l)
                rw [HMB.out] at hM
                have HMM := hid hM
                have N8 := hid (HNN.out.step n8)
                clear hM n8
                go_wp2_with fail
                refine HMM.out.mono ?_
                rintro e w9 ⟨rfl, n9⟩
                go_wp2_with fail
                go_ret
                exact ⟨rfl, N8.out.step n9⟩
theorem objectLimits_row {H : Type} {enc : TypeId × Value → H} (W : World) {base : Nat}
    (v0 : Value) (d0 : DataW H) (p0 : List MemPlace) (k0 : Value.okWide Try.prog W .any base 51 v0) (h0 : DataW.Trod enc Try.prog W 0 (fun _ => true) true 51 v0 d0 p0) (l0 : ∀ x ∈ p0, x.block < W.heap.size)
    : Calls Try.prog 7 #[v0] W fun e W' => e = .returned (.bool true) ∧ Below W.heap.size W W' := by
  have hU : Opens H Try.prog 51 (4 * 1) (RArr 4 1 (RInt .u16)) := Opens.array Try.underlying51 (Opens.int Try.underlying49 (by kernel_rfl)) (by kernel_rfl)
  obtain ⟨cs, rfl, hl, hc⟩ := Opens.arr Try.underlying51 hU k0 h0
  have each : ∀ i, ∃ n : Nat, n < 65536 ∧ (i < 4 → cs[i]? = some (.int .u16 (n : Int))) := fun i => by
    by_cases hi : i < 4
    · obtain ⟨v, e, hv⟩ := hc i hi
      obtain ⟨v0, v1⟩ := wf_u16 hv
      obtain ⟨V, rfl⟩ := Int.eq_ofNat_of_zero_le v0
      refine ⟨V, by omega, fun _ => ?_⟩
      have := congrArg (fun l => l[0]?) e
      simpa [List.getElem?_take, List.getElem?_drop] using this
    · exact ⟨0, by omega, fun h => absurd h hi⟩
  obtain ⟨x, hx⟩ : ∃ x : Nat → Nat, ∀ i, x i < 65536 ∧ (i < 4 → cs[i]? = some (.int .u16 (x i : Int))) := ⟨fun i => (each i).choose, fun i => (each i).choose_spec⟩
  have e : cs = [.int .u16 (x 0 : Int), .int .u16 (x 1 : Int), .int .u16 (x 2 : Int), .int .u16 (x 3 : Int)] := by
    apply List.ext_getElem?
    intro i
    by_cases hi : i < 4
    · rw [(hx i).2 hi]
      rcases (show i = 0 ∨ i = 1 ∨ i = 2 ∨ i = 3 by omega) with rfl | rfl | rfl | rfl <;> rfl
    · rw [List.getElem?_eq_none (by omega), List.getElem?_eq_none (by simp; omega)]
  subst e
  exact objectLimits_walk _ _ _ _ (hx 0).1 (hx 1).1 (hx 2).1 (hx 3).1 W
end Go.Proofs.Ytnoahdobgndmnaa.Law
