/- The walk of AreaFirst. -/
import Derived.Test.YtapefbmbaofbbaaAreaWith
import Derived.Test.YtapefbmbaofbbaaOpenG
namespace Go.Proofs.Ytapefbmbaofbbaa.Law
open Go Go.RowKit Go.ChangeShapes Go.WideShapes Go.Proofs.Ytapefbmbaofbbaa.Kit Go.Proofs.Ytapefbmbaofbbaa.Area Go.Proofs.Ytapefbmbaofbbaa.Open
set_option linter.unusedSimpArgs false
set_option linter.unusedVariables false
def acc (s : Nat → Nat) : Nat → Nat
  | 0 => 0
  | i + 1 => acc s i + s i
def rm (s : Nat → Nat) (j : Nat) : Nat × List Int := (acc s j, List.replicate (s j) 0)
def rooms (s : Nat → Nat) (i : Nat) : Ms := (List.range i).map (rm s)
theorem rooms_succ (s : Nat → Nat) (i : Nat) : rooms s (i + 1) = rooms s i ++ [rm s i] := by unfold rooms; rw [List.range_succ, List.map_append]; rfl
/-- Rooms without holes. -/
def Con : Nat → Ms → Nat → Prop
  | b, [], e => b = e
  | b, r :: ms, e => r.1 = b ∧ Con (b + r.2.length) ms e
theorem Con.snoc : ∀ {ms : Ms} {b e : Nat} (l : List Int), Con b ms e → Con b (ms ++ [(e, l)]) (e + l.length)
  | [], b, e, l, h => ⟨h.symm, by simp only [Con]; rw [show b = e from h]⟩
  | r :: ms, b, e, l, h => ⟨h.1, h.2.snoc l⟩
theorem Con.fit {n : Int} (hn : 1 ≤ n) : ∀ {ms : Ms} {b e : Nat}, Con b ms e → fitG n b ms = (ms.length, e)
  | [], b, e, h => by rw [show b = e from h]; rfl
  | r :: ms, b, e, h => by
    have h2 := h.2
    have h1 := h.1
    rw [← h1] at h2
    simp only [fitG]
    rw [if_pos (by rw [h1]; omega), h2.fit hn]
    rfl
theorem rooms_con (s : Nat → Nat) : ∀ i, Con 0 (rooms s i) (acc s i)
  | 0 => rfl
  | i + 1 => by
    rw [rooms_succ]
    have := (rooms_con s i).snoc (List.replicate (s i) 0)
    rw [List.length_replicate] at this
    exact this
theorem rooms_len (s : Nat → Nat) (i : Nat) : (rooms s i).length = i := by simp [rooms]
theorem acc_le {s : Nat → Nat} (h : ∀ j, s j ≤ 20) : ∀ i, acc s i ≤ 20 * i
  | 0 => Nat.le_refl _
  | i + 1 => by have := acc_le h i; have := h i; simp only [acc]; omega
theorem take_row {s : Nat → Nat} (h : ∀ j, 1 ≤ s j ∧ s j ≤ 20) {i : Nat} (hi : i < 4) : tk 200 (rooms s i) (s i : Int) (acc s i : Int) 0 (rooms s (i + 1)) := by
  have hf := (rooms_con s i).fit (n := (s i : Int)) (by have := h i; omega)
  have ha := acc_le (fun j => (h j).2) i
  have hs := h i
  have e : takeE 200 (rooms s i) (s i : Int) = 0 := by unfold takeE; rw [hf, if_neg (by omega), if_neg (by simp only; omega)]
  refine ⟨by unfold takeB; rw [e, if_pos rfl, hf], e, ?_⟩
  unfold takeM
  rw [e, if_pos rfl, hf, List.take_length, List.drop_length, rooms_succ, Int.toNat_natCast]
  rfl
/-- The rooms without room h. -/
def less (s : Nat → Nat) (h : Nat) : Ms := ((List.range 4).filter fun j => !(j == h)).map (rm s)
theorem acc_lt {s : Nat → Nat} (h : ∀ j, 1 ≤ s j) : acc s 0 < acc s 1 ∧ acc s 1 < acc s 2 ∧ acc s 2 < acc s 3 := by
  have := h 0; have := h 1; have := h 2
  simp only [acc]; omega
theorem give_row {s : Nat → Nat} (h : ∀ j, 1 ≤ s j) {k : Nat} (hk : k < 4) : (findM (rooms s 4) (acc s k : Int)).isSome = true ∧ giveM (rooms s 4) (acc s k : Int) = less s k := by
  obtain ⟨h1, h2, h3⟩ := acc_lt h
  have hne : ∀ i j, i < 4 → j < 4 → (((acc s i : Nat) : Int) == ((acc s j : Nat) : Int)) = (i == j) := by
    intro i j hi hj
    by_cases e : i = j
    · subst e; simp
    · have : acc s i ≠ acc s j := by
        rcases (show i = 0 ∨ i = 1 ∨ i = 2 ∨ i = 3 by omega) with rfl | rfl | rfl | rfl <;> rcases (show j = 0 ∨ j = 1 ∨ j = 2 ∨ j = 3 by omega) with rfl | rfl | rfl | rfl <;> omega
      rw [beq_eq_false_iff_ne.2 (by omega), beq_eq_false_iff_ne.2 e]
  constructor
  · unfold findM
    rw [List.find?_isSome]
    exact ⟨rm s k, List.mem_map.2 ⟨k, by simpa using hk, rfl⟩, by simp [rm]⟩
  · unfold giveM rooms less
    rw [List.filter_map]
    congr 1
    apply List.filter_congr
    intro j hj
    simp only [Function.comp, rm]
    rw [hne j k (by simpa using hj) hk]
def place (s : Nat → Nat) (h k : Nat) : Nat := if k ≤ s h then acc s h else if h = 3 then acc s 3 else acc s 4
theorem less_take {s : Nat → Nat} (h : ∀ j, 1 ≤ s j ∧ s j ≤ 20) {j k : Nat} (hj : j < 4) (hk1 : 1 ≤ k) (hk : k ≤ 25) : takeB 200 (less s j) (k : Int) = (place s j k : Int) ∧ takeE 200 (less s j) (k : Int) = 0 := by
  have hfit : (fitG (k : Int) 0 (less s j)).2 = place s j k := by
    have s0 := h 0; have s1 := h 1; have s2 := h 2; have s3 := h 3
    have e1 : acc s 1 = s 0 := by simp [acc]
    have e2 : acc s 2 = s 0 + s 1 := by simp [acc]
    have e3 : acc s 3 = s 0 + s 1 + s 2 := by simp [acc]
    have e4 : acc s 4 = s 0 + s 1 + s 2 + s 3 := by simp [acc]
    have e0 : acc s 0 = 0 := rfl
    rcases (show j = 0 ∨ j = 1 ∨ j = 2 ∨ j = 3 by omega) with rfl | rfl | rfl | rfl
    · have el : less s 0 = [rm s 1, rm s 2, rm s 3] := rfl
      rw [el]
      simp only [fitG, rm, List.length_replicate, place, e0, e1, e2, e3, e4]
      (repeat' split) <;> omega
    · have el : less s 1 = [rm s 0, rm s 2, rm s 3] := rfl
      rw [el]
      simp only [fitG, rm, List.length_replicate, place, e0, e1, e2, e3, e4]
      (repeat' split) <;> omega
    · have el : less s 2 = [rm s 0, rm s 1, rm s 3] := rfl
      rw [el]
      simp only [fitG, rm, List.length_replicate, place, e0, e1, e2, e3, e4]
      (repeat' split) <;> omega
    · have el : less s 3 = [rm s 0, rm s 1, rm s 2] := rfl
      rw [el]
      simp only [fitG, rm, List.length_replicate, place, e0, e1, e2, e3, e4]
      (repeat' split) <;> first | omega | (exact absurd trivial (by assumption))
  have hp : place s j k ≤ 80 := by
    have a := acc_le (fun j => (h j).2)
    unfold place
    split
    · have := a j; omega
    · split
      · exact Nat.le_trans (a 3) (by decide)
      · exact Nat.le_trans (a 4) (by decide)
  have e : takeE 200 (less s j) (k : Int) = 0 := by unfold takeE; rw [hfit, if_neg (by omega), if_neg (by omega)]
  exact ⟨by unfold takeB; rw [e, if_pos rfl, hfit], e⟩
/-- The array of the bases behind i rounds. -/
def bas (s : Nat → Nat) (i : Nat) : Array Value := #[.int .i64 (if 0 < i then (acc s 0 : Int) else 0), .int .i64 (if 1 < i then (acc s 1 : Int) else 0), .int .i64 (if 2 < i then (acc s 2 : Int) else 0), .int .i64 (if 3 < i then (acc s 3 : Int) else 0)]
theorem bas_set (s : Nat → Nat) {i : Nat} (hi : i < 4) : (bas s i).setIfInBounds i (.int .i64 (acc s i : Int)) = bas s (i + 1) := by
  rcases (show i = 0 ∨ i = 1 ∨ i = 2 ∨ i = 3 by omega) with rfl | rfl | rfl | rfl <;> rfl
theorem bas_get (s : Nat → Nat) {j : Nat} (hj : j < 4) : (bas s 4)[j]? = some (.int .i64 (acc s j : Int)) := by
  rcases (show j = 0 ∨ j = 1 ∨ j = 2 ∨ j = 3 by omega) with rfl | rfl | rfl | rfl <;> rfl
set_option maxRecDepth 100000 in
set_option maxHeartbeats 8000000 in
theorem areaFirst_walk (x : Nat → Nat) (hx : ∀ j, x j < 256) (h0 k0 : Nat) (hh : h0 < 256) (hk : k0 < 256) (w : World) :
    Calls Try.prog 3 #[.agg #[.int .u8 (x 0 : Int), .int .u8 (x 1 : Int), .int .u8 (x 2 : Int), .int .u8 (x 3 : Int)], .int .u8 (h0 : Int), .int .u8 (k0 : Int)] w fun e w' => e = .returned (.bool true) ∧ New w w' := by
  obtain ⟨s, hs⟩ : ∃ s : Nat → Nat, s = fun j => 1 + x j % 20 := ⟨_, rfl⟩
  have hs1 : ∀ j, 1 ≤ s j ∧ s j ≤ 20 := fun j => by rw [hs]; simp only; omega
  have hB := Blk.new w 22 #[.int .u8 (x 0 : Int), .int .u8 (x 1 : Int), .int .u8 (x 2 : Int), .int .u8 (x 3 : Int)]
  have nB := (New.refl w).alloc (.cells #[.int .u8 (x 0 : Int), .int .u8 (x 1 : Int), .int .u8 (x 2 : Int), .int .u8 (x 3 : Int)] 22)
  go_enter Try.func3, Try.ntmps3
  go_wp2_with fail
  refine (awake_any _).mono ?_
  rintro e w1 ⟨rfl, n1⟩
  have hB1 := hB.new_ n1
  have nB1 := nB.step n1
  have HB := hid (And.intro hB1 nB1)
  generalize w.heap.size = G at *
  clear hB nB n1 hB1 nB1
  go_wp2_with fail
  refine (newW 200 w1).mono ?_
  rintro e w2 ⟨rfl, s2⟩
  generalize w1.heap.size = A at *
  have hD : Blk (w2.alloc (.cells #[.int .i64 0, .int .i64 0, .int .i64 0, .int .i64 0] 26)) w2.heap.size 26 (bas s 0) := Blk.new w2 _ _
  have s3 : With w1 (w2.alloc (.cells #[.int .i64 0, .int .i64 0, .int .i64 0, .int .i64 0] 26)) A 200 (rooms s 0) (fun k => k = w2.heap.size) := s2.kept ((Keeps.refl _ w2).alloc _) (fun k hk => by rw [hk, World.size_alloc]; exact ⟨.inr (Nat.le_refl _), Nat.lt_succ_self _⟩)
  have HS := hid (And.intro hs hs1)
  clear s2 hs hs1
  go_wp2_with fail
  generalize (w2.alloc (.cells #[.int .i64 0, .int .i64 0, .int .i64 0, .int .i64 0] 26)) = w3 at *
  generalize w2.heap.size = D at *
  have H3 := hid (And.intro hD s3)
  clear hD s3
  go_loopw [9, 10] (fun a i wr => ∃ k : Nat, k ≤ 4 ∧ i = .int .i64 (k : Int) ∧ a = .int .i64 (acc s k : Int) ∧ With w1 wr A 200 (rooms s k) (fun j => j = D) ∧ Blk wr D 26 (bas s k)) (fun _ i _ => 4 - (intOf i).toNat)
  case atStart => exact ⟨0, by omega, rfl, rfl, H3.out.2, H3.out.1⟩
  case round =>
    obtain ⟨k, hk4, rfl, rfl, hw, hd⟩ := hrel
    by_cases hkn : k < 4
    · have w2' : IntKind.i64.wrap ((k : Int) + 1) = k + 1 := by rw [IntKind.wrap_i64]; omega
      have c0 : wr.cell? ⟨G, k, none⟩ = some (.int .u8 (x k : Int)) := by
        rw [(HB.out.1.new_ hw.new).cell]
        rcases (show k = 0 ∨ k = 1 ∨ k = 2 ∨ k = 3 by omega) with rfl | rfl | rfl | rfl <;> rfl
      have q := takeW wr hw (by decide) (s k : Int)
      have ht := take_row HS.out.2 hkn
      rw [ht.1, ht.2.1, ht.2.2] at q
      have hxk := hx k
      have j0 : (0 : Int) ≤ (k : Int) := by omega
      have j1 : (k : Int) < 4 := by omega
      have hsk : s k = 1 + x k % 20 := by rw [HS.out.1]
      have hak := acc_le (fun j => (HS.out.2 j).2) k
      have hsk2 := HS.out.2 k
      have r0 : IntKind.i64.wrap (x k : Int) = x k := by rw [IntKind.wrap_i64]; omega
      have r1 : ((x k : Int)).tmod 20 = (x k : Int) % 20 := by rw [Int.tmod_eq_emod_of_nonneg (by omega)]
      have r2 : IntKind.i64.wrap ((x k : Int) % 20) = (x k : Int) % 20 := by rw [IntKind.wrap_i64]; omega
      have r3 : IntKind.i64.wrap (1 + (x k : Int) % 20) = (s k : Int) := by rw [IntKind.wrap_i64]; omega
      have r4 : IntKind.i64.wrap ((acc s k : Int) + (s k : Int)) = (acc s (k + 1) : Int) := by rw [IntKind.wrap_i64]; simp only [acc]; omega
      have HQ := hid (And.intro q (And.intro hw hd))
      clear q ht hw hd hsk hak hsk2
      go_wp2_with fail
      refine HQ.out.1.mono ?_
      rintro e w4 ⟨rfl, hw4, hsm⟩
      have hd4 : Blk w4 D 26 (bas s k) := HQ.out.2.2.of_block (hsm.2 D rfl)
      obtain ⟨z, d0⟩ : ∃ z, w4.cell? ⟨D, k, none⟩ = some (.int .i64 z) := by
        rw [hd4.cell]
        rcases (show k = 0 ∨ k = 1 ∨ k = 2 ∨ k = 3 by omega) with rfl | rfl | rfl | rfl <;> exact ⟨_, rfl⟩
      have f0 := hd4.frozen k
      have hd5 := hd4.set k (.int .i64 (acc s k : Int))
      rw [bas_set s hkn] at hd5
      have hw5 : With w1 (w4.setCell ⟨D, k, none⟩ (.int .i64 (acc s k : Int))) A 200 (rooms s (k + 1)) (fun j => j = D) := hw4.kept (Keeps.setCell (F := fun j => j = D) (Keeps.refl _ _) (.inr rfl) _) (fun j hj => ⟨.inl hj, by rw [size_setCell, hj]; exact hd4.lt⟩)
      have H5 := hid (And.intro hw5 hd5)
      clear hw4 hsm hd4 hd5 hw5 c0
      go_wp2_with fail
      exact ⟨⟨k + 1, by omega, by go_num, rfl, H5.out.1, H5.out.2⟩, by simp [intOf]; omega⟩
    · have hk4' : k = 4 := by omega
      subst hk4'
      obtain ⟨h, hh0⟩ : ∃ h, h = h0 % 4 := ⟨_, rfl⟩
      have h4 : h < 4 := by omega
      obtain ⟨m, hm⟩ : ∃ m, m = 1 + k0 % 25 := ⟨_, rfl⟩
      have a0 : IntKind.i64.wrap (h0 : Int) = h0 := by rw [IntKind.wrap_i64]; omega
      have a1 : ((h0 : Int)).tmod 4 = (h : Int) := by rw [Int.tmod_eq_emod_of_nonneg (by omega)]; omega
      have a2 : IntKind.i64.wrap (h : Int) = h := by rw [IntKind.wrap_i64]; omega
      have b0 : IntKind.i64.wrap (k0 : Int) = k0 := by rw [IntKind.wrap_i64]; omega
      have b1 : ((k0 : Int)).tmod 25 = (k0 : Int) % 25 := by rw [Int.tmod_eq_emod_of_nonneg (by omega)]
      have b2 : IntKind.i64.wrap ((k0 : Int) % 25) = (k0 : Int) % 25 := by rw [IntKind.wrap_i64]; omega
      have b3 : IntKind.i64.wrap (1 + (k0 : Int) % 25) = (m : Int) := by rw [IntKind.wrap_i64]; omega
      have hxk := hx h
      have hsk : s h = 1 + x h % 20 := by rw [HS.out.1]
      have r0 : IntKind.i64.wrap (x h : Int) = x h := by rw [IntKind.wrap_i64]; omega
      have r1 : ((x h : Int)).tmod 20 = (x h : Int) % 20 := by rw [Int.tmod_eq_emod_of_nonneg (by omega)]
      have r2 : IntKind.i64.wrap ((x h : Int) % 20) = (x h : Int) % 20 := by rw [IntKind.wrap_i64]; omega
      have r3 : IntKind.i64.wrap (1 + (x h : Int) % 20) = (s h : Int) := by rw [IntKind.wrap_i64]; omega
      have j0 : (0 : Int) ≤ (h : Int) := by omega
      have j1 : (h : Int) < 4 := by omega
      have c0 : wr.cell? ⟨G, h, none⟩ = some (.int .u8 (x h : Int)) := by
        rw [(HB.out.1.new_ hw.new).cell]
        rcases (show h = 0 ∨ h = 1 ∨ h = 2 ∨ h = 3 by omega) with e | e | e | e <;> rw [e] <;> rfl
      have d0 : wr.cell? ⟨D, h, none⟩ = some (.int .i64 (acc s h : Int)) := by rw [hd.cell]; exact bas_get s h4
      have q := giveW wr hw (by decide) (acc s h : Int)
      have ht := give_row (fun j => (HS.out.2 j).1) h4
      rw [ht.1, ht.2] at q
      have hlt := less_take HS.out.2 h4 (k := m) (by omega) (by omega)
      have HQ := hid (And.intro q (And.intro hd hlt))
      clear q ht hw hd hlt hh0 hsk hm
      go_wp2_with fail
      refine HQ.out.1.mono ?_
      rintro e w4 ⟨rfl, hw4, hsm⟩
      have hd4 : Blk w4 D 26 (bas s 4) := HQ.out.2.1.of_block (hsm.2 D rfl)
      have q2 := takeW w4 hw4 (by decide) (m : Int)
      rw [HQ.out.2.2.1, HQ.out.2.2.2] at q2
      have HQ2 := hid (And.intro q2 hd4)
      clear q2 hw4 hsm hd4 c0 d0
      go_wp2_with fail
      refine HQ2.out.1.mono ?_
      rintro e w5 ⟨rfl, hw5, hsm⟩
      have hd5 : Blk w5 D 26 (bas s 4) := HQ2.out.2.of_block (hsm.2 D rfl)
      have d0 : w5.cell? ⟨D, h, none⟩ = some (.int .i64 (acc s h : Int)) := by rw [hd5.cell]; exact bas_get s h4
      have d3 : w5.cell? ⟨D, 3, none⟩ = some (.int .i64 (acc s 3 : Int)) := by rw [hd5.cell]; exact bas_get s (by decide)
      have HF := hid (show New w w5 from HB.out.2.step hw5.new)
      clear hw5 hsm hd5
      by_cases hm1 : m ≤ s h
      · have hp : place s h m = acc s h := by unfold place; rw [if_pos hm1]
        have hm2 : (m : Int) ≤ (s h : Int) := by omega
        rw [hp]
        by_cases h3 : h = 3
        · subst h3
          go_wp2
          go_ret
          exact ⟨rfl, HF.out⟩
        · have h3' : ¬ (h : Int) = 3 := by omega
          go_wp2
          go_ret
          exact ⟨rfl, HF.out⟩
      · have hm2 : ¬ (m : Int) ≤ (s h : Int) := by omega
        by_cases h3 : h = 3
        · have hp : place s h m = acc s 3 := by unfold place; rw [if_neg hm1, if_pos h3]
          rw [hp]
          subst h3
          go_wp2
          go_ret
          exact ⟨rfl, HF.out⟩
        · have hp : place s h m = acc s 4 := by unfold place; rw [if_neg hm1, if_neg h3]
          rw [hp]
          have h3' : ¬ (h : Int) = 3 := by omega
          go_wp2
          go_ret
          exact ⟨rfl, HF.out⟩
theorem areaFirst_row {H : Type} {enc : TypeId × Value → H} (W : World) {base : Nat}
    (v0 : Value) (d0 : DataW H) (p0 : List MemPlace) (k0 : Value.okWide Try.prog W .any base 22 v0) (h0 : DataW.Trod enc Try.prog W 0 (fun _ => true) true 22 v0 d0 p0) (l0 : ∀ x ∈ p0, x.block < W.heap.size)
    (v1 : Value) (d1 : DataW H) (p1 : List MemPlace) (k1 : Value.okWide Try.prog W .any base 5 v1) (h1 : DataW.Trod enc Try.prog W 0 (fun _ => true) true 5 v1 d1 p1) (l1 : ∀ x ∈ p1, x.block < W.heap.size)
    (v2 : Value) (d2 : DataW H) (p2 : List MemPlace) (k2 : Value.okWide Try.prog W .any base 5 v2) (h2 : DataW.Trod enc Try.prog W 0 (fun _ => true) true 5 v2 d2 p2) (l2 : ∀ x ∈ p2, x.block < W.heap.size)
    : Calls Try.prog 3 #[v0, v1, v2] W fun e W' => e = .returned (.bool true) ∧ Below W.heap.size W W' := by
  have hU : Opens H Try.prog 22 (4 * 1) (RArr 4 1 (RInt .u8)) := Opens.array Try.underlying22 (Opens.int Try.underlying5 (by kernel_rfl)) (by kernel_rfl)
  obtain ⟨cs, rfl, hl, hc⟩ := Opens.arr Try.underlying22 hU k0 h0
  obtain ⟨y, rfl, rfl, rfl, hwf⟩ := open_int Try.underlying5 k1 h1
  obtain ⟨y0, y1⟩ := wf_u8 hwf
  obtain ⟨z, rfl, rfl, rfl, hwf2⟩ := open_int Try.underlying5 k2 h2
  obtain ⟨z0, z1⟩ := wf_u8 hwf2
  obtain ⟨Y, rfl⟩ := Int.eq_ofNat_of_zero_le y0
  obtain ⟨Z, rfl⟩ := Int.eq_ofNat_of_zero_le z0
  have each : ∀ i, ∃ n : Nat, n < 256 ∧ (i < 4 → cs[i]? = some (.int .u8 (n : Int))) := fun i => by
    by_cases hi : i < 4
    · obtain ⟨v, e, hv⟩ := hc i hi
      obtain ⟨v0, v1⟩ := wf_u8 hv
      obtain ⟨V, rfl⟩ := Int.eq_ofNat_of_zero_le v0
      refine ⟨V, by omega, fun _ => ?_⟩
      have := congrArg (fun l => l[0]?) e
      simpa [List.getElem?_take, List.getElem?_drop] using this
    · exact ⟨0, by omega, fun h => absurd h hi⟩
  obtain ⟨x, hx⟩ : ∃ x : Nat → Nat, ∀ i, x i < 256 ∧ (i < 4 → cs[i]? = some (.int .u8 (x i : Int))) := ⟨fun i => (each i).choose, fun i => (each i).choose_spec⟩
  have e : cs = [.int .u8 (x 0 : Int), .int .u8 (x 1 : Int), .int .u8 (x 2 : Int), .int .u8 (x 3 : Int)] := by
    apply List.ext_getElem?
    intro i
    by_cases hi : i < 4
    · rw [(hx i).2 hi]
      rcases (show i = 0 ∨ i = 1 ∨ i = 2 ∨ i = 3 by omega) with rfl | rfl | rfl | rfl <;> rfl
    · rw [List.getElem?_eq_none (by omega), List.getElem?_eq_none (by simp; omega)]
  subst e
  exact areaFirst_walk x (fun j => (hx j).1) Y Z (by omega) (by omega) W
end Go.Proofs.Ytapefbmbaofbbaa.Law
