/- LinkageLoose: its sections, plain. -/
import Derived.Test.YteakbhfegbghoaaLinkA
import Derived.Test.YteakbhfegbghoaaLinkL
namespace Go.Proofs.Yteakbhfegbghoaa.Link
open Go Go.RowKit Go.ChangeMaps Go.Proofs.Yteakbhfegbghoaa.Kit Go.Proofs.Yteakbhfegbghoaa.Area Go.Proofs.Yteakbhfegbghoaa.Wd Go.Proofs.Yteakbhfegbghoaa.Str
open Go.Proofs.Yteakbhfegbghoaa.Obj (Ob ObAt Lens ul uw)
set_option linter.unusedSimpArgs false
set_option linter.unusedVariables false
def oL : Ob := ⟨[], [], [], [lkA, lkA, lkA]⟩
theorem oL_may : Obj.mayB oL = true := by decide
theorem oL_lens : Lens oL := ⟨fun d hd => (by cases hd), fun x hx => (by
  have : x = lkA := by
    rcases List.mem_cons.1 hx with h | hx
    · exact h
    · rcases List.mem_cons.1 hx with h | hx
      · exact h
      · exact List.mem_singleton.1 hx
  rw [this]; exact ⟨by decide, by decide⟩)⟩
abbrev lrow : Array Value := #[st [], st [97], .int .i64 0, st [], st [97], .int .i64 0, st [], st [97], .int .i64 0]
abbrev ovL (GL : Nat) : Value := .agg #[.slice none 0 0, .slice none 0 0, .slice none 0 0, .slice (some ⟨GL, 0, none⟩) 3 3]
theorem oL_at {w : World} {GL : Nat} {t : TypeId} (h : Blk w GL t lrow) : ObAt w (ovL GL) oL :=
  ⟨_, _, _, _, rfl, LsAt.nil, LsAt.nil, LsAt.nil, kls (f := ul) [lkA, lkA, lkA] h (fun _ => rfl) rfl (by decide)⟩
/-- The links of each section, by ring (3 or 4) and segment (1 to 3). -/
abbrev LF := Nat → Nat → List P4
def sec6 (ρ a : Nat) (l : List P4) : Sc := ⟨3 + ρ, a + 1, a * 4, [], l⟩
def QL (L : LF) : List Sc := [sec6 0 0 (L 0 0), sec6 0 1 (L 0 1), sec6 0 2 (L 0 2), sec6 1 0 (L 1 0), sec6 1 1 (L 1 1), sec6 1 2 (L 1 2)]
def L0 : LF := fun ρ a => faults (3 + ρ) (a + 1) 3
/-- The first n of the six. -/
def Q6 (n : Nat) : List Sc := (QL L0).take n
theorem six {P : Nat → Nat → Prop} (h : P 0 0 ∧ P 0 1 ∧ P 0 2 ∧ P 1 0 ∧ P 1 1 ∧ P 1 2) {ρ a : Nat} (hρ : ρ < 2) (ha : a < 3) : P ρ a := by
  obtain ⟨h1, h2, h3, h4, h5, h6⟩ := h
  rcases (show ρ = 0 ∨ ρ = 1 by omega) with rfl | rfl <;> rcases (show a = 0 ∨ a = 1 ∨ a = 2 by omega) with rfl | rfl | rfl <;> assumption
def freeB (Q : List Sc) (r n x : Nat) : Bool := Q.all fun q => decide (q.ring = r → q.base + q.size ≤ x ∨ x + n ≤ q.base)
theorem freeB_iff {Q : List Sc} {r n x : Nat} : freeB Q r n x = true ↔ FreeQ Q r n x := by
  unfold freeB FreeQ
  rw [List.all_eq_true]
  constructor
  · intro h q hq
    have := h q hq
    exact of_decide_eq_true this
  · intro h q hq
    exact decide_eq_true (h q hq)
theorem minB {Q : List Sc} {r n x : Nat} (h : (List.range x).all (fun y => !freeB Q r n y) = true) : ∀ y, y < x → ¬ FreeQ Q r n y := by
  intro y hy hf
  have := List.all_eq_true.1 h y (List.mem_range.2 hy)
  rw [freeB_iff.2 hf] at this
  cases this
theorem open6 {ρ a : Nat} (hρ : ρ < 2) (ha : a < 3) :
    (findS (Q6 (3 * ρ + a)) (((3 + ρ : Nat) : Int), ((a + 1 : Nat) : Int))).isNone = true ∧ freeB (Q6 (3 * ρ + a)) (3 + ρ) 4 (a * 4) = true ∧ (List.range (a * 4)).all (fun y => !freeB (Q6 (3 * ρ + a)) (3 + ρ) 4 y) = true :=
  six (P := fun ρ a => (findS (Q6 (3 * ρ + a)) (((3 + ρ : Nat) : Int), ((a + 1 : Nat) : Int))).isNone = true ∧ freeB (Q6 (3 * ρ + a)) (3 + ρ) 4 (a * 4) = true ∧ (List.range (a * 4)).all (fun y => !freeB (Q6 (3 * ρ + a)) (3 + ρ) 4 y) = true) (by decide +kernel) hρ ha
theorem next6 {ρ a : Nat} (hρ : ρ < 2) (ha : a < 3) : Q6 (3 * ρ + a) ++ [newSc (3 + ρ) (a + 1) (a * 4) oL] = Q6 (3 * ρ + (a + 1)) :=
  six (P := fun ρ a => Q6 (3 * ρ + a) ++ [newSc (3 + ρ) (a + 1) (a * 4) oL] = Q6 (3 * ρ + (a + 1))) ⟨rfl, rfl, rfl, rfl, rfl, rfl⟩ hρ ha
theorem all6 : Q6 6 = QL L0 := rfl
section
variable {w0 w w' : World} {X b GL : Nat} {T : Nat → Prop}
theorem openL {ρ a : Nat} (h : Lk w0 w X b (Q6 (3 * ρ + a)) T) (hρ : ρ < 2) (ha : a < 3) {t : TypeId} (hT : T GL) (hb : Blk w GL t lrow) :
    Calls Try.prog 10 #[ptr X, .int .i64 ((3 + ρ : Nat) : Int), .int .i64 ((a + 1 : Nat) : Int), ovL GL] w fun e w' => e = .returned (.tuple #[.int .i64 ((a * 4 : Nat) : Int), .int .i64 0]) ∧ Lk w0 w' X b (Q6 (3 * ρ + (a + 1))) T ∧ Same T w w' := by
  obtain ⟨h1, h2, h3⟩ := open6 hρ ha
  have := OpenQ_ok h (r := 3 + ρ) (s := a + 1) (B := a * 4) (by omega) (by omega) (by omega) _ _ _ _ oL (fun W _ hs => oL_at (Blk.of_block hb (hs.2 _ hT))) oL_lens oL_may (Option.isNone_iff_eq_none.1 h1) (show a * 4 + 4 ≤ 256 by omega) (freeB_iff.1 h2) (minB h3)
  rw [next6 hρ ha] at this
  exact this
end
/-- One link in another's place. -/
def upL (L : LF) (ρ a b : Nat) (p : P4) : LF := fun ρ' a' => if ρ' = ρ ∧ a' = a then (L ρ a).set b p else L ρ' a'
theorem QL_set (L : LF) {ρ a b : Nat} {p : P4} (hρ : ρ < 2) (ha : a < 3) : setS (QL L) (setLs (sec6 ρ a (L ρ a)) b p) = QL (upL L ρ a b p) :=
  six (P := fun ρ a => setS (QL L) (setLs (sec6 ρ a (L ρ a)) b p) = QL (upL L ρ a b p)) ⟨rfl, rfl, rfl, rfl, rfl, rfl⟩ hρ ha
theorem QL_mem (L : LF) {ρ a : Nat} (hρ : ρ < 2) (ha : a < 3) : sec6 ρ a (L ρ a) ∈ QL L :=
  six (P := fun ρ a => sec6 ρ a (L ρ a) ∈ QL L) (by simp [QL]) hρ ha
/-- Each has three links. -/
def L3 (L : LF) : Prop := ∀ ρ a, (L ρ a).length = 3
theorem L3.zero : L3 L0 := fun ρ a => by unfold L0; rw [faults_len]
theorem L3.up {L : LF} (h : L3 L) (ρ a b : Nat) (p : P4) : L3 (upL L ρ a b p) := fun ρ' a' => by
  unfold upL
  split
  · rw [List.length_set]; exact h ρ a
  · exact h ρ' a'
/-- What Loose leaves. -/
def loL (s : Int) (L : LF) : LF := fun ρ a => loosed 4 s (sec6 ρ a (L ρ a)) (L ρ a).length
theorem QL_loose (s : Int) (L : LF) : (QL L).map (looseS 4 s) = QL (loL s L) := rfl
theorem L3.lo {L : LF} (h : L3 L) (s : Int) : L3 (loL s L) := fun ρ a => by unfold loL; rw [loosed_len]; exact h ρ a
theorem hit_flt (r s : Int) (q : Sc) (i : Nat) : hitQ r s q (flt q i) = false := by unfold hitQ flt; simp
theorem hit_after {r s : Int} {q : Sc} {p : P4} (hp : p ∈ loosed r s q q.ls.length) : hitQ r s q p = false := by
  obtain ⟨i, hi⟩ := List.getElem?_of_mem hp
  have hl := (List.getElem?_eq_some_iff.1 hi).1
  rw [loosed_len] at hl
  rw [loosed_at (List.getElem?_eq_getElem hl)] at hi
  have e := Option.some.inj hi
  by_cases h : hitQ r s q q.ls[i] = true
  · rw [if_pos ⟨hl, h⟩] at e
    rw [← e]; exact hit_flt r s q i
  · rw [if_neg (fun h2 => h h2.2)] at e
    rw [← e]; simpa using h
theorem again_cnt (s : Int) (L : LF) : ((QL (loL s L)).map (cntS 4 s)).sum = 0 := by
  have h0 : ∀ ρ a, cntS 4 s (sec6 ρ a (loL s L ρ a)) = 0 := fun ρ a => by
    unfold cntS
    rw [List.countP_eq_zero]
    intro p hp
    have := hit_after (r := 4) (s := s) (q := sec6 ρ a (L ρ a)) (p := p) hp
    rw [show hitQ 4 s (sec6 ρ a (loL s L ρ a)) p = hitQ 4 s (sec6 ρ a (L ρ a)) p from rfl, this]
    decide
  show (cntS 4 s (sec6 0 0 _) + (cntS 4 s (sec6 0 1 _) + (cntS 4 s (sec6 0 2 _) + (cntS 4 s (sec6 1 0 _) + (cntS 4 s (sec6 1 1 _) + (cntS 4 s (sec6 1 2 _) + 0)))))) = 0
  rw [h0, h0, h0, h0, h0, h0]
theorem again_same (s : Int) (L : LF) : loL s (loL s L) = loL s L := by
  funext ρ a
  apply List.ext_getElem?
  intro i
  unfold loL
  rw [show loosed 4 s (sec6 ρ a (loosed 4 s (sec6 ρ a (L ρ a)) (L ρ a).length)) (loosed 4 s (sec6 ρ a (L ρ a)) (L ρ a).length).length = (loosed 4 s (sec6 ρ a (L ρ a)) (L ρ a).length).mapIdx (fun i p => if i < (loosed 4 s (sec6 ρ a (L ρ a)) (L ρ a).length).length ∧ hitQ 4 s (sec6 ρ a (L ρ a)) p = true then flt (sec6 ρ a (L ρ a)) i else p) from rfl]
  rw [List.getElem?_mapIdx]
  cases h : (loosed 4 s (sec6 ρ a (L ρ a)) (L ρ a).length)[i]? with
  | none => rfl
  | some p =>
    have := hit_after (r := 4) (s := s) (q := sec6 ρ a (L ρ a)) (p := p) (List.mem_of_getElem? h)
    simp [this]
def Lat (L : LF) (ρ a b : Nat) : P4 := (L ρ a).getD b (0, 0, 0, 0)
def pc (p : P4) : List Value := [.int .i64 (p.1 : Int), .int .i64 (p.2.1 : Int), .int .i64 (p.2.2.1 : Int), .int .i64 (p.2.2.2 : Int)]
section
variable {w w' : World} {L : LF} {GB n ρ a b : Nat} {s : Int}
theorem Lat_at (h : L3 L) (hb : b < 3) : (L ρ a)[b]? = some (Lat L ρ a b) := by
  have hl : b < (L ρ a).length := by rw [h]; exact hb
  unfold Lat
  rw [List.getD_eq_getElem?_getD, List.getElem?_eq_getElem hl]; rfl
/-- The law's own array: its first n points. -/
def Bef (w : World) (GB : Nat) (L : LF) (n : Nat) : Prop :=
  ∃ t arr, Blk w GB t arr ∧ arr.size = 72 ∧ ∀ ρ a b, a < 3 → b < 3 → 9 * ρ + 3 * a + b < n → ∀ j u, (pc (Lat L ρ a b))[j]? = some u → arr[ρ * 36 + a * 12 + b * 4 + j]? = some u
theorem Bef.zero {t : TypeId} {arr : Array Value} (h : Blk w GB t arr) (hs : arr.size = 72) : Bef w GB L 0 := ⟨t, arr, h, hs, fun _ _ _ _ _ h => absurd h (Nat.not_lt_zero _)⟩
theorem Bef.block (h : Bef w GB L n) (hb : w'.heap[GB]? = w.heap[GB]?) : Bef w' GB L n := by
  obtain ⟨t, arr, h1, h2⟩ := h
  exact ⟨t, arr, Blk.of_block h1 hb, h2⟩
theorem Bef.new_ (h : Bef w GB L n) (hn : New w w') : Bef w' GB L n := by
  obtain ⟨t, arr, h1, h2⟩ := h
  exact ⟨t, arr, h1.new_ hn, h2⟩
theorem Bef.lt (h : Bef w GB L n) : GB < w.heap.size := by obtain ⟨t, arr, h1, _⟩ := h; exact h1.lt
theorem Bef.frozen (h : Bef w GB L n) (i : Nat) : w.frozen? ⟨GB, i, none⟩ = false := by obtain ⟨t, arr, h1, _⟩ := h; exact h1.frozen i
theorem Bef.has (h : Bef w GB L n) {i : Nat} (hi : i < 72) : ∃ u, w.cell? ⟨GB, i, none⟩ = some u := by
  obtain ⟨t, arr, h1, h2, _⟩ := h
  exact ⟨arr[i]'(by omega), by rw [h1.cell, Array.getElem?_eq_getElem (by omega)]⟩
theorem Bef.get (h : Bef w GB L n) (ha : a < 3) (hb : b < 3) (hn : 9 * ρ + 3 * a + b < n) : w.cell? ⟨GB, ρ * 36 + a * 12 + b * 4, none⟩ = some (.int .i64 ((Lat L ρ a b).1 : Int)) ∧ w.cell? ⟨GB, ρ * 36 + a * 12 + b * 4 + 1, none⟩ = some (.int .i64 ((Lat L ρ a b).2.1 : Int)) ∧ w.cell? ⟨GB, ρ * 36 + a * 12 + b * 4 + 2, none⟩ = some (.int .i64 ((Lat L ρ a b).2.2.1 : Int)) ∧ w.cell? ⟨GB, ρ * 36 + a * 12 + b * 4 + 3, none⟩ = some (.int .i64 ((Lat L ρ a b).2.2.2 : Int)) := by
  obtain ⟨t, arr, h1, h2, h3⟩ := h
  have h4 := h3 ρ a b ha hb hn
  refine ⟨?_, ?_, ?_, ?_⟩
  · rw [h1.cell]; exact h4 0 _ rfl
  · rw [h1.cell]; exact h4 1 _ rfl
  · rw [h1.cell]; exact h4 2 _ rfl
  · rw [h1.cell]; exact h4 3 _ rfl
theorem Bef.set (h : Bef w GB L n) (hρ : ρ < 2) (ha : a < 3) (hb : b < 3) (hn : n = 9 * ρ + 3 * a + b) :
    Bef ((((w.setCell ⟨GB, ρ * 36 + a * 12 + b * 4, none⟩ (.int .i64 ((Lat L ρ a b).1 : Int))).setCell ⟨GB, ρ * 36 + a * 12 + b * 4 + 1, none⟩ (.int .i64 ((Lat L ρ a b).2.1 : Int))).setCell ⟨GB, ρ * 36 + a * 12 + b * 4 + 2, none⟩ (.int .i64 ((Lat L ρ a b).2.2.1 : Int))).setCell ⟨GB, ρ * 36 + a * 12 + b * 4 + 3, none⟩ (.int .i64 ((Lat L ρ a b).2.2.2 : Int))) GB L (n + 1) := by
  obtain ⟨t, arr, h1, h2, h3⟩ := h
  obtain ⟨o, ho⟩ : ∃ o, o = ρ * 36 + a * 12 + b * 4 := ⟨_, rfl⟩
  rw [← ho]
  refine ⟨t, _, (((h1.set o _).set (o + 1) _).set (o + 2) _).set (o + 3) _, by simp [h2], fun ρ' a' b' ha' hb' hlt j u hu => ?_⟩
  have hj : j < 4 := (List.getElem?_eq_some_iff.1 hu).1
  by_cases e : 9 * ρ' + 3 * a' + b' = n
  · obtain rfl : b' = b := by omega
    obtain rfl : a' = a := by omega
    obtain rfl : ρ' = ρ := by omega
    rw [← ho]
    have ho72 : o + 3 < 72 := by omega
    rcases (show j = 0 ∨ j = 1 ∨ j = 2 ∨ j = 3 by omega) with rfl | rfl | rfl | rfl
    · simp only [pc, List.getElem?_cons_zero, Option.some.injEq] at hu
      subst hu
      simp [Array.getElem?_setIfInBounds, h2]; omega
    · simp only [pc, List.getElem?_cons_zero, List.getElem?_cons_succ, Option.some.injEq] at hu
      subst hu
      simp [Array.getElem?_setIfInBounds, h2]; omega
    · simp only [pc, List.getElem?_cons_zero, List.getElem?_cons_succ, Option.some.injEq] at hu
      subst hu
      simp [Array.getElem?_setIfInBounds, h2]; omega
    · simp only [pc, List.getElem?_cons_zero, List.getElem?_cons_succ, Option.some.injEq] at hu
      subst hu
      simp [Array.getElem?_setIfInBounds, h2]; omega
  · have h4 := h3 ρ' a' b' ha' hb' (by omega) j u hu
    have hne : ∀ k, k < 4 → ¬ o + k = ρ' * 36 + a' * 12 + b' * 4 + j := fun k hk e2 => by omega
    rw [Array.getElem?_setIfInBounds_ne (hne 3 (by omega)), Array.getElem?_setIfInBounds_ne (hne 2 (by omega)), Array.getElem?_setIfInBounds_ne (hne 1 (by omega)), Array.getElem?_setIfInBounds_ne (show ¬ o = ρ' * 36 + a' * 12 + b' * 4 + j from hne 0 (by omega))]
    exact h4
/-- Is the link at this place loosed? -/
def hit6 (s : Int) (L : LF) (ρ a b : Nat) : Bool := decide (ρ = 1) && (decide (((Lat L ρ a b).2.2.1 : Int) = 0) && decide (((Lat L ρ a b).1 : Int) = s))
theorem hit6_eq (s : Int) (L : LF) (ρ a b : Nat) : hitQ 4 s (sec6 ρ a (L ρ a)) (Lat L ρ a b) = hit6 s L ρ a b := by
  unfold hitQ hit6
  congr 1
  show decide (((3 + ρ : Nat) : Int) = 4) = decide (ρ = 1)
  have : (((3 + ρ : Nat) : Int) = 4) ↔ ρ = 1 := by omega
  simp only [this]
def cntN (s : Int) (L : LF) : Nat → Nat
  | 0 => 0
  | n + 1 => cntN s L n + if hit6 s L (n / 9) (n / 3 % 3) (n % 3) = true then 1 else 0
theorem cntN_le (s : Int) (L : LF) : ∀ n, cntN s L n ≤ n
  | 0 => Nat.le_refl _
  | n + 1 => by
    have := cntN_le s L n
    unfold cntN
    split <;> omega
theorem cntN_next (ha : a < 3) (hb : b < 3) (hn : n = 9 * ρ + 3 * a + b) : cntN s L (n + 1) = cntN s L n + if hit6 s L ρ a b = true then 1 else 0 := by
  have e1 : n / 9 = ρ := by omega
  have e2 : n / 3 % 3 = a := by omega
  have e3 : n % 3 = b := by omega
  show cntN s L n + (if hit6 s L (n / 9) (n / 3 % 3) (n % 3) = true then 1 else 0) = _
  rw [e1, e2, e3]
theorem cntS_three (h : L3 L) (ρ a : Nat) : cntS 4 s (sec6 ρ a (L ρ a)) = (if hit6 s L ρ a 0 = true then 1 else 0) + ((if hit6 s L ρ a 1 = true then 1 else 0) + (if hit6 s L ρ a 2 = true then 1 else 0)) := by
  rw [← hit6_eq, ← hit6_eq, ← hit6_eq]
  unfold cntS Lat
  have h3 := h ρ a
  show (L ρ a).countP (hitQ 4 s (sec6 ρ a (L ρ a))) = _
  generalize hitQ 4 s (sec6 ρ a (L ρ a)) = f
  generalize L ρ a = l at h3 ⊢
  match l, h3 with
  | [x, y, z], _ =>
    simp only [List.countP_cons, List.countP_nil, List.getD_cons_zero, List.getD_cons_succ]
    omega
theorem cnt18 (h : L3 L) : cntN s L 18 = ((QL L).map (cntS 4 s)).sum := by
  show _ = (cntS 4 s (sec6 0 0 (L 0 0)) + (cntS 4 s (sec6 0 1 (L 0 1)) + (cntS 4 s (sec6 0 2 (L 0 2)) + (cntS 4 s (sec6 1 0 (L 1 0)) + (cntS 4 s (sec6 1 1 (L 1 1)) + (cntS 4 s (sec6 1 2 (L 1 2)) + 0))))))
  simp only [cntS_three h, cntN, Nat.reduceDiv, Nat.reduceMod]
  simp only [Nat.add_assoc, Nat.zero_add, Nat.add_zero]
/-- What Loose leaves at a place. -/
theorem loL_at (h : L3 L) (hb : b < 3) : (loL s L ρ a)[b]? = some (if hit6 s L ρ a b = true then (a + 1, 3 + ρ, 1, b) else Lat L ρ a b) := by
  unfold loL
  rw [loosed_at (q := sec6 ρ a (L ρ a)) (Lat_at h hb), hit6_eq]
  have hl : b < (L ρ a).length := by rw [h]; exact hb
  simp only [hl, true_and]
  rfl
end
end Go.Proofs.Yteakbhfegbghoaa.Link
