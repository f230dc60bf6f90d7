/- Package linkage: what the heap holds: the struct, the map of sections, the eight areas. -/
import Derived.Test.YteakbhfegbghoaaAl
import Derived.Test.YteakbhfegbghoaaAreaFree
import Derived.Test.YteakbhfegbghoaaPoint
import Derived.DeepKeys3
import Derived.Maps.Keyed
import Derived.Maps.OwnSet
namespace Go.Proofs.Yteakbhfegbghoaa.Link
open Go Go.RowKit Go.ChangeMaps Go.Proofs.Yteakbhfegbghoaa.Kit Go.Proofs.Yteakbhfegbghoaa.Area
set_option linter.unusedSimpArgs false
set_option linter.unusedVariables false
abbrev Key := Int × Int
abbrev Sec := Nat × Nat × Nat
abbrev ek (x : Key) : Value := .agg #[.int .i64 x.1, .int .i64 x.2]
abbrev ev (s : Sec) : Value := .agg #[.int .i64 (s.1 : Int), .int .i64 (s.2.1 : Int), .int .i64 (s.2.2 : Int)]
def okK (x : Key) : Prop := (Lit.int .i64 x.1).wf = true ∧ (Lit.int .i64 x.2).wf = true
theorem keyed : Maps.Keyed Try.prog 94 := Maps.Keyed.of_law (deep_law (m := 2) (by decide) (by kernel_rfl) (by kernel_rfl) (by kernel_rfl))
theorem key_of (x : Key) (h : okK x) : ∃ l, keyOf Try.prog 94 (ek x) = some l := by
  have hk : ∀ d, Try.prog.keyLits (d + 2) 94 [.int .i64 x.1, .int .i64 x.2] = some [.int .i64 x.1, .int .i64 x.2] := by
    intro d
    have h1 : Try.prog.keyLits (d + 1) 3 [.int .i64 x.1] = some [.int .i64 x.1] := by
      unfold Program.keyLits
      rw [Try.underlying3]
      simp [h.1]
    have h2 : Try.prog.keyLits (d + 1) 3 [.int .i64 x.2] = some [.int .i64 x.2] := by
      unfold Program.keyLits
      rw [Try.underlying3]
      simp [h.2]
    have c1 : Try.prog.cellsOf 3 = 1 := by kernel_rfl
    rw [Program.keyLits.eq_def]
    dsimp only
    rw [Try.underlying94]
    dsimp only
    rw [if_pos ⟨by kernel_rfl, by kernel_rfl⟩]
    simp [c1, h1, h2]
  unfold keyOf
  rw [Try.underlying94]
  dsimp only
  rw [if_pos (by kernel_rfl)]
  obtain ⟨d, hd⟩ : ∃ d, Try.prog.types.size + 1 = d + 2 := ⟨Try.prog.types.size - 1, by kernel_rfl⟩
  rw [hd]
  exact ⟨_, by rw [show (ek x).cells.toList = [.int .i64 x.1, .int .i64 x.2] from rfl, hk]; rfl⟩
theorem inj (L : List (Key × Sec)) : ∀ p ∈ L, ∀ x, ek p.1 = ek x → p.1 = x := by
  intro p _ x h
  simp only [ek, Value.agg.injEq] at h
  have h1 := congrArg Array.toList h
  simp at h1
  exact Prod.ext h1.1 h1.2
abbrev ptr (a : Nat) : Value := .pointer (some ⟨a, 0, none⟩)
/-- The struct's cells. -/
def lcells (A : Nat → Nat) (b : Nat) : Array Value := #[ptr (A 0), ptr (A 1), ptr (A 2), ptr (A 3), ptr (A 4), ptr (A 5), ptr (A 6), ptr (A 7), .map (some b)]
/-- What belongs to it. -/
def Foot (X b : Nat) (S : Nat → Nat → Prop) (k : Nat) : Prop := k = X ∨ k = b ∨ ∃ r, r < 8 ∧ S r k
structure Op (w : World) (X b : Nat) (A : Nat → Nat) (S : Nat → Nat → Prop) (ms : Nat → Ms) (M : List (Key × Sec)) : Prop where
  blk : Blk w X 84 (lcells A b)
  map : MapOf ek ev w b M
  area : ∀ r, r < 8 → OwnA w (A r) 256 (S r) (ms r)
  apart : ∀ r s, r < 8 → s < 8 → r ≠ s → ∀ k, S r k → ¬ S s k
  out : ∀ r, r < 8 → ¬ S r X ∧ ¬ S r b
  keys : ∀ p ∈ M, okK p.1
def upd {α : Type} (f : Nat → α) (r : Nat) (x : α) : Nat → α := fun s => if s = r then x else f s
theorem upd_same {α : Type} (f : Nat → α) (r : Nat) (x : α) : upd f r x r = x := if_pos rfl
theorem upd_ne {α : Type} (f : Nat → α) {r s : Nat} (x : α) (h : s ≠ r) : upd f r x s = f s := if_neg h
section
variable {w0 w w' : World} {X b : Nat} {A : Nat → Nat} {S : Nat → Nat → Prop} {ms : Nat → Ms} {M M' : List (Key × Sec)} {T : Nat → Prop}
theorem Op.ne (h : Op w X b A S ms M) : X ≠ b := MapIs.ne_blk h.map h.blk
theorem Op.new_ (h : Op w X b A S ms M) (hn : New w w') : Op w' X b A S ms M :=
  ⟨h.blk.new_ hn, MapIs.of_block h.map (hn.block b h.map.lt), fun r hr => (h.area r hr).new_ hn, h.apart, h.out, h.keys⟩
theorem Op.lt (h : Op w X b A S ms M) {k : Nat} (hk : Foot X b S k) : k < w.heap.size := by
  rcases hk with rfl | rfl | ⟨r, hr, hk⟩
  · exact h.blk.lt
  · exact MapIs.lt h.map
  · exact (h.area r hr).lt hk
theorem Op.keysOf (h : Op w X b A S ms M) : ∀ p ∈ M, ∃ l, keyOf Try.prog 94 (ek p.1) = some l := fun p hp => key_of p.1 (h.keys p hp)
theorem Op.cellA (h : Op w X b A S ms M) {r : Nat} (hr : r < 8) : w.cell? ⟨X, r, none⟩ = some (ptr (A r)) := by
  rw [h.blk.cell]
  match r, hr with
  | 0, _ => rfl | 1, _ => rfl | 2, _ => rfl | 3, _ => rfl | 4, _ => rfl | 5, _ => rfl | 6, _ => rfl | 7, _ => rfl
theorem Op.cellM (h : Op w X b A S ms M) : w.cell? ⟨X, 8, none⟩ = some (.map (some b)) := by
  rw [h.blk.cell]; rfl
/-- One area has turned. -/
theorem Op.turn (h : Op w X b A S ms M) {r : Nat} (hr : r < 8) {m' : Ms} (ht : Turned w w' (A r) 256 (S r) m') :
    ∃ S', Op w' X b A S' (upd ms r m') M ∧ Keeps (S r) w w' ∧ ∀ k, Foot X b S' k → Foot X b S k ∨ w.heap.size ≤ k := by
  obtain ⟨R, q1, q2, q3⟩ := ht
  have hout := h.out r hr
  refine ⟨upd S r R, ⟨h.blk.keeps q2 hout.1, MapIs.keeps h.map q2 hout.2, fun s hs => ?_, fun s t hs ht hst k hk hk2 => ?_, fun s hs => ?_, h.keys⟩, q2, fun k hk => ?_⟩
  · by_cases e : s = r
    · subst e; rw [upd_same, upd_same]; exact q1
    · rw [upd_ne _ _ e, upd_ne _ _ e]
      exact (h.area s hs).keeps q2 (fun k hk hk2 => h.apart s r hs hr e k hk hk2)
  · by_cases e : s = r
    · subst e
      rw [upd_same] at hk
      rw [upd_ne _ _ (Ne.symm hst)] at hk2
      rcases q3 k hk with h1 | h1
      · exact h.apart s t hs ht hst k h1 hk2
      · have := (h.area t ht).lt hk2; omega
    · rw [upd_ne _ _ e] at hk
      by_cases e2 : t = r
      · subst e2
        rw [upd_same] at hk2
        rcases q3 k hk2 with h1 | h1
        · exact h.apart s t hs ht hst k hk h1
        · have := (h.area s hs).lt hk; omega
      · rw [upd_ne _ _ e2] at hk2
        exact h.apart s t hs ht hst k hk hk2
  · by_cases e : s = r
    · subst e
      rw [upd_same]
      refine ⟨fun hk => ?_, fun hk => ?_⟩
      · rcases q3 _ hk with h1 | h1
        · exact hout.1 h1
        · have := h.blk.lt; omega
      · rcases q3 _ hk with h1 | h1
        · exact hout.2 h1
        · have := MapIs.lt h.map; omega
    · rw [upd_ne _ _ e]; exact h.out s hs
  · rcases hk with hk | hk | ⟨s, hs, hk⟩
    · exact .inl (.inl hk)
    · exact .inl (.inr (.inl hk))
    · by_cases e : s = r
      · subst e
        rw [upd_same] at hk
        rcases q3 k hk with h1 | h1
        · exact .inl (.inr (.inr ⟨s, hs, h1⟩))
        · exact .inr h1
      · rw [upd_ne _ _ e] at hk
        exact .inl (.inr (.inr ⟨s, hs, hk⟩))
/-- The map has turned. -/
theorem Op.setMap (h : Op w X b A S ms M) {o : Obj} (hm : MapOf ek ev (setBlock w b o) b M') (hk : ∀ p ∈ M', okK p.1) : Op (setBlock w b o) X b A S ms M' := by
  have hkp : Keeps (fun k => k = b) w (setBlock w b o) := Keeps.setBlock (F := fun i => i = b) (Keeps.refl _ _) (.inr rfl) _
  exact ⟨h.blk.keeps hkp h.ne, hm, fun r hr => (h.area r hr).keeps hkp (fun k hs e => (h.out r hr).2 (e ▸ hs)), h.apart, h.out, hk⟩
/-- All of it has come up since w0; beside it the blocks of T. -/
def LkO (w0 w : World) (X b : Nat) (A : Nat → Nat) (ms : Nat → Ms) (M : List (Key × Sec)) (T : Nat → Prop) : Prop :=
  ∃ S, Op w X b A S ms M ∧ New w0 w ∧ (∀ k, Foot X b S k → w0.heap.size ≤ k) ∧ ∀ k, T k → ¬ Foot X b S k ∧ k < w.heap.size ∧ w0.heap.size ≤ k
theorem LkO.new_ (h : LkO w0 w X b A ms M T) (hn : New w w') : LkO w0 w' X b A ms M T := by
  obtain ⟨S, h1, h2, h3, h4⟩ := h
  exact ⟨S, h1.new_ hn, h2.step hn, h3, fun k hk => ⟨(h4 k hk).1, Nat.lt_of_lt_of_le (h4 k hk).2.1 hn.size, (h4 k hk).2.2⟩⟩
theorem LkO.new (h : LkO w0 w X b A ms M T) : New w0 w := by obtain ⟨S, h1, h2, h3, h4⟩ := h; exact h2
theorem LkO.ltT (h : LkO w0 w X b A ms M T) {k : Nat} (hk : T k) : k < w.heap.size := by obtain ⟨S, h1, h2, h3, h4⟩ := h; exact (h4 k hk).2.1
theorem LkO.less {T' : Nat → Prop} (h : LkO w0 w X b A ms M T) (hT : ∀ k, T' k → T k) : LkO w0 w X b A ms M T' := by
  obtain ⟨S, h1, h2, h3, h4⟩ := h
  exact ⟨S, h1, h2, h3, fun k hk => h4 k (hT k hk)⟩
theorem LkO.cellA (h : LkO w0 w X b A ms M T) {r : Nat} (hr : r < 8) : w.cell? ⟨X, r, none⟩ = some (ptr (A r)) := by obtain ⟨S, h1, _⟩ := h; exact h1.cellA hr
theorem LkO.cellM (h : LkO w0 w X b A ms M T) : w.cell? ⟨X, 8, none⟩ = some (.map (some b)) := by obtain ⟨S, h1, _⟩ := h; exact h1.cellM
theorem LkO.map (h : LkO w0 w X b A ms M T) : MapOf ek ev w b M := by obtain ⟨S, h1, _⟩ := h; exact h1.map
theorem LkO.keys (h : LkO w0 w X b A ms M T) : ∀ p ∈ M, okK p.1 := by obtain ⟨S, h1, _⟩ := h; exact h1.keys
theorem LkO.keysOf (h : LkO w0 w X b A ms M T) : ∀ p ∈ M, ∃ l, keyOf Try.prog 94 (ek p.1) = some l := by obtain ⟨S, h1, _⟩ := h; exact h1.keysOf
/-- One area's call. -/
theorem LkO.turned (h1 : Op w X b A S ms M) (h2 : New w0 w) (h3 : ∀ k, Foot X b S k → w0.heap.size ≤ k) (h4 : ∀ k, T k → ¬ Foot X b S k ∧ k < w.heap.size ∧ w0.heap.size ≤ k) {r : Nat} (hr : r < 8) {m' : Ms} (ht : Turned w w' (A r) 256 (S r) m') :
    LkO w0 w' X b A (upd ms r m') M T ∧ Same (fun k => T k ∨ k = b) w w' := by
  obtain ⟨S', q1, q2, q3⟩ := h1.turn hr ht
  refine ⟨⟨S', q1, h2.kept q2 (fun k hk => h3 k (.inr (.inr ⟨r, hr, hk⟩))), fun k hk => ?_, fun k hk => ⟨fun hz => ?_, Nat.lt_of_lt_of_le (h4 k hk).2.1 q2.size, (h4 k hk).2.2⟩⟩, q2.size, fun k hk => ?_⟩
  · rcases q3 k hk with h | h
    · exact h3 k h
    · exact Nat.le_trans h2.size h
  · rcases q3 k hz with h | h
    · exact (h4 k hk).1 h
    · have := (h4 k hk).2.1; omega
  · rcases hk with hk | rfl
    · exact q2.block k (h4 k hk).2.1 (fun hz => (h4 k hk).1 (.inr (.inr ⟨r, hr, hz⟩)))
    · exact q2.block k (MapIs.lt h1.map) (h1.out r hr).2
theorem takeL (h : LkO w0 w X b A ms M T) {r : Nat} (hr : r < 8) (n : Int) :
    Calls Try.prog 33 #[ptr (A r), .int .i64 n] w fun e w' => e = .returned (.tuple #[.int .i64 (takeB 256 (ms r) n), .int .i64 (takeE 256 (ms r) n)]) ∧ LkO w0 w' X b A (upd ms r (takeM 256 (ms r) n)) M T ∧ Same (fun k => T k ∨ k = b) w w' := by
  obtain ⟨S, h1, h2, h3, h4⟩ := h
  exact (takeA w (A r) 256 (S r) (ms r) (h1.area r hr) (by decide) n).mono fun e w' h => ⟨h.1, LkO.turned h1 h2 h3 h4 hr h.2⟩
theorem giveL (h : LkO w0 w X b A ms M T) {r : Nat} (hr : r < 8) (x : Int) :
    Calls Try.prog 36 #[ptr (A r), .int .i64 x] w fun e w' => e = .returned (.bool (findM (ms r) x).isSome) ∧ LkO w0 w' X b A (upd ms r (giveM (ms r) x)) M T ∧ Same (fun k => T k ∨ k = b) w w' := by
  obtain ⟨S, h1, h2, h3, h4⟩ := h
  exact (giveA w (A r) 256 (S r) (ms r) (h1.area r hr) (by decide) x).mono fun e w' h => ⟨h.1, LkO.turned h1 h2 h3 h4 hr h.2⟩
theorem writeL (h : LkO w0 w X b A ms M T) {r : Nat} (hr : r < 8) (x off y : Int) :
    Calls Try.prog 45 #[ptr (A r), .int .i64 x, .int .i64 off, .int .u64 y] w fun e w' => e = .returned (.int .i64 (readEM (ms r) x off)) ∧ LkO w0 w' X b A (upd ms r (writeM (ms r) x off (cutW y))) M T ∧ Same (fun k => T k ∨ k = b) w w' := by
  obtain ⟨S, h1, h2, h3, h4⟩ := h
  exact (writeA w (A r) 256 (S r) (ms r) (h1.area r hr) (by decide) x off y).mono fun e w' h => ⟨h.1, LkO.turned h1 h2 h3 h4 hr ⟨S r, h.2.1, h.2.2, fun _ h => .inl h⟩⟩
theorem readL (h : LkO w0 w X b A ms M T) {r : Nat} (hr : r < 8) (x off : Int) :
    Calls Try.prog 42 #[ptr (A r), .int .i64 x, .int .i64 off] w fun e w' => e = .returned (.tuple #[.int .u64 (readWM (ms r) x off), .int .i64 (readEM (ms r) x off)]) ∧ New w w' := by
  obtain ⟨S, h1, h2, h3, h4⟩ := h
  exact readA w (A r) 256 (S r) (ms r) (h1.area r hr) (by decide) x off
theorem usedL (h : LkO w0 w X b A ms M T) {r : Nat} (hr : r < 8) :
    Calls Try.prog 37 #[ptr (A r)] w fun e w' => e = .returned (.int .i64 (usedM (ms r) : Int)) ∧ New w w' := by
  obtain ⟨S, h1, h2, h3, h4⟩ := h
  exact usedA w (A r) 256 (S r) (ms r) (h1.area r hr) (by decide)
theorem LkO.good (h : LkO w0 w X b A ms M T) {r : Nat} (hr : r < 8) : Area.Good 256 (ms r) := by
  obtain ⟨S, h1, _⟩ := h
  exact (h1.area r hr).good
theorem LkO.first (h : LkO w0 w X b A ms M T) {r : Nat} (hr : r < 8) (n : Nat) : Free (ms r) n (fitG (n : Int) 0 (ms r)).2 ∧ ∀ y, y < (fitG (n : Int) 0 (ms r)).2 → ¬ Free (ms r) n y := by
  obtain ⟨S, h1, h2, h3, h4⟩ := h
  exact With.first (w0 := w0) (w := w) (A := A r) (N := 256) (T := fun _ => False) ⟨S r, h1.area r hr, h2, fun k hk => h3 k (.inr (.inr ⟨r, hr, hk⟩)), fun k hk => hk.elim⟩
theorem LkO.own (h : LkO w0 w X b A ms M T) {r : Nat} (hr : r < 8) : ∃ S, OwnA w (A r) 256 S (ms r) := by obtain ⟨S, h1, _⟩ := h; exact ⟨_, h1.area r hr⟩
theorem LkO.setMap (h : LkO w0 w X b A ms M T) {o : Obj} (hm : MapOf ek ev (setBlock w b o) b M') (hk : ∀ p ∈ M', okK p.1) : LkO w0 (setBlock w b o) X b A ms M' T ∧ Same T w (setBlock w b o) := by
  obtain ⟨S, h1, h2, h3, h4⟩ := h
  have hkp : Keeps (fun k => k = b) w (setBlock w b o) := Keeps.setBlock (F := fun i => i = b) (Keeps.refl _ _) (.inr rfl) _
  refine ⟨⟨S, h1.setMap hm hk, h2.kept hkp (fun k e => h3 k (.inr (.inl e))), h3, fun k hk => ⟨(h4 k hk).1, Nat.lt_of_lt_of_le (h4 k hk).2.1 hkp.size, (h4 k hk).2.2⟩⟩, hkp.size, fun k hk => hkp.block k (h4 k hk).2.1 (fun e => (h4 k hk).1 (.inr (.inl e)))⟩
/-- The caller has written its own blocks alone, and laid new ones. -/
theorem LkO.kept {T' : Nat → Prop} (h : LkO w0 w X b A ms M T) (hk : Keeps T w w') (hT : ∀ k, T' k → (T k ∨ w.heap.size ≤ k) ∧ k < w'.heap.size) : LkO w0 w' X b A ms M T' := by
  obtain ⟨S, h1, h2, h3, h4⟩ := h
  have nT : ∀ k, Foot X b S k → ¬ T k := fun k hf ht => (h4 k ht).1 hf
  refine ⟨S, ⟨h1.blk.keeps hk (nT _ (.inl rfl)), MapIs.keeps h1.map hk (nT _ (.inr (.inl rfl))), fun r hr => (h1.area r hr).keeps hk (fun k hs => nT k (.inr (.inr ⟨r, hr, hs⟩))), h1.apart, h1.out, h1.keys⟩, h2.kept hk (fun k hk => (h4 k hk).2.2), h3, fun k hk' => ?_⟩
  rcases (hT k hk').1 with h | h
  · exact ⟨(h4 k h).1, (hT k hk').2, (h4 k h).2.2⟩
  · exact ⟨fun hs => absurd (h1.lt hs) (by omega), (hT k hk').2, Nat.le_trans h2.size h⟩
theorem LkO.box (h : LkO w0 w X b A ms M T) (o : Obj) : LkO w0 (w.alloc o) X b A ms M (fun k => T k ∨ k = w.heap.size) :=
  h.kept ((Keeps.refl _ w).alloc o) (fun k hk => by
    rw [World.size_alloc]
    rcases hk with hk | rfl
    · exact ⟨.inl hk, Nat.lt_succ_of_lt (h.ltT hk)⟩
    · exact ⟨.inr (Nat.le_refl _), Nat.lt_succ_self _⟩)
theorem Same.refl (T : Nat → Prop) (w : World) : Same T w w := ⟨Nat.le_refl _, fun _ _ => rfl⟩
theorem Same.trans {w1 w2 w3 : World} (h : Same T w1 w2) (k : Same T w2 w3) : Same T w1 w3 := ⟨Nat.le_trans h.1 k.1, fun i hi => (k.2 i hi).trans (h.2 i hi)⟩
theorem Same.less {T' : Nat → Prop} (h : Same T w w') (hT : ∀ k, T' k → T k) : Same T' w w' := ⟨h.1, fun k hk => h.2 k (hT k hk)⟩
theorem Same.ofNew (hn : New w w') (hT : ∀ k, T k → k < w.heap.size) : Same T w w' := ⟨hn.size, fun k hk => hn.block k (hT k hk)⟩
theorem LkO.after {w4 w5 : World} {T' : Nat → Prop} (h : LkO w0 w X b A ms M T) (hn : New w w4) (s : Same T' w4 w5) (hT : ∀ k, T k ∨ k = b → T' k) : Same (fun k => T k ∨ k = b) w w5 :=
  Same.trans (Same.ofNew hn (fun k hk => hk.elim h.ltT (fun e => e ▸ MapIs.lt h.map))) (Same.less s hT)
end
end Go.Proofs.Yteakbhfegbghoaa.Link
