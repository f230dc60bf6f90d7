/- My own kit: what a call may change (Keeps), blocks that are known whole (Blk), maps as association lists (MapOf). Plain laws over any program. -/
import Derived.Maps.Keyed
import Derived.Carry
import Derived.OwnWalk
import Derived.WalkKit
import Derived.Deep.Draws
import Derived.Deep.QuietTactic
import Derived.BigQuiet
import Derived.Deep.RegionHeld3
import Derived.Deep.OwnRows
import Derived.Deep.RegionLaw
namespace Go.Proofs.Yteakbhfegbghoaa.Kit
open Go Go.RowKit Go.MapKept Go.Maps
open Go.ChangeMaps (setBlock heap_setBlock_same heap_setBlock_other)
set_option linter.unusedSimpArgs false
set_option linter.unusedVariables false

theorem hid {p : Prop} (h : p) : Hid p := h
theorem wf_u64 {a : Int} (h : (Lit.int .u64 a).wf = true) : 0 ≤ a ∧ a < 18446744073709551616 := by
  have h1 : IntKind.u64.min = 0 := rfl
  have h2 : IntKind.u64.max = 18446744073709551615 := rfl
  simp only [Lit.wf, Bool.and_eq_true, decide_eq_true_eq] at h
  omega
theorem wf_u8 {a : Int} (h : (Lit.int .u8 a).wf = true) : 0 ≤ a ∧ a < 256 := by
  have h1 : IntKind.u8.min = 0 := rfl
  have h2 : IntKind.u8.max = 255 := rfl
  simp only [Lit.wf, Bool.and_eq_true, decide_eq_true_eq] at h
  omega
theorem wf_u16 {a : Int} (h : (Lit.int .u16 a).wf = true) : 0 ≤ a ∧ a < 65536 := by
  have h1 : IntKind.u16.min = 0 := rfl
  have h2 : IntKind.u16.max = 65535 := rfl
  simp only [Lit.wf, Bool.and_eq_true, decide_eq_true_eq] at h
  omega
theorem wf_i64 {a : Int} (h : (Lit.int .i64 a).wf = true) : -9223372036854775808 ≤ a ∧ a ≤ 9223372036854775807 := by
  have h1 : IntKind.i64.min = -9223372036854775808 := rfl
  have h2 : IntKind.i64.max = 9223372036854775807 := rfl
  simp only [Lit.wf, Bool.and_eq_true, decide_eq_true_eq] at h
  omega

theorem ret_bool {a b : Bool} (h : a = b) : Ending.returned (.bool a) = .returned (.bool b) := by rw [h]
theorem ret_i {k : IntKind} {a b : Int} (h : a = b) : Ending.returned (.int k a) = .returned (.int k b) := by rw [h]
theorem ret_ii {k j : IntKind} {a b c d : Int} (h : a = b) (h' : c = d) : Ending.returned (.tuple #[.int k a, .int j c]) = .returned (.tuple #[.int k b, .int j d]) := by rw [h, h']
theorem ret_val {a b : Value} (h : a = b) : Ending.returned a = .returned b := by rw [h]

/-- Only blocks of F, and new ones, may differ. -/
structure Keeps (F : Nat → Prop) (w w' : World) : Prop where
  os : w'.os = w.os
  tape : w'.tape = w.tape
  output : w'.output = w.output
  size : w.heap.size ≤ w'.heap.size
  block : ∀ i, i < w.heap.size → ¬ F i → w'.heap[i]? = w.heap[i]?

section
variable {F G : Nat → Prop} {a b c w w' : World}
theorem Keeps.refl (F : Nat → Prop) (w : World) : Keeps F w w := ⟨rfl, rfl, rfl, Nat.le_refl _, fun _ _ _ => rfl⟩
theorem Keeps.trans (h : Keeps F a b) (k : Keeps G b c) (hG : ∀ i, i < a.heap.size → G i → F i) : Keeps F a c :=
  ⟨k.os.trans h.os, k.tape.trans h.tape, k.output.trans h.output, Nat.le_trans h.size k.size,
    fun i hi hn => (k.block i (Nat.lt_of_lt_of_le hi h.size) (fun g => hn (hG i hi g))).trans (h.block i hi hn)⟩
theorem Keeps.mono (h : Keeps F a b) (hF : ∀ i, i < a.heap.size → F i → G i) : Keeps G a b :=
  ⟨h.os, h.tape, h.output, h.size, fun i hi hn => h.block i hi (fun f => hn (hF i hi f))⟩
theorem Keeps.drew (h : Keeps F a w) : Keeps F a w.drew := ⟨h.os, h.tape, h.output, h.size, h.block⟩
theorem Keeps.drewN (h : Keeps F a w) (n : Nat) : Keeps F a (w.drewN n) := ⟨h.os, h.tape, h.output, h.size, h.block⟩
theorem Keeps.alloc (h : Keeps F a w) (o : Obj) : Keeps F a (w.alloc o) :=
  ⟨h.os, h.tape, h.output, by have := h.size; simp; omega, fun i hi hn => (Below.heap_alloc w o i (by have := h.size; omega)).trans (h.block i hi hn)⟩
theorem Keeps.setCell (h : Keeps F a w) {p : Addr} (hp : a.heap.size ≤ p.block ∨ F p.block) (u : Value) : Keeps F a (w.setCell p u) :=
  ⟨h.os, h.tape, h.output, by have := h.size; simpa [World.setCell] using this, fun i hi hn => (Below.heap_setCell w p u i (by
    rintro rfl
    rcases hp with hp | hp
    · omega
    · exact hn hp)).trans (h.block i hi hn)⟩
theorem Keeps.setBlock (h : Keeps F a w) {g : Nat} (hp : a.heap.size ≤ g ∨ F g) (o : Obj) : Keeps F a (setBlock w g o) :=
  ⟨h.os, h.tape, h.output, by have := h.size; simpa [Go.ChangeMaps.setBlock] using this, fun i hi hn => by
    have hne : g ≠ i := by
      rintro rfl
      rcases hp with hp | hp
      · omega
      · exact hn hp
    rw [← h.block i hi hn]
    simp [Go.ChangeMaps.setBlock, hne]⟩
theorem Keeps.grown (h : Keeps F a w) {row : Option Nat} (hg : w.grownBy w' row) (hr : ∀ k, row = some k → a.heap.size ≤ k ∨ F k) : Keeps F a w' :=
  ⟨hg.os.trans h.os, hg.tape.trans h.tape, hg.output.trans h.output, Nat.le_trans h.size hg.size, fun i hi hn => (hg.block i (by have := h.size; omega) (fun e => by
    rcases hr i e.symm with hp | hp
    · omega
    · exact hn hp)).trans (h.block i hi hn)⟩
theorem Keeps.of_below {B : Nat} (h : Below B w w') : Keeps (fun i => B ≤ i) w w' :=
  ⟨h.os, h.tape, h.output, h.size, fun i _ hn => h.block i (by omega)⟩
theorem Keeps.of_below' (h : Below w.heap.size w w') (F : Nat → Prop) : Keeps F w w' :=
  ⟨h.os, h.tape, h.output, h.size, fun i hi _ => h.block i hi⟩
theorem Keeps.below {B : Nat} (h : Keeps F w w') (hB : B ≤ w.heap.size) (hF : ∀ i, i < B → ¬ F i) : Below B w w' :=
  ⟨h.os, h.tape, h.output, h.size, fun i hi => h.block i (by omega) (hF i hi)⟩
theorem Keeps.cell (h : Keeps F w w') {p : Addr} {v : Value} (hc : w.cell? p = some v) (hn : ¬ F p.block) : w'.cell? p = some v :=
  (World.cell?_of_block (h.block p.block (World.block_lt_of_cell? w p hc) hn)).trans hc
end

/-- Block g is just the cells cs of element type t, none frozen. -/
def Blk (w : World) (g : Nat) (t : TypeId) (cs : Array Value) : Prop := w.heap[g]? = some (.cells cs t (0, 0))
section
variable {w w' : World} {g : Nat} {t : TypeId} {cs : Array Value}
theorem Blk.lt (h : Blk w g t cs) : g < w.heap.size := (Array.getElem?_eq_some_iff.1 h).1
theorem Blk.of_block (h : Blk w g t cs) (hb : w'.heap[g]? = w.heap[g]?) : Blk w' g t cs := hb.trans h
theorem Blk.cell (h : Blk w g t cs) (i : Nat) : w.cell? ⟨g, i, none⟩ = cs[i]? := by
  unfold Blk at h
  simp [World.cell?, h]
theorem Blk.frozen (h : Blk w g t cs) (i : Nat) : w.frozen? ⟨g, i, none⟩ = false := by
  unfold Blk at h
  simp [World.frozen?, h]
theorem Blk.drew (h : Blk w g t cs) : Blk w.drew g t cs := h
theorem Blk.drewN (h : Blk w g t cs) (n : Nat) : Blk (w.drewN n) g t cs := h
theorem Blk.new (w : World) (t : TypeId) (cs : Array Value) : Blk (w.alloc (.cells cs t)) w.heap.size t cs := heap_alloc_new w _
theorem Blk.alloc (h : Blk w g t cs) (o : Obj) : Blk (w.alloc o) g t cs := (Below.heap_alloc w o g h.lt).trans h
theorem Blk.set (h : Blk w g t cs) (i : Nat) (u : Value) : Blk (w.setCell ⟨g, i, none⟩ u) g t (cs.setIfInBounds i u) := by
  unfold Blk at h ⊢
  simp [World.setCell, Array.getElem?_modify, h]
theorem Blk.far (h : Blk w g t cs) {p : Addr} (hp : g ≠ p.block) (u : Value) : Blk (w.setCell p u) g t cs := (Below.heap_setCell w p u g hp).trans h
theorem Blk.farBlock (h : Blk w g t cs) {p : Nat} (hp : p ≠ g) (o : Obj) : Blk (setBlock w p o) g t cs := by
  unfold Blk at h ⊢
  rw [← h]
  simp [Go.ChangeMaps.setBlock, hp]
theorem Blk.keeps {F : Nat → Prop} (h : Blk w g t cs) (hk : Keeps F w w') (hn : ¬ F g) : Blk w' g t cs := (hk.block g h.lt hn).trans h
end

theorem size_drewN (w : World) (n : Nat) : (w.drewN n).heap.size = w.heap.size := rfl
theorem size_drew (w : World) : w.drew.heap.size = w.heap.size := rfl
theorem size_setCell (w : World) (p : Addr) (u : Value) : (w.setCell p u).heap.size = w.heap.size := by simp [World.setCell]
/-- The built-in max and min of two whole numbers, under names that simp does not part on. -/
def mxZ (a b : Int) : Int := max a b
def mnZ (a b : Int) : Int := min a b
theorem max_i (ats : Array TypeId) (ty : TypeId) (k k' : IntKind) (x y : Int) : Builtin.max_ ats ty #[.int k x, .int k' y] = pure (.int k (mxZ x y)) := by
  have e : (if x < y then y else x) = mxZ x y := by unfold mxZ; split <;> omega
  have h : Builtin.max2 (.int k x) (.int k' y) = pure (.int k (if x < y then y else x)) := by simp only [Builtin.max2, gt_iff_lt]
  simp only [Builtin.max_, List.foldlM_cons, List.foldlM_nil, h, e]
  rfl
theorem min_i (ats : Array TypeId) (ty : TypeId) (k k' : IntKind) (x y : Int) : Builtin.min_ ats ty #[.int k x, .int k' y] = pure (.int k (mnZ x y)) := by
  have e : (if y < x then y else x) = mnZ x y := by unfold mnZ; split <;> omega
  have h : Builtin.min2 (.int k x) (.int k' y) = pure (.int k (if y < x then y else x)) := by simp only [Builtin.min2]
  simp only [Builtin.min_, List.foldlM_cons, List.foldlM_nil, h, e]
  rfl
/-- Nothing that was there has changed; there may be new blocks. -/
def New (w w' : World) : Prop := Below w.heap.size w w'
section
variable {w w1 w2 : World}
theorem New.refl (w : World) : New w w := Below.refl _ _
theorem New.step (h : New w w1) (k : New w1 w2) : New w w2 := Below.trans h (Below.mono k (Below.size h))
theorem New.alloc (h : New w w1) (o : Obj) : New w (w1.alloc o) := Below.alloc h (Below.size h) o
theorem New.drew (h : New w w1) : New w w1.drew := Below.drew h
theorem New.drewN (h : New w w1) (n : Nat) : New w (w1.drewN n) := ⟨h.os, h.tape, h.output, h.size, h.block⟩
theorem New.setCell (h : New w w1) {p : Addr} (hp : w.heap.size ≤ p.block) (u : Value) : New w (w1.setCell p u) := Below.setCell h hp u
theorem New.grown (h : New w w1) {row : Option Nat} (hg : w1.grownBy w2 row) (hr : ∀ k, row = some k → w.heap.size ≤ k) : New w w2 := Below.grown h hg (Below.size h) hr
theorem New.size (h : New w w1) : w.heap.size ≤ w1.heap.size := Below.size h
theorem New.kept (h : New w w1) {F : Nat → Prop} (k : Keeps F w1 w2) (hF : ∀ i, F i → w.heap.size ≤ i) : New w w2 :=
  ⟨k.os.trans h.os, k.tape.trans h.tape, k.output.trans h.output, Nat.le_trans h.size k.size, fun i hi => (k.block i (Nat.lt_of_lt_of_le hi h.size) (fun f => by have := hF i f; omega)).trans (h.block i hi)⟩
theorem New.below (h : New w w1) : Below w.heap.size w w1 := h
theorem New.keeps (h : New w w1) (F : Nat → Prop) : Keeps F w w1 := Keeps.of_below' h F
theorem New.cells (h : New w w1) : (∀ b o, b < w.heap.size → w1.cell? ⟨b, o, none⟩ = w.cell? ⟨b, o, none⟩) ∧ (∀ b o, b < w.heap.size → w1.frozen? ⟨b, o, none⟩ = w.frozen? ⟨b, o, none⟩) :=
  ⟨fun b o hb => Below.cell (p := ⟨b, o, none⟩) h hb, fun b o hb => Below.frozen (p := ⟨b, o, none⟩) h hb⟩
theorem New.cellK (h : New w w1) {p : Addr} {v : Value} (hc : w.cell? p = some v) : w1.cell? p = some v :=
  (Below.cell (p := p) h (World.block_lt_of_cell? w p hc)).trans hc
theorem New.grows (h : New w w1) : ∀ x, x < w.heap.size → x < w1.heap.size := fun x hx => Nat.lt_of_lt_of_le hx h.size
theorem Blk.new_ {g : Nat} {t : TypeId} {cs : Array Value} (h : Blk w g t cs) (k : New w w1) : Blk w1 g t cs := (k.block g h.lt).trans h
end
/-- Behind a call that wrote nothing old, the box that was just laid reads as it did. -/
theorem boxed {w w1 : World} {cs : Array Value} {t : TypeId} (hb : Below (w.alloc (.cells cs t)).heap.size (w.alloc (.cells cs t)) w1) : ∀ i, w1.cell? ⟨w.heap.size, i, none⟩ = cs[i]? := by
  intro i
  rw [hb.cell (by simp)]
  exact (Blk.new w t cs).cell i
theorem Blk.below {w w' : World} {g : Nat} {t : TypeId} {cs : Array Value} {B : Nat} (h : Blk w g t cs) (hb : Below B w w') (hg : g < B) : Blk w' g t cs := (hb.block g hg).trans h

theorem nodup_ne {α : Type} {l : List α} (h : l.Nodup) {i j : Nat} (hij : i < j) (hj : j < l.length) : l[i]? ≠ l[j]? := by
  rw [List.getElem?_eq_getElem (by omega), List.getElem?_eq_getElem hj]
  intro e
  exact (List.pairwise_iff_getElem.1 h) i j (by omega) hj hij (Option.some.inj e)
/-- An association list's reading. -/
def get? {κ β : Type} [DecidableEq κ] (L : List (κ × β)) (x : κ) : Option β := (L.find? fun p => decide (p.1 = x)).map (·.2)
def put {κ β : Type} [DecidableEq κ] (L : List (κ × β)) (x : κ) (v : β) : List (κ × β) :=
  if (get? L x).isSome then L.map (fun p => if p.1 = x then (x, v) else p) else L ++ [(x, v)]
def del {κ β : Type} [DecidableEq κ] (L : List (κ × β)) (x : κ) : List (κ × β) := L.filter fun p => decide (p.1 ≠ x)

def MapIs (w : World) (b : Nat) (l : List (Value × Value)) : Prop :=
  ∃ es clock, w.heap[b]? = some (.map es clock) ∧ Stamped es clock ∧ es.toList.map (fun e => (e.key, e.val)) = l
def MapOf {κ β : Type} (ek : κ → Value) (ev : β → Value) (w : World) (b : Nat) (L : List (κ × β)) : Prop := MapIs w b (L.map fun p => (ek p.1, ev p.2))

theorem MapIs.lt {w : World} {b : Nat} {l} (h : MapIs w b l) : b < w.heap.size := by
  obtain ⟨es, clock, hb, _⟩ := h
  exact (Array.getElem?_eq_some_iff.1 hb).1
theorem MapIs.of_block {w w' : World} {b : Nat} {l} (h : MapIs w b l) (hb : w'.heap[b]? = w.heap[b]?) : MapIs w' b l := by
  obtain ⟨es, clock, h1, h2⟩ := h
  exact ⟨es, clock, hb.trans h1, h2⟩
theorem MapIs.new (w : World) : MapIs (w.alloc (.map #[] 0)) w.heap.size [] := ⟨#[], 0, (MapKept.heap_alloc w _).1, stamped_empty 0, rfl⟩

section
variable {P : Program} {k e t : TypeId} {κ β : Type} [DecidableEq κ] {ek : κ → Value} {ev : β → Value} {w : World} {b : Nat} {L : List (κ × β)}

/-- What the key finds: nothing, or place j. -/
theorem find_spec (K : Keyed P k) (hk : ∀ p ∈ L, ∃ l, keyOf P k (ek p.1) = some l) (inj : ∀ p ∈ L, ∀ x, ek p.1 = ek x → p.1 = x) {es : Array MapEntry} {clock : Nat} (hs : Stamped es clock)
    (hl : es.toList.map (fun e => (e.key, e.val)) = L.map fun p => (ek p.1, ev p.2)) {x : κ} {lx : Lit} (hx : keyOf P k (ek x) = some lx) :
    ((Instr.findKey k (ek x) es.toList).run P w = .ok none w ∧ get? L x = none ∧ ∀ e ∈ es.toList, e.key ≠ ek x) ∨
      ∃ (j : Nat) (e : MapEntry) (p : κ × β), (Instr.findKey k (ek x) es.toList).run P w = .ok (some (j, e.val)) w ∧ es.toList[j]? = some e ∧ L[j]? = some p ∧ p.1 = x ∧ e.key = ek x ∧ e.val = ev p.2 ∧ get? L x = some p.2 := by
  have hkeys : ∀ e ∈ es.toList, ∃ l, keyOf P k e.key = some l := by
    intro e he
    have : (e.key, e.val) ∈ L.map fun p => (ek p.1, ev p.2) := by rw [← hl]; exact List.mem_map.2 ⟨e, he, rfl⟩
    obtain ⟨p, hp, hpe⟩ := List.mem_map.1 this
    obtain ⟨l, hl'⟩ := hk p hp
    simp only [Prod.mk.injEq] at hpe
    exact ⟨l, by rw [← hpe.1]; exact hl'⟩
  rcases K.find w hx es.toList hkeys with ⟨h1, h2⟩ | ⟨j, e, h1, h2, h3⟩
  · refine .inl ⟨h1, ?_, h2⟩
    unfold get?
    rw [List.find?_eq_none.2]
    · rfl
    · intro p hp
      simp only [decide_eq_true_eq]
      intro he
      have : (ek p.1, ev p.2) ∈ es.toList.map (fun e => (e.key, e.val)) := by rw [hl]; exact List.mem_map.2 ⟨p, hp, rfl⟩
      obtain ⟨e, he', hee⟩ := List.mem_map.1 this
      simp only [Prod.mk.injEq] at hee
      exact h2 e he' (by rw [hee.1, he])
  · have hj : (L.map fun p => (ek p.1, ev p.2))[j]? = some (e.key, e.val) := by rw [← hl, List.getElem?_map, h2]; rfl
    rw [List.getElem?_map] at hj
    cases hp : L[j]? with
    | none => rw [hp] at hj; cases hj
    | some p =>
      rw [hp] at hj
      simp only [Option.map_some, Option.some.injEq, Prod.mk.injEq] at hj
      have hpm : p ∈ L := List.mem_of_getElem? hp
      have hpx : p.1 = x := inj p hpm x (by rw [hj.1, h3])
      refine .inr ⟨j, e, p, h1, h2, hp, hpx, h3, hj.2.symm, ?_⟩
      -- no other entry bears the key
      have hnd : (es.toList.map (·.key)).Nodup := hs.2.2
      have hnd' : (L.map fun p => ek p.1).Nodup := by
        have : es.toList.map (·.key) = L.map fun p => ek p.1 := by
          have := congrArg (List.map Prod.fst) hl
          simpa [List.map_map, Function.comp_def] using this
        rw [← this]; exact hnd
      unfold get?
      have hfind : L.find? (fun q => decide (q.1 = x)) = some p := by
        rw [List.find?_eq_some_iff_getElem]
        obtain ⟨hjl, hje⟩ := List.getElem?_eq_some_iff.1 hp
        refine ⟨by simpa using hpx, j, hjl, hje, ?_⟩
        intro i hi
        simp only [Bool.not_eq_true', decide_eq_false_iff_not]
        intro he
        have h4 := nodup_ne hnd' hi (by simpa using hjl)
        apply h4
        rw [List.getElem?_map, List.getElem?_map, hp, List.getElem?_eq_getElem (by omega)]
        simp only [Option.map_some, Option.some.injEq]
        rw [he, hpx]
      rw [hfind]; rfl

/-- 'v, ok := m[x]'. -/
theorem MapOf.lookup_ok (h : MapOf ek ev w b L) (K : Keyed P k) (ht : P.underlying t = some (.map k e)) {z : Value} (hz : (zeroValue e).run P w = .ok z w)
    (hk : ∀ p ∈ L, ∃ l, keyOf P k (ek p.1) = some l) (inj : ∀ p ∈ L, ∀ x, ek p.1 = ek x → p.1 = x) {x : κ} {lx : Lit} (hx : keyOf P k (ek x) = some lx) (c : Bool) :
    (Instr.lookup t (.map (some b)) (ek x) c).run P w = .ok (match get? L x with
      | some v => if c then .tuple #[ev v, .bool true] else ev v
      | none => if c then .tuple #[z, .bool false] else z) w := by
  obtain ⟨es, clock, hb, hs, hl⟩ := h
  rcases find_spec (w := w) K hk inj hs hl hx with ⟨h1, h2, _⟩ | ⟨j, e', p, h1, h2, h3, h4, h5, h6, h7⟩
  · rw [h2]
    simp [Instr.lookup, run_underlying ht, MapKept.run_getObj_map hb, K.check w _ hx, h1, hz, Result.andThen]
  · rw [h7]
    simp [Instr.lookup, run_underlying ht, MapKept.run_getObj_map hb, K.check w _ hx, h1, h6, Result.andThen]

theorem modify_list (es : Array MapEntry) (j : Nat) (f : MapEntry → MapEntry) : (es.modify j f).toList = es.toList.modify j f := by
  simp

theorem map_modify_of {j : Nat} {L : List (κ × β)} {p : κ × β} {x : κ} {v : β} (hj : L[j]? = some p) (hpx : p.1 = x) (hnd : (L.map Prod.fst).Nodup) :
    L.map (fun q => if q.1 = x then (x, v) else q) = L.modify j (fun _ => (x, v)) := by
  apply List.ext_getElem?
  intro i
  rw [List.getElem?_map, List.getElem?_modify]
  by_cases hij : j = i
  · subst hij
    rw [hj]; simp [hpx]
  · cases hq : L[i]? with
    | none => simp
    | some q =>
      simp only [Option.map_some, hij, if_false]
      have hqx : q.1 ≠ x := ?_
      · rw [if_neg hqx]; rfl
      intro he
      obtain ⟨hjl, hje⟩ := List.getElem?_eq_some_iff.1 hj
      obtain ⟨hil, hie⟩ := List.getElem?_eq_some_iff.1 hq
      rcases Nat.lt_or_gt_of_ne hij with hlt | hlt
      · have h4 := nodup_ne hnd hlt (by simpa using hil)
        exact h4 (by rw [List.getElem?_map, List.getElem?_map, hj, hq]; simp [hpx, he])
      · have h4 := nodup_ne hnd hlt (by simpa using hjl)
        exact h4 (by rw [List.getElem?_map, List.getElem?_map, hj, hq]; simp [hpx, he])

omit [DecidableEq κ] in
theorem MapOf.nodup (h : MapOf ek ev w b L) : (L.map Prod.fst).Nodup := by
  obtain ⟨es, clock, hb, hs, hl⟩ := h
  have : es.toList.map (·.key) = (L.map Prod.fst).map ek := by
    have := congrArg (List.map Prod.fst) hl
    simpa [List.map_map, Function.comp_def] using this
  have h2 : ((L.map Prod.fst).map ek).Nodup := by rw [← this]; exact hs.2.2
  exact List.Pairwise.of_map ek (fun a b hab he => hab (by rw [he])) h2

/-- 'm[x] = v'. -/
theorem MapOf.update (h : MapOf ek ev w b L) (K : Keyed P k) (ht : P.underlying t = some (.map k e))
    (hk : ∀ p ∈ L, ∃ l, keyOf P k (ek p.1) = some l) (inj : ∀ p ∈ L, ∀ x, ek p.1 = ek x → p.1 = x) {x : κ} {lx : Lit} (hx : keyOf P k (ek x) = some lx) (v : β) :
    ∃ o, (Instr.mapUpdate t (.map (some b)) (ek x) (ev v)).run P w = .ok () (setBlock w b o) ∧ MapOf ek ev (setBlock w b o) b (put L x v) := by
  have hn := h.nodup
  obtain ⟨es, clock, hb, hs, hl⟩ := h
  rcases find_spec (w := w) K hk inj hs hl hx with ⟨h1, h2, h3⟩ | ⟨j, e', p, h1, h2, h3, h4, h5, h6, h7⟩
  · refine ⟨.map (es.push { key := ek x, val := ev v, born := clock }) (clock + 1), ?_, ?_⟩
    · simp [Instr.mapUpdate, run_underlying ht, MapKept.run_getObj_map hb, K.check w _ hx, h1, MapKept.run_setObj_map _ hb, Result.andThen, setBlock]
    · refine ⟨_, _, heap_setBlock_same hb _, stamped_push hs h3, ?_⟩
      unfold put
      rw [h2]
      simp [hl]
  · have hj : es[j]? = some e' := by simpa using h2
    refine ⟨.map (es.modify j fun e => { e with key := ek x, val := ev v }) clock, ?_, ?_⟩
    · simp [Instr.mapUpdate, run_underlying ht, MapKept.run_getObj_map hb, K.check w _ hx, h1, hj, h5, K.stays w hx, MapKept.run_setObj_map _ hb, Result.andThen, setBlock]
    · refine ⟨_, _, heap_setBlock_same hb _, stamped_modify hs _ _ (fun _ _ => rfl) (fun e0 _ he0 => by rw [hj] at he0; cases he0; exact h5.symm), ?_⟩
      unfold put
      rw [h7]
      simp only [Option.isSome_some, if_true]
      rw [map_modify_of h3 h4 hn, modify_list]
      apply List.ext_getElem?
      intro i
      have hli := congrArg (fun l => l[i]?) hl
      simp only [List.getElem?_map] at hli
      simp only [List.getElem?_map, List.getElem?_modify]
      cases hi : es.toList[i]? with
      | none =>
        rw [hi] at hli
        cases hLi : L[i]? with
        | none => rfl
        | some q => rw [hLi] at hli; cases hli
      | some ei =>
        rw [hi] at hli
        cases hLi : L[i]? with
        | none => rw [hLi] at hli; cases hli
        | some q =>
          rw [hLi] at hli
          simp only [Option.map_some, Option.some.injEq] at hli ⊢
          by_cases hji : j = i
          · simp [hji]
          · simp [hji]; simpa using hli

/-- 'delete(m, x)'. -/
theorem MapOf.delete {ty : TypeId} (h : MapOf ek ev w b L) (K : Keyed P k) (ht : P.underlying t = some (.map k e))
    (hk : ∀ p ∈ L, ∃ l, keyOf P k (ek p.1) = some l) (inj : ∀ p ∈ L, ∀ x, ek p.1 = ek x → p.1 = x) {x : κ} {lx : Lit} (hx : keyOf P k (ek x) = some lx) :
    ∃ o, (Builtin.delete_ #[t, k] ty #[.map (some b), ek x]).run P w = .ok (.tuple #[]) (setBlock w b o) ∧ MapOf ek ev (setBlock w b o) b (del L x) := by
  have hn := h.nodup
  obtain ⟨es, clock, hb, hs, hl⟩ := h
  rcases find_spec (w := w) K hk inj hs hl hx with ⟨h1, h2, h3⟩ | ⟨j, e', p, h1, h2, h3, h4, h5, h6, h7⟩
  · refine ⟨.map es clock, ?_, ?_⟩
    · simp [Builtin.delete_, run_underlying ht, MapKept.run_getObj_map hb, K.check w _ hx, h1, MapKept.run_setObj_map _ hb, Result.andThen, setBlock]
    · refine ⟨_, _, heap_setBlock_same hb _, hs, ?_⟩
      unfold del
      rw [List.filter_eq_self.2, hl]
      intro q hq
      simp only [decide_eq_true_eq]
      intro he
      have : get? L x ≠ none := by
        unfold get?
        intro hnn
        rw [Option.map_eq_none_iff, List.find?_eq_none] at hnn
        exact hnn q hq (by simpa using he)
      exact this h2
  · refine ⟨.map (es.eraseIdxIfInBounds j) clock, ?_, ?_⟩
    · simp [Builtin.delete_, run_underlying ht, MapKept.run_getObj_map hb, K.check w _ hx, h1, MapKept.run_setObj_map _ hb, Result.andThen, setBlock]
    · refine ⟨_, _, heap_setBlock_same hb _, stamped_erase hs j, ?_⟩
      have hjs : j < es.size := by simpa using (List.getElem?_eq_some_iff.1 h2).1
      have hsub : (es.eraseIdxIfInBounds j).toList = es.toList.eraseIdx j := by
        unfold Array.eraseIdxIfInBounds
        rw [dif_pos hjs]
        simp
      rw [hsub, Go.ChangeMaps.map_eraseIdx, hl, ← Go.ChangeMaps.map_eraseIdx]
      congr 1
      unfold del
      -- the filter strikes place j alone
      have : ∀ (L : List (κ × β)) (j : Nat) (p : κ × β), L[j]? = some p → p.1 = x → (L.map Prod.fst).Nodup → L.eraseIdx j = L.filter fun p => decide (p.1 ≠ x) := by
        intro L
        induction L with
        | nil => intro j p hj; simp at hj
        | cons q r ih =>
          intro j p hj hpx hnd
          rw [List.map_cons, List.nodup_cons] at hnd
          cases j with
          | zero =>
            simp only [List.getElem?_cons_zero, Option.some.injEq] at hj
            subst hj
            simp only [List.eraseIdx_cons_zero, List.filter_cons, hpx, ne_eq, not_true, decide_false, if_false, Bool.false_eq_true]
            rw [List.filter_eq_self.2]
            intro y hy
            simp only [decide_eq_true_eq]
            intro he
            exact hnd.1 (List.mem_map.2 ⟨y, hy, by rw [he, hpx]⟩)
          | succ j =>
            simp only [List.getElem?_cons_succ] at hj
            have hqx : q.1 ≠ x := by
              intro he
              exact hnd.1 (List.mem_map.2 ⟨p, List.mem_of_getElem? hj, by rw [he, hpx]⟩)
            simp only [List.eraseIdx_cons_succ, List.filter_cons, ne_eq, hqx, not_false_eq_true, decide_true, if_true]
            rw [ih j p hj hpx hnd.2]
      exact this L j p h3 h4 hn
end

theorem setBlock_grown {P : Program} {w : World} {b : Nat} {o o' : Obj} (h : w.heap[b]? = some o') : w.grownBy (setBlock w b o) (some b) :=
  ⟨rfl, rfl, rfl, by simp [setBlock], fun i _ hi => by
    have : b ≠ i := fun e => hi (by rw [e])
    simp [setBlock, this]⟩
section
variable {P : Program} {k e t : TypeId} {κ β : Type} [DecidableEq κ] {ek : κ → Value} {ev : β → Value} {w : World} {b : Nat} {L : List (κ × β)}
omit [DecidableEq κ] in
theorem MapOf.block (h : MapOf ek ev w b L) : ∃ o, w.heap[b]? = some o := by
  obtain ⟨es, clock, hb, _⟩ := h
  exact ⟨_, hb⟩
/-- 'm[x] = v' as an operation. -/
theorem wp_mapUpdate {ops : Array Oper} {o : Oper} {a : Act} {K' : Act → World → Prop} {Q : Exit → Act → World → Prop} (m x v : Operand) (hop : o.op = Op.mapUpdate t m x v)
    (K : Keyed P k) (ht : P.underlying t = some (.map k e)) (hm : a.eval m = .map (some b)) (h : MapOf ek ev w b L)
    (hk : ∀ p ∈ L, ∃ l, keyOf P k (ek p.1) = some l) (inj : ∀ p ∈ L, ∀ x, ek p.1 = ek x → p.1 = x) {key : κ} {val : β} (hx : a.eval x = ek key) (hv : a.eval v = ev val) {lx : Lit} (hkey : keyOf P k (ek key) = some lx)
    (hK : ∀ w', MapOf ek ev w' b (put L key val) → w.grownBy w' (some b) → K' (a.put o.dst undef) w') : o.wp P a w K' Q := by
  obtain ⟨ob, hrun, h2⟩ := h.update K ht hk inj hkey val
  obtain ⟨o', ho⟩ := h.block
  unfold Oper.wp
  simp [execOp, hop, hm, hx, hv, hrun, Result.andThen]
  exact hK _ h2 (setBlock_grown (P := P) ho)
theorem wpList_mapUpdate {ops : Array Oper} {rest : List Oper} {o : Oper} {a : Act} {Q : Exit → Act → World → Prop} (hg : o.guard = none) (m x v : Operand) (hop : o.op = Op.mapUpdate t m x v)
    (K : Keyed P k) (ht : P.underlying t = some (.map k e)) (hm : a.eval m = .map (some b)) (h : MapOf ek ev w b L)
    (hk : ∀ p ∈ L, ∃ l, keyOf P k (ek p.1) = some l) (inj : ∀ p ∈ L, ∀ x, ek p.1 = ek x → p.1 = x) {key : κ} {val : β} (hx : a.eval x = ek key) (hv : a.eval v = ev val) {lx : Lit} (hkey : keyOf P k (ek key) = some lx)
    (hK : ∀ w', MapOf ek ev w' b (put L key val) → w.grownBy w' (some b) → wpList P ops Q rest (a.put o.dst undef) w') : wpList P ops Q (o :: rest) a w :=
  wpList_plain hg fun _ hK' => wp_mapUpdate (ops := ops) m x v hop K ht hm h hk inj hx hv hkey fun w' h1 h2 => hK' _ _ (hK w' h1 h2)
theorem step_mapUpdate {ops : Array Oper} {o : Oper} {a : Act} {K' : Act → World → Prop} {Q : Exit → Act → World → Prop} {E : Prop} (hg : o.guard = none) (m x v : Operand) (hop : o.op = Op.mapUpdate t m x v)
    (K : Keyed P k) (ht : P.underlying t = some (.map k e)) (hm : a.eval m = .map (some b)) (h : MapOf ek ev w b L)
    (hk : ∀ p ∈ L, ∃ l, keyOf P k (ek p.1) = some l) (inj : ∀ p ∈ L, ∀ x, ek p.1 = ek x → p.1 = x) {key : κ} {val : β} (hx : a.eval x = ek key) (hv : a.eval v = ev val) {lx : Lit} (hkey : keyOf P k (ek key) = some lx)
    (hK : ∀ w', MapOf ek ev w' b (put L key val) → w.grownBy w' (some b) → K' (a.put o.dst undef) w') :
    if Region.wanted o (yielded ops a.tmps) = true then Oper.wp P o a w K' Q else E := by
  rw [if_pos (by simp [Region.wanted, hg])]
  exact wp_mapUpdate (ops := ops) m x v hop K ht hm h hk inj hx hv hkey hK
/-- 'delete(m, x)' as an operation. -/
theorem wpList_delete {ops : Array Oper} {rest : List Oper} {o : Oper} {a : Act} {Q : Exit → Act → World → Prop} (hg : o.guard = none) (m x : Operand)
    (hop : o.op = .call { callee := .builtin .delete, args := #[m, x], argTypes := #[t, k] })
    (K : Keyed P k) (ht : P.underlying t = some (.map k e)) (hm : a.eval m = .map (some b)) (h : MapOf ek ev w b L)
    (hk : ∀ p ∈ L, ∃ l, keyOf P k (ek p.1) = some l) (inj : ∀ p ∈ L, ∀ x, ek p.1 = ek x → p.1 = x) {key : κ} (hx : a.eval x = ek key) {lx : Lit} (hkey : keyOf P k (ek key) = some lx)
    (hK : ∀ w', MapOf ek ev w' b (del L key) → w.grownBy w' (some b) → wpList P ops Q rest (a.put o.dst (.tuple #[])) w') : wpList P ops Q (o :: rest) a w := by
  refine wpList_plain hg fun _ hK' => ?_
  obtain ⟨ob, hrun, h2⟩ := h.delete (ty := o.type) K ht hk inj hkey
  obtain ⟨o', ho⟩ := h.block
  unfold Oper.wp execOp
  simp only [hop, resolve, invoke, builtin, Sem.run_bind, Sem.run_pure, Result.andThen_ok, List.map_toArray, List.map_cons, List.map_nil, hm, hx, hrun]
  exact hK' _ _ (hK _ h2 (setBlock_grown (P := P) ho))
end
theorem Keeps.cells {F : Nat → Prop} {w w' : World} (h : Keeps F w w') : ∀ b o, b < w.heap.size → ¬ F b → w'.cell? ⟨b, o, none⟩ = w.cell? ⟨b, o, none⟩ :=
  fun b o hb hn => World.cell?_of_block (w := w) (h.block b hb hn)
theorem Blk.grown {w w' : World} {g : Nat} {t : TypeId} {cs : Array Value} {row : Option Nat} (h : Blk w g t cs) (hb : w.grownBy w' row) (hg : some g ≠ row) : Blk w' g t cs := (hb.block g h.lt hg).trans h
theorem MapIs.grown {w w' : World} {b : Nat} {l : List (Value × Value)} {row : Option Nat} (h : MapIs w b l) (hb : w.grownBy w' row) (hg : some b ≠ row) : MapIs w' b l := h.of_block (hb.block b h.lt hg)
theorem MapIs.keeps {F : Nat → Prop} {w w' : World} {b : Nat} {l : List (Value × Value)} (h : MapIs w b l) (hk : Keeps F w w') (hn : ¬ F b) : MapIs w' b l := h.of_block (hk.block b h.lt hn)
theorem MapIs.alloc {w : World} {b : Nat} {l : List (Value × Value)} (h : MapIs w b l) (o : Obj) : MapIs (w.alloc o) b l := h.of_block (Below.heap_alloc w o b h.lt)
theorem MapIs.set {w : World} {b : Nat} {l : List (Value × Value)} (h : MapIs w b l) {p : Addr} (hp : b ≠ p.block) (u : Value) : MapIs (w.setCell p u) b l := h.of_block (Below.heap_setCell w p u b hp)
section
variable (w : World) (b : Nat) (o : Obj)
theorem size_setBlock : (setBlock w b o).heap.size = w.heap.size := by simp [setBlock]
theorem cell?_setBlock {p : Addr} (h : p.block ≠ b) : (setBlock w b o).cell? p = w.cell? p := by
  refine World.cell?_of_block ?_
  simp [setBlock, h.symm]
theorem frozen?_setBlock {p : Addr} (h : p.block ≠ b) : (setBlock w b o).frozen? p = w.frozen? p := by
  refine World.frozen?_of_block ?_
  simp [setBlock, h.symm]
theorem heap_setBlock_ne {i : Nat} (h : i ≠ b) : (setBlock w b o).heap[i]? = w.heap[i]? := by
  simp [setBlock, h.symm]
end
theorem heap_alloc_lt {w : World} {o : Obj} {i : Nat} {x : Obj} (h : w.heap[i]? = some x) : (w.alloc o).heap[i]? = some x := by
  rw [Below.heap_alloc w o i (Array.getElem?_eq_some_iff.1 h).1, h]
/-- 'm[x] = v' in every world in which the map's block is this one: the block that it leaves. -/
theorem MapOf.update_fix {P : Program} {k e t : TypeId} {κ β : Type} [DecidableEq κ] {ek : κ → Value} {ev : β → Value} {w : World} {b : Nat} {L : List (κ × β)} (h : MapOf ek ev w b L) (K : Keyed P k) (ht : P.underlying t = some (.map k e))
    (hk : ∀ p ∈ L, ∃ l, keyOf P k (ek p.1) = some l) (inj : ∀ p ∈ L, ∀ x, ek p.1 = ek x → p.1 = x) {x : κ} {lx : Lit} (hx : keyOf P k (ek x) = some lx) :
    ∃ ob, w.heap[b]? = some ob ∧ ∀ v : β, ∃ o, ∀ W : World, W.heap[b]? = some ob → (Instr.mapUpdate t (.map (some b)) (ek x) (ev v)).run P W = .ok () (setBlock W b o) ∧ MapOf ek ev (setBlock W b o) b (put L x v) := by
  have hn := h.nodup
  obtain ⟨es, clock, hb, hs, hl⟩ := h
  refine ⟨_, hb, fun v => ?_⟩
  rcases find_spec (w := w) K hk inj hs hl hx with ⟨_, g2, _⟩ | ⟨j, e', p, _, g2, g3, g4, g5, g6, g7⟩
  · refine ⟨.map (es.push { key := ek x, val := ev v, born := clock }) (clock + 1), fun W hW => ?_⟩
    rcases find_spec (w := W) K hk inj hs hl hx with ⟨h1, h2, h3⟩ | ⟨_, _, _, _, _, _, _, _, _, h7⟩
    · refine ⟨?_, ?_⟩
      · simp [Instr.mapUpdate, run_underlying ht, MapKept.run_getObj_map hW, K.check W _ hx, h1, MapKept.run_setObj_map _ hW, Result.andThen, setBlock]
      · refine ⟨_, _, heap_setBlock_same hW _, stamped_push hs h3, ?_⟩
        unfold put
        rw [h2]
        simp [hl]
    · rw [g2] at h7; cases h7
  · refine ⟨.map (es.modify j fun e => { e with key := ek x, val := ev v }) clock, fun W hW => ?_⟩
    rcases find_spec (w := W) K hk inj hs hl hx with ⟨_, h2, _⟩ | ⟨j2, e2, p2, h1, h2, h3, h4, h5, h6, h7⟩
    · rw [g7] at h2; cases h2
    · have hjj : j2 = j := by
        obtain ⟨l1, e1⟩ := List.getElem?_eq_some_iff.1 h3
        obtain ⟨l2, e2⟩ := List.getElem?_eq_some_iff.1 g3
        rcases Nat.lt_trichotomy j2 j with hlt | heq | hlt
        · exact absurd (by rw [List.getElem?_map, List.getElem?_map, h3, g3]; simp [h4, g4]) (nodup_ne hn hlt (by simpa using l2))
        · exact heq
        · exact absurd (by rw [List.getElem?_map, List.getElem?_map, h3, g3]; simp [h4, g4]) (nodup_ne hn hlt (by simpa using l1))
      subst hjj
      have hj : es[j2]? = some e2 := by simpa using h2
      refine ⟨?_, ?_⟩
      · simp [Instr.mapUpdate, run_underlying ht, MapKept.run_getObj_map hW, K.check W _ hx, h1, hj, h5, K.stays W hx, MapKept.run_setObj_map _ hW, Result.andThen, setBlock]
      · refine ⟨_, _, heap_setBlock_same hW _, stamped_modify hs _ _ (fun _ _ => rfl) (fun e0 _ he0 => by rw [hj] at he0; cases he0; exact h5.symm), ?_⟩
        unfold put
        rw [h7]
        simp only [Option.isSome_some, if_true]
        rw [map_modify_of h3 h4 hn, modify_list]
        apply List.ext_getElem?
        intro i
        have hli := congrArg (fun l => l[i]?) hl
        simp only [List.getElem?_map] at hli
        simp only [List.getElem?_map, List.getElem?_modify]
        cases hi : es.toList[i]? with
        | none =>
          rw [hi] at hli
          cases hLi : L[i]? with
          | none => rfl
          | some q => rw [hLi] at hli; cases hli
        | some ei =>
          rw [hi] at hli
          cases hLi : L[i]? with
          | none => rw [hLi] at hli; cases hli
          | some q =>
            rw [hLi] at hli
            simp only [Option.map_some, Option.some.injEq] at hli ⊢
            by_cases hji : j2 = i
            · simp [hji]
            · simp [hji]; simpa using hli
/-- 'delete(m, x)' in every world in which the map's block is this one. -/
theorem MapOf.delete_fix {P : Program} {k e t : TypeId} {κ β : Type} [DecidableEq κ] {ek : κ → Value} {ev : β → Value} {w : World} {b : Nat} {L : List (κ × β)} (ty : TypeId) (h : MapOf ek ev w b L) (K : Keyed P k) (ht : P.underlying t = some (.map k e))
    (hk : ∀ p ∈ L, ∃ l, keyOf P k (ek p.1) = some l) (inj : ∀ p ∈ L, ∀ x, ek p.1 = ek x → p.1 = x) {x : κ} {lx : Lit} (hx : keyOf P k (ek x) = some lx) :
    ∃ ob, w.heap[b]? = some ob ∧ ∃ O : World → Obj, ∀ W : World, W.heap[b]? = some ob → (Builtin.delete_ #[t, k] ty #[.map (some b), ek x]).run P W = .ok (.tuple #[]) (setBlock W b (O W)) ∧ MapOf ek ev (setBlock W b (O W)) b (del L x) := by
  obtain ⟨ob, hb⟩ := h.block
  refine ⟨ob, hb, ?_⟩
  have H : ∀ W : World, ∃ o, W.heap[b]? = some ob → (Builtin.delete_ #[t, k] ty #[.map (some b), ek x]).run P W = .ok (.tuple #[]) (setBlock W b o) ∧ MapOf ek ev (setBlock W b o) b (del L x) := by
    intro W
    by_cases hW : W.heap[b]? = some ob
    · have h' : MapOf ek ev W b L := MapIs.of_block h (hW.trans hb.symm)
      obtain ⟨o, h1, h2⟩ := h'.delete (ty := ty) K ht hk inj hx
      exact ⟨o, fun _ => ⟨h1, h2⟩⟩
    · exact ⟨ob, fun h => absurd h hW⟩
  exact ⟨fun W => Classical.choose (H W), fun W => Classical.choose_spec (H W)⟩
/-- A map's block is no row of cells. -/
theorem MapIs.ne_blk {w : World} {b g : Nat} {l : List (Value × Value)} {t : TypeId} {cs : Array Value} (h : MapIs w b l) (hg : Blk w g t cs) : g ≠ b := by
  rintro rfl
  obtain ⟨es, clock, hb, _⟩ := h
  unfold Blk at hg
  rw [hb] at hg
  cases hg
end Go.Proofs.Yteakbhfegbghoaa.Kit
