/- How values that came in open, whatever their type: what their cells say. Plain laws over any program. -/
import Derived.Test.YteakbhfegbghoaaKit
import Derived.Test.YteakbhfegbghoaaLs
import Derived.WalkKit
import Derived.OpenShut
import Derived.ChangeSlices
import Derived.Deep.Slices
import Derived.ChangeArms
import Derived.Lib.SmallJoins
namespace Go.Proofs.Yteakbhfegbghoaa.Open
open Go Go.RowKit Go.ChangeShapes Go.WideShapes Go.Deep Go.Proofs.Yteakbhfegbghoaa.Kit
set_option linter.unusedSimpArgs false
set_option linter.unusedVariables false
structure Opens (H : Type) (P : Program) (t : TypeId) (k : Nat) (R : World → List Value → Prop) : Prop where
  cells : P.cellsOf t = k
  opens : ∀ (enc : TypeId × Value → H) (w : World) (base : Nat) (spare : Nat → Bool) (held : Bool) (fuel : Nat) (cs : List Value) (x : DataW H × List MemPlace),
    DataW.trod enc P w base spare held fuel t cs = some x → cs.length = k ∧ R w cs
section
variable {H : Type} {P : Program} {t e : TypeId} {k : Nat} {R : World → List Value → Prop}
def RInt (k : IntKind) (_ : World) (cs : List Value) : Prop := ∃ z, cs = [.int k z] ∧ (Lit.int k z).wf = true
def RBool (_ : World) (cs : List Value) : Prop := ∃ b, cs = [.bool b]
def RStr (_ : World) (cs : List Value) : Prop := ∃ l : List UInt8, cs = [.string ⟨l.toArray⟩] ∧ l.length ≤ maxLen
def RSl (k : Nat) (R : World → List Value → Prop) (w : World) (cs : List Value) : Prop :=
  ∃ a n c, cs = [.slice a n c] ∧ n ≤ c ∧ c ≤ maxLen ∧ (0 < n → ∃ b o, a = some ⟨b, o, none⟩ ∧ b < w.heap.size ∧ ∀ i, i < n → ∃ ds, ds.length = k ∧ (∀ j u, ds[j]? = some u → w.cell? ⟨b, o + i * k + j, none⟩ = some u) ∧ R w ds)
def RStruct : List (Nat × (World → List Value → Prop)) → World → List Value → Prop
  | [], _, cs => cs = []
  | p :: r, w, cs => ∃ c1 c2, cs = c1 ++ c2 ∧ c1.length = p.1 ∧ p.2 w c1 ∧ RStruct r w c2
def RArr (n k : Nat) (R : World → List Value → Prop) (w : World) (cs : List Value) : Prop := cs.length = n * k ∧ ∀ i, i < n → R w ((cs.drop (i * k)).take k)
theorem Opens.int {q : IntKind} (ht : P.underlying t = some (.int q)) (hc : P.cellsOf t = 1) : Opens H P t 1 (RInt q) :=
  ⟨hc, fun enc w base spare held fuel cs x h => by
    obtain ⟨z, e, _, hw⟩ := DataW.trod_int ht h
    exact ⟨by rw [e]; rfl, z, e, hw⟩⟩
theorem Opens.bool (ht : P.underlying t = some .bool) (hc : P.cellsOf t = 1) : Opens H P t 1 RBool :=
  ⟨hc, fun enc w base spare held fuel cs x h => by
    obtain ⟨b, e, _⟩ := DataW.trod_bool ht h
    exact ⟨by rw [e]; rfl, b, e⟩⟩
theorem Opens.str (ht : P.underlying t = some .string) (hc : P.cellsOf t = 1) : Opens H P t 1 RStr :=
  ⟨hc, fun enc w base spare held fuel cs x h => by
    obtain ⟨s, e, _, hs⟩ := DataW.trod_string ht h
    refine ⟨by rw [e]; rfl, s.data.toList, ?_, by simpa using hs⟩
    rw [e]⟩
theorem Opens.slice (ht : P.underlying t = some (.slice e)) (hc : P.cellsOf t = 1) (h : Opens H P e k R) (hk : 0 < k) : Opens H P t 1 (RSl k R) :=
  ⟨hc, fun enc w base spare held fuel cs x hx => by
    rcases open_slice ht hx with ⟨hcs, _⟩ | ⟨a, len, cap, m, nn, D, Pl, hcs, hb, hl, hm, hmm, _, hel⟩
    · exact ⟨by rw [hcs]; rfl, none, 0, 0, hcs, Nat.le_refl _, Nat.zero_le _, fun h => absurd h (by decide)⟩
    · refine ⟨by rw [hcs]; rfl, some a, len, cap, hcs, hl, hm, fun h0 => ?_⟩
      have hml : len ≤ m := by rw [hmm]; split <;> omega
      have each : ∀ i, i < len → ∃ ds, ds.length = k ∧ (∀ j u, ds[j]? = some u → w.cell? (a.add (i * k + j)) = some u) ∧ R w ds := by
        intro i hi
        obtain ⟨cs', h1, h2⟩ := hel i (by omega)
        rw [h.cells] at h1
        obtain ⟨hlen, hr⟩ := h.opens _ _ _ _ _ _ _ _ h2
        obtain ⟨_, hl2, hcl⟩ := World.cells?_some h1
        refine ⟨cs', hlen, fun j u hj => ?_, hr⟩
        have hjk : j < k := by rw [← hlen]; exact (List.getElem?_eq_some_iff.1 hj).1
        have hcj := hcl j hjk
        rw [Addr.add_add] at hcj
        rw [hcj, hj]
      obtain ⟨d0, hd0, hc0, _⟩ := each 0 h0
      have h00 := hc0 0 _ (List.getElem?_eq_getElem (by omega))
      obtain ⟨ab, ao, spot⟩ := a
      have hspot : spot = none := by simpa [Addr.add] using World.cell?_spot h00
      subst hspot
      have h01 : w.cell? ⟨ab, ao, none⟩ = some (d0[0]'(by omega)) := by
        rw [Addr.add_lit] at h00
        simpa using h00
      refine ⟨ab, ao, rfl, World.block_lt_of_cell? w _ h01, fun i hi => ?_⟩
      obtain ⟨ds, hd, hcell, hr⟩ := each i hi
      refine ⟨ds, hd, fun j u hj => ?_, hr⟩
      have := hcell j u hj
      rw [Addr.add_lit, ← Nat.add_assoc] at this
      exact this⟩
theorem RStruct_mk (w : World) : ∀ (L : List (Nat × (World → List Value → Prop))) (cs : List Value), cs.length = (L.map (·.1)).sum →
    (∀ (i : Nat) (p : Nat × (World → List Value → Prop)), L[i]? = some p → p.2 w ((cs.drop ((L.take i).map (·.1)).sum).take p.1)) → RStruct L w cs
  | [], cs, hl, _ => List.eq_nil_of_length_eq_zero (by simpa using hl)
  | p :: r, cs, hl, h => by
    simp only [List.map_cons, List.sum_cons] at hl
    refine ⟨cs.take p.1, cs.drop p.1, (List.take_append_drop _ _).symm, by rw [List.length_take]; omega, by simpa using h 0 p rfl, ?_⟩
    refine RStruct_mk w r _ (by rw [List.length_drop]; omega) fun i q hq => ?_
    have := h (i + 1) q (by simpa using hq)
    simp only [List.take_succ_cons, List.map_cons, List.sum_cons] at this
    rw [List.drop_drop]
    exact this
theorem Opens.struct {fs : Array Field} (L : List (Nat × (World → List Value → Prop))) (ht : P.underlying t = some (.struct fs)) (hc : P.cellsOf t = (L.map (·.1)).sum) (hn : L.length = fs.size)
    (hf : ∀ i f p, fs[i]? = some f → L[i]? = some p → Opens H P f.type p.1 p.2 ∧ f.offset = ((L.take i).map (·.1)).sum) : Opens H P t (L.map (·.1)).sum (RStruct L) :=
  ⟨hc, fun enc w base spare held fuel cs x h => by
    obtain ⟨xs, n, _, rfl, hl', hlen, hfs⟩ := DataW.trod_struct ht h
    rw [hc] at hl'
    refine ⟨hl', RStruct_mk w L cs hl' fun i p hp => ?_⟩
    have hi : i < fs.size := by rw [← hn]; exact (List.getElem?_eq_some_iff.1 hp).1
    obtain ⟨f, hfi⟩ : ∃ f, fs[i]? = some f := ⟨fs[i], Array.getElem?_eq_getElem hi⟩
    obtain ⟨ho, hoff⟩ := hf i f p hfi hp
    have h1 := hfs i f (by simpa using hfi)
    rw [hoff, ho.cells, List.getElem?_eq_getElem (show i < xs.length by first | omega | (simp at hlen; omega))] at h1
    exact (ho.opens _ _ _ _ _ _ _ _ h1).2⟩
theorem Opens.array {n : Nat} (ht : P.underlying t = some (.array n e)) (h : Opens H P e k R) (hc : P.cellsOf t = n * k) : Opens H P t (n * k) (RArr n k R) :=
  ⟨hc, fun enc w base spare held fuel cs x hx => by
    obtain ⟨xs, m, _, rfl, hl, hlen, hel⟩ := DataW.trod_array ht hx
    rw [hc] at hl
    refine ⟨hl, hl, fun i hi => ?_⟩
    have := hel i hi
    rw [h.cells, List.getElem?_eq_getElem (show i < xs.length by omega)] at this
    exact (h.opens _ _ _ _ _ _ _ _ this).2⟩
/-- An argument. -/
theorem Opens.arg {enc : TypeId × Value → H} {w : World} {base : Nat} {spare : Nat → Bool} {held : Bool} {v : Value} {d : DataW H} {p : List MemPlace} (ho : Opens H P t k R) (h : DataW.Trod enc P w base spare held t v d p) : R w v.cells.toList := by
  obtain ⟨fuel, hf⟩ := h
  exact (ho.opens _ _ _ _ _ _ _ _ hf).2
theorem Opens.agg {fs : Array Field} {enc : TypeId × Value → H} {w : World} {base b0 : Nat} {r : Reach} {spare : Nat → Bool} {held : Bool} {v : Value} {d : DataW H} {p : List MemPlace} (ht : P.underlying t = some (.struct fs)) (ho : Opens H P t k R) (hv : Value.okWide P w r b0 t v) (h : DataW.Trod enc P w base spare held t v d p) : ∃ cs : List Value, v = .agg cs.toArray ∧ R w cs := by
  obtain ⟨cs, rfl, _⟩ := okWide_struct ht hv
  have := ho.arg h
  exact ⟨cs.toList, by simp, by simpa [Value.cells] using this⟩
theorem Opens.arr {n : Nat} {enc : TypeId × Value → H} {w : World} {base b0 : Nat} {r : Reach} {spare : Nat → Bool} {held : Bool} {v : Value} {d : DataW H} {p : List MemPlace} (ht : P.underlying t = some (.array n e)) (ho : Opens H P t k R) (hv : Value.okWide P w r b0 t v) (h : DataW.Trod enc P w base spare held t v d p) : ∃ cs : List Value, v = .agg cs.toArray ∧ R w cs := by
  have hagg : ∃ cs, v = .agg cs := by
    have h' := hv
    cases v <;> simp_all [Value.okWide, Value.formed]
  obtain ⟨cs, rfl⟩ := hagg
  have := ho.arg h
  exact ⟨cs.toList, by simp, by simpa [Value.cells] using this⟩
/-- A slice's argument as a list. -/
theorem Opens.list {α : Type} {f : α → List Value} {Q : α → Prop} {enc : TypeId × Value → H} {w : World} {base b0 : Nat} {r : Reach} {spare : Nat → Bool} {held : Bool} {v : Value} {d : DataW H} {p : List MemPlace} (ht : P.underlying t = some (.slice e)) (ho : Opens H P t 1 (RSl k R))
    (hR : ∀ w ds, R w ds → ∃ x, ds = f x ∧ Q x) (hv : Value.okWide P w r b0 t v) (h : DataW.Trod enc P w base spare held t v d p) : ∃ xs : List α, LsAt k f w v xs ∧ ∀ x ∈ xs, Q x := by
  obtain ⟨a1, n1, c1, rfl⟩ := okWide_slice ht hv
  obtain ⟨a, n, c, hcs, hnc, hm, hel⟩ := ho.arg h
  simp [Value.cells] at hcs
  obtain ⟨rfl, rfl, rfl⟩ := hcs
  rcases Nat.eq_zero_or_pos n1 with h0 | h0
  · refine ⟨[], ⟨a1, c1, by rw [h0]; rfl, Nat.zero_le _, hm, fun h => absurd h (by simp)⟩, fun x hx => by simp at hx⟩
  · obtain ⟨b, o, rfl, hb, hc⟩ := hel h0
    obtain ⟨xs, hl, hx⟩ := list_of (α := α) (p := fun i x => (∀ j u, (f x)[j]? = some u → w.cell? ⟨b, o + i * k + j, none⟩ = some u) ∧ Q x) n1 (fun i hi => by
      obtain ⟨ds, hd, hcell, hr⟩ := hc i hi
      obtain ⟨x, rfl, hq⟩ := hR w ds hr
      exact ⟨x, hcell, hq⟩)
    refine ⟨xs, ⟨_, c1, by rw [hl], by omega, hm, fun _ => ⟨b, o, rfl, hb, fun i x hi => (hx i x hi).1⟩⟩, fun x hm => ?_⟩
    obtain ⟨i, hi, rfl⟩ := List.getElem_of_mem hm
    exact (hx i _ (List.getElem?_eq_getElem hi)).2
end
end Go.Proofs.Yteakbhfegbghoaa.Open
