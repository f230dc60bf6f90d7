/- How slices that came in open: plain laws over any program. -/
import Derived.Test.YtapefbmbaofbbaaKit
import Derived.WalkKit
import Derived.OpenShut
import Derived.ChangeSlices
import Derived.Deep.Slices
import Derived.Lib.SmallJoins
namespace Go.Proofs.Ytapefbmbaofbbaa.Open
open Go Go.RowKit Go.ChangeShapes Go.WideShapes Go.Deep
set_option linter.unusedSimpArgs false
set_option linter.unusedVariables false

/-- The cells behind a slice's value. -/
def Cells (w : World) (v : Value) (n : Nat) (cs : Nat → Value) (m : Nat) : Prop :=
  ∃ a c, v = .slice a n c ∧ (0 < n → ∃ b o, a = some ⟨b, o, none⟩ ∧ b < w.heap.size ∧ ∀ i, i < m → w.cell? ⟨b, o + i, none⟩ = some (cs i))
theorem okWide_slice' {P : Program} {w : World} {r : Reach} {base : Nat} {t e : TypeId} {v : Value} (ht : P.underlying t = some (.slice e)) (h : Value.okWide P w r base t v) : ∃ a n c, v = .slice a n c := okWide_slice ht h

/-- A slice of whole numbers. -/
theorem open_sints {H : Type} {enc : TypeId × Value → H} {P : Program} {w : World} {base b0 : Nat} {r : Reach} {spare : Nat → Bool} {held : Bool} {t e : TypeId} {k : IntKind} {v : Value} {d : DataW H} {p : List MemPlace}
    (ht : P.underlying t = some (.slice e)) (he : P.underlying e = some (.int k)) (hc : P.cellsOf e = 1) (hv : Value.okWide P w r b0 t v) (h : DataW.Trod enc P w base spare held t v d p) :
    ∃ xs : List Int, Cells w v xs.length (fun i => .int k (xs.getD i 0)) xs.length ∧ (∀ x ∈ xs, (Lit.int k x).wf = true) ∧ xs.length ≤ maxLen := by
  obtain ⟨a1, n1, c1, rfl⟩ := okWide_slice' ht hv
  obtain ⟨fuel, hf⟩ := h
  rcases open_ints ht he hc hf with ⟨hcs, hx⟩ | ⟨a, len, cap, zs, hcs, hb, hl, hm, hz, hx, hcell, hw⟩
  · simp [Value.cells] at hcs
    obtain ⟨rfl, rfl, rfl⟩ := hcs
    exact ⟨[], ⟨none, 0, rfl, fun h => absurd h (by decide)⟩, by simp, Nat.zero_le _⟩
  · simp [Value.cells] at hcs
    obtain ⟨rfl, rfl, rfl⟩ := hcs
    have hzl : n1 ≤ zs.length := by rw [hz]; split <;> omega
    have hlen : (zs.take n1).length = n1 := by simp; omega
    refine ⟨zs.take n1, ⟨some a, c1, by rw [hlen], fun h0 => ?_⟩, fun x hx => hw x (List.mem_of_mem_take hx), by rw [hlen]; omega⟩
    rw [hlen] at h0 ⊢
    obtain ⟨ab, ao, spot⟩ := a
    have hspot : spot = none := by simpa [Addr.add] using World.cell?_spot (hcell 0 (by omega))
    subst hspot
    refine ⟨ab, ao, rfl, ?_, fun i hi => ?_⟩
    · have := hcell 0 (by omega)
      exact World.block_lt_of_cell? w _ this
    · have := hcell i (by omega)
      rw [Addr.add_lit] at this
      rw [this]
      show _ = some (Value.int k ((zs.take n1).getD i 0))
      rw [List.getD_eq_getElem?_getD, List.getD_eq_getElem?_getD, List.getElem?_take_of_lt hi]

/-- A slice of arrays of whole numbers. -/
theorem open_sarrs {H : Type} {enc : TypeId × Value → H} {P : Program} {w : World} {base b0 : Nat} {r : Reach} {spare : Nat → Bool} {held : Bool} {t e f : TypeId} {q : Nat} {k : IntKind} {v : Value} {d : DataW H} {p : List MemPlace}
    (ht : P.underlying t = some (.slice e)) (he : P.underlying e = some (.array q f)) (hf1 : P.underlying f = some (.int k)) (hc : P.cellsOf e = q) (hcf : P.cellsOf f = 1) (hq : 0 < q) (hv : Value.okWide P w r b0 t v) (h : DataW.Trod enc P w base spare held t v d p) :
    ∃ (n : Nat) (g : Nat → Int), Cells w v n (fun i => .int k (g i)) (n * q) ∧ (∀ i, i < n * q → (Lit.int k (g i)).wf = true) ∧ n ≤ maxLen := by
  obtain ⟨a1, n1, c1, rfl⟩ := okWide_slice' ht hv
  obtain ⟨fuel, hf⟩ := h
  rcases open_slice ht hf with ⟨hcs, hx⟩ | ⟨a, len, cap, m, nn, D, Pl, hcs, hb, hl, hm, hmm, hx, hel⟩
  · simp [Value.cells] at hcs
    obtain ⟨rfl, rfl, rfl⟩ := hcs
    exact ⟨0, fun _ => 0, ⟨none, 0, rfl, fun h => absurd h (by decide)⟩, fun i hi => by omega, Nat.zero_le _⟩
  · simp [Value.cells] at hcs
    obtain ⟨rfl, rfl, rfl⟩ := hcs
    have hml : n1 ≤ m := by rw [hmm]; split <;> omega
    have each : ∀ i, i < n1 → ∀ j, j < q → ∃ x : Int, w.cell? (a.add (i * q + j)) = some (.int k x) ∧ (Lit.int k x).wf = true := by
      intro i hi j hj
      obtain ⟨cs', h1, h2⟩ := hel i (by omega)
      rw [hc] at h1
      obtain ⟨ys, mm, _, _, hlen, hn, hee⟩ := DataW.trod_array he h2
      have h3 := hee j hj
      rw [hcf, Nat.mul_one] at h3
      obtain ⟨_, hl2, hcl⟩ := World.cells?_some h1
      have hcj := hcl j hj
      have hjc : j < cs'.length := by omega
      have hjy : j < ys.length := by omega
      rw [List.getElem?_eq_getElem hjy] at h3
      have h4 : (cs'.drop j).take 1 = [cs'[j]] := by
        rw [List.drop_eq_getElem_cons hjc]; rfl
      rw [h4] at h3
      obtain ⟨x, e1, _, hw⟩ := DataW.trod_int hf1 h3
      injection e1 with e1 _
      rw [Addr.add_add] at hcj
      exact ⟨x, by rw [hcj, List.getElem?_eq_getElem hjc, e1], hw⟩
    have key : ∃ g : Nat → Int, ∀ i, i < n1 * q → w.cell? (a.add i) = some (.int k (g i)) ∧ (Lit.int k (g i)).wf = true := by
      refine choose_lt (α := Int) (p := fun i x => w.cell? (a.add i) = some (.int k x) ∧ (Lit.int k x).wf = true) (fun i hi => ?_)
      have h1 : i / q < n1 := Nat.div_lt_of_lt_mul (by rw [Nat.mul_comm]; exact hi)
      have h2 : i % q < q := Nat.mod_lt _ hq
      have h3 := each (i / q) h1 (i % q) h2
      rw [Nat.mul_comm, Nat.div_add_mod] at h3
      exact h3
    obtain ⟨g, hg⟩ := key
    refine ⟨n1, g, ⟨some a, c1, rfl, fun h0 => ?_⟩, fun i hi => (hg i hi).2, by omega⟩
    have h00 := (hg 0 (Nat.mul_pos h0 hq)).1
    obtain ⟨ab, ao, spot⟩ := a
    have hspot : spot = none := by simpa [Addr.add] using World.cell?_spot h00
    subst hspot
    refine ⟨ab, ao, rfl, World.block_lt_of_cell? w _ h00, fun i hi => ?_⟩
    have := (hg i hi).1
    rw [Addr.add_lit] at this
    exact this
end Go.Proofs.Ytapefbmbaofbbaa.Open
