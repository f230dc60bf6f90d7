/- How slices of structs of whole numbers come in open: plain laws over any program. -/
import Derived.Test.YtapefbmbaofbbaaOpenS
import Derived.ChangeArms
namespace Go.Proofs.Ytapefbmbaofbbaa.Open
open Go Go.RowKit Go.ChangeShapes Go.WideShapes Go.Deep
set_option linter.unusedSimpArgs false
set_option linter.unusedVariables false
/-- A type whose value is so many whole numbers, of these kinds. -/
def Ints (H : Type) (P : Program) (t : TypeId) (ks : List IntKind) : Prop :=
  P.cellsOf t = ks.length ∧ ∀ (enc : TypeId × Value → H) (w : World) (base : Nat) (spare : Nat → Bool) (held : Bool) (fuel : Nat) (cs : List Value) (x : DataW H × List MemPlace),
    DataW.trod enc P w base spare held fuel t cs = some x → cs.length = ks.length → ∀ (j : Nat) (k : IntKind), ks[j]? = some k → ∃ z : Int, cs[j]? = some (Value.int k z) ∧ (Lit.int k z).wf = true
theorem Ints.int {H : Type} {P : Program} {t : TypeId} {k : IntKind} (ht : P.underlying t = some (.int k)) (hc : P.cellsOf t = 1) : Ints H P t [k] := by
  refine ⟨hc, fun enc w base spare held fuel cs x h hl j k' hk => ?_⟩
  obtain ⟨z, e, _, hw⟩ := DataW.trod_int ht h
  cases j with
  | zero =>
    have : k' = k := by simpa using hk.symm
    subst this
    exact ⟨z, by rw [e]; rfl, hw⟩
  | succ j => simp at hk
theorem Ints.struct {H : Type} {P : Program} {t : TypeId} {fs : Array Field} {ks : List IntKind} (ht : P.underlying t = some (.struct fs)) (hc : P.cellsOf t = ks.length)
    (hcov : ∀ j k, ks[j]? = some k → ∃ (i : Nat) (f : Field) (ks' : List IntKind), fs[i]? = some f ∧ Ints H P f.type ks' ∧ f.offset ≤ j ∧ f.offset + ks'.length ≤ ks.length ∧ ks'[j - f.offset]? = some k) : Ints H P t ks := by
  refine ⟨hc, fun enc w base spare held fuel cs x h hl j k hk => ?_⟩
  obtain ⟨xs, n, _, rfl, hl', hlen, hf⟩ := DataW.trod_struct ht h
  obtain ⟨i, f, ks', hfi, hI, ho, hle, hk'⟩ := hcov j k hk
  have hi : i < fs.size := (Array.getElem?_eq_some_iff.1 hfi).1
  have hj' : j - f.offset < ks'.length := (List.getElem?_eq_some_iff.1 hk').1
  obtain ⟨y, hy⟩ : ∃ y, xs[i]? = some y := ⟨xs[i]'(by omega), List.getElem?_eq_getElem _⟩
  have h1 := hf i f (by simpa using hfi)
  rw [hy, hI.1] at h1
  have h2 := hI.2 enc w base spare held n _ y h1 (by simp; omega) _ _ hk'
  obtain ⟨z, hz, hw⟩ := h2
  rw [List.getElem?_take_of_lt hj', List.getElem?_drop, Nat.add_sub_cancel' ho] at hz
  exact ⟨z, hz, hw⟩
/-- A slice of such values. -/
theorem open_stuples {H : Type} {enc : TypeId × Value → H} {P : Program} {w : World} {base b0 : Nat} {r : Reach} {spare : Nat → Bool} {held : Bool} {t e : TypeId} {ks : List IntKind} {v : Value} {d : DataW H} {p : List MemPlace}
    (ht : P.underlying t = some (.slice e)) (hI : Ints H P e ks) (hk0 : 0 < ks.length) (hv : Value.okWide P w r b0 t v) (h : DataW.Trod enc P w base spare held t v d p) :
    ∃ (n : Nat) (a : Option Addr) (c : Nat) (g : Nat → Nat → Int), v = .slice a n c ∧ (0 < n → ∃ b o, a = some ⟨b, o, none⟩ ∧ b < w.heap.size ∧ ∀ i j k, i < n → ks[j]? = some k → w.cell? ⟨b, o + i * ks.length + j, none⟩ = some (.int k (g i j))) ∧
      (∀ i j k, i < n → ks[j]? = some k → (Lit.int k (g i j)).wf = true) ∧ n ≤ maxLen := by
  obtain ⟨a1, n1, c1, rfl⟩ := okWide_slice' ht hv
  obtain ⟨fuel, hf⟩ := h
  rcases open_slice ht hf with ⟨hcs, hx⟩ | ⟨a, len, cap, m, nn, D, Pl, hcs, hb, hl, hm, hmm, hx, hel⟩
  · simp [Value.cells] at hcs
    obtain ⟨rfl, rfl, rfl⟩ := hcs
    exact ⟨0, none, 0, fun _ _ => 0, rfl, fun h => absurd h (by decide), fun i j k h => absurd h (by omega), Nat.zero_le _⟩
  · simp [Value.cells] at hcs
    obtain ⟨rfl, rfl, rfl⟩ := hcs
    have hml : n1 ≤ m := by rw [hmm]; split <;> omega
    have each : ∀ i, i < n1 → ∀ j, j < ks.length → ∃ x : Int, ∀ k, ks[j]? = some k → w.cell? (a.add (i * ks.length + j)) = some (.int k x) ∧ (Lit.int k x).wf = true := by
      intro i hi j hj
      obtain ⟨cs', h1, h2⟩ := hel i (by omega)
      rw [hI.1] at h1
      obtain ⟨_, hl2, hcl⟩ := World.cells?_some h1
      have hk : ks[j]? = some ks[j] := List.getElem?_eq_getElem hj
      obtain ⟨z, hz, hw⟩ := hI.2 _ _ _ _ _ _ _ _ h2 hl2 j _ hk
      have hcj := hcl j hj
      rw [Addr.add_add] at hcj
      refine ⟨z, fun k hk' => ?_⟩
      rw [hk] at hk'
      cases hk'
      exact ⟨by rw [hcj, hz], hw⟩
    have key : ∃ g : Nat → Nat → Int, ∀ i j k, i < n1 → ks[j]? = some k → w.cell? (a.add (i * ks.length + j)) = some (.int k (g i j)) ∧ (Lit.int k (g i j)).wf = true := by
      have : ∃ G : Nat → Int, ∀ q, q < n1 * ks.length → ∀ k, ks[q % ks.length]? = some k → w.cell? (a.add q) = some (.int k (G q)) ∧ (Lit.int k (G q)).wf = true := by
        refine choose_lt (α := Int) (p := fun q x => ∀ k, ks[q % ks.length]? = some k → w.cell? (a.add q) = some (.int k x) ∧ (Lit.int k x).wf = true) (fun q hq => ?_)
        have h1 : q / ks.length < n1 := Nat.div_lt_of_lt_mul (by rw [Nat.mul_comm]; exact hq)
        have h2 : q % ks.length < ks.length := Nat.mod_lt _ hk0
        have h3 := each (q / ks.length) h1 (q % ks.length) h2
        rw [Nat.mul_comm, Nat.div_add_mod] at h3
        exact h3
      obtain ⟨G, hG⟩ := this
      refine ⟨fun i j => G (i * ks.length + j), fun i j k hi hk => ?_⟩
      have hj : j < ks.length := (List.getElem?_eq_some_iff.1 hk).1
      have hlt : i * ks.length + j < n1 * ks.length := by
        have : (i + 1) * ks.length ≤ n1 * ks.length := Nat.mul_le_mul_right _ hi
        rw [Nat.add_mul] at this
        omega
      refine hG _ hlt k ?_
      rw [Nat.mul_comm, Nat.mul_add_mod, Nat.mod_eq_of_lt hj]
      exact hk
    obtain ⟨g, hg⟩ := key
    refine ⟨n1, some a, c1, g, rfl, fun h0 => ?_, fun i j k hi hk => (hg i j k hi hk).2, by omega⟩
    have h00 := (hg 0 0 _ h0 (List.getElem?_eq_getElem hk0)).1
    obtain ⟨ab, ao, spot⟩ := a
    have hspot : spot = none := by simpa [Addr.add] using World.cell?_spot h00
    subst hspot
    have h01 : w.cell? ⟨ab, ao, none⟩ = some (.int ks[0] (g 0 0)) := by
      rw [Addr.add_lit] at h00
      simpa using h00
    refine ⟨ab, ao, rfl, World.block_lt_of_cell? w _ h01, fun i j k hi hk => ?_⟩
    have := (hg i j k hi hk).1
    rw [Addr.add_lit, ← Nat.add_assoc] at this
    exact this
end Go.Proofs.Ytapefbmbaofbbaa.Open
