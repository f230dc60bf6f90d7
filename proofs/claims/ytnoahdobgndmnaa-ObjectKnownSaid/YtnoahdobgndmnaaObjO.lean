/- How objects came in open. -/
import Derived.Test.YtnoahdobgndmnaaObjE
import Derived.Test.YtnoahdobgndmnaaOpenG
namespace Go.Proofs.Ytnoahdobgndmnaa.Law
open Go Go.RowKit Go.ChangeShapes Go.WideShapes Go.Proofs.Ytnoahdobgndmnaa.Kit Go.Proofs.Ytnoahdobgndmnaa.Str Go.Proofs.Ytnoahdobgndmnaa.Open Go.Proofs.Ytnoahdobgndmnaa.Obj
set_option linter.unusedSimpArgs false
set_option linter.unusedVariables false
theorem rsl_ls {α : Type} {f : α → List Value} {Q : α → Prop} {k : Nat} {R : World → List Value → Prop} {w : World} {cs : List Value} (h : RSl k R w cs) (hR : ∀ w ds, R w ds → ∃ x, ds = f x ∧ Q x) : ∃ v xs, cs = [v] ∧ LsAt k f w v xs ∧ ∀ x ∈ xs, Q x := by
  obtain ⟨a, n, c, rfl, hnc, hm, hel⟩ := h
  rcases Nat.eq_zero_or_pos n with h0 | h0
  · exact ⟨_, [], rfl, ⟨a, c, by rw [h0]; rfl, Nat.zero_le _, hm, fun h => absurd h (by simp)⟩, fun x hx => by simp at hx⟩
  · obtain ⟨b, o, rfl, hb, hc⟩ := hel h0
    obtain ⟨xs, hl, hx⟩ := list_of (α := α) (p := fun i x => (∀ j u, (f x)[j]? = some u → w.cell? ⟨b, o + i * k + j, none⟩ = some u) ∧ Q x) n (fun i hi => by
      obtain ⟨ds, hd, hcell, hr⟩ := hc i hi
      obtain ⟨x, rfl, hq⟩ := hR w ds hr
      exact ⟨x, hcell, hq⟩)
    refine ⟨_, xs, rfl, ⟨_, c, by rw [hl], by omega, hm, fun _ => ⟨b, o, rfl, hb, fun i x hi => (hx i x hi).1⟩⟩, fun x hm => ?_⟩
    obtain ⟨i, hi, rfl⟩ := List.getElem_of_mem hm
    exact (hx i _ (List.getElem?_eq_getElem hi)).2
theorem open_obj {H : Type} {enc : TypeId × Value → H} {W : World} {base : Nat} {v : Value} {d : DataW H} {p : List MemPlace} {b0 : Nat} {r : Reach} {sp : Nat → Bool} {held : Bool} (k : Value.okWide Try.prog W r b0 27 v) (h : DataW.Trod enc Try.prog W base sp held 27 v d p) :
    ∃ O : Ob, ObAt W v O ∧ Lens O := by
  have oW : Opens H Try.prog 22 1 _ := Opens.slice Try.underlying22 (by kernel_rfl) (Opens.int Try.underlying37 (by kernel_rfl)) (by decide)
  have oD : Opens H Try.prog 41 2 _ := Opens.struct [(1, RStr), (1, RInt .i64)] Try.underlying41 (by kernel_rfl) rfl (by
    intro i f p hf hp
    rcases i with _ | _ | i
    · cases hf; cases hp; exact ⟨Opens.str Try.underlying9 (by kernel_rfl), rfl⟩
    · cases hf; cases hp; exact ⟨Opens.int Try.underlying3 (by kernel_rfl), rfl⟩
    · simp at hp)
  have oL : Opens H Try.prog 43 3 _ := Opens.struct [(1, RStr), (1, RStr), (1, RInt .i64)] Try.underlying43 (by kernel_rfl) rfl (by
    intro i f p hf hp
    rcases i with _ | _ | _ | i
    · cases hf; cases hp; exact ⟨Opens.str Try.underlying9 (by kernel_rfl), rfl⟩
    · cases hf; cases hp; exact ⟨Opens.str Try.underlying9 (by kernel_rfl), rfl⟩
    · cases hf; cases hp; exact ⟨Opens.int Try.underlying3 (by kernel_rfl), rfl⟩
    · simp at hp)
  have oSD := Opens.slice Try.underlying24 (by kernel_rfl) oD (by decide)
  have oSL := Opens.slice Try.underlying25 (by kernel_rfl) oL (by decide)
  have oO : Opens H Try.prog 27 4 _ := Opens.struct [(1, RSl 1 (RInt .u64)), (1, RSl 1 (RInt .u64)), (1, RSl 2 (RStruct [(1, RStr), (1, RInt .i64)])), (1, RSl 3 (RStruct [(1, RStr), (1, RStr), (1, RInt .i64)]))] Try.underlying27 (by kernel_rfl) rfl (by
    intro i f p hf hp
    rcases i with _ | _ | _ | _ | i
    · cases hf; cases hp; exact ⟨oW, rfl⟩
    · cases hf; cases hp; exact ⟨oW, rfl⟩
    · cases hf; cases hp; exact ⟨oSD, rfl⟩
    · cases hf; cases hp; exact ⟨oSL, rfl⟩
    · simp at hp)
  have hw : ∀ (w : World) (ds : List Value), RInt .u64 w ds → ∃ x : Nat, ds = uw x ∧ True := by
    rintro w ds ⟨z, rfl, hz⟩
    obtain ⟨z0, _⟩ := wf_u64 hz
    obtain ⟨n, rfl⟩ := Int.eq_ofNat_of_zero_le z0
    exact ⟨n, rfl, trivial⟩
  have hd : ∀ (w : World) (ds : List Value), RStruct [(1, RStr), (1, RInt .i64)] w ds → ∃ x : Df, ds = ud x ∧ x.1.length ≤ maxLen := by
    rintro w ds ⟨c1, c2, rfl, _, ⟨l, rfl, hl⟩, c3, c4, rfl, _, ⟨z, rfl, _⟩, rfl⟩
    exact ⟨(l, z), rfl, hl⟩
  have hk : ∀ (w : World) (ds : List Value), RStruct [(1, RStr), (1, RStr), (1, RInt .i64)] w ds → ∃ x : Lk, ds = ul x ∧ (x.1.length ≤ maxLen ∧ x.2.1.length ≤ maxLen) := by
    rintro w ds ⟨c1, c2, rfl, _, ⟨l, rfl, hl⟩, c3, c4, rfl, _, ⟨m, rfl, hm⟩, c5, c6, rfl, _, ⟨z, rfl, _⟩, rfl⟩
    exact ⟨(l, m, z), rfl, hl, hm⟩
  obtain ⟨cs, rfl, hR⟩ := oO.agg Try.underlying27 k h
  obtain ⟨c1, r1, rfl, _, h1, c2, r2, rfl, _, h2, c3, r3, rfl, _, h3, c4, r4, rfl, _, h4, rfl⟩ := hR
  obtain ⟨v1, x1, rfl, l1, _⟩ := rsl_ls h1 hw
  obtain ⟨v2, x2, rfl, l2, _⟩ := rsl_ls h2 hw
  obtain ⟨v3, x3, rfl, l3, q3⟩ := rsl_ls h3 hd
  obtain ⟨v4, x4, rfl, l4, q4⟩ := rsl_ls h4 hk
  exact ⟨⟨x1, x2, x3, x4⟩, ⟨v1, v2, v3, v4, rfl, l1, l2, l3, l4⟩, ⟨q3, q4⟩⟩
end Go.Proofs.Ytnoahdobgndmnaa.Law
