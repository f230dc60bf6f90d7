/- A region that draws its order: an invariant that every operation keeps, whichever comes up. -/
import Derived.Test.YtnoahdobgndmnaaKit
import Derived.OrdersHeld
import Derived.Still
namespace Go.Proofs.Ytnoahdobgndmnaa.Kit
open Go Go.RowKit
set_option linter.unusedSimpArgs false
set_option linter.unusedVariables false
section
variable {P : Program} {ops : Array Oper} {Q : Exit → Act → World → Prop}
/-- The operations that have not come up. -/
def openOps (ops : Array Oper) (listed : Array Bool) : List Nat := (List.range ops.size).filter fun i => !listed.getD i true
theorem mem_openOps {listed : Array Bool} {i : Nat} : i ∈ openOps ops listed ↔ i < ops.size ∧ listed.getD i true = false := by
  unfold openOps
  simp [List.mem_filter, List.mem_range]
theorem ready_open {listed : Array Bool} {i : Nat} (h : i ∈ Region.ready .any ops listed) : i ∈ openOps ops listed := by
  unfold Region.ready at h
  rw [List.mem_filter, Bool.and_eq_true] at h
  unfold openOps
  rw [List.mem_filter]
  exact ⟨h.1, h.2.1⟩
theorem openOps_less {listed : Array Bool} {i : Nat} (h : i ∈ openOps ops listed) : (openOps ops (listed.setIfInBounds i true)).length < (openOps ops listed).length := by
  have e : openOps ops (listed.setIfInBounds i true) = (openOps ops listed).filter (fun j => decide (j ≠ i)) := by
    unfold openOps
    rw [List.filter_filter]
    apply List.filter_congr
    intro j hj
    by_cases e : j = i
    · subst e
      have := (mem_openOps.1 h).2
      have hs : j < listed.size := by
        refine Nat.lt_of_not_le fun hle => ?_
        rw [Array.getD_eq_getD_getElem?, Array.getElem?_eq_none hle] at this
        cases this
      simp [Array.getD_eq_getD_getElem?, hs]
    · have : (listed.setIfInBounds i true).getD j true = listed.getD j true := by
        rw [Array.getD_eq_getD_getElem?, Array.getD_eq_getD_getElem?, Array.getElem?_setIfInBounds_ne (fun h => e h.symm)]
      rw [this]
      simp [e]
  rw [e]
  exact List.length_filter_lt_length_iff_exists.2 ⟨i, h, by simp⟩
theorem wpAny_inv (I : Array Bool → Act → World → Prop)
    (hs : ∀ listed a w i o, I listed a w → i ∈ Region.ready .any ops listed → ops[i]? = some o → wpOp P ops Q i (fun a' w' => I (listed.setIfInBounds i true) a' w') a w)
    (he : ∀ listed a w, Region.ready .any ops listed = [] → I listed a w → Q .normal a w) : ∀ (fuel : Nat) (listed : Array Bool) (a : Act) (w : World), (openOps ops listed).length ≤ fuel → I listed a w → wpAny P .any ops Q fuel listed a w
  | 0, listed, a, w, hf, h => by
    have hr : Region.ready .any ops listed = [] := by
      refine List.eq_nil_iff_forall_not_mem.2 fun i hi => ?_
      have := ready_open hi
      rw [List.eq_nil_of_length_eq_zero (Nat.le_zero.1 hf)] at this
      cases this
    exact ⟨hr, he _ _ _ hr h⟩
  | fuel + 1, listed, a, w, hf, h => by
    refine ⟨fun hr => he _ _ _ hr h, fun i hi => ?_⟩
    have ho := ready_open hi
    have hl := openOps_less ho
    have hlt := (mem_openOps.1 ho).1
    refine wpOp_mono (fun a' w' h' => wpAny_inv I hs he fuel _ a' w' (by omega) h') (hs listed a w i ops[i] h hi (Array.getElem?_eq_getElem hlt))
/-- The region's law: I at the beginning; each operation that may come up keeps it; at the end it gives what follows. -/
theorem wp_region_inv {id : Nat} {a : Act} {w : World} (I : Array Bool → Act → World → Prop) (hm : P.follows .mixedOrders = true) (h0 : I (Array.replicate ops.size false) a w.drew)
    (hs : ∀ listed a w i o, I listed a w → i ∈ Region.ready .any ops listed → ops[i]? = some o → wpOp P ops Q i (fun a' w' => I (listed.setIfInBounds i true) a' w') a w)
    (he : ∀ listed a w, Region.ready .any ops listed = [] → I listed a w → Q .normal a w) : (Code.region id ops true).wp P Q a w := by
  refine wp_region_any hm (wpAny_inv I hs he _ _ _ _ ?_ h0)
  refine Nat.le_trans (List.length_filter_le _ _) ?_
  rw [List.length_range]
  exact Nat.le_refl _
/-- Nothing comes up any more: all has come up, where each waits for earlier ones alone. -/
theorem all_listed {listed : Array Bool} (ha : ∀ (i : Nat) (o : Oper), ops[i]? = some o → ∀ e ∈ o.after, e.on < i) (hr : Region.ready .any ops listed = []) : ∀ i, i < ops.size → listed.getD i true = true := by
  intro i
  induction i using Nat.strongRecOn with
  | _ i ih =>
    intro hi
    cases hl : listed.getD i true with
    | true => rfl
    | false =>
      exfalso
      have : i ∈ Region.ready .any ops listed := by
        unfold Region.ready
        rw [List.mem_filter, List.mem_range, Bool.and_eq_true]
        refine ⟨hi, by rw [hl]; rfl, ?_⟩
        rw [Array.getElem?_eq_getElem hi]
        show (ops[i].after.all fun e => !Region.binds .any e || listed.getD e.on false) = true
        rw [Array.all_eq_true_iff_forall_mem]
        intro e hm
        have h1 := ha i ops[i] (Array.getElem?_eq_getElem hi) e hm
        have h2 := ih e.on h1 (by omega)
        have hsz : e.on < listed.size := by
          have hs2 : i < listed.size := by
            refine Nat.lt_of_not_le fun hle => ?_
            rw [Array.getD_eq_getD_getElem?, Array.getElem?_eq_none hle] at hl
            cases hl
          omega
        have h3 : listed.getD e.on false = true := by
          rw [Array.getD_eq_getD_getElem?, Array.getElem?_eq_getElem hsz] at h2 ⊢
          exact h2
        rw [h3, Bool.or_true]
      rw [hr] at this
      cases this
end
end Go.Proofs.Ytnoahdobgndmnaa.Kit
