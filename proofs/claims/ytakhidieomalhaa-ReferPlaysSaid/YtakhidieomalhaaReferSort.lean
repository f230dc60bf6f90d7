/- slices.SortFunc at texts, as package refer calls it. -/
import Derived.Test.YtakhidieomalhaaRefer
import Derived.Test.YtakhidieomalhaaSlMore
import Derived.Test.YtakhidieomalhaaSortLay
import Derived.Sort.OwnSorted
namespace Go.Proofs.Ytakhidieomalhaa.Refer
open Go Go.RowKit Go.ChangeMaps Go.Sort Go.Lib Go.Proofs.Ytakhidieomalhaa.Kit Go.Proofs.Ytakhidieomalhaa.Str Go.Proofs.Ytakhidieomalhaa.Names
set_option linter.unusedSimpArgs false
set_option linter.unusedVariables false
def sortS (S : List (List UInt8)) : List (List UInt8) := S.mergeSort fun x y => !ltB y x
theorem le_trans' (a b c : List UInt8) (h1 : (!ltB b a) = true) (h2 : (!ltB c b) = true) : (!ltB c a) = true := by
  rw [Bool.not_eq_true'] at h1 h2 ⊢
  by_cases e : c = a
  · rw [e]; exact ltB_irrefl a
  cases h : ltB c a with
  | false => rfl
  | true =>
    by_cases e2 : a = b
    · rw [e2, h2] at h; cases h
    · have h3 := ltB_trans h (ltB_total (Ne.symm e2) h1)
      rw [h3] at h2
      cases h2
theorem le_total' (a b : List UInt8) : ((!ltB b a) || (!ltB a b)) = true := by
  cases h : ltB b a with
  | false => rfl
  | true => rw [ltB_asymm h]; rfl
theorem sortS_sorted (S : List (List UInt8)) : (sortS S).Pairwise fun a b => (!ltB b a) = true := List.pairwise_mergeSort le_trans' le_total' S
theorem sortS_self (S : List (List UInt8)) : (sortS S).Perm S := List.mergeSort_perm S _
theorem sorted_unique : ∀ {S T : List (List UInt8)}, S.Perm T → S.Pairwise (fun a b => (!ltB b a) = true) → T.Pairwise (fun a b => (!ltB b a) = true) → S = T
  | [], T, h, _, _ => h.nil_eq
  | a :: S, T, h, hs, ht => by
    cases T with
    | nil => exact absurd h.symm.nil_eq (by simp)
    | cons b T =>
      rw [List.pairwise_cons] at hs ht
      have hab : a = b := by
        by_cases e : a = b
        · exact e
        · have h1 : a ∈ T := by
            rcases List.mem_cons.1 (h.mem_iff.1 List.mem_cons_self) with h1 | h1
            · exact absurd h1 e
            · exact h1
          have h2 : b ∈ S := by
            rcases List.mem_cons.1 (h.mem_iff.2 List.mem_cons_self) with h2 | h2
            · exact absurd h2.symm e
            · exact h2
          have h3 := ht.1 a h1
          have h4 := hs.1 b h2
          rw [Bool.not_eq_true'] at h3 h4
          have := ltB_total e h3
          rw [this] at h4
          cases h4
      subst hab
      rw [sorted_unique (List.Perm.cons_inv h) hs.2 ht.2]
theorem sortS_perm {S T : List (List UInt8)} (h : S.Perm T) : sortS S = sortS T := sorted_unique (((sortS_self S).trans h).trans (sortS_self T).symm) (sortS_sorted S) (sortS_sorted T)
/-- What cmp.Compare answers. -/
def cmpV (a b : List UInt8) : Int := if ltB a b = true then -1 else if ltB b a = true then 1 else 0
theorem nan_any (a : List UInt8) (w : World) : Calls Try.prog 26 #[st a] w fun e w' => e = .returned (.bool false) ∧ w = w' := by
  go_enter Try.func26, Try.ntmps26
  go_wp2
  go_ret
  refine ⟨?_, rfl⟩
  simp
theorem cmp_any (a b : List UInt8) (w : World) : Calls Try.prog 20 #[st a, st b] w fun e w' => e = .returned (.int .i64 (cmpV a b)) ∧ w = w' := by
  unfold cmpV
  cases h1 : ltB a b with
  | true =>
    rw [if_pos rfl]
    go_enter Try.func20, Try.ntmps20
    go_wp2_with fail
    refine (nan_any a _).mono ?_
    rintro e w' ⟨rfl, rfl⟩
    go_wp2_with fail
    refine (nan_any b _).mono ?_
    rintro e w' ⟨rfl, rfl⟩
    go_wp2
    go_ret
    exact ⟨rfl, rfl⟩
  | false =>
    cases h2 : ltB b a with
    | true =>
      have he : (a == b) = false := by rw [beq_eq_false_iff_ne]; exact (ltB_ne h2).symm
      rw [if_neg (by decide), if_pos rfl]
      go_enter Try.func20, Try.ntmps20
      go_wp2_with fail
      refine (nan_any a _).mono ?_
      rintro e w' ⟨rfl, rfl⟩
      go_wp2_with fail
      refine (nan_any b _).mono ?_
      rintro e w' ⟨rfl, rfl⟩
      go_wp2
      go_ret
      exact ⟨rfl, rfl⟩
    | false =>
      obtain rfl : a = b := by
        by_cases e : a = b
        · exact e
        · rw [ltB_total e h1] at h2; cases h2
      rw [if_neg (by decide), if_neg (by decide)]
      go_enter Try.func20, Try.ntmps20
      go_wp2_with fail
      refine (nan_any a _).mono ?_
      rintro e w' ⟨rfl, rfl⟩
      go_wp2_with fail
      refine (nan_any a _).mono ?_
      rintro e w' ⟨rfl, rfl⟩
      go_wp2
      go_ret
      exact ⟨rfl, rfl⟩
theorem of1_any (a b : List UInt8) (w : World) : Calls Try.prog 19 #[st a, st b] w fun e w' => e = .returned (.int .i64 (cmpV a b)) ∧ w = w' := by
  go_enter Try.func19, Try.ntmps19
  go_wp2_with fail
  refine (cmp_any a b _).mono ?_
  rintro e w' ⟨rfl, rfl⟩
  go_wp2
  go_ret
  exact ⟨rfl, rfl⟩
theorem lt_cmp (a b : List UInt8) : ltOf cmpV a b = ltB a b := by
  unfold ltOf cmpV
  cases h1 : ltB a b with
  | true => simp
  | false =>
    cases h2 : ltB b a with
    | true => simp
    | false => simp
theorem swo : SWO (ltOf cmpV) := by
  refine ⟨fun x => ?_, fun x y z h1 h2 => ?_, fun x y z h1 h2 => ?_⟩
  · rw [lt_cmp]; exact ltB_irrefl x
  · rw [lt_cmp] at h1 h2 ⊢; exact ltB_trans h1 h2
  · rw [lt_cmp] at h1 h2 ⊢
    have := le_trans' z y x (by rw [h2]; rfl) (by rw [h1]; rfl)
    simpa using this
theorem total {x y : List UInt8} (h1 : ltOf cmpV x y = false) (h2 : ltOf cmpV y x = false) : x = y := by
  rw [lt_cmp] at h1 h2
  by_cases e : x = y
  · exact e
  · rw [ltB_total e h1] at h2; cases h2
theorem heap_sortW {w : World} {g o n : Nat} {os : Array Obj} {cur : Array Value} {e : TypeId} {fr : Nat × Nat} (d : Array (List UInt8)) (hb : w.heap[g]? = some (.cells cur e fr)) :
    (sortWorld st w g o n d os).heap[g]? = some (.cells (putCells st o d cur) e fr) := by
  have hg : g < w.heap.size := (Array.getElem?_eq_some_iff.1 hb).1
  unfold sortWorld
  rw [heap_grow_old _ _ (by simpa using hg)]
  simp [putRow, mapBlock, Sort.ahead, Array.getElem?_modify, hb, onCells]
theorem grown_sortW {w : World} {g o n : Nat} {os : Array Obj} (d : Array (List UInt8)) : w.grownBy (sortWorld st w g o n d os) (some g) := by
  unfold sortWorld
  refine ⟨rfl, rfl, rfl, by simp, fun k hk hne => ?_⟩
  rw [heap_grow_old _ _ (by simpa using hk)]
  have : g ≠ k := fun e => hne (by rw [e])
  simp [putRow, mapBlock, Sort.ahead, Array.getElem?_modify, this]
theorem drop_putCells (o : Nat) (cur : Array Value) (ts : List (List UInt8)) (h : o + ts.length ≤ cur.size) : ((putCells st o ts.toArray cur).toList.drop o).take ts.length = ts.map st := by
  apply List.ext_getElem?
  intro j
  by_cases hj : j < ts.length
  · rw [List.getElem?_take_of_lt hj, List.getElem?_drop, Array.getElem?_toList]
    simp [putCells, hj, show o + j < cur.size by omega]
  · rw [List.getElem?_take_eq_none (by omega), List.getElem?_eq_none (by simp; omega)]
theorem sort_any (S : List (List UInt8)) (v : Value) (B : Nat) (w : World) (h : Sl w B 9 1 v S.length (S.map st)) (hl : S.length < 4611686018427387904) :
    Calls Try.prog 18 #[v, .func (.func 19) #[] #[]] w fun e w' => e = .returned (.tuple #[]) ∧ Sl w' B 9 1 v S.length ((sortS S).map st) ∧ w.grownBy w' v.ownBlock := by
  have hlen : (sortS S).length = S.length := (sortS_self S).length_eq
  rcases h.2 with ⟨rfl, h0⟩ | ⟨g, o, cap, cur, rfl, hbase, hb, hn, hm, hs, ht⟩
  · have := AnyF.slices_SortFunc_none (P := Try.prog) (ρ := sortRen) { sortLay with } none 0 (.func (.func 19) #[] #[]) w
    refine Calls.mono this ?_
    rintro e w' ⟨rfl, rfl⟩
    have hnil : S = [] := List.eq_nil_of_length_eq_zero h0
    subst hnil
    exact ⟨rfl, by rw [show sortS [] = [] from by unfold sortS; simp]; exact Sl.nil _ _ _ _, ⟨rfl, rfl, rfl, Nat.le_refl _, fun _ _ _ => rfl⟩⟩
  · rw [Nat.mul_one] at ht hs
    have hH : Holds st w g o S.toArray := by
      intro j hj
      have hj' : j < S.length := by simpa using hj
      refine ⟨?_, by simp [World.frozen?, hb]⟩
      have h1 : ((cur.toList.drop o).take S.length)[j]? = (S.map st)[j]? := by rw [ht]
      rw [List.getElem?_take_of_lt hj', List.getElem?_drop] at h1
      simp only [World.cell?, hb]
      simp only [Option.isSome_none, Bool.false_eq_true, if_false]
      rw [← Array.getElem?_toList, h1]
      simp [hj']
    have eg : ∀ args w, (callFunc 19 args).run Try.prog w = .ok (.enter 19 args) w := enters_of Try.func19 (by kernel_rfl) rfl
    have hcmp : CmpReads Try.prog 19 #[] st cmpV g o S.toArray.size w := fun m os dk _ x y => (of1_any x y _).mono fun e w' h => ⟨h.1, 0, h.2.symm⟩
    have hsz : S.toArray.size = S.length := by simp
    have hq := Any.slices_SortFunc_total sortLay st (fun _ => rfl) cmpV swo 19 #[] g o cap S.toArray w eg hcmp.lays hH (Array.getElem?_eq_some_iff.1 hb).1 (by rw [hsz]; exact hl) (fun x y h1 h2 => total h1 h2)
    rw [hsz] at hq
    refine Calls.mono hq ?_
    rintro e w' ⟨rfl, n, os, rfl⟩
    have hss : (S.toArray.toList.mergeSort fun x y => !ltOf cmpV y x) = sortS S := by
      unfold sortS
      congr 1
      funext x y
      rw [lt_cmp]
    rw [hss]
    refine ⟨rfl, ⟨by rw [List.length_map, hlen, Nat.mul_one], .inr ⟨g, o, cap, _, rfl, hbase, heap_sortW _ hb, hn, hm, by simp [putCells]; omega, ?_⟩⟩, grown_sortW _⟩
    rw [Nat.mul_one, ← hlen]
    exact drop_putCells o cur (sortS S) (by omega)
end Go.Proofs.Ytakhidieomalhaa.Refer
