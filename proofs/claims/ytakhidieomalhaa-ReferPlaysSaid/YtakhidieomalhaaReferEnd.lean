/- ReferPlays: what the last loops of a round find. Plain lists. -/
import Derived.Test.YtakhidieomalhaaReferPlay
import Derived.Test.YtakhidieomalhaaReferIns
namespace Go.Proofs.Ytakhidieomalhaa.Refer
open Go Go.RowKit Go.ChangeMaps Go.Proofs.Ytakhidieomalhaa.Kit Go.Proofs.Ytakhidieomalhaa.Str Go.Proofs.Ytakhidieomalhaa.Names
set_option linter.unusedSimpArgs false
set_option linter.unusedVariables false
/-- What is found among the first q. -/
def FoundIs (P : List Dd) (r : Int) (s : List UInt8) (q : Nat) (V : Int) (Bo : Bool) : Prop := findV (toL (P.take q)) (r, s) = V ∧ (get? (toL (P.take q)) (r, s)).isSome = Bo
/-- The names found among the first q, in order. -/
def NamesIs (P : List Dd) (r n : Int) (q : Nat) (Ns : List (List UInt8)) : Prop := Ns.Perm (namesP (P.take q) r n) ∧ Ns.Pairwise fun a b => (!ltB b a) = true
section
variable {P : List Dd} {r n V : Int} {s : List UInt8} {q : Nat} {Bo : Bool} {Ns : List (List UInt8)} {x : Dd}
theorem FoundIs.zero : FoundIs P r s 0 0 false := ⟨rfl, rfl⟩
theorem FoundIs.hit (hn : ((toL P).map Prod.fst).Nodup) (hx : P[q]? = some x) (e1 : x.2.1 = r) (e2 : x.2.2.2 = s) : FoundIs P r s (q + 1) x.2.2.1 true := by
  have hn2 : ((toL (P.take (q + 1))).map Prod.fst).Nodup := by
    refine hn.sublist ?_
    unfold toL
    exact ((List.take_sublist _ _).map _).map _
  have hx2 : (P.take (q + 1))[q]? = some x := by rw [List.getElem?_take_of_lt (Nat.lt_succ_self _)]; exact hx
  have h := at_some hn2 hx2 e1 e2
  exact ⟨by unfold findV; rw [h]; rfl, by rw [h]; rfl⟩
theorem FoundIs.miss (h : FoundIs P r s q V Bo) (hx : P[q]? = some x) (e : ¬ (x.2.1 = r ∧ x.2.2.2 = s)) : FoundIs P r s (q + 1) V Bo := by
  have hg : get? (toL (P.take (q + 1))) (r, s) = get? (toL (P.take q)) (r, s) := by
    rw [List.take_add_one, hx, toL_app]
    unfold get?
    rw [List.find?_append]
    have : (toL (some x).toList).find? (fun p => decide (p.1 = (r, s))) = none := by
      rw [List.find?_eq_none]
      intro p hp
      have : p = kv x := by simpa [toL] using hp
      subst this
      intro h2
      have := of_decide_eq_true h2
      simp only [kv, Prod.mk.injEq] at this
      exact e this
    rw [this, Option.or_none]
  unfold FoundIs findV
  rw [hg]
  exact h
theorem FoundIs.all (h : FoundIs P r s P.length V Bo) : findV (toL P) (r, s) = V ∧ (get? (toL P) (r, s)).isSome = Bo := by
  unfold FoundIs at h
  rw [List.take_length] at h
  exact h
theorem NamesIs.zero : NamesIs P r n 0 [] := ⟨List.Perm.refl _, List.Pairwise.nil⟩
theorem namesP_no (hx : P[q]? = some x) (e : ¬ (x.2.1 = r ∧ x.2.2.1 = n)) : namesP (P.take (q + 1)) r n = namesP (P.take q) r n := by
  unfold namesP
  rw [List.take_add_one, hx, List.filter_append, Option.toList_some, List.filter_cons]
  rw [if_neg (by simpa using e)]
  simp
theorem namesP_yes (hx : P[q]? = some x) (e1 : x.2.1 = r) (e2 : x.2.2.1 = n) : namesP (P.take (q + 1)) r n = namesP (P.take q) r n ++ [x.2.2.2] := by
  unfold namesP
  rw [List.take_add_one, hx, List.filter_append, Option.toList_some, List.filter_cons]
  rw [if_pos (by simp [e1, e2])]
  simp
theorem NamesIs.miss (h : NamesIs P r n q Ns) (hx : P[q]? = some x) (e : ¬ (x.2.1 = r ∧ x.2.2.1 = n)) : NamesIs P r n (q + 1) Ns := by
  unfold NamesIs
  rw [namesP_no hx e]
  exact h
theorem NamesIs.hit (h : NamesIs P r n q Ns) (hx : P[q]? = some x) (e1 : x.2.1 = r) (e2 : x.2.2.1 = n) {j : Nat} (hlow : ∀ i y, i < j → Ns[i]? = some y → ltB x.2.2.2 y = false) (hup : ∀ i y, j ≤ i → Ns[i]? = some y → ltB x.2.2.2 y = true) : NamesIs P r n (q + 1) (Ns.take j ++ x.2.2.2 :: Ns.drop j) := by
  refine ⟨?_, ins_sorted h.2 hlow hup⟩
  rw [namesP_yes hx e1 e2]
  exact ((ins_perm Ns j x.2.2.2).trans (h.1.cons _)).trans (List.perm_append_singleton _ _).symm
theorem namesP_len (P : List Dd) (r n : Int) : (namesP P r n).length ≤ P.length := by
  unfold namesP
  rw [List.length_map]
  exact List.length_filter_le _ _
theorem NamesIs.len (h : NamesIs P r n q Ns) : Ns.length ≤ q := by
  rw [h.1.length_eq]
  refine Nat.le_trans (namesP_len _ _ _) ?_
  rw [List.length_take]; omega
theorem NamesIs.all (h : NamesIs P r n P.length Ns) : sortS (namesOf (toL P) r n) = Ns := by
  have h1 := h.1
  rw [List.take_length] at h1
  rw [namesP_eq, ← sortS_perm h1]
  exact sorted_unique (sortS_self Ns) (sortS_sorted Ns) h.2
/-- The place of the new one, on the way down from the end. -/
def PlaceIs (Ns : List (List UInt8)) (s : List UInt8) (J : Nat) : Prop := ∀ i y, J ≤ i → Ns[i]? = some y → ltB s y = true
theorem PlaceIs.top : PlaceIs Ns s Ns.length := fun i y hi hy => absurd (List.getElem?_eq_some_iff.1 hy).1 (by omega)
theorem PlaceIs.down {J : Nat} {y : List UInt8} (h : PlaceIs Ns s (J + 1)) (hy : Ns[J]? = some y) (hl : ltB s y = true) : PlaceIs Ns s J := by
  intro i z hi hz
  by_cases e : i = J
  · subst e; rw [hy] at hz; cases hz; exact hl
  · exact h i z (by omega) hz
theorem names_ins (Ns : List (List UInt8)) (J : Nat) (s : List UInt8) : (Ns.map st).take J ++ st s :: (Ns.map st).drop J = (Ns.take J ++ s :: Ns.drop J).map st := by
  rw [List.map_append, List.map_cons, List.map_take, List.map_drop]
theorem ins_len {J : Nat} (h : J ≤ Ns.length) (s : List UInt8) : (Ns.take J ++ s :: Ns.drop J).length = Ns.length + 1 := by
  rw [List.length_append, List.length_cons, List.length_take, List.length_drop]; omega
theorem names_one (Ns : List (List UInt8)) : ∀ u ∈ Ns.map st, u.oneCell' = true := by
  intro u hu
  obtain ⟨x, _, rfl⟩ := List.mem_map.1 hu
  rfl
theorem names_ls {w : World} {B : Nat} {v : Value} (h : Sl w B 9 1 v Ns.length (Ns.map st)) : LsAt 1 sc w v Ns := LsAt.of_sl sc_len (by rw [flat_sc]; exact h)
end
section
variable {w : World} {base size n cap : Nat} {e : TypeId} {cs : List Value} {a : Addr}
/-- A slice with an address, of any length. -/
theorem Sl.form' (h : Sl w base e size (.slice (some a) n cap) n cs) : ∃ g o, a = ⟨g, o, none⟩ ∧ n ≤ cap ∧ cap ≤ maxLen ∧ (∀ i u, cs[i]? = some u → w.cell? ⟨g, o + i, none⟩ = some u) := by
  rcases h.2 with ⟨e, _⟩ | ⟨g, o, cap', cur, hv, hb, hg, hnc, hm, hs, ht⟩
  · cases e
  · injection hv with h1 h2 h3
    injection h1 with h1
    subst h3
    refine ⟨g, o, h1, hnc, hm, fun i u hu => ?_⟩
    subst h1
    by_cases hn : 0 < n
    · obtain ⟨g', o', c', hv', _, _, _, hc, _⟩ := Sl.form h hn
      injection hv' with h1 _ _
      injection h1 with h1
      cases h1
      exact hc i u hu
    · have := h.1
      have hl := (List.getElem?_eq_some_iff.1 hu).1
      have : n = 0 := by omega
      subst this
      omega
theorem Sl.none0 (h : Sl w base e size (.slice none n cap) n cs) : n = 0 ∧ cap = 0 := by
  rcases h.2 with ⟨e, h0⟩ | ⟨g, o, cap', cur, hv, _⟩
  · injection e with _ _ h3
    exact ⟨h0, h3⟩
  · cases hv
end
end Go.Proofs.Ytakhidieomalhaa.Refer
