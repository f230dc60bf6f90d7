/- ReferPlays: what it says, in plain lists. -/
import Derived.Test.YtakhidieomalhaaReferMany
import Derived.Test.YtakhidieomalhaaApp
namespace Go.Proofs.Ytakhidieomalhaa.Refer
open Go Go.RowKit Go.ChangeMaps Go.Proofs.Ytakhidieomalhaa.Kit Go.Proofs.Ytakhidieomalhaa.Str Go.Proofs.Ytakhidieomalhaa.Names
set_option linter.unusedSimpArgs false
set_option linter.unusedVariables false
/-- A deed: what, ring, segment, name. -/
abbrev Dd := Int × Int × Int × List UInt8
def dc (d : Dd) : List Value := [.int .i64 d.1, .int .i64 d.2.1, .int .i64 d.2.2.1, st d.2.2.2]
theorem dc_len (d : Dd) : (dc d).length = 4 := rfl
theorem dc_one (d : Dd) : ∀ u ∈ dc d, u.oneCell' = true := by
  intro u hu
  simp only [dc, List.mem_cons, List.not_mem_nil, or_false] at hu
  rcases hu with rfl | rfl | rfl | rfl <;> rfl
theorem dcs_one (P : List Dd) : ∀ u ∈ flatOf dc P, u.oneCell' = true := by
  intro u hu
  obtain ⟨x, _, hx⟩ := List.mem_flatMap.1 hu
  exact dc_one x u hx
def kv (d : Dd) : Key × Int := ((d.2.1, d.2.2.2), d.2.2.1)
def toL (P : List Dd) : List (Key × Int) := P.map kv
theorem toL_app (P Q : List Dd) : toL (P ++ Q) = toL P ++ toL Q := List.map_append
theorem toL_len (P : List Dd) : (toL P).length = P.length := List.length_map ..
/-- The place of the last of the first q with this ring and name, or -1. -/
def AtIs (P : List Dd) (r : Int) (s : List UInt8) (q : Nat) (at_ : Int) : Prop :=
  (at_ = -1 ∧ ∀ (i : Nat) (x : Dd), i < q → P[i]? = some x → ¬ (x.2.1 = r ∧ x.2.2.2 = s)) ∨ ∃ (i : Nat) (x : Dd), i < q ∧ at_ = i ∧ P[i]? = some x ∧ x.2.1 = r ∧ x.2.2.2 = s
section
variable {P : List Dd} {r : Int} {s : List UInt8} {q : Nat} {ai : Int}
theorem AtIs.hit {x : Dd} (hx : P[q]? = some x) (e1 : x.2.1 = r) (e2 : x.2.2.2 = s) : AtIs P r s (q + 1) (q : Int) := .inr ⟨q, x, Nat.lt_succ_self _, rfl, hx, e1, e2⟩
theorem AtIs.miss {x : Dd} (h : AtIs P r s q ai) (hx : P[q]? = some x) (e : ¬ (x.2.1 = r ∧ x.2.2.2 = s)) : AtIs P r s (q + 1) ai := by
  rcases h with ⟨h1, h2⟩ | ⟨i, y, h1, h2⟩
  · refine .inl ⟨h1, fun i y hi hy => ?_⟩
    by_cases e2 : i = q
    · subst e2; rw [hx] at hy; cases hy; exact e
    · exact h2 i y (by omega) hy
  · exact .inr ⟨i, y, by omega, h2⟩
theorem AtIs.none (h : AtIs P r s P.length (-1)) : get? (toL P) (r, s) = none := by
  rcases h with ⟨_, h⟩ | ⟨i, x, _, h, _⟩
  · rw [get?_none]
    intro p hp e
    obtain ⟨x, hx, rfl⟩ := List.mem_map.1 hp
    obtain ⟨i, hi⟩ := List.getElem?_of_mem hx
    refine h i x (List.getElem?_eq_some_iff.1 hi).1 hi ?_
    simp only [kv, Prod.mk.injEq] at e
    exact e
  · omega
theorem at_some {i : Nat} {x : Dd} (hn : ((toL P).map Prod.fst).Nodup) (hx : P[i]? = some x) (e1 : x.2.1 = r) (e2 : x.2.2.2 = s) : get? (toL P) (r, s) = some x.2.2.1 :=
  get?_of_mem hn (by
    have : kv x ∈ toL P := List.mem_map.2 ⟨x, List.mem_of_getElem? hx, rfl⟩
    rw [← e1, ← e2]
    exact this)
theorem put_toL {n : Int} (hn : ((toL P).map Prod.fst).Nodup) (h : get? (toL P) (r, s) = some n) : put (toL P) (r, s) n = toL P := by
  rw [put_of_some h]
  refine (List.map_congr_left fun p hp => ?_).trans (List.map_id _)
  by_cases e : p.1 = (r, s)
  · rw [if_pos e]
    have := get?_of_mem hn (x := p.1) (r := p.2) hp
    rw [e, h] at this
    exact Prod.ext e.symm (Option.some.inj this)
  · rw [if_neg e]; rfl
theorem bind_arg {n : Int} (h : r < 0 ∨ 7 < r ∨ n < 1 ∨ 63 < n) : bindE (toL P) r s n = 1 ∧ bindL (toL P) r s n = toL P := by
  have e : bindE (toL P) r s n = 1 := by unfold bindE; rw [if_pos h]
  exact ⟨e, by unfold bindL; rw [e, if_neg (by decide)]⟩
theorem bind_name {n : Int} (h : ¬ (r < 0 ∨ 7 < r ∨ n < 1 ∨ 63 < n)) (hs : signsB s 32 = false) : bindE (toL P) r s n = 3 ∧ bindL (toL P) r s n = toL P := by
  have e : bindE (toL P) r s n = 3 := by unfold bindE; rw [if_neg h, if_pos hs]
  exact ⟨e, by unfold bindL; rw [e, if_neg (by decide)]⟩
theorem bind_other {n v : Int} (h : ¬ (r < 0 ∨ 7 < r ∨ n < 1 ∨ 63 < n)) (hs : signsB s 32 = true) (hg : get? (toL P) (r, s) = some v) (hv : ¬ v = n) : bindE (toL P) r s n = 5 ∧ bindL (toL P) r s n = toL P := by
  have e : bindE (toL P) r s n = 5 := by unfold bindE; rw [if_neg h, if_neg (by rw [hs]; decide), hg]; simp [hv]
  exact ⟨e, by unfold bindL; rw [e, if_neg (by decide)]⟩
theorem bind_same {n : Int} (h : ¬ (r < 0 ∨ 7 < r ∨ n < 1 ∨ 63 < n)) (hs : signsB s 32 = true) (hn : ((toL P).map Prod.fst).Nodup) (hg : get? (toL P) (r, s) = some n) : bindE (toL P) r s n = 0 ∧ bindL (toL P) r s n = toL P := by
  have e : bindE (toL P) r s n = 0 := by unfold bindE; rw [if_neg h, if_neg (by rw [hs]; decide), hg]; simp
  exact ⟨e, by unfold bindL; rw [e, if_pos rfl, put_toL hn hg]⟩
theorem bind_new {a n : Int} (h : ¬ (r < 0 ∨ 7 < r ∨ n < 1 ∨ 63 < n)) (hs : signsB s 32 = true) (hg : get? (toL P) (r, s) = none) : bindE (toL P) r s n = 0 ∧ bindL (toL P) r s n = toL (P ++ [(a, r, n, s)]) := by
  have e : bindE (toL P) r s n = 0 := by unfold bindE; rw [if_neg h, if_neg (by rw [hs]; decide), hg]
  refine ⟨e, ?_⟩
  unfold bindL
  rw [e, if_pos rfl, put_of_none hg, toL_app]
  rfl
theorem del_toL {i : Nat} {x : Dd} (hn : ((toL P).map Prod.fst).Nodup) (hx : P[i]? = some x) (e1 : x.2.1 = r) (e2 : x.2.2.2 = s) : del (toL P) (r, s) = toL (P.take i ++ P.drop (i + 1)) := by
  have hi := (List.getElem?_eq_some_iff.1 hx).1
  have hk : (toL P)[i]? = some (kv x) := by unfold toL; rw [List.getElem?_map, hx]; rfl
  have h := filter_one Prod.fst hn hk
  have e : (kv x).1 = (r, s) := by rw [← e1, ← e2]; rfl
  rw [e] at h
  unfold del
  rw [h]
  unfold toL
  rw [← Go.ChangeMaps.map_eraseIdx, List.eraseIdx_eq_take_drop_succ]
theorem drop_not (h : get? (toL P) (r, s) = none) : findV (toL P) (r, s) = 0 ∧ (if (get? (toL P) (r, s)).isSome then (0 : Int) else 4) = 4 ∧ del (toL P) (r, s) = toL P := by
  refine ⟨by unfold findV; rw [h]; rfl, by rw [h]; rfl, ?_⟩
  unfold del
  rw [List.filter_eq_self]
  intro p hp
  exact decide_eq_true (get?_none.1 h p hp)
theorem drop_at {i : Nat} {x : Dd} (hn : ((toL P).map Prod.fst).Nodup) (hx : P[i]? = some x) (e1 : x.2.1 = r) (e2 : x.2.2.2 = s) : findV (toL P) (r, s) = x.2.2.1 ∧ (if (get? (toL P) (r, s)).isSome then (0 : Int) else 4) = 0 ∧ del (toL P) (r, s) = toL (P.take i ++ P.drop (i + 1)) := by
  have h := at_some hn hx e1 e2
  exact ⟨by unfold findV; rw [h]; rfl, by rw [h]; rfl, del_toL hn hx e1 e2⟩
/-- The deeds that a Forget of segment n leaves. -/
def keptP (n : Int) (P : List Dd) : List Dd := P.filter fun x => decide (x.2.2.1 ≠ n)
theorem kept_len (n : Int) (P : List Dd) : (keptP n P).length ≤ P.length := List.length_filter_le _ _
theorem kept_le (n : Int) (P : List Dd) (q : Nat) : (keptP n (P.take q)).length ≤ q := Nat.le_trans (kept_len n _) (by rw [List.length_take]; omega)
theorem kept_no {n : Int} {x : Dd} (e : x.2.2.1 = n) (hx : P[q]? = some x) : keptP n (P.take (q + 1)) = keptP n (P.take q) := by
  unfold keptP
  rw [List.take_add_one, hx, List.filter_append]
  simp [e]
theorem kept_yes {n : Int} {x : Dd} (e : ¬ x.2.2.1 = n) (hx : P[q]? = some x) : keptP n (P.take (q + 1)) = keptP n (P.take q) ++ [x] := by
  unfold keptP
  rw [List.take_add_one, hx, List.filter_append]
  simp [e]
theorem forget_toL (n : Int) : (toL P).filter (fun p => decide (p.2 ≠ n)) = toL (keptP n P) := by
  unfold toL keptP
  rw [List.filter_map]
  rfl
end
/-- The names of a segment in a ring, in the order of the list. -/
def namesP (P : List Dd) (r n : Int) : List (List UInt8) := (P.filter fun x => decide (x.2.1 = r) && decide (x.2.2.1 = n)).map fun x => x.2.2.2
theorem namesP_eq (P : List Dd) (r n : Int) : namesOf (toL P) r n = namesP P r n := by
  unfold namesOf namesP toL
  rw [List.filter_map, List.map_map]
  congr 1
  apply List.filter_congr
  intro x _
  show (decide ((kv x).2 = n) && decide ((kv x).1.1 = r)) = _
  rw [Bool.and_comm]
  rfl
/-- One more in its place. -/
theorem ins_perm (S : List (List UInt8)) (j : Nat) (s : List UInt8) : (S.take j ++ s :: S.drop j).Perm (s :: S) := by
  refine List.perm_middle.trans ?_
  rw [List.take_append_drop]
theorem ins_sorted {S : List (List UInt8)} {j : Nat} {s : List UInt8} (hs : S.Pairwise fun a b => (!ltB b a) = true) (hlow : ∀ i x, i < j → S[i]? = some x → ltB s x = false) (hup : ∀ i x, j ≤ i → S[i]? = some x → ltB s x = true) : (S.take j ++ s :: S.drop j).Pairwise fun a b => (!ltB b a) = true := by
  have hs2 := hs
  rw [← List.take_append_drop j S] at hs2
  rw [List.pairwise_append] at hs2
  rw [List.pairwise_append]
  refine ⟨hs2.1, List.pairwise_cons.2 ⟨fun b hb => ?_, hs2.2.1⟩, fun a ha b hb => ?_⟩
  · obtain ⟨i, hi⟩ := List.getElem?_of_mem hb
    rw [List.getElem?_drop] at hi
    rw [ltB_asymm (hup _ b (by omega) hi)]; rfl
  · obtain ⟨i, hi⟩ := List.getElem?_of_mem ha
    have hl := (List.getElem?_eq_some_iff.1 hi).1
    rw [List.length_take] at hl
    rw [List.getElem?_take_of_lt (by omega)] at hi
    rcases List.mem_cons.1 hb with rfl | hb
    · rw [hlow i a (by omega) hi]; rfl
    · exact hs2.2.2 a ha b hb
/-- Where those before are no greater than the one at j - 1. -/
theorem low_of {S : List (List UInt8)} {j : Nat} {s y : List UInt8} (hs : S.Pairwise fun a b => (!ltB b a) = true) (hy : S[j]? = some y) (h : ltB s y = false) : ∀ i x, i < j + 1 → S[i]? = some x → ltB s x = false := by
  intro i x hi hx
  by_cases e : i = j
  · subst e; rw [hy] at hx; cases hx; exact h
  · obtain ⟨l1, e1⟩ := List.getElem?_eq_some_iff.1 hx
    obtain ⟨l2, e2⟩ := List.getElem?_eq_some_iff.1 hy
    have h1 := List.pairwise_iff_getElem.1 hs i j l1 l2 (by omega)
    rw [e1, e2] at h1
    have := le_trans' x y s (by exact h1) (by rw [h]; rfl)
    simpa using this
section
variable {w1 w w' : World} {A b n size : Nat} {L : List (Key × Int)} {v : Value} {e : TypeId} {cs : List Value}
theorem Rf.grown (h : Rf w1 w A b L) (hs : Sl w w1.heap.size e size v n cs) (hne : e ≠ 46) (hg : w.grownBy w' v.ownBlock) : Rf w1 w' A b L := by
  have hA : v.ownBlock ≠ some A := fun e' => by
    obtain ⟨_, arr, hb⟩ := hs.blk e'
    have h1 := h.1.1
    unfold Blk at hb h1
    rw [hb] at h1
    injection h1 with h1
    injection h1 with _ h2 _
    exact hne h2
  have hb : v.ownBlock ≠ some b := fun e' => by
    obtain ⟨_, arr, hb⟩ := hs.blk e'
    exact h.1.2.1.ne_blk hb rfl
  exact ⟨⟨h.1.1.grown hg (Ne.symm hA), MapIs.grown h.1.2.1 hg (Ne.symm hb), h.1.2.2⟩, h.2.1.grown hg (fun k hk => (hs.lt k hk).1), h.2.2⟩
theorem Sl.keepsB {B : Nat} (hs : Sl w B e size v n cs) (ha : At w A b L) (hk : Keeps (fun i => i = b) w w') : Sl w' B e size v n cs :=
  hs.keeps hk fun g hg e' => by
    obtain ⟨_, arr, hb⟩ := hs.blk hg
    exact ha.2.1.ne_blk hb e'
end
/-- The law's own list of deeds. -/
def Dl (w : World) (B : Nat) (v : Value) (P : List Dd) : Prop := Sl w B 41 4 v P.length (flatOf dc P)
theorem Dl.ls {w : World} {B : Nat} {v : Value} {P : List Dd} (h : Dl w B v P) : LsAt 4 dc w v P := LsAt.of_sl dc_len h
theorem Dl.new_ {w w' : World} {B : Nat} {v : Value} {P : List Dd} (h : Dl w B v P) (hn : New w w') : Dl w' B v P := Sl.new_ h hn
theorem Dl.cut {w : World} {B : Nat} {v : Value} {P : List Dd} {i : Nat} (hi : i < P.length) (h : Sl w B 41 4 v (P.length - 1) ((flatOf dc P).take (i * 4) ++ (flatOf dc P).drop ((i + 1) * 4))) : Dl w B v (P.take i ++ P.drop (i + 1)) := by
  unfold Dl
  rw [List.length_append, List.length_take, List.length_drop, show min i P.length + (P.length - (i + 1)) = P.length - 1 by omega, flatOf_app, ← flatOf_take dc_len, ← flatOf_drop dc_len]
  exact h
theorem deed_info : (Try.prog.info? 41).map (fun i => (i.zero, i.size, i.bytes)) = some (some (.agg #[.int .i64 0, .int .i64 0, .int .i64 0, .string ByteArray.empty]), 4, 40) := by kernel_rfl
theorem news_deed {w : World} {G : Nat} {T : TypeId} {d : Dd} (h : Blk w G T (dc d).toArray) : ∀ (j : Nat) (u : Value), (dc d)[j]? = some u → w.cell? ((⟨G, 0, none⟩ : Addr).add j) = some u := by
  intro j u hu
  rw [Addr.add_lit, Nat.zero_add, h.cell, ← hu]
  simp
end Go.Proofs.Ytakhidieomalhaa.Refer
