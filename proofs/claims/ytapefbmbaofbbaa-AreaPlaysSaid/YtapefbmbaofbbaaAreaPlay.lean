/- AreaPlays: the law's own list of rooms; the first free place. -/
import Derived.Test.YtapefbmbaofbbaaAreaSum
namespace Go.Proofs.Ytapefbmbaofbbaa.Area
open Go Go.RowKit Go.Proofs.Ytapefbmbaofbbaa.Kit
set_option linter.unusedSimpArgs false
set_option linter.unusedVariables false
/-- The blocks of a list of rooms. -/
def Rooms (v : Value) (P : List Room) (k : Nat) : Prop := v.ownBlock = some k ∨ ∃ r ∈ P, r.2.1 = k
def Pl (w : World) (B : Nat) (v : Value) (P : List Room) : Prop :=
  Sl w B 50 2 v P.length (flatOf rc P) ∧ (∀ r ∈ P, B ≤ r.2.1 ∧ Blk w r.2.1 41 (wrow r.2.2)) ∧ (P.map (fun r => r.2.1)).Nodup
def Pst (w1 w : World) (A N : Nat) (ms : Ms) (v : Value) (P : List Room) : Prop := With w1 w A N ms (Rooms v P) ∧ Pl w w1.heap.size v P
section
variable {w1 w w' : World} {A N B : Nat} {ms ms' : Ms} {P P' : List Room} {v v' : Value}
theorem Pl.ls (h : Pl w B v P) : LsAt 2 rc w v P := LsAt.of_sl rc_len h.1
theorem Pl.apart (h : Pl w B v P) {r : Room} (hr : r ∈ P) : v.ownBlock ≠ some r.2.1 := fun e => by
  obtain ⟨_, arr, hb⟩ := h.1.blk e
  exact absurd (hb.inj (h.2.1 r hr).2) (by decide)
theorem Pl.same (h : Pl w B v P) (hs : Same (Rooms v P) w w') : Pl w' B v P :=
  ⟨h.1.of_block fun g hg => hs.2 g (.inl hg), fun r hr => ⟨(h.2.1 r hr).1, (h.2.1 r hr).2.of_block (hs.2 _ (.inr ⟨r, hr, rfl⟩))⟩, h.2.2⟩
theorem Pst.turn (h : Pst w1 w A N ms v P) (hw : With w1 w' A N ms' (Rooms v P)) (hs : Same (Rooms v P) w w') : Pst w1 w' A N ms' v P := ⟨hw, h.2.same hs⟩
theorem Pst.new_ (h : Pst w1 w A N ms v P) (hn : New w w') : Pst w1 w' A N ms v P := h.turn (h.1.new_ hn) (h.1.same hn)
theorem Pst.lists (h : Pst w1 w A N ms v P) (hk : Keeps (fun k => v.ownBlock = some k) w w') (hs : Sl w' w1.heap.size 50 2 v' P'.length (flatOf rc P'))
    (hr : ∀ r ∈ P', r ∈ P ∨ (w.heap.size ≤ r.2.1 ∧ Blk w' r.2.1 41 (wrow r.2.2))) (hnd : (P'.map (fun r => r.2.1)).Nodup) (hown : v'.ownBlock = v.ownBlock ∨ ∃ g, v'.ownBlock = some g ∧ w.heap.size ≤ g) : Pst w1 w' A N ms v' P' := by
  have hb : ∀ r ∈ P', w1.heap.size ≤ r.2.1 ∧ Blk w' r.2.1 41 (wrow r.2.2) := fun r h' => by
    rcases hr r h' with h1 | ⟨h1, h2⟩
    · exact ⟨(h.2.2.1 r h1).1, (h.2.2.1 r h1).2.keeps hk (fun e => h.2.apart h1 e)⟩
    · exact ⟨Nat.le_trans h.1.new.size h1, h2⟩
  refine ⟨h.1.kept (hk.mono fun k _ hk => .inl hk) (fun k hk' => ?_), hs, hb, hnd⟩
  rcases hk' with hk' | ⟨r, h', rfl⟩
  · refine ⟨?_, (hs.lt k hk').2⟩
    rcases hown with e | ⟨g, e, hg⟩
    · exact .inl (.inl (by rw [← e, hk']))
    · rw [e] at hk'; cases hk'; exact .inr hg
  · refine ⟨?_, (hb r h').2.lt⟩
    rcases hr r h' with h1 | ⟨h1, _⟩
    · exact .inl (.inr ⟨r, h1, rfl⟩)
    · exact .inr h1
theorem Pst.wrote (h : Pst w1 w A N ms v P) {i : Nat} {r : Room} (hr : P[i]? = some r) {k : Nat} (hk : k < r.2.2.length) (x : Int) :
    Pst w1 (w.setCell ⟨r.2.1, k, none⟩ (.int .u64 x)) A N ms v (P.set i (r.1, r.2.1, r.2.2.set k x)) := by
  have hrm := List.mem_of_getElem? hr
  have hm : (P.set i (r.1, r.2.1, r.2.2.set k x)).map (fun r => r.2.1) = P.map (fun r => r.2.1) := by
    rw [List.map_set]
    apply List.ext_getElem?
    intro j
    rw [List.getElem?_set]
    by_cases e : i = j
    · subst e
      rw [if_pos rfl, List.getElem?_map, hr]
      simp [(List.getElem?_eq_some_iff.1 hr).1]
    · rw [if_neg e]
  have hR : ∀ j, Rooms v (P.set i (r.1, r.2.1, r.2.2.set k x)) j → Rooms v P j := fun j hj => by
    rcases hj with hj | hj
    · exact .inl hj
    · refine .inr ?_
      have h1 : j ∈ (P.set i (r.1, r.2.1, r.2.2.set k x)).map (fun r => r.2.1) := by
        obtain ⟨y, hy, e⟩ := hj
        exact List.mem_map.2 ⟨y, hy, e⟩
      rw [hm] at h1
      obtain ⟨y, hy, e⟩ := List.mem_map.1 h1
      exact ⟨y, hy, e⟩
  refine ⟨h.1.kept (Keeps.setCell (F := Rooms v P) (Keeps.refl _ _) (.inr (.inr ⟨r, hrm, rfl⟩)) _) (fun j hj => ⟨.inl (hR j hj), ?_⟩), ?_, ?_, by rw [hm]; exact h.2.2.2⟩
  · rw [size_setCell]
    obtain ⟨S, _, _, _, h4⟩ := h.1
    exact (h4 j (hR j hj)).2.1
  · rw [List.length_set, flatOf_set hr (by simp [rc, rsl])]
    exact h.2.1.far (fun g hg e => h.2.apart hrm (by rw [hg, e])) _
  · intro y hy
    obtain ⟨j, hj⟩ := List.getElem?_of_mem hy
    rw [List.getElem?_set] at hj
    by_cases e : i = j
    · subst e
      rw [if_pos rfl, if_pos (List.getElem?_eq_some_iff.1 hr).1] at hj
      cases hj
      have := (h.2.2.1 r hrm).2.set k (.int .u64 x)
      have e2 : (wrow r.2.2).setIfInBounds k (.int .u64 x) = wrow (r.2.2.set k x) := by simp [wrow, List.map_set]
      rw [e2] at this
      exact ⟨(h.2.2.1 r hrm).1, this⟩
    · rw [if_neg e] at hj
      have hyP := List.mem_of_getElem? hj
      refine ⟨(h.2.2.1 y hyP).1, (h.2.2.1 y hyP).2.far (fun e2 => ?_) _⟩
      have hnd := h.2.2.2
      have h1 : (P.map (fun r => r.2.1))[i]? = some r.2.1 := by rw [List.getElem?_map, hr]; rfl
      have h2 : (P.map (fun r => r.2.1))[j]? = some y.2.1 := by rw [List.getElem?_map, hj]; rfl
      rcases Nat.lt_or_gt_of_ne e with hlt | hlt
      · exact nodup_ne hnd hlt (List.getElem?_eq_some_iff.1 h2).1 (by rw [h1, h2, e2])
      · exact nodup_ne hnd hlt (List.getElem?_eq_some_iff.1 h1).1 (by rw [h1, h2, e2])
end
/-- n words fit at x. -/
def Free (ms : Ms) (n x : Nat) : Prop := ∀ r ∈ ms, r.1 + r.2.length ≤ x ∨ x + n ≤ r.1
theorem Ord.first {N n k : Nat} {rs : List Room} (h : Ord N rs) (hf : Fit rs (n : Int) k) : Free (ab rs) n (endOf rs k) ∧ ∀ y, y < endOf rs k → ¬ Free (ab rs) n y := by
  obtain ⟨f1, f2, f3⟩ := hf
  constructor
  · intro r hr
    obtain ⟨x, hx, rfl⟩ := List.mem_map.1 hr
    obtain ⟨i, hi⟩ := List.getElem?_of_mem hx
    by_cases hik : i < k
    · left
      have hk1 : ∃ z, rs[k - 1]? = some z := ⟨_, List.getElem?_eq_getElem (by omega)⟩
      obtain ⟨z, hz⟩ := hk1
      have e := endOf_succ hz
      rw [show k - 1 + 1 = k by omega] at e
      rw [e]
      by_cases e2 : i = k - 1
      · subst e2; rw [hi] at hz; cases hz; exact Nat.le_refl _
      · have := h.behind (show i < k - 1 by omega) hi hz
        simp only
        omega
    · right
      have hil := (List.getElem?_eq_some_iff.1 hi).1
      obtain ⟨z, hz⟩ : ∃ z, rs[k]? = some z := ⟨_, List.getElem?_eq_getElem (by omega)⟩
      have h3 := f3 z hz
      by_cases e2 : k = i
      · subst e2; rw [hi] at hz; cases hz; simp only; omega
      · have := h.behind (show k < i by omega) hz hi
        simp only
        omega
  · intro y hy hfr
    have key : ∀ d, d ≤ k → endOf rs d ≤ y → False := by
      intro d
      induction hd : k - d generalizing d with
      | zero => intro h1 h2; have : d = k := by omega
                subst this; omega
      | succ m ih =>
        intro h1 h2
        obtain ⟨z, hz⟩ : ∃ z, rs[d]? = some z := ⟨_, List.getElem?_eq_getElem (by omega)⟩
        have h3 := f2 d z (by omega) hz
        have h4 := hfr (z.1, z.2.2) (List.mem_map.2 ⟨z, List.mem_of_getElem? hz, rfl⟩)
        simp only at h4
        refine ih (d + 1) (by omega) (by omega) ?_
        rw [endOf_succ hz]
        omega
    exact key 0 (Nat.zero_le _) (Nat.zero_le _)
theorem exists_fit (n : Int) : ∀ (rs : List Room), ∃ k, Fit rs n k := by
  intro rs
  have key : ∀ d, d ≤ rs.length → (∀ (j : Nat) (r : Room), j < d → rs[j]? = some r → (r.1 : Int) - endOf rs j < n) → ∃ k, Fit rs n k := by
    intro d
    induction hd : rs.length - d generalizing d with
    | zero => intro h1 h2; exact ⟨d, h1, h2, fun r hr => by have := (List.getElem?_eq_some_iff.1 hr).1; omega⟩
    | succ m ih =>
      intro h1 h2
      obtain ⟨z, hz⟩ : ∃ z, rs[d]? = some z := ⟨_, List.getElem?_eq_getElem (by omega)⟩
      by_cases h3 : (z.1 : Int) - endOf rs d < n
      · refine ih (d + 1) (by omega) (by omega) (fun j r hj hr => ?_)
        by_cases e : j = d
        · subst e; rw [hz] at hr; cases hr; exact h3
        · exact h2 j r (by omega) hr
      · exact ⟨d, h1, h2, fun r hr => by rw [hz] at hr; cases hr; omega⟩
  exact key 0 (Nat.zero_le _) (fun j r hj => absurd hj (Nat.not_lt_zero _))
theorem With.first {w0 w : World} {A N n : Nat} {T : Nat → Prop} {ms : Ms} (h : With w0 w A N ms T) : Free ms n (fitG (n : Int) 0 ms).2 ∧ ∀ y, y < (fitG (n : Int) 0 ms).2 → ¬ Free ms n y := by
  obtain ⟨S, ⟨rs, ⟨lv, har, _⟩, rfl⟩, _⟩ := h
  obtain ⟨k, hk⟩ := exists_fit (n : Int) rs
  rw [hk.eq]
  exact har.2.2.2.2.first hk
theorem Free.perm {ms ms' : Ms} {n x : Nat} (h : ms.Perm ms') : Free ms n x ↔ Free ms' n x := ⟨fun f r hr => f r (h.mem_iff.2 hr), fun f r hr => f r (h.mem_iff.1 hr)⟩
/-- No place was found: the area is full. -/
theorem With.full {w0 w : World} {A N n : Nat} {T : Nat → Prop} {ms ms' : Ms} (h : With w0 w A N ms T) (hp : ms'.Perm ms) (h1 : 1 ≤ n) (hn : ∀ y, y + n ≤ N → ¬ Free ms' n y) : takeE N ms (n : Int) = 7 ∧ takeB N ms (n : Int) = 0 := by
  have hf := h.first (n := n)
  have : ¬ (fitG (n : Int) 0 ms).2 + n ≤ N := fun e => hn _ e ((Free.perm hp).2 hf.1)
  have e : takeE N ms (n : Int) = 7 := by
    unfold takeE
    rw [if_neg (by omega), if_pos (by omega)]
  refine ⟨e, ?_⟩
  unfold takeB
  rw [e, if_neg (by decide)]
/-- The first place that is free. -/
theorem With.fits {w0 w : World} {A N n x : Nat} {T : Nat → Prop} {ms ms' : Ms} (h : With w0 w A N ms T) (hp : ms'.Perm ms) (h1 : 1 ≤ n) (hx : x + n ≤ N) (hf : Free ms' n x) (hn : ∀ y, y < x → ¬ Free ms' n y) : takeE N ms (n : Int) = 0 ∧ takeB N ms (n : Int) = (x : Int) ∧ (fitG (n : Int) 0 ms).2 = x := by
  have hf' := h.first (n := n)
  have e1 : ¬ x < (fitG (n : Int) 0 ms).2 := fun e => hf'.2 x e ((Free.perm hp).1 hf)
  have e2 : ¬ (fitG (n : Int) 0 ms).2 < x := fun e => hn _ e ((Free.perm hp).2 hf'.1)
  have e3 : (fitG (n : Int) 0 ms).2 = x := by omega
  have e : takeE N ms (n : Int) = 0 := by
    unfold takeE
    rw [if_neg (by omega), if_neg (by omega)]
  refine ⟨e, ?_, e3⟩
  unfold takeB
  rw [e, if_pos rfl, e3]
theorem took_perm {N n g : Nat} {ms : Ms} {P : List Room} (hp : (ab P).Perm ms) (he : takeE N ms (n : Int) = 0) : (ab (P ++ [((fitG (n : Int) 0 ms).2, g, List.replicate n 0)])).Perm (takeM N ms (n : Int)) := by
  refine List.Perm.trans ?_ (takeM_perm he).symm
  unfold ab
  rw [List.map_append, List.map_cons, List.map_nil, Int.toNat_natCast]
  refine (List.perm_append_singleton _ _).trans ?_
  exact List.Perm.cons _ hp
theorem ab_perm_write {P : List Room} {ms : Ms} (hp : (ab P).Perm ms) (b off x : Int) : (ab (writeR P b off x)).Perm (writeM ms b off x) := by
  rw [writeR_ab]
  exact hp.map _
theorem ab_perm_give {P : List Room} {ms : Ms} (hp : (ab P).Perm ms) (b : Int) : (ab (P.filter fun r => !((r.1 : Int) == b))).Perm (giveM ms b) := by
  rw [ab_filter]
  exact hp.filter _
theorem bases {N : Nat} {P : List Room} {ms : Ms} (hp : (ab P).Perm ms) (hg : Good N ms) : (P.map (·.1)).Nodup := by
  have := (hg.perm hp.symm).base
  unfold ab at this
  rw [List.map_map] at this
  exact this
theorem base_one {N i j : Nat} {P : List Room} {ms : Ms} (hp : (ab P).Perm ms) (hg : Good N ms) {r s : Room} (hi : P[i]? = some r) (hj : P[j]? = some s) (e : r.1 = s.1) : i = j := by
  have hn := bases hp hg
  have q1 : (P.map (·.1))[i]? = some r.1 := by rw [List.getElem?_map, hi]; rfl
  have q2 : (P.map (·.1))[j]? = some s.1 := by rw [List.getElem?_map, hj]; rfl
  rcases Nat.lt_trichotomy i j with h | h | h
  · exact absurd (by rw [q1, q2, e]) (nodup_ne hn h (List.getElem?_eq_some_iff.1 q2).1)
  · exact h
  · exact absurd (by rw [q1, q2, e]) (nodup_ne hn h (List.getElem?_eq_some_iff.1 q1).1)
theorem find_at {N i : Nat} {P : List Room} {ms : Ms} (hp : (ab P).Perm ms) (hg : Good N ms) {r : Room} (hi : P[i]? = some r) : findM ms (r.1 : Int) = some (r.1, r.2.2) :=
  find_mem hg (r := (r.1, r.2.2)) (hp.mem_iff.1 (List.mem_map.2 ⟨r, List.mem_of_getElem? hi, rfl⟩))
theorem find_not {P : List Room} {ms : Ms} {b : Int} (hp : (ab P).Perm ms) (h : ∀ (i : Nat) (r : Room), P[i]? = some r → ¬ (r.1 : Int) = b) : findM ms b = none := by
  unfold findM
  rw [List.find?_eq_none]
  intro x hx
  obtain ⟨r, hr, rfl⟩ := List.mem_map.1 (hp.mem_iff.2 hx)
  obtain ⟨i, hi⟩ := List.getElem?_of_mem hr
  simpa using h i r hi
theorem find_neg (ms : Ms) : sizeM ms (-1) = 0 := by
  have : findM ms (-1) = none := by
    unfold findM
    rw [List.find?_eq_none]
    intro x hx
    simp only [beq_iff_eq]
    omega
  unfold sizeM
  rw [this]
theorem used_perm {P : List Room} {ms : Ms} (hp : (ab P).Perm ms) : usedR P = usedM ms := by
  rw [usedR_ab]
  exact (hp.map _).sum_nat
theorem With.used {w0 w : World} {A N : Nat} {T : Nat → Prop} {ms : Ms} (h : With w0 w A N ms T) : usedM ms ≤ N := by
  obtain ⟨S, ⟨rs, ⟨lv, har, _⟩, rfl⟩, _⟩ := h
  have := har.2.2.2.2.used_le (Nat.le_refl rs.length)
  rw [List.take_length] at this
  rw [← usedR_ab]
  exact this
theorem used_take (P : List Room) (q : Nat) : usedR (P.take q) ≤ usedR P := by
  have : usedR P = usedR (P.take q) + usedR (P.drop q) := by
    rw [usedR, usedR, usedR, ← List.sum_append, ← List.map_append, List.take_append_drop]
  omega
/-- The place of the room with this base among the first q, or -1. -/
def AtIs (P : List Room) (b : Int) (q : Nat) (at_ : Int) : Prop :=
  (at_ = -1 ∧ ∀ (i : Nat) (r : Room), i < q → P[i]? = some r → ¬ (r.1 : Int) = b) ∨ ∃ (i : Nat) (r : Room), i < q ∧ at_ = i ∧ P[i]? = some r ∧ (r.1 : Int) = b
theorem AtIs.hit {P : List Room} {b : Int} {q : Nat} {r : Room} (hr : P[q]? = some r) (e : (r.1 : Int) = b) : AtIs P b (q + 1) (q : Int) := .inr ⟨q, r, Nat.lt_succ_self _, rfl, hr, e⟩
theorem AtIs.miss {P : List Room} {b ai : Int} {q : Nat} {r : Room} (h : AtIs P b q ai) (hr : P[q]? = some r) (e : ¬ (r.1 : Int) = b) : AtIs P b (q + 1) ai := by
  rcases h with ⟨h1, h2⟩ | ⟨i, s, h1, h2⟩
  · refine .inl ⟨h1, fun i s hi hs => ?_⟩
    by_cases e2 : i = q
    · subst e2; rw [hr] at hs; cases hs; exact e
    · exact h2 i s (by omega) hs
  · exact .inr ⟨i, s, by omega, h2⟩
/-- A box more, beside the rooms. -/
theorem With.box {w0 w : World} {A N : Nat} {ms : Ms} {T : Nat → Prop} (h : With w0 w A N ms T) (o : Obj) : With w0 (w.alloc o) A N ms (fun k => T k ∨ k = w.heap.size) :=
  h.kept ((Keeps.refl T w).alloc o) (fun k hk => by
    rcases hk with hk | rfl
    · refine ⟨.inl hk, ?_⟩
      obtain ⟨S, _, _, _, h4⟩ := h
      have := (h4 k hk).2.1
      rw [World.size_alloc]; omega
    · exact ⟨.inr (Nat.le_refl _), by rw [World.size_alloc]; omega⟩)
theorem Pst.turnD {w1 w w' : World} {A N D : Nat} {ms ms' : Ms} {v : Value} {P : List Room} (h : Pst w1 w A N ms v P) (hw : With w1 w' A N ms' (fun k => Rooms v P k ∨ k = D)) (hs : Same (fun k => Rooms v P k ∨ k = D) w w') : Pst w1 w' A N ms' v P :=
  ⟨hw.less fun _ => .inl, h.2.same ⟨hs.1, fun k hk => hs.2 k (.inl hk)⟩⟩
theorem give_none {ms : Ms} {b : Int} (h : findM ms b = none) : giveM ms b = ms := by
  unfold findM at h
  rw [List.find?_eq_none] at h
  unfold giveM
  rw [List.filter_eq_self]
  intro x hx
  have := h x hx
  simpa using this
theorem AtIs.none {P : List Room} {ms : Ms} {b : Int} (hp : (ab P).Perm ms) (h : AtIs P b P.length (-1)) : findM ms b = none := by
  rcases h with ⟨_, h⟩ | ⟨i, r, _, h, _⟩
  · exact find_not hp fun i r hr => h i r (List.getElem?_eq_some_iff.1 hr).1 hr
  · omega
theorem room_le {N : Nat} {P : List Room} {ms : Ms} (hp : (ab P).Perm ms) (hg : Good N ms) {i : Nat} {r : Room} (hi : P[i]? = some r) : r.1 + r.2.2.length ≤ N :=
  (hg.2 (r.1, r.2.2) (hp.mem_iff.1 (List.mem_map.2 ⟨r, List.mem_of_getElem? hi, rfl⟩))).2
theorem Pl.lt {w : World} {B : Nat} {v : Value} {P : List Room} (h : Pl w B v P) {r : Room} (hr : r ∈ P) : r.2.1 < w.heap.size := (h.2.1 r hr).2.lt
/-- One room more. -/
theorem Pst.push {w1 wx w6 : World} {A N x q : Nat} {ms : Ms} {v v' : Value} {P : List Room} {o : Obj} (h : Pst w1 wx A N ms v P)
    (hs : Sl w6 w1.heap.size 50 2 v' (P.length + 1) (flatOf rc P ++ rc (x, wx.heap.size, List.replicate q 0)))
    (hg : ((wx.alloc (.cells (madeCells #[.int .u64 0] q) 41)).alloc o).grownBy w6 v.ownBlock)
    (hb : v'.ownBlock = v.ownBlock ∨ ∃ g, v'.ownBlock = some g ∧ ((wx.alloc (.cells (madeCells #[.int .u64 0] q) 41)).alloc o).heap.size ≤ g) : Pst w1 w6 A N ms v' (P ++ [(x, wx.heap.size, List.replicate q 0)]) := by
  have hlt : ∀ g, v.ownBlock = some g → g < wx.heap.size := fun g hg => (h.2.1.lt g hg).2
  have hk : Keeps (fun k => v.ownBlock = some k) wx w6 := (((Keeps.refl _ wx).alloc _).alloc _).grown hg (fun k hk => .inr hk)
  have hW : Blk w6 wx.heap.size 41 (wrow (List.replicate q 0)) := by
    rw [wrow_made]
    have h0 := (Blk.new wx 41 (madeCells #[.int .u64 0] q)).alloc o
    exact h0.of_block (hg.block _ (by simp only [World.size_alloc]; omega) (fun e => absurd (hlt _ e.symm) (Nat.lt_irrefl _)))
  refine h.lists hk ?_ (fun r hr => ?_) ?_ ?_
  · rw [List.length_append, List.length_singleton, flatOf_app, flatOf_one]
    exact hs
  · rcases List.mem_append.1 hr with hr | hr
    · exact .inl hr
    · rw [List.mem_singleton.1 hr]
      exact .inr ⟨Nat.le_refl _, hW⟩
  · rw [List.map_append, List.map_cons, List.map_nil, List.nodup_append]
    refine ⟨h.2.2.2, by simp, fun a ha b hb' => ?_⟩
    rw [List.mem_singleton] at hb'
    obtain ⟨r, hr, rfl⟩ := List.mem_map.1 ha
    have := h.2.lt hr
    intro e
    rw [hb'] at e
    have e : r.2.1 = wx.heap.size := e
    omega
  · rcases hb with e | ⟨g, e, hg'⟩
    · exact .inl e
    · refine .inr ⟨g, e, ?_⟩
      simp only [World.size_alloc] at hg'
      omega
theorem filter_room {P : List Room} (hn : (P.map (·.1)).Nodup) {j : Nat} {p : Room} (hp : P[j]? = some p) : P.filter (fun q => !((q.1 : Int) == (p.1 : Int))) = P.take j ++ P.drop (j + 1) := by
  have hj := (List.getElem?_eq_some_iff.1 hp).1
  have hspl : P = P.take j ++ p :: P.drop (j + 1) := by
    have e : P[j] = p := (List.getElem?_eq_some_iff.1 hp).2
    rw [← e, List.getElem_cons_drop, List.take_append_drop]
  have hne : ∀ i q, P[i]? = some q → i ≠ j → ((q.1 : Int) == (p.1 : Int)) = false := fun i q hq hij => by
    rw [beq_eq_false_iff_ne]
    intro e
    have q1 : (P.map (·.1))[i]? = some q.1 := by rw [List.getElem?_map, hq]; rfl
    have q2 : (P.map (·.1))[j]? = some p.1 := by rw [List.getElem?_map, hp]; rfl
    have e' : q.1 = p.1 := by omega
    rcases Nat.lt_or_gt_of_ne hij with h | h
    · exact nodup_ne hn h (List.getElem?_eq_some_iff.1 q2).1 (by rw [q1, q2, e'])
    · exact nodup_ne hn h (List.getElem?_eq_some_iff.1 q1).1 (by rw [q1, q2, e'])
  conv => lhs; rw [hspl]
  rw [List.filter_append, List.filter_cons_of_neg (by simp)]
  congr 1
  · rw [List.filter_eq_self]
    intro q hq
    obtain ⟨i, hi⟩ := List.getElem?_of_mem hq
    have hl := (List.getElem?_eq_some_iff.1 hi).1
    rw [List.length_take] at hl
    rw [List.getElem?_take_of_lt (by omega)] at hi
    rw [hne i q hi (by omega)]; rfl
  · rw [List.filter_eq_self]
    intro q hq
    obtain ⟨i, hi⟩ := List.getElem?_of_mem hq
    rw [List.getElem?_drop] at hi
    rw [hne _ q hi (by omega)]; rfl
theorem gave_perm {N j : Nat} {P : List Room} {ms : Ms} (hp : (ab P).Perm ms) (hg : Good N ms) {r : Room} (hr : P[j]? = some r) : (ab (P.take j ++ P.drop (j + 1))).Perm (giveM ms (r.1 : Int)) := by
  rw [← filter_room (bases hp hg) hr]
  exact ab_perm_give hp _
theorem used_cut {P : List Room} {j : Nat} {r : Room} (hr : P[j]? = some r) : usedR (P.take j ++ P.drop (j + 1)) + r.2.2.length = usedR P := by
  have hj := (List.getElem?_eq_some_iff.1 hr).1
  have hspl : P = P.take j ++ r :: P.drop (j + 1) := by
    have e : P[j] = r := (List.getElem?_eq_some_iff.1 hr).2
    rw [← e, List.getElem_cons_drop, List.take_append_drop]
  conv => rhs; rw [hspl]
  simp only [usedR, List.map_append, List.map_cons, List.sum_append, List.sum_cons]
  omega
/-- One room less. -/
theorem Pst.cut {w1 wx w6 : World} {A N j k2 : Nat} {b2 : Addr} {ms : Ms} {v : Value} {P : List Room} (h : Pst w1 wx A N ms v P) (hn : New wx w6) (hj : j < P.length)
    (hs : Sl w6 w1.heap.size 50 2 (.slice (some b2) (P.length - 1) k2) (P.length - 1) ((flatOf rc P).take (j * 2) ++ (flatOf rc P).drop ((j + 1) * 2))) (hb : wx.heap.size ≤ b2.block) :
    Pst w1 w6 A N ms (.slice (some b2) (P.length - 1) k2) (P.take j ++ P.drop (j + 1)) := by
  have hl : (P.take j ++ P.drop (j + 1)).length = P.length - 1 := by
    rw [List.length_append, List.length_take, List.length_drop]
    omega
  have hsub : (P.take j ++ P.drop (j + 1)).Sublist P := by
    conv => rhs; rw [← List.take_append_drop j P]
    refine List.Sublist.append (List.Sublist.refl _) ?_
    rw [show j + 1 = j + 1 from rfl, ← List.drop_drop]
    exact List.drop_sublist _ _
  refine h.lists (hn.keeps _) ?_ (fun r hr => .inl (hsub.mem hr)) ((hsub.map _).nodup h.2.2.2) (.inr ⟨b2.block, rfl, hb⟩)
  rw [hl, flatOf_app, ← flatOf_take rc_len, ← flatOf_drop rc_len]
  exact hs
/-- Nothing is written. -/
theorem writeP_no {P : List Room} {b off x : Int} (h : ∀ (i : Nat) (r : Room), P[i]? = some r → (r.1 : Int) = b → inR r off = false) : writeR P b off x = P := by
  unfold writeR
  refine (List.map_congr_left fun r hr => ?_).trans (List.map_id _)
  obtain ⟨i, hi⟩ := List.getElem?_of_mem hr
  rw [if_neg]
  · rfl
  · rintro ⟨h1, h2⟩
    rw [h i r hi h1] at h2
    exact absurd h2 (by decide)
theorem writeP_at {P : List Room} {off x : Int} (hn : (P.map (·.1)).Nodup) {i : Nat} {r : Room} (hr : P[i]? = some r) (hin : inR r off = true) : writeR P (r.1 : Int) off x = P.set i (r.1, r.2.1, r.2.2.set off.toNat x) := by
  apply List.ext_getElem?
  intro j
  unfold writeR
  rw [List.getElem?_map, List.getElem?_set]
  by_cases e : i = j
  · subst e
    rw [if_pos rfl, if_pos (List.getElem?_eq_some_iff.1 hr).1, hr]
    simp [hin]
  · rw [if_neg e]
    cases hj : P[j]? with
    | none => rfl
    | some s =>
      have hne : ¬ (s.1 : Int) = (r.1 : Int) := by
        intro h1
        have q1 : (P.map (·.1))[i]? = some r.1 := by rw [List.getElem?_map, hr]; rfl
        have q2 : (P.map (·.1))[j]? = some s.1 := by rw [List.getElem?_map, hj]; rfl
        have h2 : s.1 = r.1 := by omega
        rcases Nat.lt_or_gt_of_ne e with hlt | hlt
        · exact nodup_ne hn hlt (List.getElem?_eq_some_iff.1 q2).1 (by rw [q1, q2, h2])
        · exact nodup_ne hn hlt (List.getElem?_eq_some_iff.1 q1).1 (by rw [q1, q2, h2])
      simp [hne]
theorem usedR_set {P : List Room} {i : Nat} {r : Room} (hr : P[i]? = some r) {g : Nat} {l : List Int} (hl : l.length = r.2.2.length) : usedR (P.set i (r.1, g, l)) = usedR P := by
  unfold usedR
  rw [List.map_set]
  congr 1
  apply List.ext_getElem?
  intro j
  rw [List.getElem?_set]
  by_cases e : i = j
  · subst e
    rw [if_pos rfl, List.getElem?_map, hr]
    simp [(List.getElem?_eq_some_iff.1 hr).1, hl]
  · rw [if_neg e]
theorem read_at {N i : Nat} {P : List Room} {ms : Ms} (hp : (ab P).Perm ms) (hg : Good N ms) {r : Room} (hi : P[i]? = some r) (off : Int) :
    readEM ms (r.1 : Int) off = (if inR r off then 0 else 8) ∧ readWM ms (r.1 : Int) off = (if inR r off then r.2.2.getD off.toNat 0 else 0) := by
  unfold readEM readWM
  rw [find_at hp hg hi]
  exact ⟨rfl, rfl⟩
theorem read_not {ms : Ms} {b : Int} (h : findM ms b = none) (off : Int) : readEM ms b off = 4 ∧ readWM ms b off = 0 := by
  unfold readEM readWM
  rw [h]
  exact ⟨rfl, rfl⟩
/-- Whether the first q rooms leave n words at x. -/
def FreeTo (P : List Room) (n x q : Nat) : Prop := ∀ (i : Nat) (r : Room), i < q → P[i]? = some r → r.1 + r.2.2.length ≤ x ∨ x + n ≤ r.1
theorem FreeTo.all {P : List Room} {n x : Nat} : FreeTo P n x P.length ↔ Free (ab P) n x := by
  constructor
  · intro h r hr
    obtain ⟨y, hy, rfl⟩ := List.mem_map.1 hr
    obtain ⟨i, hi⟩ := List.getElem?_of_mem hy
    exact h i y (List.getElem?_eq_some_iff.1 hi).1 hi
  · intro h i r _ hr
    exact h (r.1, r.2.2) (List.mem_map.2 ⟨r, List.mem_of_getElem? hr, rfl⟩)
theorem FreeTo.succ {P : List Room} {n x q : Nat} {r : Room} (hr : P[q]? = some r) : FreeTo P n x (q + 1) ↔ FreeTo P n x q ∧ (r.1 + r.2.2.length ≤ x ∨ x + n ≤ r.1) := by
  constructor
  · intro h
    exact ⟨fun i s hi hs => h i s (by omega) hs, h q r (Nat.lt_succ_self _) hr⟩
  · rintro ⟨h1, h2⟩ i s hi hs
    by_cases e : i = q
    · subst e; rw [hr] at hs; cases hs; exact h2
    · exact h1 i s (by omega) hs
end Go.Proofs.Ytapefbmbaofbbaa.Area
