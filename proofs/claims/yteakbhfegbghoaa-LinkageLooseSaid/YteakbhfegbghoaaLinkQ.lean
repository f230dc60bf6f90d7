/- Package linkage: its sections as plain data. -/
import Derived.Test.YteakbhfegbghoaaLinkF
namespace Go.Proofs.Yteakbhfegbghoaa.Link
open Go Go.RowKit Go.ChangeMaps Go.Proofs.Yteakbhfegbghoaa.Kit Go.Proofs.Yteakbhfegbghoaa.Area
open Go.Proofs.Yteakbhfegbghoaa.Point (pt packN mayB)
set_option linter.unusedSimpArgs false
set_option linter.unusedVariables false
abbrev P4 := Nat × Nat × Nat × Nat
structure Sc where
  ring : Nat
  seg : Nat
  base : Nat
  st : List Nat
  ls : List P4
def pw (p : P4) : Nat := packN p.1 p.2.1 p.2.2.1 p.2.2.2
def okP (p : P4) : Prop := mayB p.1 p.2.1 p.2.2.1 p.2.2.2 = true
abbrev pv (p : P4) : Value := pt p.1 p.2.1 p.2.2.1 p.2.2.2
def Sc.words (q : Sc) : List Int := (q.seg : Int) :: (q.st.map (fun x : Nat => (x : Int)) ++ q.ls.map fun p => (pw p : Int))
def Sc.room (q : Sc) : Nat × List Int := (q.base, q.words)
def Sc.key (q : Sc) : Key := ((q.ring : Int), (q.seg : Int))
def Sc.sec (q : Sc) : Key × Sec := (q.key, (q.base, q.st.length, q.ls.length))
def Sc.size (q : Sc) : Nat := 1 + q.st.length + q.ls.length
theorem Sc.words_len (q : Sc) : q.words.length = q.size := by simp [Sc.words, Sc.size]; omega
def ofR (Q : List Sc) (r : Nat) : List Sc := Q.filter fun q => decide (q.ring = r)
structure okS (q : Sc) : Prop where
  ring : q.ring < 8
  seg0 : 1 ≤ q.seg
  seg1 : q.seg ≤ 63
  st : ∀ x ∈ q.st, x < 68719476736
  ls : ∀ p ∈ q.ls, okP p
  stl : q.st.length ≤ 64
  lsl : q.ls.length ≤ 32
theorem okS.key {q : Sc} (h : okS q) : okK q.key := by
  have h1 := h.ring
  have h2 := h.seg1
  have e1 : IntKind.i64.min = -9223372036854775808 := rfl
  have e2 : IntKind.i64.max = 9223372036854775807 := rfl
  unfold okK Sc.key
  constructor <;> simp [Lit.wf, e1, e2] <;> omega
def Rel (ms : Nat → Ms) (Q : List Sc) : Prop := (∀ r, r < 8 → ((ofR Q r).map Sc.room).Perm (ms r)) ∧ ∀ q ∈ Q, okS q
def findS (Q : List Sc) (x : Key) : Option Sc := Q.find? fun q => decide (q.key = x)
theorem get_sec (Q : List Sc) (x : Key) : get? (Q.map Sc.sec) x = (findS Q x).map fun q => (q.base, q.st.length, q.ls.length) := by
  unfold get? findS
  rw [List.find?_map, Option.map_map]
  rfl
theorem find_key {Q : List Sc} {x : Key} {q : Sc} (h : findS Q x = some q) : q ∈ Q ∧ q.key = x :=
  ⟨List.mem_of_find?_eq_some h, by have := List.find?_some h; simpa using this⟩
theorem key_inj : ∀ {Q : List Sc}, (Q.map Sc.key).Nodup → ∀ {p q : Sc}, p ∈ Q → q ∈ Q → p.key = q.key → p = q
  | [], _, p, q, hp, _, _ => by cases hp
  | a :: Q, hn, p, q, hp, hq, e => by
    rw [List.map_cons, List.nodup_cons] at hn
    rcases List.mem_cons.1 hp with rfl | hp2
    · rcases List.mem_cons.1 hq with rfl | hq2
      · rfl
      · exact absurd (List.mem_map.2 ⟨q, hq2, e.symm⟩) hn.1
    · rcases List.mem_cons.1 hq with rfl | hq2
      · exact absurd (List.mem_map.2 ⟨p, hp2, e⟩) hn.1
      · exact key_inj hn.2 hp2 hq2 e
theorem find_of_mem {Q : List Sc} (hn : (Q.map Sc.key).Nodup) {q : Sc} (hq : q ∈ Q) : findS Q q.key = some q := by
  unfold findS
  cases h : Q.find? (fun p => decide (p.key = q.key)) with
  | none =>
    have := List.find?_eq_none.1 h q hq
    simp at this
  | some p =>
    have h1 := List.mem_of_find?_eq_some h
    have h2 := List.find?_some h
    rw [key_inj hn h1 hq (by simpa using h2)]
theorem find_none {Q : List Sc} {x : Key} (h : ∀ q ∈ Q, q.key ≠ x) : findS Q x = none := by
  unfold findS
  rw [List.find?_eq_none]
  intro q hq
  simpa using h q hq
section
variable {ms : Nat → Ms} {Q : List Sc} {q q' : Sc}
theorem Rel.mem (h : Rel ms Q) (hq : q ∈ Q) : q.room ∈ ms q.ring :=
  (h.1 q.ring (h.2 q hq).ring).mem_iff.1 (List.mem_map.2 ⟨q, List.mem_filter.2 ⟨hq, decide_eq_true rfl⟩, rfl⟩)
theorem Rel.find (h : Rel ms Q) (hg : ∀ r, r < 8 → Area.Good 256 (ms r)) (hq : q ∈ Q) : findM (ms q.ring) (q.base : Int) = some q.room := find_mem (hg _ (h.2 q hq).ring) (h.mem hq)
theorem Rel.read (h : Rel ms Q) (hg : ∀ r, r < 8 → Area.Good 256 (ms r)) (hq : q ∈ Q) {k : Nat} {x : Int} (hk : q.words[k]? = some x) : readEM (ms q.ring) (q.base : Int) (k : Int) = 0 ∧ readWM (ms q.ring) (q.base : Int) (k : Int) = x := by
  have hf := h.find hg hq
  have hkl := (List.getElem?_eq_some_iff.1 hk).1
  have hin : inM q.room (k : Int) = true := by
    unfold inM
    exact decide_eq_true ⟨by omega, by show (k : Int) < (q.words.length : Int); omega⟩
  constructor
  · unfold readEM; rw [hf]; simp only; rw [if_pos hin]
  · unfold readWM; rw [hf]; simp only; rw [if_pos hin, Int.toNat_natCast, List.getD_eq_getElem?_getD]
    show (q.words[k]?).getD 0 = x
    rw [hk]; rfl
theorem words_st {i : Nat} {x : Nat} (h : q.st[i]? = some x) : q.words[1 + i]? = some (x : Int) := by
  have hl := (List.getElem?_eq_some_iff.1 h).1
  unfold Sc.words
  rw [Nat.add_comm, List.getElem?_cons_succ, List.getElem?_append_left (by simpa using hl), List.getElem?_map, h]
  rfl
theorem words_ls {i : Nat} {p : P4} (h : q.ls[i]? = some p) : q.words[1 + q.st.length + i]? = some (pw p : Int) := by
  unfold Sc.words
  rw [show 1 + q.st.length + i = (q.st.length + i) + 1 by omega, List.getElem?_cons_succ, List.getElem?_append_right (by simp), List.length_map, Nat.add_sub_cancel_left, List.getElem?_map, h]
  rfl
def setSt (q : Sc) (i x : Nat) : Sc := { q with st := q.st.set i x }
def setLs (q : Sc) (i : Nat) (p : P4) : Sc := { q with ls := q.ls.set i p }
theorem words_setSt {i x : Nat} (hi : i < q.st.length) : (setSt q i x).words = q.words.set (1 + i) (x : Int) := by
  unfold setSt Sc.words
  simp only
  rw [Nat.add_comm 1 i, List.set_cons_succ, List.set_append_left _ _ (by simpa using hi), List.map_set]
theorem words_setLs {i : Nat} {p : P4} : (setLs q i p).words = q.words.set (1 + q.st.length + i) (pw p : Int) := by
  unfold setLs Sc.words
  simp only
  rw [show 1 + q.st.length + i = (q.st.length + i) + 1 by omega, List.set_cons_succ, List.set_append_right _ _ (by simp), List.map_set, List.length_map, Nat.add_sub_cancel_left]
/-- One section in place of that of its key. -/
def setS (Q : List Sc) (q' : Sc) : List Sc := Q.map fun p => if p.key = q'.key then q' else p
theorem setS_sec (hn : (Q.map Sc.key).Nodup) (hq : q ∈ Q) (hk : q'.sec = q.sec) : (setS Q q').map Sc.sec = Q.map Sc.sec := by
  unfold setS
  rw [List.map_map]
  refine List.map_congr_left fun p hp => ?_
  have e1 : q'.key = q.key := congrArg Prod.fst hk
  show Sc.sec (if p.key = q'.key then q' else p) = p.sec
  by_cases e : p.key = q'.key
  · rw [if_pos e, hk, key_inj hn hp hq (e.trans e1)]
  · rw [if_neg e]
theorem ofR_set (Q : List Sc) (q' : Sc) (r : Nat) : ofR (setS Q q') r = (ofR Q r).map fun p => if p.key = q'.key then q' else p := by
  unfold ofR setS
  rw [List.filter_map]
  congr 1
  apply List.filter_congr
  intro p _
  simp only [Function.comp_apply]
  by_cases e : p.key = q'.key
  · rw [if_pos e]
    have : p.ring = q'.ring := by have := congrArg Prod.fst e; simp only [Sc.key] at this; omega
    rw [this]
  · rw [if_neg e]
theorem Rel.write (h : Rel ms Q) (hg : ∀ r, r < 8 → Area.Good 256 (ms r)) (hn : (Q.map Sc.key).Nodup) (hq : q ∈ Q) {off : Nat} {x : Int} (hoff : off < q.words.length) (hk : q'.key = q.key) (hb : q'.base = q.base) (hw : q'.words = q.words.set off x) (hok : okS q') :
    Rel (upd ms q.ring (writeM (ms q.ring) (q.base : Int) (off : Int) x)) (setS Q q') := by
  have hring : q'.ring = q.ring := by have := congrArg Prod.fst hk; simp only [Sc.key] at this; omega
  refine ⟨fun r hr => ?_, fun p hp => ?_⟩
  · rw [ofR_set]
    by_cases e : r = q.ring
    · rw [e, upd_same]
      have h1 := ((h.1 q.ring (h.2 q hq).ring).map fun (rm : Nat × List Int) => if (rm.1 : Int) = (q.base : Int) ∧ inM rm (off : Int) = true then (rm.1, rm.2.set (off : Int).toNat x) else rm)
      refine List.Perm.trans (List.Perm.of_eq ?_) h1
      rw [List.map_map, List.map_map]
      refine List.map_congr_left fun p hp => ?_
      have hpQ := (List.mem_filter.1 hp).1
      have hpr : p.ring = q.ring := by have := (List.mem_filter.1 hp).2; simpa using this
      simp only [Function.comp_apply]
      by_cases ek : p.key = q'.key
      · have := key_inj hn hpQ hq (ek.trans hk)
        subst this
        rw [if_pos ek]
        have hin : inM p.room (off : Int) = true := by
          unfold inM
          exact decide_eq_true ⟨by omega, by show (off : Int) < (p.words.length : Int); omega⟩
        rw [if_pos ⟨rfl, hin⟩, Int.toNat_natCast]
        show (q'.base, q'.words) = (p.base, p.words.set off x)
        rw [hb, hw]
      · rw [if_neg ek, if_neg]
        rintro ⟨e1, _⟩
        have e2 : p.base = q.base := by have : (p.base : Int) = (q.base : Int) := e1; omega
        have f1 := h.find hg hpQ
        have f2 := h.find hg hq
        rw [hpr, e2, f2] at f1
        have f3 := Option.some.inj f1
        have f4 : q.words = p.words := congrArg Prod.snd f3
        have f5 : (q.seg : Int) = (p.seg : Int) := by
          have := congrArg (fun l : List Int => l.head?) f4
          simpa [Sc.words] using this
        apply ek
        rw [hk]
        unfold Sc.key
        rw [hpr, f5]
    · rw [upd_ne _ _ e]
      refine List.Perm.trans (List.Perm.of_eq ?_) (h.1 r hr)
      rw [List.map_map]
      refine List.map_congr_left fun p hp => ?_
      have hpr : p.ring = r := by have := (List.mem_filter.1 hp).2; simpa using this
      simp only [Function.comp_apply]
      rw [if_neg]
      intro ek
      have := congrArg Prod.fst (ek.trans hk)
      simp only [Sc.key] at this
      exact e (by omega)
  · obtain ⟨p', hp', rfl⟩ := List.mem_map.1 hp
    by_cases e : p'.key = q'.key
    · rw [if_pos e]; exact hok
    · rw [if_neg e]; exact h.2 p' hp'
theorem Rel.close (h : Rel ms Q) (hg : ∀ r, r < 8 → Area.Good 256 (ms r)) (hn : (Q.map Sc.key).Nodup) (hq : q ∈ Q) : Rel (upd ms q.ring (giveM (ms q.ring) (q.base : Int))) (Q.filter fun p => decide (p.key ≠ q.key)) := by
  refine ⟨fun r hr => ?_, fun p hp => h.2 p (List.mem_filter.1 hp).1⟩
  have e0 : ofR (Q.filter fun p => decide (p.key ≠ q.key)) r = (ofR Q r).filter fun p => decide (p.key ≠ q.key) := by
    unfold ofR; rw [List.filter_filter, List.filter_filter]; congr 1; funext p; rw [Bool.and_comm]
  rw [e0]
  by_cases e : r = q.ring
  · rw [e, upd_same]
    unfold giveM
    refine List.Perm.trans (List.Perm.of_eq ?_) ((h.1 q.ring (h.2 q hq).ring).filter _)
    rw [List.filter_map]
    congr 1
    apply List.filter_congr
    intro p hp
    have hpQ := (List.mem_filter.1 hp).1
    have hpr : p.ring = q.ring := by have := (List.mem_filter.1 hp).2; simpa using this
    simp only [Function.comp_apply]
    by_cases ek : p.key = q.key
    · have := key_inj hn hpQ hq ek
      subst this
      simp [Sc.room]
    · have : ¬ p.base = q.base := fun e2 => by
        have f1 := h.find hg hpQ
        have f2 := h.find hg hq
        rw [hpr, e2, f2] at f1
        have f4 : q.words = p.words := congrArg Prod.snd (Option.some.inj f1)
        have f5 : (q.seg : Int) = (p.seg : Int) := by
          have := congrArg (fun l : List Int => l.head?) f4
          simpa [Sc.words] using this
        apply ek
        unfold Sc.key
        rw [hpr, f5]
      have h2 : ¬ (p.base : Int) = (q.base : Int) := by omega
      simp [Sc.room, ek, h2]
  · rw [upd_ne _ _ e]
    refine List.Perm.trans (List.Perm.of_eq ?_) (h.1 r hr)
    congr 1
    rw [List.filter_eq_self]
    intro p hp
    have hpr : p.ring = r := by have := (List.mem_filter.1 hp).2; simpa using this
    have : ¬ p.key = q.key := fun ek => by
      have := congrArg Prod.fst ek
      simp only [Sc.key] at this
      exact e (by omega)
    simp [this]
theorem Rel.open (h : Rel ms Q) (hok : okS q) {m' : Ms} (hp : m'.Perm (q.room :: ms q.ring)) : Rel (upd ms q.ring m') (Q ++ [q]) := by
  refine ⟨fun r hr => ?_, fun p hp => ?_⟩
  · unfold ofR
    rw [List.filter_append]
    by_cases e : r = q.ring
    · rw [e, upd_same, show List.filter (fun p : Sc => decide (p.ring = q.ring)) [q] = [q] by simp, List.map_append]
      refine List.Perm.trans ?_ hp.symm
      refine (List.perm_append_singleton _ _).trans ?_
      exact (h.1 q.ring hok.ring).cons _
    · rw [upd_ne _ _ e, show List.filter (fun p : Sc => decide (p.ring = r)) [q] = [] by simp [Ne.symm e], List.append_nil]
      exact h.1 r hr
  · rcases List.mem_append.1 hp with hp | hp
    · exact h.2 p hp
    · rw [List.mem_singleton.1 hp]; exact hok
theorem Rel.used (h : Rel ms Q) {r : Nat} (hr : r < 8) : usedM (ms r) = ((ofR Q r).map Sc.size).sum := by
  unfold usedM
  rw [← ((h.1 r hr).map fun x : Nat × List Int => x.2.length).sum_nat, List.map_map]
  congr 1
  refine List.map_congr_left fun p _ => ?_
  exact p.words_len
/-- n words are free at x in a ring's area. -/
def FreeQ (Q : List Sc) (r n x : Nat) : Prop := ∀ q ∈ Q, q.ring = r → q.base + q.size ≤ x ∨ x + n ≤ q.base
theorem Rel.free (h : Rel ms Q) {r : Nat} (hr : r < 8) (n x : Nat) : Free (ms r) n x ↔ FreeQ Q r n x := by
  rw [← Free.perm (h.1 r hr)]
  constructor
  · intro f p hp e
    have := f p.room (List.mem_map.2 ⟨p, List.mem_filter.2 ⟨hp, decide_eq_true e⟩, rfl⟩)
    rw [← p.words_len]
    exact this
  · intro f rm hrm
    obtain ⟨p, hp, rfl⟩ := List.mem_map.1 hrm
    have := f p (List.mem_filter.1 hp).1 (by simpa using (List.mem_filter.1 hp).2)
    rw [← p.words_len] at this
    exact this
end
end Go.Proofs.Yteakbhfegbghoaa.Link
