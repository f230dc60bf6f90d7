/- Two objects have the same words just if they are one: plain; the contracts of SameObject and Small. -/
import Derived.Test.YtnoahdobgndmnaaObjA
import Derived.Test.YtnoahdobgndmnaaEqS
namespace Go.Proofs.Ytnoahdobgndmnaa.Obj
open Go Go.RowKit Go.Maps Go.Proofs.Ytnoahdobgndmnaa.Kit Go.Proofs.Ytnoahdobgndmnaa.Str Go.Proofs.Ytnoahdobgndmnaa.Names Go.Proofs.Ytnoahdobgndmnaa.Let Go.Proofs.Ytnoahdobgndmnaa.Wd
open Go.Proofs.Ytnoahdobgndmnaa.Letters (wv WsAt word_info)
open Go.Proofs.Ytnoahdobgndmnaa.Same (WordsAt same_any)
set_option linter.unusedSimpArgs false
set_option linter.unusedVariables false
theorem enc_app {l m : List UInt8} {x y : List Nat} (hl : l.length ≤ 255) (hm : m.length ≤ 255) (h : enc l ++ x = enc m ++ y) : l = m ∧ x = y := by
  have h1 := (rdOk_enc l hl x).2
  have h2 := (rdOk_enc m hm y).2
  have e : l = m := by rw [← h1, ← h2, h]
  subst e
  exact ⟨rfl, List.append_cancel_left h⟩
theorem defs_app : ∀ {ds es : List Df} {x y : List Nat}, ds.length = es.length → (∀ d ∈ ds, d.1.length ≤ 255 ∧ 0 ≤ d.2) → (∀ d ∈ es, d.1.length ≤ 255 ∧ 0 ≤ d.2) → ds.flatMap encD ++ x = es.flatMap encD ++ y → ds = es ∧ x = y
  | [], [], x, y, _, _, _, h => ⟨rfl, by simpa using h⟩
  | d :: ds, e :: es, x, y, hl, hd, he, h => by
    simp only [List.flatMap_cons, encD, List.append_assoc, List.singleton_append] at h
    obtain ⟨h1, h2⟩ := enc_app (hd d (List.mem_cons_self ..)).1 (he e (List.mem_cons_self ..)).1 h
    injection h2 with h2 h3
    obtain ⟨h4, h5⟩ := defs_app (by simpa using hl) (fun z hz => hd z (List.mem_cons_of_mem _ hz)) (fun z hz => he z (List.mem_cons_of_mem _ hz)) h3
    have q1 := (hd d (List.mem_cons_self ..)).2
    have q2 := (he e (List.mem_cons_self ..)).2
    have : d = e := Prod.ext h1 (by omega)
    exact ⟨by rw [this, h4], h5⟩
  | [], e :: es, x, y, hl, _, _, _ => by simp at hl
  | d :: ds, [], x, y, hl, _, _, _ => by simp at hl
theorem links_app : ∀ {ds es : List Lk} {x y : List Nat}, ds.length = es.length → (∀ d ∈ ds, d.1.length ≤ 255 ∧ d.2.1.length ≤ 255 ∧ 0 ≤ d.2.2) → (∀ d ∈ es, d.1.length ≤ 255 ∧ d.2.1.length ≤ 255 ∧ 0 ≤ d.2.2) → ds.flatMap encL ++ x = es.flatMap encL ++ y → ds = es ∧ x = y
  | [], [], x, y, _, _, _, h => ⟨rfl, by simpa using h⟩
  | d :: ds, e :: es, x, y, hl, hd, he, h => by
    simp only [List.flatMap_cons, encL, List.append_assoc, List.singleton_append] at h
    obtain ⟨h1, h2⟩ := enc_app (hd d (List.mem_cons_self ..)).1 (he e (List.mem_cons_self ..)).1 h
    obtain ⟨h6, h7⟩ := enc_app (hd d (List.mem_cons_self ..)).2.1 (he e (List.mem_cons_self ..)).2.1 h2
    injection h7 with h7 h3
    obtain ⟨h4, h5⟩ := links_app (by simpa using hl) (fun z hz => hd z (List.mem_cons_of_mem _ hz)) (fun z hz => he z (List.mem_cons_of_mem _ hz)) h3
    have q1 := (hd d (List.mem_cons_self ..)).2.2
    have q2 := (he e (List.mem_cons_self ..)).2.2
    have : d = e := Prod.ext h1 (Prod.ext h6 (by omega))
    exact ⟨by rw [this, h4], h5⟩
  | [], e :: es, x, y, hl, _, _, _ => by simp at hl
  | d :: ds, [], x, y, hl, _, _, _ => by simp at hl
theorem Fit.defs_ok {O : Ob} (h : Fit O) : ∀ d ∈ O.defs, d.1.length ≤ 255 ∧ 0 ≤ d.2 := fun d hd => ⟨by have := (signsB_len (h.defs d hd).1).2; omega, (h.defs d hd).2.1⟩
theorem Fit.links_ok {O : Ob} (h : Fit O) : ∀ d ∈ O.links, d.1.length ≤ 255 ∧ d.2.1.length ≤ 255 ∧ 0 ≤ d.2.2 := fun d hd => ⟨by
  rcases (h.links d hd).1 with e | e
  · rw [e]; simp
  · have := (signsB_len e).2; omega, by have := (signsB_len (h.links d hd).2.1).2; omega, (h.links d hd).2.2.1⟩
theorem enc_one {a b : Ob} (ha : Fit a) (hb : Fit b) (h : encO a = encO b) : a = b := by
  have h1 : (a.text ++ a.static ++ a.defs.flatMap encD ++ a.links.flatMap encL) = (b.text ++ b.static ++ b.defs.flatMap encD ++ b.links.flatMap encL) ∧ tl a = tl b := List.append_inj' h rfl
  obtain ⟨h2, ht⟩ := h1
  unfold tl at ht
  simp only [List.cons.injEq] at ht
  obtain ⟨e1, e2, e3, e4, _⟩ := ht
  rw [List.append_assoc, List.append_assoc, List.append_assoc, List.append_assoc] at h2
  obtain ⟨f1, h3⟩ := List.append_inj h2 e1
  obtain ⟨f2, h4⟩ := List.append_inj h3 e2
  obtain ⟨f3, h5⟩ := defs_app e3 ha.defs_ok hb.defs_ok h4
  obtain ⟨f4, _⟩ := links_app (x := []) (y := []) e4 ha.links_ok hb.links_ok (by rw [h5])
  cases a
  cases b
  simp only at f1 f2 f3 f4
  rw [f1, f2, f3, f4]
def deq (d e : Df) : Bool := decide (d = e)
def leq (d e : Lk) : Bool := decide (d = e)
theorem neq_df (d e : Df) (w : World) : (binOp .neq 41 (.agg #[st d.1, .int .i64 d.2]) (.agg #[st e.1, .int .i64 e.2])).run Try.prog w = .ok (.bool (!deq d e)) w := by
  have hq : deq d e = (d.1 == e.1 && (d.2 == e.2 && true)) := by
    unfold deq
    rw [Bool.eq_iff_iff]
    simp [Prod.ext_iff]
  refine neq_of ?_
  rw [hq]
  refine eqA_of (d := 9999) Try.underlying41 (by kernel_rfl) ?_
  exact eqf_cons (by rfl) rfl rfl (equalIn_str _ Try.underlying9 _ _ _) (eqf_cons (by rfl) rfl rfl (equalIn_int _ Try.underlying3 _ _ _) eqf_nil)
theorem neq_lk (d e : Lk) (w : World) : (binOp .neq 43 (.agg #[st d.1, st d.2.1, .int .i64 d.2.2]) (.agg #[st e.1, st e.2.1, .int .i64 e.2.2])).run Try.prog w = .ok (.bool (!leq d e)) w := by
  have hq : leq d e = (d.1 == e.1 && (d.2.1 == e.2.1 && (d.2.2 == e.2.2 && true))) := by
    unfold leq
    rw [Bool.eq_iff_iff]
    simp [Prod.ext_iff]
  refine neq_of ?_
  rw [hq]
  refine eqA_of (d := 9999) Try.underlying43 (by kernel_rfl) ?_
  exact eqf_cons (by rfl) rfl rfl (equalIn_str _ Try.underlying9 _ _ _) (eqf_cons (by rfl) rfl rfl (equalIn_str _ Try.underlying9 _ _ _) (eqf_cons (by rfl) rfl rfl (equalIn_int _ Try.underlying3 _ _ _) eqf_nil))
theorem sameW (w : World) (v1 v2 : Value) (xs ys : List Nat) (h1 : LsAt 1 uw w v1 xs) (h2 : LsAt 1 uw w v2 ys) (hl : xs.length ≤ 1000000) (hm : ys.length ≤ 1000000) :
    Calls Try.prog 15 #[v1, v2] w fun e w' => e = .returned (.bool (decide (xs = ys))) ∧ ∃ k, w' = w.drewN k := by
  have := same_any w v1 v2 _ _ (LsAt.ws h1).words (LsAt.ws h2).words (by simpa using hl) (by simpa using hm)
  refine this.mono fun e w' h => ⟨?_, h.2⟩
  rw [h.1]
  congr 2
  rw [Bool.eq_iff_iff]
  simp only [decide_eq_true_eq]
  constructor
  · intro h
    have := congrArg (List.map Int.toNat) h
    simpa [List.map_map, Function.comp_def] using this
  · rintro rfl; rfl
def SmallP (w : World) (e : Ending) (w' : World) : Prop := (∃ b, e = .returned (.bool b)) ∧ New w w'
set_option maxRecDepth 100000 in
set_option maxHeartbeats 4000000 in
theorem small_any (w : World) (v : Value) (O : Ob) (h : ObAt w v O) :
    Calls Try.prog 17 #[v] w (SmallP w) := by
  obtain ⟨a, b, c, d, rfl, hcells⟩ := box_ob h
  obtain ⟨a', b', c', d', e, ha, hb, hc, hd⟩ := id h
  injection e with e
  injection e with e
  injection e with e1 e
  injection e with e2 e
  injection e with e3 e
  injection e with e4 _
  subst e1 e2 e3 e4
  obtain ⟨a1, k1, ea, _⟩ := id ha
  obtain ⟨a2, k2, eb, _⟩ := id hb
  obtain ⟨a3, k3, ec, hk3, hk3m, _⟩ := id hc
  obtain ⟨a4, k4, ed, hk4, hk4m, _⟩ := id hd
  obtain ⟨m3, hm3⟩ : ∃ m, m = O.defs.length := ⟨_, rfl⟩
  obtain ⟨m4, hm4⟩ : ∃ m, m = O.links.length := ⟨_, rfl⟩
  rw [← hm3] at ec hk3
  rw [← hm4] at ed hk4
  subst ea eb ec ed
  unfold maxLen at hk3m hk4m
  obtain ⟨w1, hw1⟩ : ∃ w1, w1 = w.alloc (.cells #[.slice a1 O.text.length k1, .slice a2 O.static.length k2, .slice a3 m3 k3, .slice a4 m4 k4] 27) := ⟨_, rfl⟩
  have hW1 : New w w1 := by rw [hw1]; exact (New.refl w).alloc _
  rw [← hw1] at hcells
  obtain ⟨B, hB⟩ : ∃ B, B = w.heap.size := ⟨_, rfl⟩
  rw [← hB] at hcells
  have HB := hid hcells
  have HA := hid (And.intro hc (And.intro hd hW1))
  have hw1' := hid hw1
  have hB' := hid hB
  generalize O.text.length = m1 at *
  generalize O.static.length = m2 at *
  clear ha hb hc hd hcells hW1 hw1 hB hm3 hm4 h
  go_enter Try.func17, Try.ntmps17
  go_wp2_with fail
  rw [← hw1'.out, ← hB'.out]
  go_loopw [3, 4] (fun z i wr => (∃ k : Nat, k ≤ m3 ∧ i = .int .i64 (k : Int)) ∧ (∃ x : Int, z = .int .i64 x) ∧ New w1 wr) (fun _ i _ => m3 - (intOf i).toNat)
  case atStart => exact ⟨⟨0, Nat.zero_le _, rfl⟩, ⟨_, rfl⟩, New.refl _⟩
  case round =>
    obtain ⟨⟨k, hk, rfl⟩, ⟨x, rfl⟩, hnr⟩ := hrel
    obtain ⟨f0, f1, f2, f3⟩ := HB.out _ hnr
    by_cases hkn : k < m3
    · have w2' : IntKind.i64.wrap ((k : Int) + 1) = k + 1 := by rw [IntKind.wrap_i64]; omega
      obtain ⟨bb, oo, y, rfl, hx, _, hcell⟩ := (HA.out.1.new_ (HA.out.2.2.step hnr)).get hkn
      have c0 := hcell 0 _ rfl
      rw [Nat.add_zero] at c0
      have j0 : (0 : Int) ≤ (k : Int) := by omega
      have j1 : (k : Int) < (m3 : Int) := by omega
      have HN := hid hnr
      clear hcell hx hnr
      go_wp2_with fail
      exact ⟨⟨⟨k + 1, by omega, by go_num⟩, ⟨_, rfl⟩, HN.out⟩, by simp [intOf]; omega⟩
    · have hlt : ¬ (k : Int) < (m3 : Int) := by omega
      have HN := hid hnr
      clear hnr
      go_wp2_with fail
      go_loopw [3, 5] (fun z i wr => (∃ k : Nat, k ≤ m4 ∧ i = .int .i64 (k : Int)) ∧ (∃ x : Int, z = .int .i64 x) ∧ New w1 wr) (fun _ i _ => m4 - (intOf i).toNat)
      case atStart => exact ⟨⟨0, Nat.zero_le _, rfl⟩, ⟨_, rfl⟩, HN.out⟩
      case round =>
        clear HN
        clear f0 f1 f2 f3
        obtain ⟨⟨k, hk, rfl⟩, ⟨x, rfl⟩, hnr⟩ := hrel
        obtain ⟨f0, f1, f2, f3⟩ := HB.out _ hnr
        by_cases hkn : k < m4
        · have w2' : IntKind.i64.wrap ((k : Int) + 1) = k + 1 := by rw [IntKind.wrap_i64]; omega
          obtain ⟨bb, oo, y, rfl, hx, _, hcell⟩ := (HA.out.2.1.new_ (HA.out.2.2.step hnr)).get hkn
          have c0 := hcell 0 _ rfl
          have c1 := hcell 1 _ rfl
          rw [Nat.add_zero] at c0
          have j0 : (0 : Int) ≤ (k : Int) := by omega
          have j1 : (k : Int) < (m4 : Int) := by omega
          have HN := hid hnr
          clear hcell hx hnr
          go_wp2_with fail
          go_quiet (fail)
          go_wp2_with fail
          exact ⟨⟨⟨k + 1, by omega, by go_num⟩, ⟨_, rfl⟩, HN.out.drewN _⟩, by simp [intOf]; omega⟩
        · have hlt : ¬ (k : Int) < (m4 : Int) := by omega
          have HN := hid hnr
          clear hnr
          go_wp2_with fail
          all_goals
            go_ret
            exact ⟨⟨_, rfl⟩, HA.out.2.2.step HN.out⟩
/-- Two objects are one: a Bool. -/
def sameP (a b : Ob) : Prop := a.text = b.text ∧ a.static = b.static ∧ a.defs = b.defs ∧ a.links = b.links
theorem sameP_iff (a b : Ob) : sameP a b ↔ a = b := by
  cases a
  cases b
  unfold sameP
  simp only [Ob.mk.injEq]
/-- What SameObject leaves. -/
def SamePost (w : World) (a b : Ob) (e : Ending) (w' : World) : Prop := (a = b ∧ e = .returned (.bool true) ∨ a ≠ b ∧ e = .returned (.bool false)) ∧ New w w'
theorem ne_at {α : Type} {xs ys : List α} {k : Nat} {x y : α} (hx : xs[k]? = some x) (hy : ys[k]? = some y) (h : x ≠ y) : xs ≠ ys := by
  rintro rfl
  rw [hx] at hy
  exact h (Option.some.inj hy)
theorem eq_all {α : Type} {xs ys : List α} {n : Nat} (h1 : n = xs.length) (h2 : n = ys.length) (h : ∀ j, j < n → xs[j]? = ys[j]?) : xs = ys := by
  apply List.ext_getElem?
  intro i
  by_cases hi : i < n
  · exact h i hi
  · rw [List.getElem?_eq_none (by omega), List.getElem?_eq_none (by omega)]
set_option maxRecDepth 100000 in
set_option maxHeartbeats 8000000 in
theorem same_obj (w : World) (v1 v2 : Value) (O P : Ob) (h1 : ObAt w v1 O) (h2 : ObAt w v2 P) (ht1 : O.text.length ≤ 1000000) (ht2 : P.text.length ≤ 1000000) (hs1 : O.static.length ≤ 1000000) (hs2 : P.static.length ≤ 1000000) :
    Calls Try.prog 11 #[v1, v2] w (SamePost w O P) := by
  obtain ⟨a, b, c, d, rfl, ha, hb, hc, hd⟩ := h1
  obtain ⟨a', b', c', d', rfl, ha', hb', hc', hd'⟩ := h2
  have hT := sameW
  obtain ⟨a3, k3, ec, hk3, hk3m, _⟩ := id hc
  obtain ⟨a4, k4, ed, hk4, hk4m, _⟩ := id hd
  obtain ⟨p3, l3, ec', _⟩ := id hc'
  obtain ⟨p4, l4, ed', _⟩ := id hd'
  obtain ⟨m3, hm3⟩ : ∃ m, m = O.defs.length := ⟨_, rfl⟩
  obtain ⟨m4, hm4⟩ : ∃ m, m = O.links.length := ⟨_, rfl⟩
  obtain ⟨q3, hq3⟩ : ∃ m, m = P.defs.length := ⟨_, rfl⟩
  obtain ⟨q4, hq4⟩ : ∃ m, m = P.links.length := ⟨_, rfl⟩
  rw [← hm3] at ec hk3
  rw [← hm4] at ed hk4
  rw [← hq3] at ec'
  rw [← hq4] at ed'
  subst ec ed ec' ed'
  unfold maxLen at hk3m hk4m
  obtain ⟨B, hB⟩ : ∃ B, B = w.heap.size := ⟨_, rfl⟩
  obtain ⟨w1, hw1⟩ : ∃ w1, w1 = (w.alloc (.cells #[a, b, .slice a3 m3 k3, .slice a4 m4 k4] 27)).alloc (.cells #[a', b', .slice p3 q3 l3, .slice p4 q4 l4] 27) := ⟨_, rfl⟩
  have hW1 : New w w1 := by rw [hw1]; exact ((New.refl w).alloc _).alloc _
  have hB1 : Blk w1 B 27 #[a, b, .slice a3 m3 k3, .slice a4 m4 k4] := by rw [hw1, hB]; exact (Blk.new w _ _).new_ ((New.refl _).alloc _)
  have hB2 : Blk w1 (B + 1) 27 #[a', b', .slice p3 q3 l3, .slice p4 q4 l4] := by
    have := Blk.new (w.alloc (.cells #[a, b, .slice a3 m3 k3, .slice a4 m4 k4] 27)) 27 #[a', b', .slice p3 q3 l3, .slice p4 q4 l4]
    rw [World.size_alloc] at this
    rw [hw1, hB]
    exact this
  have HBX : Hid (∀ X, New w1 X → (X.cell? ⟨B, 0, none⟩ = some a ∧ X.cell? ⟨B, 1, none⟩ = some b ∧ X.cell? ⟨B, 2, none⟩ = some (.slice a3 m3 k3) ∧ X.cell? ⟨B, 3, none⟩ = some (.slice a4 m4 k4)) ∧ X.cell? ⟨B + 1, 0, none⟩ = some a' ∧ X.cell? ⟨B + 1, 1, none⟩ = some b' ∧ X.cell? ⟨B + 1, 2, none⟩ = some (.slice p3 q3 l3) ∧ X.cell? ⟨B + 1, 3, none⟩ = some (.slice p4 q4 l4)) := fun X hX => ⟨blk4 (hB1.new_ hX), blk4 (hB2.new_ hX)⟩
  have hS1 := fun X (hX : New w1 X) => sameW X a a' O.text P.text (ha.new_ (hW1.step hX)) (ha'.new_ (hW1.step hX)) ht1 ht2
  have hS2 := fun X (hX : New w1 X) => sameW X b b' O.static P.static (hb.new_ (hW1.step hX)) (hb'.new_ (hW1.step hX)) hs1 hs2
  have HA := hid (And.intro hc (And.intro hd (And.intro hc' (And.intro hd' hW1))))
  have HM := hid (And.intro hm3 (And.intro hm4 (And.intro hq3 hq4)))
  have hw1' := hid hw1
  have hB' := hid hB
  clear ha hb hc hd ha' hb' hc' hd' hW1 hB1 hB2 hw1 hB hm3 hm4 hq3 hq4 ht1 ht2 hs1 hs2 hT
  by_cases e1 : O.text = P.text
  · rw [decide_eq_true e1] at hS1
    by_cases e2 : O.static = P.static
    · rw [decide_eq_true e2] at hS2
      have HS1 := hid hS1
      have HS2 := hid hS2
      by_cases e3 : m3 = q3
      · subst e3
        by_cases e4 : m4 = q4
        · subst e4
          have HE := hid (And.intro e1 e2)
          clear hS1 hS2 e1 e2
          go_enter Try.func11, Try.ntmps11
          go_wp2_with fail
          rw [← hw1'.out, ← hB'.out]
          refine (HS1.out _ (New.refl _)).mono ?_
          rintro e w2 ⟨rfl, k1, rfl⟩
          obtain ⟨⟨x0, x1, x2, x3⟩, y0, y1, y2, y3⟩ := HBX.out _ (New.refl _)
          go_wp2_with fail
          refine (HS2.out _ ((New.refl _).drewN _)).mono ?_
          rintro e w3 ⟨rfl, k2, rfl⟩
          go_wp2_with fail
          have HN0 : Hid (New w1 (w1.drewN (k1 + k2))) := (New.refl _).drewN _
          clear x0 x1 x2 x3 y0 y1 y2 y3
          go_loopw [5] (fun i wr => ∃ k : Nat, k ≤ m3 ∧ i = .int .i64 (k : Int) ∧ New w1 wr ∧ ∀ j, j < k → O.defs[j]? = P.defs[j]?) (fun i _ => m3 - (intOf i).toNat)
          case atStart => exact ⟨0, Nat.zero_le _, rfl, HN0.out, fun j hj => absurd hj (by omega)⟩
          case round =>
            clear HN0
            obtain ⟨k, hk, rfl, hnr, hall⟩ := hrel
            obtain ⟨⟨x0, x1, x2, x3⟩, y0, y1, y2, y3⟩ := HBX.out _ hnr
            by_cases hkn : k < m3
            · have w2' : IntKind.i64.wrap ((k : Int) + 1) = k + 1 := by rw [IntKind.wrap_i64]; omega
              obtain ⟨bb, oo, x, rfl, hx, _, hcell⟩ := (HA.out.1.new_ (HA.out.2.2.2.2.step hnr)).get hkn
              obtain ⟨bb', oo', y, rfl, hy, _, hcell'⟩ := (HA.out.2.2.1.new_ (HA.out.2.2.2.2.step hnr)).get hkn
              have c0 := hcell 0 _ rfl
              have c1 := hcell 1 _ rfl
              have d0 := hcell' 0 _ rfl
              have d1 := hcell' 1 _ rfl
              rw [Nat.add_zero] at c0 d0
              have j0 : (0 : Int) ≤ (k : Int) := by omega
              have j1 : (k : Int) < (m3 : Int) := by omega
              have hnq := fun X => neq_df x y X
              by_cases hxy : x = y
              · rw [show deq x y = true from decide_eq_true hxy, Bool.not_true] at hnq
                have hall' : ∀ j, j < k + 1 → O.defs[j]? = P.defs[j]? := fun j hj => by
                  by_cases e : j = k
                  · subst e; rw [hx, hy, hxy]
                  · exact hall j (by omega)
                have HX := hid (And.intro hall' hnr)
                clear hall hall' hnr hxy hx hy hcell hcell'
                go_wp2_with fail
                go_quiet (fail)
                go_wp2_with fail
                exact ⟨⟨k + 1, by omega, by go_num, HX.out.2.drewN _, HX.out.1⟩, by simp [intOf]; omega⟩
              · rw [show deq x y = false from decide_eq_false hxy, Bool.not_false] at hnq
                have HF := hid (show O ≠ P from fun h => hxy (by rw [h, hy] at hx; exact (Option.some.inj hx).symm))
                have HX := hid hnr
                clear hall hnr hxy hx hy hcell hcell'
                go_wp2_with fail
                go_quiet (fail)
                go_wp2_with fail
                go_ret
                exact ⟨.inr ⟨HF.out, rfl⟩, (HA.out.2.2.2.2.step HX.out).drewN _⟩
            · have hke : m3 = k := by omega
              subst hke
              have hlt : ¬ (m3 : Int) < (m3 : Int) := by omega
              have HD := hid (eq_all HM.out.1 HM.out.2.2.1 hall)
              have HN0 := hid hnr
              clear hall hnr
              go_wp2_with fail
              clear x0 x1 x2 x3 y0 y1 y2 y3
              go_loopw [6] (fun i wr => ∃ k : Nat, k ≤ m4 ∧ i = .int .i64 (k : Int) ∧ New w1 wr ∧ ∀ j, j < k → O.links[j]? = P.links[j]?) (fun i _ => m4 - (intOf i).toNat)
              case atStart => exact ⟨0, Nat.zero_le _, rfl, HN0.out, fun j hj => absurd hj (by omega)⟩
              case round =>
                clear HN0
                obtain ⟨k, hk, rfl, hnr, hall⟩ := hrel
                obtain ⟨⟨x0, x1, x2, x3⟩, y0, y1, y2, y3⟩ := HBX.out _ hnr
                by_cases hkn : k < m4
                · have w2' : IntKind.i64.wrap ((k : Int) + 1) = k + 1 := by rw [IntKind.wrap_i64]; omega
                  obtain ⟨bb, oo, x, rfl, hx, _, hcell⟩ := (HA.out.2.1.new_ (HA.out.2.2.2.2.step hnr)).get hkn
                  obtain ⟨bb', oo', y, rfl, hy, _, hcell'⟩ := (HA.out.2.2.2.1.new_ (HA.out.2.2.2.2.step hnr)).get hkn
                  have c0 := hcell 0 _ rfl
                  have c1 := hcell 1 _ rfl
                  have c2 := hcell 2 _ rfl
                  have d0 := hcell' 0 _ rfl
                  have d1 := hcell' 1 _ rfl
                  have d2 := hcell' 2 _ rfl
                  rw [Nat.add_zero] at c0 d0
                  have j0 : (0 : Int) ≤ (k : Int) := by omega
                  have j1 : (k : Int) < (m4 : Int) := by omega
                  have hnq := fun X => neq_lk x y X
                  by_cases hxy : x = y
                  · rw [show leq x y = true from decide_eq_true hxy, Bool.not_true] at hnq
                    have hall' : ∀ j, j < k + 1 → O.links[j]? = P.links[j]? := fun j hj => by
                      by_cases e : j = k
                      · subst e; rw [hx, hy, hxy]
                      · exact hall j (by omega)
                    have HX := hid (And.intro hall' hnr)
                    clear hall hall' hnr hxy hx hy hcell hcell'
                    go_wp2_with fail
                    go_quiet (fail)
                    go_wp2_with fail
                    exact ⟨⟨k + 1, by omega, by go_num, HX.out.2.drewN _, HX.out.1⟩, by simp [intOf]; omega⟩
                  · rw [show leq x y = false from decide_eq_false hxy, Bool.not_false] at hnq
                    have HF := hid (show O ≠ P from fun h => hxy (by rw [h, hy] at hx; exact (Option.some.inj hx).symm))
                    have HX := hid hnr
                    clear hall hnr hxy hx hy hcell hcell'
                    go_wp2_with fail
                    go_quiet (fail)
                    go_wp2_with fail
                    go_ret
                    exact ⟨.inr ⟨HF.out, rfl⟩, (HA.out.2.2.2.2.step HX.out).drewN _⟩
                · have hke : m4 = k := by omega
                  subst hke
                  have hlt : ¬ (m4 : Int) < (m4 : Int) := by omega
                  have heq : O = P := by
                    refine (sameP_iff O P).1 ⟨HE.out.1, HE.out.2, HD.out, ?_⟩
                    exact eq_all HM.out.2.1 HM.out.2.2.2 hall
                  have HX := hid (And.intro heq hnr)
                  clear heq hall hnr
                  go_wp2_with fail
                  go_ret
                  exact ⟨.inl ⟨HX.out.1, rfl⟩, HA.out.2.2.2.2.step HX.out.2⟩
        · have hne : ¬ (m4 : Int) = (q4 : Int) := by omega
          have HF := hid (show O ≠ P from fun h => e4 (by rw [HM.out.2.1, HM.out.2.2.2, h]))
          clear hS1 hS2 e1 e2 e4
          go_enter Try.func11, Try.ntmps11
          go_wp2_with fail
          rw [← hw1'.out, ← hB'.out]
          refine (HS1.out _ (New.refl _)).mono ?_
          rintro e w2 ⟨rfl, k1, rfl⟩
          obtain ⟨⟨x0, x1, x2, x3⟩, y0, y1, y2, y3⟩ := HBX.out _ (New.refl _)
          go_wp2_with fail
          refine (HS2.out _ ((New.refl _).drewN _)).mono ?_
          rintro e w3 ⟨rfl, k2, rfl⟩
          go_wp2_with fail
          go_ret
          exact ⟨.inr ⟨HF.out, rfl⟩, HA.out.2.2.2.2.drewN _⟩
      · have hne : ¬ (m3 : Int) = (q3 : Int) := by omega
        have HF := hid (show O ≠ P from fun h => e3 (by rw [HM.out.1, HM.out.2.2.1, h]))
        clear hS1 hS2 e1 e2 e3
        go_enter Try.func11, Try.ntmps11
        go_wp2_with fail
        rw [← hw1'.out, ← hB'.out]
        refine (HS1.out _ (New.refl _)).mono ?_
        rintro e w2 ⟨rfl, k1, rfl⟩
        obtain ⟨⟨x0, x1, x2, x3⟩, y0, y1, y2, y3⟩ := HBX.out _ (New.refl _)
        go_wp2_with fail
        refine (HS2.out _ ((New.refl _).drewN _)).mono ?_
        rintro e w3 ⟨rfl, k2, rfl⟩
        go_wp2_with fail
        go_ret
        exact ⟨.inr ⟨HF.out, rfl⟩, HA.out.2.2.2.2.drewN _⟩
    · rw [decide_eq_false e2] at hS2
      have HF := hid (show O ≠ P from fun h => e2 (by rw [h]))
      have HS1 := hid hS1
      have HS2 := hid hS2
      clear hS1 hS2 e1 e2
      go_enter Try.func11, Try.ntmps11
      go_wp2_with fail
      rw [← hw1'.out, ← hB'.out]
      refine (HS1.out _ (New.refl _)).mono ?_
      rintro e w2 ⟨rfl, k1, rfl⟩
      obtain ⟨⟨x0, x1, x2, x3⟩, y0, y1, y2, y3⟩ := HBX.out _ (New.refl _)
      go_wp2_with fail
      refine (HS2.out _ ((New.refl _).drewN _)).mono ?_
      rintro e w3 ⟨rfl, k2, rfl⟩
      go_wp2_with fail
      go_ret
      exact ⟨.inr ⟨HF.out, rfl⟩, HA.out.2.2.2.2.drewN _⟩
  · rw [decide_eq_false e1] at hS1
    have HF := hid (show O ≠ P from fun h => e1 (by rw [h]))
    have HS1 := hid hS1
    clear hS1 hS2 e1
    go_enter Try.func11, Try.ntmps11
    go_wp2_with fail
    rw [← hw1'.out, ← hB'.out]
    refine (HS1.out _ (New.refl _)).mono ?_
    rintro e w2 ⟨rfl, k1, rfl⟩
    go_wp2_with fail
    go_ret
    exact ⟨.inr ⟨HF.out, rfl⟩, HA.out.2.2.2.2.drewN _⟩
end Go.Proofs.Ytnoahdobgndmnaa.Obj
