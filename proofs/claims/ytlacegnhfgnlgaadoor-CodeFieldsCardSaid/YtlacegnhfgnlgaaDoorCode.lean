/- The contracts of package code. An instruction is four whole numbers. -/
import Derived.Test.YtlacegnhfgnlgaaDoorFieldsLay
import Derived.Test.YtlacegnhfgnlgaaDoorRef1Word
import Derived.Laws.StructEq
import Derived.KernelRfl
import Derived.Lib.SmallJoins
import Derived.BigQuiet
import Derived.Deep.RegionHeld3
namespace Go.Proofs.YtlacegnhfgnlgaaDoor.Code
open Go Go.RowKit Go.Proofs.YtlacegnhfgnlgaaDoor.Wd Go.Proofs.YtlacegnhfgnlgaaDoor.Word Go.Proofs.YtlacegnhfgnlgaaDoor.Kit
set_option linter.unusedSimpArgs false
set_option linter.unusedVariables false
abbrev inst (a b c d : Int) : Value := .agg #[.int .i64 a, .int .i64 b, .int .i64 c, .int .i64 d]
attribute [go_sem] inst
@[go_sem] theorem field_i0 (a b c d : Int) (w : World) : (Instr.field 23 (.agg #[.int .i64 a, .int .i64 b, .int .i64 c, .int .i64 d]) 0).run Tryd.prog w = .ok (.int .i64 a) w := by kernel_rfl
@[go_sem] theorem field_i1 (a b c d : Int) (w : World) : (Instr.field 23 (.agg #[.int .i64 a, .int .i64 b, .int .i64 c, .int .i64 d]) 1).run Tryd.prog w = .ok (.int .i64 b) w := by kernel_rfl
@[go_sem] theorem field_i2 (a b c d : Int) (w : World) : (Instr.field 23 (.agg #[.int .i64 a, .int .i64 b, .int .i64 c, .int .i64 d]) 2).run Tryd.prog w = .ok (.int .i64 c) w := by kernel_rfl
@[go_sem] theorem field_i3 (a b c d : Int) (w : World) : (Instr.field 23 (.agg #[.int .i64 a, .int .i64 b, .int .i64 c, .int .i64 d]) 3).run Tryd.prog w = .ok (.int .i64 d) w := by kernel_rfl
def instEq (a b c d a' b' c' d' : Int) : Bool := decide (a = a' ∧ b = b' ∧ c = c' ∧ d = d')
theorem eqf_cons {P : Program} {d : Nat} {xs ys : Array Value} {f : Field} {fs : List Field} {a b : Value} {r s : Bool} {w : World} (hn : (f.name == "_") = false) (ha : (part f.type xs f.offset).run P w = .ok a w) (hb : (part f.type ys f.offset).run P w = .ok b w) (he : (Op.equalIn d f.type a b).run P w = .ok r w) (hr : (Op.eqFields d xs ys fs).run P w = .ok s w) : (Op.eqFields d xs ys (f :: fs)).run P w = .ok (r && s) w := by
  have hn' : f.name ≠ "_" := by simpa using hn
  rw [Op.eqFields]
  simp only [if_pos hn', Sem.run_bind, ha, hb, he, Result.andThen_ok]
  cases r
  · simp
  · simpa using hr
theorem eqf_nil {P : Program} {d : Nat} {xs ys : Array Value} {w : World} : (Op.eqFields d xs ys []).run P w = .ok true w := by simp [Op.eqFields]
theorem eqA_of {P : Program} {d : Nat} {xs ys : Array Value} {r : Bool} {w : World} {t : TypeId} {fs : Array Field} (hu : P.underlying t = some (.struct fs)) (hp : P.stoodInHeld t = false) (h : (Op.eqFields d xs ys fs.toList).run P w = .ok r w) : (Op.equalIn (d + 1) t (.agg xs) (.agg ys)).run P w = .ok r w := by
  have hf : P.fieldsOf t = fs := by simp [Program.fieldsOf, hu]
  rw [run_equalIn_struct (P := P) w d t xs ys (by rw [hf]; exact hu) hp, hf]
  exact h
theorem equalIn_int {P : Program} {t : TypeId} {k : IntKind} (d : Nat) (h : P.underlying t = some (.int k)) (a b : Int) (w : World) : (Op.equalIn (d + 1) t (.int k a) (.int k b)).run P w = .ok (a == b) w := by
  simp [Op.equalIn, run_underlying h]
theorem equalIn_inst (n : Nat) (a b c d a' b' c' d' : Int) (w : World) : (Op.equalIn (n + 2) 23 (inst a b c d) (inst a' b' c' d')).run Tryd.prog w = .ok (instEq a b c d a' b' c' d') w := by
  have e : instEq a b c d a' b' c' d' = (a == a' && (b == b' && (c == c' && (d == d' && true)))) := by
    unfold instEq
    rw [Bool.eq_iff_iff]; simp
  rw [e]
  refine eqA_of Tryd.underlying23 (by kernel_rfl) ?_
  refine eqf_cons (by rfl) rfl rfl (equalIn_int _ Tryd.underlying3 _ _ _) (eqf_cons (by rfl) rfl rfl (equalIn_int _ Tryd.underlying3 _ _ _) (eqf_cons (by rfl) rfl rfl (equalIn_int _ Tryd.underlying3 _ _ _) (eqf_cons (by rfl) rfl rfl (equalIn_int _ Tryd.underlying3 _ _ _) eqf_nil)))
theorem eql_inst (a b c d a' b' c' d' : Int) (w : World) : (binOp .eql 23 (inst a b c d) (inst a' b' c' d')).run Tryd.prog w = .ok (.bool (instEq a b c d a' b' c' d')) w := by
  simp only [binOp, Op.equal, Op.maxDepth, Sem.run_bind, equalIn_inst 9998, Result.andThen_ok]
  rfl
/-- The modes that an operator has. -/
def modesL (op : Int) : List Int :=
  if op = 1 ∨ op = 3 ∨ op = 4 ∨ op = 5 then [0, 1, 2, 3, 4, 5, 6] else if op = 2 ∨ op = 9 then [0, 2, 3, 4, 5, 6] else if op = 6 ∨ op = 7 ∨ op = 8 ∨ op = 11 then [0, 2, 5, 6] else if op = 10 then [0, 3, 4] else []
def ListAt (w : World) (a : Option Addr) (l : List Int) : Prop := l ≠ [] → ∃ g, a = some ⟨g, 0, none⟩ ∧ ∀ (i : Nat) (x : Int), l[i]? = some x → w.cell? ⟨g, i, none⟩ = some (.int .i64 x)
theorem ListAt.new_ {w w' : World} {a : Option Addr} {l : List Int} (h : ListAt w a l) (hn : New w w') : ListAt w' a l := fun hl => by
  obtain ⟨g, e, hc⟩ := h hl
  exact ⟨g, e, fun i x hx => hn.cellK (hc i x hx)⟩
theorem ints_cells {w : World} {g : Nat} {T : TypeId} {cs : Array Value} {l : List Int} (hb : Blk w g T cs) (h : cs = (l.map (Value.int .i64)).toArray) : ListAt w (some ⟨g, 0, none⟩) l := fun _ => ⟨g, rfl, fun i x hx => by
  rw [hb.cell, h]
  simp [hx]⟩
theorem modes_any (op : Int) (w : World) : Calls Tryd.prog 15 #[.int .i64 op] w fun e w' => ∃ (a : Option Addr) (c : Nat), e = .returned (.slice a (modesL op).length c) ∧ New w w' ∧ ListAt w' a (modesL op) := by
  by_cases h1 : op = 1 ∨ op = 3 ∨ op = 4 ∨ op = 5
  · have e : modesL op = [0, 1, 2, 3, 4, 5, 6] := by unfold modesL; rw [if_pos h1]
    rw [e]
    clear e
    rcases h1 with rfl | rfl | rfl | rfl
    all_goals
      go_enter Tryd.func15, Tryd.ntmps15
      go_wp2
      go_ret
      exact ⟨_, _, rfl, (New.refl _).alloc _, ints_cells (Blk.new _ _ _) rfl⟩
  by_cases h2 : op = 2 ∨ op = 9
  · have e : modesL op = [0, 2, 3, 4, 5, 6] := by unfold modesL; rw [if_neg h1, if_pos h2]
    rw [e]
    clear e h1
    rcases h2 with rfl | rfl
    all_goals
      go_enter Tryd.func15, Tryd.ntmps15
      go_wp2
      go_ret
      exact ⟨_, _, rfl, (New.refl _).alloc _, ints_cells (Blk.new _ _ _) rfl⟩
  by_cases h3 : op = 6 ∨ op = 7 ∨ op = 8 ∨ op = 11
  · have e : modesL op = [0, 2, 5, 6] := by unfold modesL; rw [if_neg h1, if_neg h2, if_pos h3]
    rw [e]
    clear e h1 h2
    rcases h3 with rfl | rfl | rfl | rfl
    all_goals
      go_enter Tryd.func15, Tryd.ntmps15
      go_wp2
      go_ret
      exact ⟨_, _, rfl, (New.refl _).alloc _, ints_cells (Blk.new _ _ _) rfl⟩
  by_cases h4 : op = 10
  · have e : modesL op = [0, 3, 4] := by unfold modesL; rw [if_neg h1, if_neg h2, if_neg h3, if_pos h4]
    rw [e]
    clear e h1 h2 h3
    subst h4
    go_enter Tryd.func15, Tryd.ntmps15
    go_wp2
    go_ret
    exact ⟨_, _, rfl, (New.refl _).alloc _, ints_cells (Blk.new _ _ _) rfl⟩
  · have e : modesL op = [] := by unfold modesL; rw [if_neg h1, if_neg h2, if_neg h3, if_neg h4]
    rw [e]
    clear e
    have g1 : ¬ op = 1 := fun e => h1 (.inl e)
    have g3 : ¬ op = 3 := fun e => h1 (.inr (.inl e))
    have g4 : ¬ op = 4 := fun e => h1 (.inr (.inr (.inl e)))
    have g5 : ¬ op = 5 := fun e => h1 (.inr (.inr (.inr e)))
    have g2 : ¬ op = 2 := fun e => h2 (.inl e)
    have g9 : ¬ op = 9 := fun e => h2 (.inr e)
    have g6 : ¬ op = 6 := fun e => h3 (.inl e)
    have g7 : ¬ op = 7 := fun e => h3 (.inr (.inl e))
    have g8 : ¬ op = 8 := fun e => h3 (.inr (.inr (.inl e)))
    have g11 : ¬ op = 11 := fun e => h3 (.inr (.inr (.inr e)))
    clear h1 h2 h3
    go_enter Tryd.func15, Tryd.ntmps15
    go_wp2
    go_ret
    exact ⟨_, _, rfl, New.refl _, fun h => absurd rfl h⟩
theorem index_any (a : Option Addr) (c : Nat) (l : List Int) (m : Int) (w : World) (hl : l.length ≤ 100) (hc : ListAt w a l) :
    Calls Tryd.prog 21 #[.slice a l.length c, .int .i64 m] w fun e w' => (∃ k : Int, e = .returned (.int .i64 k) ∧ (0 ≤ k ↔ m ∈ l)) ∧ w = w' := by
  obtain ⟨L, hL⟩ : ∃ L, L = l.length := ⟨_, rfl⟩
  rw [← hL] at hl ⊢
  have H := hid (And.intro hL hc)
  clear hL hc
  go_enter Tryd.func21, Tryd.ntmps21
  go_wp2_with fail
  go_loop [5, 8] (fun _ k => ∃ q : Nat, q ≤ L ∧ k = .int .i64 (q : Int) ∧ ∀ (i : Nat) (x : Int), i < q → l[i]? = some x → ¬ m = x) (fun _ k => L - (intOf k).toNat)
  case atStart => exact ⟨0, Nat.zero_le _, rfl, fun i x hi => absurd hi (Nat.not_lt_zero _)⟩
  case round =>
    obtain ⟨q, hq, rfl, hno⟩ := hrel
    by_cases hqL : q < L
    · obtain ⟨x, hx⟩ : ∃ x, l[q]? = some x := ⟨_, List.getElem?_eq_getElem (by rw [← H.out.1]; exact hqL)⟩
      obtain ⟨g, rfl, hcell⟩ := H.out.2 (fun e => by have := H.out.1; rw [e] at this; simp at this; omega)
      have c0 := hcell q x hx
      have w1' : IntKind.i64.wrap ((q : Int) + 1) = q + 1 := by rw [IntKind.wrap_i64]; omega
      have j0 : (0 : Int) ≤ (q : Int) := by omega
      have j1 : (q : Int) < (L : Int) := by omega
      by_cases e : m = x
      · have HX := hid (show m ∈ l from e ▸ List.mem_of_getElem? hx)
        subst e
        clear hcell hno hx
        go_wp2
        go_ret
        exact ⟨⟨q, rfl, ⟨fun _ => HX.out, fun _ => by omega⟩⟩, rfl⟩
      · have HX := hid (And.intro hno hx)
        clear hcell hno hx
        go_wp2
        go_roundw
        case rel => exact ⟨q + 1, by omega, by go_num, fun i y hi hy => by
          by_cases e2 : i = q
          · rw [e2, HX.out.2] at hy; cases hy; exact e
          · exact HX.out.1 i y (by omega) hy⟩
        case measure => simp [intOf]; omega
    · have hqe : q = L := by omega
      subst hqe
      have hlt : ¬ (q : Int) < (q : Int) := by omega
      have HX := hid hno
      clear hno
      go_wp2
      go_ret
      exact ⟨⟨-1, rfl, ⟨fun h => absurd h (by decide), fun h => by
        obtain ⟨i, hi⟩ := List.getElem?_of_mem h
        exact absurd rfl (HX.out i m (by rw [H.out.1]; exact (List.getElem?_eq_some_iff.1 hi).1) hi)⟩⟩, rfl⟩
theorem contains_any (a : Option Addr) (c : Nat) (l : List Int) (m : Int) (w : World) (hl : l.length ≤ 100) (hc : ListAt w a l) :
    Calls Tryd.prog 14 #[.slice a l.length c, .int .i64 m] w fun e w' => e = .returned (.bool (decide (m ∈ l))) ∧ w = w' := by
  have H := index_any a c l m w hl hc
  go_enter Tryd.func14, Tryd.ntmps14
  go_wp2_with fail
  refine H.mono ?_
  rintro e w' ⟨⟨k, rfl, hk⟩, rfl⟩
  have HK := hid hk
  clear hk H
  go_wp2
  go_ret
  refine ⟨?_, rfl⟩
  show Ending.returned (.bool (decide (0 ≤ k))) = _
  rw [decide_eq_decide.2 HK.out]
def mayB (a b c d : Int) : Bool := if a = 0 ∨ a = 12 ∨ a = 13 then instEq a b c d a 0 0 0 else decide (0 ≤ c ∧ c < 8 ∧ 0 ≤ d ∧ d ≤ 262143) && decide (b ∈ modesL a)
theorem modes_len (a : Int) : (modesL a).length ≤ 100 := by
  unfold modesL
  repeat' split
  all_goals simp
theorem may_any (a b c d : Int) (w : World) : Calls Tryd.prog 9 #[inst a b c d] w fun e w' => e = .returned (.bool (mayB a b c d)) ∧ New w w' := by
  have he := fun (a b c d a' b' c' d' : Int) w => eql_inst a b c d a' b' c' d' w
  by_cases h1 : a = 0 ∨ a = 12 ∨ a = 13
  · have e : mayB a b c d = instEq a b c d a 0 0 0 := by unfold mayB; rw [if_pos h1]
    rw [e]
    clear e
    rcases h1 with rfl | rfl | rfl
    all_goals
      go_enter Tryd.func9, Tryd.ntmps9
      go_wp2
      go_ret
      exact ⟨rfl, (New.refl _).alloc _⟩
  have g0 : ¬ a = 0 := fun e => h1 (.inl e)
  have g12 : ¬ a = 12 := fun e => h1 (.inr (.inl e))
  have g13 : ¬ a = 13 := fun e => h1 (.inr (.inr e))
  have e : mayB a b c d = (decide (0 ≤ c ∧ c < 8 ∧ 0 ≤ d ∧ d ≤ 262143) && decide (b ∈ modesL a)) := by unfold mayB; rw [if_neg h1]
  rw [e]
  clear e h1 he
  have hB := Blk.new w 23 #[.int .i64 a, .int .i64 b, .int .i64 c, .int .i64 d]
  have hn := (New.refl w).alloc (.cells #[.int .i64 a, .int .i64 b, .int .i64 c, .int .i64 d] 23)
  by_cases c1 : c < 0
  · rw [show decide (0 ≤ c ∧ c < 8 ∧ 0 ≤ d ∧ d ≤ 262143) = false from decide_eq_false (by omega), Bool.false_and]
    go_enter Tryd.func9, Tryd.ntmps9
    go_wp2_with fail
    have c1' : ¬ 0 ≤ c := by omega
    go_quiet (fail)
    go_wp2
    go_ret
    exact ⟨rfl, hn.drewN _⟩
  have c1' : 0 ≤ c := by omega
  by_cases c2 : 8 ≤ c
  · rw [show decide (0 ≤ c ∧ c < 8 ∧ 0 ≤ d ∧ d ≤ 262143) = false from decide_eq_false (by omega), Bool.false_and]
    go_enter Tryd.func9, Tryd.ntmps9
    go_wp2_with fail
    have c2' : ¬ c < 8 := by omega
    go_quiet (fail)
    go_wp2
    go_ret
    exact ⟨rfl, hn.drewN _⟩
  have c2' : c < 8 := by omega
  by_cases c3 : d < 0
  · rw [show decide (0 ≤ c ∧ c < 8 ∧ 0 ≤ d ∧ d ≤ 262143) = false from decide_eq_false (by omega), Bool.false_and]
    go_enter Tryd.func9, Tryd.ntmps9
    go_wp2_with fail
    have c3' : ¬ 0 ≤ d := by omega
    go_quiet (fail)
    go_wp2
    go_ret
    exact ⟨rfl, hn.drewN _⟩
  have c3' : 0 ≤ d := by omega
  by_cases c4 : 262143 < d
  · rw [show decide (0 ≤ c ∧ c < 8 ∧ 0 ≤ d ∧ d ≤ 262143) = false from decide_eq_false (by omega), Bool.false_and]
    go_enter Tryd.func9, Tryd.ntmps9
    go_wp2_with fail
    have c4' : ¬ d ≤ 262143 := by omega
    go_quiet (fail)
    go_wp2
    go_ret
    exact ⟨rfl, hn.drewN _⟩
  have c4' : d ≤ 262143 := by omega
  rw [show decide (0 ≤ c ∧ c < 8 ∧ 0 ≤ d ∧ d ≤ 262143) = true from decide_eq_true (by omega), Bool.true_and]
  have HB := hid (And.intro hB hn)
  have HM := hid (modes_any a)
  have HC := hid (fun (x : Option Addr) (k : Nat) (w5 : World) (h : ListAt w5 x (modesL a)) => contains_any x k (modesL a) b w5 (modes_len a) h)
  have hS : Hid (∀ (w' : World) (D : Nat), Blk w' D 23 #[.int .i64 a, .int .i64 b, .int .i64 c, .int .i64 d] → w'.cell? ⟨D, 0, none⟩ = some (.int .i64 a) ∧ w'.cell? ⟨D, 1, none⟩ = some (.int .i64 b) ∧ w'.cell? ⟨D, 2, none⟩ = some (.int .i64 c) ∧ w'.cell? ⟨D, 3, none⟩ = some (.int .i64 d)) := by
    intro w' D hX
    refine ⟨?_, ?_, ?_, ?_⟩ <;> (rw [hX.cell]; rfl)
  clear hB hn c1 c2 c3 c4
  go_enter Tryd.func9, Tryd.ntmps9
  go_wp2_with fail
  generalize (w.alloc (.cells #[.int .i64 a, .int .i64 b, .int .i64 c, .int .i64 d] 23)) = wD at *
  generalize hD : w.heap.size = D at HB ⊢
  clear hD
  go_region_held3 (fun w' => w'.cell? ⟨D, 0, none⟩ = some (.int .i64 a) ∧ w'.cell? ⟨D, 1, none⟩ = some (.int .i64 b) ∧ w'.cell? ⟨D, 2, none⟩ = some (.int .i64 c) ∧ w'.cell? ⟨D, 3, none⟩ = some (.int .i64 d)) (first | with_reducible exact hS5 | with_reducible exact hS.out _ _ HB.out.1.drew) (first | (go_at_call 15; (with_reducible refine (HM.out _).mono ?_); rintro e w5 ⟨x, k, rfl, n5, l5⟩; have hS5 := hS.out w5 D (HB.out.1.drew.new_ n5)) | (go_at_call 14; (with_reducible refine (HC.out _ _ _ l5).mono ?_); rintro e w6 ⟨rfl, rfl⟩))
  all_goals
    have hfin := HB.out.2.drew.step n5
    go_wp2
    go_ret
    exact ⟨rfl, hfin⟩
/-- The word of an instruction that may be. -/
def codeN (a b c d : Nat) : Nat := putN (putN (putN (putN 0 0 6 a) 6 3 b) 9 3 c) 18 18 d
theorem modes_mem {a b : Int} (h : b ∈ modesL a) : 1 ≤ a ∧ a ≤ 11 ∧ 0 ≤ b ∧ b ≤ 6 := by
  unfold modesL at h
  split at h
  · simp at h; omega
  · split at h
    · simp at h; omega
    · split at h
      · simp at h; omega
      · split at h
        · simp at h; omega
        · simp at h
theorem may_range {a b c d : Int} (h : mayB a b c d = true) : 0 ≤ a ∧ a ≤ 13 ∧ 0 ≤ b ∧ b ≤ 6 ∧ 0 ≤ c ∧ c < 8 ∧ 0 ≤ d ∧ d ≤ 262143 := by
  unfold mayB at h
  split at h
  · unfold instEq at h
    simp at h
    omega
  · simp only [Bool.and_eq_true, decide_eq_true_eq] at h
    have := modes_mem h.2
    omega
theorem word_no (a b c d : Int) (h : mayB a b c d = false) (w : World) : Calls Tryd.prog 5 #[inst a b c d] w fun e w' => e = .returned (.tuple #[.int .u64 0, .int .i64 17]) ∧ New w w' := by
  go_enter Tryd.func5, Tryd.ntmps5
  go_wp2_with fail
  refine (may_any _ _ _ _ _).mono ?_
  rintro e w1 ⟨rfl, hb1⟩
  rw [h]
  go_wp2_with fail
  go_ret2
  exact ⟨rfl, ((New.refl _).alloc _).step hb1⟩
theorem word_yes (a b c d : Nat) (h : mayB a b c d = true) (w : World) : Calls Tryd.prog 5 #[inst a b c d] w fun e w' => e = .returned (.tuple #[.int .u64 ((codeN a b c d : Nat) : Int), .int .i64 0]) ∧ New w w' := by
  have hm := may_range h
  have p1 := putN_lt 0 0 6 a (by omega)
  have p2 := putN_lt (putN 0 0 6 a) 6 3 b (by omega)
  have p3 := putN_lt (putN (putN 0 0 6 a) 6 3 b) 9 3 c (by omega)
  go_enter Tryd.func5, Tryd.ntmps5
  go_wp2_with fail
  refine (may_any _ _ _ _ _).mono ?_
  rintro e w1 ⟨rfl, hb1⟩
  rw [h]
  have hc := boxed hb1
  go_wp2_with fail
  refine (put_yes_any 0 0 6 a (by omega) (by omega) (by omega) (by omega) _).mono ?_
  rintro e w' ⟨rfl, rfl⟩
  go_wp2_with fail
  refine (put_yes_any (putN 0 0 6 a) 6 3 b (by omega) (by omega) (by omega) (by omega) _).mono ?_
  rintro e w' ⟨rfl, rfl⟩
  go_wp2_with fail
  refine (put_yes_any (putN (putN 0 0 6 a) 6 3 b) 9 3 c (by omega) (by omega) (by omega) (by omega) _).mono ?_
  rintro e w' ⟨rfl, rfl⟩
  go_wp2_with fail
  refine (put_yes_any (putN (putN (putN 0 0 6 a) 6 3 b) 9 3 c) 18 18 d (by omega) (by omega) (by omega) (by omega) _).mono ?_
  rintro e w' ⟨rfl, rfl⟩
  go_wp2_with fail
  go_ret2
  exact ⟨rfl, ((New.refl _).alloc _).step hb1⟩
theorem get_any (x at_ n : Nat) (hx : x < 18446744073709551616) (h1 : 1 ≤ n) (h : at_ + n ≤ 36) (w : World) :
    Calls Tryd.prog 12 #[.int .u64 x, .int .i64 at_, .int .i64 n] w fun e w' => e = .returned (.int .i64 ((getN x at_ n : Nat) : Int)) ∧ w = w' := by
  have hl := getN_lt x at_ n
  have hp := pow_le_36 (k := n) (by omega)
  go_enter Tryd.func12, Tryd.ntmps12
  go_wp2_with fail
  refine (get_yes_any x at_ n hx h1 h _).mono ?_
  rintro e w' ⟨rfl, rfl⟩
  go_wp2
  go_ret
  exact ⟨rfl, rfl⟩
end Go.Proofs.YtlacegnhfgnlgaaDoor.Code
