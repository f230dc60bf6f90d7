/- Package refer: segments' numbers by ring and name. -/
import Derived.Test.YtakhidieomalhaaAl
import Derived.Test.YtakhidieomalhaaPlain
import Derived.DeepKeys3
import Derived.Maps.Keyed
import Derived.Maps.OwnSet
namespace Go.Proofs.Ytakhidieomalhaa.Refer
open Go Go.RowKit Go.ChangeMaps Go.Proofs.Ytakhidieomalhaa.Kit Go.Proofs.Ytakhidieomalhaa.Str Go.Proofs.Ytakhidieomalhaa.Names
set_option linter.unusedSimpArgs false
set_option linter.unusedVariables false
abbrev Key := Int × List UInt8
abbrev ek (x : Key) : Value := .agg #[.int .i64 x.1, st x.2]
abbrev ev (n : Int) : Value := .int .i64 n
def okK (x : Key) : Prop := (Lit.int .i64 x.1).wf = true ∧ x.2.length ≤ maxLen
theorem keyed : Maps.Keyed Try.prog 48 := Maps.Keyed.of_law (deep_law (m := 2) (by decide) (by kernel_rfl) (by kernel_rfl) (by kernel_rfl))
theorem key_of (x : Key) (h : okK x) : ∃ l, keyOf Try.prog 48 (ek x) = some l := by
  have hs : (ByteArray.mk x.2.toArray).size ≤ maxLen := by
    have : (ByteArray.mk x.2.toArray).size = x.2.length := by simp [ByteArray.size]
    rw [this]; exact h.2
  have hk : ∀ d, Try.prog.keyLits (d + 2) 48 [.int .i64 x.1, st x.2] = some [.int .i64 x.1, .string x.2] := by
    intro d
    have h1 : Try.prog.keyLits (d + 1) 3 [.int .i64 x.1] = some [.int .i64 x.1] := by
      unfold Program.keyLits
      rw [Try.underlying3]
      simp [h.1]
    have h2 : Try.prog.keyLits (d + 1) 9 [st x.2] = some [.string x.2] := by
      unfold Program.keyLits
      rw [Try.underlying9]
      simp [hs]
    have c1 : Try.prog.cellsOf 3 = 1 := by kernel_rfl
    have c2 : Try.prog.cellsOf 9 = 1 := by kernel_rfl
    rw [Program.keyLits.eq_def]
    dsimp only
    rw [Try.underlying48]
    dsimp only
    rw [if_pos ⟨by kernel_rfl, by kernel_rfl⟩]
    simp [c1, c2, h1, h2]
  unfold keyOf
  rw [Try.underlying48]
  dsimp only
  rw [if_pos (by kernel_rfl)]
  obtain ⟨d, hd⟩ : ∃ d, Try.prog.types.size + 1 = d + 2 := ⟨Try.prog.types.size - 1, by kernel_rfl⟩
  rw [hd]
  exact ⟨_, by rw [show (ek x).cells.toList = [.int .i64 x.1, st x.2] from rfl, hk]; rfl⟩
theorem inj (L : List (Key × Int)) : ∀ p ∈ L, ∀ x, ek p.1 = ek x → p.1 = x := by
  intro p _ x h
  simp only [ek, Value.agg.injEq] at h
  have h1 := congrArg Array.toList h
  simp at h1
  exact Prod.ext h1.1 h1.2
section
variable {P : Program} {k e t : TypeId} {κ β : Type} {ek : κ → Value} {ev : β → Value} {w : World} {b : Nat} {L : List (κ × β)}
theorem run_len_map (h : MapOf ek ev w b L) (ht : P.underlying t = some (.map k e)) (ty : TypeId) : (Builtin.len_ #[t] ty #[.map (some b)]).run P w = .ok (.int .i64 L.length) w := by
  obtain ⟨es, clock, hb, hs, hl⟩ := h
  have hn : es.size = L.length := by
    have := congrArg List.length hl
    simpa using this
  simp [Builtin.len_, run_underlying ht, MapKept.run_getObj_map hb, goInt, Result.andThen, hn]
theorem wpList_len_map {ops : Array Oper} {rest : List Oper} {o : Oper} {a : Act} {Q : Exit → Act → World → Prop} (hg : o.guard = none) (m : Operand)
    (hop : o.op = .call { callee := .builtin .len, args := #[m], argTypes := #[t] }) (ht : P.underlying t = some (.map k e)) (hm : a.eval m = .map (some b)) (h : MapOf ek ev w b L) (n : Nat) (hn : n = L.length)
    (hK : wpList P ops Q rest (a.put o.dst (.int .i64 n)) w) : wpList P ops Q (o :: rest) a w := by
  refine wpList_plain hg fun _ hK' => ?_
  subst hn
  have hrun := run_len_map h ht o.type
  unfold Oper.wp execOp
  simp only [hop, resolve, invoke, builtin, Sem.run_bind, Sem.run_pure, Result.andThen_ok, List.map_toArray, List.map_cons, List.map_nil, hm, hrun]
  exact hK' _ _ hK
end
/-- What the heap holds: the struct at A, the map at b. -/
def At (w : World) (A b : Nat) (L : List (Key × Int)) : Prop := Blk w A 46 #[.map (some b)] ∧ MapOf ek ev w b L ∧ ∀ p ∈ L, okK p.1
section
variable {w w' : World} {A b : Nat} {L : List (Key × Int)}
theorem At.ne (h : At w A b L) : A ≠ b := MapIs.ne_blk h.2.1 h.1
theorem At.new_ (h : At w A b L) (hn : New w w') : At w' A b L := ⟨h.1.new_ hn, MapIs.of_block h.2.1 (hn.block b h.2.1.lt), h.2.2⟩
theorem At.keys (h : At w A b L) : ∀ p ∈ L, ∃ l, keyOf Try.prog 48 (ek p.1) = some l := fun p hp => key_of p.1 (h.2.2 p hp)
theorem At.cell (h : At w A b L) : w.cell? ⟨A, 0, none⟩ = some (.map (some b)) := h.1.cell 0
theorem At.nodup (h : At w A b L) : (L.map Prod.fst).Nodup := h.2.1.nodup
theorem At.lt (h : At w A b L) : A < w.heap.size ∧ b < w.heap.size := ⟨h.1.lt, h.2.1.lt⟩
/-- Only the map's block, and what was not there before, has turned. -/
theorem At.setMap {w : World} {A b : Nat} {L L' : List (Key × Int)} {o : Obj} (h : At w A b L) (hm : MapOf ek ev (setBlock w b o) b L') (hk : ∀ p ∈ L', okK p.1) : At (setBlock w b o) A b L' :=
  ⟨(heap_setBlock_ne _ _ _ h.ne).trans h.1, hm, hk⟩
theorem At.apart (h : At w A b L) (hk : Keeps (fun _ => False) w w') : At w' A b L := ⟨h.1.keeps hk id, MapIs.keeps h.2.1 hk id, h.2.2⟩
end
theorem zero_int (w : World) : (zeroValue 3).run Try.prog w = .ok (.int .i64 0) w := Try.zeroValue3 w
theorem new_any (w : World) : Calls Try.prog 8 #[] w fun e w' => e = .returned (.pointer (some ⟨w.heap.size + 1, 0, none⟩)) ∧ At w' (w.heap.size + 1) w.heap.size [] ∧ New w w' := by
  have hB := Blk.new (w.alloc (.map #[] 0)) 46 #[.map (some w.heap.size)]
  have hM : MapOf ek ev (w.alloc (.map #[] 0)) w.heap.size ([] : List (Key × Int)) := MapIs.new w
  have hM2 := MapIs.alloc hM (.cells #[.map (some w.heap.size)] 46)
  rw [World.size_alloc] at hB
  have H := hid (show At _ _ _ _ from ⟨hB, hM2, fun p hp => by cases hp⟩)
  have hmm := @run_makeMap Try.prog
  clear hB hM hM2
  go_enter Try.func8, Try.ntmps8
  go_wp2
  go_ret
  exact ⟨rfl, H.out, ((New.refl w).alloc _).alloc _⟩
/-- What is found. -/
def findV (L : List (Key × Int)) (x : Key) : Int := (get? L x).getD 0
theorem find_any {w : World} {A b : Nat} {L : List (Key × Int)} (h : At w A b L) (r : Int) (s : List UInt8) (hk : okK (r, s)) :
    Calls Try.prog 14 #[.pointer (some ⟨A, 0, none⟩), .int .i64 r, st s] w fun e w' => e = .returned (.tuple #[.int .i64 (findV L (r, s)), .bool (get? L (r, s)).isSome]) ∧ w' = w := by
  obtain ⟨lx, hlx⟩ := key_of (r, s) hk
  have hl := h.2.1.lookup_ok keyed Try.underlying44 (zero_int w) h.keys (inj L) hlx true
  have hc := h.cell
  unfold findV
  clear h hlx hk
  cases hg : get? L (r, s) with
  | none =>
    rw [hg] at hl
    have hl' : (Instr.lookup 44 (.map (some b)) (.agg #[.int .i64 r, st s]) true).run Try.prog w = .ok (.tuple #[.int .i64 0, .bool false]) w := hl
    clear hl hg
    go_enter Try.func14, Try.ntmps14
    go_wp2
    go_ret2
    exact ⟨rfl, rfl⟩
  | some v =>
    rw [hg] at hl
    have hl' : (Instr.lookup 44 (.map (some b)) (.agg #[.int .i64 r, st s]) true).run Try.prog w = .ok (.tuple #[.int .i64 v, .bool true]) w := hl
    clear hl hg
    go_enter Try.func14, Try.ntmps14
    go_wp2
    go_ret2
    exact ⟨rfl, rfl⟩
theorem len_any {w : World} {A b : Nat} {L : List (Key × Int)} (h : At w A b L) :
    Calls Try.prog 12 #[.pointer (some ⟨A, 0, none⟩)] w fun e w' => e = .returned (.int .i64 (L.length : Int)) ∧ w' = w := by
  have hc := h.cell
  have H := hid h
  clear h
  go_enter Try.func12, Try.ntmps12
  go_wp2_with (at_len; refine wpList_len_map rfl (.tmp 8) rfl Try.underlying44 rfl H.out.2.1 L.length rfl ?_)
  go_ret
  exact ⟨rfl, rfl⟩
def bindE (L : List (Key × Int)) (r : Int) (s : List UInt8) (n : Int) : Int :=
  if r < 0 ∨ 7 < r ∨ n < 1 ∨ 63 < n then 1 else if signsB s 32 = false then 3 else match get? L (r, s) with
    | some v => if v = n then 0 else 5
    | none => 0
def bindL (L : List (Key × Int)) (r : Int) (s : List UInt8) (n : Int) : List (Key × Int) := if bindE L r s n = 0 then put L (r, s) n else L
theorem bind_any {w : World} {A b : Nat} {L : List (Key × Int)} (h : At w A b L) (r : Int) (s : List UInt8) (n : Int) (hk : okK (r, s)) :
    Calls Try.prog 9 #[.pointer (some ⟨A, 0, none⟩), .int .i64 r, st s, .int .i64 n] w fun e w' => e = .returned (.int .i64 (bindE L r s n)) ∧ At w' A b (bindL L r s n) ∧ Keeps (fun i => i = b) w w' := by
  by_cases h1 : r < 0 ∨ 7 < r ∨ n < 1 ∨ 63 < n
  · have e1 : bindE L r s n = 1 := by unfold bindE; rw [if_pos h1]
    have e2 : bindL L r s n = L := by unfold bindL; rw [e1, if_neg (by decide)]
    rw [e1, e2]
    have H := hid h
    clear h e1 e2 hk
    by_cases c1 : r < 0
    · clear h1
      go_enter Try.func9, Try.ntmps9
      go_wp2
      go_ret
      exact ⟨rfl, H.out, Keeps.refl _ _⟩
    by_cases c2 : 7 < r
    · have c2' : 8 ≤ r := by omega
      clear h1
      go_enter Try.func9, Try.ntmps9
      go_wp2
      go_ret
      exact ⟨rfl, H.out, Keeps.refl _ _⟩
    have c2' : ¬ 8 ≤ r := by omega
    by_cases c3 : n < 1
    · clear h1
      go_enter Try.func9, Try.ntmps9
      go_wp2
      go_ret
      exact ⟨rfl, H.out, Keeps.refl _ _⟩
    · have c4 : 63 < n := by omega
      clear h1
      go_enter Try.func9, Try.ntmps9
      go_wp2
      go_ret
      exact ⟨rfl, H.out, Keeps.refl _ _⟩
  have g1 : ¬ r < 0 := by omega
  have g2 : ¬ 8 ≤ r := by omega
  have g3 : ¬ n < 1 := by omega
  have g4 : ¬ 63 < n := by omega
  have hms : s.length ≤ 9223372036854775807 := by have := hk.2; unfold maxLen at this; omega
  have hm := fun w => may_any s hms w
  cases hs : signsB s 32 with
  | false =>
    have e1 : bindE L r s n = 3 := by unfold bindE; rw [if_neg h1, if_pos hs]
    have e2 : bindL L r s n = L := by unfold bindL; rw [e1, if_neg (by decide)]
    rw [e1, e2]
    rw [hs] at hm
    have H := hid h
    have HM := hid hm
    clear h e1 e2 hk h1 hm hs hms
    go_enter Try.func9, Try.ntmps9
    go_wp2_with fail
    refine (HM.out _).mono ?_
    rintro e w1 ⟨rfl, q, rfl⟩
    go_wp2
    go_ret
    exact ⟨rfl, H.out.new_ ((New.refl _).drewN _), (Keeps.refl _ _).drewN _⟩
  | true =>
    rw [hs] at hm
    obtain ⟨lx, hlx⟩ := key_of (r, s) hk
    have hl := fun m => (h.new_ ((New.refl w).drewN m)).2.1.lookup_ok keyed Try.underlying44 (zero_int _) h.keys (inj L) hlx true
    have hc := fun m => (h.new_ ((New.refl w).drewN m)).cell
    have hE : bindE L r s n = (match get? L (r, s) with
      | some v => if v = n then 0 else 5
      | none => 0) := by unfold bindE; rw [if_neg h1, if_neg (by rw [hs]; decide)]
    have HL : Hid (∀ p ∈ put L (r, s) n, okK p.1) := fun p hp => by
      rcases mem_put hp with rfl | ⟨hp, _⟩
      · exact hk
      · exact h.2.2 p hp
    obtain ⟨ob, hob, hupd⟩ := h.2.1.update_fix keyed Try.underlying44 h.keys (inj L) (x := (r, s)) hlx
    obtain ⟨o, ho⟩ := hupd n
    have hrun : ∀ W : World, W.heap[b]? = some ob → (Instr.mapUpdate 44 (.map (some b)) (.agg #[.int .i64 r, st s]) (.int .i64 n)).run Try.prog W = .ok () (setBlock W b o) := fun W hW => (ho W hW).1
    have hob1 : ∀ m, (w.drewN m).heap[b]? = some ob := fun m => hob
    have HO := hid (fun m => (ho (w.drewN m) (hob1 m)).2)
    have H := hid h
    have HM := hid hm
    cases hg : get? L (r, s) with
    | none =>
      rw [hg] at hE
      have e2 : bindL L r s n = put L (r, s) n := by unfold bindL; rw [hE, if_pos rfl]
      rw [hE, e2]
      have hl' : ∀ m, (Instr.lookup 44 (.map (some b)) (.agg #[.int .i64 r, st s]) true).run Try.prog (w.drewN m) = .ok (.tuple #[.int .i64 0, .bool false]) (w.drewN m) := fun m => by
        have := hl m
        rw [hg] at this
        exact this
      clear h e2 hk h1 hm hs hms hl hlx hE hg ho hupd
      go_enter Try.func9, Try.ntmps9
      go_wp2_with fail
      refine (HM.out _).mono ?_
      rintro e w1 ⟨rfl, q, rfl⟩
      go_wp2
      go_ret
      exact ⟨rfl, (H.out.new_ ((New.refl _).drewN q)).setMap (HO.out q) HL.out, Keeps.setBlock (F := fun i => i = b) ((Keeps.refl _ _).drewN _) (.inr rfl) _⟩
    | some v =>
      rw [hg] at hE
      have hl' : ∀ m, (Instr.lookup 44 (.map (some b)) (.agg #[.int .i64 r, st s]) true).run Try.prog (w.drewN m) = .ok (.tuple #[.int .i64 v, .bool true]) (w.drewN m) := fun m => by
        have := hl m
        rw [hg] at this
        exact this
      by_cases hv : v = n
      · have hE : bindE L r s n = 0 := by rw [hE]; simp [hv]
        have e2 : bindL L r s n = put L (r, s) n := by unfold bindL; rw [hE, if_pos rfl]
        rw [hE, e2]
        clear h e2 hk h1 hm hs hms hl hlx hE hg ho hupd
        subst hv
        go_enter Try.func9, Try.ntmps9
        go_wp2_with fail
        refine (HM.out _).mono ?_
        rintro e w1 ⟨rfl, q, rfl⟩
        go_wp2
        go_ret
        exact ⟨rfl, (H.out.new_ ((New.refl _).drewN q)).setMap (HO.out q) HL.out, Keeps.setBlock (F := fun i => i = b) ((Keeps.refl _ _).drewN _) (.inr rfl) _⟩
      · have hE : bindE L r s n = 5 := by rw [hE]; simp [hv]
        have e2 : bindL L r s n = L := by unfold bindL; rw [hE, if_neg (by decide)]
        rw [hE, e2]
        clear h e2 hk h1 hm hs hms hl hlx hE hg ho hupd hob HO hrun hob1
        go_enter Try.func9, Try.ntmps9
        go_wp2_with fail
        refine (HM.out _).mono ?_
        rintro e w1 ⟨rfl, q, rfl⟩
        go_wp2
        go_ret
        exact ⟨rfl, H.out.new_ ((New.refl _).drewN _), (Keeps.refl _ _).drewN _⟩
theorem del_none {L : List (Key × Int)} {x : Key} (h : get? L x = none) : del L x = L := by
  unfold del
  rw [List.filter_eq_self]
  intro q hq
  simp only [decide_eq_true_eq]
  exact get?_none.1 h q hq
theorem drop_any {w : World} {A b : Nat} {L : List (Key × Int)} (h : At w A b L) (r : Int) (s : List UInt8) (hk : okK (r, s)) :
    Calls Try.prog 13 #[.pointer (some ⟨A, 0, none⟩), .int .i64 r, st s] w fun e w' => e = .returned (.tuple #[.int .i64 (findV L (r, s)), .int .i64 (if (get? L (r, s)).isSome then 0 else 4)]) ∧ At w' A b (del L (r, s)) ∧ Keeps (fun i => i = b) w w' := by
  obtain ⟨lx, hlx⟩ := key_of (r, s) hk
  have hl := h.2.1.lookup_ok keyed Try.underlying44 (zero_int w) h.keys (inj L) hlx true
  have hc := h.cell
  unfold findV
  cases hg : get? L (r, s) with
  | none =>
    rw [hg] at hl
    have hl' : (Instr.lookup 44 (.map (some b)) (.agg #[.int .i64 r, st s]) true).run Try.prog w = .ok (.tuple #[.int .i64 0, .bool false]) w := hl
    rw [del_none hg]
    have H := hid h
    clear hl hg h hlx hk
    go_enter Try.func13, Try.ntmps13
    go_wp2
    go_ret2
    exact ⟨rfl, H.out, Keeps.refl _ _⟩
  | some v =>
    rw [hg] at hl
    have hl' : (Instr.lookup 44 (.map (some b)) (.agg #[.int .i64 r, st s]) true).run Try.prog w = .ok (.tuple #[.int .i64 v, .bool true]) w := hl
    obtain ⟨ob, hob, O, hO⟩ := h.2.1.delete_fix 0 keyed Try.underlying44 h.keys (inj L) (x := (r, s)) hlx
    have hrun : ∀ W : World, W.heap[b]? = some ob → (Builtin.delete_ #[44, 48] 0 #[.map (some b), .agg #[.int .i64 r, st s]]).run Try.prog W = .ok (.tuple #[]) (setBlock W b (O W)) := fun W hW => (hO W hW).1
    have H := hid (And.intro h (hO w hob).2)
    clear hl hg h hlx hk hO
    go_enter Try.func13, Try.ntmps13
    go_wp2
    go_ret2
    exact ⟨rfl, H.out.1.setMap H.out.2 (fun p hp => H.out.1.2.2 p (mem_del.1 hp).1), Keeps.setBlock (F := fun i => i = b) (Keeps.refl _ _) (.inr rfl) _⟩
end Go.Proofs.Ytakhidieomalhaa.Refer
