/- The contracts of package store. A store is a block of four cells, its map's block, and a block for each segment's words. -/
import Derived.Test.YtclmgpopejlfdaaProg
import Derived.Test.YtclmgpopejlfdaaKit
import Derived.Test.YtclmgpopejlfdaaAl
import Derived.Test.YtclmgpopejlfdaaWd
import Derived.Laws.CopyOwn
import Derived.Laws.AppendOwn
import Derived.Lib.SliceRun
import Derived.LaidEqlPtr
import Derived.WideLaws
namespace Go.Proofs.Ytclmgpopejlfdaa.Store
open Go Go.RowKit Go.Maps Go.Proofs.Ytclmgpopejlfdaa.Kit Go.Proofs.Ytclmgpopejlfdaa.Wd
open Go.ChangeMaps (setBlock)
set_option linter.unusedSimpArgs false
set_option linter.unusedVariables false

structure St where
  quota : Int
  next : Int
  L : List (Int × Nat × List Int)
def St.usedN (S : St) : Nat := (S.L.map fun q => q.2.2.length).sum
def St.used (S : St) : Int := S.usedN

abbrev ek (x : Int) : Value := .int .i64 x
abbrev ev (r : Nat × List Int) : Value := .slice (some ⟨r.1, 0, none⟩) r.2.length r.2.length
abbrev row (ws : List Int) : Array Value := (ws.map (Value.int .u64)).toArray

/-- What lies in memory. -/
structure At (w : World) (p m : Nat) (S : St) : Prop where
  blk : Blk w p 53 #[.int .i64 S.quota, .int .i64 S.used, .int .i64 S.next, .map (some m)]
  mp : MapOf ek ev w m S.L
  rows : ∀ x ∈ S.L, Blk w x.2.1 36 (row x.2.2)
  nodup : (S.L.map (·.2.1)).Nodup
  keys : ∀ x ∈ S.L, 1 ≤ x.1 ∧ x.1 ≤ S.next
  lens : ∀ x ∈ S.L, x.2.2.length ≤ 1024
  quota0 : 0 ≤ S.quota
  quota1 : S.quota ≤ 9223372036854775807
  used1 : S.used ≤ S.quota
  next0 : 0 ≤ S.next
  next1 : S.next ≤ 4611686018427387904

theorem law : Keyed Try.prog 3 := int_keyed Try.underlying3
theorem inj (L : List (Int × Nat × List Int)) : ∀ q ∈ L, ∀ x : Int, ek q.1 = ek x → q.1 = x := fun q _ x h => by injection h
theorem keyOf_i64 {x : Int} (h0 : -9223372036854775808 ≤ x) (h1 : x ≤ 9223372036854775807) : keyOf Try.prog 3 (ek x) = some (.int .i64 x) := keyOf_int_mk Try.underlying3 (WalkArith.wf_i64 ⟨h0, h1⟩)

theorem St.used0 (S : St) : 0 ≤ S.used := Int.natCast_nonneg _
/-- The blocks of a store. -/
def Foot (p m : Nat) (S : St) : Nat → Prop := fun b => b = p ∨ b = m ∨ ∃ x ∈ S.L, x.2.1 = b

attribute [local go_sem] max_i min_i
theorem new_any (q : Int) (w : World) (hq : q ≤ 9223372036854775807) : Calls Try.prog 8 #[.int .i64 q] w fun e w' => e = .returned (.pointer (some ⟨w.heap.size + 1, 0, none⟩)) ∧ New w w' ∧ At w' (w.heap.size + 1) w.heap.size ⟨mxZ q 0, 0, []⟩ := by
  have hmm := @run_makeMap Try.prog
  go_enter Try.func8, Try.ntmps8
  go_wp2
  go_ret
  refine ⟨rfl, by (repeat (first | exact New.refl _ | (refine New.step ?_ (by assumption)) | apply New.alloc | apply New.drewN | apply New.drew)), ?_, ?_, by simp, by simp, by simp, by simp, ?_, ?_, ?_, by simp, by simp⟩
  · have hb := Blk.new (w.alloc (.map #[] 0)) 53 #[.int .i64 (mxZ q 0), .int .i64 0, .int .i64 0, .map (some w.heap.size)]
    rw [World.size_alloc] at hb
    exact hb
  · exact (MapIs.new w).alloc _
  · unfold mxZ; simp; omega
  · unfold mxZ; simp; omega
  · show (0 : Int) ≤ mxZ q 0; unfold mxZ; omega
theorem At.keyOf {w : World} {p m : Nat} {S : St} (h : At w p m S) : ∀ q ∈ S.L, ∃ l, keyOf Try.prog 3 (ek q.1) = some l :=
  fun q hq => ⟨_, keyOf_i64 (by have := h.keys q hq; omega) (by have := h.keys q hq; have := h.next1; omega)⟩
theorem nodup_map_inj {α β : Type} (f : α → β) {l : List α} (h : (l.map f).Nodup) {x y : α} (hx : x ∈ l) (hy : y ∈ l) (e : f x = f y) : x = y := by
  induction l with
  | nil => cases hx
  | cons a t ih =>
    rw [List.map_cons, List.nodup_cons] at h
    rcases List.mem_cons.1 hx with h1 | h1 <;> rcases List.mem_cons.1 hy with h2 | h2
    · rw [h1, h2]
    · exact absurd (List.mem_map.2 ⟨y, h2, by rw [← e, h1]⟩) h.1
    · exact absurd (List.mem_map.2 ⟨x, h1, by rw [e, h2]⟩) h.1
    · exact ih h.2 h1 h2
theorem At.addr_inj {w : World} {p m : Nat} {S : St} (h : At w p m S) {x y : Int × Nat × List Int} (hx : x ∈ S.L) (hy : y ∈ S.L) (e : x.2.1 = y.2.1) : x.1 = y.1 := by
  rw [nodup_map_inj (fun x : Int × Nat × List Int => x.2.1) h.nodup hx hy e]
/-- What 'get' hands back. -/
def getV (S : St) (uid : Int) : Value := match get? S.L uid with | some r => .tuple #[ev r, .int .i64 0] | none => .tuple #[.slice none 0 0, .int .i64 4]
theorem get_any (w : World) (p m : Nat) (S : St) (h : At w p m S) (uid : Int) (h0 : -9223372036854775808 ≤ uid) (h1 : uid ≤ 9223372036854775807) :
    Calls Try.prog 18 #[.pointer (some ⟨p, 0, none⟩), .int .i64 uid] w fun e w' => e = .returned (getV S uid) ∧ w = w' := by
  have c0 : w.cell? ⟨p, 3, none⟩ = some (.map (some m)) := h.blk.cell 3
  have hz : (zeroValue 45).run Try.prog w = .ok (.slice none 0 0) w := by kernel_rfl
  have hl := h.mp.lookup_ok (z := .slice none 0 0) law Try.underlying51 hz h.keyOf (inj _) (keyOf_i64 h0 h1) true
  unfold getV
  cases hg : get? S.L uid with
  | none =>
    rw [hg] at hl
    simp only [if_true] at hl
    clear hz hg
    go_enter Try.func18, Try.ntmps18
    go_wp2
    go_ret2
    exact ⟨rfl, rfl⟩
  | some r =>
    rw [hg] at hl
    simp only [if_true] at hl
    clear hz hg
    go_enter Try.func18, Try.ntmps18
    go_wp2
    go_ret2
    exact ⟨rfl, rfl⟩
/-- Why a size may not be. -/
def mayE (S : St) (size gone : Int) : Int := if size < 0 ∨ 1024 < size then 1 else if S.quota - size < S.used - gone then 6 else 0
theorem may_any (w : World) (p m : Nat) (S : St) (h : At w p m S) (size gone : Int) (hg0 : 0 ≤ gone) (hg1 : gone ≤ 1024) :
    Calls Try.prog 19 #[.pointer (some ⟨p, 0, none⟩), .int .i64 size, .int .i64 gone] w fun e w' => e = .returned (.int .i64 (mayE S size gone)) ∧ ∃ n, w' = w.drewN n := by
  have c0 : w.cell? ⟨p, 0, none⟩ = some (.int .i64 S.quota) := h.blk.cell 0
  have c1 : w.cell? ⟨p, 1, none⟩ = some (.int .i64 S.used) := h.blk.cell 1
  have q0 := h.quota0
  have q1 := h.quota1
  have u0 := S.used0
  have u1 := h.used1
  unfold mayE
  by_cases h1 : size < 0
  · rw [if_pos (.inl h1)]
    go_enter Try.func19, Try.ntmps19
    go_wp2
    go_ret
    exact ⟨rfl, 0, rfl⟩
  by_cases h2 : 1024 < size
  · rw [if_pos (.inr h2)]
    go_enter Try.func19, Try.ntmps19
    go_wp2
    go_ret
    exact ⟨rfl, 0, rfl⟩
  rw [if_neg (by omega)]
  have w1 : IntKind.i64.wrap (S.used - gone) = S.used - gone := by rw [IntKind.wrap_i64]; omega
  have w2 : IntKind.i64.wrap (S.quota - size) = S.quota - size := by rw [IntKind.wrap_i64]; omega
  by_cases h3 : S.quota - size < S.used - gone
  · rw [if_pos h3]
    go_enter Try.func19, Try.ntmps19
    go_wp2
    go_quiet (fail)
    go_wp2
    go_ret
    exact ⟨rfl, _, rfl⟩
  · rw [if_neg h3]
    go_enter Try.func19, Try.ntmps19
    go_wp2
    go_quiet (fail)
    go_wp2
    go_ret
    exact ⟨rfl, _, rfl⟩

theorem At.drewN {w : World} {p m : Nat} {S : St} (h : At w p m S) (n : Nat) : At (w.drewN n) p m S :=
  ⟨h.blk, h.mp, h.rows, h.nodup, h.keys, h.lens, h.quota0, h.quota1, h.used1, h.next0, h.next1⟩
/-- A store stays what it is where none of its blocks changes. -/
theorem At.keeps {w w' : World} {p m : Nat} {S : St} (h : At w p m S) {F : Nat → Prop} (k : Keeps F w w') (hF : ∀ b, Foot p m S b → ¬ F b) : At w' p m S :=
  ⟨h.blk.keeps k (hF _ (.inl rfl)), MapIs.keeps h.mp k (hF _ (.inr (.inl rfl))), fun x hx => (h.rows x hx).keeps k (hF _ (.inr (.inr ⟨x, hx, rfl⟩))), h.nodup, h.keys, h.lens, h.quota0, h.quota1, h.used1, h.next0, h.next1⟩
theorem At.ne {w : World} {p m : Nat} {S : St} (h : At w p m S) : p ≠ m := MapIs.ne_blk h.mp h.blk
theorem At.row_ne {w : World} {p m : Nat} {S : St} (h : At w p m S) {x : Int × Nat × List Int} (hx : x ∈ S.L) : x.2.1 ≠ p ∧ x.2.1 ≠ m :=
  ⟨fun e => by
    have h1 := h.rows x hx
    rw [e] at h1
    have h2 := h.blk
    unfold Blk at h1 h2
    rw [h1] at h2
    injection h2 with h2
    injection h2 with _ h3
    exact absurd h3 (by decide), MapIs.ne_blk h.mp (h.rows x hx)⟩
theorem get?_none_of {S : St} {uid : Int} (h : ∀ x ∈ S.L, x.1 ≠ uid) : get? S.L uid = none := by
  unfold get?
  rw [List.find?_eq_none.2]
  · rfl
  · intro x hx; simpa using h x hx

def makeS (S : St) (size b : Nat) : St := ⟨S.quota, S.next + 1, S.L ++ [(S.next + 1, b, List.replicate size 0)]⟩
theorem makeS_used (S : St) (size b : Nat) : (makeS S size b).used = S.used + size := by
  unfold St.used St.usedN makeS
  simp
theorem word_info : (Try.prog.info? 36).map (fun i => (i.zero, i.size, i.bytes)) = some (some (.int .u64 0), 1, 8) := by kernel_rfl
theorem row_made (n : Nat) : row (List.replicate n 0) = madeCells #[.int .u64 0] n := by
  apply Array.ext
  · simp [row, madeCells]
  · intro i h1 h2
    simp [row, madeCells, Nat.mod_one]
theorem make_yes (w : World) (p m : Nat) (S : St) (h : At w p m S) (size : Nat) (he : mayE S size 0 = 0) (hn : S.next < 4611686018427387904) :
    Calls Try.prog 11 #[.pointer (some ⟨p, 0, none⟩), .int .i64 size] w fun e w' => e = .returned (.tuple #[.int .i64 (S.next + 1), .int .i64 0]) ∧ ∃ b, w.heap.size ≤ b ∧ At w' p m (makeS S size b) ∧ Keeps (fun i => i = p ∨ i = m) w w' := by
  have hs : size ≤ 1024 ∧ S.used ≤ S.quota - size := by
    unfold mayE at he
    split at he
    · omega
    · split at he <;> omega
  have q0 := h.quota0
  have q1 := h.quota1
  have u0 := S.used0
  have u1 := h.used1
  have n0 := h.next0
  have n1 := h.next1
  have pm := h.ne
  go_enter Try.func11, Try.ntmps11
  go_wp2_with fail
  refine (may_any w p m S h size 0 (by omega) (by omega)).mono ?_
  rintro e w1 ⟨rfl, n, rfl⟩
  rw [he]
  have c0 : w.cell? ⟨p, 0, none⟩ = some (.int .i64 S.quota) := h.blk.cell 0
  have c1 : w.cell? ⟨p, 1, none⟩ = some (.int .i64 S.used) := h.blk.cell 1
  have c2 : w.cell? ⟨p, 2, none⟩ = some (.int .i64 S.next) := h.blk.cell 2
  have c3 : w.cell? ⟨p, 3, none⟩ = some (.map (some m)) := h.blk.cell 3
  have f1 : w.frozen? ⟨p, 1, none⟩ = false := h.blk.frozen 1
  have f2 : w.frozen? ⟨p, 2, none⟩ = false := h.blk.frozen 2
  have w3 : IntKind.i64.wrap (S.next + 1) = S.next + 1 := by rw [IntKind.wrap_i64]; omega
  go_wp2_with fail
  obtain ⟨ob, hob, hupd⟩ := h.mp.update_fix law Try.underlying51 h.keyOf (inj _) (x := S.next + 1) (keyOf_i64 (by omega) (by omega))
  obtain ⟨o, ho⟩ := hupd (w.heap.size, List.replicate size 0)
  have hob1 : ∀ X u, ((w.drewN n).setCell ⟨p, 2, none⟩ u |>.alloc X).heap[m]? = some ob := fun X u => heap_alloc_lt ((Below.heap_setCell _ _ _ _ (by simpa using pm.symm)).trans hob)
  have hob2 : ∀ X u, ((w.drewN n).setCell ⟨p, 2, none⟩ u |>.alloc X).drew.heap[m]? = some ob := hob1
  have hrun : ∀ W : World, W.heap[m]? = some ob → (Instr.mapUpdate 51 (.map (some m)) (.int .i64 (S.next + 1)) (.slice (some ⟨w.heap.size, 0, none⟩) size size)).run Try.prog W = .ok () (setBlock W m o) := fun W hW => by
    have := (ho W hW).1
    simpa [ev] using this
  have hk2 : ((w.drewN n).setCell ⟨p, 2, none⟩ (.int .i64 (S.next + 1))).cell? ⟨p, 2, none⟩ = some (.int .i64 (S.next + 1)) := by go_simp
  have hk3 : ((w.drewN n).setCell ⟨p, 2, none⟩ (.int .i64 (S.next + 1))).cell? ⟨p, 3, none⟩ = some (.map (some m)) := by go_simp
  have hmk := fun (W : World) => run_make_row' 45 36 (.int .u64 0) 8 Try.underlying45 word_info rfl .i64 .i64 size (by omega) (by omega) W
  clear hupd hob
  go_region_held3 (fun w' => w'.cell? ⟨p, 2, none⟩ = some (.int .i64 (S.next + 1)) ∧ w'.cell? ⟨p, 3, none⟩ = some (.map (some m))) ((simp [*, World.cell?_alloc_some, World.cell?_setCell_far, cell?_setBlock]; done)) (fail)
  obtain ⟨W1, hW⟩ : ∃ W1, W1 = setBlock (((w.drewN n).setCell ⟨p, 2, none⟩ (.int .i64 (S.next + 1))).alloc (.cells (madeCells #[.int .u64 0] size) 36)).drew m o := ⟨_, rfl⟩
  rw [← hW]
  have hB : Blk W1 p 53 #[.int .i64 S.quota, .int .i64 S.used, .int .i64 (S.next + 1), .map (some m)] := by
    rw [hW]
    exact (((h.blk.drewN n).set 2 (.int .i64 (S.next + 1))).alloc _).farBlock pm.symm o
  have hM : MapOf ek ev W1 m (put S.L (S.next + 1) (w.heap.size, List.replicate size 0)) := by rw [hW]; exact (ho _ (hob2 _ _)).2
  have hK : Keeps (fun i => i = p ∨ i = m) w W1 := by
    rw [hW]
    exact ((((((Keeps.refl _ w).drewN n).setCell (.inr (.inl rfl)) _).alloc _).drew).setBlock (.inr (.inr rfl)) _)
  have hR : Blk W1 w.heap.size 36 (row (List.replicate size 0)) := by
    rw [hW]
    have := (Blk.new ((w.drewN n).setCell ⟨p, 2, none⟩ (.int .i64 (S.next + 1))) 36 (madeCells #[.int .u64 0] size)).farBlock (p := m) (by have := h.mp.lt; rw [size_setCell, size_drewN]; omega) o
    rw [size_setCell, size_drewN] at this
    rw [row_made]
    exact this
  clear hk2 hk3 hmk hrun hob1 hob2 ho c0 c1 c2 c3 f1 f2
  have c1 : W1.cell? ⟨p, 1, none⟩ = some (.int .i64 S.used) := hB.cell 1
  have c2 : W1.cell? ⟨p, 2, none⟩ = some (.int .i64 (S.next + 1)) := hB.cell 2
  have f1 : W1.frozen? ⟨p, 1, none⟩ = false := hB.frozen 1
  have w4 : IntKind.i64.wrap (S.used + size) = S.used + size := by rw [IntKind.wrap_i64]; omega
  clear hW
  go_wp2
  go_ret2
  refine ⟨rfl, w.heap.size, Nat.le_refl _, ?_, hK.setCell (.inr (.inl rfl)) _⟩
  have hnone : get? S.L (S.next + 1) = none := get?_none_of fun x hx he => by have := (h.keys x hx).2; omega
  have hput : put S.L (S.next + 1) (w.heap.size, List.replicate size 0) = (makeS S size w.heap.size).L := by unfold put; rw [hnone]; rfl
  refine ⟨by rw [makeS_used]; exact hB.set 1 _, by rw [← hput]; exact MapIs.set hM pm.symm _, ?_, ?_, ?_, ?_, q0, q1, by rw [makeS_used]; show S.used + size ≤ S.quota; omega, by show 0 ≤ S.next + 1; omega, by show S.next + 1 ≤ _; omega⟩
  · intro x hx
    rcases List.mem_append.1 hx with hx | hx
    · exact ((h.rows x hx).keeps hK (fun e => e.elim (h.row_ne hx).1 (h.row_ne hx).2)).far (h.row_ne hx).1 _
    · cases List.mem_singleton.1 hx
      exact hR.far (by have := h.blk.lt; show w.heap.size ≠ p; omega) _
  · show ((S.L ++ [(S.next + 1, w.heap.size, List.replicate size 0)]).map (fun x : Int × Nat × List Int => x.2.1)).Nodup
    rw [List.map_append, List.nodup_append]
    refine ⟨h.nodup, by simp, fun a ha b hb => ?_⟩
    obtain ⟨x, hx, rfl⟩ := List.mem_map.1 ha
    have := (h.rows x hx).lt
    simp only [List.map_cons, List.map_nil, List.mem_singleton] at hb
    omega
  · intro x hx
    show 1 ≤ x.1 ∧ x.1 ≤ S.next + 1
    rcases List.mem_append.1 hx with hx | hx
    · have := h.keys x hx; omega
    · cases List.mem_singleton.1 hx
      show 1 ≤ S.next + 1 ∧ S.next + 1 ≤ S.next + 1
      omega
  · intro x hx
    rcases List.mem_append.1 hx with hx | hx
    · exact h.lens x hx
    · cases List.mem_singleton.1 hx
      simp; omega
theorem mayE_cases (S : St) (size gone : Int) (h : mayE S size gone ≠ 0) : mayE S size gone = 1 ∨ mayE S size gone = 6 := by
  unfold mayE at h ⊢
  split
  · exact .inl rfl
  · split
    · exact .inr rfl
    · exfalso; rw [if_neg ‹_›, if_neg ‹_›] at h; exact h rfl
theorem make_no (w : World) (p m : Nat) (S : St) (h : At w p m S) (size : Int) (he : mayE S size 0 ≠ 0) :
    Calls Try.prog 11 #[.pointer (some ⟨p, 0, none⟩), .int .i64 size] w fun e w' => e = .returned (.tuple #[.int .i64 0, .int .i64 (mayE S size 0)]) ∧ ∃ n, w' = w.drewN n := by
  have hc := may_any w p m S h size 0 (by omega) (by omega)
  rcases mayE_cases S size 0 he with h1 | h1 <;> rw [h1] at hc ⊢ <;> clear h1 he
  all_goals
    go_enter Try.func11, Try.ntmps11
    go_wp2_with fail
    refine hc.mono ?_
    rintro e w' ⟨rfl, n, rfl⟩
    go_wp2
    go_ret2
    exact ⟨rfl, n, rfl⟩
theorem At.nd {w : World} {p m : Nat} {S : St} (h : At w p m S) : (S.L.map Prod.fst).Nodup := MapOf.nodup h.mp
theorem St.len_le {S : St} {x : Int × Nat × List Int} (hx : x ∈ S.L) : (x.2.2.length : Int) ≤ S.used := by
  have := sum_mem (fun r : Nat × List Int => r.2.length) hx
  show (x.2.2.length : Int) ≤ ((S.L.map fun q => q.2.2.length).sum : Nat)
  omega
/-- Behind Drop. -/
def dropS (S : St) (uid : Int) : St := ⟨S.quota, S.next, del S.L uid⟩
theorem dropS_used {S : St} (hn : (S.L.map Prod.fst).Nodup) {uid : Int} {r : Nat × List Int} (h : get? S.L uid = some r) : (dropS S uid).used = S.used - r.2.length := by
  have : (S.L.map fun q => q.2.2.length).sum = ((del S.L uid).map fun q => q.2.2.length).sum + r.2.length := sum_del (fun r : Nat × List Int => r.2.length) hn h
  show ((((del S.L uid).map fun q => q.2.2.length).sum : Nat) : Int) = (((S.L.map fun q => q.2.2.length).sum : Nat) : Int) - r.2.length
  omega
theorem nodup_filter {α β : Type} (f : α → β) (q : α → Bool) {l : List α} (h : (l.map f).Nodup) : ((l.filter q).map f).Nodup := List.Pairwise.sublist (List.Sublist.map _ List.filter_sublist) h
theorem drop_yes (w : World) (p m : Nat) (S : St) (h : At w p m S) (uid : Int) (h0 : -9223372036854775808 ≤ uid) (h1 : uid ≤ 9223372036854775807) (r : Nat × List Int) (hg : get? S.L uid = some r) :
    Calls Try.prog 10 #[.pointer (some ⟨p, 0, none⟩), .int .i64 uid] w fun e w' => e = .returned (.int .i64 0) ∧ At w' p m (dropS S uid) ∧ Keeps (fun i => i = p ∨ i = m) w w' := by
  have hc := get_any w p m S h uid h0 h1
  have hv : getV S uid = .tuple #[ev r, .int .i64 0] := by unfold getV; rw [hg]
  rw [hv] at hc
  have hu := dropS_used h.nd hg
  have hmem := get?_mem hg
  have hlen : (r.2.length : Int) ≤ S.used := St.len_le hmem
  have hu1 := h.used1
  have hq1 := h.quota1
  have pm := h.ne
  have c1 : w.cell? ⟨p, 1, none⟩ = some (.int .i64 S.used) := h.blk.cell 1
  have c3 : w.cell? ⟨p, 3, none⟩ = some (.map (some m)) := h.blk.cell 3
  have f1 : w.frozen? ⟨p, 1, none⟩ = false := h.blk.frozen 1
  have w1 : IntKind.i64.wrap (S.used - r.2.length) = S.used - r.2.length := by rw [IntKind.wrap_i64]; omega
  obtain ⟨ob, hob, O, hO⟩ := h.mp.delete_fix 0 law Try.underlying51 h.keyOf (inj _) (x := uid) (keyOf_i64 h0 h1)
  have hob1 : ∀ u, (w.setCell ⟨p, 1, none⟩ u).heap[m]? = some ob := fun u => (Below.heap_setCell _ _ _ _ pm.symm).trans hob
  have hrun : ∀ W : World, W.heap[m]? = some ob → (Builtin.delete_ #[51, 3] 0 #[.map (some m), .int .i64 uid]).run Try.prog W = .ok (.tuple #[]) (setBlock W m (O W)) := fun W hW => (hO W hW).1
  clear hob
  have hu' := hid hu
  have hg' := hid hg
  have hv' := hid hv
  clear hu hg hv
  go_enter Try.func10, Try.ntmps10
  go_wp2_with fail
  refine hc.mono ?_
  rintro e w' ⟨rfl, rfl⟩
  go_wp2
  go_ret
  obtain ⟨w2, hW⟩ : ∃ w2, w2 = setBlock (w.setCell ⟨p, 1, none⟩ (.int .i64 (S.used - r.2.length))) m (O (w.setCell ⟨p, 1, none⟩ (.int .i64 (S.used - r.2.length)))) := ⟨_, rfl⟩
  rw [← hW]
  have hK : Keeps (fun i => i = p ∨ i = m) w w2 := by rw [hW]; exact ((Keeps.refl _ w).setCell (.inr (.inl rfl)) _).setBlock (.inr (.inr rfl)) _
  have hM2 : MapOf ek ev w2 m (del S.L uid) := by rw [hW]; exact (hO _ (hob1 _)).2
  have hB : Blk w2 p 53 #[.int .i64 S.quota, .int .i64 (S.used - r.2.length), .int .i64 S.next, .map (some m)] := by rw [hW]; exact (h.blk.set 1 _).farBlock pm.symm _
  refine ⟨rfl, ?_, hK⟩
  have hu := hu'.out
  refine ⟨by rw [hu]; exact hB, hM2, ?_, nodup_filter _ _ h.nodup, fun x hx => h.keys x (mem_del.1 hx).1, fun x hx => h.lens x (mem_del.1 hx).1, h.quota0, h.quota1, by rw [hu]; show S.used - r.2.length ≤ S.quota; omega, h.next0, h.next1⟩
  intro x hx
  have hx' := (mem_del.1 hx).1
  exact (h.rows x hx').keeps hK (fun e => e.elim (h.row_ne hx').1 (h.row_ne hx').2)
theorem drop_no (w : World) (p m : Nat) (S : St) (h : At w p m S) (uid : Int) (h0 : -9223372036854775808 ≤ uid) (h1 : uid ≤ 9223372036854775807) (hg : get? S.L uid = none) :
    Calls Try.prog 10 #[.pointer (some ⟨p, 0, none⟩), .int .i64 uid] w fun e w' => e = .returned (.int .i64 4) ∧ w = w' := by
  have hc := get_any w p m S h uid h0 h1
  have hv : getV S uid = .tuple #[.slice none 0 0, .int .i64 4] := by unfold getV; rw [hg]
  rw [hv] at hc
  clear hg hv
  go_enter Try.func10, Try.ntmps10
  go_wp2_with fail
  refine hc.mono ?_
  rintro e w' ⟨rfl, rfl⟩
  go_wp2
  go_ret
  exact ⟨rfl, rfl⟩
/-- What Size hands back. -/
def sizeV (S : St) (uid : Int) : Value := match get? S.L uid with | some r => .tuple #[.int .i64 r.2.length, .int .i64 0] | none => .tuple #[.int .i64 0, .int .i64 4]
theorem size_any (w : World) (p m : Nat) (S : St) (h : At w p m S) (uid : Int) (h0 : -9223372036854775808 ≤ uid) (h1 : uid ≤ 9223372036854775807) :
    Calls Try.prog 9 #[.pointer (some ⟨p, 0, none⟩), .int .i64 uid] w fun e w' => e = .returned (sizeV S uid) ∧ w = w' := by
  have hc := get_any w p m S h uid h0 h1
  unfold getV at hc
  unfold sizeV
  cases hg : get? S.L uid <;> rw [hg] at hc <;> clear hg
  all_goals
    simp only at hc ⊢
    go_enter Try.func9, Try.ntmps9
    go_wp2_with fail
    refine hc.mono ?_
    rintro e w' ⟨rfl, rfl⟩
    go_wp2
    go_ret2
    exact ⟨rfl, rfl⟩
theorem used_any (w : World) (p m : Nat) (S : St) (h : At w p m S) :
    Calls Try.prog 12 #[.pointer (some ⟨p, 0, none⟩)] w fun e w' => e = .returned (.int .i64 S.used) ∧ w = w' := by
  have c1 : w.cell? ⟨p, 1, none⟩ = some (.int .i64 S.used) := h.blk.cell 1
  go_enter Try.func12, Try.ntmps12
  go_wp2
  go_ret
  exact ⟨rfl, rfl⟩
def readV (S : St) (uid off : Int) : Value := match get? S.L uid with
  | none => .tuple #[.int .u64 0, .int .i64 4]
  | some r => if 0 ≤ off ∧ off < r.2.length then .tuple #[.int .u64 (r.2.getD off.toNat 0), .int .i64 0] else .tuple #[.int .u64 0, .int .i64 8]
theorem row_get (ws : List Int) (i : Nat) (hi : i < ws.length) : (row ws)[i]? = some (.int .u64 (ws.getD i 0)) := by
  simp [row, hi]
theorem read_any (w : World) (p m : Nat) (S : St) (h : At w p m S) (uid off : Int) (h0 : -9223372036854775808 ≤ uid) (h1 : uid ≤ 9223372036854775807) :
    Calls Try.prog 14 #[.pointer (some ⟨p, 0, none⟩), .int .i64 uid, .int .i64 off] w fun e w' => e = .returned (readV S uid off) ∧ w = w' := by
  have hc := get_any w p m S h uid h0 h1
  unfold getV at hc
  unfold readV
  cases hg : get? S.L uid with
  | none =>
    rw [hg] at hc
    clear hg
    simp only at hc ⊢
    go_enter Try.func14, Try.ntmps14
    go_wp2_with fail
    refine hc.mono ?_
    rintro e w' ⟨rfl, rfl⟩
    go_wp2
    go_ret2
    exact ⟨rfl, rfl⟩
  | some r =>
    rw [hg] at hc
    have hr := h.rows _ (get?_mem hg)
    clear hg
    simp only at hc hr ⊢
    by_cases h2 : off < 0
    · rw [if_neg (by omega)]
      go_enter Try.func14, Try.ntmps14
      go_wp2_with fail
      refine hc.mono ?_
      rintro e w' ⟨rfl, rfl⟩
      go_wp2
      go_ret2
      exact ⟨rfl, rfl⟩
    obtain ⟨i, rfl⟩ : ∃ i : Nat, off = i := ⟨off.toNat, by omega⟩
    by_cases h3 : r.2.length ≤ i
    · rw [if_neg (by omega)]
      go_enter Try.func14, Try.ntmps14
      go_wp2_with fail
      refine hc.mono ?_
      rintro e w' ⟨rfl, rfl⟩
      go_wp2
      go_ret2
      exact ⟨rfl, rfl⟩
    · rw [if_pos (by omega)]
      have c0 : w.cell? ⟨r.1, i, none⟩ = some (.int .u64 (r.2.getD i 0)) := by rw [hr.cell i]; exact row_get _ _ (by omega)
      have h4 : i < r.2.length := by omega
      clear h3 h2
      obtain ⟨v, hv⟩ : ∃ v, v = r.2.getD i 0 := ⟨_, rfl⟩
      rw [← hv] at c0
      simp only [Int.toNat_natCast, ← hv]
      clear hv
      go_enter Try.func14, Try.ntmps14
      go_wp2_with fail
      refine hc.mono ?_
      rintro e w' ⟨rfl, rfl⟩
      go_wp2
      go_ret2
      exact ⟨rfl, rfl⟩
/-- Behind Write. -/
def writeS (S : St) (uid : Int) (off : Nat) (v : Int) : St := match get? S.L uid with
  | none => S
  | some r => if off < r.2.length then ⟨S.quota, S.next, put S.L uid (r.1, r.2.set off (v % 68719476736))⟩ else S
def writeE (S : St) (uid off : Int) : Int := match get? S.L uid with
  | none => 4
  | some r => if 0 ≤ off ∧ off < r.2.length then 0 else 8
theorem write_no (w : World) (p m : Nat) (S : St) (h : At w p m S) (uid off x : Int) (h0 : -9223372036854775808 ≤ uid) (h1 : uid ≤ 9223372036854775807) (he : writeE S uid off ≠ 0) :
    Calls Try.prog 13 #[.pointer (some ⟨p, 0, none⟩), .int .i64 uid, .int .i64 off, .int .u64 x] w fun e w' => e = .returned (.int .i64 (writeE S uid off)) ∧ w = w' := by
  have hc := get_any w p m S h uid h0 h1
  unfold getV at hc
  unfold writeE at he ⊢
  cases hg : get? S.L uid with
  | none =>
    rw [hg] at hc
    clear hg he
    simp only at hc ⊢
    go_enter Try.func13, Try.ntmps13
    go_wp2_with fail
    refine hc.mono ?_
    rintro e w' ⟨rfl, rfl⟩
    go_wp2
    go_ret
    exact ⟨rfl, rfl⟩
  | some r =>
    rw [hg] at hc he
    clear hg
    simp only at hc he ⊢
    by_cases h2 : off < 0
    · rw [if_neg (by omega)]
      clear he
      go_enter Try.func13, Try.ntmps13
      go_wp2_with fail
      refine hc.mono ?_
      rintro e w' ⟨rfl, rfl⟩
      go_wp2
      go_ret
      exact ⟨rfl, rfl⟩
    obtain ⟨i, rfl⟩ : ∃ i : Nat, off = i := ⟨off.toNat, by omega⟩
    by_cases h3 : r.2.length ≤ i
    · rw [if_neg (by omega)]
      clear he
      go_enter Try.func13, Try.ntmps13
      go_wp2_with fail
      refine hc.mono ?_
      rintro e w' ⟨rfl, rfl⟩
      go_wp2
      go_ret
      exact ⟨rfl, rfl⟩
    · rw [if_pos (by omega)] at he
      exact absurd rfl he
theorem write_yes (w : World) (p m : Nat) (S : St) (h : At w p m S) (uid x : Int) (i : Nat) (hx0 : 0 ≤ x) (hx1 : x < 18446744073709551616) (h0 : -9223372036854775808 ≤ uid) (h1 : uid ≤ 9223372036854775807) (g : Nat) (ws : List Int) (hg : get? S.L uid = some (g, ws)) (hi : i < ws.length) :
    Calls Try.prog 13 #[.pointer (some ⟨p, 0, none⟩), .int .i64 uid, .int .i64 i, .int .u64 x] w fun e w' => e = .returned (.int .i64 0) ∧ At w' p m (writeS S uid i x) ∧ Keeps (fun b => b = g) w w' := by
  have hc := get_any w p m S h uid h0 h1
  unfold getV at hc
  rw [hg] at hc
  simp only [ev] at hc
  have hr := h.rows _ (get?_mem hg)
  have hm' := h.row_ne (get?_mem hg)
  simp only at hr
  have c0 : w.cell? ⟨g, i, none⟩ = some (.int .u64 (ws.getD i 0)) := by rw [hr.cell i]; exact row_get _ _ (by omega)
  have f0 : w.frozen? ⟨g, i, none⟩ = false := hr.frozen i
  have hm : Go.bits .and .u64 x 68719476735 = x % 68719476736 := and_mask hx0 hx1
  have hg' := hid hg
  have hm2 := hid hm'
  clear hg hm'
  go_enter Try.func13, Try.ntmps13
  go_wp2_with fail
  refine hc.mono ?_
  rintro e w' ⟨rfl, rfl⟩
  go_wp2
  go_ret
  have hg := hg'.out
  have hm := hm2.out
  have hS : writeS S uid i x = ⟨S.quota, S.next, put S.L uid (g, ws.set i (x % 68719476736))⟩ := by unfold writeS; rw [hg]; exact if_pos hi
  rw [hS]
  have hu : St.used ⟨S.quota, S.next, put S.L uid (g, ws.set i (x % 68719476736))⟩ = S.used := by
    unfold St.used St.usedN
    rw [map_put_of (fun q : Int × Nat × List Int => q.2.2.length) h.nd hg (by simp)]
  have ha : (put S.L uid (g, ws.set i (x % 68719476736))).map (fun q : Int × Nat × List Int => q.2.1) = S.L.map (fun q : Int × Nat × List Int => q.2.1) := map_put_of (fun q : Int × Nat × List Int => q.2.1) h.nd hg rfl
  refine ⟨rfl, ⟨by rw [hu]; exact h.blk.far hm.1.symm _, ?_, ?_, by show ((put S.L uid (g, ws.set i (x % 68719476736))).map (fun q : Int × Nat × List Int => q.2.1)).Nodup; rw [ha]; exact h.nodup, ?_, ?_, h.quota0, h.quota1, by rw [hu]; exact h.used1, h.next0, h.next1⟩, Keeps.setCell (F := fun b => b = g) (Keeps.refl _ w) (.inr rfl) _⟩
  · have := h.mp
    unfold MapOf at this ⊢
    rw [show (put S.L uid (g, ws.set i (x % 68719476736))).map (fun p : Int × Nat × List Int => (ek p.1, ev p.2)) = S.L.map (fun p : Int × Nat × List Int => (ek p.1, ev p.2)) from map_put_of (fun p : Int × Nat × List Int => (ek p.1, ev p.2)) h.nd hg (by simp [ev])]
    exact MapIs.set this hm.2.symm _
  · intro y hy
    rcases mem_put hy with rfl | ⟨hy, hne⟩
    · have := hr.set i (.int .u64 (x % 68719476736))
      rw [show row (ws.set i (x % 68719476736)) = (row ws).setIfInBounds i (.int .u64 (x % 68719476736)) by simp [row]]
      exact this
    · refine (h.rows y hy).far (fun e => hne ?_) _
      exact h.addr_inj hy (get?_mem hg) e
  · intro y hy
    rcases mem_put hy with rfl | ⟨hy, hne⟩
    · exact h.keys (uid, (g, ws)) (get?_mem hg)
    · exact h.keys y hy
  · intro y hy
    rcases mem_put hy with rfl | ⟨hy, hne⟩
    · have := h.lens _ (get?_mem hg)
      simpa using this
    · exact h.lens y hy
theorem list_ofFn_getD (ws : List Int) : ∀ j u, (ws.map (Value.int .u64))[j]? = some u → u = .int .u64 (ws.getD j 0) ∧ j < ws.length := by
  intro j u hj
  rw [List.getElem?_map] at hj
  cases h : ws[j]? with
  | none => rw [h] at hj; cases hj
  | some v =>
    rw [h] at hj
    injection hj with hj
    refine ⟨?_, (List.getElem?_eq_some_iff.1 h).1⟩
    rw [← hj, List.getD_eq_getElem?_getD, h]
    rfl
theorem clone_some (w : World) (g : Nat) (ws : List Int) (hb : Blk w g 36 (row ws)) (hl : ws.length ≤ 1024) :
    Calls Try.prog 20 #[.slice (some ⟨g, 0, none⟩) ws.length ws.length] w fun e w' => ∃ v, e = .returned v ∧ w'.ownsRow w.heap.size 36 1 v ws.length (ws.map (Value.int .u64)) ∧ New w w' := by
  obtain ⟨i, hi, hzz⟩ := Option.map_eq_some_iff.1 word_info
  simp only [Prod.mk.injEq] at hzz
  obtain ⟨hz, hs, hbt⟩ := hzz
  have hi' := hid hi
  have hz' := hid hz
  have hs' := hid hs
  have hbt' := hid hbt
  have hb' := hid hb
  have hnews : ∀ j u, (ws.map (Value.int .u64))[j]? = some u → (w.alloc (.cells #[] 36)).cell? ((⟨g, 0, none⟩ : Addr).add j) = some u := by
    intro j u hj
    obtain ⟨rfl, hlt⟩ := list_ofFn_getD ws j u hj
    have := (hb.alloc (.cells #[] 36)).cell (0 + j)
    rw [Nat.zero_add] at this
    rw [row_get _ _ hlt] at this
    rw [← this]
    unfold Addr.add
    split
    · rename_i h0; subst h0; rfl
    · simp
  have hn' := hid hnews
  clear hi hz hs hbt hb hnews
  have q0 : ∀ (w : World) (a : Option Addr) (n c n' c' : Nat), (binOp .eql 45 (.slice a n c) (.slice none n' c')).run Try.prog w = .ok (.bool a.isNone) w := fun w a n c n' c' => Lib.run_eql_slice_nil w _ _ a n c n' c' Try.underlying45
  go_enter Try.func20, Try.ntmps20
  go_wp2_with (at_builtin; refine wpList_append_own _ rfl (.tmp 5) (.tmp 6) 45 rfl w.heap.size 36 i (.int .u64 0) 1 8 Try.underlying45 hi'.out hz'.out hs'.out hbt'.out rfl (by decide) _ 0 [] rfl (World.ownsRow_made w #[] 0 (Nat.le_refl _) (by simp) rfl) ⟨g, 0, none⟩ ws.length ws.length (ws.map (Value.int .u64)) rfl (by simp) hn'.out (by simp [Value.oneCell']) (by unfold maxLen; omega) (by omega) (by simp) ?_; rintro v w2 ho hg _)
  go_ret
  rw [Nat.zero_add, List.nil_append] at ho
  exact ⟨v, rfl, ho, New.grown (New.alloc (New.refl w) _) hg (fun k hk => by cases hk; exact Nat.le_refl _)⟩
theorem clone_none (w : World) : Calls Try.prog 20 #[.slice none 0 0] w fun e w' => e = .returned (.slice none 0 0) ∧ w = w' := by
  have q0 : ∀ (w : World) (a : Option Addr) (n c n' c' : Nat), (binOp .eql 45 (.slice a n c) (.slice none n' c')).run Try.prog w = .ok (.bool a.isNone) w := fun w a n c n' c' => Lib.run_eql_slice_nil w _ _ a n c n' c' Try.underlying45
  go_enter Try.func20, Try.ntmps20
  go_wp2
  go_ret
  exact ⟨rfl, rfl⟩
theorem words_some (w : World) (p m : Nat) (S : St) (h : At w p m S) (uid : Int) (h0 : -9223372036854775808 ≤ uid) (h1 : uid ≤ 9223372036854775807) (g : Nat) (ws : List Int) (hg : get? S.L uid = some (g, ws)) :
    Calls Try.prog 16 #[.pointer (some ⟨p, 0, none⟩), .int .i64 uid] w fun e w' => ∃ v, e = .returned (.tuple #[v, .int .i64 0]) ∧ w'.ownsRow w.heap.size 36 1 v ws.length (ws.map (Value.int .u64)) ∧ New w w' := by
  have hc := get_any w p m S h uid h0 h1
  unfold getV at hc
  rw [hg] at hc
  simp only [ev] at hc
  have hr := h.rows _ (get?_mem hg)
  have hl := h.lens _ (get?_mem hg)
  have hcl := clone_some w g ws hr hl
  clear hg
  go_enter Try.func16, Try.ntmps16
  go_wp2_with fail
  refine hc.mono ?_
  rintro e w' ⟨rfl, rfl⟩
  go_wp2_with fail
  refine hcl.mono ?_
  rintro e w' ⟨v, rfl, ho, hn⟩
  go_wp2
  go_ret2
  exact ⟨v, rfl, ho, hn⟩
theorem words_none (w : World) (p m : Nat) (S : St) (h : At w p m S) (uid : Int) (h0 : -9223372036854775808 ≤ uid) (h1 : uid ≤ 9223372036854775807) (hg : get? S.L uid = none) :
    Calls Try.prog 16 #[.pointer (some ⟨p, 0, none⟩), .int .i64 uid] w fun e w' => e = .returned (.tuple #[.slice none 0 0, .int .i64 4]) ∧ w = w' := by
  have hc := get_any w p m S h uid h0 h1
  unfold getV at hc
  rw [hg] at hc
  simp only at hc
  clear hg
  go_enter Try.func16, Try.ntmps16
  go_wp2_with fail
  refine hc.mono ?_
  rintro e w' ⟨rfl, rfl⟩
  go_wp2_with fail
  refine (clone_none w).mono ?_
  rintro e w' ⟨rfl, rfl⟩
  go_wp2
  go_ret2
  exact ⟨rfl, rfl⟩
/-- Behind Resize; b: the new row. -/
def cutL (ws : List Int) (n : Nat) : List Int := ws.take n ++ List.replicate (n - ws.length) 0
def resizeS (S : St) (uid : Int) (n b : Nat) : St := match get? S.L uid with
  | none => S
  | some r => ⟨S.quota, S.next, put S.L uid (b, cutL r.2 n)⟩
theorem resize_none (w : World) (p m : Nat) (S : St) (h : At w p m S) (uid n : Int) (h0 : -9223372036854775808 ≤ uid) (h1 : uid ≤ 9223372036854775807) (hg : get? S.L uid = none) :
    Calls Try.prog 15 #[.pointer (some ⟨p, 0, none⟩), .int .i64 uid, .int .i64 n] w fun e w' => e = .returned (.int .i64 4) ∧ w = w' := by
  have hc := get_any w p m S h uid h0 h1
  unfold getV at hc
  rw [hg] at hc
  simp only at hc
  clear hg
  go_enter Try.func15, Try.ntmps15
  go_wp2_with fail
  refine hc.mono ?_
  rintro e w' ⟨rfl, rfl⟩
  go_wp2
  go_ret
  exact ⟨rfl, rfl⟩
theorem resize_no (w : World) (p m : Nat) (S : St) (h : At w p m S) (uid n : Int) (h0 : -9223372036854775808 ≤ uid) (h1 : uid ≤ 9223372036854775807) (r : Nat × List Int) (hg : get? S.L uid = some r) (he : mayE S n r.2.length ≠ 0) :
    Calls Try.prog 15 #[.pointer (some ⟨p, 0, none⟩), .int .i64 uid, .int .i64 n] w fun e w' => e = .returned (.int .i64 (mayE S n r.2.length)) ∧ ∃ k, w' = w.drewN k := by
  have hc := get_any w p m S h uid h0 h1
  unfold getV at hc
  rw [hg] at hc
  simp only at hc
  have hl := h.lens _ (get?_mem hg)
  have hm := may_any w p m S h n r.2.length (by omega) (by simp only at hl; omega)
  clear hg
  rcases mayE_cases S n r.2.length he with h2 | h2 <;> rw [h2] at hm ⊢ <;> clear h2 he
  all_goals
    go_enter Try.func15, Try.ntmps15
    go_wp2_with fail
    refine hc.mono ?_
    rintro e w' ⟨rfl, rfl⟩
    go_wp2_with fail
    refine hm.mono ?_
    rintro e w' ⟨rfl, k, rfl⟩
    go_wp2
    go_ret
    exact ⟨rfl, k, rfl⟩
theorem one_cells (ws : List Int) : ∀ v ∈ ws.map (Value.int .u64), v.oneCell' = true := by
  intro v hv
  obtain ⟨x, _, rfl⟩ := List.mem_map.1 hv
  rfl
theorem splice_cut (ws : List Int) (n : Nat) : (splice (List.replicate n (Value.int .u64 0)) 0 ((ws.take n).map (Value.int .u64))).toArray = row (cutL ws n) := by
  unfold splice row cutL
  simp only [List.take_zero, List.nil_append, List.length_map, List.length_take, Nat.zero_add, List.drop_replicate, List.map_append, List.map_replicate]
  rw [show n - min n ws.length = n - ws.length by omega]
theorem cutL_length (ws : List Int) (n : Nat) : (cutL ws n).length = n := by
  unfold cutL
  simp
  omega
theorem resize_yes (w : World) (p m : Nat) (S : St) (h : At w p m S) (uid : Int) (n : Nat) (h0 : -9223372036854775808 ≤ uid) (h1 : uid ≤ 9223372036854775807) (g : Nat) (ws : List Int) (hg : get? S.L uid = some (g, ws)) (he : mayE S n ws.length = 0) :
    Calls Try.prog 15 #[.pointer (some ⟨p, 0, none⟩), .int .i64 uid, .int .i64 n] w fun e w' => e = .returned (.int .i64 0) ∧ ∃ b, w.heap.size ≤ b ∧ At w' p m (resizeS S uid n b) ∧ Keeps (fun i => i = p ∨ i = m) w w' := by
  have hc := get_any w p m S h uid h0 h1
  unfold getV at hc
  rw [hg] at hc
  simp only [ev] at hc
  have hl : ws.length ≤ 1024 := h.lens _ (get?_mem hg)
  have hlen : (ws.length : Int) ≤ S.used := St.len_le (get?_mem hg)
  have hm := may_any w p m S h n ws.length (by omega) (by omega)
  have hs : n ≤ 1024 ∧ S.used - ws.length ≤ S.quota - n := by
    unfold mayE at he
    split at he
    · omega
    · split at he <;> omega
  rw [he] at hm
  have hr : Blk w g 36 (row ws) := h.rows _ (get?_mem hg)
  have hx : g ≠ p ∧ g ≠ m := h.row_ne (get?_mem hg)
  have pm := h.ne
  have q0 := h.quota0
  have q1 := h.quota1
  have u0 := S.used0
  have u1 := h.used1
  have pl := h.blk.lt
  have ml := MapIs.lt h.mp
  have w1 : IntKind.i64.wrap ((n : Int) - ws.length) = n - ws.length := by rw [IntKind.wrap_i64]; omega
  have w2 : IntKind.i64.wrap (S.used + (n - ws.length)) = S.used + (n - ws.length) := by rw [IntKind.wrap_i64]; omega
  have c1 : w.cell? ⟨p, 1, none⟩ = some (.int .i64 S.used) := h.blk.cell 1
  have c3 : w.cell? ⟨p, 3, none⟩ = some (.map (some m)) := h.blk.cell 3
  have hmk := fun (W : World) => run_make_row' 45 36 (.int .u64 0) 8 Try.underlying45 word_info rfl .i64 .i64 n (by omega) (by omega) W
  have hsz : (Try.prog.info? 36).map (·.size) = some 1 := by kernel_rfl
  have hrow : ∀ k, ((w.drewN k).alloc (.cells (madeCells #[.int .u64 0] n) 36)).heap[w.heap.size]? = some (.cells (List.replicate n (Value.int .u64 0)).toArray 36 (0, 0)) := fun k => by
    have := Blk.new (w.drewN k) 36 (madeCells #[.int .u64 0] n)
    rw [size_drewN, ← row_made] at this
    have e : row (List.replicate n 0) = (List.replicate n (Value.int .u64 0)).toArray := by simp [row]
    rw [e] at this
    rw [← row_made, e]
    exact this
  have hpos : ∀ k, ∀ j v, ((ws.take n).map (Value.int .u64))[j]? = some v → ((w.drewN k).alloc (.cells (madeCells #[.int .u64 0] n) 36)).cell? ((⟨g, 0, none⟩ : Addr).add j) = some v := by
    intro k j u hj
    obtain ⟨rfl, hlt⟩ := list_ofFn_getD _ j u hj
    have hlt' : j < ws.length ∧ j < n := by simp at hlt; omega
    have := ((hr.drewN k).alloc (.cells (madeCells #[.int .u64 0] n) 36)).cell j
    rw [row_get _ _ hlt'.1] at this
    rw [show (ws.take n).getD j 0 = ws.getD j 0 by simp [List.getD_eq_getElem?_getD, List.getElem?_take, hlt'.2]]
    rw [← this]
    unfold Addr.add
    split
    · rename_i h0; subst h0; rfl
    · simp
  have hcopy : ∃ W3 : Nat → World, ∀ k, (Builtin.copy_ #[45, 45] 3 #[.slice (some ⟨w.heap.size, 0, none⟩) n n, .slice (some ⟨g, 0, none⟩) ws.length ws.length]).run Try.prog ((w.drewN k).alloc (.cells (madeCells #[.int .u64 0] n) 36)) = .ok (goInt ((min n ws.length : Nat) : Int)) (W3 k) ∧ Blk (W3 k) w.heap.size 36 (row (cutL ws n)) ∧ New w (W3 k) := by
    refine ⟨fun k => ((w.drewN k).alloc (.cells (madeCells #[.int .u64 0] n) 36)).setRow w.heap.size (splice (List.replicate n (Value.int .u64 0)) 0 ((ws.take n).map (Value.int .u64))).toArray, fun k => ⟨?_, ?_, ?_⟩⟩
    · have := run_copy_row Try.prog ((w.drewN k).alloc (.cells (madeCells #[.int .u64 0] n) 36)) 45 45 3 36 w.heap.size 0 n n ⟨g, 0, none⟩ ws.length ws.length _ _ ((ws.take n).map (Value.int .u64)) Try.underlying45 hsz (hrow k) (by simp [Nat.min_comm]) (hpos k) (by simp; omega) (one_cells _)
      rw [this]
      simp only [List.length_map, List.length_take, splice, List.append_assoc]
    · have := setRow_heap _ _ _ (splice (List.replicate n (Value.int .u64 0)) 0 ((ws.take n).map (Value.int .u64))).toArray _ _ (hrow k)
      rw [splice_cut] at this ⊢
      exact this
    · exact below_setRow (New.alloc (New.drewN (New.refl w) k) _) (Nat.le_refl _) _
  obtain ⟨W3, hW3⟩ := hcopy
  have hrun1 := fun k => (hW3 k).1
  have hN := fun k => (hW3 k).2.2
  have hB := fun k => (hW3 k).2.1
  have hp3 := fun k => h.blk.new_ (hN k)
  have hm3 : ∀ k, MapOf ek ev (W3 k) m S.L := fun k => MapIs.of_block h.mp ((hN k).block m ml)
  have hup : ∃ O : Nat → Obj, ∀ k, (Instr.mapUpdate 51 (.map (some m)) (.int .i64 uid) (.slice (some ⟨w.heap.size, 0, none⟩) n n)).run Try.prog (W3 k) = .ok () (setBlock (W3 k) m (O k)) ∧ MapOf ek ev (setBlock (W3 k) m (O k)) m (put S.L uid (w.heap.size, cutL ws n)) := by
    have H := fun k => (hm3 k).update law Try.underlying51 h.keyOf (inj _) (x := uid) (keyOf_i64 h0 h1) (w.heap.size, cutL ws n)
    refine ⟨fun k => Classical.choose (H k), fun k => ?_⟩
    have := Classical.choose_spec (H k)
    simpa [ev, cutL_length] using this
  obtain ⟨O, hO⟩ := hup
  have hrun2 := fun k => (hO k).1
  have c3' : ∀ k, (W3 k).cell? ⟨p, 3, none⟩ = some (.map (some m)) := fun k => (hp3 k).cell 3
  have hp4 := fun k => (hp3 k).farBlock pm.symm (O k)
  have c1' : ∀ k, (setBlock (W3 k) m (O k)).cell? ⟨p, 1, none⟩ = some (.int .i64 S.used) := fun k => (hp4 k).cell 1
  have f1' : ∀ k, (setBlock (W3 k) m (O k)).frozen? ⟨p, 1, none⟩ = false := fun k => (hp4 k).frozen 1
  have A := hid (And.intro hg (And.intro he (And.intro hr (And.intro hx (And.intro hO (And.intro hN (And.intro hB (And.intro hp4 hm3))))))))
  clear hg he hr hx hO hN hB hp4 hm3 hsz hrow hpos hW3 hp3
  go_enter Try.func15, Try.ntmps15
  go_wp2_with fail
  refine hc.mono ?_
  rintro e w' ⟨rfl, rfl⟩
  go_wp2_with fail
  refine hm.mono ?_
  rintro e w' ⟨rfl, k, rfl⟩
  go_wp2
  go_ret
  obtain ⟨hg, he, hr, hx, hO, hN, hB, hp4, hm3⟩ := A.out
  have hK : Keeps (fun i => i = p ∨ i = m) w ((setBlock (W3 k) m (O k)).setCell ⟨p, 1, none⟩ (.int .i64 (S.used + (n - ws.length)))) := (((hN k).keeps _).setBlock (.inr (.inr rfl)) _).setCell (.inr (.inl rfl)) _
  have hS : resizeS S uid n w.heap.size = ⟨S.quota, S.next, put S.L uid (w.heap.size, cutL ws n)⟩ := by unfold resizeS; rw [hg]
  have hu : St.used ⟨S.quota, S.next, put S.L uid (w.heap.size, cutL ws n)⟩ = S.used + (n - ws.length) := by
    have : ((put S.L uid (w.heap.size, cutL ws n)).map fun q => q.2.2.length).sum + ws.length = (S.L.map fun q => q.2.2.length).sum + (cutL ws n).length := sum_put (fun r : Nat × List Int => r.2.length) h.nd hg (w.heap.size, cutL ws n)
    rw [cutL_length] at this
    show ((((put S.L uid (w.heap.size, cutL ws n)).map fun q => q.2.2.length).sum : Nat) : Int) = (((S.L.map fun q => q.2.2.length).sum : Nat) : Int) + (n - ws.length)
    omega
  refine ⟨rfl, w.heap.size, Nat.le_refl _, ?_, hK⟩
  rw [hS]
  refine ⟨by rw [hu]; exact (hp4 k).set 1 _, MapIs.set (hO k).2 pm.symm _, ?_, ?_, ?_, ?_, q0, q1, by rw [hu]; show S.used + (n - ws.length) ≤ S.quota; omega, h.next0, h.next1⟩
  · intro y hy
    rcases mem_put hy with rfl | ⟨hy, hne⟩
    · exact ((hB k).farBlock (by show m ≠ w.heap.size; omega) _).far (by show w.heap.size ≠ p; omega) _
    · exact (h.rows y hy).keeps hK (fun e => e.elim (h.row_ne hy).1 (h.row_ne hy).2)
  · exact nodup_put_new _ h.nd h.nodup _ (fun y hy => by have := (h.rows y hy).lt; show y.2.1 ≠ w.heap.size; omega)
  · intro y hy
    rcases mem_put hy with rfl | ⟨hy, hne⟩
    · exact h.keys (uid, (g, ws)) (get?_mem hg)
    · exact h.keys y hy
  · intro y hy
    rcases mem_put hy with rfl | ⟨hy, hne⟩
    · show (cutL ws n).length ≤ 1024
      rw [cutL_length]; exact hs.1
    · exact h.lens y hy
end Go.Proofs.Ytclmgpopejlfdaa.Store
