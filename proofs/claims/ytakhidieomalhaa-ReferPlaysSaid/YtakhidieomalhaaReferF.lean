/- Package refer: Forget (maps.DeleteFunc at its closure). -/
import Derived.Test.YtakhidieomalhaaRefer
import Derived.Test.YtakhidieomalhaaRange
import Derived.Maps.Range
namespace Go.Proofs.Ytakhidieomalhaa.Refer
open Go Go.RowKit Go.ChangeMaps Go.Proofs.Ytakhidieomalhaa.Kit Go.Proofs.Ytakhidieomalhaa.Str Go.Proofs.Ytakhidieomalhaa.Names
set_option linter.unusedSimpArgs false
set_option linter.unusedVariables false
theorem left_eq {w : World} {b r : Nat} {L todo : List (Key × Int)} (h : RangeAt ek ev w b r L todo) : w.rangeLeft b r = todo.length := by
  obtain ⟨es, clock, since, seen, c0, hb, hs, hl, hr, hold, hsc, hsk, htd⟩ := h
  simp only [World.rangeLeft, hb, hr]
  have := congrArg List.length htd
  rw [List.length_map, List.length_map] at this
  rw [← this]
  have e : (leftOf es seen).toList = es.toList.filter fun e => !seen.contains e.born := by unfold leftOf; simp
  rw [← e]
  simp
theorem forget1_any (x : Key) (v n : Int) (D : Nat) (w : World) (h : w.cell? ⟨D, 0, none⟩ = some (.int .i64 n)) : Calls Try.prog 22 #[ek x, .int .i64 v, .pointer (some ⟨D, 0, none⟩)] w fun e w' => e = .returned (.bool (v == n)) ∧ New w w' := by
  have hlt := World.block_lt_of_cell? w _ h
  have hne : ¬ w.heap.size = D := fun e => by rw [← e] at hlt; exact absurd hlt (Nat.lt_irrefl _)
  go_enter Try.func22, Try.ntmps22
  go_wp2
  go_ret
  exact ⟨rfl, by (repeat (first | exact New.refl _ | (refine New.step ?_ (by assumption)) | apply New.alloc | apply New.drewN | apply New.drew))⟩
/-- What is left when those of n that have come are struck. -/
def goneL (L todo : List (Key × Int)) (n : Int) : List (Key × Int) := L.filter fun p => decide (p.2 ≠ n) || decide (p ∈ todo)
theorem goneL_start (L : List (Key × Int)) (n : Int) : goneL L L n = L := by
  unfold goneL
  rw [List.filter_eq_self]
  intro p hp
  simp [hp]
theorem goneL_end (L : List (Key × Int)) (n : Int) : goneL L [] n = L.filter fun p => decide (p.2 ≠ n) := by
  unfold goneL
  apply List.filter_congr
  intro p _
  simp
theorem goneL_keep {L todo todo' : List (Key × Int)} {q : Key × Int} {n : Int} (hp : todo.Perm (q :: todo')) (hq : q.2 ≠ n) : goneL L todo n = goneL L todo' n := by
  unfold goneL
  apply List.filter_congr
  intro p _
  by_cases e : p.2 = n
  · have hne : p ≠ q := fun h => hq (by rw [← h, e])
    have : p ∈ todo ↔ p ∈ todo' := by rw [hp.mem_iff, List.mem_cons]; simp [hne]
    simp [e, this]
  · simp [e]
theorem goneL_drop {L todo todo' : List (Key × Int)} {q : Key × Int} {n : Int} (hp : todo.Perm (q :: todo')) (hq : q.2 = n) (hn : (L.map Prod.fst).Nodup) (hL : q ∈ L) (hnt : (todo.map Prod.fst).Nodup) : del (goneL L todo n) q.1 = goneL L todo' n := by
  have hn2 : ((q :: todo').map Prod.fst).Nodup := ((hp.map Prod.fst).nodup_iff).1 hnt
  rw [List.map_cons, List.nodup_cons] at hn2
  unfold del goneL
  rw [List.filter_filter]
  apply List.filter_congr
  intro p hpL
  have huniq : p.1 = q.1 → p = q := fun e => by
    have h1 := get?_of_mem hn (x := p.1) (r := p.2) hpL
    have h2 := get?_of_mem hn (x := q.1) (r := q.2) hL
    rw [e, h2] at h1
    exact Prod.ext e (Option.some.inj h1).symm
  by_cases e : p.1 = q.1
  · have := huniq e
    subst this
    have hno : p ∉ todo' := fun h => hn2.1 (List.mem_map.2 ⟨p, h, rfl⟩)
    simp [hq, hno]
  · have hne : p ≠ q := fun h => e (by rw [h])
    have : p ∈ todo ↔ p ∈ todo' := by rw [hp.mem_iff, List.mem_cons]; simp [hne]
    simp [e, this]
theorem deleteFunc_any {w : World} {A b : Nat} {L : List (Key × Int)} (h : At w A b L) (D : Nat) (n : Int) (hD : w.cell? ⟨D, 0, none⟩ = some (.int .i64 n)) (hDb : D ≠ b) :
    Calls Try.prog 21 #[.map (some b), .func (.func 22) #[] #[.pointer (some ⟨D, 0, none⟩)]] w fun e w' => e = .returned (.tuple #[]) ∧ At w' A b (L.filter fun p => decide (p.2 ≠ n)) ∧ Keeps (fun i => i = b) w w' := by
  obtain ⟨o, hr, hR⟩ := h.2.1.range (P := Try.prog) (e := 3) Try.underlying44
  have hk0 : Keeps (fun i => i = b) w (w.alloc o) := (Keeps.refl _ w).alloc o
  have H := hid (And.intro h (And.intro hR (And.intro hk0 hD)))
  clear h hR hk0 hD
  go_enter Try.func21, Try.ntmps21
  go_wp2_with fail
  obtain ⟨r, hrr⟩ : ∃ r, r = w.heap.size := ⟨_, rfl⟩
  rw [← hrr] at H ⊢
  have HR := hid hrr
  clear hr hrr
  go_loopw [4, 5] (fun _ _ wr => ∃ todo : List (Key × Int), RangeAt ek ev wr b r (goneL L todo n) todo ∧ Keeps (fun i => i = b) w wr ∧ (todo.map Prod.fst).Nodup ∧ (∀ p ∈ todo, p ∈ L)) (fun _ _ wr => wr.rangeLeft b r)
  case atStart => exact ⟨L, by rw [goneL_start]; exact H.out.2.1, H.out.2.2.1, H.out.1.nodup, fun p hp => hp⟩
  case round =>
    obtain ⟨todo, hR, hK, hnt, hsub⟩ := hrel
    rcases hR.next (P := Try.prog) 0 with ⟨h0, hrun⟩ | ⟨q, todo', w2, hp, hrun, hR2, hg2, hent⟩
    · subst h0
      rw [goneL_end] at hR
      have HE := hid (show At wr A b (L.filter fun p => decide (p.2 ≠ n)) ∧ Keeps (fun i => i = b) w wr from ⟨⟨H.out.1.1.keeps hK H.out.1.ne, hR.of, fun p hp => H.out.1.2.2 p (List.mem_filter.1 hp).1⟩, hK⟩)
      clear hR hK hnt hsub
      go_wp2
      go_end0
      exact ⟨rfl, HE.out.1, HE.out.2⟩
    · have hq : q ∈ todo := hp.mem_iff.2 List.mem_cons_self
      have hqL := hsub q hq
      have hK2 : Keeps (fun i => i = b) w w2 := hK.grown hg2 (fun k hk => by cases hk; exact .inl (by rw [← HR.out]; exact Nat.le_refl _))
      have hDl := World.block_lt_of_cell? w _ H.out.2.2.2
      have hK3 : Keeps (fun i => i = b) w (w2.alloc (.cells #[.int .i64 q.1.1, st q.1.2] 48)) := hK2.alloc _
      have hc : (w2.alloc (.cells #[.int .i64 q.1.1, st q.1.2] 48)).cell? ⟨D, 0, none⟩ = some (.int .i64 n) := (hK3.cells D 0 hDl hDb).trans H.out.2.2.2
      have HQ := hid (forget1_any q.1 q.2 n D _ hc)
      have hB := Blk.new w2 48 #[.int .i64 q.1.1, st q.1.2]
      have hn2 : ((q :: todo').map Prod.fst).Nodup := ((hp.map Prod.fst).nodup_iff).1 hnt
      have hsub' : ∀ p ∈ todo', p ∈ L := fun p h => hsub p (hp.mem_iff.2 (List.mem_cons_of_mem _ h))
      have hlen : todo'.length < todo.length := by rw [hp.length_eq]; exact Nat.lt_succ_self _
      have hleft := left_eq hR
      have HX := hid (And.intro hR2 (And.intro hK3 (And.intro hB (And.intro hp (And.intro hqL (And.intro hn2 (And.intro hsub' (And.intro hnt (And.intro hlen hleft)))))))))
      clear hR hK hnt hsub hR2 hg2 hK2 hK3 hB hn2 hsub' hlen hleft hp hq hqL hDl hc
      go_wp2_with fail
      refine HQ.out.mono ?_
      rintro e w4 ⟨rfl, n4⟩
      obtain ⟨hR2, hK3, hB, hp, hqL, hn2, hsub', hnt, hlen, hleft⟩ := HX.out
      have hB4 := hB.new_ n4
      have c0 : w4.cell? ⟨w2.heap.size, 0, none⟩ = some (.int .i64 q.1.1) := by rw [hB4.cell]; rfl
      have c1 : w4.cell? ⟨w2.heap.size, 1, none⟩ = some (st q.1.2) := by rw [hB4.cell]; rfl
      have hR4 := (hR2.new_ ((New.refl w2).alloc (.cells #[.int .i64 q.1.1, st q.1.2] 48))).new_ n4
      have hK4 : Keeps (fun i => i = b) w w4 := hK3.trans (n4.keeps _) (fun _ _ h => h)
      rw [List.map_cons, List.nodup_cons] at hn2
      cases hv : (q.2 == n) with
      | true =>
        have hqn : q.2 = n := by simpa using hv
        obtain ⟨lx, hlx⟩ := key_of q.1 (H.out.1.2.2 q hqL)
        obtain ⟨o2, hdel, hR5⟩ := hR4.delete (ty := 0) keyed Try.underlying44 (fun p hp => key_of p.1 (H.out.1.2.2 p (List.mem_filter.1 hp).1)) (inj _) (x := q.1) hlx
          (fun p hp' e => hn2.1 (List.mem_map.2 ⟨p, hp', e⟩)) (fun p hp' => by
            unfold goneL
            refine List.mem_filter.2 ⟨hsub' p hp', ?_⟩
            have : p ∈ todo := hp.mem_iff.2 (List.mem_cons_of_mem _ hp')
            simp [this])
        rw [goneL_drop hp hqn H.out.1.nodup hqL hnt] at hR5
        have hm : (setBlock w4 b o2).rangeLeft b r < wr.rangeLeft b r := by rw [left_eq hR5, hleft]; exact hlen
        have HY := hid (And.intro hR5 (And.intro (Keeps.setBlock (F := fun i => i = b) hK4 (.inr rfl) o2) (And.intro hn2.2 (And.intro hsub' hm))))
        clear hR2 hK3 hB hp hqL hn2 hsub' hnt hlen hleft hB4 hR4 hK4 hR5 hm hlx
        go_wp2_with fail
        exact ⟨⟨todo', HY.out.1, HY.out.2.1, HY.out.2.2.1, HY.out.2.2.2.1⟩, HY.out.2.2.2.2⟩
      | false =>
        have hqn : q.2 ≠ n := by simpa using hv
        rw [goneL_keep hp hqn] at hR4
        have hm : w4.rangeLeft b r < wr.rangeLeft b r := by rw [left_eq hR4, hleft]; exact hlen
        have HY := hid (And.intro hR4 (And.intro hK4 (And.intro hn2.2 (And.intro hsub' hm))))
        clear hR2 hK3 hB hp hqL hn2 hsub' hnt hlen hleft hB4 hR4 hK4 hm
        go_wp2_with fail
        exact ⟨⟨todo', HY.out.1, HY.out.2.1, HY.out.2.2.1, HY.out.2.2.2.1⟩, HY.out.2.2.2.2⟩
theorem forget_any {w : World} {A b : Nat} {L : List (Key × Int)} (h : At w A b L) (n : Int) (hLl : L.length < 4611686018427387904) :
    Calls Try.prog 15 #[.pointer (some ⟨A, 0, none⟩), .int .i64 n] w fun e w' => e = .returned (.int .i64 ((L.length : Int) - ((L.filter fun p => decide (p.2 ≠ n)).length : Int))) ∧ At w' A b (L.filter fun p => decide (p.2 ≠ n)) ∧ Keeps (fun i => i = b) w w' := by
  have h1 := h.new_ ((New.refl w).alloc (.cells #[.int .i64 n] 3))
  have hc := h1.cell
  have hD : (w.alloc (.cells #[.int .i64 n] 3)).cell? ⟨w.heap.size, 0, none⟩ = some (.int .i64 n) := by rw [(Blk.new w _ _).cell]; rfl
  have hq := deleteFunc_any h1 w.heap.size n hD (fun e => by have := h.lt.2; omega)
  have hle : (L.filter fun p => decide (p.2 ≠ n)).length ≤ L.length := List.length_filter_le _ _
  obtain ⟨M, hM⟩ : ∃ M, M = L.length := ⟨_, rfl⟩
  obtain ⟨K, hK⟩ : ∃ K, K = (L.filter fun p => decide (p.2 ≠ n)).length := ⟨_, rfl⟩
  have hw : IntKind.i64.wrap ((M : Int) - (K : Int)) = (M : Int) - (K : Int) := by rw [IntKind.wrap_i64]; omega
  have H := hid (And.intro h1 (And.intro hq (And.intro hM hK)))
  rw [← hM, ← hK]
  clear h h1 hq hM hK hD
  go_enter Try.func15, Try.ntmps15
  go_wp2_with (at_len; refine wpList_len_map rfl (.tmp 11) rfl Try.underlying44 rfl H.out.1.2.1 M H.out.2.2.1 ?_)
  refine H.out.2.1.mono ?_
  rintro e w4 ⟨rfl, h4, k4⟩
  have hc4 := h4.cell
  have H4 := hid (And.intro h4 k4)
  clear h4 k4
  go_wp2_with (at_len; refine wpList_len_map rfl (.tmp 23) rfl Try.underlying44 rfl H4.out.1.2.1 K H.out.2.2.2 ?_)
  go_ret
  exact ⟨rfl, H4.out.1, ((Keeps.refl _ _).alloc _).trans H4.out.2 (fun _ _ h => h)⟩
end Go.Proofs.Ytakhidieomalhaa.Refer
