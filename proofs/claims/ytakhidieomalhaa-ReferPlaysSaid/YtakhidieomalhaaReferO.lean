/- Package refer: Of. -/
import Derived.Test.YtakhidieomalhaaReferF
import Derived.Test.YtakhidieomalhaaReferSort
namespace Go.Proofs.Ytakhidieomalhaa.Refer
open Go Go.RowKit Go.ChangeMaps Go.Proofs.Ytakhidieomalhaa.Kit Go.Proofs.Ytakhidieomalhaa.Str Go.Proofs.Ytakhidieomalhaa.Names
set_option linter.unusedSimpArgs false
set_option linter.unusedVariables false
def hit (r n : Int) (p : Key × Int) : Bool := decide (p.2 = n) && decide (p.1.1 = r)
/-- The names of a segment in a ring, as they come. -/
def namesOf (L : List (Key × Int)) (r n : Int) : List (List UInt8) := (L.filter (hit r n)).map fun p => p.1.2
theorem namesOf_perm {L M : List (Key × Int)} (h : L.Perm M) (r n : Int) : (namesOf L r n).Perm (namesOf M r n) := (h.filter _).map _
theorem namesOf_hit {L : List (Key × Int)} {q : Key × Int} {r n : Int} (h : hit r n q = true) : namesOf (q :: L) r n = q.1.2 :: namesOf L r n := by unfold namesOf; rw [List.filter_cons_of_pos h]; rfl
theorem namesOf_miss {L : List (Key × Int)} {q : Key × Int} {r n : Int} (h : hit r n q = false) : namesOf (q :: L) r n = namesOf L r n := by unfold namesOf; rw [List.filter_cons_of_neg (by simp [h])]
theorem namesOf_len (L : List (Key × Int)) (r n : Int) : (namesOf L r n).length ≤ L.length := by unfold namesOf; rw [List.length_map]; exact List.length_filter_le _ _
theorem str_info : (Try.prog.info? 9).map (fun i => (i.zero, i.size, i.bytes)) = some (some (.string ByteArray.empty), 1, 16) := by kernel_rfl
theorem news_str {w : World} {G : Nat} {T : TypeId} {s : List UInt8} (h : Blk w G T #[st s]) : ∀ (j : Nat) (u : Value), [st s][j]? = some u → w.cell? ((⟨G, 0, none⟩ : Addr).add j) = some u := by
  intro j u hu
  rw [Addr.add_lit, Nat.zero_add, h.cell, ← hu]
  simp
theorem one_str {s : List UInt8} : ∀ u ∈ [st s], u.oneCell' = true := by
  intro u hu
  rw [List.mem_singleton] at hu
  rw [hu]
  rfl
theorem of_any {w : World} {A b : Nat} {L : List (Key × Int)} (h : At w A b L) (rg n : Int) (hLl : L.length ≤ 1000000) :
    Calls Try.prog 11 #[.pointer (some ⟨A, 0, none⟩), .int .i64 rg, .int .i64 n] w fun e w' => ∃ v, e = .returned v ∧ Sl w' w.heap.size 9 1 v (namesOf L rg n).length ((sortS (namesOf L rg n)).map st) ∧ New w w' := by
  obtain ⟨o, hr, hR⟩ := h.2.1.range (P := Try.prog) (e := 3) Try.underlying44
  have hc := h.cell
  have H := hid (And.intro h (And.intro hR ((New.refl w).alloc o)))
  clear h hR
  go_enter Try.func11, Try.ntmps11
  go_wp2_with fail
  obtain ⟨r, hrr⟩ : ∃ r, r = w.heap.size := ⟨_, rfl⟩
  rw [← hrr] at H ⊢
  have HR := hid hrr
  clear hr hrr hc
  go_loopw [7, 8, 9] (fun l _ _ wr => ∃ (todo : List (Key × Int)) (S : List (List UInt8)), RangeAt ek ev wr b r L todo ∧ Sl wr r 9 1 l S.length (S.map st) ∧ (S ++ namesOf todo rg n).Perm (namesOf L rg n) ∧ New w wr) (fun _ _ _ wr => wr.rangeLeft b r)
  case atStart => exact ⟨L, [], H.out.2.1, Sl.nil _ _ _ _, List.Perm.refl _, H.out.2.2⟩
  case round =>
    obtain ⟨todo, S, hR, hS, hpm, hn⟩ := hrel
    obtain ⟨va, vc, rfl⟩ := hS.val
    have hSl : S.length ≤ 1000000 := by
      have := hpm.length_eq
      rw [List.length_append] at this
      have := namesOf_len L rg n
      omega
    obtain ⟨M, hM⟩ : ∃ M, M = S.length := ⟨_, rfl⟩
    rw [← hM] at hS hSl ⊢
    rcases hR.next (P := Try.prog) 0 with ⟨h0, hrun⟩ | ⟨q, todo', w2, hp, hrun, hR2, hg2, hent⟩
    · subst h0
      have hpS : S.Perm (namesOf L rg n) := by simpa [namesOf] using hpm
      have HQ := hid (sort_any S _ r wr (by rw [← hM]; exact hS) (by omega))
      have HE := hid (And.intro hn (And.intro hpS (And.intro hS hM)))
      clear hR hS hpm hn hpS hSl hM
      go_wp2_with fail
      refine HQ.out.mono ?_
      rintro e w4 ⟨rfl, hs4, hg4⟩
      have H4 := hid (And.intro hs4 hg4)
      clear hs4 hg4
      go_wp2
      go_ret
      obtain ⟨hn, hpS, hS, hM⟩ := HE.out
      refine ⟨_, rfl, ?_, hn.grown H4.out.2 (fun k hk => by rw [← HR.out]; exact (hS.lt k hk).1)⟩
      have h4 := H4.out.1
      rw [← HR.out, ← hpS.length_eq, ← sortS_perm hpS, ← hM]
      rw [← hM] at h4
      exact h4
    · have hn2 : New w w2 := hn.grown hg2 (fun k hk => by cases hk; rw [← HR.out]; exact Nat.le_refl _)
      have hrS : ∀ X : World, ∀ g, RangeAt ek ev X b r L todo' → Sl X r 9 1 (.slice va M vc) M (S.map st) → (Value.slice va M vc).ownBlock = some g → g ≠ r := fun X g h1 h2 hg e => by
        obtain ⟨_, arr, hb⟩ := h2.blk hg
        obtain ⟨es, clock, since, seen, c0, _, _, _, hr, _⟩ := h1
        rw [e] at hb
        rw [show X.heap[r]? = _ from hb] at hr
        cases hr
      have hS2 : Sl w2 r 9 1 (.slice va M vc) M (S.map st) := hS.of_block fun g hg => hg2.block g (hS.lt g hg).2 (fun e => by
        obtain ⟨_, arr, hb⟩ := hS.blk hg
        obtain ⟨es, clock, since, seen, c0, _, _, _, hr, _⟩ := hR
        cases e
        rw [show wr.heap[r]? = _ from hb] at hr
        cases hr)
      have hlen : todo'.length < todo.length := by rw [hp.length_eq]; exact Nat.lt_succ_self _
      have hleft := left_eq hR
      have hB := Blk.new w2 48 #[.int .i64 q.1.1, st q.1.2]
      have c0 : (w2.alloc (.cells #[.int .i64 q.1.1, st q.1.2] 48)).cell? ⟨w2.heap.size, 0, none⟩ = some (.int .i64 q.1.1) := by rw [hB.cell]; rfl
      have c1 : (w2.alloc (.cells #[.int .i64 q.1.1, st q.1.2] 48)).cell? ⟨w2.heap.size, 1, none⟩ = some (st q.1.2) := by rw [hB.cell]; rfl
      have hR3 := hR2.new_ ((New.refl w2).alloc (.cells #[.int .i64 q.1.1, st q.1.2] 48))
      have hS3 := hS2.alloc (.cells #[.int .i64 q.1.1, st q.1.2] 48)
      have hn3 := hn2.alloc (.cells #[.int .i64 q.1.1, st q.1.2] 48)
      have hbr : b < r := by rw [HR.out]; exact H.out.1.lt.2
      have hrl3 : r ≤ (w2.alloc (.cells #[.int .i64 q.1.1, st q.1.2] 48)).heap.size := by rw [HR.out]; exact hn3.size
      have HX := hid (And.intro hR3 (And.intro hS3 (And.intro hn3 (And.intro hp (And.intro hpm (And.intro hlen (And.intro hleft (And.intro hrS (And.intro hM hbr)))))))))
      clear hR hS hn hR2 hg2 hn2 hS2 hB hR3 hS3 hn3 hlen hleft hp hpm hrS hM hbr
      cases hh : hit rg n q with
      | true =>
        obtain ⟨e1, e2⟩ : q.2 = n ∧ q.1.1 = rg := by simpa [hit] using hh
        have hpm2 : ((S ++ [q.1.2]) ++ namesOf todo' rg n).Perm (namesOf L rg n) := by
          rw [List.append_assoc, List.singleton_append, ← namesOf_hit hh]
          exact ((namesOf_perm HX.out.2.2.2.1 rg n).symm.append_left S).trans HX.out.2.2.2.2.1
        have HP := hid hpm2
        obtain ⟨ti, hti, hzz⟩ := Option.map_eq_some_iff.1 str_info
        simp only [Prod.mk.injEq] at hzz
        have HT := hid (And.intro hti hzz)
        have q1 : M + 1 ≤ maxLen := by unfold maxLen; omega
        have q2 : (M + 1) * 16 ≤ 140737488355328 := by omega
        have hnews := hid (news_str (Blk.new (w2.alloc (.cells #[.int .i64 q.1.1, st q.1.2] 48)) 9 #[st q.1.2]))
        rw [World.size_alloc] at hnews
        have hbs : Hid (r ≤ ((w2.alloc (.cells #[.int .i64 q.1.1, st q.1.2] 48)).alloc (.cells #[st q.1.2] 9)).heap.size) := by
          rw [World.size_alloc]
          exact Nat.le_succ_of_le hrl3
        have b1 : (q.2 == n) = true := by rw [beq_iff_eq]; exact e1
        have b2 : (q.1.1 == rg) = true := by rw [beq_iff_eq]; exact e2
        have b3 : decide (q.2 = n) = true := decide_eq_true e1
        have b4 : decide (q.1.1 = rg) = true := decide_eq_true e2
        clear hpm2 hh hti hzz e1 e2
        go_wp2_with (at_builtin; refine wpList_append_sl _ rfl (.tmp 32) (.tmp 35) 22 rfl r 9 ti _ 1 16 Try.underlying22 HT.out.1 HT.out.2.1 HT.out.2.2.1 HT.out.2.2.2 rfl (by decide) (.slice va M vc) M _ rfl (HX.out.2.1.alloc _) ⟨w2.heap.size + 1, 0, none⟩ 1 1 [st q.1.2] rfl (by decide) rfl hnews.out one_str q1 q2 hbs.out ?_; intro v6 w6 hs6 hg6 hb6)
        obtain ⟨hR3, hS3, hn3, hp, hpm, hlen, hleft, hrS, hM, hbr⟩ := HX.out
        have hS4 := hS3.alloc (.cells #[st q.1.2] 9)
        have hR4 := hR3.new_ ((New.refl _).alloc (.cells #[st q.1.2] 9))
        have hR6 : RangeAt ek ev w6 b r L todo' := hR4.of_blocks (hg6.block b hR4.of.lt (fun e => by have := (hS4.lt b e.symm).1; omega)) (hg6.block r hR4.lt (fun e => hrS _ r hR4 hS4 e.symm rfl))
        exact ⟨⟨todo', S ++ [q.1.2], hR6, by rw [List.length_append, ← hM, List.map_append]; exact hs6, HP.out, (hn3.alloc _).grown hg6 (fun k hk => by rw [← HR.out]; exact (hS4.lt k hk).1)⟩, by rw [left_eq hR6, hleft]; exact hlen⟩
      | false =>
        have hpm2 : (S ++ namesOf todo' rg n).Perm (namesOf L rg n) := by
          rw [← namesOf_miss hh]
          exact ((namesOf_perm HX.out.2.2.2.1 rg n).symm.append_left S).trans HX.out.2.2.2.2.1
        have HP := hid hpm2
        by_cases e1 : q.2 = n
        · have e2 : ¬ q.1.1 = rg := fun e => by rw [show hit rg n q = true by simp [hit, e1, e]] at hh; cases hh
          have b1 : (q.2 == n) = true := by rw [beq_iff_eq]; exact e1
          have b3 : decide (q.2 = n) = true := decide_eq_true e1
          clear hpm2 hh e1
          go_wp2_with fail
          obtain ⟨hR3, hS3, hn3, hp, hpm, hlen, hleft, hrS, hM, hbr⟩ := HX.out
          exact ⟨⟨todo', S, hR3, by rw [← hM]; exact hS3, HP.out, hn3⟩, by rw [left_eq hR3, hleft]; exact hlen⟩
        · clear hpm2 hh
          go_wp2_with fail
          obtain ⟨hR3, hS3, hn3, hp, hpm, hlen, hleft, hrS, hM, hbr⟩ := HX.out
          exact ⟨⟨todo', S, hR3, by rw [← hM]; exact hS3, HP.out, hn3⟩, by rw [left_eq hR3, hleft]; exact hlen⟩
end Go.Proofs.Ytakhidieomalhaa.Refer
