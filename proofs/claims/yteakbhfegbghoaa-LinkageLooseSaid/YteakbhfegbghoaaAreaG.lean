/- The contracts of area's New, Used, Give. -/
import Derived.Test.YteakbhfegbghoaaAreaW
namespace Go.Proofs.Yteakbhfegbghoaa.Area
open Go Go.RowKit Go.Proofs.Yteakbhfegbghoaa.Kit
set_option linter.unusedSimpArgs false
set_option linter.unusedVariables false
theorem new_any (n : Int) (w : World) :
    Calls Try.prog 30 #[.int .i64 n] w fun e w' => e = .returned (.pointer (some ⟨w.heap.size, 0, none⟩)) ∧ Own w' w.heap.size n.toNat (fun k => k = w.heap.size) [] ∧ New w w' := by
  have hm := fun ats ty => max_i ats ty .i64 .i64 n 0
  have hz : mxZ n 0 = ((n.toNat : Nat) : Int) := by unfold mxZ; omega
  rw [hz] at hm
  have HO : Hid (Own (w.alloc (.cells #[.int .i64 ((n.toNat : Nat) : Int), .slice none 0 0] 124)) w.heap.size n.toNat (fun k => k = w.heap.size) []) := by
    refine ⟨.slice none 0 0, ⟨Blk.new w _ _, Sl.nil _ _ _ _, fun r hr => (by cases hr), List.nodup_nil, fun i r hr => (by simp at hr)⟩, fun k => ⟨fun h => .inl h, ?_⟩⟩
    rintro (h | h | ⟨r, hr, _⟩)
    · exact h
    · cases h
    · cases hr
  generalize n.toNat = N at *
  go_enter Try.func30, Try.ntmps30
  go_wp2
  go_ret
  exact ⟨rfl, HO.out, (New.refl w).alloc _⟩
def usedR (rs : List Room) : Nat := (rs.map fun r => r.2.2.length).sum
theorem usedR_succ {rs : List Room} {k : Nat} {r : Room} (h : rs[k]? = some r) : usedR (rs.take (k + 1)) = usedR (rs.take k) + r.2.2.length := by
  unfold usedR
  rw [List.take_add_one, h, List.map_append, List.sum_append]
  simp
theorem Ord.used {N : Nat} {rs : List Room} (h : Ord N rs) : ∀ k, k ≤ rs.length → usedR (rs.take k) ≤ endOf rs k
  | 0, _ => by simp [usedR]
  | k + 1, hk => by
    have hg := List.getElem?_eq_getElem (show k < rs.length by omega)
    rw [usedR_succ hg, endOf_succ hg]
    have := h.used k (by omega)
    have := (h _ _ hg).1
    omega
theorem Ord.used_le {N : Nat} {rs : List Room} (h : Ord N rs) {k : Nat} (hk : k ≤ rs.length) : usedR (rs.take k) ≤ N := Nat.le_trans (h.used k hk) (h.end_le k)
set_option maxRecDepth 100000 in
set_option maxHeartbeats 4000000 in
theorem used_any (w : World) (A N : Nat) (S : Nat → Prop) (rs : List Room) (h : Own w A N S rs) (hN : N ≤ 100000) :
    Calls Try.prog 37 #[.pointer (some ⟨A, 0, none⟩)] w fun e w' => e = .returned (.int .i64 (usedR rs : Int)) ∧ New w w' := by
  obtain ⟨lv, har, _⟩ := h
  have HA := hid har
  obtain ⟨a, c, rfl⟩ := har.2.1.val
  have d1 : w.cell? ⟨A, 1, none⟩ = some (.slice a rs.length c) := by rw [har.1.cell]; rfl
  clear har
  have hnN := HA.out.2.2.2.2.len
  obtain ⟨n, hn⟩ : ∃ n, n = rs.length := ⟨_, rfl⟩
  rw [← hn] at d1 hnN
  have HL : Hid (LsAt 2 rc w (.slice a n c) rs) := by rw [hn]; exact LsAt.of_sl rc_len HA.out.2.1
  have HN := hid hn
  clear hn
  go_enter Try.func37, Try.ntmps37
  go_wp2_with fail
  go_loopw [3, 13] (fun s i wr => ∃ k : Nat, k ≤ n ∧ i = .int .i64 (k : Int) ∧ s = .int .i64 (usedR (rs.take k) : Int) ∧ New w wr) (fun _ i _ => n - (intOf i).toNat)
  case atStart => exact ⟨0, Nat.zero_le _, rfl, rfl, New.refl _⟩
  case round =>
    obtain ⟨k, hk, rfl, rfl, hnr⟩ := hrel
    by_cases hkn : k < n
    · have w2' : IntKind.i64.wrap ((k : Int) + 1) = k + 1 := by rw [IntKind.wrap_i64]; omega
      obtain ⟨b, o, r, rfl, hx, _, hcell⟩ := (HL.out.new_ hnr).get hkn
      have c0 := hcell 0 _ rfl
      have c1 := hcell 1 _ rfl
      rw [Nat.add_zero] at c0
      unfold rsl at c1
      have j0 : (0 : Int) ≤ (k : Int) := by omega
      have j1 : (k : Int) < (n : Int) := by omega
      have hu := usedR_succ hx
      have hle := HA.out.2.2.2.2.used_le (k := k + 1) (by have := HN.out; omega)
      rw [hu] at hle
      have w3' : IntKind.i64.wrap ((usedR (rs.take k) : Int) + (r.2.2.length : Int)) = (usedR (rs.take k) : Int) + (r.2.2.length : Int) := by rw [IntKind.wrap_i64]; omega
      have HX := hid (And.intro hx (And.intro hnr hu))
      clear hcell hx hnr hu hle
      obtain ⟨s, hs⟩ : ∃ s, s = usedR (rs.take k) := ⟨_, rfl⟩
      rw [← hs] at w3' ⊢
      have HS := hid hs
      clear hs
      go_wp2_with fail
      refine ⟨⟨k + 1, by omega, by go_num, ?_, HX.out.2.1.alloc _⟩, by simp [intOf]; omega⟩
      rw [HX.out.2.2, HS.out]
      go_num
    · have hkn' : k = n := by omega
      subst hkn'
      have HX := hid hnr
      have hs := hid (show usedR (rs.take k) = usedR rs by rw [HN.out, List.take_length])
      clear hnr
      go_wp2_with fail
      go_ret
      exact ⟨by rw [← hs.out]; rfl, HX.out⟩
/-- The list is put anew. -/
theorem Ar.relist {w1 w2 : World} {A N : Nat} {lv v' : Value} {rs rs' : List Room} (h : Ar w1 A N lv rs) (hk : Keeps (fun k => lv.ownBlock = some k) w1 w2) (hs : Sl w2 0 126 2 v' rs'.length (flatOf rc rs'))
    (hrooms : ∀ r ∈ rs', Blk w2 r.2.1 52 (wrow r.2.2)) (hnd : (rs'.map (fun r => r.2.1)).Nodup) (hord : Ord N rs') :
    (w2.cell? ⟨A, 1, none⟩ = some lv ∧ w2.frozen? ⟨A, 1, none⟩ = false) ∧ Ar (w2.setCell ⟨A, 1, none⟩ v') A N v' rs' := by
  have hA : Blk w2 A 124 #[.int .i64 (N : Int), lv] := h.1.keeps hk (fun e => h.apart.1 e)
  refine ⟨⟨by rw [hA.cell]; rfl, hA.frozen 1⟩, hA.set 1 v', hs.far (fun g hg e => ?_) _, fun r hr => (hrooms r hr).far (fun e => ?_) _, hnd, hord⟩
  · obtain ⟨_, arr, hb⟩ := hs.blk hg
    rw [e] at hb
    exact absurd (hb.inj hA) (by decide)
  · have := hrooms r hr
    rw [e] at this
    exact absurd (this.inj hA) (by decide)
theorem Foot.sub {A : Nat} {lv v' : Value} {rs rs' : List Room} {S : Nat → Prop} {B B' : Nat} (hS : ∀ k, S k ↔ Foot A lv rs k) (hown : v'.ownBlock = lv.ownBlock ∨ ∃ g, v'.ownBlock = some g ∧ B' ≤ g) (hB : B ≤ B') (hr : ∀ r ∈ rs', r ∈ rs ∨ B ≤ r.2.1) :
    ∀ k, Foot A v' rs' k → S k ∨ B ≤ k := by
  rintro k (rfl | hk | ⟨r, hr', rfl⟩)
  · exact .inl ((hS _).2 (.inl rfl))
  · rcases hown with e | ⟨g, e, hg⟩
    · exact .inl ((hS _).2 (.inr (.inl (by rw [← e]; exact hk))))
    · rw [e] at hk; cases hk
      exact .inr (Nat.le_trans hB hg)
  · rcases hr r hr' with h | h
    · exact .inl ((hS _).2 (.inr (.inr ⟨r, h, rfl⟩)))
    · exact .inr h
def GivePost (w : World) (A N : Nat) (S : Nat → Prop) (rs : List Room) (b : Int) (e : Ending) (w' : World) : Prop :=
  e = .returned (.bool (look rs b).isSome) ∧ ∃ S' : Nat → Prop, Own w' A N S' (rs.filter (fun r => !((r.1 : Int) == b))) ∧ Keeps S w w' ∧ ∀ k, S' k → S k ∨ w.heap.size ≤ k
theorem give_any (w : World) (A N : Nat) (S : Nat → Prop) (rs : List Room) (h : Own w A N S rs) (hN : N ≤ 100000) (b : Int) :
    Calls Try.prog 36 #[.pointer (some ⟨A, 0, none⟩), .int .i64 b] w (GivePost w A N S rs b) := by
  have H := hid h
  obtain ⟨lv, har, hS⟩ := h
  have HA := hid (And.intro har hS)
  obtain ⟨a, c, rfl⟩ := har.2.1.val
  clear har hS
  go_enter Try.func36, Try.ntmps36
  go_wp2_with fail
  refine (at_any w A N S rs H.out hN b).mono ?_
  rintro e w1 ⟨⟨i, ok, rfl, hsp⟩, hn⟩
  cases ok with
  | false =>
    obtain ⟨hl, hf⟩ := spot_no HA.out.1.2.2.2.2.asc hsp
    have HP := hid (show (look rs b).isSome = false ∧ ∃ S' : Nat → Prop, Own w1 A N S' (rs.filter (fun r => !((r.1 : Int) == b))) ∧ Keeps S w w1 ∧ ∀ k, S' k → S k ∨ w.heap.size ≤ k from ⟨by rw [hl]; rfl, S, by rw [hf]; exact H.out.new_ hn, hn.keeps _, fun _ h => .inl h⟩)
    clear hsp hn hl hf
    go_wp2
    go_ret
    exact ⟨by rw [HP.out.1]; rfl, HP.out.2⟩
  | true =>
    obtain ⟨r, hr, hb, hl, hf⟩ := spot_yes HA.out.1.2.2.2.2.asc hsp
    have hi := (List.getElem?_eq_some_iff.1 hr).1
    have hA1 := HA.out.1.1.new_ hn
    have d1 : w1.cell? ⟨A, 1, none⟩ = some (.slice a rs.length c) := by rw [hA1.cell]; rfl
    have hlen := HA.out.1.2.2.2.2.len
    have hD := delete_any w1 0 (.slice a rs.length c) (flatOf rc rs) rs.length i (HA.out.1.2.1.new_ hn) (by omega) hi (fun u hu => by
      obtain ⟨x, _, hx⟩ := List.mem_flatMap.1 hu
      exact rc_one x u hx)
    rw [flatOf_take rc_len, flatOf_drop rc_len, ← flatOf_app, hf] at hD
    have hfl : (rs.filter (fun r => !((r.1 : Int) == b))).length = rs.length - 1 := by
      rw [← hf, List.length_append, List.length_take, List.length_drop]; omega
    have hAr := HA.out.1.keeps (hn.keeps (fun _ => False)) (fun _ _ h => h)
    have hF : ∀ w2 v', Sl w2 0 126 2 v' (rs.length - 1) (flatOf rc (rs.filter (fun r => !((r.1 : Int) == b)))) → Keeps (fun k => (Value.slice a rs.length c).ownBlock = some k) w1 w2 → (v'.ownBlock = (Value.slice a rs.length c).ownBlock ∨ ∃ g, v'.ownBlock = some g ∧ w1.heap.size ≤ g) →
        (w2.cell? ⟨A, 1, none⟩ = some (.slice a rs.length c) ∧ w2.frozen? ⟨A, 1, none⟩ = false) ∧ true = (look rs b).isSome ∧ ∃ S' : Nat → Prop, Own (w2.setCell ⟨A, 1, none⟩ v') A N S' (rs.filter (fun r => !((r.1 : Int) == b))) ∧ Keeps S w (w2.setCell ⟨A, 1, none⟩ v') ∧ ∀ k, S' k → S k ∨ w.heap.size ≤ k := fun w2 v' h1 h2 h3 => by
      rw [← hfl] at h1
      have hsub : ∀ x ∈ rs.filter (fun r => !((r.1 : Int) == b)), x ∈ rs := fun x hx => (List.mem_filter.1 hx).1
      obtain ⟨q1, q2⟩ := hAr.relist h2 h1 (fun x hx => (hAr.2.2.1 x (hsub x hx)).keeps h2 (hAr.apart.2 x (hsub x hx)).2) (hAr.2.2.2.1.sublist (List.Sublist.map _ List.filter_sublist)) (by rw [← hf]; exact hAr.2.2.2.2.del hi)
      refine ⟨q1, by rw [hl]; rfl, _, ⟨v', q2, fun k => Iff.rfl⟩, ?_, Foot.sub HA.out.2 h3 hn.size (fun x hx => .inl (hsub x hx))⟩
      exact ((hn.keeps S).trans (h2.mono fun i _ h => (HA.out.2 i).2 (.inr (.inl h))) (fun _ _ h => h)).setCell (.inr ((HA.out.2 A).2 (.inl rfl))) _
    have i0 : IntKind.i64.wrap ((i : Int) + 1) = (i : Int) + 1 := by rw [IntKind.wrap_i64]; omega
    have HF := hid hF
    have HDD := hid hD
    clear hF hD hAr hf hfl hlen hA1 hl hr hsp hb hi
    generalize rs.length = n at *
    go_wp2_with fail
    refine HDD.out.mono ?_
    rintro e w2 ⟨v', rfl, h1, h2, h3⟩
    have hG := HF.out w2 v' h1 h2 h3
    obtain ⟨a', c', rfl⟩ := h1.val
    have d2 := hG.1.1
    have d3 := hG.1.2
    have HG := hid hG.2
    clear hG h1 h2 h3 d1
    go_wp2
    go_ret
    exact ⟨by rw [← HG.out.1]; rfl, HG.out.2⟩
end Go.Proofs.Yteakbhfegbghoaa.Area
