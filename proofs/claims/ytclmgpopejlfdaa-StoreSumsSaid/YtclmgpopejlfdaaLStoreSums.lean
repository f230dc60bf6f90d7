/- The walk of StoreSums. -/
import Derived.Test.YtclmgpopejlfdaaStoreAwake
import Derived.Test.YtclmgpopejlfdaaOpenS
import Derived.Test.YtclmgpopejlfdaaSl
namespace Go.Proofs.Ytclmgpopejlfdaa.Law
open Go Go.RowKit Go.ChangeShapes Go.WideShapes Go.Proofs.Ytclmgpopejlfdaa.Kit Go.Proofs.Ytclmgpopejlfdaa.Store Go.Proofs.Ytclmgpopejlfdaa.Open
set_option linter.unusedSimpArgs false
set_option linter.unusedVariables false
theorem int_info : (Try.prog.info? 3).map (fun i => (i.zero, i.size, i.bytes)) = some (some (.int .i64 0), 1, 8) := by kernel_rfl
/-- A slice of numbers lies in no block of the store. -/
theorem sl_apart {w : World} {p m base n : Nat} {S : St} {v : Value} {cs : List Value} (h : At w p m S) (hs : Sl w base 3 1 v n cs) : ∀ g, v.ownBlock = some g → g ≠ p ∧ g ≠ m ∧ ∀ x ∈ S.L, x.2.1 ≠ g := by
  intro g hg
  rcases hs.2 with ⟨rfl, _⟩ | ⟨g', o, cap, cur, rfl, hb, hg', _⟩
  · cases hg
  · cases hg
    have hB : Blk w g' 3 cur := hg'
    refine ⟨?_, MapIs.ne_blk h.mp hB, fun x hx e => ?_⟩
    · rintro rfl
      have h2 := h.blk
      unfold Blk at hB h2
      rw [hB] at h2
      injection h2 with h2
      injection h2 with _ h3
      exact absurd h3 (by decide)
    · subst e
      have h2 := h.rows x hx
      unfold Blk at hB h2
      rw [hB] at h2
      injection h2 with h2
      injection h2 with _ h3
      exact absurd h3 (by decide)
theorem At.grown {w w' : World} {p m : Nat} {S : St} (h : At w p m S) {v : Value} (hg : w.grownBy w' v.ownBlock) (ha : ∀ g, v.ownBlock = some g → g ≠ p ∧ g ≠ m ∧ ∀ x ∈ S.L, x.2.1 ≠ g) : At w' p m S := by
  refine h.keeps (F := fun b => v.ownBlock = some b) ⟨hg.os, hg.tape, hg.output, hg.size, fun i hi hn => hg.block i hi (fun e => hn e.symm)⟩ ?_
  rintro b (rfl | rfl | ⟨x, hx, e⟩) hb
  · exact (ha _ hb).1 rfl
  · exact (ha _ hb).2.1 rfl
  · exact (ha _ hb).2.2 x hx e
set_option maxRecDepth 100000 in
set_option maxHeartbeats 4000000 in
theorem storeSums_walk (q : Int) (hq0 : 0 ≤ q) (hq1 : q < 256) (a : Option Addr) (c : Nat) (xs : List Int) (hx : ∀ x ∈ xs, 0 ≤ x ∧ x < 256) (W : World)
    (hc : 0 < xs.length → ∃ b o, a = some ⟨b, o, none⟩ ∧ b < W.heap.size ∧ ∀ i, i < xs.length → W.cell? ⟨b, o + i, none⟩ = some (.int .u8 (xs.getD i 0))) :
    Calls Try.prog 3 #[.int .u8 q, .slice a xs.length c] W fun e w' => e = .returned (.bool true) ∧ New W w' := by
  have H := hid hc
  have HX := hid hx
  clear hc hx
  go_enter Try.func3, Try.ntmps3
  go_wp2_with fail
  refine (awake_any W).mono ?_
  rintro e w0 ⟨rfl, n0⟩
  go_wp2_with fail
  refine (new_any q w0 (by omega)).mono ?_
  rintro e w1 ⟨rfl, n1, a1⟩
  have hmx : mxZ q 0 = q := by unfold mxZ; omega
  rw [hmx] at a1
  clear hmx
  by_cases h100 : 100 < xs.length
  · go_wp2
    go_ret
    exact ⟨rfl, n0.step n1⟩
  go_wp2_with fail
  go_loopw [6, 7, 8] (fun on sum i wr => ∃ (j : Nat) (S : St), j ≤ xs.length ∧ i = .int .i64 (j : Int) ∧ sum = .int .i64 S.used ∧ Sl wr W.heap.size 3 1 on S.L.length (S.L.map fun x => ek x.1) ∧ At wr (w0.heap.size + 1) w0.heap.size S ∧ S.quota = q ∧ S.next ≤ j ∧ S.L.length ≤ j ∧ New W wr) (fun _ _ i _ => xs.length - (intOf i).toNat)
  case atStart =>
    exact ⟨0, ⟨q, 0, []⟩, Nat.zero_le _, rfl, rfl, Sl.nil _ _ _ _, a1, rfl, Int.le_refl _, Nat.le_refl _, n0.step n1⟩
  case round =>
    obtain ⟨j, S, hj, rfl, rfl, hon, hat, hq, hnx, hnl, hnr⟩ := hrel
    by_cases hjl : j < xs.length
    · obtain ⟨b, o, rfl, hb, hcell⟩ := H.out (by omega)
      have hcj := hnr.cellK (hcell j hjl)
      have hxj : 0 ≤ xs.getD j 0 ∧ xs.getD j 0 < 256 := HX.out _ (by rw [List.getD_eq_getElem?_getD, List.getElem?_eq_getElem hjl]; exact List.getElem_mem hjl)
      generalize xs.getD j 0 = x at hcj hxj
      clear hcell
      have hx0 : 0 ≤ x / 2 % 40 ∧ x / 2 % 40 < 40 := by omega
      obtain ⟨oa, oc, rfl⟩ : ∃ oa oc, u6 = .slice oa S.L.length oc := by
        rcases hon.2 with ⟨e, h0⟩ | ⟨g, o2, cap, cur, e, _⟩
        · exact ⟨none, 0, by rw [e, h0]⟩
        · exact ⟨_, _, e⟩
      have w1 : IntKind.i64.wrap ((j : Int) + 1) = j + 1 := by rw [IntKind.wrap_i64]; omega
      by_cases hd : Go.bits .and .u8 x 1 = 1 ∧ S.L ≠ []
      · obtain ⟨hd1, hd2⟩ := hd
        obtain ⟨sq, sn, L⟩ := S
        simp only at hd2 hq hnx hnl hon
        subst hq
        obtain ⟨⟨u, r⟩, rest, rfl⟩ : ∃ y rest, L = y :: rest := by cases L with | nil => exact absurd rfl hd2 | cons y t => exact ⟨y, t, rfl⟩
        obtain ⟨g, o2, cap, hv, hbg, hgl, hcap, hcl, hfr⟩ := hon.form (by simp)
        have hrow := hon
        have hc0 : wr.cell? ⟨g, o2, none⟩ = some (.int .i64 u) := by have := hcl 0 (ek u) (by simp); simpa using this
        simp only [List.length_cons] at hv ⊢
        injection hv with hv1 _ hv2
        subst hv1 hv2
        have hgu : get? ((u, r) :: rest) u = some r := by rw [get?_cons]; simp
        have hk := hat.keys (u, r) List.mem_cons_self
        simp only at hk
        have hsz := size_any wr _ _ _ hat u (by omega) (by omega)
        unfold sizeV at hsz
        simp only [hgu] at hsz
        have hdr := drop_yes wr _ _ _ hat u (by omega) (by omega) r hgu
        clear hgu hcl hfr
        go_wp2_with fail
        refine hsz.mono ?_
        rintro e w' ⟨rfl, rfl⟩
        go_wp2_with fail
        refine hdr.mono ?_
        rintro e w2 ⟨rfl, hat2, hk2⟩
        have hu := dropS_used (S := ⟨sq, sn, (u, r) :: rest⟩) hat.nd (uid := u) (r := r) (by simp [get?_cons])
        have hlen := St.len_le (S := ⟨sq, sn, (u, r) :: rest⟩) (x := (u, r)) List.mem_cons_self
        have hu1 := hat.used1
        have hq1 := hat.quota1
        simp only at hlen hu1 hq1
        have w2s : IntKind.i64.wrap (St.used ⟨sq, sn, (u, r) :: rest⟩ - r.2.length) = St.used ⟨sq, sn, (u, r) :: rest⟩ - r.2.length := by rw [IntKind.wrap_i64]; omega
        have hu' := hid hu
        clear hu
        simp only [List.length_cons] at hcap
        go_wp2_with fail
        have hw3 : wrap64 (St.used ⟨sq, sn, (u, r) :: rest⟩ - r.2.length) = St.used ⟨sq, sn, (u, r) :: rest⟩ - r.2.length := by unfold wrap64; omega
        go_quiet (fail)
        go_wp2_with fail
        go_roundw
        case rel =>
          have hu := hu'.out
          have hS : dropS ⟨sq, sn, (u, r) :: rest⟩ u = ⟨sq, sn, rest⟩ := by
            unfold dropS
            rw [del_cons (by exact hat.nd)]
          have hA2 := hat2.drewN nq
          rw [hS] at hA2 hu
          refine ⟨j + 1, ⟨sq, sn, rest⟩, by omega, by go_num, by rw [hu], ?_, hA2, rfl, by simp only; omega, by simp only [List.length_cons] at hnl ⊢; omega, (hnr.kept hk2 (by rintro i (rfl | rfl) <;> have := n0.size <;> omega)).drewN nq⟩
          have h5 := sl_apart hat hrow
          exact ((hrow.cut1).keeps hk2 (fun g' hg' e => by
            have h6 := h5 g (rfl)
            split at hg' <;> cases hg' <;> exact e.elim h6.1 h6.2.1)).drewN nq
        case measure => simp [intOf]; omega
      · have he : mayE S (x / 2 % 40) 0 = if S.used ≤ S.quota - x / 2 % 40 then 0 else 6 := by
          unfold mayE
          rw [if_neg (by omega)]
          by_cases h7 : S.used ≤ S.quota - x / 2 % 40
          · rw [if_neg (by omega), if_pos h7]
          · rw [if_pos (by omega), if_neg h7]
        have hu1 := hat.used1
        have hq1 := hat.quota1
        have hu0 := S.used0
        have hqq : 0 ≤ S.quota ∧ S.quota < 256 := by omega
        have w3 : IntKind.i64.wrap (S.used + x / 2 % 40) = S.used + x / 2 % 40 := by rw [IntKind.wrap_i64]; omega
        have hlen : (0 : Int) < S.L.length → ¬ Go.bits .and .u8 x 1 = 1 := fun h1 h2 => hd ⟨h2, by intro e; rw [e] at h1; exact absurd h1 (by decide)⟩
        by_cases h7 : S.used ≤ S.quota - x / 2 % 40
        · rw [if_pos h7] at he
          obtain ⟨k, hk⟩ : ∃ k : Nat, x / 2 % 40 = k := ⟨(x / 2 % 40).toNat, by omega⟩
          have hm := make_yes wr _ _ _ hat k (by rw [← hk]; exact he) (by omega)
          rw [← hk] at hm
          have hkk := hid hk
          clear hk he
          have hl0 : Go.bits .and .u8 x 1 = 1 → S.L.length = 0 := fun hd1 => by
            rcases Nat.eq_zero_or_pos S.L.length with h | h
            · exact h
            · exact absurd hd1 (hlen (by omega))
          obtain ⟨ti, hi, hzz⟩ := Option.map_eq_some_iff.1 int_info
          simp only [Prod.mk.injEq] at hzz
          obtain ⟨hz, hs, hbt⟩ := hzz
          have hi' := hid hi
          have hz' := hid hz
          have hs' := hid hs
          have hbt' := hid hbt
          have hll : S.L.length ≤ 100 := by omega
          clear hi hz hs hbt hlen
          have hh : x / 2 % 40 ≤ S.quota - S.used := by omega
          have h8 : S.used + x / 2 % 40 ≤ q := by omega
          rcases ((Decidable.em (Go.bits .and .u8 x 1 = 1)).imp (fun h => ⟨h, fun h1 => by have := hl0 h; omega⟩) id : (Go.bits .and .u8 x 1 = 1 ∧ ¬ 0 < S.L.length) ∨ ¬ Go.bits .and .u8 x 1 = 1) with ⟨hd1, hd2⟩ | hd1
          all_goals
            clear hl0
            go_wp2_with fail
            refine hm.mono ?_
            rintro e w2 ⟨rfl, b2, hb2, hat2, hk2⟩
            have hon2 : Sl w2 W.heap.size 3 1 (.slice oa S.L.length oc) S.L.length (S.L.map fun x => ek x.1) := hon.keeps hk2 (fun g hg e => e.elim (sl_apart hat hon g hg).1 (sl_apart hat hon g hg).2.1)
            have hn2 := hnr.size
            have hn3 := hk2.size
            go_wp2_with (at_builtin; refine wpList_append_sl _ rfl (.tmp 103) (.tmp 105) 26 rfl W.heap.size 3 ti (.int .i64 0) 1 8 Try.underlying26 hi'.out hz'.out hs'.out hbt'.out rfl (by decide) _ S.L.length _ rfl (hon2.alloc _) ⟨w2.heap.size, 0, none⟩ 1 1 [.int .i64 (S.next + 1)] rfl (by decide) rfl (cell_one_new _ _ _) (by simp [Value.oneCell']) (by unfold maxLen; omega) (by omega) (by simp; omega) ?_; intro v' w3 hs3 hg3 hb3)
            have hat25 : At (w2.alloc (.cells #[.int .i64 (S.next + 1)] 3)) _ _ (makeS S k b2) := hat2.keeps ((Keeps.refl (fun _ => False) w2).alloc _) (fun _ _ h => h)
            have hon25 : Sl (w2.alloc (.cells #[.int .i64 (S.next + 1)] 3)) W.heap.size 3 1 (.slice oa S.L.length oc) S.L.length (S.L.map fun x => ek x.1) := hon2.alloc _
            have hat3 : At w3 _ _ (makeS S k b2) := At.grown hat25 hg3 (sl_apart hat25 hon25)
            have hus : (makeS S k b2).used = S.used + x / 2 % 40 := by rw [makeS_used, ← hkk.out]
            have hun := used_any w3 _ _ _ hat3
            rw [hus] at hun
            have hus' := hid hus
            have hnw : New W w3 := New.kept ((hnr.kept hk2 (by rintro i (rfl | rfl) <;> have := n0.size <;> omega)).alloc _) (F := fun b => (Value.slice oa S.L.length oc).ownBlock = some b) ⟨hg3.os, hg3.tape, hg3.output, hg3.size, fun i hi hn => hg3.block i hi (fun e => hn e.symm)⟩ (fun i hi => (hon.lt i hi).1)
            clear hus
            go_wp2_with fail
            refine hun.mono ?_
            rintro e w4 ⟨rfl, rfl⟩
            go_wp2_with fail
            go_roundw
            case rel =>
              refine ⟨j + 1, makeS S k b2, by omega, by go_num, by rw [hus'.out], ?_, hat3, hq, by show S.next + 1 ≤ _; omega, by simp [makeS]; omega, hnw⟩
              simpa [makeS] using hs3
            case measure => simp [intOf]; omega
        · rw [if_neg h7] at he
          have hm := make_no wr _ _ _ hat (x / 2 % 40) (by rw [he]; decide)
          rw [he] at hm
          have h8 : ¬ S.used + x / 2 % 40 ≤ q := by omega
          have hun := fun n => used_any (wr.drewN n) _ _ _ (hat.drewN n)
          have hl0 : Go.bits .and .u8 x 1 = 1 → S.L.length = 0 := fun hd1 => by
            rcases Nat.eq_zero_or_pos S.L.length with h | h
            · exact h
            · exact absurd hd1 (hlen (by omega))
          clear he hlen h7
          rcases ((Decidable.em (Go.bits .and .u8 x 1 = 1)).imp (fun h => ⟨h, fun h1 => by have := hl0 h; omega⟩) id : (Go.bits .and .u8 x 1 = 1 ∧ ¬ 0 < S.L.length) ∨ ¬ Go.bits .and .u8 x 1 = 1) with ⟨hd1, hd2⟩ | hd1
          all_goals
            clear hl0
            go_wp2_with fail
            refine hm.mono ?_
            rintro e w2 ⟨rfl, nn, rfl⟩
            go_wp2_with fail
            refine (hun nn).mono ?_
            rintro e w4 ⟨rfl, rfl⟩
            go_wp2_with fail
            go_roundw
            case rel => exact ⟨j + 1, S, by omega, by go_num, rfl, hon.drewN nn, hat.drewN nn, hq, by omega, by omega, hnr.drewN nn⟩
            case measure => simp [intOf]; omega
    · go_wp2_with fail
      go_ret
      exact ⟨rfl, hnr⟩
theorem storeSums_row {H : Type} {enc : TypeId × Value → H} (W : World) {base : Nat}
    (v0 : Value) (d0 : DataW H) (p0 : List MemPlace) (k0 : Value.okWide Try.prog W .any base 5 v0) (h0 : DataW.Trod enc Try.prog W 0 (fun _ => true) true 5 v0 d0 p0) (l0 : ∀ x ∈ p0, x.block < W.heap.size)
    (v1 : Value) (d1 : DataW H) (p1 : List MemPlace) (k1 : Value.okWide Try.prog W .any base 22 v1) (h1 : DataW.Trod enc Try.prog W 0 (fun _ => true) true 22 v1 d1 p1) (l1 : ∀ x ∈ p1, x.block < W.heap.size)
    : Calls Try.prog 3 #[v0, v1] W fun e W' => e = .returned (.bool true) ∧ Below W.heap.size W W' := by
  obtain ⟨q, rfl, rfl, rfl, wq⟩ := open_int Try.underlying5 k0 h0
  obtain ⟨xs, ⟨a, c, rfl, hc⟩, hw, _⟩ := open_sints Try.underlying22 Try.underlying5 (by kernel_rfl) k1 h1
  have hr := wf_u8 wq
  exact storeSums_walk q hr.1 hr.2 a c xs (fun x hx => wf_u8 (hw x hx)) W hc
end Go.Proofs.Ytclmgpopejlfdaa.Law
