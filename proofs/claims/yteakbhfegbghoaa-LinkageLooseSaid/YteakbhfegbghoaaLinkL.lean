/- Package linkage: Loose. -/
import Derived.Test.YteakbhfegbghoaaLinkG
import Derived.Test.YteakbhfegbghoaaRange
import Derived.Maps.Range
namespace Go.Proofs.Yteakbhfegbghoaa.Link
open Go Go.RowKit Go.ChangeMaps Go.Proofs.Yteakbhfegbghoaa.Kit Go.Proofs.Yteakbhfegbghoaa.Area Go.Proofs.Yteakbhfegbghoaa.Wd
open Go.Proofs.Yteakbhfegbghoaa.Point (pt packN mayB)
set_option linter.unusedSimpArgs false
set_option linter.unusedVariables false
theorem left_eq {w : World} {b r : Nat} {L todo : List (Key × Sec)} (h : RangeAt ek ev w b r L todo) : w.rangeLeft b r = todo.length := by
  obtain ⟨es, clock, since, seen, c0, hb, hs, hl, hr, hold, hsc, hsk, htd⟩ := h
  simp only [World.rangeLeft, hb, hr]
  have := congrArg List.length htd
  rw [List.length_map, List.length_map] at this
  rw [← this]
  have e : (leftOf es seen).toList = es.toList.filter fun e => !seen.contains e.born := by unfold leftOf; simp
  rw [← e]
  simp
/-- Is this link of q loosed? -/
def hitQ (r s : Int) (q : Sc) (p : P4) : Bool := decide ((q.ring : Int) = r) && (decide ((p.2.2.1 : Int) = 0) && decide ((p.1 : Int) = s))
def loosed (r s : Int) (q : Sc) (n : Nat) : List P4 := q.ls.mapIdx fun i p => if i < n ∧ hitQ r s q p = true then flt q i else p
def looseTo (r s : Int) (q : Sc) (n : Nat) : Sc := { q with ls := loosed r s q n }
def looseS (r s : Int) (q : Sc) : Sc := looseTo r s q q.ls.length
def cntTo (r s : Int) (q : Sc) (n : Nat) : Nat := (q.ls.take n).countP (hitQ r s q)
def cntS (r s : Int) (q : Sc) : Nat := q.ls.countP (hitQ r s q)
section
variable {r s : Int} {q : Sc} {n : Nat} {p : P4} {Q : List Sc}
theorem loosed_len (r s : Int) (q : Sc) (n : Nat) : (loosed r s q n).length = q.ls.length := by simp [loosed]
theorem loosed_at (h : q.ls[n]? = some p) (k : Nat) : (loosed r s q k)[n]? = some (if n < k ∧ hitQ r s q p = true then flt q n else p) := by
  unfold loosed
  rw [List.getElem?_mapIdx, h]; rfl
theorem loosed_zero (r s : Int) (q : Sc) : loosed r s q 0 = q.ls := by
  apply List.ext_getElem?
  intro i
  unfold loosed
  rw [List.getElem?_mapIdx]
  cases q.ls[i]? <;> simp
theorem looseTo_zero (r s : Int) (q : Sc) : looseTo r s q 0 = q := by unfold looseTo; rw [loosed_zero]
theorem loosed_next (h : q.ls[n]? = some p) (hp : hitQ r s q p = true) : (loosed r s q n).set n (flt q n) = loosed r s q (n + 1) := by
  apply List.ext_getElem?
  intro i
  have hn := (List.getElem?_eq_some_iff.1 h).1
  by_cases e : n = i
  · subst e
    rw [List.getElem?_set_self (by rw [loosed_len]; exact hn), loosed_at h, if_pos ⟨Nat.lt_succ_self _, hp⟩]
  · rw [List.getElem?_set_ne e]
    unfold loosed
    rw [List.getElem?_mapIdx, List.getElem?_mapIdx]
    cases q.ls[i]? with
    | none => rfl
    | some y =>
      simp only [Option.map_some, Option.some.injEq]
      have : i < n ↔ i < n + 1 := by omega
      simp only [this]
theorem loosed_same (h : q.ls[n]? = some p) (hp : hitQ r s q p = false) : loosed r s q (n + 1) = loosed r s q n := by
  apply List.ext_getElem?
  intro i
  unfold loosed
  rw [List.getElem?_mapIdx, List.getElem?_mapIdx]
  by_cases e : n = i
  · subst e; rw [h]; simp [hp]
  · cases q.ls[i]? with
    | none => rfl
    | some y =>
      simp only [Option.map_some, Option.some.injEq]
      have : i < n ↔ i < n + 1 := by omega
      simp only [this]
theorem cnt_zero (r s : Int) (q : Sc) : cntTo r s q 0 = 0 := by simp [cntTo]
theorem cnt_next (h : q.ls[n]? = some p) : cntTo r s q (n + 1) = cntTo r s q n + if hitQ r s q p = true then 1 else 0 := by
  unfold cntTo
  rw [List.take_add_one, h, List.countP_append]
  simp [List.countP_cons]
theorem cnt_all (r s : Int) (q : Sc) : cntTo r s q q.ls.length = cntS r s q := by unfold cntTo cntS; rw [List.take_length]
theorem cnt_le (r s : Int) (q : Sc) (n : Nat) : cntTo r s q n ≤ cntS r s q := (List.take_sublist n q.ls).countP_le
theorem cntS_le (h : okS q) : cntS r s q ≤ 32 := Nat.le_trans List.countP_le_length h.lsl
/-- Those whose keys are still to come are as they were. -/
def stT (r s : Int) (ks : List Key) (Q : List Sc) : List Sc := Q.map fun q => if q.key ∈ ks then q else looseS r s q
theorem stT_key (ks : List Key) : (stT r s ks Q).map Sc.key = Q.map Sc.key := by
  unfold stT
  rw [List.map_map]
  refine List.map_congr_left fun p _ => ?_
  show Sc.key (if p.key ∈ ks then p else looseS r s p) = p.key
  by_cases e : p.key ∈ ks
  · rw [if_pos e]
  · rw [if_neg e]; rfl
theorem stT_all : stT r s (Q.map Sc.key) Q = Q := by
  unfold stT
  refine (List.map_congr_left fun p hp => ?_).trans (List.map_id _)
  rw [if_pos (List.mem_map.2 ⟨p, hp, rfl⟩)]; rfl
theorem stT_none : stT r s [] Q = Q.map (looseS r s) := by
  unfold stT
  refine List.map_congr_left fun p _ => ?_
  rw [if_neg (by simp)]
theorem setS_self {Q0 : List Sc} (hn : (Q0.map Sc.key).Nodup) (hq : q ∈ Q0) : setS Q0 q = Q0 := by
  unfold setS
  refine (List.map_congr_left fun p hp => ?_).trans (List.map_id _)
  by_cases e : p.key = q.key
  · rw [if_pos e, key_inj hn hp hq e]; rfl
  · rw [if_neg e]; rfl
theorem setS_set {Q0 : List Sc} {a c : Sc} (h : a.key = c.key) : setS (setS Q0 a) c = setS Q0 c := by
  unfold setS
  rw [List.map_map]
  refine List.map_congr_left fun p _ => ?_
  simp only [Function.comp_apply]
  by_cases e : p.key = a.key
  · rw [if_pos e, if_pos h, if_pos (e.trans h)]
  · rw [if_neg e, if_neg (fun e2 => e (e2.trans h.symm))]
theorem mem_setS {Q0 : List Sc} {a : Sc} (hq : q ∈ Q0) (hk : a.key = q.key) : a ∈ setS Q0 a := by
  unfold setS
  exact List.mem_map.2 ⟨q, hq, by rw [if_pos hk.symm]⟩
theorem stT_mem {x : Key} {ks : List Key} (hq : q ∈ Q) (hx : q.key = x) : q ∈ stT r s (x :: ks) Q := by
  unfold stT
  exact List.mem_map.2 ⟨q, hq, by rw [if_pos (by rw [hx]; exact List.mem_cons_self)]⟩
theorem stT_step {x : Key} {ks : List Key} (hn : (Q.map Sc.key).Nodup) (hq : q ∈ Q) (hx : q.key = x) (hks : x ∉ ks) : setS (stT r s (x :: ks) Q) (looseS r s q) = stT r s ks Q := by
  unfold setS stT
  rw [List.map_map]
  refine List.map_congr_left fun p hp => ?_
  simp only [Function.comp_apply]
  have hkl : (looseS r s q).key = q.key := rfl
  rw [hkl]
  by_cases e : p.key = q.key
  · have := key_inj hn hp hq e
    subst this
    rw [if_pos (show p.key ∈ x :: ks by rw [hx]; exact List.mem_cons_self), if_pos rfl, if_neg (show p.key ∉ ks by rw [hx]; exact hks)]
  · by_cases e2 : p.key ∈ ks
    · rw [if_pos (List.mem_cons_of_mem _ e2), if_neg e, if_pos e2]
    · have : p.key ∉ x :: ks := by
        intro h
        rcases List.mem_cons.1 h with h | h
        · exact e (h.trans hx.symm)
        · exact e2 h
      rw [if_neg this, if_neg (show ¬ (looseS r s p).key = q.key from e), if_neg e2]
theorem stT_perm {ks ks' : List Key} (h : ks.Perm ks') : stT r s ks Q = stT r s ks' Q := by
  unfold stT
  refine List.map_congr_left fun p _ => ?_
  simp only [h.mem_iff]
/-- How many a key has still to loose. -/
def cntK (r s : Int) (Q : List Sc) (p : Key × Sec) : Nat := match findS Q p.1 with | some q => cntS r s q | none => 0
theorem cntK_mem (hn : (Q.map Sc.key).Nodup) (hq : q ∈ Q) : cntK r s Q q.sec = cntS r s q := by
  unfold cntK
  rw [show q.sec.1 = q.key from rfl, find_of_mem hn hq]
theorem cnt_total (hn : (Q.map Sc.key).Nodup) : ((Q.map Sc.sec).map (cntK r s Q)).sum = (Q.map (cntS r s)).sum := by
  rw [List.map_map]
  congr 1
  exact List.map_congr_left fun q hq => cntK_mem hn hq
theorem total_le {r s : Int} : ∀ (Q : List Sc), (∀ q ∈ Q, okS q) → (Q.map (cntS r s)).sum ≤ 32 * Q.length
  | [], _ => by simp
  | a :: Q, h => by
    have h1 : (Q.map (cntS r s)).sum ≤ 32 * Q.length := total_le Q (fun q hq => h q (List.mem_cons_of_mem _ hq))
    have h2 := cntS_le (r := r) (s := s) (h a List.mem_cons_self)
    rw [List.map_cons, List.sum_cons, List.length_cons]
    omega
end
set_option maxRecDepth 100000 in
set_option maxHeartbeats 4000000 in
theorem LooseQ {w0 w : World} {X b : Nat} {Q : List Sc} {T : Nat → Prop} (h : Lk w0 w X b Q T) (hQ : Q.length ≤ 10000) (r s : Int) {tot : Nat} (htot : (Q.map (cntS r s)).sum = tot) :
    Calls Try.prog 15 #[ptr X, .int .i64 r, .int .i64 s] w fun e w' => e = .returned (.int .i64 (tot : Int)) ∧ Lk w0 w' X b (Q.map (looseS r s)) T ∧ Same T w w' := by
  have hn := h.nodup
  have hoks : ∀ q ∈ Q, okS q := fun q hq => h.ok hq
  have hle := total_le (r := r) (s := s) Q hoks
  have hmap : MapOf ek ev w b (Q.map Sc.sec) := by obtain ⟨A, ms, h1, _⟩ := h; exact h1.map
  have cM : w.cell? ⟨X, 8, none⟩ = some (.map (some b)) := by obtain ⟨A, ms, h1, _⟩ := h; exact h1.cellM
  obtain ⟨o, hr, hR⟩ := hmap.range (P := Try.prog) (e := 87) Try.underlying80
  have hl1 := h.box o
  have hs1 : Same T w (w.alloc o) := Same.ofNew ((New.refl w).alloc o) (fun k hk => h.ltT hk)
  have htl : tot ≤ 320000 := by rw [← htot]; omega
  have H := hid (And.intro hR (And.intro hl1 hs1))
  have HN := hid (And.intro hn (And.intro hoks (And.intro htl (show ((Q.map Sc.sec).map (cntK r s Q)).sum = tot by rw [cnt_total hn]; exact htot))))
  have HTw : Hid (∀ k, T k → k < w.heap.size) := fun k hk => h.ltT hk
  have HTR : Hid (¬ T w.heap.size) := fun ht => absurd (h.ltT ht) (Nat.lt_irrefl _)
  clear h hmap hR hl1 hs1 hn hoks htl hle htot hQ
  go_enter Try.func15, Try.ntmps15
  go_wp2_with fail
  obtain ⟨R, hRR⟩ : ∃ R, R = w.heap.size := ⟨_, rfl⟩
  rw [← hRR] at H HTR ⊢
  clear hr hRR cM
  obtain ⟨T', hT'⟩ : ∃ T' : Nat → Prop, T' = fun k => T k ∨ k = R := ⟨_, rfl⟩
  have HT' := hid hT'
  rw [← hT'] at H
  have hTR : Hid (¬ T R) := HTR.out
  clear HTR
  have HT := hid (show T' R ∧ ∀ k, T k → T' k by rw [hT']; exact ⟨.inr rfl, fun k hk => .inl hk⟩)
  clear hT'
  go_loopw [7, 8, 9, 10, 11, 12] (fun n _ _ _ _ _ wx => ∃ (todo : List (Key × Sec)) (c : Nat), n = .int .i64 (c : Int) ∧ RangeAt ek ev wx b R (Q.map Sc.sec) todo ∧ Lk w0 wx X b (stT r s (todo.map Prod.fst) Q) T' ∧ (todo.map Prod.fst).Nodup ∧ (∀ p ∈ todo, p ∈ Q.map Sc.sec) ∧ c + (todo.map (cntK r s Q)).sum = tot ∧ Same T w wx) (fun _ _ _ _ _ _ wx => wx.rangeLeft b R)
  case atStart => exact ⟨Q.map Sc.sec, 0, rfl, H.out.1, by rw [List.map_map, show Prod.fst ∘ Sc.sec = Sc.key from rfl, stT_all]; exact H.out.2.1, by rw [List.map_map]; exact HN.out.1, fun p hp => hp, by rw [Nat.zero_add]; exact HN.out.2.2.2, H.out.2.2⟩
  case round =>
    obtain ⟨todo, c, rfl, hR, hl, hnt, hsub, hcnt, hsw⟩ := hrel
    rcases hR.next (P := Try.prog) 0 with ⟨h0, hrun⟩ | ⟨e, todo', w2, hp, hrun, hR2, hg2, hent⟩
    · as_aux_lemma => --[[ end
      subst h0
      have hc : c = tot := by rw [← hcnt]; simp
      subst hc
      have HE := hid (show Lk w0 wr X b (Q.map (looseS r s)) T ∧ Same T w wr from ⟨by have := hl.less (T' := T) HT.out.2; rw [List.map_nil, stT_none] at this; exact this, hsw⟩)
      clear hR hl hnt hsub hcnt hsw
      go_wp2
      go_ret
      exact ⟨rfl, HE.out⟩
      --]] end
    · have he : e ∈ todo := hp.mem_iff.2 List.mem_cons_self
      obtain ⟨q, hq, hqe⟩ := List.mem_map.1 (hsub e he)
      have hn2 : ((e :: todo').map Prod.fst).Nodup := ((hp.map Prod.fst).nodup_iff).1 hnt
      rw [List.map_cons, List.nodup_cons] at hn2
      have hsub' : ∀ p ∈ todo', p ∈ Q.map Sc.sec := fun p h => hsub p (hp.mem_iff.2 (List.mem_cons_of_mem _ h))
      have hlen : todo'.length < wr.rangeLeft b R := by rw [left_eq hR, hp.length_eq]; exact Nat.lt_succ_self _
      have hcnt2 : c + (cntS r s q + (todo'.map (cntK r s Q)).sum) = tot := by
        rw [← hcnt, (hp.map (cntK r s Q)).sum_nat, List.map_cons, List.sum_cons, ← hqe, cntK_mem HN.out.1 hq]
      have hl2 : Lk w0 w2 X b (stT r s (q.key :: todo'.map Prod.fst) Q) T' := by
        have h1 := hl.kept (T' := T') (Keeps.grown (Keeps.refl T' wr) hg2 (fun k hk => by cases hk; exact .inr HT.out.1)) (fun k hk => ⟨.inl hk, Nat.lt_of_lt_of_le (hl.ltT hk) hg2.size⟩)
        rw [stT_perm (hp.map Prod.fst), List.map_cons, ← hqe] at h1
        exact h1
      have hsw2 : Same T w w2 := Same.trans hsw ⟨hg2.size, fun k hk => hg2.block k (hl.ltT (HT.out.2 k hk)) (fun e => by cases e; exact hTR hk)⟩
      subst hqe
      obtain ⟨LL, hLL⟩ : ∃ n, n = q.ls.length := ⟨_, rfl⟩
      obtain ⟨SL, hSL⟩ : ∃ n, n = q.st.length := ⟨_, rfl⟩
      obtain ⟨RG, hRG⟩ : ∃ n : Int, n = (q.ring : Int) := ⟨_, rfl⟩
      obtain ⟨SG, hSG⟩ : ∃ n : Int, n = (q.seg : Int) := ⟨_, rfl⟩
      obtain ⟨B0, hB0⟩ : ∃ n : Int, n = (q.base : Int) := ⟨_, rfl⟩
      have hrun' : (Instr.next (.pointer (some ⟨R, 0, none⟩)) false 0).run Try.prog wr = .ok (.tuple #[.bool true, .agg #[.int .i64 RG, .int .i64 SG], .agg #[.int .i64 B0, .int .i64 (SL : Int), .int .i64 (LL : Int)]]) w2 := by
        rw [hRG, hSG, hB0, hSL, hLL]; exact hrun
      have hent' : (Instr.entry (.pointer (some ⟨R, 0, none⟩))).run Try.prog w2 = .ok (.tuple #[.agg #[.int .i64 RG, .int .i64 SG], .agg #[.int .i64 B0, .int .i64 (SL : Int), .int .i64 (LL : Int)]]) w2 := by
        rw [hRG, hSG, hB0, hSL, hLL]; exact hent
      have hl3 := (hl2.box (.cells #[.int .i64 RG, .int .i64 SG] 94)).box (.cells #[.int .i64 B0, .int .i64 (SL : Int), .int .i64 (LL : Int)] 87)
      have hB8 := (Blk.new w2 94 #[.int .i64 RG, .int .i64 SG]).alloc (.cells #[.int .i64 B0, .int .i64 (SL : Int), .int .i64 (LL : Int)] 87)
      have hB9 := Blk.new (w2.alloc (.cells #[.int .i64 RG, .int .i64 SG] 94)) 87 #[.int .i64 B0, .int .i64 (SL : Int), .int .i64 (LL : Int)]
      have hn3 := ((New.refl w2).alloc (.cells #[.int .i64 RG, .int .i64 SG] 94)).alloc (.cells #[.int .i64 B0, .int .i64 (SL : Int), .int .i64 (LL : Int)] 87)
      rw [World.size_alloc] at hl3 hB9
      have HX := hid (And.intro hR2 (And.intro hq (And.intro hn2 (And.intro hsub' (And.intro hlen (And.intro hcnt2 hsw2))))))
      have HQ := hid (And.intro hLL (And.intro hRG hSG))
      clear hR hl hnt hsub hcnt hsw hp hrun hent he hR2 hg2 hn2 hsub' hlen hcnt2 hl2 hsw2 hq hRG hSG hB0 hSL hLL
      go_wp2_with fail
      obtain ⟨w3, hw3⟩ : ∃ w3, w3 = (w2.alloc (.cells #[.int .i64 RG, .int .i64 SG] 94)).alloc (.cells #[.int .i64 B0, .int .i64 (SL : Int), .int .i64 (LL : Int)] 87) := ⟨_, rfl⟩
      rw [← hw3] at hl3 hB8 hB9 hn3 ⊢
      obtain ⟨K9, hK9⟩ : ∃ K9, K9 = w2.heap.size + 1 := ⟨_, rfl⟩
      rw [← hK9] at hl3 hB9 ⊢
      obtain ⟨K8, hK8⟩ : ∃ K8, K8 = w2.heap.size := ⟨_, rfl⟩
      rw [← hK8] at hl3 hB8 ⊢
      clear hw3 hK9 hK8 hrun' hent'
      obtain ⟨Q0, hQ0⟩ : ∃ Q0, Q0 = stT r s (q.key :: todo'.map Prod.fst) Q := ⟨_, rfl⟩
      rw [← hQ0] at hl3
      obtain ⟨T3, hT3⟩ : ∃ T3 : Nat → Prop, T3 = fun k => (T' k ∨ k = K8) ∨ k = K9 := ⟨_, rfl⟩
      rw [← hT3] at hl3
      have HT3 := hid (show T3 K8 ∧ T3 K9 ∧ ∀ k, T' k → T3 k by rw [hT3]; exact ⟨.inl (.inr rfl), .inr rfl, fun k hk => .inl (.inl hk)⟩)
      have hqm : q ∈ Q0 := by rw [hQ0]; exact stT_mem HX.out.2.1 rfl
      have hQn : (Q0.map Sc.key).Nodup := hl3.nodup
      have H3 := hid (show Lk w0 w3 X b (setS Q0 (looseTo r s q 0)) T3 by rw [looseTo_zero, setS_self hQn hqm]; exact hl3)
      have HB := hid (And.intro hB8 (And.intro hB9 hn3))
      have HQ0 := hid (And.intro hQ0 hqm)
      have HTl := hid (show c + cntS r s q ≤ tot from by have := HX.out.2.2.2.2.2.1; omega)
      have HT4 := hid HN.out.2.2.1
      clear hl3 hB8 hB9 hn3 hQ0 hT3 hqm hQn
      go_loopw [7, 10, 11, 12, 28] (fun n _ _ _ i wx => ∃ k d : Nat, k ≤ LL ∧ i = .int .i64 (k : Int) ∧ n = .int .i64 (d : Int) ∧ d = c + cntTo r s q k ∧ Lk w0 wx X b (setS Q0 (looseTo r s q k)) T3 ∧ Same (fun j => T3 j ∨ j = b) w3 wx) (fun _ _ _ _ i _ => LL - (intOf i).toNat)
      case atStart => exact ⟨0, c, Nat.zero_le _, rfl, rfl, by rw [cnt_zero]; rfl, H3.out, Same.refl _ _⟩
      case round =>
        obtain ⟨k, d, hk, rfl, rfl, hd, hl, hs3⟩ := hrel
        by_cases hkL : k < LL
        · as_aux_lemma => --[[ link
          have w2' : IntKind.i64.wrap ((k : Int) + 1) = k + 1 := by rw [IntKind.wrap_i64]; have := HQ.out.1; have h1 := (HN.out.2.1 q HX.out.2.1).lsl; omega
          obtain ⟨p, hp⟩ : ∃ p, q.ls[k]? = some p := ⟨_, List.getElem?_eq_getElem (by rw [← HQ.out.1]; exact hkL)⟩
          have hb8 := Blk.of_block HB.out.1 (hs3.2 K8 (.inl HT3.out.1))
          have g0 : wr.cell? ⟨K8, 0, none⟩ = some (.int .i64 RG) := hb8.cell 0
          have g1 : wr.cell? ⟨K8, 1, none⟩ = some (.int .i64 SG) := hb8.cell 1
          have hqm2 : looseTo r s q k ∈ setS Q0 (looseTo r s q k) := mem_setS HQ0.out.2 rfl
          have hpk : (looseTo r s q k).ls[k]? = some p := by
            have := loosed_at (r := r) (s := s) hp k
            rw [if_neg (fun h => absurd h.1 (Nat.lt_irrefl _))] at this
            exact this
          have hLk := fun W (hW : New wr W) => LinkQ_ok (hl.new_ hW) hqm2 hpk
          rw [show (((looseTo r s q k).ring : Nat) : Int) = RG from HQ.out.2.1.symm, show (((looseTo r s q k).seg : Nat) : Int) = SG from HQ.out.2.2.symm] at hLk
          have hcn := cnt_next (r := r) (s := s) hp
          have hdt : d ≤ 320000 := by have h1 := cnt_le r s q k; have h2 := HTl.out; have h3 := HT4.out; omega
          have hUn := fun W (hW : New wr W) (h0 : p.2.2.1 = 0) => UnsnapQ_yes (hl.new_ hW) hqm2 hpk h0
          rw [show (((looseTo r s q k).ring : Nat) : Int) = RG from HQ.out.2.1.symm, show (((looseTo r s q k).seg : Nat) : Int) = SG from HQ.out.2.2.symm] at hUn
          have hSu : hitQ r s q p = true → setS (setS Q0 (looseTo r s q k)) (setLs (looseTo r s q k) k (flt (looseTo r s q k) k)) = setS Q0 (looseTo r s q (k + 1)) := fun hh => by
            rw [setS_set (by rfl)]
            congr 1
            show Sc.mk q.ring q.seg q.base q.st ((loosed r s q k).set k (flt q k)) = _
            rw [loosed_next hp hh]; rfl
          have hSm : hitQ r s q p = false → looseTo r s q (k + 1) = looseTo r s q k := fun hh => by
            unfold looseTo; rw [loosed_same hp hh]
          have hit : hitQ r s q p = (decide (RG = r) && (decide ((p.2.2.1 : Int) = 0) && decide ((p.1 : Int) = s))) := by unfold hitQ; rw [HQ.out.2.1]
          obtain ⟨p1, p2, p3, p4⟩ := p
          obtain ⟨P1, hP1⟩ : ∃ P1 : Int, P1 = (p1 : Int) := ⟨_, rfl⟩
          obtain ⟨P3, hP3⟩ : ∃ P3 : Int, P3 = (p3 : Int) := ⟨_, rfl⟩
          unfold pv at hLk
          simp only [← hP1, ← hP3] at hLk hit
          have hUn2 := hid (fun W (hW : New wr W) (h0 : P3 = 0) => hUn W hW (by show p3 = 0; omega))
          have HLk := hid hLk
          have HH := hid (And.intro hit (And.intro hcn (And.intro hSu hSm)))
          have HL := hid (And.intro hl (And.intro hs3 (And.intro hd hb8)))
          have u1 : IntKind.i64.wrap ((d : Int) + 1) = (d : Int) + 1 := by rw [IntKind.wrap_i64]; omega
          have k1' : (k : Int) < (LL : Int) := by omega
          clear hl hs3 hd hb8 hLk hit hcn hSu hSm hUn hP1 hP3 hp hqm2 hpk hdt
          go_wp2_with fail
          refine (HLk.out _ (New.refl wr)).mono ?_
          rintro x w4 ⟨rfl, n4⟩
          have g0' : w4.cell? ⟨K8, 0, none⟩ = some (.int .i64 RG) := n4.cellK g0
          have g1' : w4.cell? ⟨K8, 1, none⟩ = some (.int .i64 SG) := n4.cellK g1
          have HN4 := hid (n4.alloc (.cells #[.int .i64 P1, .int .i64 (p2 : Int), .int .i64 P3, .int .i64 (p4 : Int)] 43))
          have fa0 := fun ob => ((New.refl w4).alloc ob).cellK g0'
          have fa1 := fun ob => ((New.refl w4).alloc ob).cellK g1'
          clear n4 g0 g1
          have HMiss : Hid (hitQ r s q (p1, p2, p3, p4) = false → ∀ W, New wr W → d = c + cntTo r s q (k + 1) ∧ Lk w0 W X b (setS Q0 (looseTo r s q (k + 1))) T3 ∧ Same (fun j => T3 j ∨ j = b) w3 W) := fun hh W hW => by
            refine ⟨by rw [HH.out.2.1, hh]; simpa using HL.out.2.2.1, by rw [HH.out.2.2.2 hh]; exact HL.out.1.new_ hW, Same.trans HL.out.2.1 (Same.ofNew hW (fun j hj => hj.elim HL.out.1.ltT (fun e => e ▸ HL.out.1.mapB)))⟩
          cases h1 : (RG == r) with
          | false =>
            have hh := hid (show hitQ r s q (p1, p2, p3, p4) = false by rw [HH.out.1, decide_eq_false (beq_eq_false_iff_ne.1 h1)]; rfl)
            go_wp2_with fail
            exact ⟨⟨k + 1, d, by omega, by go_num, rfl, HMiss hh.out _ HN4.out⟩, by simp [intOf]; omega⟩
          | true =>
            cases h3 : (P3 == 0) with
            | false =>
              have hh := hid (show hitQ r s q (p1, p2, p3, p4) = false by rw [HH.out.1, decide_eq_false (beq_eq_false_iff_ne.1 h3)]; simp)
              go_wp2_with fail
              exact ⟨⟨k + 1, d, by omega, by go_num, rfl, HMiss hh.out _ HN4.out⟩, by simp [intOf]; omega⟩
            | true =>
              cases h5 : (P1 == s) with
              | false =>
                have hh := hid (show hitQ r s q (p1, p2, p3, p4) = false by rw [HH.out.1, decide_eq_false (beq_eq_false_iff_ne.1 h5)]; simp)
                go_wp2_with fail
                exact ⟨⟨k + 1, d, by omega, by go_num, rfl, HMiss hh.out _ HN4.out⟩, by simp [intOf]; omega⟩
              | true =>
                have hh := hid (show hitQ r s q (p1, p2, p3, p4) = true by rw [HH.out.1, decide_eq_true (beq_iff_eq.1 h1), decide_eq_true (beq_iff_eq.1 h3), decide_eq_true (beq_iff_eq.1 h5)]; rfl)
                have HU := hid (hUn2.out _ HN4.out (beq_iff_eq.1 h3))
                go_wp2_with fail
                refine HU.out.mono ?_
                rintro x w6 ⟨rfl, h6, s6⟩
                rw [HH.out.2.2.1 hh.out] at h6
                have H6 := hid (And.intro h6 (Same.trans (Same.trans HL.out.2.1 (Same.ofNew HN4.out (fun j hj => hj.elim HL.out.1.ltT (fun e => e ▸ HL.out.1.mapB)))) s6))
                clear h6 s6
                go_wp2_with fail
                exact ⟨⟨k + 1, d + 1, by omega, by go_num, by go_num, by rw [HH.out.2.1, hh.out]; have := HL.out.2.2.1; simp; omega, H6.out.1, H6.out.2⟩, by simp [intOf]; omega⟩
          --]] link
        · as_aux_lemma => --[[ next
          have hke : k = LL := by omega
          subst hke
          have hlt : ¬ (k : Int) < (k : Int) := by omega
          have hR3 : RangeAt ek ev wr b R (Q.map Sc.sec) todo' := (HX.out.1.new_ HB.out.2.2).of_blocks (hs3.2 b (.inr rfl)) (hs3.2 R (.inl (HT3.out.2.2 R HT.out.1)))
          have hLk : Lk w0 wr X b (stT r s (todo'.map Prod.fst) Q) T' := by
            have h1 := hl.less (T' := T') HT3.out.2.2
            rw [HQ0.out.1, HQ.out.1] at h1
            have h2 := stT_step (r := r) (s := s) (ks := todo'.map Prod.fst) HN.out.1 HX.out.2.1 rfl HX.out.2.2.1.1
            unfold looseS at h2
            rw [h2] at h1
            exact h1
          have hd2 : d + (todo'.map (cntK r s Q)).sum = tot := by
            have h1 := HX.out.2.2.2.2.2.1
            rw [hd, HQ.out.1, cnt_all]; omega
          have hS : Same T w wr := Same.trans HX.out.2.2.2.2.2.2 (Same.trans (Same.ofNew HB.out.2.2 (fun j hj => Nat.lt_of_lt_of_le (HTw j hj) HX.out.2.2.2.2.2.2.1)) (Same.less hs3 (fun j hj => .inl (HT3.out.2.2 j (HT.out.2 j hj)))))
          have hms : wr.rangeLeft b R = todo'.length := left_eq hR3
          have HY := hid (And.intro hR3 (And.intro hLk (And.intro hd2 (And.intro hS hms))))
          clear hl hs3 hd hR3 hLk hd2 hS hms
          go_wp2_with fail
          exact ⟨⟨todo', d, rfl, HY.out.1, HY.out.2.1, HX.out.2.2.1.2, HX.out.2.2.2.1, HY.out.2.2.1, HY.out.2.2.2.1⟩, by rw [HY.out.2.2.2.2]; exact HX.out.2.2.2.2.1⟩
          --]] next
end Go.Proofs.Yteakbhfegbghoaa.Link
