/- Package linkage: Open: a section made. -/
import Derived.Test.YteakbhfegbghoaaLinkO
import Derived.Deep.CutRange
namespace Go.Proofs.Yteakbhfegbghoaa.Link
open Go Go.RowKit Go.ChangeMaps Go.Proofs.Yteakbhfegbghoaa.Kit Go.Proofs.Yteakbhfegbghoaa.Area Go.Proofs.Yteakbhfegbghoaa.Wd
open Go.Proofs.Yteakbhfegbghoaa.Obj (Ob ObAt Lens uw ul mayO_any)
open Go.Proofs.Yteakbhfegbghoaa.Letters (wv)
open Go.Proofs.Yteakbhfegbghoaa.Point (packN mayB)
set_option linter.unusedSimpArgs false
set_option linter.unusedVariables false
/-- The first k words are written. -/
def part (F : List Int) (k : Nat) : List Int := F.take k ++ List.replicate (F.length - k) 0
theorem part_zero (F : List Int) : part F 0 = List.replicate F.length 0 := by simp [part]
theorem part_all (F : List Int) : part F F.length = F := by simp [part]
theorem part_len (F : List Int) {k : Nat} (hk : k ≤ F.length) : (part F k).length = F.length := by simp [part]; omega
theorem part_next {F : List Int} {k : Nat} {x : Int} (h : F[k]? = some x) : (part F k).set k x = part F (k + 1) := by
  obtain ⟨hk, hx⟩ := List.getElem?_eq_some_iff.1 h
  unfold part
  rw [show F.length - k = (F.length - (k + 1)) + 1 by omega, List.replicate_succ, List.set_append_right _ _ (by rw [List.length_take]; omega), List.length_take, Nat.min_eq_left (by omega), Nat.sub_self, List.set_cons_zero, List.take_add_one, h]
  simp
/-- A word of the room in the middle. -/
theorem writeM_mid {pre post : Ms} {B k : Nat} {L : List Int} {x : Int} (hg : Area.Good 256 (pre ++ (B, L) :: post)) (hk : k < L.length) : writeM (pre ++ (B, L) :: post) (B : Int) (k : Int) x = pre ++ (B, L.set k x) :: post := by
  have hn := hg.base
  rw [List.map_append, List.map_cons, List.nodup_append] at hn
  obtain ⟨h1, h2, h3⟩ := hn
  rw [List.nodup_cons] at h2
  unfold writeM
  rw [List.map_append, List.map_cons]
  have hin : inM (B, L) (k : Int) = true := by unfold inM; exact decide_eq_true ⟨by omega, by show (k : Int) < (L.length : Int); omega⟩
  rw [if_pos ⟨rfl, hin⟩, Int.toNat_natCast]
  congr 1
  · refine (List.map_congr_left fun r hr => ?_).trans (List.map_id _)
    rw [if_neg]; · rfl
    rintro ⟨e, _⟩
    have e2 : r.1 = B := by omega
    exact h3 r.1 (List.mem_map.2 ⟨r, hr, rfl⟩) B List.mem_cons_self e2
  · congr 1
    refine (List.map_congr_left fun r hr => ?_).trans (List.map_id _)
    rw [if_neg]; · rfl
    rintro ⟨e, _⟩
    have e2 : r.1 = B := by omega
    exact h2.1 (List.mem_map.2 ⟨r, hr, e2⟩)
theorem cut_nat {x : Nat} (h : x < 68719476736) : cutW (x : Int) = (x : Int) := by
  unfold cutW
  rw [and_mask (by omega) (by omega)]; omega
section
variable {w0 w w' : World} {X b : Nat} {A : Nat → Nat} {ms : Nat → Ms} {M M' : List (Key × Sec)} {T : Nat → Prop}
theorem upd_upd {α : Type} (f : Nat → α) (r : Nat) (x y : α) : upd (upd f r x) r y = upd f r y := by
  funext s
  unfold upd
  by_cases e : s = r <;> simp [e]
/-- One more word of the new room. -/
theorem put_part {pre post : Ms} {B k x : Nat} {F : List Int} {r : Nat} (h : LkO w0 w X b A (upd ms r (pre ++ (B, part F k) :: post)) M T) (hr : r < 8) (hF : F[k]? = some (x : Int)) (hx : x < 68719476736) :
    Calls Try.prog 34 #[ptr X, .int .i64 (r : Int), .int .i64 (B : Int), .int .i64 (k : Int), .int .u64 (x : Int)] w fun e w' => e = .returned (.tuple #[]) ∧ LkO w0 w' X b A (upd ms r (pre ++ (B, part F (k + 1)) :: post)) M T ∧ Same (fun k => T k ∨ k = b) w w' := by
  have hg := h.good hr
  have hp := put_any h hr (B : Int) (k : Int) (x : Int)
  rw [upd_same] at hg hp
  have hk : k < F.length := (List.getElem?_eq_some_iff.1 hF).1
  rw [writeM_mid hg (by rw [part_len F (by omega)]; exact hk), cut_nat hx, part_next hF, upd_upd] at hp
  exact hp
/-- The words of a new section. -/
def faults (r s n : Nat) : List P4 := (List.range n).map fun i => (s, r, 1, i)
theorem faults_len (r s n : Nat) : (faults r s n).length = n := by simp [faults]
theorem faults_at {r s n i : Nat} (h : i < n) : (faults r s n)[i]? = some (s, r, 1, i) := by simp [faults, h]
theorem may_fault {r s i : Nat} (hr : r < 8) (hs : s ≤ 63) (hi : i ≤ 32) : mayB s r (1 : Nat) i = true := by
  rw [Point.mayB_iff]
  omega
def newSc (r s B : Nat) (O : Ob) : Sc := ⟨r, s, B, O.static, faults r s O.links.length⟩
theorem newSc_size (r s B : Nat) (O : Ob) : (newSc r s B O).size = 1 + O.static.length + O.links.length := by
  unfold newSc Sc.size
  simp only [faults_len]
theorem Keeps.own {G : Nat} (hG : T G) (i : Nat) (v : Value) : Keeps T w (w.setCell ⟨G, i, none⟩ v) := Keeps.setCell (Keeps.refl _ _) (.inr hG) v
set_option maxRecDepth 100000 in
set_option maxHeartbeats 4000000 in
theorem OpenM_full (h : LkO w0 w X b A ms M T) {r s : Nat} (hr : r < 8) (hs0 : 1 ≤ s) (hs : s ≤ 63) (hk : okK ((r : Int), (s : Int))) (va vb vc vd : Value) (O : Ob) (hO : ObAt w (.agg #[va, vb, vc, vd]) O) (hL : Lens O) (hm : Obj.mayB O = true) (hg : get? M ((r : Int), (s : Int)) = none)
    (hSN : O.static.length ≤ 64) (hLN : O.links.length ≤ 32) {e : Int} (he : takeE 256 (ms r) ((1 + O.static.length + O.links.length : Nat) : Int) = e) (he0 : ¬ e = 0) :
    Calls Try.prog 10 #[ptr X, .int .i64 (r : Int), .int .i64 (s : Int), .agg #[va, vb, vc, vd]] w fun x w' => x = .returned (.tuple #[.int .i64 0, .int .i64 e]) ∧ LkO w0 w' X b A ms M T ∧ Same T w w' := by
  have c1 : ¬ (r : Int) < 0 := by omega
  have c2 : ¬ (8 : Int) ≤ (r : Int) := by omega
  have c3 : ¬ (s : Int) < 1 := by omega
  have c4 : ¬ (63 : Int) < (s : Int) := by omega
  have i0 : (0 : Int) ≤ (r : Int) := by omega
  have i1 : (r : Int) < 8 := by omega
  obtain ⟨bA, bC, hvb, _, _, _⟩ := ob_static hO
  obtain ⟨dA, dC, hvd, _, _, _⟩ := ob_links hO
  subst hvb hvd
  obtain ⟨SN, hSN'⟩ : ∃ n, n = O.static.length := ⟨_, rfl⟩
  obtain ⟨LN, hLN'⟩ : ∃ n, n = O.links.length := ⟨_, rfl⟩
  rw [← hSN', ← hLN'] at hO ⊢
  have H := hid (fun W (hW : New w W) => get_none (h.new_ hW) (r : Int) (s : Int) hk hg)
  have HM := hid (fun W (hW : New w W) => by have := mayO_any W _ O (hO.new_ hW) hL; rw [hm] at this; exact this)
  obtain ⟨n, hn'⟩ : ∃ n, n = 1 + SN + LN := ⟨_, rfl⟩
  obtain ⟨m, hm'⟩ : ∃ n, n = 1 + SN := ⟨_, rfl⟩
  rw [← hSN'] at hSN
  rw [← hLN'] at hLN
  rw [← hSN', ← hLN', ← hn'] at he
  have w1' : IntKind.i64.wrap (1 + (SN : Int)) = (m : Int) := by rw [IntKind.wrap_i64]; omega
  have w2' : IntKind.i64.wrap ((m : Int) + (LN : Int)) = (n : Int) := by rw [IntKind.wrap_i64]; omega
  have HL := hid h
  have HE := hid he
  have he0b : (e != 0) = true := by simp [he0]
  clear h hk hg hO hL hm he hSN' hLN' hn' hm'
  go_enter Try.func10, Try.ntmps10
  go_wp2_with fail
  refine (H.out _ (by (repeat (first | exact New.refl _ | (refine New.step ?_ (by assumption)) | apply New.alloc | apply New.drewN | apply New.drew)))).mono ?_
  rintro x w1 ⟨rfl, hn⟩
  have hb1 := (Blk.new w 29 _).new_ hn
  have hn1 := hid (New.step ((New.refl w).alloc _) hn)
  have hz : w.heap.size < w1.heap.size := hb1.lt
  have hc := fun i => hb1.cell i
  have HB1 := hid hb1
  clear hn hb1
  go_wp2_with fail
  refine (HM.out _ (hn1.out.alloc _)).mono ?_
  rintro x w2 ⟨rfl, n2⟩
  have hb2 := (HB1.out.alloc _).new_ n2
  have hn2 := hid ((hn1.out.alloc _).step n2)
  have hc2 := fun i => hb2.cell i
  clear n2 hb2 hc hz
  go_wp2_with fail
  have hl3 := ((HL.out.new_ hn2.out)).box (.cells #[.int .i64 0, .int .i64 (SN : Int), .int .i64 (LN : Int)] 87)
  have hB3 := Blk.new w2 87 #[.int .i64 0, .int .i64 (SN : Int), .int .i64 (LN : Int)]
  have hn3 := hn2.out.alloc (.cells #[.int .i64 0, .int .i64 (SN : Int), .int .i64 (LN : Int)] 87)
  obtain ⟨w3, hw3⟩ : ∃ w3, w3 = w2.alloc (.cells #[.int .i64 0, .int .i64 (SN : Int), .int .i64 (LN : Int)] 87) := ⟨_, rfl⟩
  obtain ⟨G, hG⟩ : ∃ G, G = w2.heap.size := ⟨_, rfl⟩
  rw [← hw3, ← hG] at hl3 hB3 ⊢
  rw [← hw3] at hn3
  have hW3 := hid (takeL (hl3.new_ (New.refl w3).drew) hr (n : Int))
  have cA : w3.cell? ⟨X, r, none⟩ = some (ptr (A r)) := hl3.cellA hr
  have cB : w3.cell? ⟨G, 1, none⟩ = some (.int .i64 (SN : Int)) := hB3.cell 1
  have cC : w3.cell? ⟨G, 2, none⟩ = some (.int .i64 (LN : Int)) := hB3.cell 2
  have HB3 := hid hB3
  have HN3 := hid hn3
  clear hl3 hB3 hn3 hw3 hG hc2
  unfold takeM takeB at hW3
  rw [HE.out, if_neg he0, if_neg he0, upd_self] at hW3
  go_region_held3 (fun w' => w'.cell? ⟨X, r, none⟩ = some (ptr (A r)) ∧ w'.cell? ⟨G, 1, none⟩ = some (.int .i64 (SN : Int)) ∧ w'.cell? ⟨G, 2, none⟩ = some (.int .i64 (LN : Int))) (first | exact ⟨cA, cB, cC⟩ | exact hS5) (first | (go_at_call 33; (with_reducible refine hW3.out.mono ?_); rintro e w5 ⟨rfl, h5, s5⟩; have hB5 := Blk.of_block HB3.out (s5.2 G (.inl (.inr rfl))); have hS5 := And.intro (h5.cellA hr) (And.intro (Blk.cell hB5 1) (Blk.cell hB5 2))))
  have H5 := hid (And.intro h5 s5)
  clear h5 s5 hB5 hS5 cA cB cC
  go_wp2
  go_ret2
  exact ⟨rfl, H5.out.1.less (fun k hk => .inl hk), Same.less (HL.out.after HN3.out.drew H5.out.2 (fun k hk => hk.elim (fun h => .inl (.inl h)) .inr)) (fun k hk => .inl hk)⟩
theorem LkO.grewMap (h : LkO w0 w X b A ms M T) (hm : MapOf ek ev w' b M') (hg : w.grownBy w' (some b)) (hk : ∀ p ∈ M', okK p.1) : LkO w0 w' X b A ms M' T ∧ Same T w w' := by
  obtain ⟨S, h1, h2, h3, h4⟩ := h
  have hkp : Keeps (fun k => k = b) w w' := Keeps.grown (Keeps.refl _ _) hg (fun k hk => by cases hk; exact .inr rfl)
  refine ⟨⟨S, ⟨h1.blk.keeps hkp h1.ne, hm, fun r hr => (h1.area r hr).keeps hkp (fun k hs e => (h1.out r hr).2 (e ▸ hs)), h1.apart, h1.out, hk⟩, h2.kept hkp (fun k e => h3 k (.inr (.inl e))), h3, fun k hk => ⟨(h4 k hk).1, Nat.lt_of_lt_of_le (h4 k hk).2.1 hkp.size, (h4 k hk).2.2⟩⟩, hkp.size, fun k hk => hkp.block k (h4 k hk).2.1 (fun e => (h4 k hk).1 (.inr (.inl e)))⟩
set_option maxRecDepth 100000 in
set_option maxHeartbeats 4000000 in
theorem OpenM_ok (h : LkO w0 w X b A ms M T) {r s : Nat} (hr : r < 8) (hs0 : 1 ≤ s) (hs : s ≤ 63) (hk : okK ((r : Int), (s : Int))) (va vb vc vd : Value) (O : Ob) (hO : ∀ W, New w0 W → Same T w W → ObAt W (.agg #[va, vb, vc, vd]) O) (hL : Lens O) (hm : Obj.mayB O = true) (hg : get? M ((r : Int), (s : Int)) = none)
    (hSN : O.static.length ≤ 64) (hLN : O.links.length ≤ 32) (hst : ∀ x ∈ O.static, x < 68719476736) {B : Nat} {pre post : Ms} (he : takeE 256 (ms r) ((1 + O.static.length + O.links.length : Nat) : Int) = 0) (hB : takeB 256 (ms r) ((1 + O.static.length + O.links.length : Nat) : Int) = (B : Int))
    (hM : takeM 256 (ms r) ((1 + O.static.length + O.links.length : Nat) : Int) = pre ++ (B, part (newSc r s B O).words 0) :: post) :
    Calls Try.prog 10 #[ptr X, .int .i64 (r : Int), .int .i64 (s : Int), .agg #[va, vb, vc, vd]] w fun x w' => x = .returned (.tuple #[.int .i64 (B : Int), .int .i64 0]) ∧ LkO w0 w' X b A (upd ms r (pre ++ (B, (newSc r s B O).words) :: post)) (put M ((r : Int), (s : Int)) (B, O.static.length, O.links.length)) T ∧ Same T w w' := by
  have c1 : ¬ (r : Int) < 0 := by omega
  have c2 : ¬ (8 : Int) ≤ (r : Int) := by omega
  have c3 : ¬ (s : Int) < 1 := by omega
  have c4 : ¬ (63 : Int) < (s : Int) := by omega
  have i0 : (0 : Int) ≤ (r : Int) := by omega
  have i1 : (r : Int) < 8 := by omega
  have u1 : IntKind.u64.wrap (s : Int) = (s : Int) := by rw [IntKind.wrap_u64]; omega
  have hOw := hO w h.new (Same.refl _ _)
  obtain ⟨bA, bC, hvb, _, _, _⟩ := ob_static hOw
  obtain ⟨dA, dC, hvd, _, _, _⟩ := ob_links hOw
  subst hvb hvd
  obtain ⟨F, hF⟩ : ∃ F, F = (newSc r s B O).words := ⟨_, rfl⟩
  have hFl : F.length = 1 + O.static.length + O.links.length := by rw [hF, Sc.words_len, newSc_size]
  have hF0 : F[0]? = some (s : Int) := by rw [hF]; simp [Sc.words, newSc]
  have hF1 : ∀ (k x : Nat), O.static[k]? = some x → F[1 + k]? = some (x : Int) := fun k x hx => by rw [hF]; exact words_st (q := newSc r s B O) hx
  have hF2 : ∀ (k : Nat), k < O.links.length → F[1 + O.static.length + k]? = some ((packN s r 1 k : Nat) : Int) := fun k hx => by
    have h := words_ls (q := newSc r s B O) (faults_at (r := r) (s := s) hx)
    rw [← hF] at h
    exact h
  rw [← hF] at hM ⊢
  clear hF
  obtain ⟨SN, hSN'⟩ : ∃ n, n = O.static.length := ⟨_, rfl⟩
  obtain ⟨LN, hLN'⟩ : ∃ n, n = O.links.length := ⟨_, rfl⟩
  rw [← hSN', ← hLN'] at hO hOw he hB hM hFl hF2 ⊢
  rw [← hSN'] at hSN
  rw [← hLN'] at hLN
  have H := hid (fun W (hW : New w W) => get_none (h.new_ hW) (r : Int) (s : Int) hk hg)
  have HM := hid (fun W (hW : New w W) => by have := mayO_any W _ O (hOw.new_ hW) hL; rw [hm] at this; exact this)
  obtain ⟨n, hn'⟩ : ∃ n, n = 1 + SN + LN := ⟨_, rfl⟩
  obtain ⟨m, hm'⟩ : ∃ n, n = 1 + SN := ⟨_, rfl⟩
  rw [← hn'] at he hB hM hFl
  have w1' : IntKind.i64.wrap (1 + (SN : Int)) = (m : Int) := by rw [IntKind.wrap_i64]; omega
  have w2' : IntKind.i64.wrap ((m : Int) + (LN : Int)) = (n : Int) := by rw [IntKind.wrap_i64]; omega
  have HL := hid h
  have HE := hid (And.intro he (And.intro hB hM))
  have HK := hid hk
  have HO := hid hO
  have HF := hid (And.intro hFl (And.intro hF0 (And.intro hF1 hF2)))
  have HSL := hid (And.intro hSN' (And.intro hLN' (And.intro hn' hm')))
  have Hst := hid hst
  clear h hk hg hO hOw hL hm he hSN' hLN' hn' hm' hB hM hFl hF0 hF1 hF2 hst
  go_enter Try.func10, Try.ntmps10
  go_wp2_with fail
  refine (H.out _ (by (repeat (first | exact New.refl _ | (refine New.step ?_ (by assumption)) | apply New.alloc | apply New.drewN | apply New.drew)))).mono ?_
  rintro x w1 ⟨rfl, hn⟩
  have hb1 := (Blk.new w 29 _).new_ hn
  have hn1 := hid (New.step ((New.refl w).alloc _) hn)
  have hl1 := hid ((HL.out.box _).new_ hn)
  obtain ⟨G7, hG7⟩ : ∃ G7, G7 = w.heap.size := ⟨_, rfl⟩
  rw [← hG7] at hb1 hl1 ⊢
  have hz : G7 < w1.heap.size := hb1.lt
  have hc := fun i => hb1.cell i
  have HB1 := hid hb1
  have HG7 := hid hG7
  clear hn hb1 hG7
  go_wp2_with fail
  refine (HM.out _ (hn1.out.alloc _)).mono ?_
  rintro x w2 ⟨rfl, n2⟩
  have hb2 := (HB1.out.alloc _).new_ n2
  have hn2 := hid ((hn1.out.alloc _).step n2)
  have hl2 := hid ((hl1.out.new_ ((New.refl w1).alloc _)).new_ n2)
  have hc2 := fun i => hb2.cell i
  have HB2 := hid hb2
  clear n2 hb2 hc hz
  go_wp2_with fail
  have hl3 := hl2.out.box (.cells #[.int .i64 0, .int .i64 (SN : Int), .int .i64 (LN : Int)] 87)
  have hB3 := Blk.new w2 87 #[.int .i64 0, .int .i64 (SN : Int), .int .i64 (LN : Int)]
  have hb3 := HB2.out.alloc (.cells #[.int .i64 0, .int .i64 (SN : Int), .int .i64 (LN : Int)] 87)
  have hn3 := hn2.out.alloc (.cells #[.int .i64 0, .int .i64 (SN : Int), .int .i64 (LN : Int)] 87)
  obtain ⟨w3, hw3⟩ : ∃ w3, w3 = w2.alloc (.cells #[.int .i64 0, .int .i64 (SN : Int), .int .i64 (LN : Int)] 87) := ⟨_, rfl⟩
  obtain ⟨G, hG⟩ : ∃ G, G = w2.heap.size := ⟨_, rfl⟩
  rw [← hw3, ← hG] at hl3 hB3 ⊢
  rw [← hw3] at hn3 hb3
  obtain ⟨T', hT'⟩ : ∃ T' : Nat → Prop, T' = fun k => (T k ∨ k = G7) ∨ k = G := ⟨_, rfl⟩
  rw [← hT'] at hl3
  have tG7 : T' G7 := by rw [hT']; exact .inl (.inr rfl)
  have tG : T' G := by rw [hT']; exact .inr rfl
  have tT : ∀ k, T k → T' k := by rw [hT']; exact fun k hk => .inl (.inl hk)
  have hGG : Hid (G7 ≠ G) := by have h1 := HB2.out.lt; show ¬ G7 = G; omega
  have hGw : Hid (¬ T G) := fun ht => by have h1 := HL.out.ltT ht; have h2 := hn2.out.size; omega
  have hW3 := hid (takeL (hl3.new_ (New.refl w3).drew) hr (n : Int))
  have cA : w3.cell? ⟨X, r, none⟩ = some (ptr (A r)) := hl3.cellA hr
  have cB : w3.cell? ⟨G, 1, none⟩ = some (.int .i64 (SN : Int)) := hB3.cell 1
  have cC : w3.cell? ⟨G, 2, none⟩ = some (.int .i64 (LN : Int)) := hB3.cell 2
  have HB3 := hid (And.intro hB3 hb3)
  have HN3 := hid hn3
  have HT := hid (And.intro tG7 (And.intro tG tT))
  clear hl3 hB3 hn3 hb3 hw3 hG hc2 hT' tG7 tG tT
  rw [HE.out.1, HE.out.2.1, HE.out.2.2] at hW3
  go_region_held3 (fun w' => w'.cell? ⟨X, r, none⟩ = some (ptr (A r)) ∧ w'.cell? ⟨G, 1, none⟩ = some (.int .i64 (SN : Int)) ∧ w'.cell? ⟨G, 2, none⟩ = some (.int .i64 (LN : Int))) (first | exact ⟨cA, cB, cC⟩ | exact hS5) (first | (go_at_call 33; (with_reducible refine hW3.out.mono ?_); rintro e w5 ⟨rfl, h5, s5⟩; have hB5 := Blk.of_block HB3.out.1 (s5.2 G (.inl HT.out.2.1)); have hS5 := And.intro (h5.cellA hr) (And.intro (Blk.cell hB5 1) (Blk.cell hB5 2))))
  have hf5 : w5.frozen? ⟨G, 0, none⟩ = false := hB5.frozen 0
  have hG5 : G < w5.heap.size := hB5.lt
  have hc5 : w5.cell? ⟨G, 0, none⟩ = some (.int .i64 0) := hB5.cell 0
  have hb5 := Blk.of_block HB3.out.2 (s5.2 G7 (.inl HT.out.1))
  have hl6 := h5.kept (Keeps.own (T := T') (w := w5) (G := G) HT.out.2.1 0 (.int .i64 (B : Int))) (T' := T') (fun k hk => ⟨.inl hk, by rw [size_setCell]; exact h5.ltT hk⟩)
  have hB6 : Blk (w5.setCell ⟨G, 0, none⟩ (.int .i64 (B : Int))) G 87 #[.int .i64 (B : Int), .int .i64 (SN : Int), .int .i64 (LN : Int)] := hB5.set 0 (.int .i64 (B : Int))
  have hb6 := hb5.far (p := ⟨G, 0, none⟩) hGG (.int .i64 (B : Int))
  have hs6 : Same T w (w5.setCell ⟨G, 0, none⟩ (.int .i64 (B : Int))) := by
    refine Same.trans (Same.trans (Same.ofNew HN3.out.drew (fun k hk => HL.out.ltT hk)) (Same.less s5 (fun k hk => .inl (HT.out.2.2 k hk)))) ⟨by rw [size_setCell]; exact Nat.le_refl _, fun k hk => ?_⟩
    exact Below.heap_setCell w5 ⟨G, 0, none⟩ _ k (fun e => hGw (by have e' : k = G := e; rw [← e']; exact hk))
  have H6 := hid (And.intro hl6 (And.intro hB6 (And.intro hb6 hs6)))
  clear hl6 hB6 hb6 hs6 h5 s5 hb5 hS5 hB5 cA cB cC
  go_wp2_with fail
  obtain ⟨w6, hw6⟩ : ∃ w6, w6 = w5.setCell ⟨G, 0, none⟩ (.int .i64 (B : Int)) := ⟨_, rfl⟩
  rw [← hw6] at H6 ⊢
  clear hw6 hf5 hG5 hc5
  have hp0 := hid (put_part (k := 0) (x := s) H6.out.1 hr HF.out.2.1 (by omega))
  refine hp0.out.mono ?_
  rintro e w7 ⟨rfl, h7, s7⟩
  have H7 := hid (show LkO w0 w7 X b A (upd ms r (pre ++ (B, part F (1 + 0)) :: post)) M T' ∧ Same T w w7 ∧ Blk w7 G 87 #[.int .i64 (B : Int), .int .i64 (SN : Int), .int .i64 (LN : Int)] ∧ Blk w7 G7 29 #[va, .slice bA SN bC, vc, .slice dA LN dC] from
    ⟨h7, Same.trans H6.out.2.2.2 (Same.less s7 (fun k hk => .inl (HT.out.2.2 k hk))), Blk.of_block H6.out.2.1 (s7.2 G (.inl HT.out.2.1)), Blk.of_block H6.out.2.2.1 (s7.2 G7 (.inl HT.out.1))⟩)
  have d1 : w7.cell? ⟨G7, 1, none⟩ = some (.slice bA SN bC) := H7.out.2.2.2.cell 1
  clear h7 s7
  go_wp2_with fail
  go_loopw [15, 16, 86] (fun _ _ i wx => ∃ k : Nat, k ≤ SN ∧ i = .int .i64 (k : Int) ∧ LkO w0 wx X b A (upd ms r (pre ++ (B, part F (1 + k)) :: post)) M T' ∧ Same T w wx ∧ Blk wx G 87 #[.int .i64 (B : Int), .int .i64 (SN : Int), .int .i64 (LN : Int)] ∧ Blk wx G7 29 #[va, .slice bA SN bC, vc, .slice dA LN dC]) (fun _ _ i _ => SN - (intOf i).toNat)
  case atStart => exact ⟨0, Nat.zero_le _, rfl, H7.out⟩
  case round =>
    obtain ⟨k, hk, rfl, hl, hsw, hBG, hb7⟩ := hrel
    by_cases hkS : k < SN
    · as_aux_lemma => --[[ stat
      have hO := HO.out wr hl.new hsw
      have hls := ob_static hO
      obtain ⟨g, o, x, hgx, hx, _, hcell⟩ := hls.get hkS
      subst hgx
      have c1 : wr.cell? ⟨g, o + k, none⟩ = some (.int .u64 (x : Int)) := by have := hcell 0 _ rfl; simpa using this
      have j0 : (0 : Int) ≤ (k : Int) := by omega
      have j1 : (k : Int) < (SN : Int) := by omega
      obtain ⟨p, hp⟩ : ∃ p, p = 1 + k := ⟨_, rfl⟩
      have w3' : IntKind.i64.wrap (1 + (k : Int)) = (p : Int) := by rw [IntKind.wrap_i64]; omega
      have w4' : IntKind.i64.wrap ((k : Int) + 1) = (k : Int) + 1 := by rw [IntKind.wrap_i64]; omega
      rw [← hp] at hl
      have hpp := hid (put_part hl hr (by rw [hp]; exact HF.out.2.2.1 k x hx) (Hst.out x (List.mem_of_getElem? hx)))
      have HX := hid (And.intro hsw (And.intro hBG (And.intro hb7 hp)))
      clear hO hls hcell hx hl hsw hBG hb7 hp
      go_wp2_with fail
      refine hpp.out.mono ?_
      rintro e w8 ⟨rfl, h8, s8⟩
      have H8 := hid (show LkO w0 w8 X b A (upd ms r (pre ++ (B, part F (1 + (k + 1))) :: post)) M T' ∧ Same T w w8 ∧ Blk w8 G 87 #[.int .i64 (B : Int), .int .i64 (SN : Int), .int .i64 (LN : Int)] ∧ Blk w8 G7 29 #[va, .slice (some ⟨g, o, none⟩) SN bC, vc, .slice dA LN dC] from
        ⟨by rw [← Nat.add_assoc, ← HX.out.2.2.2]; exact h8, Same.trans HX.out.1 (Same.less s8 (fun k hk => .inl (HT.out.2.2 k hk))), Blk.of_block HX.out.2.1 (s8.2 G (.inl HT.out.2.1)), Blk.of_block HX.out.2.2.1 (s8.2 G7 (.inl HT.out.1))⟩)
      clear h8 s8
      go_wp2_with fail
      exact ⟨⟨k + 1, by omega, by go_num, H8.out⟩, by simp [intOf]; omega⟩
      --]] stat
    · have hke : k = SN := by omega
      subst hke
      have hlt : ¬ (k : Int) < (k : Int) := by omega
      have d3 : wr.cell? ⟨G7, 3, none⟩ = some (.slice dA LN dC) := hb7.cell 3
      have HX := hid (And.intro hl (And.intro hsw (And.intro hBG hb7)))
      clear hl hsw hBG hb7 d1
      obtain ⟨wo, hwo⟩ : ∃ wo, wo = wr := ⟨_, rfl⟩
      subst hwo
      go_wp2_with fail
      go_loopw [17, 102] (fun _ i wx => ∃ p : Nat, p ≤ LN ∧ i = .int .i64 (p : Int) ∧ LkO w0 wx X b A (upd ms r (pre ++ (B, part F (1 + k + p)) :: post)) M T' ∧ Same T w wx ∧ Blk wx G 87 #[.int .i64 (B : Int), .int .i64 (k : Int), .int .i64 (LN : Int)]) (fun _ i _ => LN - (intOf i).toNat)
      case atStart => exact ⟨0, Nat.zero_le _, rfl, HX.out.1, HX.out.2.1, HX.out.2.2.1⟩
      case round =>
        obtain ⟨p, hp, rfl, hl, hsw, hBG⟩ := hrel
        by_cases hpL : p < LN
        · as_aux_lemma => --[[ fault
          obtain ⟨z, hz⟩ : ∃ z, z = 1 + k + p := ⟨_, rfl⟩
          have hm1 := HSL.out.2.2.2
          have w3' : IntKind.i64.wrap ((m : Int) + (p : Int)) = (z : Int) := by rw [IntKind.wrap_i64]; omega
          have w4' : IntKind.i64.wrap ((p : Int) + 1) = (p : Int) + 1 := by rw [IntKind.wrap_i64]; omega
          have hFz := HF.out.2.2.2 p hpL
          rw [← hz] at hl hFz
          have hfm := may_fault hr hs (show p ≤ 32 by omega)
          have hfa := hid (fun W => fault_any r s p hfm W)
          have hpp := hid (fun W (hW : New wr W) => put_part (hl.new_ hW) hr hFz (pack_lt hfm))
          have cB : wr.cell? ⟨G, 1, none⟩ = some (.int .i64 (k : Int)) := hBG.cell 1
          have HY := hid (And.intro hl (And.intro hsw (And.intro hBG hz)))
          clear hm1 hFz hfm hl hsw hBG hz
          generalize packN s r 1 p = y at *
          go_wp2_with fail
          go_region_held3 (fun w' => w'.cell? ⟨G, 1, none⟩ = some (.int .i64 (k : Int))) (first | exact cB | exact hS6 | exact hS5) (first
            | (go_at_call 35; (with_reducible refine (hfa.out _).mono ?_); rintro e w5 ⟨rfl, n5⟩; have hS5 := (HY.out.2.2.1.drew.new_ n5).cell 1)
            | (go_at_call 34; (with_reducible refine (hpp.out _ ((New.refl wr).drew.step n5)).mono ?_); rintro e w6 ⟨rfl, h6, s6⟩; have hB6 := Blk.of_block (HY.out.2.2.1.drew.new_ n5) (s6.2 G (.inl HT.out.2.1)); have hS6 := Blk.cell hB6 1))
          have H8 := hid (show LkO w0 w6 X b A (upd ms r (pre ++ (B, part F (1 + k + (p + 1))) :: post)) M T' ∧ Same T w w6 ∧ Blk w6 G 87 #[.int .i64 (B : Int), .int .i64 (k : Int), .int .i64 (LN : Int)] from
            ⟨by rw [← Nat.add_assoc, ← HY.out.2.2.2]; exact h6, Same.trans (Same.trans HY.out.2.1 (Same.ofNew ((New.refl wr).drew.step n5) (fun k hk => HY.out.1.ltT (HT.out.2.2 k hk)))) (Same.less s6 (fun k hk => .inl (HT.out.2.2 k hk))), hB6⟩)
          clear h6 s6 hB6 hS6 hS5 n5 cB
          go_wp2_with fail
          exact ⟨⟨p + 1, by omega, by go_num, H8.out⟩, by simp [intOf]; omega⟩
          --]] fault
        · have hpe : p = LN := by omega
          subst hpe
          have hlt2 : ¬ (p : Int) < (p : Int) := by omega
          have hall : part F (1 + k + p) = F := by
            have h1 := HF.out.1
            have h2 := HSL.out.2.2.1
            rw [← h2, ← h1]
            exact part_all F
          rw [hall] at hl
          obtain ⟨lx, hlx⟩ := key_of ((r : Int), (s : Int)) HK.out
          have cM : wr.cell? ⟨X, 8, none⟩ = some (.map (some b)) := hl.cellM
          have g0 : wr.cell? ⟨G, 0, none⟩ = some (.int .i64 (B : Int)) := hBG.cell 0
          have g1 : wr.cell? ⟨G, 1, none⟩ = some (.int .i64 (k : Int)) := hBG.cell 1
          have g2 : wr.cell? ⟨G, 2, none⟩ = some (.int .i64 (p : Int)) := hBG.cell 2
          have hl' := hl.new_ (New.refl wr).drew
          have HMap := hid (And.intro hl'.map hl'.keysOf)
          have HLx := hid hlx
          have HY := hid (And.intro hl' (And.intro hsw hBG))
          have hbne : Hid (∀ W : World, wr.drew.grownBy W (some b) → W.cell? ⟨X, 8, none⟩ = some (.map (some b)) ∧ W.cell? ⟨G, 0, none⟩ = some (.int .i64 (B : Int)) ∧ W.cell? ⟨G, 1, none⟩ = some (.int .i64 (k : Int)) ∧ W.cell? ⟨G, 2, none⟩ = some (.int .i64 (p : Int))) := by
            intro W hg
            have hGb : G ≠ b := fun e => MapIs.ne_blk hl'.map (w := wr.drew) hBG.drew e
            have h2 := Blk.grown hBG.drew hg (fun e => hGb (Option.some.inj e))
            obtain ⟨S, h1, _⟩ := hl'
            have h3 := Blk.grown h1.blk hg (fun e => h1.ne (Option.some.inj e))
            refine ⟨?_, ?_, ?_, ?_⟩
            · rw [h3.cell]; rfl
            · rw [h2.cell]; rfl
            · rw [h2.cell]; rfl
            · rw [h2.cell]; rfl
          obtain ⟨ob, hob, hupd⟩ := HMap.out.1.update_fix keyed Try.underlying80 HMap.out.2 (inj M) (x := ((r : Int), (s : Int))) hlx
          obtain ⟨o, ho⟩ := hupd (B, k, p)
          have hrun : (Instr.mapUpdate 80 (.map (some b)) (.agg #[.int .i64 (r : Int), .int .i64 (s : Int)]) (.agg #[.int .i64 (B : Int), .int .i64 (k : Int), .int .i64 (p : Int)])).run Try.prog wr.drew = .ok () (setBlock wr.drew b o) := (ho wr.drew hob).1
          have hgr : wr.drew.grownBy (setBlock wr.drew b o) (some b) := setBlock_grown (P := Try.prog) hob
          have hS6 := hbne _ hgr
          have hfin := LkO.grewMap HY.out.1 (ho wr.drew hob).2 hgr (fun q hq => by
            rcases mem_put hq with rfl | ⟨hq, _⟩
            · exact HK.out
            · exact HY.out.1.keys q hq)
          have HZ := hid (And.intro hfin HY.out.2.1)
          clear hl hsw hBG hl' hlx hall hupd ho hob hgr hfin
          go_wp2_with fail
          go_region_held3 (fun w' => w'.cell? ⟨X, 8, none⟩ = some (.map (some b)) ∧ w'.cell? ⟨G, 0, none⟩ = some (.int .i64 (B : Int)) ∧ w'.cell? ⟨G, 1, none⟩ = some (.int .i64 (k : Int)) ∧ w'.cell? ⟨G, 2, none⟩ = some (.int .i64 (p : Int))) (first | exact ⟨cM, g0, g1, g2⟩ | exact hS6) (fail)
          clear hS6 cM g0 g1 g2 hrun
          go_wp2
          go_ret2
          exact ⟨rfl, HZ.out.1.1.less (fun q hq => HT.out.2.2 q hq), Same.trans HZ.out.2 (Same.less HZ.out.1.2 (fun q hq => HT.out.2.2 q hq))⟩
end
end Go.Proofs.Yteakbhfegbghoaa.Link
