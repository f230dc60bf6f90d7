/- ObjectKnown: what it makes, plain. -/
import Derived.Test.YtnoahdobgndmnaaRefP
import Derived.Test.YtnoahdobgndmnaaObjP
import Derived.Test.YtnoahdobgndmnaaObjA
import Derived.Test.YtnoahdobgndmnaaArr
import Derived.Laws.OwnMore
namespace Go.Proofs.Ytnoahdobgndmnaa.Obj
open Go Go.RowKit Go.Maps Go.Proofs.Ytnoahdobgndmnaa.Kit Go.Proofs.Ytnoahdobgndmnaa.Str Go.Proofs.Ytnoahdobgndmnaa.Names Go.Proofs.Ytnoahdobgndmnaa.Let Go.Proofs.Ytnoahdobgndmnaa.Wd
open Go.Proofs.Ytnoahdobgndmnaa.Letters (wv WsAt word_info zarr_made)
set_option linter.unusedSimpArgs false
set_option linter.unusedVariables false
def kO : Ob := ⟨[5, 6], [7], [([103, 111], 1)], [([97], [98], 3)]⟩
def kW : List Nat := [5, 6, 7, 2, 13853523968, 1, 1, 13019119616, 1, 13153337344, 3, 2, 1, 1, 1, 45812815077]
theorem kO_enc : encO kO = kW := by decide
theorem kO_may : mayB kO = true := by decide
theorem kO_lens : Lens kO := ⟨fun d hd => by
  unfold kO at hd
  rw [List.mem_singleton.1 hd]
  unfold maxLen
  decide, fun x hx => by
  unfold kO at hx
  rw [List.mem_singleton.1 hx]
  unfold maxLen
  decide⟩
/-- The words of an object without their first are none. -/
theorem tail_no : ¬ Reads (kW.drop 1) := by
  intro h
  have he := reads_enc h
  have hm := h.2.2.2
  have hf : Fit (theO (kW.drop 1)) := (fits_iff _).1 (by unfold mayB at hm; rw [Bool.and_eq_true] at hm; exact hm.1)
  generalize theO (kW.drop 1) = O at *
  obtain ⟨h1, h2, h3, h4, h5, h6, h7, h8⟩ := hd_tl he
  have e0 : (mk (kW.drop 1)).length = 15 := by decide
  rw [e0] at h3 h4 h5 h6 h7
  have t0 : O.text.length = 2 := by
    have : (mk (kW.drop 1))[15 - 5]? = some 2 := by decide
    rw [this] at h3
    exact (Option.some.inj h3).symm
  have t1 : O.static.length = 1 := by
    have : (mk (kW.drop 1))[15 - 5 + 1]? = some 1 := by decide
    rw [this] at h4
    exact (Option.some.inj h4).symm
  have t2 : O.defs.length = 1 := by
    have : (mk (kW.drop 1))[15 - 5 + 2]? = some 1 := by decide
    rw [this] at h5
    exact (Option.some.inj h5).symm
  obtain ⟨d, hd⟩ : ∃ d, O.defs[0]? = some d := ⟨_, List.getElem?_eq_getElem (by omega)⟩
  obtain ⟨c1, _, _⟩ := defs_can hf hd (at_ := posD O 0) (bad := false) rfl rfl
  have hg := (c1.get (k := 0) (by rw [Go.Proofs.Ytnoahdobgndmnaa.Let.enc_len]; omega)).1
  rw [enc_zero, Nat.add_zero] at hg
  have hp : posD O 0 = 3 := by unfold posD; rw [t0, t1]; rfl
  have hv : (bodyO O).getD 3 0 = 13853523968 := by
    rw [← h7]
    decide
  rw [hp, hv] at hg
  have := c1.2.1
  omega
theorem nil_no : ¬ Reads [] := fun h => absurd h.1.1 (by decide)
def bigO : Ob := ⟨List.replicate 512 0, List.replicate 64 0, [], []⟩
theorem whole_zeros (n : Nat) : wholeB (List.replicate n 0) = true := by
  unfold wholeB
  rw [List.all_eq_true]
  intro x hx
  rw [List.eq_of_mem_replicate hx]
  decide
theorem bigO_may : mayB bigO = true := by
  unfold mayB fitsB bigO
  simp only [whole_zeros, List.length_replicate]
  unfold encO tl
  simp only [List.length_append, List.length_replicate]
  decide
theorem bigO_lens : Lens bigO := ⟨(fun d hd => by cases hd), fun x hx => by cases hx⟩
def z33 : List Lk := List.replicate 33 ([], [], 0)
/-- The ten that may not be. -/
def bads : List Ob := [⟨List.replicate 513 0, [], [], []⟩, ⟨[], List.replicate 65 0, [], []⟩, ⟨[68719476736], [], [], []⟩, ⟨[], [], [([97], 0)], []⟩, ⟨[0], [], [([97], 0), ([97], 0)], []⟩, ⟨[0], [], [([], 0)], []⟩, ⟨[], [], [], [([], [], 0)]⟩, ⟨[], [], [], [([], [97], -1)]⟩, ⟨[], [], [], [([], [97], 262144)]⟩, ⟨[], [], [], z33⟩]
theorem bads_may : ∀ O ∈ bads, mayB O = false := by
  intro O h
  simp only [bads, List.mem_cons, List.not_mem_nil, or_false] at h
  rcases h with rfl | rfl | rfl | rfl | rfl | rfl | rfl | rfl | rfl | rfl
  · unfold mayB fitsB; simp only [List.length_replicate]; rfl
  · unfold mayB fitsB; simp only [List.length_replicate]; rfl
  · decide
  · decide
  · decide
  · decide
  · decide
  · decide
  · decide
  · decide
theorem bads_lens : ∀ O ∈ bads, Lens O := by
  intro O h
  simp only [bads, List.mem_cons, List.not_mem_nil, or_false] at h
  have hz : ∀ x ∈ z33, x.1.length ≤ maxLen ∧ x.2.1.length ≤ maxLen := fun x hx => by
    rw [List.eq_of_mem_replicate hx]
    exact ⟨Nat.zero_le _, Nat.zero_le _⟩
  have hone : ∀ d : Df, d.1.length ≤ 1 → d.1.length ≤ maxLen := fun d h => Nat.le_trans h (by unfold maxLen; decide)
  have htwo : ∀ x : Lk, x.1.length ≤ 1 → x.2.1.length ≤ 1 → x.1.length ≤ maxLen ∧ x.2.1.length ≤ maxLen := fun x h1 h2 => ⟨Nat.le_trans h1 (by unfold maxLen; decide), Nat.le_trans h2 (by unfold maxLen; decide)⟩
  rcases h with rfl | rfl | rfl | rfl | rfl | rfl | rfl | rfl | rfl | rfl
  · exact ⟨(fun d hd => by cases hd), fun d hd => by cases hd⟩
  · exact ⟨(fun d hd => by cases hd), fun d hd => by cases hd⟩
  · exact ⟨(fun d hd => by cases hd), fun d hd => by cases hd⟩
  · exact ⟨fun d hd => hone d (by rw [List.mem_singleton.1 hd]; decide), fun d hd => by cases hd⟩
  · exact ⟨fun d hd => hone d (by simp only [List.mem_cons, List.not_mem_nil, or_false] at hd; rcases hd with rfl | rfl <;> decide), fun d hd => by cases hd⟩
  · exact ⟨fun d hd => hone d (by rw [List.mem_singleton.1 hd]; decide), fun d hd => by cases hd⟩
  · exact ⟨(fun d hd => by cases hd), fun d hd => htwo d (by rw [List.mem_singleton.1 hd]; decide) (by rw [List.mem_singleton.1 hd]; decide)⟩
  · exact ⟨(fun d hd => by cases hd), fun d hd => htwo d (by rw [List.mem_singleton.1 hd]; decide) (by rw [List.mem_singleton.1 hd]; decide)⟩
  · exact ⟨(fun d hd => by cases hd), fun d hd => htwo d (by rw [List.mem_singleton.1 hd]; decide) (by rw [List.mem_singleton.1 hd]; decide)⟩
  · exact ⟨(fun d hd => by cases hd), hz⟩
theorem kmake_w (n : Nat) (hn : n ≤ 100000) (w : World) : (Instr.makeSlice 22 (.int .i64 (n : Int)) (.int .i64 (n : Int))).run Try.prog w = .ok (.slice (some ⟨w.heap.size, 0, none⟩) n n) (w.alloc (.cells (zarr n (.int .u64 0)) 37)) := by
  rw [zarr_made]
  exact run_make_row' 22 37 (.int .u64 0) 8 Try.underlying22 word_info rfl .i64 .i64 n (by omega) (by omega) w
/-- A block that was built is a list. -/
theorem kls {α : Type} {f : α → List Value} {k g : Nat} {t : TypeId} {w : World} {cs : Array Value} (xs : List α) (h : Blk w g t cs) (hk : ∀ x, (f x).length = k) (he : cs = (flatOf f xs).toArray) (hm : xs.length ≤ 100000) : LsAt k f w (.slice (some ⟨g, 0, none⟩) xs.length xs.length) xs := by
  subst he
  refine LsAt.of_sl hk (base := 0) (e := t) ⟨flatOf_len hk xs, .inr ⟨g, 0, xs.length, _, rfl, Nat.zero_le _, h, Nat.le_refl _, by unfold maxLen; omega, ?_, ?_⟩⟩
  · have := flatOf_len hk xs
    simp only [List.size_toArray]
    omega
  · have := flatOf_len hk xs
    simp only [List.drop_zero]
    rw [List.take_of_length_le (by omega)]
theorem kls_w {w : World} {g n : Nat} (h : Blk w g 37 (zarr n (.int .u64 0))) (hn : n ≤ 100000) : LsAt 1 uw w (.slice (some ⟨g, 0, none⟩) n n) (List.replicate n 0) := by
  have hl : (List.replicate n (0 : Nat)).length = n := by simp
  refine ⟨_, n, by rw [hl], by omega, by unfold maxLen; omega, fun h0 => ⟨g, 0, rfl, h.lt, fun i x hx j u hu => ?_⟩⟩
  have hi : i < n := by rw [← hl]; exact (List.getElem?_eq_some_iff.1 hx).1
  have hx0 : x = 0 := List.eq_of_mem_replicate (List.mem_of_getElem? hx)
  subst hx0
  match j, hu with
  | 0, hu =>
    rw [Nat.mul_one, Nat.add_zero, Nat.zero_add, h.cell, zarr_get _ hi]
    exact hu
/-- The list of the ten, behind a slice. -/
def BadsAt (v : Value) (w : World) : Prop :=
  ∃ g, v = .slice (some ⟨g, 0, none⟩) 10 10 ∧ g < w.heap.size ∧ ∀ j O, bads[j]? = some O → ∃ a b c d, ObAt w (.agg #[a, b, c, d]) O ∧ w.cell? ⟨g, j * 4, none⟩ = some a ∧ w.cell? ⟨g, j * 4 + 1, none⟩ = some b ∧ w.cell? ⟨g, j * 4 + 2, none⟩ = some c ∧ w.cell? ⟨g, j * 4 + 3, none⟩ = some d
/-- What each operation of the list's making leaves in its slot. -/
def Rv : Nat → Value → World → Prop
  | 0, v, w => LsAt 1 uw w v (List.replicate 513 0)
  | 1, v, w => ∃ O, bads[0]? = some O ∧ ObAt w v O
  | 2, v, w => LsAt 1 uw w v (List.replicate 65 0)
  | 3, v, w => ∃ O, bads[1]? = some O ∧ ObAt w v O
  | 4, v, w => LsAt 1 uw w v [68719476736]
  | 5, v, w => ∃ O, bads[2]? = some O ∧ ObAt w v O
  | 6, v, w => v = .agg #[st [97], .int .i64 0]
  | 7, v, w => LsAt 2 ud w v [([97], 0)]
  | 8, v, w => ∃ O, bads[3]? = some O ∧ ObAt w v O
  | 9, v, w => LsAt 1 uw w v [0]
  | 10, v, w => v = .agg #[st [97], .int .i64 0]
  | 11, v, w => v = .agg #[st [97], .int .i64 0]
  | 12, v, w => LsAt 2 ud w v [([97], 0), ([97], 0)]
  | 13, v, w => ∃ O, bads[4]? = some O ∧ ObAt w v O
  | 14, v, w => LsAt 1 uw w v [0]
  | 15, v, w => v = .agg #[st [], .int .i64 0]
  | 16, v, w => LsAt 2 ud w v [([], 0)]
  | 17, v, w => ∃ O, bads[5]? = some O ∧ ObAt w v O
  | 18, v, w => v = .agg #[st [], st [], .int .i64 0]
  | 19, v, w => LsAt 3 ul w v [([], [], 0)]
  | 20, v, w => ∃ O, bads[6]? = some O ∧ ObAt w v O
  | 21, v, w => v = .agg #[st [], st [97], .int .i64 (-1)]
  | 22, v, w => LsAt 3 ul w v [([], [97], -1)]
  | 23, v, w => ∃ O, bads[7]? = some O ∧ ObAt w v O
  | 24, v, w => v = .agg #[st [], st [97], .int .i64 262144]
  | 25, v, w => LsAt 3 ul w v [([], [97], 262144)]
  | 26, v, w => ∃ O, bads[8]? = some O ∧ ObAt w v O
  | 27, v, w => LsAt 3 ul w v z33
  | 28, v, w => ∃ O, bads[9]? = some O ∧ ObAt w v O
  | 29, v, w => BadsAt v w
  | 30, v, w => BadsAt v w
  | _, _, _ => True
theorem BadsAt.new_ {v : Value} {w w' : World} (h : BadsAt v w) (n : New w w') : BadsAt v w' := by
  obtain ⟨g, e, hg, h⟩ := h
  refine ⟨g, e, Nat.lt_of_lt_of_le hg n.size, fun j O hj => ?_⟩
  obtain ⟨a, b, c, d, ho, h0, h1, h2, h3⟩ := h j O hj
  exact ⟨a, b, c, d, ho.new_ n, n.cellK h0, n.cellK h1, n.cellK h2, n.cellK h3⟩
theorem Rv.new_ : ∀ {i : Nat} {v : Value} {w w' : World}, Rv i v w → New w w' → Rv i v w' := by
  intro i v w w' h n
  have hO : ∀ (j : Nat), (∃ O, bads[j]? = some O ∧ ObAt w v O) → ∃ O, bads[j]? = some O ∧ ObAt w' v O := fun j ⟨O, h1, h2⟩ => ⟨O, h1, h2.new_ n⟩
  rcases (show i = 0 ∨ i = 1 ∨ i = 2 ∨ i = 3 ∨ i = 4 ∨ i = 5 ∨ i = 6 ∨ i = 7 ∨ i = 8 ∨ i = 9 ∨ i = 10 ∨ i = 11 ∨ i = 12 ∨ i = 13 ∨ i = 14 ∨ i = 15 ∨ i = 16 ∨ i = 17 ∨ i = 18 ∨ i = 19 ∨ i = 20 ∨ i = 21 ∨ i = 22 ∨ i = 23 ∨ i = 24 ∨ i = 25 ∨ i = 26 ∨ i = 27 ∨ i = 28 ∨ i = 29 ∨ i = 30 ∨ 31 ≤ i by omega) with rfl | rfl | rfl | rfl | rfl | rfl | rfl | rfl | rfl | rfl | rfl | rfl | rfl | rfl | rfl | rfl | rfl | rfl | rfl | rfl | rfl | rfl | rfl | rfl | rfl | rfl | rfl | rfl | rfl | rfl | rfl | hi
  all_goals first
    | exact LsAt.new_ h n
    | exact hO _ h
    | exact BadsAt.new_ h n
    | exact h
    | skip
  obtain ⟨k, rfl⟩ : ∃ k, i = 31 + k := ⟨i - 31, by omega⟩
  rw [show 31 + k = k + 31 by omega]
  trivial
theorem made33 : (madeCells (Value.agg #[.string ⟨#[]⟩, .string ⟨#[]⟩, .int .i64 0]).cells (33 * 3)).toList = flatOf ul z33 := by first | rfl | (unfold madeCells z33; simp [Value.cells, flatOf, ul]; rfl)
theorem Blk.at {w : World} {t : TypeId} {cs : Array Value} {n : Nat} (h : n = w.heap.size) : Blk (w.alloc (.cells cs t)) n t cs := by
  subst h
  exact Blk.new w t cs
theorem big_at1 (w : World) : ObAt ((w.alloc (.cells (zarr 512 (.int .u64 0)) 37)).alloc (.cells (zarr 64 (.int .u64 0)) 37)).drew (.agg #[.slice (some ⟨w.heap.size, 0, none⟩) 512 512, .slice (some ⟨w.heap.size + 1, 0, none⟩) 64 64, .slice none 0 0, .slice none 0 0]) bigO :=
  (show ObAt ((w.alloc (.cells (zarr 512 (.int .u64 0)) 37)).alloc (.cells (zarr 64 (.int .u64 0)) 37)) _ bigO from ⟨_, _, _, _, rfl, (kls_w (n := 512) (Blk.at rfl) (by decide)).new_ ((New.refl _).alloc _), kls_w (n := 64) (Blk.at (by simp only [World.size_alloc])) (by decide), LsAt.nil, LsAt.nil⟩).new_ (New.refl _).drew
theorem big_at2 (w : World) : ObAt ((w.alloc (.cells (zarr 64 (.int .u64 0)) 37)).alloc (.cells (zarr 512 (.int .u64 0)) 37)).drew (.agg #[.slice (some ⟨w.heap.size + 1, 0, none⟩) 512 512, .slice (some ⟨w.heap.size, 0, none⟩) 64 64, .slice none 0 0, .slice none 0 0]) bigO :=
  (show ObAt ((w.alloc (.cells (zarr 64 (.int .u64 0)) 37)).alloc (.cells (zarr 512 (.int .u64 0)) 37)) _ bigO from ⟨_, _, _, _, rfl, kls_w (n := 512) (Blk.at (by simp only [World.size_alloc])) (by decide), (kls_w (n := 64) (Blk.at rfl) (by decide)).new_ ((New.refl _).alloc _), LsAt.nil, LsAt.nil⟩).new_ (New.refl _).drew
theorem ls_tail {w : World} {b o c : Nat} (h : LsAt 1 uw w (.slice (some ⟨b, o, none⟩) 16 c) kW) : LsAt 1 uw w (.slice (some ⟨b, o + 1, none⟩) 15 (c - 1)) (kW.drop 1) := by
  obtain ⟨a', c', hv, h1, h2, h3⟩ := h
  injection hv with e1 e2 e3
  subst e3
  have hk : kW.length = 16 := by decide
  rw [hk] at h1
  refine ⟨_, _, rfl, by show 15 ≤ _; omega, by omega, fun _ => ?_⟩
  obtain ⟨b', o', e, hb, hc⟩ := h3 (by decide)
  rw [e] at e1
  simp only [Option.some.injEq, Addr.mk.injEq] at e1
  refine ⟨b', o' + 1, by rw [e1.1, e1.2.1], hb, fun i x hx k u hu => ?_⟩
  rw [List.getElem?_drop] at hx
  have := hc _ x hx k u hu
  rw [← this]
  congr 2
  omega
def kchkB (ops : Array Oper) : Bool := (List.range ops.size).all fun i => ((ops[i]?).map (·.after.all fun e => decide (e.on < i))).getD true
theorem kchk {ops : Array Oper} (h : kchkB ops = true) : ∀ (i : Nat) (o : Oper), ops[i]? = some o → ∀ e ∈ o.after, e.on < i := by
  intro i o ho e he
  unfold kchkB at h
  have h1 := List.all_eq_true.1 h i (List.mem_range.2 (Array.getElem?_eq_some_iff.1 ho).1)
  rw [ho] at h1
  have h2 : (o.after.all fun e => decide (e.on < i)) = true := h1
  rw [Array.all_eq_true_iff_forall_mem] at h2
  exact of_decide_eq_true (h2 e he)
theorem kdep {ops : Array Oper} {listed : Array Bool} {i k : Nat} {o : Oper} {e : Edge} (hr : i ∈ Region.ready .any ops listed) (ho : ops[i]? = some o) (he : o.after[k]? = some e) (hb : Region.binds .any e = true) : listed.getD e.on false = true := by
  obtain ⟨_, o', ho', h⟩ := mem_ready.1 hr
  rw [ho] at ho'
  cases ho'
  exact h e (Array.mem_of_getElem? he) hb
theorem keepR {listed : Array Bool} {i : Nat} {U : Nat → Value} {v : Value} {w w' : World} (hR : ∀ j, j < 31 → listed.getD j false = true → Rv j (U j) w) (n : New w w') (hv : Rv i v w') : ∀ j, j < 31 → (listed.setIfInBounds i true).getD j false = true → Rv j ((fun d => if d = i then v else U d) j) w' := by
  intro j hj hl
  by_cases e : j = i
  · subst e
    show Rv j (if j = j then v else U j) w'
    rw [if_pos rfl]
    exact hv
  · show Rv j (if j = i then v else U j) w'
    rw [if_neg e]
    refine (hR j hj ?_).new_ n
    rw [Array.getD_eq_getD_getElem?, Array.getElem?_setIfInBounds_ne (fun h => e h.symm)] at hl
    rw [Array.getD_eq_getD_getElem?]
    exact hl
end Go.Proofs.Ytnoahdobgndmnaa.Obj
