/- LinkageKnown: its objects and sections, plain. -/
import Derived.Test.YteakbhfegbghoaaLinkA
import Derived.Test.YteakbhfegbghoaaLinkL
namespace Go.Proofs.Yteakbhfegbghoaa.Link
open Go Go.RowKit Go.ChangeMaps Go.Proofs.Yteakbhfegbghoaa.Kit Go.Proofs.Yteakbhfegbghoaa.Area Go.Proofs.Yteakbhfegbghoaa.Wd Go.Proofs.Yteakbhfegbghoaa.Str
open Go.Proofs.Yteakbhfegbghoaa.Obj (Ob ObAt Lens ul uw)
open Go.Proofs.Yteakbhfegbghoaa.Letters (wv)
set_option linter.unusedSimpArgs false
set_option linter.unusedVariables false
def lkB : Obj.Lk := ([], [98], 0)
def oK : Ob := ⟨[], [7, 8], [], [lkA, lkB]⟩
def oN : Ob := ⟨[], [], [], [([], [], 0)]⟩
theorem oK_may : Obj.mayB oK = true := by decide
theorem oN_may : Obj.mayB oN = false := by decide
theorem oK_lens : Lens oK := ⟨fun d hd => (by cases hd), fun x hx => (by
  rcases List.mem_cons.1 hx with rfl | hx
  · exact ⟨by decide, by decide⟩
  · rw [List.mem_singleton.1 hx]; exact ⟨by decide, by decide⟩)⟩
theorem oN_lens : Lens oN := ⟨fun d hd => (by cases hd), fun x hx => (by rw [List.mem_singleton.1 hx]; exact ⟨by decide, by decide⟩)⟩
/-- The object's memory. -/
def KB (w : World) (GS GL G2 : Nat) : Prop :=
  Blk w GS 52 #[.int .u64 7, .int .u64 8] ∧ Blk w GL 38 #[st [], st [97], .int .i64 0, st [], st [98], .int .i64 0] ∧ Blk w G2 29 #[.slice none 0 0, .slice (some ⟨GS, 0, none⟩) 2 2, .slice none 0 0, .slice (some ⟨GL, 0, none⟩) 2 2]
section
variable {w w' : World} {GS GL G2 : Nat} {T : Nat → Prop}
theorem KB.new_ (h : KB w GS GL G2) (hn : New w w') : KB w' GS GL G2 := ⟨h.1.new_ hn, h.2.1.new_ hn, h.2.2.new_ hn⟩
theorem KB.same (h : KB w GS GL G2) (hT : T GS ∧ T GL ∧ T G2) (hs : Same T w w') : KB w' GS GL G2 :=
  ⟨Blk.of_block h.1 (hs.2 _ hT.1), Blk.of_block h.2.1 (hs.2 _ hT.2.1), Blk.of_block h.2.2 (hs.2 _ hT.2.2)⟩
abbrev ovK (GS GL : Nat) : Value := .agg #[.slice none 0 0, .slice (some ⟨GS, 0, none⟩) 2 2, .slice none 0 0, .slice (some ⟨GL, 0, none⟩) 2 2]
theorem KB.at (h : KB w GS GL G2) : ObAt w (ovK GS GL) oK :=
  ⟨_, _, _, _, rfl, LsAt.nil, kls (f := uw) [7, 8] h.1 (fun _ => rfl) rfl (by decide), LsAt.nil, kls (f := ul) [lkA, lkB] h.2.1 (fun _ => rfl) rfl (by decide)⟩
theorem oN_at {G : Nat} {t : TypeId} (h : Blk w G t #[st [], st [], .int .i64 0]) : ObAt w (.agg #[.slice none 0 0, .slice none 0 0, .slice none 0 0, .slice (some ⟨G, 0, none⟩) 1 1]) oN :=
  ⟨_, _, _, _, rfl, LsAt.nil, LsAt.nil, LsAt.nil, kls (f := ul) [([], [], 0)] h (fun _ => rfl) rfl (by decide)⟩
theorem openK {w0 : World} {X b : Nat} {Q : List Sc} (h : Lk w0 w X b Q T) {r s B : Nat} (hr : r < 8) (hs0 : 1 ≤ s) (hs : s ≤ 63) (hT : T GS ∧ T GL ∧ T G2) (hb : KB w GS GL G2) (hg : findS Q ((r : Int), (s : Int)) = none) (hB : B + 5 ≤ 256) (hf : FreeQ Q r 5 B) (hy : ∀ y, y < B → ¬ FreeQ Q r 5 y) :
    Calls Try.prog 10 #[ptr X, .int .i64 (r : Int), .int .i64 (s : Int), ovK GS GL] w fun e w' => e = .returned (.tuple #[.int .i64 (B : Int), .int .i64 0]) ∧ Lk w0 w' X b (Q ++ [newSc r s B oK]) T ∧ Same T w w' :=
  OpenQ_ok h hr hs0 hs _ _ _ _ oK (fun W _ hs => (hb.same hT hs).at) oK_lens oK_may hg hB hf hy
end
def q1 : Sc := newSc 4 1 0 oK
def q2 : Sc := newSc 4 2 5 oK
def q3 : Sc := newSc 5 1 0 oK
def q1s : Sc := setLs q1 1 (2, 4, 0, 9)
def q2s : Sc := setSt q2 1 3
def q4 : Sc := newSc 4 3 0 oK
theorem k_snap : setS [q1, q2, q3] (setLs q1 1 (2, max 1 q1.ring, 0, 9)) = [q1s, q2, q3] := rfl
theorem k_own : setS [q1s, q2, q3] (setSt q2 1 3) = [q1s, q2s, q3] := rfl
theorem k_loose : [q1s, q2s, q3].map (looseS 4 2) = [q1, q2s, q3] := by kernel_rfl
theorem k_cnt : ([q1s, q2s, q3].map (cntS 4 2)).sum = 1 := by decide +kernel
theorem k_close : ([q1, q2s, q3].filter fun p => decide (p.key ≠ q1.key)) = [q2s, q3] := rfl
theorem free2 : FreeQ [q1] 4 5 5 := by
  intro q hq _
  rw [List.mem_singleton.1 hq]
  left; decide
theorem min2 : ∀ y, y < 5 → ¬ FreeQ [q1] 4 5 y := by
  intro y hy h
  rcases h q1 (List.mem_singleton.2 rfl) rfl with h1 | h1
  · have : q1.base + q1.size = 5 := by decide
    omega
  · have : q1.base = 0 := rfl
    omega
theorem free3 : FreeQ [q1, q2] 5 5 0 := by
  intro q hq h
  rcases List.mem_cons.1 hq with rfl | hq
  · cases h
  · rw [List.mem_singleton.1 hq] at h; cases h
theorem free4 : FreeQ [q2s, q3] 4 5 0 := by
  intro q hq h
  rcases List.mem_cons.1 hq with rfl | hq
  · right; decide
  · rw [List.mem_singleton.1 hq] at h; cases h
end Go.Proofs.Yteakbhfegbghoaa.Link
