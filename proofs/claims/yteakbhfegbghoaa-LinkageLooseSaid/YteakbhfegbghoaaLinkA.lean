/- Package linkage: the document's example. -/
import Derived.Test.YteakbhfegbghoaaLinkG
import Derived.Test.YteakbhfegbghoaaBlkLs
namespace Go.Proofs.Yteakbhfegbghoaa.Link
open Go Go.RowKit Go.ChangeMaps Go.Proofs.Yteakbhfegbghoaa.Kit Go.Proofs.Yteakbhfegbghoaa.Area Go.Proofs.Yteakbhfegbghoaa.Wd Go.Proofs.Yteakbhfegbghoaa.Str
open Go.Proofs.Yteakbhfegbghoaa.Obj (Ob ObAt Lens ul uw)
open Go.Proofs.Yteakbhfegbghoaa.Point (pt packN mayB eql_pt ptEq_iff)
set_option linter.unusedSimpArgs false
set_option linter.unusedVariables false
def lkA : Obj.Lk := ([], [97], 0)
def oA : Ob := ⟨[], [], [], [lkA]⟩
theorem oA_may : Obj.mayB oA = true := by decide
theorem oA_lens : Lens oA := ⟨fun d hd => (by cases hd), fun x hx => (by rw [List.mem_singleton.1 hx]; exact ⟨by decide, by decide⟩)⟩
theorem oA_at {w : World} {G : Nat} {T : TypeId} (h : Blk w G T #[st [], st [97], .int .i64 0]) : ObAt w (.agg #[.slice none 0 0, .slice none 0 0, .slice none 0 0, .slice (some ⟨G, 0, none⟩) 1 1]) oA :=
  ⟨_, _, _, _, rfl, LsAt.nil, LsAt.nil, LsAt.nil, kls (f := ul) [lkA] h (fun _ => rfl) rfl (by decide)⟩
theorem free_nil (r n x : Nat) : FreeQ [] r n x := fun q hq => by cases hq
theorem used_one (q : Sc) : ((ofR [q] q.ring).map Sc.size).sum = q.size := by simp [ofR]
set_option maxRecDepth 100000 in
set_option maxHeartbeats 4000000 in
theorem awake_any (w : World) : Calls Try.prog 8 #[] w fun e w' => e = .returned (.bool true) ∧ New w w' := by
  go_enter Try.func8, Try.ntmps8
  go_wp2_with fail
  refine (newQ w).mono ?_
  rintro e w1 ⟨rfl, h1⟩
  obtain ⟨X, hX⟩ : ∃ X, X = w.heap.size + 1 := ⟨_, rfl⟩
  obtain ⟨b, hb⟩ : ∃ b, b = w.heap.size := ⟨_, rfl⟩
  rw [← hX, ← hb] at h1
  rw [← hX]
  have H1 := hid h1
  clear h1 hX hb
  go_wp2_with fail
  have hB2 := Blk.new w1 38 #[st [], st [97], .int .i64 0]
  have hl2 := H1.out.box (.cells #[st [], st [97], .int .i64 0] 38)
  have hO := OpenQ_ok hl2 (r := 4) (s := 1) (B := 0) (by decide) (by decide) (by decide) _ _ _ _ oA (fun W _ hs => oA_at (Blk.of_block hB2 (hs.2 _ (.inr rfl)))) oA_lens oA_may rfl (by decide) (free_nil _ _ _) (fun y hy => absurd hy (Nat.not_lt_zero _))
  have HO := hid hO
  clear hO hl2 hB2
  refine HO.out.mono ?_
  rintro e w3 ⟨rfl, h3, s3⟩
  have H3 := hid h3
  clear h3 s3
  go_wp2_with fail
  have hL := LinkQ_ok H3.out (q := newSc 4 1 0 oA) (List.mem_singleton.2 rfl) (n := 0) (p := (1, 4, 1, 0)) rfl
  refine hL.mono ?_
  rintro e w4 ⟨rfl, n4⟩
  have H4 := hid (H3.out.new_ n4)
  clear n4 hL
  have hq := fun W => eql_pt 1 4 1 0 1 4 1 0 W
  go_wp2_with fail
  refine (hasQ (H4.out.new_ ((New.refl w4).alloc _)) 4 1 (okK_of (r := 4) (s := 1) (by decide) (by decide)) true rfl).mono ?_
  rintro e w5 ⟨rfl, n5⟩
  have H5 := hid ((H4.out.new_ ((New.refl w4).alloc _)).new_ n5)
  clear n5
  go_wp2_with fail
  refine (usedQ H5.out (r := 4) (n := 2) (by decide) rfl).mono ?_
  rintro e w6 ⟨rfl, n6⟩
  have H6 := hid (H5.out.new.step n6)
  clear n6 hq
  go_wp2
  go_ret
  exact ⟨rfl, H6.out⟩
end Go.Proofs.Yteakbhfegbghoaa.Link
