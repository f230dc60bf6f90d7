/- The contract of object.read. -/
import Derived.Test.YtnoahdobgndmnaaObjR
import Derived.Deep.CutRange
import Derived.Deep.RegionHeld3
namespace Go.Proofs.Ytnoahdobgndmnaa.Obj
open Go Go.RowKit Go.Maps Go.Proofs.Ytnoahdobgndmnaa.Kit Go.Proofs.Ytnoahdobgndmnaa.Str Go.Proofs.Ytnoahdobgndmnaa.Names Go.Proofs.Ytnoahdobgndmnaa.Let
open Go.Proofs.Ytnoahdobgndmnaa.Letters (wv WsAt word_info)
set_option linter.unusedSimpArgs false
set_option linter.unusedVariables false
noncomputable def defsR : Nat → Rd → List Df × Rd
  | 0, s => ([], s)
  | k + 1, s => ((defsR k s).1 ++ [((textR (defsR k s).2).1, ((numR (textR (defsR k s).2).2).1 : Int))], (numR (textR (defsR k s).2).2).2)
noncomputable def linksR : Nat → Rd → List Lk × Rd
  | 0, s => ([], s)
  | k + 1, s => ((linksR k s).1 ++ [((textR (linksR k s).2).1, (textR (textR (linksR k s).2).2).1, ((numR (textR (textR (linksR k s).2).2).2).1 : Int))], (numR (textR (textR (linksR k s).2).2).2).2)
theorem takeR_suf (s : Rd) (n : Nat) : (takeR s n).2.1 <:+ s.1 := by
  unfold takeR
  split
  · exact List.drop_suffix _ _
  · exact List.suffix_refl _
theorem numR_suf (s : Rd) : (numR s).2.1 <:+ s.1 := takeR_suf s 1
theorem textR_suf (s : Rd) : (textR s).2.1 <:+ s.1 := by
  unfold textR
  split
  · exact List.drop_suffix _ _
  · exact List.suffix_refl _
theorem defsR_suf : ∀ (k : Nat) (s : Rd), (defsR k s).2.1 <:+ s.1
  | 0, s => List.suffix_refl _
  | k + 1, s => ((numR_suf _).trans (textR_suf _)).trans (defsR_suf k s)
theorem linksR_suf : ∀ (k : Nat) (s : Rd), (linksR k s).2.1 <:+ s.1
  | 0, s => List.suffix_refl _
  | k + 1, s => (((numR_suf _).trans (textR_suf _)).trans (textR_suf _)).trans (linksR_suf k s)
theorem defsR_len : ∀ (k : Nat) (s : Rd), (defsR k s).1.length = k
  | 0, s => rfl
  | k + 1, s => by rw [defsR, List.length_append, defsR_len k s]; rfl
theorem linksR_len : ∀ (k : Nat) (s : Rd), (linksR k s).1.length = k
  | 0, s => rfl
  | k + 1, s => by rw [linksR, List.length_append, linksR_len k s]; rfl
theorem Lo.suf {a b : List Nat} (h : Lo b) (hs : a <:+ b) : Lo a := fun x hx => h x (hs.mem hx)
/-- What read gives. -/
noncomputable def readO (ws : List Nat) (m0 m1 m2 m3 : Nat) : Ob :=
  let s1 := (takeR (ws, false) m0).2
  let s2 := (takeR s1 m1).2
  ⟨(takeR (ws, false) m0).1, (takeR s1 m1).1, (defsR m2 s2).1, (linksR m3 (defsR m2 s2).2).1⟩
noncomputable def readE (ws : List Nat) (m0 m1 m2 m3 : Nat) : Rd :=
  (linksR m3 (defsR m2 (takeR (takeR (ws, false) m0).2 m1).2).2).2
theorem S_keepR {w w' : World} {R B : Nat} {u v : Value} (hk : Keeps (fun k => k = R) w w') (hn : ¬ B = R) (h : w.cell? ⟨B, 0, none⟩ = some u ∧ w.cell? ⟨B, 1, none⟩ = some v) : w'.cell? ⟨B, 0, none⟩ = some u ∧ w'.cell? ⟨B, 1, none⟩ = some v :=
  ⟨hk.cell h.1 hn, hk.cell h.2 hn⟩
theorem S_new {w w' : World} {B : Nat} {u v : Value} (h : w.cell? ⟨B, 0, none⟩ = some u ∧ w.cell? ⟨B, 1, none⟩ = some v) (n : New w w') : w'.cell? ⟨B, 0, none⟩ = some u ∧ w'.cell? ⟨B, 1, none⟩ = some v := ⟨n.cellK h.1, n.cellK h.2⟩
theorem ne_R {a b R : Nat} (h : R < a) (h2 : a ≤ b) : ¬ b = R := by omega
theorem blk4 {w : World} {g : Nat} {t : TypeId} {a b c d : Value} (h : Blk w g t #[a, b, c, d]) : w.cell? ⟨g, 0, none⟩ = some a ∧ w.cell? ⟨g, 1, none⟩ = some b ∧ w.cell? ⟨g, 2, none⟩ = some c ∧ w.cell? ⟨g, 3, none⟩ = some d := by
  refine ⟨?_, ?_, ?_, ?_⟩ <;> rw [h.cell] <;> rfl
def set4 (w : World) (G : Nat) (a b c d : Value) : World := (((w.setCell ⟨G, 0, none⟩ a).setCell ⟨G, 1, none⟩ b).setCell ⟨G, 2, none⟩ c).setCell ⟨G, 3, none⟩ d
theorem set4_keeps (w : World) (G : Nat) (a b c d : Value) : Keeps (fun k => k = G) w (set4 w G a b c d) :=
  Keeps.setCell (F := fun k => k = G) (Keeps.setCell (F := fun k => k = G) (Keeps.setCell (F := fun k => k = G) (Keeps.setCell (F := fun k => k = G) (Keeps.refl _ w) (.inr rfl) _) (.inr rfl) _) (.inr rfl) _) (.inr rfl) _
theorem set4_blk {w : World} {G : Nat} {t : TypeId} {p q r s : Value} (h : Blk w G t #[p, q, r, s]) (a b c d : Value) : Blk (set4 w G a b c d) G t #[a, b, c, d] := by
  have := (((h.set 0 a).set 1 b).set 2 c).set 3 d
  unfold set4
  simpa using this
theorem S_set4 {w : World} {B G : Nat} {u v a b c d : Value} (h : w.cell? ⟨B, 0, none⟩ = some u ∧ w.cell? ⟨B, 1, none⟩ = some v) (hne : ¬ G = B) : ((((w.setCell ⟨G, 0, none⟩ a).setCell ⟨G, 1, none⟩ b).setCell ⟨G, 2, none⟩ c).setCell ⟨G, 3, none⟩ d).cell? ⟨B, 0, none⟩ = some u ∧ ((((w.setCell ⟨G, 0, none⟩ a).setCell ⟨G, 1, none⟩ b).setCell ⟨G, 2, none⟩ c).setCell ⟨G, 3, none⟩ d).cell? ⟨B, 1, none⟩ = some v :=
  have hk := set4_keeps w G a b c d
  ⟨hk.cell h.1 (fun e => hne e.symm), hk.cell h.2 (fun e => hne e.symm)⟩
/-- Behind the first two parts: the object's box and the reader. -/
def Two (w3 : World) (R : Nat) (l1 l2 : List Nat) (s2 : Rd) (v : Value) (wx : World) : Prop :=
  ∃ (G : Nat) (v1 v2 : Value), v = .pointer (some ⟨G, 0, none⟩) ∧ w3.heap.size ≤ G ∧ Blk wx G 27 #[v1, v2, .slice none 0 0, .slice none 0 0] ∧ LsAt 1 uw wx v1 l1 ∧ LsAt 1 uw wx v2 l2 ∧ (∀ g, v1.ownBlock = some g → g ≠ G ∧ w3.heap.size ≤ g ∧ g < wx.heap.size) ∧ (∀ g, v2.ownBlock = some g → g ≠ G ∧ w3.heap.size ≤ g ∧ g < wx.heap.size) ∧ RAt wx R s2 ∧ Keeps (fun k => k = R) w3 wx
theorem two_meet {w3 X w4 Y w5 wx : World} {R G : Nat} {v1 v2 : Value} {l1 l2 : List Nat} {s2 : Rd} (hX : New w3 X) (k1 : Keeps (fun k => k = R) X w4) (hY : New w4 Y) (k2 : Keeps (fun k => k = R) Y w5) (kx : Keeps (fun k => k = G) w5 wx) (hG : w3.heap.size ≤ G) (hR : R < w3.heap.size)
    (hv1 : LsAt 1 uw w4 v1 l1) (hv2 : LsAt 1 uw w5 v2 l2) (n1 : ∀ g, v1.ownBlock = some g → X.heap.size ≤ g ∧ g < w4.heap.size) (n2 : ∀ g, v2.ownBlock = some g → Y.heap.size ≤ g ∧ g < w5.heap.size)
    (ne1 : ∀ g, X.heap.size ≤ g → g < w4.heap.size → g ≠ G) (ne2 : ∀ g, Y.heap.size ≤ g → g < w5.heap.size → g ≠ G) (hra : RAt w5 R s2) (hb : Blk wx G 27 #[v1, v2, .slice none 0 0, .slice none 0 0]) : Two w3 R l1 l2 s2 (.pointer (some ⟨G, 0, none⟩)) wx := by
  have z1 := hX.size
  have z2 := k1.size
  have z3 := hY.size
  have z4 := k2.size
  have z5 := kx.size
  refine ⟨G, v1, v2, rfl, hG, hb, ?_, hv2.keeps kx (fun g hg => ne2 g (n2 g hg).1 (n2 g hg).2), ?_, ?_, hra.keeps kx (fun k hk e => by omega), ?_⟩
  · exact ((hv1.new_ hY).keeps k2 (fun g hg e => by have := n1 g hg; omega)).keeps kx (fun g hg => ne1 g (n1 g hg).1 (n1 g hg).2)
  · intro g hg
    have := n1 g hg
    exact ⟨ne1 g this.1 this.2, by omega, by omega⟩
  · intro g hg
    have := n2 g hg
    exact ⟨ne2 g this.1 this.2, by omega, by omega⟩
  · have a1 : Keeps (fun k => k = R) w3 w4 := (hX.keeps _).trans k1 fun i _ h => h
    have a2 : Keeps (fun k => k = R) w3 w5 := (a1.trans (hY.keeps (fun k => k = R)) fun i _ h => h).trans k2 fun i _ h => h
    exact a2.trans kx fun i hi h => by omega
theorem def_info : (Try.prog.info? 41).map (fun i => (i.zero, i.size, i.bytes)) = some (some (.agg #[.string ⟨#[]⟩, .int .i64 0]), 2, 24) := by kernel_rfl
theorem link_info : (Try.prog.info? 43).map (fun i => (i.zero, i.size, i.bytes)) = some (some (.agg #[.string ⟨#[]⟩, .string ⟨#[]⟩, .int .i64 0]), 3, 40) := by kernel_rfl
theorem news_one {w : World} {t : TypeId} {l : List Value} : ∀ j u, l[j]? = some u → (w.alloc (.cells l.toArray t)).cell? ((⟨w.heap.size, 0, none⟩ : Addr).add j) = some u := by
  intro j u hu
  rw [Addr.add_lit, Nat.zero_add, (Blk.new w t l.toArray).cell, List.getElem?_toArray]
  exact hu
theorem defsR_succ {k : Nat} {s : Rd} {ds : List Df} {t t1 t2 : Rd} {nm : List UInt8} {x : Nat} (h : defsR k s = (ds, t)) (h1 : textR t = (nm, t1)) (h2 : numR t1 = (x, t2)) : defsR (k + 1) s = (ds ++ [(nm, (x : Int))], t2) := by
  rw [defsR, h, h1, h2]
theorem linksR_succ {k : Nat} {s : Rd} {ls : List Lk} {t t1 t2 t3 : Rd} {sg nm : List UInt8} {x : Nat} (h : linksR k s = (ls, t)) (h1 : textR t = (sg, t1)) (h2 : textR t1 = (nm, t2)) (h3 : numR t2 = (x, t3)) : linksR (k + 1) s = (ls ++ [(sg, nm, (x : Int))], t3) := by
  rw [linksR, h, h1, h2, h3]
theorem blk4f {w : World} {g : Nat} {t : TypeId} {cs : Array Value} (h : Blk w g t cs) (i : Nat) : w.frozen? ⟨g, i, none⟩ = false := h.frozen i
theorem step_meet {wc X w6 w7 : World} {R G j n size : Nat} {E : TypeId} {v v9 : Value} {cs9 : List Value} {t2 : Rd} {cs : Array Value} (hX : Keeps (fun k => k = R ∨ k = G) wc X) (k6 : Keeps (fun k => k = R) X w6) (k7 : Keeps (fun g => v.ownBlock = some g) w6 w7)
    (hv : ∀ g, v.ownBlock = some g → wc.heap.size ≤ g) (hRG : R < G) (hG : G < wc.heap.size) (hra : RAt w6 R t2) (hb : Blk w7 G 27 cs) (hs : Sl w7 wc.heap.size E size v9 n cs9) :
    Keeps (fun k => k = R ∨ k = G) wc (w7.setCell ⟨G, j, none⟩ v9) ∧ Blk (w7.setCell ⟨G, j, none⟩ v9) G 27 (cs.setIfInBounds j v9) ∧ Sl (w7.setCell ⟨G, j, none⟩ v9) wc.heap.size E size v9 n cs9 ∧ RAt (w7.setCell ⟨G, j, none⟩ v9) R t2 := by
  have z1 := hX.size
  have z2 := k6.size
  have z3 := k7.size
  have a6 : Keeps (fun k => k = R ∨ k = G) wc w6 := hX.trans k6 fun i _ h => .inl h
  have a7 : Keeps (fun k => k = R ∨ k = G) wc w7 := a6.trans k7 fun i hi h => absurd (hv i h) (by omega)
  have k8 : Keeps (fun k => k = G) w7 (w7.setCell ⟨G, j, none⟩ v9) := Keeps.setCell (F := fun k => k = G) (Keeps.refl _ _) (.inr rfl) _
  refine ⟨a7.trans k8 fun i _ h => .inr h, hb.set j v9, hs.keeps k8 (fun g hg e => by have := (hs.lt g hg).1; omega), (hra.keeps k7 (fun k hk e => by have := hv k e; omega)).keeps k8 (fun k hk e => by omega)⟩
def SX (w : World) (G R : Nat) (x1 x2 a7 a9 : Option Addr) (y1 y2 c7 c9 l1 l2 m2 k b' o' nU c' : Nat) (ub : Bool) : Prop :=
  (w.cell? ⟨G, 0, none⟩ = some (.slice x1 l1 y1) ∧ w.cell? ⟨G, 1, none⟩ = some (.slice x2 l2 y2) ∧ w.cell? ⟨G, 2, none⟩ = some (.slice a7 m2 c7) ∧ w.cell? ⟨G, 3, none⟩ = some (.slice a9 k c9)) ∧ w.cell? ⟨R, 0, none⟩ = some (.slice (some ⟨b', o', none⟩) nU c') ∧ w.cell? ⟨R, 1, none⟩ = some (.bool ub)
theorem zero_obj (w : World) : (zeroValue 27).run Try.prog w = .ok (.agg #[.slice none 0 0, .slice none 0 0, .slice none 0 0, .slice none 0 0]) w := by kernel_rfl
set_option maxRecDepth 100000 in
set_option maxHeartbeats 40000000 in
theorem read_any (w : World) (b o c : Nat) (ws : List Nat) (m0 m1 m2 m3 m4 : Nat) (hlen : ws.length ≤ 1000000) (hlc : ws.length ≤ c) (hcm : c ≤ maxLen) (hb : b < w.heap.size) (hcell : ∀ i x, ws[i]? = some x → w.cell? ⟨b, o + i, none⟩ = some (wv x)) (hlo : Lo ws)
    (hm0 : m0 ≤ 100000) (hm1 : m1 ≤ 100000) (hm2 : m2 ≤ 100000) (hm3 : m3 ≤ 100000) :
    Calls Try.prog 19 #[.slice (some ⟨b, o, none⟩) ws.length c, .agg #[.int .i64 (m0 : Int), .int .i64 (m1 : Int), .int .i64 (m2 : Int), .int .i64 (m3 : Int), .int .i64 (m4 : Int)]] w fun e w' =>
      ∃ v, e = .returned (.tuple #[v, .bool (!(readE ws m0 m1 m2 m3).2 && decide ((readE ws m0 m1 m2 m3).1 = []))]) ∧ ObAt w' v (readO ws m0 m1 m2 m3) ∧ New w w' := by
  obtain ⟨L, hL⟩ : ∃ L, L = ws.length := ⟨_, rfl⟩
  rw [← hL] at hlen hlc ⊢
  have hz := zero_obj
  obtain ⟨B, hB⟩ : ∃ B, B = w.heap.size := ⟨_, rfl⟩
  have HI := hid (And.intro hL (And.intro hcell (And.intro hlo (And.intro hb hcm))))
  clear hL hcell hlo hb hcm
  go_enter Try.func19, Try.ntmps19
  obtain ⟨w3, hw3⟩ : ∃ w3, w3 = ((w.alloc (.cells #[.int .i64 (m0 : Int), .int .i64 (m1 : Int), .int .i64 (m2 : Int), .int .i64 (m3 : Int), .int .i64 (m4 : Int)] 55)).alloc (.cells #[.slice none 0 0, .slice none 0 0, .slice none 0 0, .slice none 0 0] 27)).alloc (.cells #[.slice (some ⟨b, o, none⟩) L c, .bool false] 62) := ⟨_, rfl⟩
  obtain ⟨R, hR⟩ : ∃ R, R = w.heap.size + 1 + 1 := ⟨_, rfl⟩
  have hn3 : New w w3 := by rw [hw3]; exact (((New.refl w).alloc _).alloc _).alloc _
  have hm3' : Blk w3 B 55 #[.int .i64 (m0 : Int), .int .i64 (m1 : Int), .int .i64 (m2 : Int), .int .i64 (m3 : Int), .int .i64 (m4 : Int)] := by rw [hw3, hB]; exact (Blk.new w _ _).new_ (((New.refl _).alloc _).alloc _)
  have hC3 : Blk w3 (B + 1) 27 #[.slice none 0 0, .slice none 0 0, .slice none 0 0, .slice none 0 0] := by
    have := (Blk.new (w.alloc (.cells #[.int .i64 (m0 : Int), .int .i64 (m1 : Int), .int .i64 (m2 : Int), .int .i64 (m3 : Int), .int .i64 (m4 : Int)] 55)) 27 #[.slice none 0 0, .slice none 0 0, .slice none 0 0, .slice none 0 0]).new_ ((New.refl _).alloc (.cells #[.slice (some ⟨b, o, none⟩) L c, .bool false] 62))
    rw [hw3, hB]
    rw [World.size_alloc] at this
    exact this
  have hR3 : Blk w3 R 62 #[.slice (some ⟨b, o, none⟩) L c, .bool false] := by
    have := Blk.new ((w.alloc (.cells #[.int .i64 (m0 : Int), .int .i64 (m1 : Int), .int .i64 (m2 : Int), .int .i64 (m3 : Int), .int .i64 (m4 : Int)] 55)).alloc (.cells #[.slice none 0 0, .slice none 0 0, .slice none 0 0, .slice none 0 0] 27)) 62 #[.slice (some ⟨b, o, none⟩) L c, .bool false]
    rw [hw3, hR]
    rw [World.size_alloc, World.size_alloc] at this
    exact this
  have hra : RAt w3 R (ws, false) := ⟨b, o, c, by rw [show ((ws, false) : Rd).1.length = L from HI.out.1.symm]; exact hR3, by rw [show ((ws, false) : Rd).1.length = L from HI.out.1.symm]; exact hlc, HI.out.2.2.2.2, by have := HI.out.2.2.2.1; omega, fun i x hx => hn3.cellK (HI.out.2.1 i x hx)⟩
  have hBR : B < w3.heap.size ∧ B + 1 < w3.heap.size ∧ R < w3.heap.size := ⟨hm3'.lt, hC3.lt, hR3.lt⟩
  have hBne : B ≠ R ∧ B + 1 ≠ R ∧ w.heap.size ≤ B ∧ w.heap.size ≤ B + 1 ∧ w.heap.size ≤ R := by omega
  have HW := hid (And.intro hn3 (And.intro hm3' (And.intro hC3 (And.intro hra (And.intro hBR hBne)))))
  clear hm3' hC3 hR3 hra hBR hBne hn3
  go_upto_region 2 with fail
  rw [← hw3, ← hR, ← hB]
  clear hw3 hR hB
  obtain ⟨s1, hs1⟩ : ∃ s1, s1 = (takeR (ws, false) m0).2 := ⟨_, rfl⟩
  obtain ⟨s2, hs2⟩ : ∃ s2, s2 = (takeR s1 m1).2 := ⟨_, rfl⟩
  have suf1 : s1.1 <:+ ws := by rw [hs1]; exact takeR_suf _ _
  have suf2 : s2.1 <:+ ws := by rw [hs2]; exact (takeR_suf _ _).trans suf1
  have hl1 : s1.1.length ≤ 1000000 := by have := suf1.length_le; rw [← HI.out.1] at this; omega
  have hT0 := fun X (hX : New w3 X) => take_any X R (ws, false) m0 (HW.out.2.2.2.1.new_ hX) (by show ws.length ≤ _; rw [← HI.out.1]; exact hlen) (by omega)
  have hT1 := fun X (hX : RAt X R s1) => take_any X R s1 m1 hX hl1 (by omega)
  rw [← hs1] at hT0
  rw [← hs2] at hT1
  have HT0 := hid hT0
  have HT1 := hid hT1
  have HS := hid (And.intro hs1 (And.intro hs2 (And.intro suf1 suf2)))
  clear hT0 hT1 hs1 hs2 suf1 suf2
  have e0 : w3.cell? ⟨B, 0, none⟩ = some (.int .i64 (m0 : Int)) := by rw [HW.out.2.1.cell]; rfl
  have e1 : w3.cell? ⟨B, 1, none⟩ = some (.int .i64 (m1 : Int)) := by rw [HW.out.2.1.cell]; rfl
  have HSX : Hid (∀ X, New w3 X → X.cell? ⟨B, 0, none⟩ = some (.int .i64 (m0 : Int)) ∧ X.cell? ⟨B, 1, none⟩ = some (.int .i64 (m1 : Int))) := fun X hX => ⟨hX.cellK e0, hX.cellK e1⟩
  have HBR : Hid (¬ B = R) := HW.out.2.2.2.2.2.1
  clear e0 e1
  go_cut [7] from 11 to 19 (fun v wx => Two w3 R (takeR (ws, false) m0).1 (takeR s1 m1).1 s2 v wx)
  case first =>
    have ND : New w3 w3.drew := (New.refl _).drew
    have NA : ∀ o, New w3 (w3.alloc o).drew := fun o => ((New.refl _).alloc o).drew
    have HRL : Hid (R < w3.heap.size) := HW.out.2.2.2.2.1.2.2
    have HBL : Hid (B < w3.heap.size) := HW.out.2.2.2.2.1.1
    go_region_held3 (fun w' => w'.cell? ⟨B, 0, none⟩ = some (.int .i64 (m0 : Int)) ∧ w'.cell? ⟨B, 1, none⟩ = some (.int .i64 (m1 : Int))) (first | with_reducible exact S_set4 hS5 hGB | with_reducible exact HSX.out _ ND | with_reducible exact HSX.out _ (NA _) | with_reducible exact hS5 | with_reducible exact hS5a _ | with_reducible exact hS4 | with_reducible exact hS4a _) (first
      | (go_at_call 25; (with_reducible refine (HT1.out _ hra1).mono ?_); rintro e w5 ⟨v2, rfl, hv2, hn2, hra2, hk2⟩; have hS5 := S_keepR hk2 HBR.out hS4; have hS5a := fun o => S_new hS5 ((New.refl w5).alloc o); have hG5 := Blk.keeps hG4 hk2 (ne_R HRL.out (Nat.le_refl _)); have hGB := ne_R HBL.out (Nat.le_refl _); obtain ⟨g50, g51, g52, g53⟩ := blk4 hG5; have gf5 := hG5.frozen; obtain ⟨x2, y2, rfl, _⟩ := id hv2)
      | (go_at_call 25; (with_reducible refine (HT1.out _ hra1).mono ?_); rintro e w5 ⟨v2, rfl, hv2, hn2, hra2, hk2⟩; have hS5 := S_keepR hk2 HBR.out hS4; have hS5a := fun o => S_new hS5 ((New.refl w5).alloc o); obtain ⟨x2, y2, rfl, _⟩ := id hv2)
      | (go_at_call 25; (with_reducible refine (HT1.out _ (hra1.new_ ((New.refl _).alloc _))).mono ?_); rintro e w5 ⟨v2, rfl, hv2, hn2, hra2, hk2⟩; have hS5 := S_keepR hk2 HBR.out (hS4a _); have hS5a := fun o => S_new hS5 ((New.refl w5).alloc o); have hG5 := Blk.keeps (Blk.new w4 27 #[.slice none 0 0, .slice none 0 0, .slice none 0 0, .slice none 0 0]) hk2 (ne_R HRL.out hk1.size); have hGB := ne_R HBL.out hk1.size; obtain ⟨g50, g51, g52, g53⟩ := blk4 hG5; have gf5 := hG5.frozen; obtain ⟨x2, y2, rfl, _⟩ := id hv2)
      | (go_at_call 25; (with_reducible refine (HT0.out _ ND).mono ?_); rintro e w4 ⟨v1, rfl, hv1, hn1, hra1, hk1⟩; have hS4 := S_keepR hk1 HBR.out (HSX.out _ ND); have hS4a := fun o => S_new hS4 ((New.refl w4).alloc o); obtain ⟨x1, y1, rfl, _⟩ := id hv1)
      | (go_at_call 25; (with_reducible refine (HT0.out _ (NA _)).mono ?_); rintro e w4 ⟨v1, rfl, hv1, hn1, hra1, hk1⟩; have hS4 := S_keepR hk1 HBR.out (HSX.out _ (NA _)); have hS4a := fun o => S_new hS4 ((New.refl w4).alloc o); have hG4 := Blk.keeps (show Blk (w3.alloc (.cells #[.slice none 0 0, .slice none 0 0, .slice none 0 0, .slice none 0 0] 27)).drew w3.heap.size 27 #[.slice none 0 0, .slice none 0 0, .slice none 0 0, .slice none 0 0] from Blk.new w3 _ _) hk1 (ne_R HRL.out (Nat.le_refl _)); obtain ⟨x1, y1, rfl, _⟩ := id hv1))
    all_goals (go_wp2_with fail; go_meet)
    · exact two_meet ND hk1 (New.refl _) hk2 (((New.refl w5).alloc _).keeps _) (Nat.le_trans hk1.size hk2.size) HRL.out hv1 hv2 hn1 hn2 (fun g h1 h2 e => by have := hk2.size; omega) (fun g h1 h2 e => by omega) hra2 (Blk.new w5 _ _)
    · exact two_meet ND hk1 ((New.refl w4).alloc _) hk2 (set4_keeps w5 w4.heap.size _ _ _ _) hk1.size HRL.out hv1 hv2 hn1 hn2 (fun g h1 h2 e => by omega) (fun g h1 h2 e => by rw [World.size_alloc] at h1; omega) hra2 (set4_blk hG5 _ _ _ _)
    · exact two_meet (NA _) hk1 (New.refl _) hk2 (set4_keeps w5 w3.heap.size _ _ _ _) (Nat.le_refl _) HRL.out hv1 hv2 hn1 hn2 (fun g h1 h2 e => by rw [size_drew, World.size_alloc] at h1; omega) (fun g h1 h2 e => by have := hk1.size; rw [size_drew, World.size_alloc] at this; omega) hra2 (set4_blk hG5 _ _ _ _)
  case rest =>
    obtain ⟨G, v1, v2, rfl, hG, hb, hv1, hv2, n1, n2, hra, hk⟩ := hcut
    obtain ⟨x1, y1, hx1, _⟩ := id hv1
    obtain ⟨x2, y2, hx2, _⟩ := id hv2
    subst hx1 hx2
    generalize hl1 : (takeR (ws, false) m0).1 = L1 at *
    generalize hl2 : (takeR s1 m1).1 = L2 at *
    have hbm := HW.out.2.1.keeps hk HBR.out
    have hRL : R < w3.heap.size := HW.out.2.2.2.2.1.2.2
    have hBL : B < w3.heap.size := HW.out.2.2.2.2.1.1
    have hGc := hb.lt
    have hsz3 := hk.size
    have e2 : wc.cell? ⟨B, 2, none⟩ = some (.int .i64 (m2 : Int)) := by rw [hbm.cell]; rfl
    have HGR : Hid (¬ G = R) := by show ¬ G = R; omega
    have HRG : Hid (R < G) := by show R < G; omega
    have HLO : Hid (∀ t : Rd, t.1 <:+ s2.1 → t.1.length ≤ 1000000 ∧ Lo t.1) := fun t ht => by
      have h2 := ht.trans HS.out.2.2.2
      have := h2.length_le
      rw [← HI.out.1] at this
      exact ⟨by omega, HI.out.2.2.1.suf h2⟩
    have HC := hid (And.intro hG (And.intro hb (And.intro hv1 (And.intro hv2 (And.intro n1 (And.intro n2 (And.intro hra (And.intro hk hbm))))))))
    have HZ := hid (And.intro hRL (And.intro hBL (And.intro hGc (And.intro hsz3 (And.intro hl1 hl2)))))
    clear hG hb hv1 hv2 n1 n2 hra hk hbm hRL hBL hGc hsz3 hl1 hl2
    obtain ⟨ti, hti, hzz⟩ := Option.map_eq_some_iff.1 def_info
    simp only [Prod.mk.injEq] at hzz
    have HT := hid (And.intro hti hzz)
    clear hti hzz
    go_wp2_with fail
    go_loopw [22] (fun i wr => ∃ k : Nat, k ≤ m2 ∧ i = .int .i64 (k : Int) ∧ Keeps (fun k => k = R ∨ k = G) wc wr ∧ ∃ (ds : List Df) (t : Rd) (vd : Value), defsR k s2 = (ds, t) ∧ Blk wr G 27 #[.slice x1 L1.length y1, .slice x2 L2.length y2, vd, .slice none 0 0] ∧ Sl wr wc.heap.size 41 2 vd ds.length (flatOf ud ds) ∧ RAt wr R t) (fun i _ => m2 - (intOf i).toNat)
    case atStart => exact ⟨0, Nat.zero_le _, rfl, Keeps.refl _ _, [], s2, .slice none 0 0, rfl, HC.out.2.1, Sl.nil _ _ _ _, HC.out.2.2.2.2.2.2.1⟩
    case round =>
      obtain ⟨k, hk, rfl, hkp, ds, t, vd, hds, hbG, hsd, hrt⟩ := hrel
      by_cases hkn : k < m2
      · have w2' : IntKind.i64.wrap ((k : Int) + 1) = k + 1 := by rw [IntKind.wrap_i64]; omega
        have hlt : (k : Int) < (m2 : Int) := by omega
        obtain ⟨a7, c7, rfl⟩ := hsd.val
        have hdl : ds.length = k := by have := defsR_len k s2; rw [hds] at this; exact this
        rw [hdl] at hsd hbG
        have hts : t.1 <:+ s2.1 := by have := defsR_suf k s2; rw [hds] at this; exact this
        obtain ⟨q1, q2⟩ := HLO.out t hts
        cases hq1 : textR t with | mk nm t1 =>
        cases hq2 : numR t1 with | mk x t2 =>
        have ht1 : t1.1 <:+ s2.1 := by have := textR_suf t; rw [hq1] at this; exact this.trans hts
        obtain ⟨q3, q4⟩ := HLO.out t1 ht1
        have hsuc := defsR_succ hds hq1 hq2
        have hA1 := fun X (hX : RAt X R t) => rtext_any X R t hX q1 q2
        have hA2 := fun X (hX : RAt X R t1) => number_any X R t1 hX q3 q4
        rw [hq1] at hA1
        rw [hq2] at hA2
        have HA1 := hid hA1
        have HA2 := hid hA2
        have hown : ∀ g, (Value.slice a7 k c7).ownBlock = some g → wc.heap.size ≤ g := fun g hg => (hsd.lt g hg).1
        have HOR : Hid (∀ g, (Value.slice a7 k c7).ownBlock = some g → ¬ g = R) := fun g hg e => by have := hown g hg; have := HZ.out.1; have := HZ.out.2.2.2.1; omega
        have HOG : Hid (¬ (Value.slice a7 k c7).ownBlock = some G) := fun e => by have := hown G e; have := HZ.out.2.2.1; omega
        obtain ⟨g0, g1, g2, g3⟩ := blk4 hbG
        have HX := hid (And.intro hkp (And.intro hsuc (And.intro hbG (And.intro hsd (And.intro hrt hdl)))))
        have HSZ : Hid (wc.heap.size ≤ wr.drew.heap.size) := hkp.size
        have HRD := hid (hrt.new_ ((New.refl wr).drew))
        have HBD := hid (hbG.new_ ((New.refl wr).drew))
        have HSD := hid (hsd.new_ ((New.refl wr).drew))
        have p1 : k + 1 ≤ maxLen := by unfold maxLen; omega
        have p2 : (k + 1) * 24 ≤ 140737488355328 := by omega
        have hone : ∀ u ∈ ud (nm, (x : Int)), u.oneCell' = true := ud_one _
        have HON := hid hone
        clear hkp hsuc hbG hsd hrt hds hts q1 q2 q3 q4 ht1 hA1 hA2 hown hdl hone g0 g1 g3 e2 hq1 hq2
        go_wp2_with fail
        go_region_law (first
          | (go_simp; go_at_call 26; (with_reducible refine (HA1.out _ HRD.out).mono ?_); rintro e w5 ⟨rfl, hra5, hk5⟩; have hb5 := Blk.keeps HBD.out hk5 HGR.out; obtain ⟨_, _, g52, _⟩ := blk4 hb5; have hs5 := Sl.keeps HSD.out hk5 HOR.out)
          | (go_simp; go_at_call 27; (with_reducible refine (HA2.out _ hra5).mono ?_); rintro e w6 ⟨rfl, hra6, hk6⟩; have hb6 := Blk.keeps hb5 hk6 HGR.out; obtain ⟨_, _, g62, _⟩ := blk4 hb6; have ga62 := fun o => ((New.refl w6).alloc o).cellK g62; have hs6 := Sl.keeps hs5 hk6 HOR.out; have hz6 := Nat.le_trans HSZ.out (Nat.le_trans hk5.size hk6.size))
          | (refine step_append_sl rfl (.tmp 25) (.tmp 31) 24 rfl wc.heap.size 41 ti _ 2 24 Try.underlying24 HT.out.1 HT.out.2.1 HT.out.2.2.1 HT.out.2.2.2 rfl (by decide) (.slice a7 k c7) k _ (by simp [Act.eval, Act.put]) (hs6.alloc _) ⟨w6.heap.size, 0, none⟩ 1 1 (ud (nm, (x : Int))) (by simp [Act.eval, Act.put]) (by decide) rfl (news_one (l := ud (nm, (x : Int)))) HON.out p1 p2 (by rw [World.size_alloc]; omega) ?_; intro v7 w7 hs7 hg7 ho7; have hk7 := Keeps.grown (F := fun g => (Value.slice a7 k c7).ownBlock = some g) (((New.refl w6).alloc _).keeps _) hg7 (fun g hg => Or.inr hg); have hb7 := Blk.keeps hb6 hk7 HOG.out; obtain ⟨_, _, g72, _⟩ := blk4 hb7; have gf7 := blk4f hb7 2; obtain ⟨a9, c9, rfl⟩ := hs7.val))
        all_goals
          have hm := step_meet (j := 2) HX.out.1.drew (Keeps.trans hk5 hk6 fun i _ h => h) hk7 (fun g hg => (hs6.lt g hg).1) HRG.out HZ.out.2.2.1 hra6 hb7 hs7
          have HM := hid hm
          clear hm hs7 hg7 ho7 hk7 hb7 g72 gf7 hra5 hk5 hb5 g52 hs5 hra6 hk6 hb6 g62 ga62 hs6 hz6
          go_wp2_with fail
          refine ⟨⟨k + 1, by omega, by go_num, HM.out.1, ds ++ [(nm, (x : Int))], t2, _, HX.out.2.1, by simpa using HM.out.2.1, ?_, HM.out.2.2.2⟩, by simp [intOf]; omega⟩
          rw [List.length_append, HX.out.2.2.2.2.2, flatOf_app, flatOf_one]
          exact HM.out.2.2.1
      · have hke : m2 = k := by omega
        subst hke
        have hlt : ¬ (m2 : Int) < (m2 : Int) := by omega
        obtain ⟨wd, hwd⟩ : ∃ wd, wd = wr := ⟨_, rfl⟩
        subst hwd
        obtain ⟨a7, c7, rfl⟩ := hsd.val
        have hdl : ds.length = m2 := by have := defsR_len m2 s2; rw [hds] at this; exact this
        have hts : t.1 <:+ s2.1 := by have := defsR_suf m2 s2; rw [hds] at this; exact this
        have hBG : ¬ (B = R ∨ B = G) := by
          rintro (h | h)
          · exact HBR.out h
          · have := HC.out.1; have := HZ.out.2.1; omega
        have e3 : wd.cell? ⟨B, 3, none⟩ = some (.int .i64 (m3 : Int)) := by rw [(HC.out.2.2.2.2.2.2.2.2.keeps hkp hBG).cell]; rfl
        have hlsd : LsAt 2 ud wd (.slice a7 ds.length c7) ds := LsAt.of_sl ud_len hsd
        have hdo : ∀ g, (Value.slice a7 ds.length c7).ownBlock = some g → wc.heap.size ≤ g ∧ g < wd.heap.size := fun g hg => hsd.lt g hg
        rw [hdl] at hbG hlsd hdo
        obtain ⟨tj, htj, hzj⟩ := Option.map_eq_some_iff.1 link_info
        simp only [Prod.mk.injEq] at hzj
        have HJ := hid (And.intro htj hzj)
        have hGd : G < wd.heap.size := hbG.lt
        have HD := hid (And.intro hds (And.intro hkp (And.intro hlsd (And.intro hdo (And.intro hts (And.intro hGd (And.intro hbG hrt)))))))
        clear htj hzj hds hkp hlsd hdo hts hGd hbG hrt hsd hdl hBG e2 HT
        go_wp2_with fail
        clear e3
        go_loopw [37] (fun i wr => ∃ k : Nat, k ≤ m3 ∧ i = .int .i64 (k : Int) ∧ Keeps (fun k => k = R ∨ k = G) wd wr ∧ ∃ (ls : List Lk) (u : Rd) (vl : Value), linksR k t = (ls, u) ∧ Blk wr G 27 #[.slice x1 L1.length y1, .slice x2 L2.length y2, .slice a7 m2 c7, vl] ∧ Sl wr wd.heap.size 43 3 vl ls.length (flatOf ul ls) ∧ RAt wr R u) (fun i _ => m3 - (intOf i).toNat)
        case atStart => exact ⟨0, Nat.zero_le _, rfl, Keeps.refl _ _, [], t, .slice none 0 0, rfl, HD.out.2.2.2.2.2.2.1, Sl.nil _ _ _ _, HD.out.2.2.2.2.2.2.2⟩
        case round =>
          obtain ⟨k, hk, rfl, hkp, ls, u, vl, hds, hbG, hsd, hrt⟩ := hrel
          by_cases hkn : k < m3
          · have w2' : IntKind.i64.wrap ((k : Int) + 1) = k + 1 := by rw [IntKind.wrap_i64]; omega
            have hlt : (k : Int) < (m3 : Int) := by omega
            obtain ⟨a8, c8, rfl⟩ := hsd.val
            have hdl : ls.length = k := by have := linksR_len k t; rw [hds] at this; exact this
            rw [hdl] at hsd hbG
            have hts : u.1 <:+ s2.1 := by have := linksR_suf k t; rw [hds] at this; exact this.trans HD.out.2.2.2.2.1
            obtain ⟨q1, q2⟩ := HLO.out u hts
            cases hq0 : textR u with | mk sg u0 =>
            cases hq1 : textR u0 with | mk nm u1 =>
            cases hq2 : numR u1 with | mk x u2 =>
            have ht0 : u0.1 <:+ s2.1 := by have := textR_suf u; rw [hq0] at this; exact this.trans hts
            have ht1 : u1.1 <:+ s2.1 := by have := textR_suf u0; rw [hq1] at this; exact this.trans ht0
            obtain ⟨q5, q6⟩ := HLO.out u0 ht0
            obtain ⟨q3, q4⟩ := HLO.out u1 ht1
            have hsuc := linksR_succ hds hq0 hq1 hq2
            have hA0 := fun X (hX : RAt X R u) => rtext_any X R u hX q1 q2
            have hA1 := fun X (hX : RAt X R u0) => rtext_any X R u0 hX q5 q6
            have hA2 := fun X (hX : RAt X R u1) => number_any X R u1 hX q3 q4
            rw [hq0] at hA0
            rw [hq1] at hA1
            rw [hq2] at hA2
            have HA0 := hid hA0
            have HA1 := hid hA1
            have HA2 := hid hA2
            have hown : ∀ g, (Value.slice a8 k c8).ownBlock = some g → wd.heap.size ≤ g := fun g hg => (hsd.lt g hg).1
            have HOR : Hid (∀ g, (Value.slice a8 k c8).ownBlock = some g → ¬ g = R) := fun g hg e => by have := hown g hg; have := HRG.out; have := HD.out.2.2.2.2.2.1; omega
            have HOG : Hid (¬ (Value.slice a8 k c8).ownBlock = some G) := fun e => by have := hown G e; have := HD.out.2.2.2.2.2.1; omega
            obtain ⟨g0, g1, g2, g3⟩ := blk4 hbG
            have HX := hid (And.intro hkp (And.intro hsuc hdl))
            have HSZ : Hid (wd.heap.size ≤ wr.drew.heap.size) := hkp.size
            have HRD := hid (hrt.new_ ((New.refl wr).drew))
            have HBD := hid (hbG.new_ ((New.refl wr).drew))
            have HSD := hid (hsd.new_ ((New.refl wr).drew))
            have p1 : k + 1 ≤ maxLen := by unfold maxLen; omega
            have p2 : (k + 1) * 40 ≤ 140737488355328 := by omega
            have hone : ∀ v ∈ ul (sg, nm, (x : Int)), v.oneCell' = true := ul_one _
            have HON := hid hone
            clear hkp hsuc hbG hsd hrt hds hts q1 q2 q3 q4 q5 q6 ht0 ht1 hA0 hA1 hA2 hown hdl hone g0 g1 g2 hq0 hq1 hq2
            go_wp2_with fail
            go_region_law (first
              | (go_simp; go_at_call 26; (with_reducible refine (HA1.out _ hra4).mono ?_); rintro e w5 ⟨rfl, hra5, hk5⟩; have hb5 := Blk.keeps hb4 hk5 HGR.out; obtain ⟨_, _, _, g53⟩ := blk4 hb5; have hs5 := Sl.keeps hs4 hk5 HOR.out)
              | (go_simp; go_at_call 26; (with_reducible refine (HA0.out _ HRD.out).mono ?_); rintro e w4 ⟨rfl, hra4, hk4⟩; have hb4 := Blk.keeps HBD.out hk4 HGR.out; obtain ⟨_, _, _, g43⟩ := blk4 hb4; have hs4 := Sl.keeps HSD.out hk4 HOR.out)
              | (go_simp; go_at_call 27; (with_reducible refine (HA2.out _ hra5).mono ?_); rintro e w6 ⟨rfl, hra6, hk6⟩; have hb6 := Blk.keeps hb5 hk6 HGR.out; obtain ⟨_, _, _, g63⟩ := blk4 hb6; have ga63 := fun o => ((New.refl w6).alloc o).cellK g63; have hs6 := Sl.keeps hs5 hk6 HOR.out; have hz6 := Nat.le_trans HSZ.out (Nat.le_trans hk4.size (Nat.le_trans hk5.size hk6.size)))
              | (refine step_append_sl rfl (.tmp 40) (.tmp 48) 25 rfl wd.heap.size 43 tj _ 3 40 Try.underlying25 HJ.out.1 HJ.out.2.1 HJ.out.2.2.1 HJ.out.2.2.2 rfl (by decide) (.slice a8 k c8) k _ (by simp [Act.eval, Act.put]) (hs6.alloc _) ⟨w6.heap.size, 0, none⟩ 1 1 (ul (sg, nm, (x : Int))) (by simp [Act.eval, Act.put]) (by decide) rfl (news_one (l := ul (sg, nm, (x : Int)))) HON.out p1 p2 (by rw [World.size_alloc]; omega) ?_; intro v7 w7 hs7 hg7 ho7; have hk7 := Keeps.grown (F := fun g => (Value.slice a8 k c8).ownBlock = some g) (((New.refl w6).alloc _).keeps _) hg7 (fun g hg => Or.inr hg); have hb7 := Blk.keeps hb6 hk7 HOG.out; obtain ⟨_, _, _, g73⟩ := blk4 hb7; have gf7 := blk4f hb7 3; obtain ⟨a9, c9, rfl⟩ := hs7.val))
            all_goals
              have hm := step_meet (j := 3) HX.out.1.drew (Keeps.trans (Keeps.trans hk4 hk5 fun i _ h => h) hk6 fun i _ h => h) hk7 (fun g hg => (hs6.lt g hg).1) HRG.out HD.out.2.2.2.2.2.1 hra6 hb7 hs7
              have HM := hid hm
              clear hm hs7 hg7 ho7 hk7 hb7 g73 gf7 hra4 hk4 hb4 g43 hs4 hra5 hk5 hb5 g53 hs5 hra6 hk6 hb6 g63 ga63 hs6 hz6
              go_wp2_with fail
              refine ⟨⟨k + 1, by omega, by go_num, HM.out.1, ls ++ [(sg, nm, (x : Int))], u2, _, HX.out.2.1, by simpa using HM.out.2.1, ?_, HM.out.2.2.2⟩, by simp [intOf]; omega⟩
              rw [List.length_append, HX.out.2.2, flatOf_app, flatOf_one]
              exact HM.out.2.2.1
          · have hke : m3 = k := by omega
            have hdl : ls.length = k := by have := linksR_len k t; rw [hds] at this; exact this
            obtain ⟨a9, c9, rfl⟩ := hsd.val
            have hBG1 : ¬ (B + 1 = R ∨ B + 1 = G) := by
              rintro (h | h)
              · exact HW.out.2.2.2.2.2.2.1 h
              · have := HC.out.1; have := HW.out.2.2.2.2.1.2.1; omega
            have hlsl : LsAt 3 ul wr (.slice a9 ls.length c9) ls := LsAt.of_sl ul_len hsd
            rw [hdl] at hbG hlsl hsd
            have hkw : Keeps (fun k => k = R ∨ k = G) wc wr := HD.out.2.1.trans hkp fun i _ h => h
            have hk3 : Keeps (fun k => k = R ∨ k = G) w3 wr := (HC.out.2.2.2.2.2.2.2.1.mono (fun i _ h => .inl h)).trans hkw fun i _ h => h
            have hbC : Blk wr (B + 1) 27 #[.slice none 0 0, .slice none 0 0, .slice none 0 0, .slice none 0 0] := (HW.out.2.2.1.keeps HC.out.2.2.2.2.2.2.2.1 HW.out.2.2.2.2.2.2.1).keeps hkw hBG1
            have hv1' : LsAt 1 uw wr (.slice x1 L1.length y1) L1 := HC.out.2.2.1.keeps hkw (fun g hg => by have := HC.out.2.2.2.2.1 g hg; have := HRG.out; have := HZ.out.1; omega)
            have hv2' : LsAt 1 uw wr (.slice x2 L2.length y2) L2 := HC.out.2.2.2.1.keeps hkw (fun g hg => by have := HC.out.2.2.2.2.2.1 g hg; have := HRG.out; have := HZ.out.1; omega)
            have hvd' : LsAt 2 ud wr (.slice a7 m2 c7) ds := HD.out.2.2.1.keeps hkp (fun g hg => by have := HD.out.2.2.2.1 g hg; have := HRG.out; have := HZ.out.2.2.1; omega)
            obtain ⟨b', o', c', hrb, _, _, _, _⟩ := id hrt
            obtain ⟨U, ub⟩ := u
            obtain ⟨nU, hnU⟩ : ∃ nU, nU = U.length := ⟨_, rfl⟩
            simp only at hrb
            rw [← hnU] at hrb
            have hnU' := hnU
            have r0 : wr.cell? ⟨R, 0, none⟩ = some (.slice (some ⟨b', o', none⟩) nU c') := by rw [hrb.cell]; rfl
            have r1 : wr.cell? ⟨R, 1, none⟩ = some (.bool ub) := by rw [hrb.cell]; rfl
            obtain ⟨g0, g1, g2, g3⟩ := blk4 hbG
            obtain ⟨p0, p1, p2, p3⟩ := blk4 hbC
            have pf := hbC.frozen
            have hE : readE ws m0 m1 m2 m3 = (U, ub) := by
              unfold readE
              rw [← HS.out.1, ← HS.out.2.1, HD.out.1, hke, hds]
            have hO : readO ws m0 m1 m2 m3 = ⟨L1, L2, ds, ls⟩ := by
              unfold readO
              simp only
              rw [← HS.out.1, ← HS.out.2.1, HD.out.1, hke, hds, HZ.out.2.2.2.2.1, HZ.out.2.2.2.2.2]
            have k4 := set4_keeps wr (B + 1) (.slice x1 L1.length y1) (.slice x2 L2.length y2) (.slice a7 m2 c7) (.slice a9 k c9)
            have hnew : New w (set4 wr (B + 1) (.slice x1 L1.length y1) (.slice x2 L2.length y2) (.slice a7 m2 c7) (.slice a9 k c9)).drew := by
              have n1 : New w wr := HW.out.1.kept hk3 (fun i h => by
                rcases h with h | h
                · rw [h]; exact HW.out.2.2.2.2.2.2.2.2.2
                · rw [h]; exact Nat.le_trans HW.out.1.size HC.out.1)
              exact (n1.kept k4 (fun i h => by rw [h]; exact HW.out.2.2.2.2.2.2.2.2.1)).drew
            have hob : ObAt (set4 wr (B + 1) (.slice x1 L1.length y1) (.slice x2 L2.length y2) (.slice a7 m2 c7) (.slice a9 k c9)).drew (.agg #[.slice x1 L1.length y1, .slice x2 L2.length y2, .slice a7 m2 c7, .slice a9 k c9]) (readO ws m0 m1 m2 m3) := by
              rw [hO]
              refine ⟨_, _, _, _, rfl, hv1'.keeps k4.drew (fun g hg e => ?_), hv2'.keeps k4.drew (fun g hg e => ?_), hvd'.keeps k4.drew (fun g hg e => ?_), hlsl.keeps k4.drew (fun g hg e => ?_)⟩
              · have := HC.out.2.2.2.2.1 g hg; have := HW.out.2.2.2.2.1.2.1; omega
              · have := HC.out.2.2.2.2.2.1 g hg; have := HW.out.2.2.2.2.1.2.1; omega
              · have := HD.out.2.2.2.1 g hg; have := HW.out.2.2.2.2.1.2.1; have := HZ.out.2.2.2.1; omega
              · have := (hsd.lt g hg).1; have := HW.out.2.2.2.2.1.2.1; have := HZ.out.2.2.2.1; have := HD.out.2.1.size; omega
            obtain ⟨h0, h1, h2, h3⟩ := blk4 (set4_blk hbC (.slice x1 L1.length y1) (.slice x2 L2.length y2) (.slice a7 m2 c7) (.slice a9 k c9))
            have hGB : ¬ G = B + 1 := fun e => hBG1 (.inr e.symm)
            have hRB : ¬ R = B + 1 := fun e => hBG1 (.inl e.symm)
            have hS0 : SX wr.drew G R x1 x2 a7 a9 y1 y2 c7 c9 L1.length L2.length m2 k b' o' nU c' ub := ⟨⟨g0, g1, g2, g3⟩, r0, r1⟩
            have hS1 : SX (set4 wr (B + 1) (.slice x1 L1.length y1) (.slice x2 L2.length y2) (.slice a7 m2 c7) (.slice a9 k c9)).drew G R x1 x2 a7 a9 y1 y2 c7 c9 L1.length L2.length m2 k b' o' nU c' ub := ⟨⟨k4.cell g0 hGB, k4.cell g1 hGB, k4.cell g2 hGB, k4.cell g3 hGB⟩, k4.cell r0 hRB, k4.cell r1 hRB⟩
            unfold set4 at h0 h1 h2 h3 hS1
            unfold SX at hS0 hS1
            have FIN := hid (And.intro hE (And.intro hob hnew))
            clear hbC hv1' hv2' hvd' hrb hnU hE hO hnew hob hkw hk3 hlsl hbG hsd hrt hds hkp hBG1 k4 hdl HJ
            have hlt : ¬ (k : Int) < (m3 : Int) := by omega
            have HE := hid (And.intro hke hnU')
            clear hke hnU'
            cases ub with
            | true =>
              go_wp2_with fail
              refine wp_region_held_drew (S := (fun w' => (w'.cell? ⟨G, 0, none⟩ = some (.slice x1 L1.length y1) ∧ w'.cell? ⟨G, 1, none⟩ = some (.slice x2 L2.length y2) ∧ w'.cell? ⟨G, 2, none⟩ = some (.slice a7 m2 c7) ∧ w'.cell? ⟨G, 3, none⟩ = some (.slice a9 k c9)) ∧ w'.cell? ⟨R, 0, none⟩ = some (.slice (some ⟨b', o', none⟩) nU c') ∧ w'.cell? ⟨R, 1, none⟩ = some (.bool true))) (by kernel_rfl) hS0 (fun hHeld => ?_)
              refine wpAnyH_take (i := 0) (v := ?_) rfl (by kernel_rfl) (by kernel_rfl) (by kernel_rfl) (fun _ _ _ h => h) (Or.inl ⟨by rfl, ?_⟩) (by assumption) ?_
              rotate_left
              · intro w hSw
                try dsimp only at hSw
                go_simp
                with_reducible rfl
              try simp only [List.getElem_toArray, List.getElem_cons_zero, List.getElem_cons_succ, Act.put, List.setIfInBounds_toArray, List.set_cons_zero, List.set_cons_succ]
              refine wpAnyH_take (i := 1) (v := ?_) rfl (by kernel_rfl) (by kernel_rfl) (by kernel_rfl) (fun _ _ _ h => h) (Or.inl ⟨by rfl, ?_⟩) (by assumption) ?_
              rotate_left
              · intro w hSw
                try dsimp only at hSw
                go_simp
                with_reducible rfl
              try simp only [List.getElem_toArray, List.getElem_cons_zero, List.getElem_cons_succ, Act.put, List.setIfInBounds_toArray, List.set_cons_zero, List.set_cons_succ]
              refine wpAnyH_take (i := 2) (v := ?_) rfl (by kernel_rfl) (by kernel_rfl) (by kernel_rfl) (fun _ _ _ h => h) (Or.inl ⟨by rfl, ?_⟩) (by assumption) ?_
              rotate_left
              · intro w hSw
                try dsimp only at hSw
                go_simp
                with_reducible rfl
              try simp only [List.getElem_toArray, List.getElem_cons_zero, List.getElem_cons_succ, Act.put, List.setIfInBounds_toArray, List.set_cons_zero, List.set_cons_succ]
              refine wpAnyH_take (i := 3) (v := ?_) rfl (by kernel_rfl) (by kernel_rfl) (by kernel_rfl) (fun _ _ _ h => h) (Or.inl ⟨by rfl, ?_⟩) (by assumption) ?_
              rotate_left
              · intro w hSw
                try dsimp only at hSw
                go_simp
                with_reducible rfl
              try simp only [List.getElem_toArray, List.getElem_cons_zero, List.getElem_cons_succ, Act.put, List.setIfInBounds_toArray, List.set_cons_zero, List.set_cons_succ]
              refine wpAnyH_take (i := 4) (v := ?_) rfl (by kernel_rfl) (by kernel_rfl) (by kernel_rfl) (fun _ _ _ h => h) (Or.inl ⟨by rfl, ?_⟩) (by assumption) ?_
              rotate_left
              · intro w hSw
                try dsimp only at hSw
                go_simp
                with_reducible rfl
              try simp only [List.getElem_toArray, List.getElem_cons_zero, List.getElem_cons_succ, Act.put, List.setIfInBounds_toArray, List.set_cons_zero, List.set_cons_succ]
              refine wpAnyH_take (i := 5) (v := ?_) rfl (by kernel_rfl) (by kernel_rfl) (by kernel_rfl) (fun _ _ _ h => h) (Or.inl ⟨by rfl, ?_⟩) (by assumption) ?_
              rotate_left
              · intro w hSw
                try dsimp only at hSw
                go_simp
                with_reducible rfl
              try simp only [List.getElem_toArray, List.getElem_cons_zero, List.getElem_cons_succ, Act.put, List.setIfInBounds_toArray, List.set_cons_zero, List.set_cons_succ]
              refine wpAnyH_take (i := 6) (v := ?_) rfl (by kernel_rfl) (by kernel_rfl) (by kernel_rfl) (fun _ _ _ h => h) (Or.inl ⟨by rfl, ?_⟩) (by assumption) ?_
              rotate_left
              · intro w hSw
                try dsimp only at hSw
                go_simp
                with_reducible rfl
              try simp only [List.getElem_toArray, List.getElem_cons_zero, List.getElem_cons_succ, Act.put, List.setIfInBounds_toArray, List.set_cons_zero, List.set_cons_succ]
              refine wpAnyH_take (i := 7) (v := undef) rfl (by kernel_rfl) (by kernel_rfl) (by kernel_rfl) (fun _ _ _ h => h) (Or.inr ⟨by rfl, rfl⟩) (by assumption) ?_
              try simp only [List.getElem_toArray, List.getElem_cons_zero, List.getElem_cons_succ, Act.put, List.setIfInBounds_toArray, List.set_cons_zero, List.set_cons_succ]
              refine wpAnyH_take (i := 8) (v := undef) rfl (by kernel_rfl) (by kernel_rfl) (by kernel_rfl) (fun _ _ _ h => h) (Or.inr ⟨by rfl, rfl⟩) (by assumption) ?_
              try simp only [List.getElem_toArray, List.getElem_cons_zero, List.getElem_cons_succ, Act.put, List.setIfInBounds_toArray, List.set_cons_zero, List.set_cons_succ]
              refine wpAnyH_take (i := 9) (v := undef) rfl (by kernel_rfl) (by kernel_rfl) (by kernel_rfl) (fun _ _ _ h => h) (Or.inr ⟨by rfl, rfl⟩) (by assumption) ?_
              try simp only [List.getElem_toArray, List.getElem_cons_zero, List.getElem_cons_succ, Act.put, List.setIfInBounds_toArray, List.set_cons_zero, List.set_cons_succ]
              refine wpAnyH_take (i := 10) (v := undef) rfl (by kernel_rfl) (by kernel_rfl) (by kernel_rfl) (fun _ _ _ h => h) (Or.inr ⟨by rfl, rfl⟩) (by assumption) ?_
              try simp only [List.getElem_toArray, List.getElem_cons_zero, List.getElem_cons_succ, Act.put, List.setIfInBounds_toArray, List.set_cons_zero, List.set_cons_succ]
              refine wpAnyH_take (i := 11) (v := undef) rfl (by kernel_rfl) (by kernel_rfl) (by kernel_rfl) (fun _ _ _ h => h) (Or.inr ⟨by rfl, rfl⟩) (by assumption) ?_
              try simp only [List.getElem_toArray, List.getElem_cons_zero, List.getElem_cons_succ, Act.put, List.setIfInBounds_toArray, List.set_cons_zero, List.set_cons_succ]
              refine wpAnyH_take (i := 12) (v := undef) rfl (by kernel_rfl) (by kernel_rfl) (by kernel_rfl) (fun _ _ _ h => h) (Or.inr ⟨by rfl, rfl⟩) (by assumption) ?_
              try simp only [List.getElem_toArray, List.getElem_cons_zero, List.getElem_cons_succ, Act.put, List.setIfInBounds_toArray, List.set_cons_zero, List.set_cons_succ]
              refine wpAnyH_take (i := 13) (v := ?_) rfl (by kernel_rfl) (by kernel_rfl) (by kernel_rfl) (fun _ _ _ h => h) (Or.inl ⟨by rfl, ?_⟩) (by assumption) ?_
              rotate_left
              · intro w hSw
                try dsimp only at hSw
                go_simp
                with_reducible rfl
              try simp only [List.getElem_toArray, List.getElem_cons_zero, List.getElem_cons_succ, Act.put, List.setIfInBounds_toArray, List.set_cons_zero, List.set_cons_succ]
              refine wpAnyH_ready (rs := [14]) (by kernel_rfl) (by simp) ?_
              refine AllReadyH.cons rfl (fun K hK => ?_) AllReadyH.nil
              go_simp
              refine hK.out _ _ ?_ (fun hHeld => ?_)
              · exact hS1
              clear hK K
              try simp only [List.getElem_toArray, List.getElem_cons_zero, List.getElem_cons_succ, Act.put, List.setIfInBounds_toArray, List.set_cons_zero, List.set_cons_succ]
              refine wpAnyH_ready (rs := [15]) (by kernel_rfl) (by simp) ?_
              refine AllReadyH.cons rfl (fun K hK => ?_) AllReadyH.nil
              go_simp
              refine hK.out _ _ ?_ (fun hHeld => ?_)
              · exact hS1
              clear hK K
              try simp only [List.getElem_toArray, List.getElem_cons_zero, List.getElem_cons_succ, Act.put, List.setIfInBounds_toArray, List.set_cons_zero, List.set_cons_succ]
              refine wpAnyH_done (by kernel_rfl) ?_ _
              all_goals
                go_wp2_with fail
                refine bodyPost_ret (v := .tuple #[.agg #[.slice x1 L1.length y1, .slice x2 L2.length y2, .slice a7 m2 c7, .slice a9 k c9], .bool false]) (by simp [results, Try.results19, go_sem, h0, h1, h2, h3]) rfl ?_
                exact ⟨_, by rw [FIN.out.1]; simp, FIN.out.2⟩
            | false =>
              by_cases hn0 : nU = 0
              · have hn0' : (nU : Int) = 0 := by omega
                have hU : U = [] := List.eq_nil_of_length_eq_zero (by rw [← HE.out.2]; exact hn0)
                have HU := hid hU
                clear hU
                go_wp2_with fail
                (first | (go_region_held3 (fun w' => (w'.cell? ⟨G, 0, none⟩ = some (.slice x1 L1.length y1) ∧ w'.cell? ⟨G, 1, none⟩ = some (.slice x2 L2.length y2) ∧ w'.cell? ⟨G, 2, none⟩ = some (.slice a7 m2 c7) ∧ w'.cell? ⟨G, 3, none⟩ = some (.slice a9 k c9)) ∧ w'.cell? ⟨R, 0, none⟩ = some (.slice (some ⟨b', o', none⟩) nU c') ∧ w'.cell? ⟨R, 1, none⟩ = some (.bool false)) (first | with_reducible exact hS0 | with_reducible exact hS1) (fail)) | fail)
                all_goals
                  go_wp2_with fail
                  refine bodyPost_ret (v := .tuple #[.agg #[.slice x1 L1.length y1, .slice x2 L2.length y2, .slice a7 m2 c7, .slice a9 k c9], .bool true]) (by simp [results, Try.results19, go_sem, h0, h1, h2, h3]) rfl ?_
                  exact ⟨_, by rw [FIN.out.1]; simp [HU.out], FIN.out.2⟩
              · have hn0' : ¬ (nU : Int) = 0 := by omega
                have hU : ¬ U = [] := fun e => hn0 (by rw [HE.out.2, e]; rfl)
                have HU := hid hU
                clear hU
                go_wp2_with fail
                (first | (go_region_held3 (fun w' => (w'.cell? ⟨G, 0, none⟩ = some (.slice x1 L1.length y1) ∧ w'.cell? ⟨G, 1, none⟩ = some (.slice x2 L2.length y2) ∧ w'.cell? ⟨G, 2, none⟩ = some (.slice a7 m2 c7) ∧ w'.cell? ⟨G, 3, none⟩ = some (.slice a9 k c9)) ∧ w'.cell? ⟨R, 0, none⟩ = some (.slice (some ⟨b', o', none⟩) nU c') ∧ w'.cell? ⟨R, 1, none⟩ = some (.bool false)) (first | with_reducible exact hS0 | with_reducible exact hS1) (fail)) | fail)
                all_goals
                  go_wp2_with fail
                  refine bodyPost_ret (v := .tuple #[.agg #[.slice x1 L1.length y1, .slice x2 L2.length y2, .slice a7 m2 c7, .slice a9 k c9], .bool false]) (by simp [results, Try.results19, go_sem, h0, h1, h2, h3, hn0]) rfl ?_
                  exact ⟨_, by rw [FIN.out.1]; simp [HU.out], FIN.out.2⟩
end Go.Proofs.Ytnoahdobgndmnaa.Obj
