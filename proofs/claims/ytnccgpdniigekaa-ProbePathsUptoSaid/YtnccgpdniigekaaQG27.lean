/-
  Plain: the examples of 'shown'.
-/
import Derived.Test.YtnccgpdniigekaaQG26
namespace Go.Proofs.Ytnccgpdniigekaa
open Go.RowKit
set_option linter.unusedVariables false
set_option linter.unusedSimpArgs false

def lvK : List Int := [0, 1, 2, 3, 100, 101, 102]
theorem lvK_ok : U64s lvK := by intro k hk; unfold lvK at hk; simp at hk; unfold u64ok; omega
theorem lv_seg {K : List Int} {E : List Nat} {i : Nat} (p t : Nat) (hp : begN E i = p) (ht : E.getD i 0 = t) (he : (lineOf (stretch K p t) 2).2 = 0) (hU : U64s K) (hl : K.length ≤ 100) (hp2 : p < t) (ht2 : t ≤ K.length) :
    ∃ s, segI K 2 E i = s ∧ s.first = (stretch K p t).getD 0 0 ∧ s.fr = p ∧ s.up = t := by
  have hlen := stretch_len (K := K) (p := p) ht2
  obtain ⟨s, W, h1, h2, h3, h4, h5, h6, _⟩ := of_bound he (hU.stretch p t) (by omega) (fr := (p : Int)) (by omega) (by omega)
  refine ⟨s, ?_, h4, h5, by rw [h6, hlen]; omega⟩
  unfold segI
  rw [hp, ht, h1]
theorem lv_over {K : List Int} (hg : Good 2 K) : overL K 2 = segsN K 2 (endsL (2 - 1) K) (endsL (2 - 1) K).length := by
  have : ansL 2 K = endsL (2 - 1) K := by unfold ansL; rw [if_pos hg]
  unfold overL; rw [this]
theorem lv_build : ∃ s1 s2 s3 : Sg, buildL 2 lvK = [[s1, s2], [s3]] ∧ s1.up = 4 ∧ s2.fr = 4 ∧ s2.first = 100 ∧ s2.up = 7 ∧ s3.up = 2 := by
  have g1 : Good 2 lvK := ⟨by decide, by decide, by decide +kernel⟩
  have e1 : endsL (2 - 1) lvK = [4, 7] := by decide +kernel
  obtain ⟨s1, a1, a2, a3, a4⟩ := lv_seg (K := lvK) (E := [4, 7]) (i := 0) 0 4 rfl rfl (by decide +kernel) lvK_ok (by decide) (by omega) (by decide)
  obtain ⟨s2, b1, b2, b3, b4⟩ := lv_seg (K := lvK) (E := [4, 7]) (i := 1) 4 7 rfl rfl (by decide +kernel) lvK_ok (by decide) (by omega) (by decide)
  have o1 : overL lvK 2 = [s1, s2] := by
    rw [lv_over g1, e1, ← a1, ← b1]; rfl
  have f1 : firstsL [s1, s2] = [0, 100] := by
    show [s1.first, s2.first] = [0, 100]
    rw [a2, b2]; rfl
  have u2 : U64s ([0, 100] : List Int) := by intro k hk; simp at hk; unfold u64ok; omega
  have g2 : Good 2 [0, 100] := ⟨by decide, by decide, by decide +kernel⟩
  have e2 : endsL (2 - 1) [0, 100] = [2] := by decide +kernel
  obtain ⟨s3, c1, c2, c3, c4⟩ := lv_seg (K := [0, 100]) (E := [2]) (i := 0) 0 2 rfl rfl (by decide +kernel) u2 (by decide) (by omega) (by decide)
  have o2 : overL [0, 100] 2 = [s3] := by
    rw [lv_over g2, e2, ← c1]; rfl
  refine ⟨s1, s2, s3, ?_, by rw [a4]; rfl, by rw [b3]; rfl, by rw [b2]; rfl, by rw [b4]; rfl, by rw [c4]; rfl⟩
  rw [buildL_more (by decide) (by rw [o1]; simp), o1, f1, buildL_one (by decide) (by rw [o2]; rfl), o2]
theorem lv_high : maxH 2 100 = 7 := by
  rw [maxH_more (by omega) (by omega), maxH_more (by omega) (by omega), maxH_more (by omega) (by omega), maxH_more (by omega) (by omega), maxH_more (by omega) (by omega), maxH_more (by omega) (by omega), maxH_one (by decide)]
theorem mh_one {eps : Int} (h1 : 2 ≤ eps) (h2 : eps ≤ 64) : 1 ≤ mhI 4294967296 eps := by
  unfold mhI; rw [if_neg (by omega)]
  have := (maxH_le (eps := eps.toNat) (by omega) 4294967296 (by omega)).1
  have e : (4294967296 : Int).toNat = 4294967296 := rfl
  rw [e]; omega
theorem chk_single {K : List Int} {eps c : Int} {l : List Sg} (h1 : 2 ≤ eps) (h2 : eps ≤ 64) (h3 : K.Pairwise (· < ·)) (h4 : 0 < K.length) (h5 : levE eps [l] K = c) : chkI K eps [l] = c := by
  have := mh_one h1 h2
  unfold chkI
  have hx : ¬ (mhI 4294967296 eps < (([l] : List (List Sg)).length : Int) ∨ ¬ (([l] : List (List Sg)).length = 0 ↔ K.length = 0)) := by
    rintro (h | h)
    · simp at h; omega
    · exact h ⟨fun hh => by simp at hh, fun hh => by omega⟩
  rw [if_neg (by omega), if_neg (by simp [h3]), if_neg hx, if_neg (by simp), h5]
def sOne : Sg := ⟨7, 0, 0, 0, 1⟩
def sTwo : Sg := ⟨9, 0, 0, 1, 2⟩
def sOff : Sg := ⟨0, 0, 0, 0, 6⟩
theorem ex_one : chkI [7] 2 [[sOne]] = 0 := chk_single (by decide) (by decide) (by simp) (by decide) (by decide +kernel)
theorem ex_none : chkI [7] 2 [] = 81 := by
  unfold chkI; rw [if_neg (by omega), if_neg (by simp), if_pos (by simp)]
theorem ex_off : chkI [0, 1, 2, 3, 4, 5] 2 [[sOff]] = 85 := chk_single (by decide) (by decide) (by simp) (by decide) (by decide +kernel)
theorem ex_root : chkI [7, 9] 2 [[sOne, sTwo]] = 84 := chk_single (by decide) (by decide) (by simp) (by decide) (by decide +kernel)
theorem sOne_ok : SgOk sOne := ⟨by unfold u64ok sOne; decide, by decide, by decide, by unfold i64ok sOne; decide, by unfold i64ok sOne; decide⟩
theorem sTwo_ok : SgOk sTwo := ⟨by unfold u64ok sTwo; decide, by decide, by decide, by unfold i64ok sTwo; decide, by unfold i64ok sTwo; decide⟩
theorem sOff_ok : SgOk sOff := ⟨by unfold u64ok sOff; decide, by decide, by decide, by unfold i64ok sOff; decide, by unfold i64ok sOff; decide⟩
/-- One level, in blocks of its own. -/
theorem ask_one {w : World} {g1 g2 g3 c1 c2 : Nat} {K : List Int} {l : List Sg} (hK : U64s K) (hn : K.length ≤ 100) (hc : K.length ≤ c1) (hl : l.length ≤ 100) (hok : ∀ s ∈ l, SgOk s)
    (h1 : Blk w g1 24 (K.map (Value.int .u64)).toArray) (h2 : Blk w g2 33 (sflat l).toArray) (h3 : Blk w g3 30 #[.slice (some ⟨g2, 0, none⟩) l.length c2]) :
    AskC w (some ⟨g1, 0, none⟩) c1 K (some ⟨g3, 0, none⟩) [l] where
  ok := hK
  len := by omega
  cap := hc
  arg := arg_blk_u h1
  segs := by intro l' hl'; simp at hl'; subst hl'; exact hok
  lens := by intro l' hl'; simp at hl'; subst hl'; omega
  count := by simp
  args := fun _ => ⟨g3, 0, rfl, h3.lt, fun i hi => by
    obtain rfl : i = 0 := by simp at hi; omega
    exact ⟨some ⟨g2, 0, none⟩, c2, (h3.cell 0), args_blk h2⟩⟩
end Go.Proofs.Ytnccgpdniigekaa
/-
  'shown' of the laws of levels is true.
-/
namespace Go.Proofs.Ytnccgpdniigekaa
open Go.RowKit
set_option linter.unusedVariables false
set_option linter.unusedSimpArgs false
attribute [local go_sem high] run_store_float

/-- What is looked at in the levels that were built. -/
structure EX (w0 : World) (b o b1 o1 c1 b2 o2 c2 : Nat) (w : World) : Prop where
  x0 : w.cell? ⟨b, o, none⟩ = some (.slice (some ⟨b1, o1, none⟩) 2 c1)
  x1 : w.cell? ⟨b, o + 1, none⟩ = some (.slice (some ⟨b2, o2, none⟩) 1 c2)
  y0 : w.cell? ⟨b1, o1 + 4, none⟩ = some (.int .i64 4)
  y1 : w.cell? ⟨b1, o1 + 5 + 3, none⟩ = some (.int .i64 4)
  y2 : w.cell? ⟨b1, o1 + 5, none⟩ = some (.int .u64 100)
  y3 : w.cell? ⟨b1, o1 + 5 + 4, none⟩ = some (.int .i64 7)
  z0 : w.cell? ⟨b2, o2 + 4, none⟩ = some (.int .i64 2)
  bel : Below w0.heap.size w0 w
theorem EX.below {w0 w w' : World} {b o b1 o1 c1 b2 o2 c2 : Nat} (h : EX w0 b o b1 o1 c1 b2 o2 c2 w) (k : Below w.heap.size w w') : EX w0 b o b1 o1 c1 b2 o2 c2 w' :=
  ⟨(k.cell (p := ⟨b, _, none⟩) (cell_lt h.x0)).trans h.x0, (k.cell (p := ⟨b, _, none⟩) (cell_lt h.x0)).trans h.x1, (k.cell (p := ⟨b1, _, none⟩) (cell_lt h.y0)).trans h.y0,
    (k.cell (p := ⟨b1, _, none⟩) (cell_lt h.y0)).trans h.y1, (k.cell (p := ⟨b1, _, none⟩) (cell_lt h.y0)).trans h.y2, (k.cell (p := ⟨b1, _, none⟩) (cell_lt h.y0)).trans h.y3, (k.cell (p := ⟨b2, _, none⟩) (cell_lt h.z0)).trans h.z0, below_next h.bel k⟩
theorem ex_of {w0 w : World} {A : Option Addr} {s1 s2 s3 : Sg} (h : ArgSS w A [[s1, s2], [s3]]) (hb : Below w0.heap.size w0 w) (e1 : s1.up = 4) (e2 : s2.fr = 4) (e3 : s2.first = 100) (e4 : s2.up = 7) (e5 : s3.up = 2) :
    ∃ b o b1 o1 c1 b2 o2 c2, A = some ⟨b, o, none⟩ ∧ EX w0 b o b1 o1 c1 b2 o2 c2 w := by
  obtain ⟨b, o, rfl, hlt, hc⟩ := h (by simp)
  obtain ⟨A1, c1, x0, g1⟩ := hc 0 (by simp)
  obtain ⟨A2, c2, x1, g2⟩ := hc 1 (by simp)
  obtain ⟨b1, o1, rfl, h1, d1⟩ := g1 (by simp)
  obtain ⟨b2, o2, rfl, h2, d2⟩ := g2 (by simp)
  have p0 := d1 0 (by simp)
  have p1 := d1 1 (by simp)
  have p2 := d2 0 (by simp)
  refine ⟨b, o, b1, o1, c1, b2, o2, c2, rfl, x0, x1, ?_, ?_, ?_, ?_, ?_, hb⟩
  · have := p0.2.2.2.2; rw [← e1]; simpa using this
  · have := p1.2.2.2.1; rw [← e2]; simpa using this
  · have := p1.1; rw [← e3]; simpa using this
  · have := p1.2.2.2.2; rw [← e4]; simpa using this
  · have := p2.2.2.2.2; rw [← e5]; simpa using this

set_option maxHeartbeats 4000000 in
set_option maxRecDepth 100000 in
theorem shown8 (w : World) : Calls Try.prog 16 #[] w fun e w' => e = .returned (.bool true) ∧ Below w.heap.size w w' := by
  have HB : Hid (∀ (w' : World) (g : Nat), Blk w' g 24 #[.int .u64 0, .int .u64 1, .int .u64 2, .int .u64 3, .int .u64 100, .int .u64 101, .int .u64 102] →
      Calls Try.prog 17 #[.slice (some ⟨g, 0, none⟩) 7 7, .int .i64 2] w' fun e w2 => ∃ b o b1 o1 c1 b2 o2 c2 c, e = .returned (.tuple #[.slice (some ⟨b, o, none⟩) 2 c, .int .i64 0]) ∧ EX w' b o b1 o1 c1 b2 o2 c2 w2) := Lib.hid fun w' g hb => by
    have := build_good 2 (by omega) (by omega) (some ⟨g, 0, none⟩) 7 lvK lvK_ok (by decide) (by decide) (by decide) w' (arg_blk_u (L := lvK) hb)
    obtain ⟨s1, s2, s3, hb, e1, e2, e3, e4, e5⟩ := lv_build
    rw [hb] at this
    refine this.mono ?_
    rintro e w2 ⟨v, gs, rfl, hL⟩
    obtain ⟨A, c, rfl, hA⟩ := hL.arg
    obtain ⟨b, o, b1, o1, c1, b2, o2, c2, rfl, hE⟩ := ex_of hA hL.bel e1 e2 e3 e4 e5
    exact ⟨b, o, b1, o1, c1, b2, o2, c2, c, rfl, hE⟩
  have H1 : Hid (∀ (w' : World) (g1 g2 g3 : Nat), Blk w' g1 24 #[.int .u64 7] → Blk w' g2 33 #[.int .u64 7, .float .f64 0, .float .f64 0, .int .i64 0, .int .i64 1] → Blk w' g3 30 #[.slice (some ⟨g2, 0, none⟩) 1 1] →
      Calls Try.prog 21 #[.slice (some ⟨g1, 0, none⟩) 1 1, .int .i64 2, .slice (some ⟨g3, 0, none⟩) 1 1] w' fun e w2 => e = .returned (.int .i64 0) ∧ Below w'.heap.size w' w2) := Lib.hid fun w' g1 g2 g3 h1 h2 h3 => by
    have := check_lv _ 1 [7] 2 _ 1 [[sOne]] w' (ask_one (c1 := 1) (c2 := 1) (K := [7]) (l := [sOne]) (by intro k hk; simp at hk; unfold u64ok; omega) (by decide) (by decide) (by decide) (by intro s hs; simp at hs; subst hs; exact sOne_ok) h1 h2 h3)
    rw [ex_one] at this
    exact this
  have H2 : Hid (∀ (w' : World) (g1 : Nat) (B : Option Addr) (d : Nat), Blk w' g1 24 #[.int .u64 7] →
      Calls Try.prog 21 #[.slice (some ⟨g1, 0, none⟩) 1 1, .int .i64 2, .slice B 0 d] w' fun e w2 => e = .returned (.int .i64 81) ∧ Below w'.heap.size w' w2) := Lib.hid fun w' g1 B d h1 => by
    have := check_lv (some ⟨g1, 0, none⟩) 1 [7] 2 B d [] w' ⟨by intro k hk; simp at hk; unfold u64ok; omega, by decide, by decide, arg_blk_u h1, by simp, by simp, by decide, fun h => absurd h (by simp)⟩
    rw [ex_none] at this
    exact this
  have H3 : Hid (∀ (w' : World) (g1 g2 g3 : Nat), Blk w' g1 24 #[.int .u64 0, .int .u64 1, .int .u64 2, .int .u64 3, .int .u64 4, .int .u64 5] → Blk w' g2 33 #[.int .u64 0, .float .f64 0, .float .f64 0, .int .i64 0, .int .i64 6] → Blk w' g3 30 #[.slice (some ⟨g2, 0, none⟩) 1 1] →
      Calls Try.prog 21 #[.slice (some ⟨g1, 0, none⟩) 6 6, .int .i64 2, .slice (some ⟨g3, 0, none⟩) 1 1] w' fun e w2 => e = .returned (.int .i64 85) ∧ Below w'.heap.size w' w2) := Lib.hid fun w' g1 g2 g3 h1 h2 h3 => by
    have := check_lv _ 6 [0, 1, 2, 3, 4, 5] 2 _ 1 [[sOff]] w' (ask_one (c1 := 6) (c2 := 1) (K := [0, 1, 2, 3, 4, 5]) (l := [sOff]) (by intro k hk; simp at hk; unfold u64ok; omega) (by decide) (by decide) (by decide) (by intro s hs; simp at hs; subst hs; exact sOff_ok) h1 h2 h3)
    rw [ex_off] at this
    exact this
  have H4 : Hid (∀ (w' : World) (g1 g2 g3 : Nat), Blk w' g1 24 #[.int .u64 7, .int .u64 9] → Blk w' g2 33 #[.int .u64 7, .float .f64 0, .float .f64 0, .int .i64 0, .int .i64 1, .int .u64 9, .float .f64 0, .float .f64 0, .int .i64 1, .int .i64 2] → Blk w' g3 30 #[.slice (some ⟨g2, 0, none⟩) 2 2] →
      Calls Try.prog 21 #[.slice (some ⟨g1, 0, none⟩) 2 2, .int .i64 2, .slice (some ⟨g3, 0, none⟩) 1 1] w' fun e w2 => e = .returned (.int .i64 84) ∧ Below w'.heap.size w' w2) := Lib.hid fun w' g1 g2 g3 h1 h2 h3 => by
    have := check_lv _ 2 [7, 9] 2 _ 1 [[sOne, sTwo]] w' (ask_one (c1 := 2) (c2 := 2) (K := [7, 9]) (l := [sOne, sTwo]) (by intro k hk; simp at hk; unfold u64ok; omega) (by decide) (by decide) (by decide) (by intro s hs; simp at hs; rcases hs with rfl | rfl; exact sOne_ok; exact sTwo_ok) h1 h2 h3)
    rw [ex_root] at this
    exact this
  have H5 : Hid (∀ w' : World, Calls Try.prog 24 #[.int .i64 100, .int .i64 2] w' fun e w2 => e = .returned (.int .i64 7) ∧ w' = w2) := Lib.hid fun w' => by
    have := maxHeight_any 100 2 (by decide) w'
    have e : mhI 100 2 = 7 := by
      have := mhI_nat (n := 100) (eps := 2) (by omega) (by omega) (by omega)
      rw [lv_high] at this; exact this
    rw [e] at this
    exact this
  go_enter Try.func16, Try.ntmps16
  go_wp2_with fail
  refine (HB.out _ _ (Blk.new w 24 _)).mono ?_
  rintro e w1 ⟨b, o, b1, o1, c1, b2, o2, c2, c, rfl, hE⟩
  have HE := Lib.hid (show EX w b o b1 o1 c1 b2 o2 c2 w1 from ⟨hE.x0, hE.x1, hE.y0, hE.y1, hE.y2, hE.y3, hE.z0, below_next (below_new (Below.refl _ _) _) hE.bel⟩)
  clear hE HB
  go_wp2_with fail
  refine (H1.out _ _ _ _ (((Blk.new w1 _ _).alloc _).alloc _) ((Blk.new' (g := w1.heap.size + 1) _ _ (by simp)).alloc _) (Blk.new' (g := w1.heap.size + 1 + 1) _ _ (by simp))).mono ?_
  rintro e w2 ⟨rfl, b2⟩
  have HE2 := Lib.hid ((HE.out.below (below_new (below_new (below_new (Below.refl _ _) _) _) _)).below b2)
  clear b2 H1 HE
  go_wp2_with fail
  refine (H2.out _ _ _ _ ((Blk.new w2 _ _).alloc _)).mono ?_
  rintro e w3 ⟨rfl, b2⟩
  have HE3 := Lib.hid ((HE2.out.below (below_new (below_new (Below.refl _ _) _) _)).below b2)
  clear b2 H2 HE2
  go_wp2_with fail
  refine (H3.out _ _ _ _ (((Blk.new w3 _ _).alloc _).alloc _) ((Blk.new' (g := w3.heap.size + 1) _ _ (by simp)).alloc _) (Blk.new' (g := w3.heap.size + 1 + 1) _ _ (by simp))).mono ?_
  rintro e w4 ⟨rfl, b2⟩
  have HE4 := Lib.hid ((HE3.out.below (below_new (below_new (below_new (Below.refl _ _) _) _) _)).below b2)
  clear b2 H3 HE3
  go_wp2_with fail
  refine (H4.out _ _ _ _ (((Blk.new w4 _ _).alloc _).alloc _) ((Blk.new' (g := w4.heap.size + 1) _ _ (by simp)).alloc _) (Blk.new' (g := w4.heap.size + 1 + 1) _ _ (by simp))).mono ?_
  rintro e w5 ⟨rfl, b2⟩
  have HE5 := Lib.hid ((HE4.out.below (below_new (below_new (below_new (Below.refl _ _) _) _) _)).below b2)
  clear b2 H4 HE4
  obtain ⟨x0, x1, y0, y1, y2, y3, z0, bel⟩ := HE5.out
  clear bel
  have q0 := x0
  go_wp2_with fail
  refine (H5.out _).mono ?_
  rintro e w6 ⟨rfl, rfl⟩
  go_wp2_with fail
  go_ret
  exact ⟨rfl, HE5.out.bel⟩
end Go.Proofs.Ytnccgpdniigekaa
