/-
  What stands ahead of each law of segments: of, same, below.
-/
import Derived.Test.YtakegkdmpcakdaaQMdOf
import Derived.Test.YtakegkdmpcakdaaQG7
namespace Go.Proofs.Ytakegkdmpcakdaa
open Go.RowKit
set_option linter.unusedVariables false
set_option linter.unusedSimpArgs false
attribute [local go_sem high] binOp_lss64 binOp_gtr64 binOp_geq64 binOp_leq64 binOp_eql64 binOp_neq64 f64bits frombits run_store_float

set_option maxRecDepth 100000 in
set_option maxHeartbeats 2000000 in
theorem same_self (s : Sg) (w : World) : Calls Try.prog 17 #[s.v, s.v] w fun e w' => e = .returned (.bool true) ∧ Below w.heap.size w w' := by
  have G := (s.blk w).alloc (.cells s.c 28)
  have G2 := s.blk (w.alloc (.cells s.c 28))
  have H0 := Lib.hid (below_new (below_new (Below.refl w.heap.size w) (.cells s.c 28)) (.cells s.c 28))
  obtain ⟨first, sl, ic, fr, up⟩ := s
  unfold Sg.c at *
  unfold Sg.v
  simp only [] at *
  have c0 := G.cell 0; have c1 := G.cell 1; have c2 := G.cell 2; have c3 := G.cell 3; have c4 := G.cell 4
  have e0 := G2.cell 0; have e1 := G2.cell 1; have e2 := G2.cell 2; have e3 := G2.cell 3; have e4 := G2.cell 4
  clear G G2
  go_enter Try.func17, Try.ntmps17
  go_wp2_with fail
  go_quiet (fail)
  go_wp2_with fail
  go_ret
  exact ⟨by simp, drewN_below H0.out _⟩

/-- How many are below. -/
def belowN (L : List Int) (q : Int) : Nat → Nat
  | 0 => 0
  | n + 1 => belowN L q n + (if L.getD n 0 < q then 1 else 0)
theorem belowN_le (L : List Int) (q : Int) (n : Nat) : belowN L q n ≤ n := by
  induction n with
  | zero => exact Nat.le_refl _
  | succ n ih => unfold belowN; split <;> omega

set_option maxRecDepth 100000 in
set_option maxHeartbeats 2000000 in
theorem belowN_any (A : Option Addr) (c : Nat) (L : List Int) (q : Int) (hn : L.length ≤ 17592186044416) (w : World) (hA : ArgU w A L) :
    Calls Try.prog 24 #[.slice A L.length c, .int .u64 q] w fun e w' => e = .returned (.int .i64 (belowN L q L.length)) ∧ w = w' := by
  have HA := Lib.hid hA
  clear hA
  go_enter Try.func24, Try.ntmps24
  go_wp2
  go_loopw [5, 6] (fun y x wr => ∃ i : Nat, i ≤ L.length ∧ w = wr ∧ x = .int .i64 i ∧ y = .int .i64 (belowN L q i)) (fun _ x _ => L.length - (intOf x).toNat)
  case atStart => exact ⟨0, Nat.zero_le _, rfl, rfl, rfl⟩
  case round =>
    obtain ⟨i, hi, rfl, rfl, rfl⟩ := hrel
    by_cases hlt : i < L.length
    · have i0 : (0 : Int) ≤ (i : Int) := by omega
      have i1 : (i : Int) < (L.length : Int) := by omega
      obtain ⟨b, o, rfl, hb, hc0, hc⟩ := HA.out.first (by omega)
      have ci := hc i hlt
      have hle := belowN_le L q i
      have S := Lib.hid (show belowN L q (i + 1) = belowN L q i + (if L.getD i 0 < q then 1 else 0) from rfl)
      obtain ⟨k, hk⟩ : ∃ k, L.getD i 0 = k := ⟨_, rfl⟩
      rw [hk] at ci S
      obtain ⟨n, hnn⟩ : ∃ n, belowN L q i = n := ⟨_, rfl⟩
      rw [hnn] at S hle ⊢
      clear hb hc0 hc hk hnn
      by_cases hq : k < q
      · have S2 : Hid (belowN L q (i + 1) = n + 1) := Lib.hid (by rw [S.out, if_pos hq])
        go_wp2_with fail
        go_roundw
        case rel => exact ⟨i + 1, by omega, trivial, by go_num, by rw [S2.out]; go_num⟩
        case measure => simp [intOf]; omega
      · have S2 : Hid (belowN L q (i + 1) = n) := Lib.hid (by rw [S.out, if_neg hq]; rfl)
        go_wp2_with fail
        go_roundw
        case rel => exact ⟨i + 1, by omega, trivial, by go_num, by rw [S2.out]⟩
        case measure => simp [intOf]; omega
    · obtain rfl : i = L.length := by omega
      have i1 : ¬ (L.length : Int) < (L.length : Int) := by omega
      go_wp2_with fail
      go_ret
      exact ⟨rfl, rfl⟩

/-- A segment told by bits. -/
structure Sb where
  first : Int
  sl : Int
  ic : Int
  fr : Int
  up : Int
def Sb.v (s : Sb) : Value := .agg #[.int .u64 s.first, .int .u64 s.sl, .int .u64 s.ic, .int .i64 s.fr, .int .i64 s.up]
def Sb.sg (s : Sb) : Sg := ⟨s.first, s.sl.toNat, s.ic.toNat, s.fr, s.up⟩
structure SbOk (s : Sb) : Prop where
  hf : u64ok s.first
  hs : u64ok s.sl
  hi : u64ok s.ic
  ha : i64ok s.fr
  hb : i64ok s.up
theorem SbOk.sg {s : Sb} (h : SbOk s) : SgOk s.sg := by
  have h1 := h.hs; have h2 := h.hi
  unfold u64ok at h1 h2
  exact ⟨h.hf, by unfold Sb.sg; simp only []; omega, by unfold Sb.sg; simp only []; omega, h.ha, h.hb⟩

set_option maxRecDepth 100000 in
set_option maxHeartbeats 2000000 in
theorem segOf_any (s : Sb) (w : World) : Calls Try.prog 11 #[s.v] w fun e w' => e = .returned s.sg.v ∧ Below w.heap.size w w' := by
  have G := (Blk.new w 24 #[.int .u64 s.first, .int .u64 s.sl, .int .u64 s.ic, .int .i64 s.fr, .int .i64 s.up]).alloc (.cells #[.int .u64 0, .float .f64 0, .float .f64 0, .int .i64 0, .int .i64 0] 28)
  have H0 := Lib.hid (below_new (below_new (Below.refl w.heap.size w) (.cells #[.int .u64 s.first, .int .u64 s.sl, .int .u64 s.ic, .int .i64 s.fr, .int .i64 s.up] 24)) (.cells #[.int .u64 0, .float .f64 0, .float .f64 0, .int .i64 0, .int .i64 0] 28))
  have G2 := Blk.new (w.alloc (.cells #[.int .u64 s.first, .int .u64 s.sl, .int .u64 s.ic, .int .i64 s.fr, .int .i64 s.up] 24)) 28 #[.int .u64 0, .float .f64 0, .float .f64 0, .int .i64 0, .int .i64 0]
  have esz : (w.alloc (.cells #[.int .u64 s.first, .int .u64 s.sl, .int .u64 s.ic, .int .i64 s.fr, .int .i64 s.up] 24)).heap.size = w.heap.size + 1 := by simp
  rw [esz] at G2
  have HG := Lib.hid G2
  clear esz
  obtain ⟨first, sl, ic, fr, up⟩ := s
  unfold Sb.v Sb.sg Sg.v
  simp only [] at *
  have c0 := G.cell 0; have c1 := G.cell 1; have c2 := G.cell 2; have c3 := G.cell 3; have c4 := G.cell 4
  obtain ⟨d0, d1, d2, d3, d4, f0, f1, f2, f3, f4⟩ := G2.cells5
  clear G G2
  go_enter Try.func11, Try.ntmps11
  go_wp2_with fail
  have hne : w.heap.size ≠ w.heap.size + 1 := by omega
  have b0 := c0; have b1 := c1; have b2 := c2; have b3 := c3; have b4 := c4
  rw [← World.cell?_drew] at b0 b1 b2 b3 b4
  go_region_held3 (fun w' => w'.cell? ⟨w.heap.size, 0, none⟩ = some (.int .u64 first) ∧ w'.cell? ⟨w.heap.size, 1, none⟩ = some (.int .u64 sl) ∧ w'.cell? ⟨w.heap.size, 2, none⟩ = some (.int .u64 ic) ∧ w'.cell? ⟨w.heap.size, 3, none⟩ = some (.int .i64 fr) ∧ w'.cell? ⟨w.heap.size, 4, none⟩ = some (.int .i64 up))
    (first | (with_reducible exact ⟨b0, b1, b2, b3, b4⟩) | (with_reducible exact ⟨keep5 hne c0, keep5 hne c1, keep5 hne c2, keep5 hne c3, keep5 hne c4⟩) | go_keep) (fail)
  go_wp2_with fail
  have END := (Blk.new (w.alloc (.cells #[.int .u64 first, .int .u64 sl, .int .u64 ic, .int .i64 fr, .int .i64 up] 24)) 28 #[.int .u64 first, .float .f64 sl.toNat, .float .f64 ic.toNat, .int .i64 fr, .int .i64 up]).drew
  have esz : (w.alloc (.cells #[.int .u64 first, .int .u64 sl, .int .u64 ic, .int .i64 fr, .int .i64 up] 24)).heap.size = w.heap.size + 1 := by simp
  rw [esz] at END
  refine bodyPost_ret (v := .agg #[.int .u64 first, .float .f64 sl.toNat, .float .f64 ic.toNat, .int .i64 fr, .int .i64 up]) (results_cell_row (p := 2) (ty := 28) (t := 28) rfl _ _ _ _ (0, 0) _ rfl ?_ Try.underlying28 rfl (by kernel_rfl)) rfl ?_
  · exact END
  · exact ⟨rfl, (below_new (below_new (Below.refl _ _) _) _).drew⟩
end Go.Proofs.Ytakegkdmpcakdaa
/-
  'shown' of the laws of segments is true.
-/
namespace Go.Proofs.Ytakegkdmpcakdaa
open Go.RowKit
set_option linter.unusedVariables false
set_option linter.unusedSimpArgs false
attribute [local go_sem high] binOp_lss64 binOp_gtr64 binOp_geq64 binOp_leq64 binOp_eql64 binOp_neq64 f64bits frombits run_store_float

def exL : List Int := [10, 20, 30, 40, 50]
theorem exOf : lineOf exL 2 = ((1, 20, 1), 0) := by decide +kernel
def exS : Sg := ⟨10, 4587366580439587226, 4607182418800017408, 0, 5⟩
theorem exNr : nearF 1 20 = 4587366580439587226 := by
  unfold nearF; rw [if_neg (by decide)]
  exact nr_eq (by decide) ⟨fun _ => by decide +kernel, by decide +kernel, fun _ => by decide +kernel⟩
theorem exOne : floatOfInt .f64 (wrap64 (0 + 1)) = 4607182418800017408 := by decide +kernel
theorem exOfS : ofS exL 2 0 = (exS, 0) := by
  unfold ofS
  rw [exOf]
  simp only []
  rw [if_neg (by decide), if_neg (by decide)]
  have e1 : (1 : Int).toNat = 1 := rfl
  have e2 : (20 : Int).toNat = 20 := rfl
  rw [e1, e2, exNr, exOne]
  rfl
theorem exGuess : guess exS 35 = 2 := by decide +kernel
theorem exOff : offI exS exL = (1, 0) := by decide +kernel
theorem exZero : chk ⟨0, 0, 0, 0, 0⟩ = 70 := by decide +kernel
theorem exSok : SgOk exS := ⟨by unfold u64ok exS; decide, by unfold exS; decide, by unfold exS; decide, by unfold i64ok exS; decide, by unfold i64ok exS; decide⟩
theorem zSok : SgOk ⟨0, 0, 0, 0, 0⟩ := ⟨by unfold u64ok; decide, by decide, by decide, by unfold i64ok; decide, by unfold i64ok; decide⟩
theorem exArg {w w' : World} {g : Nat} (h : Blk w' g 22 #[.int .u64 10, .int .u64 20, .int .u64 30, .int .u64 40, .int .u64 50]) : ArgU w' (some ⟨g, 0, none⟩) exL := by
  intro _
  refine ⟨g, 0, rfl, h.lt, fun i hi => ?_⟩
  rw [Nat.zero_add, h.cell]
  have : i = 0 ∨ i = 1 ∨ i = 2 ∨ i = 3 ∨ i = 4 := by unfold exL at hi; simp at hi; omega
  rcases this with rfl | rfl | rfl | rfl | rfl <;> rfl
theorem exU : U64s exL := by intro k hk; unfold exL at hk; simp at hk; unfold u64ok; omega

set_option maxHeartbeats 4000000 in
set_option maxRecDepth 10000 in
theorem shown7 (w : World) : Calls Try.prog 10 #[] w fun e w' => e = .returned (.bool true) ∧ Below w.heap.size w w' := by
  have HO : Hid (∀ (w' : World) (g : Nat), Blk w' g 22 #[.int .u64 10, .int .u64 20, .int .u64 30, .int .u64 40, .int .u64 50] →
      Calls Try.prog 15 #[.slice (some ⟨g, 0, none⟩) 5 5, .int .i64 2, .int .i64 0] w' fun e w2 => e = .returned (.tuple #[.agg exS.c, .int .i64 0]) ∧ Below w'.heap.size w' w2) := Lib.hid fun w' g hb => by
    have := ofS_any (some ⟨g, 0, none⟩) 5 exL 2 0 (by unfold i64ok; decide) exU (by decide) w' (exArg (w := w') hb)
    unfold OfP at this
    rw [exOfS] at this
    exact this
  have HG : Hid (∀ w' : World, Calls Try.prog 19 #[.agg exS.c, .int .u64 35] w' fun e w2 => e = .returned (.int .i64 2) ∧ Below w'.heap.size w' w2) := Lib.hid fun w' => by
    have := guess_any exS exSok 35 (by unfold u64ok; omega) w'
    rw [exGuess] at this
    exact this
  have HF : Hid (∀ (w' : World) (g : Nat), Blk w' g 22 #[.int .u64 10, .int .u64 20, .int .u64 30, .int .u64 40, .int .u64 50] →
      Calls Try.prog 21 #[.agg exS.c, .slice (some ⟨g, 0, none⟩) 5 5] w' fun e w2 => e = .returned (.tuple #[.int .i64 1, .int .i64 0]) ∧ Below w'.heap.size w' w2) := Lib.hid fun w' g hb => by
    have := off_any exS exSok (some ⟨g, 0, none⟩) 5 exL exU (by decide) w' (exArg (w := w') hb)
    rw [exOff] at this
    exact this
  have HC : Hid (∀ w' : World, Calls Try.prog 12 #[.agg #[.int .u64 0, .float .f64 0, .float .f64 0, .int .i64 0, .int .i64 0]] w' fun e w2 => e = .returned (.int .i64 70) ∧ Below w'.heap.size w' w2) := Lib.hid fun w' => by
    have := check_any ⟨0, 0, 0, 0, 0⟩ zSok w'
    rw [exZero] at this
    exact this
  have HS : Hid (∀ w' : World, Calls Try.prog 17 #[.agg exS.c, .agg exS.c] w' fun e w2 => e = .returned (.bool true) ∧ Below w'.heap.size w' w2) := Lib.hid fun w' => same_self exS w'
  unfold Sg.c exS at HO HG HF HS
  simp only [] at HO HG HF HS
  go_enter Try.func10, Try.ntmps10
  go_wp2_with fail
  refine (HO.out _ _ (Blk.new _ _ _)).mono ?_
  rintro e w1 ⟨rfl, b1⟩
  have H1 := Lib.hid (And.intro ((Blk.new w 22 #[.int .u64 10, .int .u64 20, .int .u64 30, .int .u64 40, .int .u64 50]).below b1) (below_next (below_new (Below.refl _ _) _) b1))
  have K1 := SB.new ⟨10, 4587366580439587226, 4607182418800017408, 0, 5⟩ w1
  have H2 := Lib.hid (And.intro (H1.out.1.alloc (.cells #[.int .u64 10, .float .f64 4587366580439587226, .float .f64 4607182418800017408, .int .i64 0, .int .i64 5] 28)) (And.intro (below_new H1.out.2 (.cells #[.int .u64 10, .float .f64 4587366580439587226, .float .f64 4607182418800017408, .int .i64 0, .int .i64 5] 28)) (SB.new ⟨10, 4587366580439587226, 4607182418800017408, 0, 5⟩ w1)))
  obtain ⟨_, c0, c1, c2, c3, c4⟩ := H2.out.2.2.all
  clear b1 H1 K1
  go_wp2_with fail
  refine (HG.out _).mono ?_
  rintro e w2 ⟨rfl, b2⟩
  have H3 := Lib.hid (And.intro (H2.out.1.below b2) (And.intro (below_next H2.out.2.1 b2) (H2.out.2.2.below b2)))
  clear c0 c1 c2 c3 c4 b2 H2
  obtain ⟨_, c0, c1, c2, c3, c4⟩ := H3.out.2.2.all
  go_wp2_with fail
  refine (HF.out _ _ H3.out.1).mono ?_
  rintro e w3 ⟨rfl, b3⟩
  have H4 := Lib.hid (And.intro (below_next H3.out.2.1 b3) (H3.out.2.2.below b3))
  clear c0 c1 c2 c3 c4 b3 H3
  obtain ⟨_, c0, c1, c2, c3, c4⟩ := H4.out.2.all
  go_wp2_with fail
  refine (HC.out _).mono ?_
  rintro e w4 ⟨rfl, b4⟩
  have H5 := Lib.hid (And.intro (below_next H4.out.1 b4) (H4.out.2.below b4))
  clear c0 c1 c2 c3 c4 b4 H4
  obtain ⟨_, c0, c1, c2, c3, c4⟩ := H5.out.2.all
  go_wp2_with fail
  refine (HS.out _).mono ?_
  rintro e w5 ⟨rfl, b5⟩
  have H6 := Lib.hid (below_next H5.out.1 b5)
  clear c0 c1 c2 c3 c4 b5 H5
  go_wp2_with fail
  go_ret
  exact ⟨rfl, H6.out⟩
end Go.Proofs.Ytakegkdmpcakdaa
