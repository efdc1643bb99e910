/-
  The law ModelMoved: its walk.
-/
import Derived.Test.YtakegkdmpcakdaaQMdL1
namespace Go.Proofs.Ytakegkdmpcakdaa
open Go.RowKit
set_option linter.unusedVariables false
set_option linter.unusedSimpArgs false
attribute [local go_sem high] binOp_lss64 binOp_gtr64 binOp_geq64 binOp_leq64 binOp_eql64 binOp_neq64 f64bits frombits run_store_float

theorem guess_first (s : Sg) {q : Int} (h : q < s.first) : guess s q = guess s s.first := by
  unfold guess gF
  have e : max q s.first = max s.first s.first := by omega
  rw [e]
theorem guess_moved (a : Int) (b c : Nat) (d e by_ q : Int) : guess ⟨a + by_, b, c, d, e⟩ (q + by_) = guess ⟨a, b, c, d, e⟩ q := by
  unfold guess gF chk
  simp only []
  have e1 : max (q + by_) (a + by_) - (a + by_) = max q a - a := by omega
  rw [e1]
/-- How far it is moved. -/
def byOf (q b : Int) : Int := if 18446744073709551615 - q < 18446744073709551615 then b % (18446744073709551615 - q + 1) else b
theorem byOf_room {q b : Int} (hq : u64ok q) (hb : u64ok b) : 0 ≤ byOf q b ∧ q + byOf q b ≤ 18446744073709551615 := by
  unfold u64ok at hq hb
  unfold byOf
  split
  · have h1 := Int.emod_nonneg b (show 18446744073709551615 - q + 1 ≠ 0 by omega)
    have h2 := Int.emod_lt_of_pos b (show 0 < 18446744073709551615 - q + 1 by omega)
    omega
  · omega

set_option maxHeartbeats 4000000 in
set_option maxRecDepth 10000 in
theorem modelMoved_walk (s : Sb) (hs : SbOk s) (q : Int) (hq : u64ok q) (b : Int) (hb : u64ok b) (w : World) :
    Calls Try.prog 9 #[s.v, .int .u64 q, .int .u64 b] w fun e w' => e = .returned (.bool true) ∧ Below w.heap.size w w' := by
  have T0 := Lib.hid (TB.new s w)
  have SH := fun w => shown7 w
  have OF := fun w => segOf_any s w
  have C1 := fun w => check_any s.sg hs.sg w
  have C2 := fun w => refCheck_any s.sg hs.sg w
  generalize chk s.sg = k at C1 C2
  have hsg := hs.sg
  have hf := hs.hf
  have GA := fun w => guess_any s.sg hsg (max q s.first) (by unfold u64ok at *; omega) w
  have GB := fun w => guess_any s.sg hsg q hq w
  obtain ⟨r1, r2⟩ := byOf_room hq hb
  have GC : s.first ≤ q → ∀ w, _ := fun hle w => guess_any ⟨s.first + byOf q b, s.sl.toNat, s.ic.toNat, s.fr, s.up⟩ ⟨by unfold u64ok at *; simp only []; omega, hsg.hs, hsg.hi, hsg.ha, hsg.hb⟩ (q + byOf q b) (by unfold u64ok at *; omega) w
  have GC' := Lib.hid GC
  have hbo : byOf q b = if 18446744073709551615 - q < 18446744073709551615 then b % (18446744073709551615 - q + 1) else b := rfl
  unfold u64ok at hf hq hb
  have GM := Lib.hid (guess_moved s.first s.sl.toNat s.ic.toNat s.fr s.up (byOf q b) q)
  have GF := Lib.hid (fun h => guess_first (s := s.sg) (q := q) h)
  clear hs hsg GC
  obtain ⟨first, sl, ic, fr, up⟩ := s
  unfold Sb.sg at OF C1 C2 GA GB GF
  unfold Sg.v at OF C1 C2 GA GB GC'
  unfold Sb.v at OF ⊢
  simp only [] at OF C1 C2 GA GB GC' GM GF hf ⊢
  generalize byOf q b = bo at *
  have v1 : IntKind.u64.wrap (18446744073709551615 - q) = 18446744073709551615 - q := by rw [IntKind.wrap_u64]; omega
  by_cases hlt : q < first
  · have em : max q first = first := by omega
    rw [em] at GA
    have ge := GF.out hlt
    rw [ge] at GB
    generalize guess ⟨first, sl.toNat, ic.toNat, fr, up⟩ first = gv at GA GB
    clear GC' GM GF ge r1 r2 hbo hf hq hb
    go_enter Try.func9, Try.ntmps9
    go_wp2_with fail
    refine (SH _).mono ?_
    rintro e w1 ⟨rfl, b1⟩
    have T1 := Lib.hid (T0.out.below b1)
    obtain ⟨c0, c1, c2, c3, c4⟩ := T1.out.all
    clear b1 T0 SH
    go_wp2_with fail
    refine (OF _).mono ?_
    rintro e w2 ⟨rfl, b2⟩
    have K2 := Lib.hid (SB.late (T1.out.below b2).bel ⟨first, sl.toNat, ic.toNat, fr, up⟩)
    obtain ⟨_, d0, d1, d2, d3, d4⟩ := K2.out.all
    clear b2 T1 OF c0 c1 c2 c3 c4
    go_wp2_with fail
    refine (C1 _).mono ?_
    rintro e w3 ⟨rfl, b3⟩
    have K3 := Lib.hid (K2.out.below b3)
    clear d0 d1 d2 d3 d4 b3 K2 C1
    obtain ⟨_, d0, d1, d2, d3, d4⟩ := K3.out.all
    go_wp2_with fail
    refine (C2 _).mono ?_
    rintro e w4 ⟨rfl, b4⟩
    have K4 := Lib.hid (K3.out.below b4)
    clear d0 d1 d2 d3 d4 b4 K3 C2
    obtain ⟨_, d0, d1, d2, d3, d4⟩ := K4.out.all
    go_wp2_with fail
    refine (GA _).mono ?_
    rintro e w5 ⟨rfl, b5⟩
    have K5 := Lib.hid (K4.out.below b5)
    clear d0 d1 d2 d3 d4 b5 K4
    obtain ⟨_, d0, d1, d2, d3, d4⟩ := K5.out.all
    go_wp2_with fail
    refine (GB _).mono ?_
    rintro e w6 ⟨rfl, b6⟩
    have K6 := Lib.hid (K5.out.below b6)
    clear d0 d1 d2 d3 d4 b6 K5
    go_wp2_with fail
    go_ret
    exact ⟨by simp, K6.out.bel⟩
  · have em : max q first = q := by omega
    have em2 : max q first = q := em
    rw [em] at GA
    have GC := GC'.out (by omega)
    rw [GM.out] at GC
    generalize guess ⟨first, sl.toNat, ic.toNat, fr, up⟩ q = gv at GA GC
    have v2 : IntKind.u64.wrap (first + bo) = first + bo := by rw [IntKind.wrap_u64]; omega
    have v3 : IntKind.u64.wrap (q + bo) = q + bo := by rw [IntKind.wrap_u64]; omega
    have v4 : q ≠ 0 → IntKind.u64.wrap (18446744073709551615 - q + 1) = 18446744073709551615 - q + 1 := fun h => by rw [IntKind.wrap_u64]; omega
    have HV := Lib.hid v4
    have HZ := Lib.hid hbo
    have HQ := Lib.hid (And.intro hq hb)
    clear GB GM GF GC' hf hq hb em r1 r2 hbo v4
    go_enter Try.func9, Try.ntmps9
    go_wp2_with fail
    refine (SH _).mono ?_
    rintro e w1 ⟨rfl, b1⟩
    have T1 := Lib.hid (T0.out.below b1)
    obtain ⟨c0, c1, c2, c3, c4⟩ := T1.out.all
    clear b1 T0 SH
    go_wp2_with fail
    refine (OF _).mono ?_
    rintro e w2 ⟨rfl, b2⟩
    have K2 := Lib.hid (SB.late (T1.out.below b2).bel ⟨first, sl.toNat, ic.toNat, fr, up⟩)
    have hz2 : Hid (w.heap.size ≤ w2.heap.size) := Lib.hid (Nat.le_trans (by simp) (T1.out.below b2).bel.size)
    obtain ⟨_, d0, d1, d2, d3, d4⟩ := K2.out.all
    clear b2 T1 OF c0 c1 c2 c3 c4
    go_wp2_with fail
    refine (C1 _).mono ?_
    rintro e w3 ⟨rfl, b3⟩
    have K3 := Lib.hid (K2.out.below b3)
    clear d0 d1 d2 d3 d4 b3 K2 C1
    obtain ⟨_, d0, d1, d2, d3, d4⟩ := K3.out.all
    go_wp2_with fail
    refine (C2 _).mono ?_
    rintro e w4 ⟨rfl, b4⟩
    have K4 := Lib.hid (K3.out.below b4)
    clear d0 d1 d2 d3 d4 b4 K3 C2
    obtain ⟨_, d0, d1, d2, d3, d4⟩ := K4.out.all
    go_wp2_with fail
    refine (GA _).mono ?_
    rintro e w5 ⟨rfl, b5⟩
    have K5 := Lib.hid (K4.out.below b5)
    clear d0 d1 d2 d3 d4 b5 K4
    obtain ⟨_, d0, d1, d2, d3, d4⟩ := K5.out.all
    have ff := K5.out.blk.free 0
    have K6 : Hid (SB w w2.heap.size ⟨first + bo, sl.toNat, ic.toNat, fr, up⟩ (w5.setCell ⟨w2.heap.size, 0, none⟩ (.int .u64 (first + bo)))) := Lib.hid ⟨K5.out.blk.set 0 _, K5.out.bel.setCell hz2.out _⟩
    by_cases hq0 : 18446744073709551615 - q < 18446744073709551615
    · have hbo := HZ.out
      rw [if_pos hq0] at hbo
      have v4 := HV.out (by omega)
      have v5 : b.tmod (18446744073709551615 - q + 1) = bo := by rw [Int.tmod_eq_emod_of_nonneg HQ.out.2.1]; exact hbo.symm
      have v6 : (0 : Int) < 18446744073709551615 - q + 1 := by have := HQ.out.1; omega
      have v7 : IntKind.u64.wrap bo = bo := by
        rw [IntKind.wrap_u64]; have := HQ.out.2; have := Int.emod_nonneg b (show 18446744073709551615 - q + 1 ≠ 0 by omega); have := Int.emod_lt_of_pos b v6; omega
      clear hbo
      go_wp2_with fail
      have E0 := K6.out.blk.cell 0; have E1 := K6.out.blk.cell 1; have E2 := K6.out.blk.cell 2; have E3 := K6.out.blk.cell 3; have E4 := K6.out.blk.cell 4
      refine (GC _).mono ?_
      rintro e w7 ⟨rfl, b7⟩
      have K7 := Lib.hid (K6.out.below b7)
      go_wp2_with fail
      go_ret
      exact ⟨by simp, K7.out.bel⟩
    · have hbo := HZ.out
      rw [if_neg hq0] at hbo
      subst hbo
      go_wp2_with fail
      refine (GC _).mono ?_
      rintro e w7 ⟨rfl, b7⟩
      have K7 := Lib.hid (K6.out.below b7)
      go_wp2_with fail
      go_ret
      exact ⟨by simp, K7.out.bel⟩
end Go.Proofs.Ytakegkdmpcakdaa
