/-
  The reference's Div comes to the quotient, rounded down, and the rest.
-/
import Derived.Test.YtglhfknlemaidaaWdNum
import Derived.Test.YtglhfknlemaidaaWdRefCmp
import Derived.Test.YtglhfknlemaidaaWdDivPlain
namespace Go.Proofs.Ytglhfknlemaidaa
open Go.RowKit
set_option linter.unusedVariables false
set_option linter.unusedSimpArgs false

def inclineref01_Div.f (a0_0 a0_1 a1 : Int) : Option (Int × Int × Int × Int) :=
  if i64ok a0_0 ∧ u64ok a0_1 ∧ u64ok a1 then
    if a1 = 0 then some (0, 0, 0, 10) else some ((I128.enc (I128.val a0_0 a0_1 / a1)).1, (I128.enc (I128.val a0_0 a0_1 / a1)).2, I128.val a0_0 a0_1 % a1, 0)
  else none

/-- What the two loops need of memory: the number's digits at gn, the quotient's at gq. -/
structure DivS (w0 wr : World) (gr gn gq : Nat) (M : Int) (f : Nat → Int) : Prop where
  r : Blk wr gr 25 #[.int .i64 0, .int .u64 0]
  n : NumAt wr gn (dig M)
  q : NumAt wr gq f
  b : Below w0.heap.size w0 wr
  nr : gr ≠ gq
  nn : gn ≠ gq
  hq : w0.heap.size ≤ gq
theorem DivS.set {w0 wr : World} {gr gn gq : Nat} {M : Int} {f f' : Nat → Int} (h : DivS w0 wr gr gn gq M f) (k : Nat) (v : Int) (hk : k < 8) (hf : ∀ j, j < 8 → (if j = k then v else f j) = f' j) : DivS w0 (wr.setCell ⟨gq, k, none⟩ (.int .i64 v)) gr gn gq M f' :=
  ⟨h.r.far _ h.nr, Blk.far h.n _ h.nn, (NumAt.set h.q k v hk).congr hf, h.b.setCell h.hq _, h.nr, h.nn, h.hq⟩
theorem DivS.congr {w0 wr : World} {gr gn gq : Nat} {M : Int} {f f' : Nat → Int} (h : DivS w0 wr gr gn gq M f) (hf : ∀ j, j < 8 → f j = f' j) : DivS w0 wr gr gn gq M f' := ⟨h.r, h.n, h.q.congr hf, h.b, h.nr, h.nn, h.hq⟩

set_option maxHeartbeats 800000 in
theorem ref_div_zero (a0_0 a0_1 : Int) (w : World) :
    Calls Try.prog 24 #[.agg #[.int .i64 a0_0, .int .u64 a0_1], .int .u64 0] w fun e w' => e = .returned (.tuple #[.agg #[.int .i64 0, .int .u64 0], .int .u64 0, .int .i64 10]) ∧ Below w.heap.size w w' := by
  go_enter Try.func24, Try.ntmps24
  go_wp2
  refine bodyPost_ret (v := .tuple #[.agg #[.int .i64 0, .int .u64 0], .int .u64 0, .int .i64 10]) (by simp [results, Try.results24, go_sem]) rfl ⟨rfl, ?_⟩
  exact below_new (below_new (Below.refl _ _) _) _

set_option maxHeartbeats 3200000 in
theorem ref_div_not (a0_0 a0_1 d : Int) (h1 : i64ok a0_0) (h2 : u64ok a0_1) (h3 : u64ok d) (hz : d ≠ 0) (hn : 0 ≤ I128.val a0_0 a0_1) (w : World) :
    Calls Try.prog 24 #[.agg #[.int .i64 a0_0, .int .u64 a0_1], .int .u64 d] w fun e w' => e = .returned (.tuple #[.agg #[.int .i64 (I128.enc (I128.val a0_0 a0_1 / d)).1, .int .u64 (I128.enc (I128.val a0_0 a0_1 / d)).2], .int .u64 (I128.val a0_0 a0_1 % d), .int .i64 0]) ∧ Below w.heap.size w w' := by
  have X := num_of_any a0_0 a0_1 h1 h2
  have ov := I128.val_ok h1 h2
  generalize I128.val a0_0 a0_1 = v at *
  have hd0 : 0 < d := by unfold u64ok at h3; omega
  have hd1 : d ≤ 18446744073709551615 := h3.2
  have BV := num_below_is ov (s := false) (by simp; omega)
  have L0 := num_less_any v
  have hz0 : (d == 0) = false := by simpa using hz
  have R1 := Blk.new' (w := w.alloc (.cells #[.int .i64 a0_0, .int .u64 a0_1] 25)) (g := w.heap.size + 1) 25 #[.int .i64 0, .int .u64 0] (by simp)
  have B1 := below_new (below_new (Below.refl w.heap.size w) (.cells #[.int .i64 a0_0, .int .u64 a0_1] 25)) (.cells #[.int .i64 0, .int .u64 0] 25)
  go_enter Try.func24, Try.ntmps24
  go_wp2_with fail
  refine (X _).mono ?_
  rintro e w1 ⟨rfl, b1⟩
  have hst := store_fresh w1 (dig v)
  have G := NumAt.new w1 (dig v)
  have R2 := (R1.below b1).alloc (.cells (cellsOf (dig v)) 44)
  have B2 := below_new (below_next B1 b1) (.cells (cellsOf (dig v)) 44)
  go_wp2_with (first | (refine load_blk rfl 44 (.tmp 7) rfl w1.heap.size rfl G Try.underlying44 rfl (by kernel_rfl) ?_) | (go_at_call 35; refine (BV _).mono ?_; rintro e w2 ⟨rfl, b2⟩))
  have hM : 0 ≤ v ∧ v < 340282366920938463463374607431768211456 := by unfold i128ok at ov; omega
  have D0 : DivS w (w2.alloc (.cells (cellsOf fun _ => 0) 44)) (w.heap.size + 1) w1.heap.size w2.heap.size v (fun _ => 0) := ⟨(R2.below b2).alloc _, (NumAt.below G b2).alloc _, NumAt.new w2 _, below_new (below_next B2 b2) _, Nat.ne_of_lt (R2.below b2).lt, Nat.ne_of_lt (NumAt.below G b2).lt, (below_next B2 b2).size⟩
  clear hst
  go_loopw [10, 11] (fun r i wr => ∃ m : Nat, m ≤ 8 ∧ i = .int .i64 ((m : Int) - 1) ∧ r = .int .u64 (v / pw m % d) ∧ DivS w wr (w.heap.size + 1) w1.heap.size w2.heap.size v (fun j => if m ≤ j then dig (v / d) j else 0)) (fun _ i _ => (intOf i + 1).toNat)
  case atStart => exact ⟨8, by omega, rfl, by rw [dig_top v hM.1 hM.2]; simp, D0.congr fun j hj => by rw [if_neg (by omega)]⟩
  case round =>
    obtain ⟨m, hm, rfl, rfl, D⟩ := hrel
    obtain ⟨wo, rfl⟩ : ∃ wo : World, wo = wr := ⟨_, rfl⟩
    have r0 := Int.emod_nonneg (v / pw m) (Int.ne_of_gt hd0)
    have r1 := Int.emod_lt_of_pos (v / pw m) hd0
    by_cases hlt : 0 < m
    · obtain ⟨i, rfl⟩ : ∃ i, m = i + 1 := ⟨m - 1, by omega⟩
      rw [show ((i + 1 : Nat) : Int) - 1 = (i : Int) from by omega]
      go_wp2
      go_loopw [10, 12] (fun r k wr => ∃ s : Nat, s ≤ 16 ∧ k = .int .i64 (kk s) ∧ r = .int .u64 (above v i s % d) ∧ DivS w wr (w.heap.size + 1) w1.heap.size w2.heap.size v (got (v / d) i s)) (fun _ k _ => (intOf k).toNat)
      case atStart => exact ⟨16, by omega, rfl, by rw [above_sixteen v i (by omega)], D.congr fun j hj => (got_top (v / d) i j).symm⟩
      case round =>
        obtain ⟨s, hs, rfl, rfl, E⟩ := hrel
        have a0 := Int.emod_nonneg (above v i s) (Int.ne_of_gt hd0)
        have a1 := Int.emod_lt_of_pos (above v i s) hd0
        by_cases hls : 0 < s
        · obtain ⟨u, rfl⟩ : ∃ u, s = u + 1 := ⟨s - 1, by omega⟩
          obtain ⟨rs, bs⟩ := rest_step v d i u (by omega) (by omega) hd0
          have kh := kk_half u (by omega)
          have kl := kk_lt u (by omega)
          have kr := kk_range u
          have kr1 := kk_range (u + 1)
          have gi : got (v / d) i (u + 1) i = dig (v / d) i / p2 (u + 1) * p2 (u + 1) := by unfold got; rw [if_neg (by omega), if_pos rfl]
          have c1 := E.n.cell i (by omega)
          have c2 := NumAt.cell E.q i (by omega)
          rw [gi] at c2
          have f2 := NumAt.free E.q i
          have gs := got_step (v / d) i u (by omega)
          have dr := dig_range v i
          have dq := dig_range (v / d) i
          have gq0 : 0 ≤ dig (v / d) i / p2 (u + 1) * p2 (u + 1) ∧ dig (v / d) i / p2 (u + 1) * p2 (u + 1) ≤ 65535 := by
            have := Int.ediv_mul_le (dig (v / d) i) (Int.ne_of_gt (p2_pos (u + 1)))
            have := Int.mul_nonneg (Int.ediv_nonneg dq.1 (Int.le_of_lt (p2_pos (u + 1)))) (Int.le_of_lt (p2_pos (u + 1)))
            omega
          clear gi
          have dv0 := Int.ediv_nonneg dr.1 kr1.1
          have hbit : bit v i u = dig v i / kk (u + 1) % 2 := rfl
          have br := bit_range v i u
          generalize above v i (u + 1) % d = y at *
          rcases (show bit v i u = 0 ∨ bit v i u = 1 from by omega) with hbv | hbv
          · skip
            by_cases hov : 9223372036854775808 ≤ y
            · have hb1 : (dig v i / kk (u + 1) % 2 == 1) = false := by rw [← hbit, hbv]; rfl
              have ho : decide (9223372036854775808 ≤ y) = true := by simp; omega
              have e1 : IntKind.u64.wrap (2 * y) = 2 * y - 18446744073709551616 := by rw [IntKind.wrap_u64]; omega
              have e3 : IntKind.u64.wrap (2 * y - 18446744073709551616 - d) = 2 * y - d := by rw [IntKind.wrap_u64]; omega
              have fr := Lib.hid (show above v i u % d = 2 * y - d from by rw [rs, hbv]; rw [if_pos (by omega)]; omega)
              have fb : bit (v / d) i u = 1 := by rw [bs, hbv]; rw [if_pos (by omega)]
              rw [fb] at gs
              have GS := Lib.hid gs
              clear gs fb bs rs
              have KH := Lib.hid kh
              clear kh
              have HBV := Lib.hid hbv; clear hbv
              go_wp2
              go_roundw
              case rel =>
                refine ⟨u, by omega, by rw [KH.out], by rw [fr.out], ?_⟩
                refine E.set i _ (by omega) fun j hj => ?_
                have g1 := GS.out
                unfold got
                by_cases e : j = i
                · subst e; rw [if_pos rfl, if_neg (by omega), if_pos rfl, g1]; show _ + p2 u = _; omega
                · rw [if_neg e, if_neg e, if_neg e]
              case measure => rw [KH.out]; simp only [intOf]; omega
            · by_cases hge : d ≤ 2 * y
              · have hb1 : (dig v i / kk (u + 1) % 2 == 1) = false := by rw [← hbit, hbv]; rfl
                have ho : decide (9223372036854775808 ≤ y) = false := by simp; omega
                have hg : decide (d ≤ 2 * y) = true := by simp; omega
                have fr := Lib.hid (show above v i u % d = 2 * y - d from by rw [rs, hbv]; rw [if_pos (by omega)]; omega)
                have fb : bit (v / d) i u = 1 := by rw [bs, hbv]; rw [if_pos (by omega)]
                rw [fb] at gs
                have GS := Lib.hid gs
                clear gs fb bs rs
                have KH := Lib.hid kh
                clear kh
                have HBV := Lib.hid hbv; clear hbv
                go_wp2
                go_roundw
                case rel =>
                  refine ⟨u, by omega, by rw [KH.out], by rw [fr.out], ?_⟩
                  refine E.set i _ (by omega) fun j hj => ?_
                  have g1 := GS.out
                  unfold got
                  by_cases e : j = i
                  · subst e; rw [if_pos rfl, if_neg (by omega), if_pos rfl, g1]; show _ + p2 u = _; omega
                  · rw [if_neg e, if_neg e, if_neg e]
                case measure => rw [KH.out]; simp only [intOf]; omega
              · have hb1 : (dig v i / kk (u + 1) % 2 == 1) = false := by rw [← hbit, hbv]; rfl
                have ho : decide (9223372036854775808 ≤ y) = false := by simp; omega
                have hg : decide (d ≤ 2 * y) = false := by simp; omega
                have fr := Lib.hid (show above v i u % d = 2 * y from by rw [rs, hbv]; rw [if_neg (by omega)]; omega)
                have fb : bit (v / d) i u = 0 := by rw [bs, hbv]; rw [if_neg (by omega)]
                rw [fb] at gs
                have GS := Lib.hid gs
                clear gs fb bs rs
                have KH := Lib.hid kh
                clear kh
                have HBV := Lib.hid hbv; clear hbv
                go_wp2
                go_roundw
                case rel =>
                  refine ⟨u, by omega, by rw [KH.out], by rw [fr.out], ?_⟩
                  refine E.congr fun j hj => ?_
                  have g1 := GS.out
                  unfold got
                  by_cases e : j = i
                  · subst e; rw [if_neg (by omega), if_pos rfl, if_neg (by omega), if_pos rfl, g1]; omega
                  · rw [if_neg e, if_neg e]
                case measure => rw [KH.out]; simp only [intOf]; omega
          · skip
            by_cases hov : 9223372036854775808 ≤ y
            · have hb1 : (dig v i / kk (u + 1) % 2 == 1) = true := by rw [← hbit, hbv]; rfl
              have ho : decide (9223372036854775808 ≤ y) = true := by simp; omega
              have e1 : IntKind.u64.wrap (2 * y) = 2 * y - 18446744073709551616 := by rw [IntKind.wrap_u64]; omega
              have e2 : IntKind.u64.wrap (2 * y - 18446744073709551616 + 1) = 2 * y - 18446744073709551616 + 1 := by rw [IntKind.wrap_u64]; omega
              have e3 : IntKind.u64.wrap (2 * y - 18446744073709551616 + 1 - d) = 2 * y + 1 - d := by rw [IntKind.wrap_u64]; omega
              have fr := Lib.hid (show above v i u % d = 2 * y + 1 - d from by rw [rs, hbv]; rw [if_pos (by omega)])
              have fb : bit (v / d) i u = 1 := by rw [bs, hbv]; rw [if_pos (by omega)]
              rw [fb] at gs
              have GS := Lib.hid gs
              clear gs fb bs rs
              have KH := Lib.hid kh
              clear kh
              have HBV := Lib.hid hbv; clear hbv
              go_wp2
              go_roundw
              case rel =>
                refine ⟨u, by omega, by rw [KH.out], by rw [fr.out], ?_⟩
                refine E.set i _ (by omega) fun j hj => ?_
                have g1 := GS.out
                unfold got
                by_cases e : j = i
                · subst e; rw [if_pos rfl, if_neg (by omega), if_pos rfl, g1]; show _ + p2 u = _; omega
                · rw [if_neg e, if_neg e, if_neg e]
              case measure => rw [KH.out]; simp only [intOf]; omega
            · by_cases hge : d ≤ 2 * y + 1
              · have hb1 : (dig v i / kk (u + 1) % 2 == 1) = true := by rw [← hbit, hbv]; rfl
                have ho : decide (9223372036854775808 ≤ y) = false := by simp; omega
                have hg : decide (d ≤ 2 * y + 1) = true := by simp; omega
                have fr := Lib.hid (show above v i u % d = 2 * y + 1 - d from by rw [rs, hbv]; rw [if_pos (by omega)])
                have fb : bit (v / d) i u = 1 := by rw [bs, hbv]; rw [if_pos (by omega)]
                rw [fb] at gs
                have GS := Lib.hid gs
                clear gs fb bs rs
                have KH := Lib.hid kh
                clear kh
                have HBV := Lib.hid hbv; clear hbv
                go_wp2
                go_roundw
                case rel =>
                  refine ⟨u, by omega, by rw [KH.out], by rw [fr.out], ?_⟩
                  refine E.set i _ (by omega) fun j hj => ?_
                  have g1 := GS.out
                  unfold got
                  by_cases e : j = i
                  · subst e; rw [if_pos rfl, if_neg (by omega), if_pos rfl, g1]; show _ + p2 u = _; omega
                  · rw [if_neg e, if_neg e, if_neg e]
                case measure => rw [KH.out]; simp only [intOf]; omega
              · have hb1 : (dig v i / kk (u + 1) % 2 == 1) = true := by rw [← hbit, hbv]; rfl
                have ho : decide (9223372036854775808 ≤ y) = false := by simp; omega
                have hg : decide (d ≤ 2 * y + 1) = false := by simp; omega
                have fr := Lib.hid (show above v i u % d = 2 * y + 1 from by rw [rs, hbv]; rw [if_neg (by omega)])
                have fb : bit (v / d) i u = 0 := by rw [bs, hbv]; rw [if_neg (by omega)]
                rw [fb] at gs
                have GS := Lib.hid gs
                clear gs fb bs rs
                have KH := Lib.hid kh
                clear kh
                have HBV := Lib.hid hbv; clear hbv
                go_wp2
                go_roundw
                case rel =>
                  refine ⟨u, by omega, by rw [KH.out], by rw [fr.out], ?_⟩
                  refine E.congr fun j hj => ?_
                  have g1 := GS.out
                  unfold got
                  by_cases e : j = i
                  · subst e; rw [if_neg (by omega), if_pos rfl, if_neg (by omega), if_pos rfl, g1]; omega
                  · rw [if_neg e, if_neg e]
                case measure => rw [KH.out]; simp only [intOf]; omega
        · obtain rfl : s = 0 := by omega
          have hk0 : (kk 0 : Int) = 0 := rfl
          rw [hk0]
          go_wp2
          go_roundw
          case rel => exact ⟨i, by omega, rfl, by rw [above_zero], E.congr fun j hj => got_zero (v / d) i j⟩
          case measure => simp [intOf]
    · obtain rfl : m = 0 := by omega
      have hend : v / pw 0 % d = v % d := by simp only [pw, Int.ediv_one]
      rw [hend]
      have Dq := D.congr (f' := dig (v / d)) fun j hj => if_pos (Nat.zero_le _)
      clear D hend
      have Z := num_told_any (v / d)
      go_wp2_with (first | (refine load_blk rfl 44 (.tmp 9) rfl w2.heap.size rfl Dq.q Try.underlying44 rfl (by kernel_rfl) ?_) | (go_at_call 29; refine (Z _).mono ?_; rintro e w4 ⟨rfl, b4⟩; have R9 := Dq.r.below b4; obtain ⟨s0, s1, s2, s3⟩ := Blk.cells2 R9))
      refine bodyPost_ret (v := .tuple #[.agg #[.int .i64 (I128.enc (v / d)).1, .int .u64 (I128.enc (v / d)).2], .int .u64 (v % d), .int .i64 0]) (results_ctt (p := 4) (u := 5) (v := 6) (ty := 25) rfl _ rfl rfl rfl (Blk.set2 R9) Try.underlying25 rfl (by kernel_rfl)) rfl ?_
      exact ⟨rfl, below_set2 (below_next Dq.b b4) (by omega)⟩

set_option maxHeartbeats 3200000 in
theorem ref_div_under (a0_0 a0_1 d : Int) (h1 : i64ok a0_0) (h2 : u64ok a0_1) (h3 : u64ok d) (hz : d ≠ 0) (hn : I128.val a0_0 a0_1 < 0) (w : World) :
    Calls Try.prog 24 #[.agg #[.int .i64 a0_0, .int .u64 a0_1], .int .u64 d] w fun e w' => e = .returned (.tuple #[.agg #[.int .i64 (I128.enc (I128.val a0_0 a0_1 / d)).1, .int .u64 (I128.enc (I128.val a0_0 a0_1 / d)).2], .int .u64 (I128.val a0_0 a0_1 % d), .int .i64 0]) ∧ Below w.heap.size w w' := by
  have X := num_of_any a0_0 a0_1 h1 h2
  have ov := I128.val_ok h1 h2
  generalize I128.val a0_0 a0_1 = v at *
  have hd0 : 0 < d := by unfold u64ok at h3; omega
  have hd1 : d ≤ 18446744073709551615 := h3.2
  have BV := num_below_is ov (s := true) (by simp; omega)
  have L0 := num_less_any v
  have hz0 : (d == 0) = false := by simpa using hz
  have R1 := Blk.new' (w := w.alloc (.cells #[.int .i64 a0_0, .int .u64 a0_1] 25)) (g := w.heap.size + 1) 25 #[.int .i64 0, .int .u64 0] (by simp)
  have B1 := below_new (below_new (Below.refl w.heap.size w) (.cells #[.int .i64 a0_0, .int .u64 a0_1] 25)) (.cells #[.int .i64 0, .int .u64 0] 25)
  go_enter Try.func24, Try.ntmps24
  go_wp2_with fail
  refine (X _).mono ?_
  rintro e w1 ⟨rfl, b1⟩
  have hst := store_fresh w1 (dig v)
  have G := NumAt.new w1 (dig v)
  have R2 := (R1.below b1).alloc (.cells (cellsOf (dig v)) 44)
  have B2 := below_new (below_next B1 b1) (.cells (cellsOf (dig v)) 44)
  go_wp2_with (first | (refine load_blk rfl 44 (.tmp 7) rfl w1.heap.size rfl (by first | exact G | exact NumAt.below G b2) Try.underlying44 rfl (by kernel_rfl) ?_) | (go_at_call 35; refine (BV _).mono ?_; rintro e w2 ⟨rfl, b2⟩) | (go_at_call 27; refine (L0 _).mono ?_; rintro e w3 ⟨rfl, b3⟩; have hst3 := ((G.below b2).below b3).store (dig (-v))))
  have hM : 0 ≤ -v ∧ -v < 340282366920938463463374607431768211456 := by unfold i128ok at ov; omega
  have ne1 : w.heap.size + 1 ≠ w1.heap.size := Nat.ne_of_lt (R1.below b1).lt
  have D0 : DivS w ((w3.setRow w1.heap.size (cellsOf (dig (-v)))).alloc (.cells (cellsOf fun _ => 0) 44)) (w.heap.size + 1) w1.heap.size w3.heap.size (-v) (fun _ => 0) := ⟨(((R2.below b2).below b3).rowFar _ ne1).alloc _, (NumAt.row ((NumAt.below G b2).below b3) _).alloc _, NumAt.new' _ (by simp), below_new (below_setRow (below_next (below_next B2 b2) b3) (by have := B1.size; have := b1.size; omega) _) _, Nat.ne_of_lt ((R2.below b2).below b3).lt, Nat.ne_of_lt ((NumAt.below G b2).below b3).lt, (below_next (below_next B2 b2) b3).size⟩
  clear hst hst3
  go_loopw [10, 11] (fun r i wr => ∃ m : Nat, m ≤ 8 ∧ i = .int .i64 ((m : Int) - 1) ∧ r = .int .u64 ((-v) / pw m % d) ∧ DivS w wr (w.heap.size + 1) w1.heap.size w3.heap.size (-v) (fun j => if m ≤ j then dig ((-v) / d) j else 0)) (fun _ i _ => (intOf i + 1).toNat)
  case atStart => exact ⟨8, by omega, rfl, by rw [dig_top (-v) hM.1 hM.2]; simp, D0.congr fun j hj => by rw [if_neg (by omega)]⟩
  case round =>
    obtain ⟨m, hm, rfl, rfl, D⟩ := hrel
    obtain ⟨wo, rfl⟩ : ∃ wo : World, wo = wr := ⟨_, rfl⟩
    have r0 := Int.emod_nonneg ((-v) / pw m) (Int.ne_of_gt hd0)
    have r1 := Int.emod_lt_of_pos ((-v) / pw m) hd0
    by_cases hlt : 0 < m
    · obtain ⟨i, rfl⟩ : ∃ i, m = i + 1 := ⟨m - 1, by omega⟩
      rw [show ((i + 1 : Nat) : Int) - 1 = (i : Int) from by omega]
      go_wp2
      go_loopw [10, 12] (fun r k wr => ∃ s : Nat, s ≤ 16 ∧ k = .int .i64 (kk s) ∧ r = .int .u64 (above (-v) i s % d) ∧ DivS w wr (w.heap.size + 1) w1.heap.size w3.heap.size (-v) (got ((-v) / d) i s)) (fun _ k _ => (intOf k).toNat)
      case atStart => exact ⟨16, by omega, rfl, by rw [above_sixteen (-v) i (by omega)], D.congr fun j hj => (got_top ((-v) / d) i j).symm⟩
      case round =>
        obtain ⟨s, hs, rfl, rfl, E⟩ := hrel
        have a0 := Int.emod_nonneg (above (-v) i s) (Int.ne_of_gt hd0)
        have a1 := Int.emod_lt_of_pos (above (-v) i s) hd0
        by_cases hls : 0 < s
        · obtain ⟨u, rfl⟩ : ∃ u, s = u + 1 := ⟨s - 1, by omega⟩
          obtain ⟨rs, bs⟩ := rest_step (-v) d i u (by omega) (by omega) hd0
          have kh := kk_half u (by omega)
          have kl := kk_lt u (by omega)
          have kr := kk_range u
          have kr1 := kk_range (u + 1)
          have gi : got ((-v) / d) i (u + 1) i = dig ((-v) / d) i / p2 (u + 1) * p2 (u + 1) := by unfold got; rw [if_neg (by omega), if_pos rfl]
          have c1 := E.n.cell i (by omega)
          have c2 := NumAt.cell E.q i (by omega)
          rw [gi] at c2
          have f2 := NumAt.free E.q i
          have gs := got_step ((-v) / d) i u (by omega)
          have dr := dig_range (-v) i
          have dq := dig_range ((-v) / d) i
          have gq0 : 0 ≤ dig ((-v) / d) i / p2 (u + 1) * p2 (u + 1) ∧ dig ((-v) / d) i / p2 (u + 1) * p2 (u + 1) ≤ 65535 := by
            have := Int.ediv_mul_le (dig ((-v) / d) i) (Int.ne_of_gt (p2_pos (u + 1)))
            have := Int.mul_nonneg (Int.ediv_nonneg dq.1 (Int.le_of_lt (p2_pos (u + 1)))) (Int.le_of_lt (p2_pos (u + 1)))
            omega
          clear gi
          have dv0 := Int.ediv_nonneg dr.1 kr1.1
          have hbit : bit (-v) i u = dig (-v) i / kk (u + 1) % 2 := rfl
          have br := bit_range (-v) i u
          generalize above (-v) i (u + 1) % d = y at *
          rcases (show bit (-v) i u = 0 ∨ bit (-v) i u = 1 from by omega) with hbv | hbv
          · skip
            by_cases hov : 9223372036854775808 ≤ y
            · have hb1 : (dig (-v) i / kk (u + 1) % 2 == 1) = false := by rw [← hbit, hbv]; rfl
              have ho : decide (9223372036854775808 ≤ y) = true := by simp; omega
              have e1 : IntKind.u64.wrap (2 * y) = 2 * y - 18446744073709551616 := by rw [IntKind.wrap_u64]; omega
              have e3 : IntKind.u64.wrap (2 * y - 18446744073709551616 - d) = 2 * y - d := by rw [IntKind.wrap_u64]; omega
              have fr := Lib.hid (show above (-v) i u % d = 2 * y - d from by rw [rs, hbv]; rw [if_pos (by omega)]; omega)
              have fb : bit ((-v) / d) i u = 1 := by rw [bs, hbv]; rw [if_pos (by omega)]
              rw [fb] at gs
              have GS := Lib.hid gs
              clear gs fb bs rs
              have KH := Lib.hid kh
              clear kh
              have HBV := Lib.hid hbv; clear hbv
              go_wp2
              go_roundw
              case rel =>
                refine ⟨u, by omega, by rw [KH.out], by rw [fr.out], ?_⟩
                refine E.set i _ (by omega) fun j hj => ?_
                have g1 := GS.out
                unfold got
                by_cases e : j = i
                · subst e; rw [if_pos rfl, if_neg (by omega), if_pos rfl, g1]; show _ + p2 u = _; omega
                · rw [if_neg e, if_neg e, if_neg e]
              case measure => rw [KH.out]; simp only [intOf]; omega
            · by_cases hge : d ≤ 2 * y
              · have hb1 : (dig (-v) i / kk (u + 1) % 2 == 1) = false := by rw [← hbit, hbv]; rfl
                have ho : decide (9223372036854775808 ≤ y) = false := by simp; omega
                have hg : decide (d ≤ 2 * y) = true := by simp; omega
                have fr := Lib.hid (show above (-v) i u % d = 2 * y - d from by rw [rs, hbv]; rw [if_pos (by omega)]; omega)
                have fb : bit ((-v) / d) i u = 1 := by rw [bs, hbv]; rw [if_pos (by omega)]
                rw [fb] at gs
                have GS := Lib.hid gs
                clear gs fb bs rs
                have KH := Lib.hid kh
                clear kh
                have HBV := Lib.hid hbv; clear hbv
                go_wp2
                go_roundw
                case rel =>
                  refine ⟨u, by omega, by rw [KH.out], by rw [fr.out], ?_⟩
                  refine E.set i _ (by omega) fun j hj => ?_
                  have g1 := GS.out
                  unfold got
                  by_cases e : j = i
                  · subst e; rw [if_pos rfl, if_neg (by omega), if_pos rfl, g1]; show _ + p2 u = _; omega
                  · rw [if_neg e, if_neg e, if_neg e]
                case measure => rw [KH.out]; simp only [intOf]; omega
              · have hb1 : (dig (-v) i / kk (u + 1) % 2 == 1) = false := by rw [← hbit, hbv]; rfl
                have ho : decide (9223372036854775808 ≤ y) = false := by simp; omega
                have hg : decide (d ≤ 2 * y) = false := by simp; omega
                have fr := Lib.hid (show above (-v) i u % d = 2 * y from by rw [rs, hbv]; rw [if_neg (by omega)]; omega)
                have fb : bit ((-v) / d) i u = 0 := by rw [bs, hbv]; rw [if_neg (by omega)]
                rw [fb] at gs
                have GS := Lib.hid gs
                clear gs fb bs rs
                have KH := Lib.hid kh
                clear kh
                have HBV := Lib.hid hbv; clear hbv
                go_wp2
                go_roundw
                case rel =>
                  refine ⟨u, by omega, by rw [KH.out], by rw [fr.out], ?_⟩
                  refine E.congr fun j hj => ?_
                  have g1 := GS.out
                  unfold got
                  by_cases e : j = i
                  · subst e; rw [if_neg (by omega), if_pos rfl, if_neg (by omega), if_pos rfl, g1]; omega
                  · rw [if_neg e, if_neg e]
                case measure => rw [KH.out]; simp only [intOf]; omega
          · skip
            by_cases hov : 9223372036854775808 ≤ y
            · have hb1 : (dig (-v) i / kk (u + 1) % 2 == 1) = true := by rw [← hbit, hbv]; rfl
              have ho : decide (9223372036854775808 ≤ y) = true := by simp; omega
              have e1 : IntKind.u64.wrap (2 * y) = 2 * y - 18446744073709551616 := by rw [IntKind.wrap_u64]; omega
              have e2 : IntKind.u64.wrap (2 * y - 18446744073709551616 + 1) = 2 * y - 18446744073709551616 + 1 := by rw [IntKind.wrap_u64]; omega
              have e3 : IntKind.u64.wrap (2 * y - 18446744073709551616 + 1 - d) = 2 * y + 1 - d := by rw [IntKind.wrap_u64]; omega
              have fr := Lib.hid (show above (-v) i u % d = 2 * y + 1 - d from by rw [rs, hbv]; rw [if_pos (by omega)])
              have fb : bit ((-v) / d) i u = 1 := by rw [bs, hbv]; rw [if_pos (by omega)]
              rw [fb] at gs
              have GS := Lib.hid gs
              clear gs fb bs rs
              have KH := Lib.hid kh
              clear kh
              have HBV := Lib.hid hbv; clear hbv
              go_wp2
              go_roundw
              case rel =>
                refine ⟨u, by omega, by rw [KH.out], by rw [fr.out], ?_⟩
                refine E.set i _ (by omega) fun j hj => ?_
                have g1 := GS.out
                unfold got
                by_cases e : j = i
                · subst e; rw [if_pos rfl, if_neg (by omega), if_pos rfl, g1]; show _ + p2 u = _; omega
                · rw [if_neg e, if_neg e, if_neg e]
              case measure => rw [KH.out]; simp only [intOf]; omega
            · by_cases hge : d ≤ 2 * y + 1
              · have hb1 : (dig (-v) i / kk (u + 1) % 2 == 1) = true := by rw [← hbit, hbv]; rfl
                have ho : decide (9223372036854775808 ≤ y) = false := by simp; omega
                have hg : decide (d ≤ 2 * y + 1) = true := by simp; omega
                have fr := Lib.hid (show above (-v) i u % d = 2 * y + 1 - d from by rw [rs, hbv]; rw [if_pos (by omega)])
                have fb : bit ((-v) / d) i u = 1 := by rw [bs, hbv]; rw [if_pos (by omega)]
                rw [fb] at gs
                have GS := Lib.hid gs
                clear gs fb bs rs
                have KH := Lib.hid kh
                clear kh
                have HBV := Lib.hid hbv; clear hbv
                go_wp2
                go_roundw
                case rel =>
                  refine ⟨u, by omega, by rw [KH.out], by rw [fr.out], ?_⟩
                  refine E.set i _ (by omega) fun j hj => ?_
                  have g1 := GS.out
                  unfold got
                  by_cases e : j = i
                  · subst e; rw [if_pos rfl, if_neg (by omega), if_pos rfl, g1]; show _ + p2 u = _; omega
                  · rw [if_neg e, if_neg e, if_neg e]
                case measure => rw [KH.out]; simp only [intOf]; omega
              · have hb1 : (dig (-v) i / kk (u + 1) % 2 == 1) = true := by rw [← hbit, hbv]; rfl
                have ho : decide (9223372036854775808 ≤ y) = false := by simp; omega
                have hg : decide (d ≤ 2 * y + 1) = false := by simp; omega
                have fr := Lib.hid (show above (-v) i u % d = 2 * y + 1 from by rw [rs, hbv]; rw [if_neg (by omega)])
                have fb : bit ((-v) / d) i u = 0 := by rw [bs, hbv]; rw [if_neg (by omega)]
                rw [fb] at gs
                have GS := Lib.hid gs
                clear gs fb bs rs
                have KH := Lib.hid kh
                clear kh
                have HBV := Lib.hid hbv; clear hbv
                go_wp2
                go_roundw
                case rel =>
                  refine ⟨u, by omega, by rw [KH.out], by rw [fr.out], ?_⟩
                  refine E.congr fun j hj => ?_
                  have g1 := GS.out
                  unfold got
                  by_cases e : j = i
                  · subst e; rw [if_neg (by omega), if_pos rfl, if_neg (by omega), if_pos rfl, g1]; omega
                  · rw [if_neg e, if_neg e]
                case measure => rw [KH.out]; simp only [intOf]; omega
        · obtain rfl : s = 0 := by omega
          have hk0 : (kk 0 : Int) = 0 := rfl
          rw [hk0]
          go_wp2
          go_roundw
          case rel => exact ⟨i, by omega, rfl, by rw [above_zero], E.congr fun j hj => got_zero ((-v) / d) i j⟩
          case measure => simp [intOf]
    · obtain rfl : m = 0 := by omega
      have hend : (-v) / pw 0 % d = (-v) % d := by simp only [pw, Int.ediv_one]
      rw [hend]
      have Dq := D.congr (f' := dig ((-v) / d)) fun j hj => if_pos (Nat.zero_le _)
      clear D hend
      by_cases hr0 : -v % d = 0
      · obtain ⟨q1, q2⟩ := neg_exact v d hd0 hr0
        have L := num_less_any (-v / d)
        rw [← q1] at L
        have Z := num_told_any (v / d)
        rw [hr0]
        clear q1 hr0
        go_wp2_with (first | (refine load_blk rfl 44 (.tmp 9) rfl w3.heap.size rfl Dq.q Try.underlying44 rfl (by kernel_rfl) ?_) | (go_at_call 27; refine (L _).mono ?_; rintro e w4 ⟨rfl, b4⟩) | (go_at_call 29; refine (Z _).mono ?_; rintro e w5 ⟨rfl, b5⟩; have R9 := (Dq.r.below b4).below b5; obtain ⟨s0, s1, s2, s3⟩ := Blk.cells2 R9))
        rw [q2]
        refine bodyPost_ret (v := .tuple #[.agg #[.int .i64 (I128.enc (v / d)).1, .int .u64 (I128.enc (v / d)).2], .int .u64 0, .int .i64 0]) (results_ctt (p := 4) (u := 5) (v := 6) (ty := 25) rfl _ rfl rfl rfl (Blk.set2 R9) Try.underlying25 rfl (by kernel_rfl)) rfl ?_
        exact ⟨rfl, below_set2 (below_next (below_next Dq.b b4) b5) (by omega)⟩
      · have hr1 : 0 < -v % d := by have := Int.emod_nonneg (-v) (Int.ne_of_gt hd0); omega
        obtain ⟨q1, q2⟩ := neg_part v d hd0 hr1
        have P := num_plus_any (-v / d) 1
        have L := num_less_any (-v / d + 1)
        rw [← q1] at L
        have Z := num_told_any (v / d)
        have r2 := Int.emod_lt_of_pos (-v) hd0
        have Q2 := Lib.hid q2
        clear q1 q2
        have O := NumAt.new wo (dig 1)
        go_wp2_with (first | (refine load_blk rfl 44 (.tmp 9) rfl w3.heap.size rfl (by first | exact Dq.q.alloc _ | exact qn) Try.underlying44 rfl (by kernel_rfl) ?_) | (refine load_blk rfl 44 (.tmp 14) rfl wo.heap.size rfl O Try.underlying44 rfl (by kernel_rfl) ?_) | (go_at_call 31; refine (P _).mono ?_; rintro e w4 ⟨rfl, b4⟩; have hst4 := (NumAt.below (Dq.q.alloc _) b4).store (dig (-v / d + 1)); have qn := (NumAt.below (Dq.q.alloc _) b4).row (dig (-v / d + 1))) | (go_at_call 27; refine (L _).mono ?_; rintro e w5 ⟨rfl, b5⟩) | (go_at_call 29; refine (Z _).mono ?_; rintro e w6 ⟨rfl, b6⟩; have R9 := ((((Dq.r.alloc _).below b4).rowFar _ Dq.nr).below b5).below b6; obtain ⟨s0, s1, s2, s3⟩ := Blk.cells2 R9))
        rw [Q2.out]
        refine bodyPost_ret (v := .tuple #[.agg #[.int .i64 (I128.enc (v / d)).1, .int .u64 (I128.enc (v / d)).2], .int .u64 (d - -v % d), .int .i64 0]) (results_ctt (p := 4) (u := 5) (v := 6) (ty := 25) rfl _ rfl rfl rfl (Blk.set2 R9) Try.underlying25 rfl (by kernel_rfl)) rfl ?_
        exact ⟨rfl, below_set2 (below_next (below_next (below_setRow (below_next (below_new Dq.b _) b4) Dq.hq _) b5) b6) (by omega)⟩

theorem inclineref01_Div.calls (a0_0 a0_1 a1 r1 r2 r3 r4 : Int) (w : World) (h : inclineref01_Div.f a0_0 a0_1 a1 = some (r1, r2, r3, r4)) :
    Calls Try.prog 24 #[.agg #[.int .i64 a0_0, .int .u64 a0_1], .int .u64 a1] w fun e w' => e = .returned (.tuple #[.agg #[.int .i64 r1, .int .u64 r2], .int .u64 r3, .int .i64 r4]) ∧ Below w.heap.size w w' := by
  unfold inclineref01_Div.f at h
  split at h
  case isFalse => exact absurd h (by simp)
  case isTrue hr =>
    obtain ⟨h1, h2, h3⟩ := hr
    split at h
    · rename_i hz
      subst hz
      simp at h; obtain ⟨rfl, rfl, rfl, rfl⟩ := h
      exact ref_div_zero a0_0 a0_1 w
    · rename_i hz
      simp at h; obtain ⟨rfl, rfl, rfl, rfl⟩ := h
      by_cases hn : I128.val a0_0 a0_1 < 0
      · exact ref_div_under a0_0 a0_1 a1 h1 h2 h3 hz hn w
      · exact ref_div_not a0_0 a0_1 a1 h1 h2 h3 hz (by omega) w

end Go.Proofs.Ytglhfknlemaidaa
