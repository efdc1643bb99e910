/-
  Products and comparisons of 128 bits, in this seat: wide.Times comes to the code of the product, wide.Cmp to the order.
-/
import Derived.Test.YtnccgpdniigekaaProg
import Derived.Test.YtnccgpdniigekaaQG17
import Derived.Test.YtnccgpdniigekaaQG28
import Derived.Test.YtnccgpdniigekaaQShelf
import Derived.Test.YtnccgpdniigekaaQG0
import Derived.BigQuiet
namespace Go.Proofs.Ytnccgpdniigekaa
open Go.RowKit
set_option linter.unusedVariables false
set_option linter.unusedSimpArgs false

theorem eqInt (d : Nat) (w : World) (x0 y0 : Int) (x1 y1 : Int) :
    (Op.equalIn (d + 2) 152 (.agg #[.int .i64 x0, .int .u64 x1]) (.agg #[.int .i64 y0, .int .u64 y1])).run Try.prog w = .ok (x0 == y0 && (x1 == y1 && true)) w := by
  refine equal_struct Try.underlying152 (by kernel_rfl) ?_
  refine eqFields_step (by decide) (by go_simp; rfl) (by go_simp; rfl) (by go_simp) ?_
  exact eqFields_step (by decide) (by go_simp; rfl) (by go_simp; rfl) (by go_simp) eqFields_nil
attribute [local go_sem high] eqInt

theorem mul64 (x y : Int) (hx : u64ok x) (hy : u64ok y) (w : World) :
    Calls Try.prog 116 #[.int .u64 x, .int .u64 y] w fun e w' => e = .returned (.tuple #[.int .u64 (x * y / 18446744073709551616), .int .u64 (x * y % 18446744073709551616)]) ∧ w = w' := by
  unfold u64ok at hx hy
  obtain ⟨X, rfl⟩ := Int.eq_ofNat_of_zero_le hx.1
  obtain ⟨Y, rfl⟩ := Int.eq_ofNat_of_zero_le hy.1
  refine (Try.bits_Mul64 X Y (by omega) (by omega) w).mono ?_
  rintro e w' ⟨rfl, hw⟩
  refine ⟨?_, hw.symm⟩
  congr 4 <;> simp

def wide_Times.f (a0 a1 : Int) : Option (Int × Int) := if i64ok a0 ∧ u64ok a1 then some (I128.enc (a0 * a1)) else none
def wide_Cmp.f (a0_0 a0_1 a1_0 a1_1 : Int) : Option Int := if i64ok a0_0 ∧ u64ok a0_1 ∧ i64ok a1_0 ∧ u64ok a1_1 then some (cmpI (I128.val a0_0 a0_1) (I128.val a1_0 a1_1)) else none

theorem times_neg (a b : Int) (ha : i64ok a) (hn : a < 0) : IntKind.u64.wrap a * b / 18446744073709551616 = a * b / 18446744073709551616 + b ∧ IntKind.u64.wrap a * b % 18446744073709551616 = a * b % 18446744073709551616 := by
  unfold i64ok at ha
  have e : IntKind.u64.wrap a = a + 18446744073709551616 := by rw [IntKind.wrap_u64]; omega
  rw [e, Int.add_mul]
  generalize a * b = p
  omega
theorem times_pos (a : Int) (ha : i64ok a) (hn : ¬ a < 0) : IntKind.u64.wrap a = a := by unfold i64ok at ha; rw [IntKind.wrap_u64]; omega
theorem wrap_wrap (x : Int) : wrap64 (IntKind.u64.wrap x) = wrap64 x := by rw [IntKind.wrap_u64]; unfold wrap64; omega

set_option maxHeartbeats 800000 in
theorem wide_Times.calls (a0 a1 r1 r2 : Int) (w : World) (h : wide_Times.f a0 a1 = some (r1, r2)) :
    Calls Try.prog 114 #[.int .i64 a0, .int .u64 a1] w fun e w' => e = .returned (.agg #[.int .i64 r1, .int .u64 r2]) ∧ Below w.heap.size w w' := by
  unfold wide_Times.f at h
  split at h
  case isFalse => exact absurd h (by simp)
  case isTrue hr =>
    obtain ⟨h1, h2⟩ := hr
    have h := Option.some.inj h
    have M := mul64 (IntKind.u64.wrap a0) a1 (u64_range a0) h2
    by_cases hn : a0 < 0
    · have e := times_neg a0 a1 h1 hn
      rw [e.1, e.2] at M
      obtain ⟨rfl, rfl⟩ : wrap64 (IntKind.u64.wrap (a0 * a1 / 18446744073709551616 + a1 - a1)) = r1 ∧ a0 * a1 % 18446744073709551616 = r2 := by
        rw [Prod.ext_iff] at h; rw [wrap_wrap, show a0 * a1 / 18446744073709551616 + a1 - a1 = a0 * a1 / 18446744073709551616 from by omega]; exact h
      clear h e
      go_enter Try.func114, Try.ntmps114
      go_wp2_with (go_at_call 116; refine (M _).mono ?_; rintro e w' ⟨rfl, rfl⟩)
      simp [bodyPost, results, Try.results114, go_sem]
      exact below_new (Below.refl _ _) _
    · rw [times_pos a0 h1 hn] at M
      obtain ⟨rfl, rfl⟩ : wrap64 (a0 * a1 / 18446744073709551616) = r1 ∧ a0 * a1 % 18446744073709551616 = r2 := by
        rw [Prod.ext_iff] at h; exact h
      have e := Lib.hid (times_pos a0 h1 hn)
      clear h
      go_enter Try.func114, Try.ntmps114
      go_wp2_with (go_at_call 116; rw [e.out]; refine (M _).mono ?_; rintro e w' ⟨rfl, rfl⟩)
      simp [bodyPost, results, Try.results114, go_sem]
      exact below_new (Below.refl _ _) _

set_option maxHeartbeats 800000 in
theorem compare_i64 (x y : Int) (w : World) : Calls Try.prog 127 #[.int .i64 x, .int .i64 y] w fun e w' => e = .returned (.int .i64 (cmpI x y)) ∧ w = w' := by
  by_cases h1 : x < y
  · have E := Lib.hid (cmpI_lt h1)
    go_enter Try.func127, Try.ntmps127
    go_wp2
    go_ret
    exact ⟨by rw [E.out]; rfl, rfl⟩
  · by_cases h2 : y < x
    · have E := Lib.hid (cmpI_gt h2)
      go_enter Try.func127, Try.ntmps127
      go_wp2
      go_ret
      exact ⟨by rw [E.out]; rfl, rfl⟩
    · have E := Lib.hid (cmpI_eq (show x = y by omega))
      go_enter Try.func127, Try.ntmps127
      go_wp2
      go_ret
      exact ⟨by rw [E.out]; rfl, rfl⟩
set_option maxHeartbeats 800000 in
theorem compare_u64 (x y : Int) (w : World) : Calls Try.prog 128 #[.int .u64 x, .int .u64 y] w fun e w' => e = .returned (.int .i64 (cmpI x y)) ∧ w = w' := by
  by_cases h1 : x < y
  · have E := Lib.hid (cmpI_lt h1)
    go_enter Try.func128, Try.ntmps128
    go_wp2
    go_ret
    exact ⟨by rw [E.out]; rfl, rfl⟩
  · by_cases h2 : y < x
    · have E := Lib.hid (cmpI_gt h2)
      go_enter Try.func128, Try.ntmps128
      go_wp2
      go_ret
      exact ⟨by rw [E.out]; rfl, rfl⟩
    · have E := Lib.hid (cmpI_eq (show x = y by omega))
      go_enter Try.func128, Try.ntmps128
      go_wp2
      go_ret
      exact ⟨by rw [E.out]; rfl, rfl⟩

theorem cmp_val_eq (a b c d : Int) (h2 : u64ok b) (h4 : u64ok d) (h : a = c) (h' : b = d) : cmpI (I128.val a b) (I128.val c d) = 0 := by subst h h'; exact cmpI_eq rfl
theorem cmp_val_hi (a b c d : Int) (h2 : u64ok b) (h4 : u64ok d) (h : a ≠ c) : cmpI (I128.val a b) (I128.val c d) = cmpI a c := by
  unfold u64ok at h2 h4; unfold cmpI I128.val
  by_cases h1 : a < c
  · rw [if_pos h1, if_pos (by omega)]
  · rw [if_neg h1, if_neg (by omega), if_neg (by omega), if_neg (by omega)]
theorem cmp_val_lo (a b d : Int) : cmpI (I128.val a b) (I128.val a d) = cmpI b d := by
  unfold cmpI I128.val
  by_cases h1 : b < d
  · rw [if_pos h1, if_pos (by omega)]
  · rw [if_neg h1, if_neg (by omega)]
    by_cases h2 : b = d
    · rw [if_pos h2, if_pos (by omega)]
    · rw [if_neg h2, if_neg (by omega)]

set_option maxHeartbeats 800000 in
theorem wide_Cmp.calls (a0_0 a0_1 a1_0 a1_1 r : Int) (w : World) (h : wide_Cmp.f a0_0 a0_1 a1_0 a1_1 = some r) :
    Calls Try.prog 113 #[.agg #[.int .i64 a0_0, .int .u64 a0_1], .agg #[.int .i64 a1_0, .int .u64 a1_1]] w fun e w' => e = .returned (.int .i64 r) ∧ Below w.heap.size w w' := by
  unfold wide_Cmp.f at h
  split at h
  case isFalse => exact absurd h (by simp)
  case isTrue hr =>
    obtain ⟨h1, h2, h3, h4⟩ := hr
    obtain rfl := Option.some.inj h
    clear h
    by_cases hh : a0_0 = a1_0
    · by_cases hl : a0_1 = a1_1
      · have E := Lib.hid (cmp_val_eq a0_0 a0_1 a1_0 a1_1 h2 h4 hh hl)
        have g1 : (a0_0 == a1_0) = true := by simpa using hh
        have g2 : (a0_1 == a1_1) = true := by simpa using hl
        clear hh hl
        go_enter Try.func113, Try.ntmps113
        go_wp2_with fail
        go_ret
        exact ⟨by rw [E.out]; rfl, below_new (below_new (Below.refl _ _) _) _⟩
      · subst hh
        have E := Lib.hid (cmp_val_lo a0_0 a0_1 a1_1)
        have g2 : (a0_1 == a1_1) = false := by simpa using hl
        clear hl
        go_enter Try.func113, Try.ntmps113
        go_wp2_with (go_at_call 128; refine (compare_u64 _ _ _).mono ?_; rintro e w' ⟨rfl, rfl⟩)
        go_ret
        exact ⟨by rw [E.out]; rfl, below_new (below_new (Below.refl _ _) _) _⟩
    · have E := Lib.hid (cmp_val_hi a0_0 a0_1 a1_0 a1_1 h2 h4 hh)
      have g1 : (a0_0 == a1_0) = false := by simpa using hh
      have g3 : (a0_0 != a1_0) = true := by simpa using hh
      clear hh
      go_enter Try.func113, Try.ntmps113
      go_wp2_with (go_at_call 127; refine (compare_i64 _ _ _).mono ?_; rintro e w' ⟨rfl, rfl⟩)
      go_ret
      exact ⟨by rw [E.out]; rfl, below_new (below_new (Below.refl _ _) _) _⟩

theorem cTimes {a b : Int} (h : i64ok a) (k : u64ok b) (w : World) : Calls Try.prog 114 #[.int .i64 a, .int .u64 b] w fun e w' => e = .returned (.agg #[.int .i64 (I128.enc (a * b)).1, .int .u64 (I128.enc (a * b)).2]) ∧ Below w.heap.size w w' :=
  wide_Times.calls a b _ _ w (by unfold wide_Times.f; rw [if_pos ⟨h, k⟩])
theorem cCmp {x y : Int} (hx : i128ok x) (hy : i128ok y) (w : World) : Calls Try.prog 113 #[.agg #[.int .i64 (I128.enc x).1, .int .u64 (I128.enc x).2], .agg #[.int .i64 (I128.enc y).1, .int .u64 (I128.enc y).2]] w fun e w' => e = .returned (.int .i64 (cmpI x y)) ∧ Below w.heap.size w w' :=
  wide_Cmp.calls _ _ _ _ _ w (by unfold wide_Cmp.f; rw [if_pos ⟨I128.enc_i64 x, I128.enc_u64 x, I128.enc_i64 y, I128.enc_u64 y⟩, I128.val_enc_of hx, I128.val_enc_of hy])
end Go.Proofs.Ytnccgpdniigekaa
/-
  How the slopes between points stand to one another: hull.turn, hull.steeper, hull.bend.
-/
namespace Go.Proofs.Ytnccgpdniigekaa
open Go.RowKit
set_option linter.unusedVariables false
set_option linter.unusedSimpArgs false

/-- A height that is no more than 2^60. -/
def smallY (y : Int) : Prop := -1152921504606846976 ≤ y ∧ y ≤ 1152921504606846976
theorem prod_ok {a b : Int} (h1 : -4611686018427387904 ≤ a) (h2 : a ≤ 4611686018427387904) (h3 : 0 ≤ b) (h4 : b ≤ 18446744073709551615) : i128ok (a * b) := by
  unfold i128ok
  have k1 : -4611686018427387904 * b ≤ a * b := Int.mul_le_mul_of_nonneg_right h1 h3
  have k2 : a * b ≤ 4611686018427387904 * b := Int.mul_le_mul_of_nonneg_right h2 h3
  omega
/-- Three points boxed, one behind the other. -/
structure C3 (w : World) (px py qx qy rx ry : Int) (w' : World) : Prop where
  p : Blk w' w.heap.size 139 #[.int .u64 px, .int .i64 py]
  q : Blk w' (w.heap.size + 1) 139 #[.int .u64 qx, .int .i64 qy]
  r : Blk w' (w.heap.size + 2) 139 #[.int .u64 rx, .int .i64 ry]
  bel : Below w.heap.size w w'
section
variable {w w' w2 : World} {px py qx qy rx ry : Int}
theorem C3.start : C3 w px py qx qy rx ry (((w.alloc (.cells #[.int .u64 px, .int .i64 py] 139)).alloc (.cells #[.int .u64 qx, .int .i64 qy] 139)).alloc (.cells #[.int .u64 rx, .int .i64 ry] 139)).drew :=
  ⟨(((Blk.new w _ _).alloc _).alloc _).drew, ((Blk.new' _ _ (by simp)).alloc _).drew, (Blk.new' _ _ (by simp)).drew, (below_new (below_new (below_new (Below.refl _ _) _) _) _).drew⟩
theorem C3.below (h : C3 w px py qx qy rx ry w') (k : Below w'.heap.size w' w2) : C3 w px py qx qy rx ry w2 := ⟨h.p.below k, h.q.below k, h.r.below k, below_next h.bel k⟩
theorem C3.all (h : C3 w px py qx qy rx ry w') : C3 w px py qx qy rx ry w' ∧ w'.cell? ⟨w.heap.size, 0, none⟩ = some (.int .u64 px) ∧ w'.cell? ⟨w.heap.size, 1, none⟩ = some (.int .i64 py) ∧ w'.cell? ⟨w.heap.size + 1, 0, none⟩ = some (.int .u64 qx) ∧ w'.cell? ⟨w.heap.size + 1, 1, none⟩ = some (.int .i64 qy) ∧ w'.cell? ⟨w.heap.size + 2, 0, none⟩ = some (.int .u64 rx) ∧ w'.cell? ⟨w.heap.size + 2, 1, none⟩ = some (.int .i64 ry) :=
  ⟨h, h.p.cell 0, h.p.cell 1, h.q.cell 0, h.q.cell 1, h.r.cell 0, h.r.cell 1⟩
end
theorem bend_low (w : World) : Calls Try.prog 111 #[.int .i64 0] w fun e w' => e = .returned (.int .i64 (-1)) ∧ w = w' := by
  go_enter Try.func111, Try.ntmps111
  go_wp2
  go_ret
  exact ⟨rfl, rfl⟩
theorem bend_up (w : World) : Calls Try.prog 111 #[.int .i64 1] w fun e w' => e = .returned (.int .i64 1) ∧ w = w' := by
  go_enter Try.func111, Try.ntmps111
  go_wp2
  go_ret
  exact ⟨rfl, rfl⟩
set_option maxHeartbeats 2000000 in
theorem turn_any (px py qx qy rx ry : Int) (hp : u64ok px) (hq : u64ok qx) (hr : u64ok rx) (yp : smallY py) (yq : smallY qy) (yr : smallY ry) (h1 : px ≤ qx) (h2 : px ≤ rx) (w : World) :
    Calls Try.prog 115 #[.agg #[.int .u64 px, .int .i64 py], .agg #[.int .u64 qx, .int .i64 qy], .agg #[.int .u64 rx, .int .i64 ry]] w fun e w' => e = .returned (.int .i64 (cmpI ((qy - py) * (rx - px)) ((ry - py) * (qx - px)))) ∧ Below w.heap.size w w' := by
  unfold smallY at yp yq yr
  unfold u64ok at hp hq hr
  have a1 : IntKind.i64.wrap (qy - py) = qy - py := IntWalk.i64_in _ (by omega)
  have a2 : IntKind.u64.wrap (rx - px) = rx - px := by rw [IntKind.wrap_u64]; omega
  have a3 : IntKind.i64.wrap (ry - py) = ry - py := IntWalk.i64_in _ (by omega)
  have a4 : IntKind.u64.wrap (qx - px) = qx - px := by rw [IntKind.wrap_u64]; omega
  have p1 := prod_ok (a := qy - py) (b := rx - px) (by omega) (by omega) (by omega) (by omega)
  have p2 := prod_ok (a := ry - py) (b := qx - px) (by omega) (by omega) (by omega) (by omega)
  have T1 := fun w => cTimes (a := qy - py) (b := rx - px) (by unfold i64ok; omega) (by unfold u64ok; omega) w
  have T2 := fun w => cTimes (a := ry - py) (b := qx - px) (by unfold i64ok; omega) (by unfold u64ok; omega) w
  have CC := fun w => cCmp p1 p2 w
  clear p1 p2 hp hq hr yp yq yr
  have C0 : Hid (C3 w px py qx qy rx ry (((w.alloc (.cells #[.int .u64 px, .int .i64 py] 139)).alloc (.cells #[.int .u64 qx, .int .i64 qy] 139)).alloc (.cells #[.int .u64 rx, .int .i64 ry] 139)).drew) := Lib.hid (C3.start ..)
  go_enter Try.func115, Try.ntmps115
  go_wp2
  go_region_held3 (fun w' => C3 w px py qx qy rx ry w' ∧ w'.cell? ⟨w.heap.size, 0, none⟩ = some (.int .u64 px) ∧ w'.cell? ⟨w.heap.size, 1, none⟩ = some (.int .i64 py) ∧ w'.cell? ⟨w.heap.size + 1, 0, none⟩ = some (.int .u64 qx) ∧ w'.cell? ⟨w.heap.size + 1, 1, none⟩ = some (.int .i64 qy) ∧ w'.cell? ⟨w.heap.size + 2, 0, none⟩ = some (.int .u64 rx) ∧ w'.cell? ⟨w.heap.size + 2, 1, none⟩ = some (.int .i64 ry))
    (first | exact C3.all C0.out | exact C3.all (C3.below (‹C3 _ _ _ _ _ _ _ _ ∧ _›).1 hb))
    (first | (go_at_call 114; (with_reducible refine (T1 _).mono ?_); rintro e w' ⟨rfl, hb⟩) | (go_at_call 114; (with_reducible refine (T2 _).mono ?_); rintro e w' ⟨rfl, hb⟩) | (go_at_call 113; (with_reducible refine (CC _).mono ?_); rintro e w' ⟨rfl, hb⟩))
  all_goals
    go_wp2
    have K := (‹C3 _ _ _ _ _ _ _ _ ∧ _›).1
    go_ret
    exact ⟨rfl, K.bel⟩
set_option maxHeartbeats 2000000 in
theorem steeper_any (px py qx qy rx ry : Int) (hp : u64ok px) (hq : u64ok qx) (hr : u64ok rx) (yp : smallY py) (yq : smallY qy) (yr : smallY ry) (h1 : px ≤ rx) (h2 : qx ≤ rx) (w : World) :
    Calls Try.prog 110 #[.agg #[.int .u64 px, .int .i64 py], .agg #[.int .u64 qx, .int .i64 qy], .agg #[.int .u64 rx, .int .i64 ry]] w fun e w' => e = .returned (.int .i64 (cmpI ((ry - py) * (rx - qx)) ((ry - qy) * (rx - px)))) ∧ Below w.heap.size w w' := by
  unfold smallY at yp yq yr
  unfold u64ok at hp hq hr
  have a1 : IntKind.i64.wrap (ry - py) = ry - py := IntWalk.i64_in _ (by omega)
  have a2 : IntKind.u64.wrap (rx - qx) = rx - qx := by rw [IntKind.wrap_u64]; omega
  have a3 : IntKind.i64.wrap (ry - qy) = ry - qy := IntWalk.i64_in _ (by omega)
  have a4 : IntKind.u64.wrap (rx - px) = rx - px := by rw [IntKind.wrap_u64]; omega
  have p1 := prod_ok (a := ry - py) (b := rx - qx) (by omega) (by omega) (by omega) (by omega)
  have p2 := prod_ok (a := ry - qy) (b := rx - px) (by omega) (by omega) (by omega) (by omega)
  have T1 := fun w => cTimes (a := ry - py) (b := rx - qx) (by unfold i64ok; omega) (by unfold u64ok; omega) w
  have T2 := fun w => cTimes (a := ry - qy) (b := rx - px) (by unfold i64ok; omega) (by unfold u64ok; omega) w
  have CC := fun w => cCmp p1 p2 w
  clear p1 p2 hp hq hr yp yq yr
  have C0 : Hid (C3 w px py qx qy rx ry (((w.alloc (.cells #[.int .u64 px, .int .i64 py] 139)).alloc (.cells #[.int .u64 qx, .int .i64 qy] 139)).alloc (.cells #[.int .u64 rx, .int .i64 ry] 139)).drew) := Lib.hid (C3.start ..)
  go_enter Try.func110, Try.ntmps110
  go_wp2
  go_region_held3 (fun w' => C3 w px py qx qy rx ry w' ∧ w'.cell? ⟨w.heap.size, 0, none⟩ = some (.int .u64 px) ∧ w'.cell? ⟨w.heap.size, 1, none⟩ = some (.int .i64 py) ∧ w'.cell? ⟨w.heap.size + 1, 0, none⟩ = some (.int .u64 qx) ∧ w'.cell? ⟨w.heap.size + 1, 1, none⟩ = some (.int .i64 qy) ∧ w'.cell? ⟨w.heap.size + 2, 0, none⟩ = some (.int .u64 rx) ∧ w'.cell? ⟨w.heap.size + 2, 1, none⟩ = some (.int .i64 ry))
    (first | exact C3.all C0.out | exact C3.all (C3.below (‹C3 _ _ _ _ _ _ _ _ ∧ _›).1 hb))
    (first | (go_at_call 114; (with_reducible refine (T1 _).mono ?_); rintro e w' ⟨rfl, hb⟩) | (go_at_call 114; (with_reducible refine (T2 _).mono ?_); rintro e w' ⟨rfl, hb⟩) | (go_at_call 113; (with_reducible refine (CC _).mono ?_); rintro e w' ⟨rfl, hb⟩))
  all_goals
    go_wp2
    have K := (‹C3 _ _ _ _ _ _ _ _ ∧ _›).1
    go_ret
    exact ⟨rfl, K.bel⟩
end Go.Proofs.Ytnccgpdniigekaa
/-
  Fractions: ratio.Lowest, hull.below, hull.between.
-/
namespace Go.Proofs.Ytnccgpdniigekaa
open Go.RowKit
set_option linter.unusedVariables false
set_option linter.unusedSimpArgs false

/-- What Euclid's loop keeps. -/
def GcdTo (n d : Int) (x y : Value) : Prop := ∃ a b : Int, x = .int .u64 a ∧ y = .int .u64 b ∧ 0 ≤ a ∧ 0 ≤ b ∧ (0 < a ∨ 0 < b) ∧ b < 18446744073709551616 ∧ a < 18446744073709551616 ∧ Int.gcd a b = Int.gcd n d
theorem gcd_emod (a b : Int) (ha : 0 ≤ a) (hb : 0 ≤ b) : Int.gcd (b % a) a = Int.gcd a b := by
  obtain ⟨a, rfl⟩ := Int.eq_ofNat_of_zero_le ha
  obtain ⟨b, rfl⟩ := Int.eq_ofNat_of_zero_le hb
  rw [← Int.natCast_emod, Int.gcd_natCast_natCast, Int.gcd_natCast_natCast]
  exact (Nat.gcd_rec a b).symm
theorem gcd_at_zero (b : Int) (hb : 0 ≤ b) : ((Int.gcd 0 b : Nat) : Int) = b := by
  rw [Int.gcd_zero_left]; omega
theorem ratio_Lowest (n d : Int) (hn : u64ok n) (hd : u64ok d) (h0 : 0 < d) (w : World) :
    Calls Try.prog 112 #[.int .u64 n, .int .u64 d] w fun e w' => e = .returned (.tuple #[.agg #[.int .u64 (lowest n d).1, .int .u64 (lowest n d).2], .int .i64 0]) ∧ Below w.heap.size w w' := by
  unfold u64ok at hn hd
  have HL : Hid (lowest n d = (n / (Int.gcd n d : Nat), d / (Int.gcd n d : Nat))) := Lib.hid rfl
  have HG : Hid (0 < ((Int.gcd n d : Nat) : Int) ∧ 0 ≤ n / ((Int.gcd n d : Nat) : Int) ∧ n / ((Int.gcd n d : Nat) : Int) ≤ n ∧ 0 ≤ d / ((Int.gcd n d : Nat) : Int) ∧ d / ((Int.gcd n d : Nat) : Int) ≤ d) := by
    have h : 0 < Int.gcd n d := Int.gcd_pos_of_ne_zero_right _ (by omega)
    exact Lib.hid ⟨by omega, Int.ediv_nonneg hn.1 (by omega), Int.ediv_le_self _ hn.1, Int.ediv_nonneg hd.1 (by omega), Int.ediv_le_self _ hd.1⟩
  go_enter Try.func112, Try.ntmps112
  go_wp2
  go_loop [6, 7] (fun x y => GcdTo n d x y) (fun x _ => (intOf x).toNat)
  case atStart => exact ⟨n, d, rfl, rfl, hn.1, hd.1, .inr h0, by omega, by omega, rfl⟩
  case round =>
    obtain ⟨a, b, rfl, rfl, ha, hb, hab, hb2, ha2, hg⟩ := hrel
    by_cases hp : 0 < a
    · have G := Lib.hid (gcd_emod a b ha hb)
      have m1 := Int.emod_nonneg b (show a ≠ 0 by omega)
      have m2 := Int.emod_lt_of_pos b hp
      go_wp2
      go_round
      case rel => exact ⟨_, _, rfl, rfl, by omega, by omega, .inr hp, by omega, by omega, by rw [G.out, hg]⟩
      case measure => simp only [intOf]; omega
    · obtain rfl : a = 0 := by omega
      have hgb : ((Int.gcd n d : Nat) : Int) = b := by rw [← hg]; exact gcd_at_zero b hb
      rw [hgb] at HL HG
      obtain ⟨g0, g1, g2, g3, g4⟩ := HG.out
      have b0 : (b == 0) = false := by
        have : b ≠ 0 := by omega
        simpa using this
      have b1 : b ≠ 0 := by omega
      have hdv : ∀ x y : Int, 0 ≤ x → 0 < y → x.tdiv y = x / y := fun x y h _ => Int.tdiv_eq_ediv_of_nonneg h
      go_wp2_with fail
      go_big_region
      all_goals go_wp2_with fail
      all_goals refine bodyPost_ret (v := .tuple #[.agg #[.int .u64 (lowest n d).1, .int .u64 (lowest n d).2], .int .i64 0]) (results_ct (p := 4) (u := 5) (ty := 122) (t := 122) rfl _ rfl rfl ?_ Try.underlying122 rfl (by kernel_rfl)) rfl ?_
      · rw [HL.out]; exact (Blk.new _ _ _).drew
      · exact ⟨rfl, (below_new (Below.refl _ _) _).drew⟩
/-- A fraction, coded. -/
def frV (a : Fr) : Value := .agg #[.int .u64 a.1, .int .u64 a.2]
/-- A fraction of 64 bits whose numerator is an int64. -/
structure Fr64 (a : Fr) : Prop where
  num : 0 ≤ a.1 ∧ a.1 ≤ 9223372036854775807
  den : 0 ≤ a.2 ∧ a.2 ≤ 18446744073709551615
theorem Fr64.prod {a b : Fr} (ha : Fr64 a) (hb : Fr64 b) : i128ok (a.1 * b.2) := by
  have h1 := ha.num; have h2 := hb.den
  unfold i128ok
  have k1 : 0 ≤ a.1 * b.2 := Int.mul_nonneg h1.1 h2.1
  have k2 : a.1 * b.2 ≤ 9223372036854775807 * 18446744073709551615 := Int.mul_le_mul h1.2 h2.2 h2.1 (by omega)
  omega
/-- Two fractions boxed, one behind the other. -/
structure R2 (w : World) (a b : Fr) (w' : World) : Prop where
  p : Blk w' w.heap.size 122 #[.int .u64 a.1, .int .u64 a.2]
  q : Blk w' (w.heap.size + 1) 122 #[.int .u64 b.1, .int .u64 b.2]
  bel : Below w.heap.size w w'
section
variable {w w' w2 : World} {a b : Fr}
theorem R2.start : R2 w a b (((w.alloc (.cells #[.int .u64 a.1, .int .u64 a.2] 122)).alloc (.cells #[.int .u64 b.1, .int .u64 b.2] 122))).drew :=
  ⟨((Blk.new w _ _).alloc _).drew, (Blk.new' _ _ (by simp)).drew, (below_new (below_new (Below.refl _ _) _) _).drew⟩
theorem R2.below (h : R2 w a b w') (k : Below w'.heap.size w' w2) : R2 w a b w2 := ⟨h.p.below k, h.q.below k, below_next h.bel k⟩
theorem R2.all (h : R2 w a b w') : R2 w a b w' ∧ w'.cell? ⟨w.heap.size, 0, none⟩ = some (.int .u64 a.1) ∧ w'.cell? ⟨w.heap.size, 1, none⟩ = some (.int .u64 a.2) ∧ w'.cell? ⟨w.heap.size + 1, 0, none⟩ = some (.int .u64 b.1) ∧ w'.cell? ⟨w.heap.size + 1, 1, none⟩ = some (.int .u64 b.2) :=
  ⟨h, h.p.cell 0, h.p.cell 1, h.q.cell 0, h.q.cell 1⟩
end
set_option maxHeartbeats 2000000 in
theorem below_any (a b : Fr) (ha : Fr64 a) (hb0 : Fr64 b) (h0 : a.2 ≠ 0 ∨ b.2 ≠ 0) (oa : OkF a) (ob : OkF b) (w : World) :
    Calls Try.prog 94 #[.agg #[.int .u64 a.1, .int .u64 a.2], .agg #[.int .u64 b.1, .int .u64 b.2]] w fun e w' => e = .returned (.bool (decide (ltF a b))) ∧ Below w.heap.size w w' := by
  have p1 := Fr64.prod ha hb0
  have p2 := Fr64.prod hb0 ha
  have n1 := ha.num; have n2 := ha.den; have n3 := hb0.num; have n4 := hb0.den
  have s1 := oa.some; have s2 := ob.some
  have a1 : IntKind.i64.wrap a.1 = a.1 := IntWalk.i64_in _ (by omega)
  have a2 : IntKind.i64.wrap b.1 = b.1 := IntWalk.i64_in _ (by omega)
  have T1 := fun w => cTimes (a := a.1) (b := b.2) (by unfold i64ok; omega) (by unfold u64ok; omega) w
  have T2 := fun w => cTimes (a := b.1) (b := a.2) (by unfold i64ok; omega) (by unfold u64ok; omega) w
  have CC := fun w => cCmp p1 p2 w
  clear p1 p2 ha hb0 oa ob
  obtain ⟨an, ad⟩ := a
  obtain ⟨bn, bd⟩ := b
  simp only [] at *
  by_cases hb2 : bd = 0
  · subst hb2
    have E : Hid (decide (ltF (an, ad) (bn, 0)) = (ad != 0)) := Lib.hid (by
      unfold ltF
      have : 0 < bn := by omega
      have h3 : 0 < bn * ad ↔ ad ≠ 0 := ⟨fun h => by rintro rfl; simp at h, fun h => Int.mul_pos this (by omega)⟩
      rw [Bool.eq_iff_iff]; simp; exact h3)
    go_enter Try.func94, Try.ntmps94
    go_wp2
    go_ret
    exact ⟨by rw [E.out]; rfl, below_new (below_new (Below.refl _ _) _) _⟩
  · by_cases ha2 : ad = 0
    · subst ha2
      have E : Hid (decide (ltF (an, 0) (bn, bd)) = false) := Lib.hid (by
        unfold ltF
        have k1 : 0 ≤ an * bd := Int.mul_nonneg n1.1 n4.1
        simp; omega)
      have C0 : Hid (R2 w (an, 0) (bn, bd) (((w.alloc (.cells #[.int .u64 an, .int .u64 0] 122)).alloc (.cells #[.int .u64 bn, .int .u64 bd] 122))).drew) := Lib.hid (R2.start (a := (an, 0)) (b := (bn, bd)))
      have c := R2.all C0.out
      go_enter Try.func94, Try.ntmps94
      go_wp2_with fail
      go_quiet (fail)
      go_wp2
      go_ret
      exact ⟨by rw [E.out]; rfl, drewN_below (below_new (below_new (Below.refl _ _) _) _) _⟩
    · have g1 : (ad != 0) = true := by simpa using ha2
      have g2 : (bd == 0) = false := by simpa using hb2
      have E : Hid (decide (cmpI (an * bd) (bn * ad) < 0) = decide (ltF (an, ad) (bn, bd))) := Lib.hid (by
        unfold ltF
        rcases Int.lt_trichotomy (an * bd) (bn * ad) with h | h | h
        · rw [cmpI_lt h]; simp [h]
        · rw [cmpI_eq h]; simp [h]
        · have h' : ¬ an * bd < bn * ad := Int.not_lt.2 (Int.le_of_lt h)
          rw [cmpI_gt h]; simp [h'])
      have C0 : Hid (R2 w (an, ad) (bn, bd) (((w.alloc (.cells #[.int .u64 an, .int .u64 ad] 122)).alloc (.cells #[.int .u64 bn, .int .u64 bd] 122))).drew) := Lib.hid (R2.start (a := (an, ad)) (b := (bn, bd)))
      go_enter Try.func94, Try.ntmps94
      go_wp2
      go_region_held3 (fun w' => R2 w (an, ad) (bn, bd) w' ∧ w'.cell? ⟨w.heap.size, 0, none⟩ = some (.int .u64 an) ∧ w'.cell? ⟨w.heap.size, 1, none⟩ = some (.int .u64 ad) ∧ w'.cell? ⟨w.heap.size + 1, 0, none⟩ = some (.int .u64 bn) ∧ w'.cell? ⟨w.heap.size + 1, 1, none⟩ = some (.int .u64 bd))
        (first | exact R2.all C0.out | exact R2.all (R2.below (‹R2 _ _ _ _ ∧ _›).1 hb))
        (first | (go_at_call 114; (with_reducible refine (T1 _).mono ?_); rintro e w' ⟨rfl, hb⟩) | (go_at_call 114; (with_reducible refine (T2 _).mono ?_); rintro e w' ⟨rfl, hb⟩) | (go_at_call 113; (with_reducible refine (CC _).mono ?_); rintro e w' ⟨rfl, hb⟩))
      all_goals
        go_wp2
        have K := (‹R2 _ _ _ _ ∧ _›).1
        go_ret
        exact ⟨by rw [E.out]; rfl, K.bel⟩
/-- A struct alone. -/
theorem results_cl {P : Program} {fn : Func} {p : Tmp} {ty : TypeId} (h : fn.results = #[.cell p ty]) (tmps : Array Value) {w : World} {g : Nat} {t : TypeId} {cs : Array Value} {d : TypeDesc}
    (hp : tmps.getD p undef = .pointer (some ⟨g, 0, none⟩)) (hg : Blk w g t cs)
    (hu : P.underlying ty = some d) (hd : (match d with | .struct _ | .array _ _ => true | _ => false) = true) (hi : (P.info? ty).map (·.size) = some cs.size) :
    (results fn tmps).run P w = .ok (.agg cs) w := by
  have hp' : tmps[p]?.getD undef = .pointer (some ⟨g, 0, none⟩) := by simpa using hp
  simp [results, h, hp', asAddr, run_loadVar_row (P := P) w g t ty cs (0, 0) d hg hu hd hi]
/-- The slope between two points. -/
def slopeF (p q : Int × Int) : Fr := lowest (q.2 - p.2) (q.1 - p.1)
set_option maxHeartbeats 1000000 in
theorem between_any (px py qx qy : Int) (hp : u64ok px) (hq : u64ok qx) (yp : smallY py) (yq : smallY qy) (hx : px < qx) (hy : py ≤ qy) (w : World) :
    Calls Try.prog 93 #[.agg #[.int .u64 px, .int .i64 py], .agg #[.int .u64 qx, .int .i64 qy]] w fun e w' => e = .returned (frV (slopeF (px, py) (qx, qy))) ∧ Below w.heap.size w w' := by
  unfold smallY at yp yq
  unfold u64ok at hp hq
  have a1 : IntKind.i64.wrap (qy - py) = qy - py := IntWalk.i64_in _ (by omega)
  have a3 : IntKind.u64.wrap (qy - py) = qy - py := by rw [IntKind.wrap_u64]; omega
  have a2 : IntKind.u64.wrap (qx - px) = qx - px := by rw [IntKind.wrap_u64]; omega
  have L := fun w => ratio_Lowest (qy - py) (qx - px) (by unfold u64ok; omega) (by unfold u64ok; omega) (by omega) w
  clear hp hq yp yq hx hy
  unfold frV slopeF
  simp only []
  generalize lowest (qy - py) (qx - px) = l at *
  go_enter Try.func93, Try.ntmps93
  go_wp2_with fail
  refine (L _).mono ?_
  rintro e w2 ⟨rfl, b2⟩
  have A0 := (Blk.new' (w := (w.alloc (.cells #[.int .u64 px, .int .i64 py] 139)).alloc (.cells #[.int .u64 qx, .int .i64 qy] 139)) (g := w.heap.size + 1 + 1) 122 #[.int .u64 0, .int .u64 0] (by simp)).below b2
  obtain ⟨x0, x1, x2, x3⟩ := A0.cells2
  have l0 := A0.lt
  have B2 := below_next (below_new (below_new (below_new (Below.refl w.heap.size w) (.cells #[.int .u64 px, .int .i64 py] 139)) (.cells #[.int .u64 qx, .int .i64 qy] 139)) (.cells #[.int .u64 0, .int .u64 0] 122)) b2
  go_wp2_with fail
  refine bodyPost_ret (v := .agg #[.int .u64 l.1, .int .u64 l.2]) (results_cl (p := 4) (ty := 122) (t := 122) rfl _ rfl (A0.set2.alloc _) Try.underlying122 rfl (by kernel_rfl)) rfl ?_
  exact ⟨rfl, below_new (below_set2 B2 (by omega)) _⟩
end Go.Proofs.Ytnccgpdniigekaa
/-
  Points in memory: a slice that owns a row of points, its cells.
-/
namespace Go.Proofs.Ytnccgpdniigekaa
open Go.RowKit
set_option linter.unusedVariables false
set_option linter.unusedSimpArgs false

def pcells (e : Pt) : List Value := [.int .u64 e.1, .int .i64 e.2]
/-- The cells of entries, one behind the other. -/
def flat (es : List Pt) : List Value := es.flatMap pcells
theorem length_pcells (e : Pt) : (pcells e).length = 2 := rfl
theorem flat_nil : flat [] = [] := rfl
theorem flat_cons (e : Pt) (es : List Pt) : flat (e :: es) = pcells e ++ flat es := rfl
theorem flat_append (a b : List Pt) : flat (a ++ b) = flat a ++ flat b := by simp [flat]
theorem length_flat : ∀ es : List Pt, (flat es).length = es.length * 2
  | [] => rfl
  | e :: es => by rw [flat_cons, List.length_append, length_flat es, length_pcells, List.length_cons]; omega
theorem flat_get : ∀ (es : List Pt) (i j : Nat) (h : i < es.length), j < 2 → (flat es)[i * 2 + j]? = (pcells es[i])[j]?
  | e :: es, 0, j, _, hj => by rw [flat_cons, List.getElem?_append_left (by rw [length_pcells]; omega)]; simp
  | e :: es, i + 1, j, h, hj => by
    rw [flat_cons, List.getElem?_append_right (by rw [length_pcells]; omega), length_pcells]
    have := flat_get es i j (by simpa using h) hj
    rw [show (i + 1) * 2 + j - 2 = i * 2 + j from by omega, this]
    rfl
theorem flat_take (es : List Pt) (n : Nat) : flat (es.take n) = (flat es).take (n * 2) := by
  induction es generalizing n with
  | nil => simp [flat_nil]
  | cons e es ih =>
    cases n with
    | zero => simp [flat_nil]
    | succ n => rw [List.take_succ_cons, flat_cons, flat_cons, ih, List.take_append, length_pcells, List.take_of_length_le (l := pcells e) (by rw [length_pcells]; omega), show (n + 1) * 2 - 2 = n * 2 from by omega]
/-- The slice v owns a row of just these entries. -/
def Row (w : World) (v : Value) (es : List Pt) : Prop := w.ownsRow 0 139 2 v es.length (flat es)
theorem Row.nil (w : World) : Row w (.slice none 0 0) [] := World.ownsRow_nil w _ _ _
theorem Row.cells {w : World} {g n cap : Nat} {es : List Pt} (h : Row w (.slice (some ⟨g, 0, none⟩) n cap) es) {i : Nat} (hi : i < es.length) :
    w.cell? ⟨g, i * 2, none⟩ = some (.int .u64 es[i].1) ∧ w.cell? ⟨g, i * 2 + 1, none⟩ = some (.int .i64 es[i].2) := by
  have hc := World.ownsRow.cells h (g := g) rfl
  have key : ∀ j, j < 2 → w.cell? ⟨g, i * 2 + j, none⟩ = (pcells es[i])[j]? := by
    intro j hj
    have := hc (i * 2 + j) ((pcells es[i])[j]'(by rw [length_pcells]; exact hj)) (by rw [flat_get es i j hi hj, List.getElem?_eq_getElem])
    rw [Addr.add_mid] at this
    rw [List.getElem?_eq_getElem (by rw [length_pcells]; exact hj), ← this]
    simp
  exact ⟨by simpa [pcells] using key 0 (by omega), by simpa [pcells] using key 1 (by omega)⟩
theorem Row.form {w : World} {v : Value} {es : List Pt} (h : Row w v es) : (v = .slice none 0 0 ∧ es = []) ∨ ∃ g cap, v = .slice (some ⟨g, 0, none⟩) es.length cap ∧ g < w.heap.size ∧ es.length ≤ cap ∧ cap ≤ maxLen := by
  rcases h.2 with ⟨hv, h0⟩ | ⟨g, cap, cur, hv, _, hg, hn, hm, _⟩
  · exact .inl ⟨hv, List.eq_nil_of_length_eq_zero h0⟩
  · exact .inr ⟨g, cap, hv, Blk.lt (t := 139) hg, hn, hm⟩
theorem Row.val {w : World} {v : Value} {es : List Pt} (h : Row w v es) : ∃ A c, v = .slice A es.length c := by
  rcases h.form with ⟨rfl, rfl⟩ | ⟨g, cap, rfl, _⟩
  · exact ⟨_, _, rfl⟩
  · exact ⟨_, _, rfl⟩
theorem Row.cur {w : World} {g n cap : Nat} {es : List Pt} (h : Row w (.slice (some ⟨g, 0, none⟩) n cap) es) :
    n = es.length ∧ ∃ cur : Array Value, Blk w g 139 cur ∧ es.length ≤ cap ∧ cap ≤ maxLen ∧ cur.size = cap * 2 ∧ cur.toList.take (es.length * 2) = flat es := by
  rcases h.2 with ⟨hv, _⟩ | ⟨g', cap', cur, hv, _, hg, hn, hm, hs, ht⟩
  · cases hv
  · injection hv with h1 h2 h3
    injection h1 with h1; injection h1 with h1
    subst h1 h3
    exact ⟨h2, cur, hg, hn, hm, hs, ht⟩
theorem Row.mk' {w : World} {g cap : Nat} {es : List Pt} {cur : Array Value} (hg : Blk w g 139 cur) (hn : es.length ≤ cap) (hm : cap ≤ maxLen) (hs : cur.size = cap * 2) (ht : cur.toList.take (es.length * 2) = flat es) :
    Row w (.slice (some ⟨g, 0, none⟩) es.length cap) es := ⟨length_flat es, .inr ⟨g, cap, cur, rfl, Nat.zero_le _, hg, hn, hm, hs, ht⟩⟩
theorem Row.chg {S : Nat → Prop} {w w' : World} {v : Value} {es : List Pt} (h : Row w v es) (k : Chg S w w') (hv : ∀ g, v.ownBlock = some g → ¬ S g) : Row w' v es := own_chg h k hv
theorem Row.below {w w' : World} {v : Value} {es : List Pt} (h : Row w v es) (k : Below w.heap.size w w') : Row w' v es := own_chg h (Chg.of_below k) (fun _ _ h => h)
theorem Row.lt {w : World} {v : Value} {es : List Pt} (h : Row w v es) {g : Nat} (hg : v.ownBlock = some g) : g < w.heap.size := own_lt h hg

theorem Row.drewN {w : World} {v : Value} {es : List Pt} (h : Row w v es) (n : Nat) : Row (w.drewN n) v es := h
theorem Row.take {w : World} {g n cap : Nat} {es : List Pt} (h : Row w (.slice (some ⟨g, 0, none⟩) n cap) es) {m : Nat} (hm : m ≤ es.length) : Row w (.slice (some ⟨g, 0, none⟩) m cap) (es.take m) := by
  obtain ⟨_, cur, hb, hn, hx, hs, ht⟩ := h.cur
  have hl : (es.take m).length = m := by rw [List.length_take]; omega
  have := Row.mk' (es := es.take m) (cap := cap) hb (by omega) hx hs (by
    rw [hl, flat_take, ← ht, List.take_take, Nat.min_eq_left (by omega)])
  rwa [hl] at this
theorem infoP : (Try.prog.info? 139).map (fun i => (i.zero, i.size, i.bytes)) = some (some (.agg #[.int .u64 0, .int .i64 0]), 2, 16) := by kernel_rfl
end Go.Proofs.Ytnccgpdniigekaa
/-
  The search in a chain: (*Fit).touching's closure, sort.Search, touching.
-/
namespace Go.Proofs.Ytnccgpdniigekaa
open Go.RowKit
set_option linter.unusedVariables false
set_option linter.unusedSimpArgs false

/-- A side's sign: the lower chain's (0) -1, the upper's 1. -/
def sgn (side : Int) : Int := if side = 0 then -1 else 1
theorem bend_any (side : Int) (hs : side = 0 ∨ side = 1) (w : World) : Calls Try.prog 111 #[.int .i64 side] w fun e w' => e = .returned (.int .i64 (sgn side)) ∧ w = w' := by
  rcases hs with rfl | rfl
  · exact bend_low w
  · exact bend_up w
/-- Points that are not far off: a key, a small height. -/
def PtOk (p : Pt) : Prop := u64ok p.1 ∧ smallY p.2
theorem cmpI_sign (b x y : Int) (hb : b = -1 ∨ b = 1) : decide (0 ≤ cmpI x y * b) = decide (0 ≤ b * (x - y)) := by
  rcases Int.lt_trichotomy x y with h | h | h <;> rcases hb with rfl | rfl
  · rw [cmpI_lt h]; simp; omega
  · rw [cmpI_lt h]; simp; omega
  · rw [cmpI_eq h]; simp; omega
  · rw [cmpI_eq h]; simp; omega
  · rw [cmpI_gt h]; simp; omega
  · rw [cmpI_gt h]; simp; omega
theorem cmpI_range (x y : Int) : -1 ≤ cmpI x y ∧ cmpI x y ≤ 1 := by unfold cmpI; split <;> (try split) <;> omega
theorem sgn_or (side : Int) : sgn side = -1 ∨ sgn side = 1 := by unfold sgn; split <;> simp
/-- Does the way to p go on to be no better beyond place i of the chain? -/
def stopAt (side : Int) (c : List Pt) (p : Pt) (i : Nat) : Bool := decide (0 ≤ sgn side * steepV (c.getD i (0, 0)) (c.getD (i + 1) (0, 0)) p)

/-- The variables of 'touching' that its closure holds: the chain, the point, the side. -/
structure Held (w : World) (g7 g5 g4 : Nat) (v : Value) (p : Pt) (side : Int) (t7 t5 t4 : TypeId) : Prop where
  c : Blk w g7 t7 #[v]
  p : Blk w g5 t5 #[.int .u64 p.1, .int .i64 p.2]
  s : Blk w g4 t4 #[.int .i64 side]
theorem Held.below {w w' : World} {g7 g5 g4 : Nat} {v : Value} {p : Pt} {side : Int} {t7 t5 t4 : TypeId} (h : Held w g7 g5 g4 v p side t7 t5 t4) (k : Below w.heap.size w w') : Held w' g7 g5 g4 v p side t7 t5 t4 :=
  ⟨h.c.below k, h.p.below k, h.s.below k⟩
/-- What the closure may lean on. -/
structure TS (W : World) (g7 g5 g4 : Nat) (t7 t5 t4 : TypeId) (g cap : Nat) (c : List Pt) (p : Pt) (side : Int) (w : World) : Prop where
  held : Held w g7 g5 g4 (.slice (some ⟨g, 0, none⟩) c.length cap) p side t7 t5 t4
  row : Row w (.slice (some ⟨g, 0, none⟩) c.length cap) c
  bel : Below W.heap.size W w
section
variable {W w w' : World} {g7 g5 g4 : Nat} {t7 t5 t4 : TypeId} {g cap : Nat} {c : List Pt} {p : Pt} {side : Int}
theorem TS.below (h : TS W g7 g5 g4 t7 t5 t4 g cap c p side w) (k : Below w.heap.size w w') : TS W g7 g5 g4 t7 t5 t4 g cap c p side w' := ⟨h.held.below k, h.row.below k, below_next h.bel k⟩
theorem TS.all (h : TS W g7 g5 g4 t7 t5 t4 g cap c p side w) {i j : Nat} (hi : i < c.length) (hj : j < c.length) {ax ay qx qy : Int} (ha : c[i] = (ax, ay)) (hq : c[j] = (qx, qy)) : TS W g7 g5 g4 t7 t5 t4 g cap c p side w ∧
    w.cell? ⟨g7, 0, none⟩ = some (.slice (some ⟨g, 0, none⟩) c.length cap) ∧ w.cell? ⟨g5, 0, none⟩ = some (.int .u64 p.1) ∧ w.cell? ⟨g5, 1, none⟩ = some (.int .i64 p.2) ∧ w.cell? ⟨g4, 0, none⟩ = some (.int .i64 side) ∧
    w.cell? ⟨g, i * 2, none⟩ = some (.int .u64 ax) ∧ w.cell? ⟨g, i * 2 + 1, none⟩ = some (.int .i64 ay) ∧ w.cell? ⟨g, j * 2, none⟩ = some (.int .u64 qx) ∧ w.cell? ⟨g, j * 2 + 1, none⟩ = some (.int .i64 qy) := by
  have h1 := h.row.cells hi
  have h2 := h.row.cells hj
  rw [ha] at h1; rw [hq] at h2
  exact ⟨h, h.held.c.cell 0, h.held.p.cell 0, h.held.p.cell 1, h.held.s.cell 0, h1.1, h1.2, h2.1, h2.2⟩
end
set_option maxHeartbeats 2000000 in
theorem touching1 (g7 g5 g4 : Nat) (t7 t5 t4 : TypeId) (g cap : Nat) (c : List Pt) (p : Pt) (side : Int) (hs : side = 0 ∨ side = 1) (hp : PtOk p) (hc : ∀ u ∈ c, PtOk u ∧ u.1 ≤ p.1) (hlen : c.length ≤ 4611686018427387904) (i : Nat) (hi : i + 1 < c.length) (w : World)
    (H : Held w g7 g5 g4 (.slice (some ⟨g, 0, none⟩) c.length cap) p side t7 t5 t4) (R : Row w (.slice (some ⟨g, 0, none⟩) c.length cap) c) :
    Calls Try.prog 109 #[.int .i64 i, .pointer (some ⟨g7, 0, none⟩), .pointer (some ⟨g5, 0, none⟩), .pointer (some ⟨g4, 0, none⟩)] w fun e w' => e = .returned (.bool (stopAt side c p i)) ∧ Below w.heap.size w w' := by
  obtain ⟨ax, ay, ha⟩ : ∃ ax ay, c[i]'(by omega) = (ax, ay) := ⟨_, _, rfl⟩
  obtain ⟨qx, qy, hq⟩ : ∃ qx qy, c[i + 1] = (qx, qy) := ⟨_, _, rfl⟩
  obtain ⟨px, py⟩ := p
  have oa := hc _ (List.getElem_mem (h := show i < c.length by omega)); rw [ha] at oa
  have oq := hc _ (List.getElem_mem hi); rw [hq] at oq
  have SC := fun w => steeper_any ax ay qx qy px py oa.1.1 oq.1.1 hp.1 oa.1.2 oq.1.2 hp.2 oa.2 oq.2 w
  have BC := fun w => bend_any side hs w
  have E : Hid (stopAt side c (px, py) i = decide (0 ≤ cmpI ((py - ay) * (px - qx)) ((py - qy) * (px - ax)) * sgn side)) := Lib.hid (by
    rw [cmpI_sign _ _ _ (sgn_or side), stopAt, List.getD_eq_getElem?_getD, List.getD_eq_getElem?_getD, List.getElem?_eq_getElem (by omega), List.getElem?_eq_getElem hi, Option.getD_some, Option.getD_some, ha, hq]
    rfl)
  have hx := cmpI_range ((py - ay) * (px - qx)) ((py - qy) * (px - ax))
  generalize cmpI ((py - ay) * (px - qx)) ((py - qy) * (px - ax)) = X at *
  have hb := sgn_or side
  generalize sgn side = B at *
  have a1 : IntKind.i64.wrap (X * B) = X * B := IntWalk.i64_in _ (by rcases hb with rfl | rfl <;> omega)
  have hi' : i < c.length := by omega
  have b4 : (0 : Int) ≤ (i : Int) + 1 := by omega
  have b0 : (0 : Int) ≤ (i : Int) := by omega
  have b1 : (i : Int) < (c.length : Int) := by omega
  have b2 : (i : Int) + 1 < (c.length : Int) := by omega
  have b3 : IntKind.i64.wrap ((i : Int) + 1) = (i : Int) + 1 := IntWalk.i64_in _ (by omega)
  have b5 : ((i : Int) + 1).toNat = i + 1 := by omega
  have b6 : (decide (0 ≤ (i : Int) + 1) && decide ((i : Int) + 1 < (c.length : Int))) = true := by simp; omega
  have C0 : Hid (TS w g7 g5 g4 t7 t5 t4 g cap c (px, py) side w.drew) := Lib.hid ⟨⟨H.c.drew, H.p.drew, H.s.drew⟩, R.drew, (Below.refl _ _).drew⟩
  clear H R hx hb hs hc hp oa oq
  go_enter Try.func109, Try.ntmps109
  go_wp2
  go_region_held3 (fun w' => TS w g7 g5 g4 t7 t5 t4 g cap c (px, py) side w' ∧
    w'.cell? ⟨g7, 0, none⟩ = some (.slice (some ⟨g, 0, none⟩) c.length cap) ∧ w'.cell? ⟨g5, 0, none⟩ = some (.int .u64 px) ∧ w'.cell? ⟨g5, 1, none⟩ = some (.int .i64 py) ∧ w'.cell? ⟨g4, 0, none⟩ = some (.int .i64 side) ∧
    w'.cell? ⟨g, i * 2, none⟩ = some (.int .u64 ax) ∧ w'.cell? ⟨g, i * 2 + 1, none⟩ = some (.int .i64 ay) ∧ w'.cell? ⟨g, (i + 1) * 2, none⟩ = some (.int .u64 qx) ∧ w'.cell? ⟨g, (i + 1) * 2 + 1, none⟩ = some (.int .i64 qy))
    (first | assumption | exact TS.all C0.out hi' hi ha hq | exact TS.all (TS.below (‹TS _ _ _ _ _ _ _ _ _ _ _ _ _ ∧ _›).1 hb') hi' hi ha hq)
    (first | (go_at_call 110; (with_reducible refine (SC _).mono ?_); rintro e w' ⟨rfl, hb'⟩) | (go_at_call 111; (with_reducible refine (BC _).mono ?_); rintro e w' ⟨rfl, rfl⟩))
  all_goals
    go_wp2
    have K := (‹TS _ _ _ _ _ _ _ _ _ _ _ _ _ ∧ _›).1
    go_ret
    exact ⟨by rw [E.out]; rfl, K.bel⟩
theorem mid_le {i j n : Nat} (h : i < j) (hj : j ≤ n) : (i + j) / 2 < n ∧ i ≤ (i + j) / 2 ∧ (i + j) / 2 < j := by omega
/-- Between which places the search is. -/
structure Amid (side : Int) (c : List Pt) (p : Pt) (n i j : Nat) : Prop where
  ij : i ≤ j
  jn : j ≤ n
  lo : i = 0 ∨ stopAt side c p (i - 1) = false
  hi : j = n ∨ stopAt side c p j = true
set_option maxHeartbeats 2000000 in
theorem search_any (g7 g5 g4 : Nat) (t7 t5 t4 : TypeId) (g cap : Nat) (c : List Pt) (p : Pt) (side : Int) (hs : side = 0 ∨ side = 1) (hp : PtOk p) (hc : ∀ u ∈ c, PtOk u ∧ u.1 ≤ p.1) (hlen : c.length ≤ 4611686018427387904) (n : Nat) (hn : n + 1 = c.length) (w : World)
    (H : Held w g7 g5 g4 (.slice (some ⟨g, 0, none⟩) c.length cap) p side t7 t5 t4) (R : Row w (.slice (some ⟨g, 0, none⟩) c.length cap) c) :
    Calls Try.prog 108 #[.int .i64 n, .func (.func 109) #[] #[.pointer (some ⟨g7, 0, none⟩), .pointer (some ⟨g5, 0, none⟩), .pointer (some ⟨g4, 0, none⟩)]] w fun e w' =>
      (∃ i : Nat, e = .returned (.int .i64 i) ∧ Amid side c p n i i) ∧ Below w.heap.size w w' := by
  have TP := touching1 g7 g5 g4 t7 t5 t4 g cap c p side hs hp hc hlen
  have HN := Lib.hid hn
  have H0 := Lib.hid H
  have R0 := Lib.hid R
  have hn2 : n ≤ 4611686018427387904 := by omega
  clear H R hs hp hc hlen hn
  go_enter Try.func108, Try.ntmps108
  go_wp2
  go_loopw [5, 6] (fun x y wr => ∃ i j : Nat, Amid side c p n i j ∧ x = .int .i64 i ∧ y = .int .i64 j ∧ Below w.heap.size w wr)
    (fun x y _ => (intOf y).toNat - (intOf x).toNat)
  case atStart => exact ⟨0, n, ⟨Nat.zero_le _, Nat.le_refl _, .inl rfl, .inl rfl⟩, rfl, rfl, Below.refl _ _⟩
  case round =>
    obtain ⟨i, j, B, rfl, rfl, hb⟩ := hrel
    have hij := B.ij
    have hj := B.jn
    by_cases hlt : i < j
    · have hm := mid_le hlt hj
      have P := TP ((i + j) / 2) (by have := HN.out; omega) wr (H0.out.below hb) (R0.out.below hb)
      by_cases hk : stopAt side c p ((i + j) / 2) = true
      · have B' : Amid side c p n i ((i + j) / 2) := ⟨hm.2.1, by omega, B.lo, .inr hk⟩
        rw [hk] at P
        have BH := Lib.hid B'
        clear B B' hk
        go_wp2_with (go_at_call 109; refine P.mono ?_; rintro e w' ⟨rfl, hb'⟩)
        go_roundw
        case rel => exact ⟨_, _, BH.out, rfl, by go_num, below_next hb hb'⟩
        case measure => simp [intOf]; omega
      · have hk : stopAt side c p ((i + j) / 2) = false := by simpa using hk
        have B' : Amid side c p n ((i + j) / 2 + 1) j := ⟨hm.2.2, hj, .inr (by simpa using hk), B.hi⟩
        rw [hk] at P
        have BH := Lib.hid B'
        clear B B' hk
        go_wp2_with (go_at_call 109; refine P.mono ?_; rintro e w' ⟨rfl, hb'⟩)
        go_roundw
        case rel => exact ⟨_, _, BH.out, by go_num, rfl, below_next hb hb'⟩
        case measure => simp [intOf]; omega
    · obtain rfl : i = j := by omega
      have BH := Lib.hid B
      clear B
      go_wp2
      go_ret
      exact ⟨⟨i, rfl, BH.out⟩, hb⟩
end Go.Proofs.Ytnccgpdniigekaa
/-
  A fit in memory; (*Fit).touching.
-/
namespace Go.Proofs.Ytnccgpdniigekaa
open Go.RowKit
set_option linter.unusedVariables false
set_option linter.unusedSimpArgs false

/-- A fit behind a pointer. -/
structure FitM (w : World) (b : Nat) (e n last : Int) (low top : Fr) (v0 v1 : Value) (c0 c1 : List Pt) : Prop where
  blk : Blk w b 137 #[.int .i64 e, .int .i64 n, .int .u64 last, .int .u64 low.1, .int .u64 low.2, .int .u64 top.1, .int .u64 top.2, v0, v1]
  r0 : Row w v0 c0
  r1 : Row w v1 c1
section
variable {w w' : World} {b : Nat} {e n last : Int} {low top : Fr} {v0 v1 : Value} {c0 c1 : List Pt}
theorem FitM.chg {S : Nat → Prop} (h : FitM w b e n last low top v0 v1 c0 c1) (k : Chg S w w') (hb : ¬ S b) (h0 : ∀ g, v0.ownBlock = some g → ¬ S g) (h1 : ∀ g, v1.ownBlock = some g → ¬ S g) : FitM w' b e n last low top v0 v1 c0 c1 :=
  ⟨h.blk.chg k hb, h.r0.chg k h0, h.r1.chg k h1⟩
theorem FitM.below (h : FitM w b e n last low top v0 v1 c0 c1) (k : Below w.heap.size w w') : FitM w' b e n last low top v0 v1 c0 c1 := h.chg (Chg.of_below k) (fun h => h) (fun _ _ h => h) (fun _ _ h => h)
theorem FitM.drewN (h : FitM w b e n last low top v0 v1 c0 c1) (k : Nat) : FitM (w.drewN k) b e n last low top v0 v1 c0 c1 := ⟨h.blk, h.r0, h.r1⟩
theorem FitM.ne0 (h : FitM w b e n last low top v0 v1 c0 c1) : v0.ownBlock ≠ some b := own_ne_blk h.r0 h.blk (by decide)
theorem FitM.ne1 (h : FitM w b e n last low top v0 v1 c0 c1) : v1.ownBlock ≠ some b := own_ne_blk h.r1 h.blk (by decide)
end
set_option maxHeartbeats 2000000 in
theorem touching_low (b : Nat) (e n last : Int) (low top : Fr) (v0 v1 : Value) (c0 c1 : List Pt) (p : Pt) (hp : PtOk p) (hc : ∀ u ∈ c0, PtOk u ∧ u.1 ≤ p.1) (hlen : c0.length ≤ 4611686018427387904) (h0 : c0 ≠ []) (w : World) (F : FitM w b e n last low top v0 v1 c0 c1) :
    Calls Try.prog 92 #[.pointer (some ⟨b, 0, none⟩), .int .i64 0, .agg #[.int .u64 p.1, .int .i64 p.2]] w fun e w' =>
      (∃ (i : Nat) (h : i < c0.length), e = .returned (.agg #[.int .u64 c0[i].1, .int .i64 c0[i].2]) ∧ Amid 0 c0 p (c0.length - 1) i i) ∧ Below w.heap.size w w' := by
  obtain ⟨g, cap, rfl, hg, hcap, hm⟩ := F.r0.form.resolve_left (fun h => h0 h.2)
  obtain ⟨px, py⟩ := p
  have hpos : 0 < c0.length := List.length_pos_iff.2 h0
  have x7 : (((((w.alloc (.cells #[.int .i64 0] 3)).alloc (.cells #[.int .u64 px, .int .i64 py] 139)).alloc (.cells #[.int .u64 0, .int .i64 0] 139)).alloc (.cells #[.slice none 0 0] 134)).drew).cell? ⟨b, 7, none⟩ = some (.slice (some ⟨g, 0, none⟩) c0.length cap) :=
    ((((F.blk.alloc _).alloc _).alloc _).alloc _).drew.cell 7
  have x8 : ((((w.alloc (.cells #[.int .i64 0] 3)).alloc (.cells #[.int .u64 px, .int .i64 py] 139)).alloc (.cells #[.int .u64 0, .int .i64 0] 139)).drew).cell? ⟨b, 7, none⟩ = some (.slice (some ⟨g, 0, none⟩) c0.length cap) :=
    (((F.blk.alloc _).alloc _).alloc _).drew.cell 7
  have hcast : ((c0.length - 1 : Nat) : Int) = (c0.length : Int) - 1 := by omega
  have SR := search_any (w.heap.size + 1 + 1 + 1) (w.heap.size + 1) w.heap.size 134 139 3 g cap c0 (px, py) 0 (.inl rfl) hp hc hlen (c0.length - 1) (by omega)
  simp only [hcast] at SR
  go_enter Try.func92, Try.ntmps92
  go_wp2_with fail
  go_big_region
  all_goals
    go_wp2_with fail
    refine (SR _ ?_ ?_).mono ?_
    · exact ⟨(Blk.new' _ _ (by simp)).drew, (((Blk.new' _ _ (by simp)).alloc _).alloc _).drew, ((((Blk.new _ _ _).alloc _).alloc _).alloc _).drew⟩
    · exact (F.below (below_new (below_new (below_new (below_new (Below.refl _ _) _) _) _) _).drew).r0
    rintro e w' ⟨⟨i, rfl, A⟩, hb⟩
    have hi : i < c0.length := by have := A.jn; omega
    have R2 := (F.below (below_new (below_new (below_new (below_new (Below.refl _ _) (.cells #[.int .i64 0] 3)) (.cells #[.int .u64 px, .int .i64 py] 139)) (.cells #[.int .u64 0, .int .i64 0] 139)) (.cells #[.slice (some ⟨g, 0, none⟩) c0.length cap] 134)).drew).r0.below hb
    have B2 := below_next (below_new (below_new (below_new (below_new (Below.refl w.heap.size w) (.cells #[.int .i64 0] 3)) (.cells #[.int .u64 px, .int .i64 py] 139)) (.cells #[.int .u64 0, .int .i64 0] 139)) (.cells #[.slice (some ⟨g, 0, none⟩) c0.length cap] 134)).drew hb
    have G7 : Blk w' (w.heap.size + 1 + 1 + 1) 134 #[.slice (some ⟨g, 0, none⟩) c0.length cap] := (Blk.new' _ _ (by simp)).drew.below hb
    have G6 : Blk w' (w.heap.size + 1 + 1) 139 #[.int .u64 0, .int .i64 0] := ((Blk.new' _ _ (by simp)).alloc _).drew.below hb
    have y7 : w'.cell? ⟨w.heap.size + 1 + 1 + 1, 0, none⟩ = some (.slice (some ⟨g, 0, none⟩) c0.length cap) := G7.cell 0
    obtain ⟨z0, z1⟩ := R2.cells hi
    obtain ⟨y0, y1, y2, y3⟩ := G6.cells2
    have b0 : (0 : Int) ≤ (i : Int) := by omega
    have b1 : (i : Int) < (c0.length : Int) := by omega
    have AH := Lib.hid A
    have l6 : w.heap.size ≤ w.heap.size + 1 + 1 := by omega
    clear A SR hp hc
    go_wp2_with fail
    refine bodyPost_ret (v := .agg #[.int .u64 c0[i].1, .int .i64 c0[i].2]) (results_cl (p := 6) (ty := 139) (t := 139) rfl _ rfl G6.set2 Try.underlying139 rfl (by kernel_rfl)) rfl ?_
    exact ⟨⟨i, hi, rfl, AH.out⟩, below_set2 B2 l6⟩
set_option maxHeartbeats 2000000 in
theorem touching_up (b : Nat) (e n last : Int) (low top : Fr) (v0 v1 : Value) (c0 c1 : List Pt) (p : Pt) (hp : PtOk p) (hc : ∀ u ∈ c1, PtOk u ∧ u.1 ≤ p.1) (hlen : c1.length ≤ 4611686018427387904) (h0 : c1 ≠ []) (w : World) (F : FitM w b e n last low top v0 v1 c0 c1) :
    Calls Try.prog 92 #[.pointer (some ⟨b, 0, none⟩), .int .i64 1, .agg #[.int .u64 p.1, .int .i64 p.2]] w fun e w' =>
      (∃ (i : Nat) (h : i < c1.length), e = .returned (.agg #[.int .u64 c1[i].1, .int .i64 c1[i].2]) ∧ Amid 1 c1 p (c1.length - 1) i i) ∧ Below w.heap.size w w' := by
  obtain ⟨g, cap, rfl, hg, hcap, hm⟩ := F.r1.form.resolve_left (fun h => h0 h.2)
  obtain ⟨px, py⟩ := p
  have hpos : 0 < c1.length := List.length_pos_iff.2 h0
  have x7 : (((((w.alloc (.cells #[.int .i64 1] 3)).alloc (.cells #[.int .u64 px, .int .i64 py] 139)).alloc (.cells #[.int .u64 0, .int .i64 0] 139)).alloc (.cells #[.slice none 0 0] 134)).drew).cell? ⟨b, 8, none⟩ = some (.slice (some ⟨g, 0, none⟩) c1.length cap) :=
    ((((F.blk.alloc _).alloc _).alloc _).alloc _).drew.cell 8
  have x8 : ((((w.alloc (.cells #[.int .i64 1] 3)).alloc (.cells #[.int .u64 px, .int .i64 py] 139)).alloc (.cells #[.int .u64 0, .int .i64 0] 139)).drew).cell? ⟨b, 8, none⟩ = some (.slice (some ⟨g, 0, none⟩) c1.length cap) :=
    (((F.blk.alloc _).alloc _).alloc _).drew.cell 8
  have hcast : ((c1.length - 1 : Nat) : Int) = (c1.length : Int) - 1 := by omega
  have SR := search_any (w.heap.size + 1 + 1 + 1) (w.heap.size + 1) w.heap.size 134 139 3 g cap c1 (px, py) 1 (.inr rfl) hp hc hlen (c1.length - 1) (by omega)
  simp only [hcast] at SR
  go_enter Try.func92, Try.ntmps92
  go_wp2_with fail
  go_big_region
  all_goals
    go_wp2_with fail
    refine (SR _ ?_ ?_).mono ?_
    · exact ⟨(Blk.new' _ _ (by simp)).drew, (((Blk.new' _ _ (by simp)).alloc _).alloc _).drew, ((((Blk.new _ _ _).alloc _).alloc _).alloc _).drew⟩
    · exact (F.below (below_new (below_new (below_new (below_new (Below.refl _ _) _) _) _) _).drew).r1
    rintro e w' ⟨⟨i, rfl, A⟩, hb⟩
    have hi : i < c1.length := by have := A.jn; omega
    have R2 := (F.below (below_new (below_new (below_new (below_new (Below.refl _ _) (.cells #[.int .i64 1] 3)) (.cells #[.int .u64 px, .int .i64 py] 139)) (.cells #[.int .u64 0, .int .i64 0] 139)) (.cells #[.slice (some ⟨g, 0, none⟩) c1.length cap] 134)).drew).r1.below hb
    have B2 := below_next (below_new (below_new (below_new (below_new (Below.refl w.heap.size w) (.cells #[.int .i64 1] 3)) (.cells #[.int .u64 px, .int .i64 py] 139)) (.cells #[.int .u64 0, .int .i64 0] 139)) (.cells #[.slice (some ⟨g, 0, none⟩) c1.length cap] 134)).drew hb
    have G7 : Blk w' (w.heap.size + 1 + 1 + 1) 134 #[.slice (some ⟨g, 0, none⟩) c1.length cap] := (Blk.new' _ _ (by simp)).drew.below hb
    have G6 : Blk w' (w.heap.size + 1 + 1) 139 #[.int .u64 0, .int .i64 0] := ((Blk.new' _ _ (by simp)).alloc _).drew.below hb
    have y7 : w'.cell? ⟨w.heap.size + 1 + 1 + 1, 0, none⟩ = some (.slice (some ⟨g, 0, none⟩) c1.length cap) := G7.cell 0
    obtain ⟨z0, z1⟩ := R2.cells hi
    obtain ⟨y0, y1, y2, y3⟩ := G6.cells2
    have b0 : (0 : Int) ≤ (i : Int) := by omega
    have b1 : (i : Int) < (c1.length : Int) := by omega
    have AH := Lib.hid A
    have l6 : w.heap.size ≤ w.heap.size + 1 + 1 := by omega
    clear A SR hp hc
    go_wp2_with fail
    refine bodyPost_ret (v := .agg #[.int .u64 c1[i].1, .int .i64 c1[i].2]) (results_cl (p := 6) (ty := 139) (t := 139) rfl _ rfl G6.set2 Try.underlying139 rfl (by kernel_rfl)) rfl ?_
    exact ⟨⟨i, hi, rfl, AH.out⟩, below_set2 B2 l6⟩
end Go.Proofs.Ytnccgpdniigekaa
