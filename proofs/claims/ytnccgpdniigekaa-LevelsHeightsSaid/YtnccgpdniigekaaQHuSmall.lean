/-
  How the slopes between points stand to one another: hull.turn, hull.steeper, hull.bend.
-/
import Derived.Test.YtnccgpdniigekaaQHuWide
import Derived.Test.YtnccgpdniigekaaQG0
import Derived.Test.YtnccgpdniigekaaQChg
namespace Go.Proofs.Ytnccgpdniigekaa
open Go.RowKit
set_option linter.unusedVariables false
set_option linter.unusedSimpArgs false

/-- A height that is no more than 2^60. -/
def smallY (y : Int) : Prop := -1152921504606846976 ≤ y ∧ y ≤ 1152921504606846976
theorem prod_ok {a b : Int} (h1 : -4611686018427387904 ≤ a) (h2 : a ≤ 4611686018427387904) (h3 : 0 ≤ b) (h4 : b ≤ 18446744073709551615) : i128ok (a * b) := by
  unfold i128ok
  have k1 : -4611686018427387904 * b ≤ a * b := Int.mul_le_mul_of_nonneg_right h1 h3
  have k2 : a * b ≤ 4611686018427387904 * b := Int.mul_le_mul_of_nonneg_right h2 h3
  omega
/-- Three points boxed, one behind the other. -/
structure C3 (w : World) (px py qx qy rx ry : Int) (w' : World) : Prop where
  p : Blk w' w.heap.size 139 #[.int .u64 px, .int .i64 py]
  q : Blk w' (w.heap.size + 1) 139 #[.int .u64 qx, .int .i64 qy]
  r : Blk w' (w.heap.size + 2) 139 #[.int .u64 rx, .int .i64 ry]
  bel : Below w.heap.size w w'
section
variable {w w' w2 : World} {px py qx qy rx ry : Int}
theorem C3.start : C3 w px py qx qy rx ry (((w.alloc (.cells #[.int .u64 px, .int .i64 py] 139)).alloc (.cells #[.int .u64 qx, .int .i64 qy] 139)).alloc (.cells #[.int .u64 rx, .int .i64 ry] 139)).drew :=
  ⟨(((Blk.new w _ _).alloc _).alloc _).drew, ((Blk.new' _ _ (by simp)).alloc _).drew, (Blk.new' _ _ (by simp)).drew, (below_new (below_new (below_new (Below.refl _ _) _) _) _).drew⟩
theorem C3.below (h : C3 w px py qx qy rx ry w') (k : Below w'.heap.size w' w2) : C3 w px py qx qy rx ry w2 := ⟨h.p.below k, h.q.below k, h.r.below k, below_next h.bel k⟩
theorem C3.all (h : C3 w px py qx qy rx ry w') : C3 w px py qx qy rx ry w' ∧ w'.cell? ⟨w.heap.size, 0, none⟩ = some (.int .u64 px) ∧ w'.cell? ⟨w.heap.size, 1, none⟩ = some (.int .i64 py) ∧ w'.cell? ⟨w.heap.size + 1, 0, none⟩ = some (.int .u64 qx) ∧ w'.cell? ⟨w.heap.size + 1, 1, none⟩ = some (.int .i64 qy) ∧ w'.cell? ⟨w.heap.size + 2, 0, none⟩ = some (.int .u64 rx) ∧ w'.cell? ⟨w.heap.size + 2, 1, none⟩ = some (.int .i64 ry) :=
  ⟨h, h.p.cell 0, h.p.cell 1, h.q.cell 0, h.q.cell 1, h.r.cell 0, h.r.cell 1⟩
end
theorem bend_low (w : World) : Calls Try.prog 111 #[.int .i64 0] w fun e w' => e = .returned (.int .i64 (-1)) ∧ w = w' := by
  go_enter Try.func111, Try.ntmps111
  go_wp2
  go_ret
  exact ⟨rfl, rfl⟩
theorem bend_up (w : World) : Calls Try.prog 111 #[.int .i64 1] w fun e w' => e = .returned (.int .i64 1) ∧ w = w' := by
  go_enter Try.func111, Try.ntmps111
  go_wp2
  go_ret
  exact ⟨rfl, rfl⟩
set_option maxHeartbeats 2000000 in
theorem turn_any (px py qx qy rx ry : Int) (hp : u64ok px) (hq : u64ok qx) (hr : u64ok rx) (yp : smallY py) (yq : smallY qy) (yr : smallY ry) (h1 : px ≤ qx) (h2 : px ≤ rx) (w : World) :
    Calls Try.prog 115 #[.agg #[.int .u64 px, .int .i64 py], .agg #[.int .u64 qx, .int .i64 qy], .agg #[.int .u64 rx, .int .i64 ry]] w fun e w' => e = .returned (.int .i64 (cmpI ((qy - py) * (rx - px)) ((ry - py) * (qx - px)))) ∧ Below w.heap.size w w' := by
  unfold smallY at yp yq yr
  unfold u64ok at hp hq hr
  have a1 : IntKind.i64.wrap (qy - py) = qy - py := IntWalk.i64_in _ (by omega)
  have a2 : IntKind.u64.wrap (rx - px) = rx - px := by rw [IntKind.wrap_u64]; omega
  have a3 : IntKind.i64.wrap (ry - py) = ry - py := IntWalk.i64_in _ (by omega)
  have a4 : IntKind.u64.wrap (qx - px) = qx - px := by rw [IntKind.wrap_u64]; omega
  have p1 := prod_ok (a := qy - py) (b := rx - px) (by omega) (by omega) (by omega) (by omega)
  have p2 := prod_ok (a := ry - py) (b := qx - px) (by omega) (by omega) (by omega) (by omega)
  have T1 := fun w => cTimes (a := qy - py) (b := rx - px) (by unfold i64ok; omega) (by unfold u64ok; omega) w
  have T2 := fun w => cTimes (a := ry - py) (b := qx - px) (by unfold i64ok; omega) (by unfold u64ok; omega) w
  have CC := fun w => cCmp p1 p2 w
  clear p1 p2 hp hq hr yp yq yr
  have C0 : Hid (C3 w px py qx qy rx ry (((w.alloc (.cells #[.int .u64 px, .int .i64 py] 139)).alloc (.cells #[.int .u64 qx, .int .i64 qy] 139)).alloc (.cells #[.int .u64 rx, .int .i64 ry] 139)).drew) := Lib.hid (C3.start ..)
  go_enter Try.func115, Try.ntmps115
  go_wp2
  go_region_held3 (fun w' => C3 w px py qx qy rx ry w' ∧ w'.cell? ⟨w.heap.size, 0, none⟩ = some (.int .u64 px) ∧ w'.cell? ⟨w.heap.size, 1, none⟩ = some (.int .i64 py) ∧ w'.cell? ⟨w.heap.size + 1, 0, none⟩ = some (.int .u64 qx) ∧ w'.cell? ⟨w.heap.size + 1, 1, none⟩ = some (.int .i64 qy) ∧ w'.cell? ⟨w.heap.size + 2, 0, none⟩ = some (.int .u64 rx) ∧ w'.cell? ⟨w.heap.size + 2, 1, none⟩ = some (.int .i64 ry))
    (first | exact C3.all C0.out | exact C3.all (C3.below (‹C3 _ _ _ _ _ _ _ _ ∧ _›).1 hb))
    (first | (go_at_call 114; (with_reducible refine (T1 _).mono ?_); rintro e w' ⟨rfl, hb⟩) | (go_at_call 114; (with_reducible refine (T2 _).mono ?_); rintro e w' ⟨rfl, hb⟩) | (go_at_call 113; (with_reducible refine (CC _).mono ?_); rintro e w' ⟨rfl, hb⟩))
  all_goals
    go_wp2
    have K := (‹C3 _ _ _ _ _ _ _ _ ∧ _›).1
    go_ret
    exact ⟨rfl, K.bel⟩
set_option maxHeartbeats 2000000 in
theorem steeper_any (px py qx qy rx ry : Int) (hp : u64ok px) (hq : u64ok qx) (hr : u64ok rx) (yp : smallY py) (yq : smallY qy) (yr : smallY ry) (h1 : px ≤ rx) (h2 : qx ≤ rx) (w : World) :
    Calls Try.prog 110 #[.agg #[.int .u64 px, .int .i64 py], .agg #[.int .u64 qx, .int .i64 qy], .agg #[.int .u64 rx, .int .i64 ry]] w fun e w' => e = .returned (.int .i64 (cmpI ((ry - py) * (rx - qx)) ((ry - qy) * (rx - px)))) ∧ Below w.heap.size w w' := by
  unfold smallY at yp yq yr
  unfold u64ok at hp hq hr
  have a1 : IntKind.i64.wrap (ry - py) = ry - py := IntWalk.i64_in _ (by omega)
  have a2 : IntKind.u64.wrap (rx - qx) = rx - qx := by rw [IntKind.wrap_u64]; omega
  have a3 : IntKind.i64.wrap (ry - qy) = ry - qy := IntWalk.i64_in _ (by omega)
  have a4 : IntKind.u64.wrap (rx - px) = rx - px := by rw [IntKind.wrap_u64]; omega
  have p1 := prod_ok (a := ry - py) (b := rx - qx) (by omega) (by omega) (by omega) (by omega)
  have p2 := prod_ok (a := ry - qy) (b := rx - px) (by omega) (by omega) (by omega) (by omega)
  have T1 := fun w => cTimes (a := ry - py) (b := rx - qx) (by unfold i64ok; omega) (by unfold u64ok; omega) w
  have T2 := fun w => cTimes (a := ry - qy) (b := rx - px) (by unfold i64ok; omega) (by unfold u64ok; omega) w
  have CC := fun w => cCmp p1 p2 w
  clear p1 p2 hp hq hr yp yq yr
  have C0 : Hid (C3 w px py qx qy rx ry (((w.alloc (.cells #[.int .u64 px, .int .i64 py] 139)).alloc (.cells #[.int .u64 qx, .int .i64 qy] 139)).alloc (.cells #[.int .u64 rx, .int .i64 ry] 139)).drew) := Lib.hid (C3.start ..)
  go_enter Try.func110, Try.ntmps110
  go_wp2
  go_region_held3 (fun w' => C3 w px py qx qy rx ry w' ∧ w'.cell? ⟨w.heap.size, 0, none⟩ = some (.int .u64 px) ∧ w'.cell? ⟨w.heap.size, 1, none⟩ = some (.int .i64 py) ∧ w'.cell? ⟨w.heap.size + 1, 0, none⟩ = some (.int .u64 qx) ∧ w'.cell? ⟨w.heap.size + 1, 1, none⟩ = some (.int .i64 qy) ∧ w'.cell? ⟨w.heap.size + 2, 0, none⟩ = some (.int .u64 rx) ∧ w'.cell? ⟨w.heap.size + 2, 1, none⟩ = some (.int .i64 ry))
    (first | exact C3.all C0.out | exact C3.all (C3.below (‹C3 _ _ _ _ _ _ _ _ ∧ _›).1 hb))
    (first | (go_at_call 114; (with_reducible refine (T1 _).mono ?_); rintro e w' ⟨rfl, hb⟩) | (go_at_call 114; (with_reducible refine (T2 _).mono ?_); rintro e w' ⟨rfl, hb⟩) | (go_at_call 113; (with_reducible refine (CC _).mono ?_); rintro e w' ⟨rfl, hb⟩))
  all_goals
    go_wp2
    have K := (‹C3 _ _ _ _ _ _ _ _ ∧ _›).1
    go_ret
    exact ⟨rfl, K.bel⟩
end Go.Proofs.Ytnccgpdniigekaa
