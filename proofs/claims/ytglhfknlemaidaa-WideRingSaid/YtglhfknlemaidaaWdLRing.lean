/-
  WideRing: the walk.
-/
import Derived.Test.YtglhfknlemaidaaWdKeeps
namespace Go.Proofs.Ytglhfknlemaidaa
open Go.RowKit
set_option linter.unusedVariables false
set_option linter.unusedSimpArgs false
attribute [local go_sem high] eqInt

set_option maxHeartbeats 6400000 in
set_option maxRecDepth 100000 in
theorem wideRing_walk (x y z : Int) (w : World) :
    Calls Try.prog 6 #[.agg #[.int .i64 (I128.enc (x)).1, .int .u64 (I128.enc (x)).2], .agg #[.int .i64 (I128.enc (y)).1, .int .u64 (I128.enc (y)).2], .agg #[.int .i64 (I128.enc (z)).1, .int .u64 (I128.enc (z)).2]] w fun e w' => e = .returned (.bool true) ∧ Below w.heap.size w w' := by
  have e0 : I128.enc 0 = (0, 0) := by decide +kernel
  have k1 := cAdd x y
  have k2 := cAdd (x + y) z
  have k3 := cAdd y z
  have k4 := cAdd x (y + z); rw [show x + (y + z) = x + y + z from by omega] at k4
  have k5 := cAdd y x; rw [show y + x = x + y from by omega] at k5
  have k6 := cSub (x + y) y; rw [show x + y - y = x from by omega] at k6
  have k7 := cNeg y
  have k8 := cAdd (x + y) (-y); rw [show x + y + -y = x from by omega] at k8
  have k9 := cAdd x 0; rw [show x + 0 = x from by omega] at k9; rw [e0] at k9
  have k10 := cSub x x; rw [show x - x = 0 from by omega] at k10; rw [e0] at k10
  have k11 := cNeg x
  have k12 := cNeg (-x); rw [show - -x = x from by omega] at k12
  have k13 := cSub x y
  have k14 := cSub y x
  have k15 := cNeg (y - x); rw [show -(y - x) = x - y from by omega] at k15
  clear e0
  go_enter Try.func6, Try.ntmps6
  go_wp2_with fail
  have K0 : Keeps w [(w.heap.size + 2, #[.int .i64 (I128.enc (z)).1, .int .u64 (I128.enc (z)).2]), (w.heap.size + 1, #[.int .i64 (I128.enc (y)).1, .int .u64 (I128.enc (y)).2]), (w.heap.size, #[.int .i64 (I128.enc (x)).1, .int .u64 (I128.enc (x)).2])] (((w.alloc (.cells #[.int .i64 (I128.enc (x)).1, .int .u64 (I128.enc (x)).2] 25)).alloc (.cells #[.int .i64 (I128.enc (y)).1, .int .u64 (I128.enc (y)).2] 25)).alloc (.cells #[.int .i64 (I128.enc (z)).1, .int .u64 (I128.enc (z)).2] 25)) := (((Keeps.nil w).box rfl #[.int .i64 (I128.enc (x)).1, .int .u64 (I128.enc (x)).2]).box (by simp) #[.int .i64 (I128.enc (y)).1, .int .u64 (I128.enc (y)).2]).box (by simp) #[.int .i64 (I128.enc (z)).1, .int .u64 (I128.enc (z)).2]
  refine (inclinelaw01_shown_any _).mono ?_
  rintro e w1 ⟨rfl, b1⟩
  have K1 := K0.next b1
  clear b1 K0
  go_wp2_with (first | (refine load_blk rfl 25 (.tmp 3) rfl _ rfl (Keeps.at2 K1) Try.underlying25 rfl (by kernel_rfl) ?_) | (refine load_blk rfl 25 (.tmp 4) rfl _ rfl (Keeps.at1 K1) Try.underlying25 rfl (by kernel_rfl) ?_) | (refine load_blk rfl 25 (.tmp 5) rfl _ rfl (Keeps.at0 K1) Try.underlying25 rfl (by kernel_rfl) ?_))
  refine (k1 _).mono ?_
  rintro e w2 ⟨rfl, b2⟩
  have K2 := (K1.next b2).box rfl #[.int .i64 (I128.enc (x + y)).1, .int .u64 (I128.enc (x + y)).2]
  clear K1 b2
  go_wp2_with (first | (refine load_blk rfl 25 (.tmp 3) rfl _ rfl (Keeps.at3 K2) Try.underlying25 rfl (by kernel_rfl) ?_) | (refine load_blk rfl 25 (.tmp 4) rfl _ rfl (Keeps.at2 K2) Try.underlying25 rfl (by kernel_rfl) ?_) | (refine load_blk rfl 25 (.tmp 5) rfl _ rfl (Keeps.at1 K2) Try.underlying25 rfl (by kernel_rfl) ?_) | (refine load_blk rfl 25 (.tmp 8) rfl _ rfl (Keeps.at0 K2) Try.underlying25 rfl (by kernel_rfl) ?_))
  refine (k2 _).mono ?_
  rintro e w3 ⟨rfl, b3⟩
  have K3 := (K2.next b3).box rfl #[.int .i64 (I128.enc (x + y + z)).1, .int .u64 (I128.enc (x + y + z)).2]
  clear K2 b3
  go_wp2_with fail
  refine wp_region_held_drew (S := (Keeps w [(w3.heap.size, #[.int .i64 (I128.enc (x + y + z)).1, .int .u64 (I128.enc (x + y + z)).2]), (w2.heap.size, #[.int .i64 (I128.enc (x + y)).1, .int .u64 (I128.enc (x + y)).2]), (w.heap.size + 2, #[.int .i64 (I128.enc (z)).1, .int .u64 (I128.enc (z)).2]), (w.heap.size + 1, #[.int .i64 (I128.enc (y)).1, .int .u64 (I128.enc (y)).2]), (w.heap.size, #[.int .i64 (I128.enc (x)).1, .int .u64 (I128.enc (x)).2])])) (by kernel_rfl) (K3.drew) (fun hS_ => ?_)
  refine wpAnyH_take (i := 0) rfl (by kernel_rfl) (by kernel_rfl) (by kernel_rfl) (fun _ _ _ h => h) (yields_load_blk (by rfl) 25 (.tmp 3) rfl _ rfl (fun w hw => Keeps.at4 hw) Try.underlying25 rfl (by kernel_rfl)) hS_ ?_
  (try simp only [Act.put, List.setIfInBounds_toArray, List.set_cons_zero, List.set_cons_succ])
  refine wpAnyH_take (i := 1) rfl (by kernel_rfl) (by kernel_rfl) (by kernel_rfl) (fun _ _ _ h => h) (yields_load_blk (by rfl) 25 (.tmp 4) rfl _ rfl (fun w hw => Keeps.at3 hw) Try.underlying25 rfl (by kernel_rfl)) hS_ ?_
  (try simp only [Act.put, List.setIfInBounds_toArray, List.set_cons_zero, List.set_cons_succ])
  refine wpAnyH_take (i := 2) rfl (by kernel_rfl) (by kernel_rfl) (by kernel_rfl) (fun _ _ _ h => h) (yields_load_blk (by rfl) 25 (.tmp 5) rfl _ rfl (fun w hw => Keeps.at2 hw) Try.underlying25 rfl (by kernel_rfl)) hS_ ?_
  (try simp only [Act.put, List.setIfInBounds_toArray, List.set_cons_zero, List.set_cons_succ])
  refine wpAnyH_ready (rs := [3, 5]) (by kernel_rfl) (by simp) (AllReadyH.cons rfl (fun K hK => ?_) (AllReadyH.cons rfl (fun K hK => ?_) AllReadyH.nil))
  · go_simp
    refine (k3 _).mono ?_
    rintro e v6_3 ⟨rfl, bn⟩
    (try go_wp2_with fail)
    refine hK.out _ _ (Keeps.next hS_ bn) (fun hS_ => ?_)
    clear hK K bn
    (try simp only [Act.put, List.setIfInBounds_toArray, List.set_cons_zero, List.set_cons_succ])
    refine wpAnyH_ready (rs := [4, 5]) (by kernel_rfl) (by simp) (AllReadyH.cons rfl (fun K hK => ?_) (AllReadyH.cons rfl (fun K hK => ?_) AllReadyH.nil))
    · go_simp
      refine (k4 _).mono ?_
      rintro e v6_4 ⟨rfl, bn⟩
      (try go_wp2_with fail)
      refine hK.out _ _ (Keeps.next hS_ bn) (fun hS_ => ?_)
      clear hK K bn
      (try simp only [Act.put, List.setIfInBounds_toArray, List.set_cons_zero, List.set_cons_succ])
      refine wpAnyH_ready (rs := [5]) (by kernel_rfl) (by simp) (AllReadyH.cons rfl (fun K hK => ?_) AllReadyH.nil)
      have hB := hS_
      have hP := Keeps.apart hS_ (g := v6_4.heap.size) (by simp)
      have hN := Keeps.box hS_ (g := v6_4.heap.size) (by simp) #[.int .i64 0, .int .u64 0]
      go_simp
      (try go_wp2_with fail)
      refine hK.out _ _ (Keeps.alloc hS_ _) (fun hS_ => ?_)
      clear hK K
      (try simp only [Act.put, List.setIfInBounds_toArray, List.set_cons_zero, List.set_cons_succ])
      refine wpAnyH_ready (rs := [6]) (by kernel_rfl) (by simp) (AllReadyH.cons rfl (fun K hK => ?_) AllReadyH.nil)
      have K4 := Keeps.box hB (g := v6_4.heap.size) (by simp) #[.int .i64 (I128.enc (x + y + z)).1, .int .u64 (I128.enc (x + y + z)).2]
      go_simp
      (try go_wp2_with fail)
      refine hK.out _ _ (Keeps.tail K4) (fun hS_ => ?_)
      clear hK K hN hP hB
      (try simp only [Act.put, List.setIfInBounds_toArray, List.set_cons_zero, List.set_cons_succ])
      refine wpAnyH_done (by kernel_rfl) ?_ _
      clear hS_
      go_wp2_with fail
      refine wp_region_held_drew (S := (Keeps w _)) (by kernel_rfl) (K4.drew) (fun hS_ => ?_)
      refine wpAnyH_take (i := 0) rfl (by kernel_rfl) (by kernel_rfl) (by kernel_rfl) (fun _ _ _ h => h) (yields_load_blk (by rfl) 25 (.tmp 8) rfl _ rfl (fun w hw => Keeps.at2 hw) Try.underlying25 rfl (by kernel_rfl)) hS_ ?_
      (try simp only [Act.put, List.setIfInBounds_toArray, List.set_cons_zero, List.set_cons_succ])
      refine wpAnyH_take (i := 1) rfl (by kernel_rfl) (by kernel_rfl) (by kernel_rfl) (fun _ _ _ h => h) (yields_load_blk (by rfl) 25 (.tmp 4) rfl _ rfl (fun w hw => Keeps.at4 hw) Try.underlying25 rfl (by kernel_rfl)) hS_ ?_
      (try simp only [Act.put, List.setIfInBounds_toArray, List.set_cons_zero, List.set_cons_succ])
      refine wpAnyH_take (i := 2) rfl (by kernel_rfl) (by kernel_rfl) (by kernel_rfl) (fun _ _ _ h => h) (yields_load_blk (by rfl) 25 (.tmp 3) rfl _ rfl (fun w hw => Keeps.at5 hw) Try.underlying25 rfl (by kernel_rfl)) hS_ ?_
      (try simp only [Act.put, List.setIfInBounds_toArray, List.set_cons_zero, List.set_cons_succ])
      refine wpAnyH_ready (rs := [3]) (by kernel_rfl) (by simp) (AllReadyH.cons rfl (fun K hK => ?_) AllReadyH.nil)
      go_simp
      refine (k5 _).mono ?_
      rintro e v7_3 ⟨rfl, bn⟩
      (try go_wp2_with fail)
      refine hK.out _ _ (Keeps.next hS_ bn) (fun hS_ => ?_)
      clear hK K bn
      (try simp only [Act.put, List.setIfInBounds_toArray, List.set_cons_zero, List.set_cons_succ])
      refine wpAnyH_ready (rs := [4]) (by kernel_rfl) (by simp) (AllReadyH.cons rfl (fun K hK => ?_) AllReadyH.nil)
      go_simp
      (try go_wp2_with fail)
      refine hK.out _ _ (hS_) (fun hS_ => ?_)
      clear hK K
      (try simp only [Act.put, List.setIfInBounds_toArray, List.set_cons_zero, List.set_cons_succ])
      refine wpAnyH_ready (rs := [5]) (by kernel_rfl) (by simp) (AllReadyH.cons rfl (fun K hK => ?_) AllReadyH.nil)
      go_simp
      (try go_wp2_with fail)
      refine hK.out _ _ (hS_) (fun hS_ => ?_)
      clear hK K
      (try simp only [Act.put, List.setIfInBounds_toArray, List.set_cons_zero, List.set_cons_succ])
      refine wpAnyH_take (i := 6) rfl (by kernel_rfl) (by kernel_rfl) (by kernel_rfl) (fun _ _ _ h => h) (yields_load_blk (by rfl) 25 (.tmp 9) rfl _ rfl (fun w hw => Keeps.at1 hw) Try.underlying25 rfl (by kernel_rfl)) hS_ ?_
      (try simp only [Act.put, List.setIfInBounds_toArray, List.set_cons_zero, List.set_cons_succ])
      refine wpAnyH_take (i := 7) rfl (by kernel_rfl) (by kernel_rfl) (by kernel_rfl) (fun _ _ _ h => h) (yields_load_blk (by rfl) 25 (.tmp 10) rfl _ rfl (fun w hw => Keeps.at0 hw) Try.underlying25 rfl (by kernel_rfl)) hS_ ?_
      (try simp only [Act.put, List.setIfInBounds_toArray, List.set_cons_zero, List.set_cons_succ])
      refine wpAnyH_ready (rs := [8]) (by kernel_rfl) (by simp) (AllReadyH.cons rfl (fun K hK => ?_) AllReadyH.nil)
      go_simp
      (try go_wp2_with fail)
      refine hK.out _ _ (hS_) (fun hS_ => ?_)
      clear hK K
      (try simp only [Act.put, List.setIfInBounds_toArray, List.set_cons_zero, List.set_cons_succ])
      refine wpAnyH_ready (rs := [9]) (by kernel_rfl) (by simp) (AllReadyH.cons rfl (fun K hK => ?_) AllReadyH.nil)
      go_simp
      (try go_wp2_with fail)
      refine hK.out _ _ (hS_) (fun hS_ => ?_)
      clear hK K
      (try simp only [Act.put, List.setIfInBounds_toArray, List.set_cons_zero, List.set_cons_succ])
      refine wpAnyH_ready (rs := [10]) (by kernel_rfl) (by simp) (AllReadyH.cons rfl (fun K hK => ?_) AllReadyH.nil)
      go_simp
      (try go_wp2_with fail)
      refine hK.out _ _ (hS_) (fun hS_ => ?_)
      clear hK K
      (try simp only [Act.put, List.setIfInBounds_toArray, List.set_cons_zero, List.set_cons_succ])
      refine wpAnyH_take (i := 11) rfl (by kernel_rfl) (by kernel_rfl) (by kernel_rfl) (fun _ _ _ h => h) (yields_load_blk (by rfl) 25 (.tmp 8) rfl _ rfl (fun w hw => Keeps.at2 hw) Try.underlying25 rfl (by kernel_rfl)) hS_ ?_
      (try simp only [Act.put, List.setIfInBounds_toArray, List.set_cons_zero, List.set_cons_succ])
      refine wpAnyH_take (i := 12) rfl (by kernel_rfl) (by kernel_rfl) (by kernel_rfl) (fun _ _ _ h => h) (yields_load_blk (by rfl) 25 (.tmp 4) rfl _ rfl (fun w hw => Keeps.at4 hw) Try.underlying25 rfl (by kernel_rfl)) hS_ ?_
      (try simp only [Act.put, List.setIfInBounds_toArray, List.set_cons_zero, List.set_cons_succ])
      refine wpAnyH_take (i := 14) rfl (by kernel_rfl) (by kernel_rfl) (by kernel_rfl) (fun _ _ _ h => h) (yields_load_blk (by rfl) 25 (.tmp 3) rfl _ rfl (fun w hw => Keeps.at5 hw) Try.underlying25 rfl (by kernel_rfl)) hS_ ?_
      (try simp only [Act.put, List.setIfInBounds_toArray, List.set_cons_zero, List.set_cons_succ])
      refine wpAnyH_ready (rs := [13]) (by kernel_rfl) (by simp) (AllReadyH.cons rfl (fun K hK => ?_) AllReadyH.nil)
      go_simp
      refine (k6 _).mono ?_
      rintro e v7_13 ⟨rfl, bn⟩
      (try go_wp2_with fail)
      refine hK.out _ _ (Keeps.next hS_ bn) (fun hS_ => ?_)
      clear hK K bn
      (try simp only [Act.put, List.setIfInBounds_toArray, List.set_cons_zero, List.set_cons_succ])
      refine wpAnyH_ready (rs := [15]) (by kernel_rfl) (by simp) (AllReadyH.cons rfl (fun K hK => ?_) AllReadyH.nil)
      go_simp
      (try go_wp2_with fail)
      refine hK.out _ _ (hS_) (fun hS_ => ?_)
      clear hK K
      (try simp only [Act.put, List.setIfInBounds_toArray, List.set_cons_zero, List.set_cons_succ])
      refine wpAnyH_ready (rs := [16]) (by kernel_rfl) (by simp) (AllReadyH.cons rfl (fun K hK => ?_) AllReadyH.nil)
      go_simp
      (try go_wp2_with fail)
      refine hK.out _ _ (hS_) (fun hS_ => ?_)
      clear hK K
      (try simp only [Act.put, List.setIfInBounds_toArray, List.set_cons_zero, List.set_cons_succ])
      refine wpAnyH_ready (rs := [17]) (by kernel_rfl) (by simp) (AllReadyH.cons rfl (fun K hK => ?_) AllReadyH.nil)
      go_simp
      (try go_wp2_with fail)
      refine hK.out _ _ (hS_) (fun hS_ => ?_)
      clear hK K
      (try simp only [Act.put, List.setIfInBounds_toArray, List.set_cons_zero, List.set_cons_succ])
      refine wpAnyH_take (i := 18) rfl (by kernel_rfl) (by kernel_rfl) (by kernel_rfl) (fun _ _ _ h => h) (yields_load_blk (by rfl) 25 (.tmp 8) rfl _ rfl (fun w hw => Keeps.at2 hw) Try.underlying25 rfl (by kernel_rfl)) hS_ ?_
      (try simp only [Act.put, List.setIfInBounds_toArray, List.set_cons_zero, List.set_cons_succ])
      refine wpAnyH_take (i := 19) rfl (by kernel_rfl) (by kernel_rfl) (by kernel_rfl) (fun _ _ _ h => h) (yields_load_blk (by rfl) 25 (.tmp 4) rfl _ rfl (fun w hw => Keeps.at4 hw) Try.underlying25 rfl (by kernel_rfl)) hS_ ?_
      (try simp only [Act.put, List.setIfInBounds_toArray, List.set_cons_zero, List.set_cons_succ])
      refine wpAnyH_take (i := 22) rfl (by kernel_rfl) (by kernel_rfl) (by kernel_rfl) (fun _ _ _ h => h) (yields_load_blk (by rfl) 25 (.tmp 3) rfl _ rfl (fun w hw => Keeps.at5 hw) Try.underlying25 rfl (by kernel_rfl)) hS_ ?_
      (try simp only [Act.put, List.setIfInBounds_toArray, List.set_cons_zero, List.set_cons_succ])
      refine wpAnyH_ready (rs := [20]) (by kernel_rfl) (by simp) (AllReadyH.cons rfl (fun K hK => ?_) AllReadyH.nil)
      go_simp
      refine (k7 _).mono ?_
      rintro e v7_20 ⟨rfl, bn⟩
      (try go_wp2_with fail)
      refine hK.out _ _ (Keeps.next hS_ bn) (fun hS_ => ?_)
      clear hK K bn
      (try simp only [Act.put, List.setIfInBounds_toArray, List.set_cons_zero, List.set_cons_succ])
      refine wpAnyH_ready (rs := [21]) (by kernel_rfl) (by simp) (AllReadyH.cons rfl (fun K hK => ?_) AllReadyH.nil)
      go_simp
      refine (k8 _).mono ?_
      rintro e v7_21 ⟨rfl, bn⟩
      (try go_wp2_with fail)
      refine hK.out _ _ (Keeps.next hS_ bn) (fun hS_ => ?_)
      clear hK K bn
      (try simp only [Act.put, List.setIfInBounds_toArray, List.set_cons_zero, List.set_cons_succ])
      refine wpAnyH_ready (rs := [23]) (by kernel_rfl) (by simp) (AllReadyH.cons rfl (fun K hK => ?_) AllReadyH.nil)
      go_simp
      (try go_wp2_with fail)
      refine hK.out _ _ (hS_) (fun hS_ => ?_)
      clear hK K
      (try simp only [Act.put, List.setIfInBounds_toArray, List.set_cons_zero, List.set_cons_succ])
      refine wpAnyH_ready (rs := [24]) (by kernel_rfl) (by simp) (AllReadyH.cons rfl (fun K hK => ?_) AllReadyH.nil)
      go_simp
      (try go_wp2_with fail)
      refine hK.out _ _ (hS_) (fun hS_ => ?_)
      clear hK K
      (try simp only [Act.put, List.setIfInBounds_toArray, List.set_cons_zero, List.set_cons_succ])
      refine wpAnyH_ready (rs := [25]) (by kernel_rfl) (by simp) (AllReadyH.cons rfl (fun K hK => ?_) AllReadyH.nil)
      go_simp
      (try go_wp2_with fail)
      refine hK.out _ _ (hS_) (fun hS_ => ?_)
      clear hK K
      (try simp only [Act.put, List.setIfInBounds_toArray, List.set_cons_zero, List.set_cons_succ])
      refine wpAnyH_take (i := 26) rfl (by kernel_rfl) (by kernel_rfl) (by kernel_rfl) (fun _ _ _ h => h) (yields_load_blk (by rfl) 25 (.tmp 3) rfl _ rfl (fun w hw => Keeps.at5 hw) Try.underlying25 rfl (by kernel_rfl)) hS_ ?_
      (try simp only [Act.put, List.setIfInBounds_toArray, List.set_cons_zero, List.set_cons_succ])
      refine wpAnyH_take (i := 27) (v := .agg #[.int .i64 0, .int .u64 0]) rfl (by kernel_rfl) (by kernel_rfl) (by kernel_rfl) (fun _ _ _ h => h) (Or.inl ⟨by rfl, by intro w hSw; go_simp⟩) hS_ ?_
      (try simp only [Act.put, List.setIfInBounds_toArray, List.set_cons_zero, List.set_cons_succ])
      refine wpAnyH_take (i := 29) rfl (by kernel_rfl) (by kernel_rfl) (by kernel_rfl) (fun _ _ _ h => h) (yields_load_blk (by rfl) 25 (.tmp 3) rfl _ rfl (fun w hw => Keeps.at5 hw) Try.underlying25 rfl (by kernel_rfl)) hS_ ?_
      (try simp only [Act.put, List.setIfInBounds_toArray, List.set_cons_zero, List.set_cons_succ])
      refine wpAnyH_ready (rs := [28]) (by kernel_rfl) (by simp) (AllReadyH.cons rfl (fun K hK => ?_) AllReadyH.nil)
      go_simp
      refine (k9 _).mono ?_
      rintro e v7_28 ⟨rfl, bn⟩
      (try go_wp2_with fail)
      refine hK.out _ _ (Keeps.next hS_ bn) (fun hS_ => ?_)
      clear hK K bn
      (try simp only [Act.put, List.setIfInBounds_toArray, List.set_cons_zero, List.set_cons_succ])
      refine wpAnyH_ready (rs := [30]) (by kernel_rfl) (by simp) (AllReadyH.cons rfl (fun K hK => ?_) AllReadyH.nil)
      go_simp
      (try go_wp2_with fail)
      refine hK.out _ _ (hS_) (fun hS_ => ?_)
      clear hK K
      (try simp only [Act.put, List.setIfInBounds_toArray, List.set_cons_zero, List.set_cons_succ])
      refine wpAnyH_ready (rs := [31]) (by kernel_rfl) (by simp) (AllReadyH.cons rfl (fun K hK => ?_) AllReadyH.nil)
      go_simp
      (try go_wp2_with fail)
      refine hK.out _ _ (hS_) (fun hS_ => ?_)
      clear hK K
      (try simp only [Act.put, List.setIfInBounds_toArray, List.set_cons_zero, List.set_cons_succ])
      refine wpAnyH_ready (rs := [32]) (by kernel_rfl) (by simp) (AllReadyH.cons rfl (fun K hK => ?_) AllReadyH.nil)
      go_simp
      (try go_wp2_with fail)
      refine hK.out _ _ (hS_) (fun hS_ => ?_)
      clear hK K
      (try simp only [Act.put, List.setIfInBounds_toArray, List.set_cons_zero, List.set_cons_succ])
      refine wpAnyH_take (i := 33) rfl (by kernel_rfl) (by kernel_rfl) (by kernel_rfl) (fun _ _ _ h => h) (yields_load_blk (by rfl) 25 (.tmp 3) rfl _ rfl (fun w hw => Keeps.at5 hw) Try.underlying25 rfl (by kernel_rfl)) hS_ ?_
      (try simp only [Act.put, List.setIfInBounds_toArray, List.set_cons_zero, List.set_cons_succ])
      refine wpAnyH_take (i := 34) rfl (by kernel_rfl) (by kernel_rfl) (by kernel_rfl) (fun _ _ _ h => h) (yields_load_blk (by rfl) 25 (.tmp 3) rfl _ rfl (fun w hw => Keeps.at5 hw) Try.underlying25 rfl (by kernel_rfl)) hS_ ?_
      (try simp only [Act.put, List.setIfInBounds_toArray, List.set_cons_zero, List.set_cons_succ])
      refine wpAnyH_take (i := 36) (v := .agg #[.int .i64 0, .int .u64 0]) rfl (by kernel_rfl) (by kernel_rfl) (by kernel_rfl) (fun _ _ _ h => h) (Or.inl ⟨by rfl, by intro w hSw; go_simp⟩) hS_ ?_
      (try simp only [Act.put, List.setIfInBounds_toArray, List.set_cons_zero, List.set_cons_succ])
      refine wpAnyH_ready (rs := [35]) (by kernel_rfl) (by simp) (AllReadyH.cons rfl (fun K hK => ?_) AllReadyH.nil)
      go_simp
      refine (k10 _).mono ?_
      rintro e v7_35 ⟨rfl, bn⟩
      (try go_wp2_with fail)
      refine hK.out _ _ (Keeps.next hS_ bn) (fun hS_ => ?_)
      clear hK K bn
      (try simp only [Act.put, List.setIfInBounds_toArray, List.set_cons_zero, List.set_cons_succ])
      refine wpAnyH_ready (rs := [37]) (by kernel_rfl) (by simp) (AllReadyH.cons rfl (fun K hK => ?_) AllReadyH.nil)
      go_simp
      (try go_wp2_with fail)
      refine hK.out _ _ (hS_) (fun hS_ => ?_)
      clear hK K
      (try simp only [Act.put, List.setIfInBounds_toArray, List.set_cons_zero, List.set_cons_succ])
      refine wpAnyH_ready (rs := [38]) (by kernel_rfl) (by simp) (AllReadyH.cons rfl (fun K hK => ?_) AllReadyH.nil)
      go_simp
      (try go_wp2_with fail)
      refine hK.out _ _ (hS_) (fun hS_ => ?_)
      clear hK K
      (try simp only [Act.put, List.setIfInBounds_toArray, List.set_cons_zero, List.set_cons_succ])
      refine wpAnyH_ready (rs := [39]) (by kernel_rfl) (by simp) (AllReadyH.cons rfl (fun K hK => ?_) AllReadyH.nil)
      go_simp
      (try go_wp2_with fail)
      refine hK.out _ _ (hS_) (fun hS_ => ?_)
      clear hK K
      (try simp only [Act.put, List.setIfInBounds_toArray, List.set_cons_zero, List.set_cons_succ])
      refine wpAnyH_take (i := 40) rfl (by kernel_rfl) (by kernel_rfl) (by kernel_rfl) (fun _ _ _ h => h) (yields_load_blk (by rfl) 25 (.tmp 3) rfl _ rfl (fun w hw => Keeps.at5 hw) Try.underlying25 rfl (by kernel_rfl)) hS_ ?_
      (try simp only [Act.put, List.setIfInBounds_toArray, List.set_cons_zero, List.set_cons_succ])
      refine wpAnyH_take (i := 43) rfl (by kernel_rfl) (by kernel_rfl) (by kernel_rfl) (fun _ _ _ h => h) (yields_load_blk (by rfl) 25 (.tmp 3) rfl _ rfl (fun w hw => Keeps.at5 hw) Try.underlying25 rfl (by kernel_rfl)) hS_ ?_
      (try simp only [Act.put, List.setIfInBounds_toArray, List.set_cons_zero, List.set_cons_succ])
      refine wpAnyH_ready (rs := [41]) (by kernel_rfl) (by simp) (AllReadyH.cons rfl (fun K hK => ?_) AllReadyH.nil)
      go_simp
      refine (k11 _).mono ?_
      rintro e v7_41 ⟨rfl, bn⟩
      (try go_wp2_with fail)
      refine hK.out _ _ (Keeps.next hS_ bn) (fun hS_ => ?_)
      clear hK K bn
      (try simp only [Act.put, List.setIfInBounds_toArray, List.set_cons_zero, List.set_cons_succ])
      refine wpAnyH_ready (rs := [42]) (by kernel_rfl) (by simp) (AllReadyH.cons rfl (fun K hK => ?_) AllReadyH.nil)
      go_simp
      refine (k12 _).mono ?_
      rintro e v7_42 ⟨rfl, bn⟩
      (try go_wp2_with fail)
      refine hK.out _ _ (Keeps.next hS_ bn) (fun hS_ => ?_)
      clear hK K bn
      (try simp only [Act.put, List.setIfInBounds_toArray, List.set_cons_zero, List.set_cons_succ])
      refine wpAnyH_ready (rs := [44]) (by kernel_rfl) (by simp) (AllReadyH.cons rfl (fun K hK => ?_) AllReadyH.nil)
      go_simp
      (try go_wp2_with fail)
      refine hK.out _ _ (hS_) (fun hS_ => ?_)
      clear hK K
      (try simp only [Act.put, List.setIfInBounds_toArray, List.set_cons_zero, List.set_cons_succ])
      refine wpAnyH_ready (rs := [45]) (by kernel_rfl) (by simp) (AllReadyH.cons rfl (fun K hK => ?_) AllReadyH.nil)
      go_simp
      (try go_wp2_with fail)
      refine hK.out _ _ (hS_) (fun hS_ => ?_)
      clear hK K
      (try simp only [Act.put, List.setIfInBounds_toArray, List.set_cons_zero, List.set_cons_succ])
      refine wpAnyH_ready (rs := [46]) (by kernel_rfl) (by simp) (AllReadyH.cons rfl (fun K hK => ?_) AllReadyH.nil)
      go_simp
      (try go_wp2_with fail)
      refine hK.out _ _ (hS_) (fun hS_ => ?_)
      clear hK K
      (try simp only [Act.put, List.setIfInBounds_toArray, List.set_cons_zero, List.set_cons_succ])
      refine wpAnyH_take (i := 47) rfl (by kernel_rfl) (by kernel_rfl) (by kernel_rfl) (fun _ _ _ h => h) (yields_load_blk (by rfl) 25 (.tmp 3) rfl _ rfl (fun w hw => Keeps.at5 hw) Try.underlying25 rfl (by kernel_rfl)) hS_ ?_
      (try simp only [Act.put, List.setIfInBounds_toArray, List.set_cons_zero, List.set_cons_succ])
      refine wpAnyH_take (i := 48) rfl (by kernel_rfl) (by kernel_rfl) (by kernel_rfl) (fun _ _ _ h => h) (yields_load_blk (by rfl) 25 (.tmp 4) rfl _ rfl (fun w hw => Keeps.at4 hw) Try.underlying25 rfl (by kernel_rfl)) hS_ ?_
      (try simp only [Act.put, List.setIfInBounds_toArray, List.set_cons_zero, List.set_cons_succ])
      refine wpAnyH_take (i := 50) rfl (by kernel_rfl) (by kernel_rfl) (by kernel_rfl) (fun _ _ _ h => h) (yields_load_blk (by rfl) 25 (.tmp 4) rfl _ rfl (fun w hw => Keeps.at4 hw) Try.underlying25 rfl (by kernel_rfl)) hS_ ?_
      (try simp only [Act.put, List.setIfInBounds_toArray, List.set_cons_zero, List.set_cons_succ])
      refine wpAnyH_take (i := 51) rfl (by kernel_rfl) (by kernel_rfl) (by kernel_rfl) (fun _ _ _ h => h) (yields_load_blk (by rfl) 25 (.tmp 3) rfl _ rfl (fun w hw => Keeps.at5 hw) Try.underlying25 rfl (by kernel_rfl)) hS_ ?_
      (try simp only [Act.put, List.setIfInBounds_toArray, List.set_cons_zero, List.set_cons_succ])
      refine wpAnyH_ready (rs := [49]) (by kernel_rfl) (by simp) (AllReadyH.cons rfl (fun K hK => ?_) AllReadyH.nil)
      go_simp
      refine (k13 _).mono ?_
      rintro e v7_49 ⟨rfl, bn⟩
      (try go_wp2_with fail)
      refine hK.out _ _ (Keeps.next hS_ bn) (fun hS_ => ?_)
      clear hK K bn
      (try simp only [Act.put, List.setIfInBounds_toArray, List.set_cons_zero, List.set_cons_succ])
      refine wpAnyH_ready (rs := [52]) (by kernel_rfl) (by simp) (AllReadyH.cons rfl (fun K hK => ?_) AllReadyH.nil)
      go_simp
      refine (k14 _).mono ?_
      rintro e v7_52 ⟨rfl, bn⟩
      (try go_wp2_with fail)
      refine hK.out _ _ (Keeps.next hS_ bn) (fun hS_ => ?_)
      clear hK K bn
      (try simp only [Act.put, List.setIfInBounds_toArray, List.set_cons_zero, List.set_cons_succ])
      refine wpAnyH_ready (rs := [53]) (by kernel_rfl) (by simp) (AllReadyH.cons rfl (fun K hK => ?_) AllReadyH.nil)
      go_simp
      refine (k15 _).mono ?_
      rintro e v7_53 ⟨rfl, bn⟩
      (try go_wp2_with fail)
      refine hK.out _ _ (Keeps.next hS_ bn) (fun hS_ => ?_)
      clear hK K bn
      (try simp only [Act.put, List.setIfInBounds_toArray, List.set_cons_zero, List.set_cons_succ])
      refine wpAnyH_ready (rs := [54]) (by kernel_rfl) (by simp) (AllReadyH.cons rfl (fun K hK => ?_) AllReadyH.nil)
      go_simp
      (try go_wp2_with fail)
      refine hK.out _ _ (hS_) (fun hS_ => ?_)
      clear hK K
      (try simp only [Act.put, List.setIfInBounds_toArray, List.set_cons_zero, List.set_cons_succ])
      refine wpAnyH_ready (rs := [55]) (by kernel_rfl) (by simp) (AllReadyH.cons rfl (fun K hK => ?_) AllReadyH.nil)
      go_simp
      (try go_wp2_with fail)
      refine hK.out _ _ (hS_) (fun hS_ => ?_)
      clear hK K
      (try simp only [Act.put, List.setIfInBounds_toArray, List.set_cons_zero, List.set_cons_succ])
      refine wpAnyH_ready (rs := [56]) (by kernel_rfl) (by simp) (AllReadyH.cons rfl (fun K hK => ?_) AllReadyH.nil)
      go_simp
      (try go_wp2_with fail)
      refine hK.out _ _ (hS_) (fun hS_ => ?_)
      clear hK K
      (try simp only [Act.put, List.setIfInBounds_toArray, List.set_cons_zero, List.set_cons_succ])
      refine wpAnyH_done (by kernel_rfl) ?_ _
      go_wp2
      go_ret
      exact ⟨by simp, hS_.bel⟩
    · have hB := hS_
      have hP := Keeps.apart hS_ (g := v6_3.heap.size) (by simp)
      have hN := Keeps.box hS_ (g := v6_3.heap.size) (by simp) #[.int .i64 0, .int .u64 0]
      go_simp
      (try go_wp2_with fail)
      refine hK.out _ _ (Keeps.alloc hS_ _) (fun hS_ => ?_)
      clear hK K
      (try simp only [Act.put, List.setIfInBounds_toArray, List.set_cons_zero, List.set_cons_succ])
      refine wpAnyH_ready (rs := [4]) (by kernel_rfl) (by simp) (AllReadyH.cons rfl (fun K hK => ?_) AllReadyH.nil)
      go_simp
      refine (k4 _).mono ?_
      rintro e v6_4 ⟨rfl, bn⟩
      (try go_wp2_with fail)
      have hN := Keeps.next hN bn
      refine hK.out _ _ (Keeps.next hS_ bn) (fun hS_ => ?_)
      clear hK K bn
      (try simp only [Act.put, List.setIfInBounds_toArray, List.set_cons_zero, List.set_cons_succ])
      refine wpAnyH_ready (rs := [6]) (by kernel_rfl) (by simp) (AllReadyH.cons rfl (fun K hK => ?_) AllReadyH.nil)
      obtain ⟨r0, r1, r2, r3⟩ := (Keeps.at0 hN).cells2
      have K4 := Keeps.store hN hP (.int .i64 (I128.enc (x + y + z)).1) (.int .u64 (I128.enc (x + y + z)).2)
      go_simp
      (try go_wp2_with fail)
      refine hK.out _ _ (Keeps.tail K4) (fun hS_ => ?_)
      clear hK K hN hP hB
      (try simp only [Act.put, List.setIfInBounds_toArray, List.set_cons_zero, List.set_cons_succ])
      refine wpAnyH_done (by kernel_rfl) ?_ _
      clear hS_
      go_wp2_with fail
      refine wp_region_held_drew (S := (Keeps w _)) (by kernel_rfl) (K4.drew) (fun hS_ => ?_)
      refine wpAnyH_take (i := 0) rfl (by kernel_rfl) (by kernel_rfl) (by kernel_rfl) (fun _ _ _ h => h) (yields_load_blk (by rfl) 25 (.tmp 8) rfl _ rfl (fun w hw => Keeps.at2 hw) Try.underlying25 rfl (by kernel_rfl)) hS_ ?_
      (try simp only [Act.put, List.setIfInBounds_toArray, List.set_cons_zero, List.set_cons_succ])
      refine wpAnyH_take (i := 1) rfl (by kernel_rfl) (by kernel_rfl) (by kernel_rfl) (fun _ _ _ h => h) (yields_load_blk (by rfl) 25 (.tmp 4) rfl _ rfl (fun w hw => Keeps.at4 hw) Try.underlying25 rfl (by kernel_rfl)) hS_ ?_
      (try simp only [Act.put, List.setIfInBounds_toArray, List.set_cons_zero, List.set_cons_succ])
      refine wpAnyH_take (i := 2) rfl (by kernel_rfl) (by kernel_rfl) (by kernel_rfl) (fun _ _ _ h => h) (yields_load_blk (by rfl) 25 (.tmp 3) rfl _ rfl (fun w hw => Keeps.at5 hw) Try.underlying25 rfl (by kernel_rfl)) hS_ ?_
      (try simp only [Act.put, List.setIfInBounds_toArray, List.set_cons_zero, List.set_cons_succ])
      refine wpAnyH_ready (rs := [3]) (by kernel_rfl) (by simp) (AllReadyH.cons rfl (fun K hK => ?_) AllReadyH.nil)
      go_simp
      refine (k5 _).mono ?_
      rintro e v7_3 ⟨rfl, bn⟩
      (try go_wp2_with fail)
      refine hK.out _ _ (Keeps.next hS_ bn) (fun hS_ => ?_)
      clear hK K bn
      (try simp only [Act.put, List.setIfInBounds_toArray, List.set_cons_zero, List.set_cons_succ])
      refine wpAnyH_ready (rs := [4]) (by kernel_rfl) (by simp) (AllReadyH.cons rfl (fun K hK => ?_) AllReadyH.nil)
      go_simp
      (try go_wp2_with fail)
      refine hK.out _ _ (hS_) (fun hS_ => ?_)
      clear hK K
      (try simp only [Act.put, List.setIfInBounds_toArray, List.set_cons_zero, List.set_cons_succ])
      refine wpAnyH_ready (rs := [5]) (by kernel_rfl) (by simp) (AllReadyH.cons rfl (fun K hK => ?_) AllReadyH.nil)
      go_simp
      (try go_wp2_with fail)
      refine hK.out _ _ (hS_) (fun hS_ => ?_)
      clear hK K
      (try simp only [Act.put, List.setIfInBounds_toArray, List.set_cons_zero, List.set_cons_succ])
      refine wpAnyH_take (i := 6) rfl (by kernel_rfl) (by kernel_rfl) (by kernel_rfl) (fun _ _ _ h => h) (yields_load_blk (by rfl) 25 (.tmp 9) rfl _ rfl (fun w hw => Keeps.at1 hw) Try.underlying25 rfl (by kernel_rfl)) hS_ ?_
      (try simp only [Act.put, List.setIfInBounds_toArray, List.set_cons_zero, List.set_cons_succ])
      refine wpAnyH_take (i := 7) rfl (by kernel_rfl) (by kernel_rfl) (by kernel_rfl) (fun _ _ _ h => h) (yields_load_blk (by rfl) 25 (.tmp 10) rfl _ rfl (fun w hw => Keeps.at0 hw) Try.underlying25 rfl (by kernel_rfl)) hS_ ?_
      (try simp only [Act.put, List.setIfInBounds_toArray, List.set_cons_zero, List.set_cons_succ])
      refine wpAnyH_ready (rs := [8]) (by kernel_rfl) (by simp) (AllReadyH.cons rfl (fun K hK => ?_) AllReadyH.nil)
      go_simp
      (try go_wp2_with fail)
      refine hK.out _ _ (hS_) (fun hS_ => ?_)
      clear hK K
      (try simp only [Act.put, List.setIfInBounds_toArray, List.set_cons_zero, List.set_cons_succ])
      refine wpAnyH_ready (rs := [9]) (by kernel_rfl) (by simp) (AllReadyH.cons rfl (fun K hK => ?_) AllReadyH.nil)
      go_simp
      (try go_wp2_with fail)
      refine hK.out _ _ (hS_) (fun hS_ => ?_)
      clear hK K
      (try simp only [Act.put, List.setIfInBounds_toArray, List.set_cons_zero, List.set_cons_succ])
      refine wpAnyH_ready (rs := [10]) (by kernel_rfl) (by simp) (AllReadyH.cons rfl (fun K hK => ?_) AllReadyH.nil)
      go_simp
      (try go_wp2_with fail)
      refine hK.out _ _ (hS_) (fun hS_ => ?_)
      clear hK K
      (try simp only [Act.put, List.setIfInBounds_toArray, List.set_cons_zero, List.set_cons_succ])
      refine wpAnyH_take (i := 11) rfl (by kernel_rfl) (by kernel_rfl) (by kernel_rfl) (fun _ _ _ h => h) (yields_load_blk (by rfl) 25 (.tmp 8) rfl _ rfl (fun w hw => Keeps.at2 hw) Try.underlying25 rfl (by kernel_rfl)) hS_ ?_
      (try simp only [Act.put, List.setIfInBounds_toArray, List.set_cons_zero, List.set_cons_succ])
      refine wpAnyH_take (i := 12) rfl (by kernel_rfl) (by kernel_rfl) (by kernel_rfl) (fun _ _ _ h => h) (yields_load_blk (by rfl) 25 (.tmp 4) rfl _ rfl (fun w hw => Keeps.at4 hw) Try.underlying25 rfl (by kernel_rfl)) hS_ ?_
      (try simp only [Act.put, List.setIfInBounds_toArray, List.set_cons_zero, List.set_cons_succ])
      refine wpAnyH_take (i := 14) rfl (by kernel_rfl) (by kernel_rfl) (by kernel_rfl) (fun _ _ _ h => h) (yields_load_blk (by rfl) 25 (.tmp 3) rfl _ rfl (fun w hw => Keeps.at5 hw) Try.underlying25 rfl (by kernel_rfl)) hS_ ?_
      (try simp only [Act.put, List.setIfInBounds_toArray, List.set_cons_zero, List.set_cons_succ])
      refine wpAnyH_ready (rs := [13]) (by kernel_rfl) (by simp) (AllReadyH.cons rfl (fun K hK => ?_) AllReadyH.nil)
      go_simp
      refine (k6 _).mono ?_
      rintro e v7_13 ⟨rfl, bn⟩
      (try go_wp2_with fail)
      refine hK.out _ _ (Keeps.next hS_ bn) (fun hS_ => ?_)
      clear hK K bn
      (try simp only [Act.put, List.setIfInBounds_toArray, List.set_cons_zero, List.set_cons_succ])
      refine wpAnyH_ready (rs := [15]) (by kernel_rfl) (by simp) (AllReadyH.cons rfl (fun K hK => ?_) AllReadyH.nil)
      go_simp
      (try go_wp2_with fail)
      refine hK.out _ _ (hS_) (fun hS_ => ?_)
      clear hK K
      (try simp only [Act.put, List.setIfInBounds_toArray, List.set_cons_zero, List.set_cons_succ])
      refine wpAnyH_ready (rs := [16]) (by kernel_rfl) (by simp) (AllReadyH.cons rfl (fun K hK => ?_) AllReadyH.nil)
      go_simp
      (try go_wp2_with fail)
      refine hK.out _ _ (hS_) (fun hS_ => ?_)
      clear hK K
      (try simp only [Act.put, List.setIfInBounds_toArray, List.set_cons_zero, List.set_cons_succ])
      refine wpAnyH_ready (rs := [17]) (by kernel_rfl) (by simp) (AllReadyH.cons rfl (fun K hK => ?_) AllReadyH.nil)
      go_simp
      (try go_wp2_with fail)
      refine hK.out _ _ (hS_) (fun hS_ => ?_)
      clear hK K
      (try simp only [Act.put, List.setIfInBounds_toArray, List.set_cons_zero, List.set_cons_succ])
      refine wpAnyH_take (i := 18) rfl (by kernel_rfl) (by kernel_rfl) (by kernel_rfl) (fun _ _ _ h => h) (yields_load_blk (by rfl) 25 (.tmp 8) rfl _ rfl (fun w hw => Keeps.at2 hw) Try.underlying25 rfl (by kernel_rfl)) hS_ ?_
      (try simp only [Act.put, List.setIfInBounds_toArray, List.set_cons_zero, List.set_cons_succ])
      refine wpAnyH_take (i := 19) rfl (by kernel_rfl) (by kernel_rfl) (by kernel_rfl) (fun _ _ _ h => h) (yields_load_blk (by rfl) 25 (.tmp 4) rfl _ rfl (fun w hw => Keeps.at4 hw) Try.underlying25 rfl (by kernel_rfl)) hS_ ?_
      (try simp only [Act.put, List.setIfInBounds_toArray, List.set_cons_zero, List.set_cons_succ])
      refine wpAnyH_take (i := 22) rfl (by kernel_rfl) (by kernel_rfl) (by kernel_rfl) (fun _ _ _ h => h) (yields_load_blk (by rfl) 25 (.tmp 3) rfl _ rfl (fun w hw => Keeps.at5 hw) Try.underlying25 rfl (by kernel_rfl)) hS_ ?_
      (try simp only [Act.put, List.setIfInBounds_toArray, List.set_cons_zero, List.set_cons_succ])
      refine wpAnyH_ready (rs := [20]) (by kernel_rfl) (by simp) (AllReadyH.cons rfl (fun K hK => ?_) AllReadyH.nil)
      go_simp
      refine (k7 _).mono ?_
      rintro e v7_20 ⟨rfl, bn⟩
      (try go_wp2_with fail)
      refine hK.out _ _ (Keeps.next hS_ bn) (fun hS_ => ?_)
      clear hK K bn
      (try simp only [Act.put, List.setIfInBounds_toArray, List.set_cons_zero, List.set_cons_succ])
      refine wpAnyH_ready (rs := [21]) (by kernel_rfl) (by simp) (AllReadyH.cons rfl (fun K hK => ?_) AllReadyH.nil)
      go_simp
      refine (k8 _).mono ?_
      rintro e v7_21 ⟨rfl, bn⟩
      (try go_wp2_with fail)
      refine hK.out _ _ (Keeps.next hS_ bn) (fun hS_ => ?_)
      clear hK K bn
      (try simp only [Act.put, List.setIfInBounds_toArray, List.set_cons_zero, List.set_cons_succ])
      refine wpAnyH_ready (rs := [23]) (by kernel_rfl) (by simp) (AllReadyH.cons rfl (fun K hK => ?_) AllReadyH.nil)
      go_simp
      (try go_wp2_with fail)
      refine hK.out _ _ (hS_) (fun hS_ => ?_)
      clear hK K
      (try simp only [Act.put, List.setIfInBounds_toArray, List.set_cons_zero, List.set_cons_succ])
      refine wpAnyH_ready (rs := [24]) (by kernel_rfl) (by simp) (AllReadyH.cons rfl (fun K hK => ?_) AllReadyH.nil)
      go_simp
      (try go_wp2_with fail)
      refine hK.out _ _ (hS_) (fun hS_ => ?_)
      clear hK K
      (try simp only [Act.put, List.setIfInBounds_toArray, List.set_cons_zero, List.set_cons_succ])
      refine wpAnyH_ready (rs := [25]) (by kernel_rfl) (by simp) (AllReadyH.cons rfl (fun K hK => ?_) AllReadyH.nil)
      go_simp
      (try go_wp2_with fail)
      refine hK.out _ _ (hS_) (fun hS_ => ?_)
      clear hK K
      (try simp only [Act.put, List.setIfInBounds_toArray, List.set_cons_zero, List.set_cons_succ])
      refine wpAnyH_take (i := 26) rfl (by kernel_rfl) (by kernel_rfl) (by kernel_rfl) (fun _ _ _ h => h) (yields_load_blk (by rfl) 25 (.tmp 3) rfl _ rfl (fun w hw => Keeps.at5 hw) Try.underlying25 rfl (by kernel_rfl)) hS_ ?_
      (try simp only [Act.put, List.setIfInBounds_toArray, List.set_cons_zero, List.set_cons_succ])
      refine wpAnyH_take (i := 27) (v := .agg #[.int .i64 0, .int .u64 0]) rfl (by kernel_rfl) (by kernel_rfl) (by kernel_rfl) (fun _ _ _ h => h) (Or.inl ⟨by rfl, by intro w hSw; go_simp⟩) hS_ ?_
      (try simp only [Act.put, List.setIfInBounds_toArray, List.set_cons_zero, List.set_cons_succ])
      refine wpAnyH_take (i := 29) rfl (by kernel_rfl) (by kernel_rfl) (by kernel_rfl) (fun _ _ _ h => h) (yields_load_blk (by rfl) 25 (.tmp 3) rfl _ rfl (fun w hw => Keeps.at5 hw) Try.underlying25 rfl (by kernel_rfl)) hS_ ?_
      (try simp only [Act.put, List.setIfInBounds_toArray, List.set_cons_zero, List.set_cons_succ])
      refine wpAnyH_ready (rs := [28]) (by kernel_rfl) (by simp) (AllReadyH.cons rfl (fun K hK => ?_) AllReadyH.nil)
      go_simp
      refine (k9 _).mono ?_
      rintro e v7_28 ⟨rfl, bn⟩
      (try go_wp2_with fail)
      refine hK.out _ _ (Keeps.next hS_ bn) (fun hS_ => ?_)
      clear hK K bn
      (try simp only [Act.put, List.setIfInBounds_toArray, List.set_cons_zero, List.set_cons_succ])
      refine wpAnyH_ready (rs := [30]) (by kernel_rfl) (by simp) (AllReadyH.cons rfl (fun K hK => ?_) AllReadyH.nil)
      go_simp
      (try go_wp2_with fail)
      refine hK.out _ _ (hS_) (fun hS_ => ?_)
      clear hK K
      (try simp only [Act.put, List.setIfInBounds_toArray, List.set_cons_zero, List.set_cons_succ])
      refine wpAnyH_ready (rs := [31]) (by kernel_rfl) (by simp) (AllReadyH.cons rfl (fun K hK => ?_) AllReadyH.nil)
      go_simp
      (try go_wp2_with fail)
      refine hK.out _ _ (hS_) (fun hS_ => ?_)
      clear hK K
      (try simp only [Act.put, List.setIfInBounds_toArray, List.set_cons_zero, List.set_cons_succ])
      refine wpAnyH_ready (rs := [32]) (by kernel_rfl) (by simp) (AllReadyH.cons rfl (fun K hK => ?_) AllReadyH.nil)
      go_simp
      (try go_wp2_with fail)
      refine hK.out _ _ (hS_) (fun hS_ => ?_)
      clear hK K
      (try simp only [Act.put, List.setIfInBounds_toArray, List.set_cons_zero, List.set_cons_succ])
      refine wpAnyH_take (i := 33) rfl (by kernel_rfl) (by kernel_rfl) (by kernel_rfl) (fun _ _ _ h => h) (yields_load_blk (by rfl) 25 (.tmp 3) rfl _ rfl (fun w hw => Keeps.at5 hw) Try.underlying25 rfl (by kernel_rfl)) hS_ ?_
      (try simp only [Act.put, List.setIfInBounds_toArray, List.set_cons_zero, List.set_cons_succ])
      refine wpAnyH_take (i := 34) rfl (by kernel_rfl) (by kernel_rfl) (by kernel_rfl) (fun _ _ _ h => h) (yields_load_blk (by rfl) 25 (.tmp 3) rfl _ rfl (fun w hw => Keeps.at5 hw) Try.underlying25 rfl (by kernel_rfl)) hS_ ?_
      (try simp only [Act.put, List.setIfInBounds_toArray, List.set_cons_zero, List.set_cons_succ])
      refine wpAnyH_take (i := 36) (v := .agg #[.int .i64 0, .int .u64 0]) rfl (by kernel_rfl) (by kernel_rfl) (by kernel_rfl) (fun _ _ _ h => h) (Or.inl ⟨by rfl, by intro w hSw; go_simp⟩) hS_ ?_
      (try simp only [Act.put, List.setIfInBounds_toArray, List.set_cons_zero, List.set_cons_succ])
      refine wpAnyH_ready (rs := [35]) (by kernel_rfl) (by simp) (AllReadyH.cons rfl (fun K hK => ?_) AllReadyH.nil)
      go_simp
      refine (k10 _).mono ?_
      rintro e v7_35 ⟨rfl, bn⟩
      (try go_wp2_with fail)
      refine hK.out _ _ (Keeps.next hS_ bn) (fun hS_ => ?_)
      clear hK K bn
      (try simp only [Act.put, List.setIfInBounds_toArray, List.set_cons_zero, List.set_cons_succ])
      refine wpAnyH_ready (rs := [37]) (by kernel_rfl) (by simp) (AllReadyH.cons rfl (fun K hK => ?_) AllReadyH.nil)
      go_simp
      (try go_wp2_with fail)
      refine hK.out _ _ (hS_) (fun hS_ => ?_)
      clear hK K
      (try simp only [Act.put, List.setIfInBounds_toArray, List.set_cons_zero, List.set_cons_succ])
      refine wpAnyH_ready (rs := [38]) (by kernel_rfl) (by simp) (AllReadyH.cons rfl (fun K hK => ?_) AllReadyH.nil)
      go_simp
      (try go_wp2_with fail)
      refine hK.out _ _ (hS_) (fun hS_ => ?_)
      clear hK K
      (try simp only [Act.put, List.setIfInBounds_toArray, List.set_cons_zero, List.set_cons_succ])
      refine wpAnyH_ready (rs := [39]) (by kernel_rfl) (by simp) (AllReadyH.cons rfl (fun K hK => ?_) AllReadyH.nil)
      go_simp
      (try go_wp2_with fail)
      refine hK.out _ _ (hS_) (fun hS_ => ?_)
      clear hK K
      (try simp only [Act.put, List.setIfInBounds_toArray, List.set_cons_zero, List.set_cons_succ])
      refine wpAnyH_take (i := 40) rfl (by kernel_rfl) (by kernel_rfl) (by kernel_rfl) (fun _ _ _ h => h) (yields_load_blk (by rfl) 25 (.tmp 3) rfl _ rfl (fun w hw => Keeps.at5 hw) Try.underlying25 rfl (by kernel_rfl)) hS_ ?_
      (try simp only [Act.put, List.setIfInBounds_toArray, List.set_cons_zero, List.set_cons_succ])
      refine wpAnyH_take (i := 43) rfl (by kernel_rfl) (by kernel_rfl) (by kernel_rfl) (fun _ _ _ h => h) (yields_load_blk (by rfl) 25 (.tmp 3) rfl _ rfl (fun w hw => Keeps.at5 hw) Try.underlying25 rfl (by kernel_rfl)) hS_ ?_
      (try simp only [Act.put, List.setIfInBounds_toArray, List.set_cons_zero, List.set_cons_succ])
      refine wpAnyH_ready (rs := [41]) (by kernel_rfl) (by simp) (AllReadyH.cons rfl (fun K hK => ?_) AllReadyH.nil)
      go_simp
      refine (k11 _).mono ?_
      rintro e v7_41 ⟨rfl, bn⟩
      (try go_wp2_with fail)
      refine hK.out _ _ (Keeps.next hS_ bn) (fun hS_ => ?_)
      clear hK K bn
      (try simp only [Act.put, List.setIfInBounds_toArray, List.set_cons_zero, List.set_cons_succ])
      refine wpAnyH_ready (rs := [42]) (by kernel_rfl) (by simp) (AllReadyH.cons rfl (fun K hK => ?_) AllReadyH.nil)
      go_simp
      refine (k12 _).mono ?_
      rintro e v7_42 ⟨rfl, bn⟩
      (try go_wp2_with fail)
      refine hK.out _ _ (Keeps.next hS_ bn) (fun hS_ => ?_)
      clear hK K bn
      (try simp only [Act.put, List.setIfInBounds_toArray, List.set_cons_zero, List.set_cons_succ])
      refine wpAnyH_ready (rs := [44]) (by kernel_rfl) (by simp) (AllReadyH.cons rfl (fun K hK => ?_) AllReadyH.nil)
      go_simp
      (try go_wp2_with fail)
      refine hK.out _ _ (hS_) (fun hS_ => ?_)
      clear hK K
      (try simp only [Act.put, List.setIfInBounds_toArray, List.set_cons_zero, List.set_cons_succ])
      refine wpAnyH_ready (rs := [45]) (by kernel_rfl) (by simp) (AllReadyH.cons rfl (fun K hK => ?_) AllReadyH.nil)
      go_simp
      (try go_wp2_with fail)
      refine hK.out _ _ (hS_) (fun hS_ => ?_)
      clear hK K
      (try simp only [Act.put, List.setIfInBounds_toArray, List.set_cons_zero, List.set_cons_succ])
      refine wpAnyH_ready (rs := [46]) (by kernel_rfl) (by simp) (AllReadyH.cons rfl (fun K hK => ?_) AllReadyH.nil)
      go_simp
      (try go_wp2_with fail)
      refine hK.out _ _ (hS_) (fun hS_ => ?_)
      clear hK K
      (try simp only [Act.put, List.setIfInBounds_toArray, List.set_cons_zero, List.set_cons_succ])
      refine wpAnyH_take (i := 47) rfl (by kernel_rfl) (by kernel_rfl) (by kernel_rfl) (fun _ _ _ h => h) (yields_load_blk (by rfl) 25 (.tmp 3) rfl _ rfl (fun w hw => Keeps.at5 hw) Try.underlying25 rfl (by kernel_rfl)) hS_ ?_
      (try simp only [Act.put, List.setIfInBounds_toArray, List.set_cons_zero, List.set_cons_succ])
      refine wpAnyH_take (i := 48) rfl (by kernel_rfl) (by kernel_rfl) (by kernel_rfl) (fun _ _ _ h => h) (yields_load_blk (by rfl) 25 (.tmp 4) rfl _ rfl (fun w hw => Keeps.at4 hw) Try.underlying25 rfl (by kernel_rfl)) hS_ ?_
      (try simp only [Act.put, List.setIfInBounds_toArray, List.set_cons_zero, List.set_cons_succ])
      refine wpAnyH_take (i := 50) rfl (by kernel_rfl) (by kernel_rfl) (by kernel_rfl) (fun _ _ _ h => h) (yields_load_blk (by rfl) 25 (.tmp 4) rfl _ rfl (fun w hw => Keeps.at4 hw) Try.underlying25 rfl (by kernel_rfl)) hS_ ?_
      (try simp only [Act.put, List.setIfInBounds_toArray, List.set_cons_zero, List.set_cons_succ])
      refine wpAnyH_take (i := 51) rfl (by kernel_rfl) (by kernel_rfl) (by kernel_rfl) (fun _ _ _ h => h) (yields_load_blk (by rfl) 25 (.tmp 3) rfl _ rfl (fun w hw => Keeps.at5 hw) Try.underlying25 rfl (by kernel_rfl)) hS_ ?_
      (try simp only [Act.put, List.setIfInBounds_toArray, List.set_cons_zero, List.set_cons_succ])
      refine wpAnyH_ready (rs := [49]) (by kernel_rfl) (by simp) (AllReadyH.cons rfl (fun K hK => ?_) AllReadyH.nil)
      go_simp
      refine (k13 _).mono ?_
      rintro e v7_49 ⟨rfl, bn⟩
      (try go_wp2_with fail)
      refine hK.out _ _ (Keeps.next hS_ bn) (fun hS_ => ?_)
      clear hK K bn
      (try simp only [Act.put, List.setIfInBounds_toArray, List.set_cons_zero, List.set_cons_succ])
      refine wpAnyH_ready (rs := [52]) (by kernel_rfl) (by simp) (AllReadyH.cons rfl (fun K hK => ?_) AllReadyH.nil)
      go_simp
      refine (k14 _).mono ?_
      rintro e v7_52 ⟨rfl, bn⟩
      (try go_wp2_with fail)
      refine hK.out _ _ (Keeps.next hS_ bn) (fun hS_ => ?_)
      clear hK K bn
      (try simp only [Act.put, List.setIfInBounds_toArray, List.set_cons_zero, List.set_cons_succ])
      refine wpAnyH_ready (rs := [53]) (by kernel_rfl) (by simp) (AllReadyH.cons rfl (fun K hK => ?_) AllReadyH.nil)
      go_simp
      refine (k15 _).mono ?_
      rintro e v7_53 ⟨rfl, bn⟩
      (try go_wp2_with fail)
      refine hK.out _ _ (Keeps.next hS_ bn) (fun hS_ => ?_)
      clear hK K bn
      (try simp only [Act.put, List.setIfInBounds_toArray, List.set_cons_zero, List.set_cons_succ])
      refine wpAnyH_ready (rs := [54]) (by kernel_rfl) (by simp) (AllReadyH.cons rfl (fun K hK => ?_) AllReadyH.nil)
      go_simp
      (try go_wp2_with fail)
      refine hK.out _ _ (hS_) (fun hS_ => ?_)
      clear hK K
      (try simp only [Act.put, List.setIfInBounds_toArray, List.set_cons_zero, List.set_cons_succ])
      refine wpAnyH_ready (rs := [55]) (by kernel_rfl) (by simp) (AllReadyH.cons rfl (fun K hK => ?_) AllReadyH.nil)
      go_simp
      (try go_wp2_with fail)
      refine hK.out _ _ (hS_) (fun hS_ => ?_)
      clear hK K
      (try simp only [Act.put, List.setIfInBounds_toArray, List.set_cons_zero, List.set_cons_succ])
      refine wpAnyH_ready (rs := [56]) (by kernel_rfl) (by simp) (AllReadyH.cons rfl (fun K hK => ?_) AllReadyH.nil)
      go_simp
      (try go_wp2_with fail)
      refine hK.out _ _ (hS_) (fun hS_ => ?_)
      clear hK K
      (try simp only [Act.put, List.setIfInBounds_toArray, List.set_cons_zero, List.set_cons_succ])
      refine wpAnyH_done (by kernel_rfl) ?_ _
      go_wp2
      go_ret
      exact ⟨by simp, hS_.bel⟩
  · have hB := hS_
    have hP := Keeps.apart hS_ (g := w3.heap.size + 1) (by simp)
    have hN := Keeps.box hS_ (g := w3.heap.size + 1) (by simp) #[.int .i64 0, .int .u64 0]
    go_simp
    (try go_wp2_with fail)
    refine hK.out _ _ (Keeps.alloc hS_ _) (fun hS_ => ?_)
    clear hK K
    (try simp only [Act.put, List.setIfInBounds_toArray, List.set_cons_zero, List.set_cons_succ])
    refine wpAnyH_ready (rs := [3]) (by kernel_rfl) (by simp) (AllReadyH.cons rfl (fun K hK => ?_) AllReadyH.nil)
    go_simp
    refine (k3 _).mono ?_
    rintro e v6_3 ⟨rfl, bn⟩
    (try go_wp2_with fail)
    have hN := Keeps.next hN bn
    refine hK.out _ _ (Keeps.next hS_ bn) (fun hS_ => ?_)
    clear hK K bn
    (try simp only [Act.put, List.setIfInBounds_toArray, List.set_cons_zero, List.set_cons_succ])
    refine wpAnyH_ready (rs := [4]) (by kernel_rfl) (by simp) (AllReadyH.cons rfl (fun K hK => ?_) AllReadyH.nil)
    go_simp
    refine (k4 _).mono ?_
    rintro e v6_4 ⟨rfl, bn⟩
    (try go_wp2_with fail)
    have hN := Keeps.next hN bn
    refine hK.out _ _ (Keeps.next hS_ bn) (fun hS_ => ?_)
    clear hK K bn
    (try simp only [Act.put, List.setIfInBounds_toArray, List.set_cons_zero, List.set_cons_succ])
    refine wpAnyH_ready (rs := [6]) (by kernel_rfl) (by simp) (AllReadyH.cons rfl (fun K hK => ?_) AllReadyH.nil)
    obtain ⟨r0, r1, r2, r3⟩ := (Keeps.at0 hN).cells2
    have K4 := Keeps.store hN hP (.int .i64 (I128.enc (x + y + z)).1) (.int .u64 (I128.enc (x + y + z)).2)
    go_simp
    (try go_wp2_with fail)
    refine hK.out _ _ (Keeps.tail K4) (fun hS_ => ?_)
    clear hK K hN hP hB
    (try simp only [Act.put, List.setIfInBounds_toArray, List.set_cons_zero, List.set_cons_succ])
    refine wpAnyH_done (by kernel_rfl) ?_ _
    clear hS_
    go_wp2_with fail
    refine wp_region_held_drew (S := (Keeps w _)) (by kernel_rfl) (K4.drew) (fun hS_ => ?_)
    refine wpAnyH_take (i := 0) rfl (by kernel_rfl) (by kernel_rfl) (by kernel_rfl) (fun _ _ _ h => h) (yields_load_blk (by rfl) 25 (.tmp 8) rfl _ rfl (fun w hw => Keeps.at2 hw) Try.underlying25 rfl (by kernel_rfl)) hS_ ?_
    (try simp only [Act.put, List.setIfInBounds_toArray, List.set_cons_zero, List.set_cons_succ])
    refine wpAnyH_take (i := 1) rfl (by kernel_rfl) (by kernel_rfl) (by kernel_rfl) (fun _ _ _ h => h) (yields_load_blk (by rfl) 25 (.tmp 4) rfl _ rfl (fun w hw => Keeps.at4 hw) Try.underlying25 rfl (by kernel_rfl)) hS_ ?_
    (try simp only [Act.put, List.setIfInBounds_toArray, List.set_cons_zero, List.set_cons_succ])
    refine wpAnyH_take (i := 2) rfl (by kernel_rfl) (by kernel_rfl) (by kernel_rfl) (fun _ _ _ h => h) (yields_load_blk (by rfl) 25 (.tmp 3) rfl _ rfl (fun w hw => Keeps.at5 hw) Try.underlying25 rfl (by kernel_rfl)) hS_ ?_
    (try simp only [Act.put, List.setIfInBounds_toArray, List.set_cons_zero, List.set_cons_succ])
    refine wpAnyH_ready (rs := [3]) (by kernel_rfl) (by simp) (AllReadyH.cons rfl (fun K hK => ?_) AllReadyH.nil)
    go_simp
    refine (k5 _).mono ?_
    rintro e v7_3 ⟨rfl, bn⟩
    (try go_wp2_with fail)
    refine hK.out _ _ (Keeps.next hS_ bn) (fun hS_ => ?_)
    clear hK K bn
    (try simp only [Act.put, List.setIfInBounds_toArray, List.set_cons_zero, List.set_cons_succ])
    refine wpAnyH_ready (rs := [4]) (by kernel_rfl) (by simp) (AllReadyH.cons rfl (fun K hK => ?_) AllReadyH.nil)
    go_simp
    (try go_wp2_with fail)
    refine hK.out _ _ (hS_) (fun hS_ => ?_)
    clear hK K
    (try simp only [Act.put, List.setIfInBounds_toArray, List.set_cons_zero, List.set_cons_succ])
    refine wpAnyH_ready (rs := [5]) (by kernel_rfl) (by simp) (AllReadyH.cons rfl (fun K hK => ?_) AllReadyH.nil)
    go_simp
    (try go_wp2_with fail)
    refine hK.out _ _ (hS_) (fun hS_ => ?_)
    clear hK K
    (try simp only [Act.put, List.setIfInBounds_toArray, List.set_cons_zero, List.set_cons_succ])
    refine wpAnyH_take (i := 6) rfl (by kernel_rfl) (by kernel_rfl) (by kernel_rfl) (fun _ _ _ h => h) (yields_load_blk (by rfl) 25 (.tmp 9) rfl _ rfl (fun w hw => Keeps.at1 hw) Try.underlying25 rfl (by kernel_rfl)) hS_ ?_
    (try simp only [Act.put, List.setIfInBounds_toArray, List.set_cons_zero, List.set_cons_succ])
    refine wpAnyH_take (i := 7) rfl (by kernel_rfl) (by kernel_rfl) (by kernel_rfl) (fun _ _ _ h => h) (yields_load_blk (by rfl) 25 (.tmp 10) rfl _ rfl (fun w hw => Keeps.at0 hw) Try.underlying25 rfl (by kernel_rfl)) hS_ ?_
    (try simp only [Act.put, List.setIfInBounds_toArray, List.set_cons_zero, List.set_cons_succ])
    refine wpAnyH_ready (rs := [8]) (by kernel_rfl) (by simp) (AllReadyH.cons rfl (fun K hK => ?_) AllReadyH.nil)
    go_simp
    (try go_wp2_with fail)
    refine hK.out _ _ (hS_) (fun hS_ => ?_)
    clear hK K
    (try simp only [Act.put, List.setIfInBounds_toArray, List.set_cons_zero, List.set_cons_succ])
    refine wpAnyH_ready (rs := [9]) (by kernel_rfl) (by simp) (AllReadyH.cons rfl (fun K hK => ?_) AllReadyH.nil)
    go_simp
    (try go_wp2_with fail)
    refine hK.out _ _ (hS_) (fun hS_ => ?_)
    clear hK K
    (try simp only [Act.put, List.setIfInBounds_toArray, List.set_cons_zero, List.set_cons_succ])
    refine wpAnyH_ready (rs := [10]) (by kernel_rfl) (by simp) (AllReadyH.cons rfl (fun K hK => ?_) AllReadyH.nil)
    go_simp
    (try go_wp2_with fail)
    refine hK.out _ _ (hS_) (fun hS_ => ?_)
    clear hK K
    (try simp only [Act.put, List.setIfInBounds_toArray, List.set_cons_zero, List.set_cons_succ])
    refine wpAnyH_take (i := 11) rfl (by kernel_rfl) (by kernel_rfl) (by kernel_rfl) (fun _ _ _ h => h) (yields_load_blk (by rfl) 25 (.tmp 8) rfl _ rfl (fun w hw => Keeps.at2 hw) Try.underlying25 rfl (by kernel_rfl)) hS_ ?_
    (try simp only [Act.put, List.setIfInBounds_toArray, List.set_cons_zero, List.set_cons_succ])
    refine wpAnyH_take (i := 12) rfl (by kernel_rfl) (by kernel_rfl) (by kernel_rfl) (fun _ _ _ h => h) (yields_load_blk (by rfl) 25 (.tmp 4) rfl _ rfl (fun w hw => Keeps.at4 hw) Try.underlying25 rfl (by kernel_rfl)) hS_ ?_
    (try simp only [Act.put, List.setIfInBounds_toArray, List.set_cons_zero, List.set_cons_succ])
    refine wpAnyH_take (i := 14) rfl (by kernel_rfl) (by kernel_rfl) (by kernel_rfl) (fun _ _ _ h => h) (yields_load_blk (by rfl) 25 (.tmp 3) rfl _ rfl (fun w hw => Keeps.at5 hw) Try.underlying25 rfl (by kernel_rfl)) hS_ ?_
    (try simp only [Act.put, List.setIfInBounds_toArray, List.set_cons_zero, List.set_cons_succ])
    refine wpAnyH_ready (rs := [13]) (by kernel_rfl) (by simp) (AllReadyH.cons rfl (fun K hK => ?_) AllReadyH.nil)
    go_simp
    refine (k6 _).mono ?_
    rintro e v7_13 ⟨rfl, bn⟩
    (try go_wp2_with fail)
    refine hK.out _ _ (Keeps.next hS_ bn) (fun hS_ => ?_)
    clear hK K bn
    (try simp only [Act.put, List.setIfInBounds_toArray, List.set_cons_zero, List.set_cons_succ])
    refine wpAnyH_ready (rs := [15]) (by kernel_rfl) (by simp) (AllReadyH.cons rfl (fun K hK => ?_) AllReadyH.nil)
    go_simp
    (try go_wp2_with fail)
    refine hK.out _ _ (hS_) (fun hS_ => ?_)
    clear hK K
    (try simp only [Act.put, List.setIfInBounds_toArray, List.set_cons_zero, List.set_cons_succ])
    refine wpAnyH_ready (rs := [16]) (by kernel_rfl) (by simp) (AllReadyH.cons rfl (fun K hK => ?_) AllReadyH.nil)
    go_simp
    (try go_wp2_with fail)
    refine hK.out _ _ (hS_) (fun hS_ => ?_)
    clear hK K
    (try simp only [Act.put, List.setIfInBounds_toArray, List.set_cons_zero, List.set_cons_succ])
    refine wpAnyH_ready (rs := [17]) (by kernel_rfl) (by simp) (AllReadyH.cons rfl (fun K hK => ?_) AllReadyH.nil)
    go_simp
    (try go_wp2_with fail)
    refine hK.out _ _ (hS_) (fun hS_ => ?_)
    clear hK K
    (try simp only [Act.put, List.setIfInBounds_toArray, List.set_cons_zero, List.set_cons_succ])
    refine wpAnyH_take (i := 18) rfl (by kernel_rfl) (by kernel_rfl) (by kernel_rfl) (fun _ _ _ h => h) (yields_load_blk (by rfl) 25 (.tmp 8) rfl _ rfl (fun w hw => Keeps.at2 hw) Try.underlying25 rfl (by kernel_rfl)) hS_ ?_
    (try simp only [Act.put, List.setIfInBounds_toArray, List.set_cons_zero, List.set_cons_succ])
    refine wpAnyH_take (i := 19) rfl (by kernel_rfl) (by kernel_rfl) (by kernel_rfl) (fun _ _ _ h => h) (yields_load_blk (by rfl) 25 (.tmp 4) rfl _ rfl (fun w hw => Keeps.at4 hw) Try.underlying25 rfl (by kernel_rfl)) hS_ ?_
    (try simp only [Act.put, List.setIfInBounds_toArray, List.set_cons_zero, List.set_cons_succ])
    refine wpAnyH_take (i := 22) rfl (by kernel_rfl) (by kernel_rfl) (by kernel_rfl) (fun _ _ _ h => h) (yields_load_blk (by rfl) 25 (.tmp 3) rfl _ rfl (fun w hw => Keeps.at5 hw) Try.underlying25 rfl (by kernel_rfl)) hS_ ?_
    (try simp only [Act.put, List.setIfInBounds_toArray, List.set_cons_zero, List.set_cons_succ])
    refine wpAnyH_ready (rs := [20]) (by kernel_rfl) (by simp) (AllReadyH.cons rfl (fun K hK => ?_) AllReadyH.nil)
    go_simp
    refine (k7 _).mono ?_
    rintro e v7_20 ⟨rfl, bn⟩
    (try go_wp2_with fail)
    refine hK.out _ _ (Keeps.next hS_ bn) (fun hS_ => ?_)
    clear hK K bn
    (try simp only [Act.put, List.setIfInBounds_toArray, List.set_cons_zero, List.set_cons_succ])
    refine wpAnyH_ready (rs := [21]) (by kernel_rfl) (by simp) (AllReadyH.cons rfl (fun K hK => ?_) AllReadyH.nil)
    go_simp
    refine (k8 _).mono ?_
    rintro e v7_21 ⟨rfl, bn⟩
    (try go_wp2_with fail)
    refine hK.out _ _ (Keeps.next hS_ bn) (fun hS_ => ?_)
    clear hK K bn
    (try simp only [Act.put, List.setIfInBounds_toArray, List.set_cons_zero, List.set_cons_succ])
    refine wpAnyH_ready (rs := [23]) (by kernel_rfl) (by simp) (AllReadyH.cons rfl (fun K hK => ?_) AllReadyH.nil)
    go_simp
    (try go_wp2_with fail)
    refine hK.out _ _ (hS_) (fun hS_ => ?_)
    clear hK K
    (try simp only [Act.put, List.setIfInBounds_toArray, List.set_cons_zero, List.set_cons_succ])
    refine wpAnyH_ready (rs := [24]) (by kernel_rfl) (by simp) (AllReadyH.cons rfl (fun K hK => ?_) AllReadyH.nil)
    go_simp
    (try go_wp2_with fail)
    refine hK.out _ _ (hS_) (fun hS_ => ?_)
    clear hK K
    (try simp only [Act.put, List.setIfInBounds_toArray, List.set_cons_zero, List.set_cons_succ])
    refine wpAnyH_ready (rs := [25]) (by kernel_rfl) (by simp) (AllReadyH.cons rfl (fun K hK => ?_) AllReadyH.nil)
    go_simp
    (try go_wp2_with fail)
    refine hK.out _ _ (hS_) (fun hS_ => ?_)
    clear hK K
    (try simp only [Act.put, List.setIfInBounds_toArray, List.set_cons_zero, List.set_cons_succ])
    refine wpAnyH_take (i := 26) rfl (by kernel_rfl) (by kernel_rfl) (by kernel_rfl) (fun _ _ _ h => h) (yields_load_blk (by rfl) 25 (.tmp 3) rfl _ rfl (fun w hw => Keeps.at5 hw) Try.underlying25 rfl (by kernel_rfl)) hS_ ?_
    (try simp only [Act.put, List.setIfInBounds_toArray, List.set_cons_zero, List.set_cons_succ])
    refine wpAnyH_take (i := 27) (v := .agg #[.int .i64 0, .int .u64 0]) rfl (by kernel_rfl) (by kernel_rfl) (by kernel_rfl) (fun _ _ _ h => h) (Or.inl ⟨by rfl, by intro w hSw; go_simp⟩) hS_ ?_
    (try simp only [Act.put, List.setIfInBounds_toArray, List.set_cons_zero, List.set_cons_succ])
    refine wpAnyH_take (i := 29) rfl (by kernel_rfl) (by kernel_rfl) (by kernel_rfl) (fun _ _ _ h => h) (yields_load_blk (by rfl) 25 (.tmp 3) rfl _ rfl (fun w hw => Keeps.at5 hw) Try.underlying25 rfl (by kernel_rfl)) hS_ ?_
    (try simp only [Act.put, List.setIfInBounds_toArray, List.set_cons_zero, List.set_cons_succ])
    refine wpAnyH_ready (rs := [28]) (by kernel_rfl) (by simp) (AllReadyH.cons rfl (fun K hK => ?_) AllReadyH.nil)
    go_simp
    refine (k9 _).mono ?_
    rintro e v7_28 ⟨rfl, bn⟩
    (try go_wp2_with fail)
    refine hK.out _ _ (Keeps.next hS_ bn) (fun hS_ => ?_)
    clear hK K bn
    (try simp only [Act.put, List.setIfInBounds_toArray, List.set_cons_zero, List.set_cons_succ])
    refine wpAnyH_ready (rs := [30]) (by kernel_rfl) (by simp) (AllReadyH.cons rfl (fun K hK => ?_) AllReadyH.nil)
    go_simp
    (try go_wp2_with fail)
    refine hK.out _ _ (hS_) (fun hS_ => ?_)
    clear hK K
    (try simp only [Act.put, List.setIfInBounds_toArray, List.set_cons_zero, List.set_cons_succ])
    refine wpAnyH_ready (rs := [31]) (by kernel_rfl) (by simp) (AllReadyH.cons rfl (fun K hK => ?_) AllReadyH.nil)
    go_simp
    (try go_wp2_with fail)
    refine hK.out _ _ (hS_) (fun hS_ => ?_)
    clear hK K
    (try simp only [Act.put, List.setIfInBounds_toArray, List.set_cons_zero, List.set_cons_succ])
    refine wpAnyH_ready (rs := [32]) (by kernel_rfl) (by simp) (AllReadyH.cons rfl (fun K hK => ?_) AllReadyH.nil)
    go_simp
    (try go_wp2_with fail)
    refine hK.out _ _ (hS_) (fun hS_ => ?_)
    clear hK K
    (try simp only [Act.put, List.setIfInBounds_toArray, List.set_cons_zero, List.set_cons_succ])
    refine wpAnyH_take (i := 33) rfl (by kernel_rfl) (by kernel_rfl) (by kernel_rfl) (fun _ _ _ h => h) (yields_load_blk (by rfl) 25 (.tmp 3) rfl _ rfl (fun w hw => Keeps.at5 hw) Try.underlying25 rfl (by kernel_rfl)) hS_ ?_
    (try simp only [Act.put, List.setIfInBounds_toArray, List.set_cons_zero, List.set_cons_succ])
    refine wpAnyH_take (i := 34) rfl (by kernel_rfl) (by kernel_rfl) (by kernel_rfl) (fun _ _ _ h => h) (yields_load_blk (by rfl) 25 (.tmp 3) rfl _ rfl (fun w hw => Keeps.at5 hw) Try.underlying25 rfl (by kernel_rfl)) hS_ ?_
    (try simp only [Act.put, List.setIfInBounds_toArray, List.set_cons_zero, List.set_cons_succ])
    refine wpAnyH_take (i := 36) (v := .agg #[.int .i64 0, .int .u64 0]) rfl (by kernel_rfl) (by kernel_rfl) (by kernel_rfl) (fun _ _ _ h => h) (Or.inl ⟨by rfl, by intro w hSw; go_simp⟩) hS_ ?_
    (try simp only [Act.put, List.setIfInBounds_toArray, List.set_cons_zero, List.set_cons_succ])
    refine wpAnyH_ready (rs := [35]) (by kernel_rfl) (by simp) (AllReadyH.cons rfl (fun K hK => ?_) AllReadyH.nil)
    go_simp
    refine (k10 _).mono ?_
    rintro e v7_35 ⟨rfl, bn⟩
    (try go_wp2_with fail)
    refine hK.out _ _ (Keeps.next hS_ bn) (fun hS_ => ?_)
    clear hK K bn
    (try simp only [Act.put, List.setIfInBounds_toArray, List.set_cons_zero, List.set_cons_succ])
    refine wpAnyH_ready (rs := [37]) (by kernel_rfl) (by simp) (AllReadyH.cons rfl (fun K hK => ?_) AllReadyH.nil)
    go_simp
    (try go_wp2_with fail)
    refine hK.out _ _ (hS_) (fun hS_ => ?_)
    clear hK K
    (try simp only [Act.put, List.setIfInBounds_toArray, List.set_cons_zero, List.set_cons_succ])
    refine wpAnyH_ready (rs := [38]) (by kernel_rfl) (by simp) (AllReadyH.cons rfl (fun K hK => ?_) AllReadyH.nil)
    go_simp
    (try go_wp2_with fail)
    refine hK.out _ _ (hS_) (fun hS_ => ?_)
    clear hK K
    (try simp only [Act.put, List.setIfInBounds_toArray, List.set_cons_zero, List.set_cons_succ])
    refine wpAnyH_ready (rs := [39]) (by kernel_rfl) (by simp) (AllReadyH.cons rfl (fun K hK => ?_) AllReadyH.nil)
    go_simp
    (try go_wp2_with fail)
    refine hK.out _ _ (hS_) (fun hS_ => ?_)
    clear hK K
    (try simp only [Act.put, List.setIfInBounds_toArray, List.set_cons_zero, List.set_cons_succ])
    refine wpAnyH_take (i := 40) rfl (by kernel_rfl) (by kernel_rfl) (by kernel_rfl) (fun _ _ _ h => h) (yields_load_blk (by rfl) 25 (.tmp 3) rfl _ rfl (fun w hw => Keeps.at5 hw) Try.underlying25 rfl (by kernel_rfl)) hS_ ?_
    (try simp only [Act.put, List.setIfInBounds_toArray, List.set_cons_zero, List.set_cons_succ])
    refine wpAnyH_take (i := 43) rfl (by kernel_rfl) (by kernel_rfl) (by kernel_rfl) (fun _ _ _ h => h) (yields_load_blk (by rfl) 25 (.tmp 3) rfl _ rfl (fun w hw => Keeps.at5 hw) Try.underlying25 rfl (by kernel_rfl)) hS_ ?_
    (try simp only [Act.put, List.setIfInBounds_toArray, List.set_cons_zero, List.set_cons_succ])
    refine wpAnyH_ready (rs := [41]) (by kernel_rfl) (by simp) (AllReadyH.cons rfl (fun K hK => ?_) AllReadyH.nil)
    go_simp
    refine (k11 _).mono ?_
    rintro e v7_41 ⟨rfl, bn⟩
    (try go_wp2_with fail)
    refine hK.out _ _ (Keeps.next hS_ bn) (fun hS_ => ?_)
    clear hK K bn
    (try simp only [Act.put, List.setIfInBounds_toArray, List.set_cons_zero, List.set_cons_succ])
    refine wpAnyH_ready (rs := [42]) (by kernel_rfl) (by simp) (AllReadyH.cons rfl (fun K hK => ?_) AllReadyH.nil)
    go_simp
    refine (k12 _).mono ?_
    rintro e v7_42 ⟨rfl, bn⟩
    (try go_wp2_with fail)
    refine hK.out _ _ (Keeps.next hS_ bn) (fun hS_ => ?_)
    clear hK K bn
    (try simp only [Act.put, List.setIfInBounds_toArray, List.set_cons_zero, List.set_cons_succ])
    refine wpAnyH_ready (rs := [44]) (by kernel_rfl) (by simp) (AllReadyH.cons rfl (fun K hK => ?_) AllReadyH.nil)
    go_simp
    (try go_wp2_with fail)
    refine hK.out _ _ (hS_) (fun hS_ => ?_)
    clear hK K
    (try simp only [Act.put, List.setIfInBounds_toArray, List.set_cons_zero, List.set_cons_succ])
    refine wpAnyH_ready (rs := [45]) (by kernel_rfl) (by simp) (AllReadyH.cons rfl (fun K hK => ?_) AllReadyH.nil)
    go_simp
    (try go_wp2_with fail)
    refine hK.out _ _ (hS_) (fun hS_ => ?_)
    clear hK K
    (try simp only [Act.put, List.setIfInBounds_toArray, List.set_cons_zero, List.set_cons_succ])
    refine wpAnyH_ready (rs := [46]) (by kernel_rfl) (by simp) (AllReadyH.cons rfl (fun K hK => ?_) AllReadyH.nil)
    go_simp
    (try go_wp2_with fail)
    refine hK.out _ _ (hS_) (fun hS_ => ?_)
    clear hK K
    (try simp only [Act.put, List.setIfInBounds_toArray, List.set_cons_zero, List.set_cons_succ])
    refine wpAnyH_take (i := 47) rfl (by kernel_rfl) (by kernel_rfl) (by kernel_rfl) (fun _ _ _ h => h) (yields_load_blk (by rfl) 25 (.tmp 3) rfl _ rfl (fun w hw => Keeps.at5 hw) Try.underlying25 rfl (by kernel_rfl)) hS_ ?_
    (try simp only [Act.put, List.setIfInBounds_toArray, List.set_cons_zero, List.set_cons_succ])
    refine wpAnyH_take (i := 48) rfl (by kernel_rfl) (by kernel_rfl) (by kernel_rfl) (fun _ _ _ h => h) (yields_load_blk (by rfl) 25 (.tmp 4) rfl _ rfl (fun w hw => Keeps.at4 hw) Try.underlying25 rfl (by kernel_rfl)) hS_ ?_
    (try simp only [Act.put, List.setIfInBounds_toArray, List.set_cons_zero, List.set_cons_succ])
    refine wpAnyH_take (i := 50) rfl (by kernel_rfl) (by kernel_rfl) (by kernel_rfl) (fun _ _ _ h => h) (yields_load_blk (by rfl) 25 (.tmp 4) rfl _ rfl (fun w hw => Keeps.at4 hw) Try.underlying25 rfl (by kernel_rfl)) hS_ ?_
    (try simp only [Act.put, List.setIfInBounds_toArray, List.set_cons_zero, List.set_cons_succ])
    refine wpAnyH_take (i := 51) rfl (by kernel_rfl) (by kernel_rfl) (by kernel_rfl) (fun _ _ _ h => h) (yields_load_blk (by rfl) 25 (.tmp 3) rfl _ rfl (fun w hw => Keeps.at5 hw) Try.underlying25 rfl (by kernel_rfl)) hS_ ?_
    (try simp only [Act.put, List.setIfInBounds_toArray, List.set_cons_zero, List.set_cons_succ])
    refine wpAnyH_ready (rs := [49]) (by kernel_rfl) (by simp) (AllReadyH.cons rfl (fun K hK => ?_) AllReadyH.nil)
    go_simp
    refine (k13 _).mono ?_
    rintro e v7_49 ⟨rfl, bn⟩
    (try go_wp2_with fail)
    refine hK.out _ _ (Keeps.next hS_ bn) (fun hS_ => ?_)
    clear hK K bn
    (try simp only [Act.put, List.setIfInBounds_toArray, List.set_cons_zero, List.set_cons_succ])
    refine wpAnyH_ready (rs := [52]) (by kernel_rfl) (by simp) (AllReadyH.cons rfl (fun K hK => ?_) AllReadyH.nil)
    go_simp
    refine (k14 _).mono ?_
    rintro e v7_52 ⟨rfl, bn⟩
    (try go_wp2_with fail)
    refine hK.out _ _ (Keeps.next hS_ bn) (fun hS_ => ?_)
    clear hK K bn
    (try simp only [Act.put, List.setIfInBounds_toArray, List.set_cons_zero, List.set_cons_succ])
    refine wpAnyH_ready (rs := [53]) (by kernel_rfl) (by simp) (AllReadyH.cons rfl (fun K hK => ?_) AllReadyH.nil)
    go_simp
    refine (k15 _).mono ?_
    rintro e v7_53 ⟨rfl, bn⟩
    (try go_wp2_with fail)
    refine hK.out _ _ (Keeps.next hS_ bn) (fun hS_ => ?_)
    clear hK K bn
    (try simp only [Act.put, List.setIfInBounds_toArray, List.set_cons_zero, List.set_cons_succ])
    refine wpAnyH_ready (rs := [54]) (by kernel_rfl) (by simp) (AllReadyH.cons rfl (fun K hK => ?_) AllReadyH.nil)
    go_simp
    (try go_wp2_with fail)
    refine hK.out _ _ (hS_) (fun hS_ => ?_)
    clear hK K
    (try simp only [Act.put, List.setIfInBounds_toArray, List.set_cons_zero, List.set_cons_succ])
    refine wpAnyH_ready (rs := [55]) (by kernel_rfl) (by simp) (AllReadyH.cons rfl (fun K hK => ?_) AllReadyH.nil)
    go_simp
    (try go_wp2_with fail)
    refine hK.out _ _ (hS_) (fun hS_ => ?_)
    clear hK K
    (try simp only [Act.put, List.setIfInBounds_toArray, List.set_cons_zero, List.set_cons_succ])
    refine wpAnyH_ready (rs := [56]) (by kernel_rfl) (by simp) (AllReadyH.cons rfl (fun K hK => ?_) AllReadyH.nil)
    go_simp
    (try go_wp2_with fail)
    refine hK.out _ _ (hS_) (fun hS_ => ?_)
    clear hK K
    (try simp only [Act.put, List.setIfInBounds_toArray, List.set_cons_zero, List.set_cons_succ])
    refine wpAnyH_done (by kernel_rfl) ?_ _
    go_wp2
    go_ret
    exact ⟨by simp, hS_.bel⟩
end Go.Proofs.Ytglhfknlemaidaa
