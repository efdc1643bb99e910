/-
  WideSums: the walk.
-/
import Derived.Test.YtglhfknlemaidaaWdKeeps
namespace Go.Proofs.Ytglhfknlemaidaa
open Go.RowKit
set_option linter.unusedVariables false
set_option linter.unusedSimpArgs false
attribute [local go_sem high] eqInt

set_option maxHeartbeats 6400000 in
set_option maxRecDepth 100000 in
theorem wideSums_walk {x y : Int} (hx : i128ok x) (hy : i128ok y) (w : World) :
    Calls Try.prog 4 #[.agg #[.int .i64 (I128.enc (x)).1, .int .u64 (I128.enc (x)).2], .agg #[.int .i64 (I128.enc (y)).1, .int .u64 (I128.enc (y)).2]] w fun e w' => e = .returned (.bool true) ∧ Below w.heap.size w w' := by
  have k1 := cAdd x y
  have k2 := cRefAdd x y
  have k3 := cSub x y
  have k4 := cRefSub x y
  have k5 := cNeg x
  have k6 := cRefNeg x
  have k7 := cCmp hx hy
  have k8 := cRefCmp hx hy
  have k9 := cCmp hx hx
  rw [cmpI_eq rfl] at k9
  clear hx hy
  go_enter Try.func4, Try.ntmps4
  go_wp2_with fail
  have K0 : Keeps w [(w.heap.size + 1, #[.int .i64 (I128.enc (y)).1, .int .u64 (I128.enc (y)).2]), (w.heap.size, #[.int .i64 (I128.enc (x)).1, .int .u64 (I128.enc (x)).2])] ((w.alloc (.cells #[.int .i64 (I128.enc (x)).1, .int .u64 (I128.enc (x)).2] 25)).alloc (.cells #[.int .i64 (I128.enc (y)).1, .int .u64 (I128.enc (y)).2] 25)) := ((Keeps.nil w).box rfl #[.int .i64 (I128.enc (x)).1, .int .u64 (I128.enc (x)).2]).box (by simp) #[.int .i64 (I128.enc (y)).1, .int .u64 (I128.enc (y)).2]
  refine (inclinelaw01_shown_any _).mono ?_
  rintro e w1 ⟨rfl, b1⟩
  have K1 := K0.next b1
  clear b1 K0
  go_wp2_with fail
  refine wp_region_held_drew (S := (Keeps w [(w.heap.size + 1, #[.int .i64 (I128.enc (y)).1, .int .u64 (I128.enc (y)).2]), (w.heap.size, #[.int .i64 (I128.enc (x)).1, .int .u64 (I128.enc (x)).2])])) (by kernel_rfl) (K1.drew) (fun hS_ => ?_)
  refine wpAnyH_take (i := 0) rfl (by kernel_rfl) (by kernel_rfl) (by kernel_rfl) (fun _ _ _ h => h) (yields_load_blk (by rfl) 25 (.tmp 2) rfl _ rfl (fun w hw => Keeps.at1 hw) Try.underlying25 rfl (by kernel_rfl)) hS_ ?_
  (try simp only [Act.put, List.setIfInBounds_toArray, List.set_cons_zero, List.set_cons_succ])
  refine wpAnyH_take (i := 1) rfl (by kernel_rfl) (by kernel_rfl) (by kernel_rfl) (fun _ _ _ h => h) (yields_load_blk (by rfl) 25 (.tmp 3) rfl _ rfl (fun w hw => Keeps.at0 hw) Try.underlying25 rfl (by kernel_rfl)) hS_ ?_
  (try simp only [Act.put, List.setIfInBounds_toArray, List.set_cons_zero, List.set_cons_succ])
  refine wpAnyH_take (i := 3) rfl (by kernel_rfl) (by kernel_rfl) (by kernel_rfl) (fun _ _ _ h => h) (yields_load_blk (by rfl) 25 (.tmp 2) rfl _ rfl (fun w hw => Keeps.at1 hw) Try.underlying25 rfl (by kernel_rfl)) hS_ ?_
  (try simp only [Act.put, List.setIfInBounds_toArray, List.set_cons_zero, List.set_cons_succ])
  refine wpAnyH_take (i := 4) rfl (by kernel_rfl) (by kernel_rfl) (by kernel_rfl) (fun _ _ _ h => h) (yields_load_blk (by rfl) 25 (.tmp 3) rfl _ rfl (fun w hw => Keeps.at0 hw) Try.underlying25 rfl (by kernel_rfl)) hS_ ?_
  (try simp only [Act.put, List.setIfInBounds_toArray, List.set_cons_zero, List.set_cons_succ])
  refine wpAnyH_ready (rs := [2]) (by kernel_rfl) (by simp) (AllReadyH.cons rfl (fun K hK => ?_) AllReadyH.nil)
  go_simp
  refine (k1 _).mono ?_
  rintro e v4_2 ⟨rfl, bn⟩
  (try go_wp2_with fail)
  refine hK.out _ _ (Keeps.next hS_ bn) (fun hS_ => ?_)
  clear hK K bn
  (try simp only [Act.put, List.setIfInBounds_toArray, List.set_cons_zero, List.set_cons_succ])
  refine wpAnyH_ready (rs := [5]) (by kernel_rfl) (by simp) (AllReadyH.cons rfl (fun K hK => ?_) AllReadyH.nil)
  go_simp
  refine (k2 _).mono ?_
  rintro e v4_5 ⟨rfl, bn⟩
  (try go_wp2_with fail)
  refine hK.out _ _ (Keeps.next hS_ bn) (fun hS_ => ?_)
  clear hK K bn
  (try simp only [Act.put, List.setIfInBounds_toArray, List.set_cons_zero, List.set_cons_succ])
  refine wpAnyH_ready (rs := [6]) (by kernel_rfl) (by simp) (AllReadyH.cons rfl (fun K hK => ?_) AllReadyH.nil)
  go_simp
  (try go_wp2_with fail)
  refine hK.out _ _ (hS_) (fun hS_ => ?_)
  clear hK K
  (try simp only [Act.put, List.setIfInBounds_toArray, List.set_cons_zero, List.set_cons_succ])
  refine wpAnyH_ready (rs := [7]) (by kernel_rfl) (by simp) (AllReadyH.cons rfl (fun K hK => ?_) AllReadyH.nil)
  go_simp
  (try go_wp2_with fail)
  refine hK.out _ _ (hS_) (fun hS_ => ?_)
  clear hK K
  (try simp only [Act.put, List.setIfInBounds_toArray, List.set_cons_zero, List.set_cons_succ])
  refine wpAnyH_take (i := 8) rfl (by kernel_rfl) (by kernel_rfl) (by kernel_rfl) (fun _ _ _ h => h) (yields_load_blk (by rfl) 25 (.tmp 2) rfl _ rfl (fun w hw => Keeps.at1 hw) Try.underlying25 rfl (by kernel_rfl)) hS_ ?_
  (try simp only [Act.put, List.setIfInBounds_toArray, List.set_cons_zero, List.set_cons_succ])
  refine wpAnyH_take (i := 9) rfl (by kernel_rfl) (by kernel_rfl) (by kernel_rfl) (fun _ _ _ h => h) (yields_load_blk (by rfl) 25 (.tmp 3) rfl _ rfl (fun w hw => Keeps.at0 hw) Try.underlying25 rfl (by kernel_rfl)) hS_ ?_
  (try simp only [Act.put, List.setIfInBounds_toArray, List.set_cons_zero, List.set_cons_succ])
  refine wpAnyH_take (i := 11) rfl (by kernel_rfl) (by kernel_rfl) (by kernel_rfl) (fun _ _ _ h => h) (yields_load_blk (by rfl) 25 (.tmp 2) rfl _ rfl (fun w hw => Keeps.at1 hw) Try.underlying25 rfl (by kernel_rfl)) hS_ ?_
  (try simp only [Act.put, List.setIfInBounds_toArray, List.set_cons_zero, List.set_cons_succ])
  refine wpAnyH_take (i := 12) rfl (by kernel_rfl) (by kernel_rfl) (by kernel_rfl) (fun _ _ _ h => h) (yields_load_blk (by rfl) 25 (.tmp 3) rfl _ rfl (fun w hw => Keeps.at0 hw) Try.underlying25 rfl (by kernel_rfl)) hS_ ?_
  (try simp only [Act.put, List.setIfInBounds_toArray, List.set_cons_zero, List.set_cons_succ])
  refine wpAnyH_ready (rs := [10]) (by kernel_rfl) (by simp) (AllReadyH.cons rfl (fun K hK => ?_) AllReadyH.nil)
  go_simp
  refine (k3 _).mono ?_
  rintro e v4_10 ⟨rfl, bn⟩
  (try go_wp2_with fail)
  refine hK.out _ _ (Keeps.next hS_ bn) (fun hS_ => ?_)
  clear hK K bn
  (try simp only [Act.put, List.setIfInBounds_toArray, List.set_cons_zero, List.set_cons_succ])
  refine wpAnyH_ready (rs := [13]) (by kernel_rfl) (by simp) (AllReadyH.cons rfl (fun K hK => ?_) AllReadyH.nil)
  go_simp
  refine (k4 _).mono ?_
  rintro e v4_13 ⟨rfl, bn⟩
  (try go_wp2_with fail)
  refine hK.out _ _ (Keeps.next hS_ bn) (fun hS_ => ?_)
  clear hK K bn
  (try simp only [Act.put, List.setIfInBounds_toArray, List.set_cons_zero, List.set_cons_succ])
  refine wpAnyH_ready (rs := [14]) (by kernel_rfl) (by simp) (AllReadyH.cons rfl (fun K hK => ?_) AllReadyH.nil)
  go_simp
  (try go_wp2_with fail)
  refine hK.out _ _ (hS_) (fun hS_ => ?_)
  clear hK K
  (try simp only [Act.put, List.setIfInBounds_toArray, List.set_cons_zero, List.set_cons_succ])
  refine wpAnyH_ready (rs := [15]) (by kernel_rfl) (by simp) (AllReadyH.cons rfl (fun K hK => ?_) AllReadyH.nil)
  go_simp
  (try go_wp2_with fail)
  refine hK.out _ _ (hS_) (fun hS_ => ?_)
  clear hK K
  (try simp only [Act.put, List.setIfInBounds_toArray, List.set_cons_zero, List.set_cons_succ])
  refine wpAnyH_ready (rs := [16]) (by kernel_rfl) (by simp) (AllReadyH.cons rfl (fun K hK => ?_) AllReadyH.nil)
  go_simp
  (try go_wp2_with fail)
  refine hK.out _ _ (hS_) (fun hS_ => ?_)
  clear hK K
  (try simp only [Act.put, List.setIfInBounds_toArray, List.set_cons_zero, List.set_cons_succ])
  refine wpAnyH_take (i := 17) rfl (by kernel_rfl) (by kernel_rfl) (by kernel_rfl) (fun _ _ _ h => h) (yields_load_blk (by rfl) 25 (.tmp 2) rfl _ rfl (fun w hw => Keeps.at1 hw) Try.underlying25 rfl (by kernel_rfl)) hS_ ?_
  (try simp only [Act.put, List.setIfInBounds_toArray, List.set_cons_zero, List.set_cons_succ])
  refine wpAnyH_take (i := 19) rfl (by kernel_rfl) (by kernel_rfl) (by kernel_rfl) (fun _ _ _ h => h) (yields_load_blk (by rfl) 25 (.tmp 2) rfl _ rfl (fun w hw => Keeps.at1 hw) Try.underlying25 rfl (by kernel_rfl)) hS_ ?_
  (try simp only [Act.put, List.setIfInBounds_toArray, List.set_cons_zero, List.set_cons_succ])
  refine wpAnyH_ready (rs := [18]) (by kernel_rfl) (by simp) (AllReadyH.cons rfl (fun K hK => ?_) AllReadyH.nil)
  go_simp
  refine (k5 _).mono ?_
  rintro e v4_18 ⟨rfl, bn⟩
  (try go_wp2_with fail)
  refine hK.out _ _ (Keeps.next hS_ bn) (fun hS_ => ?_)
  clear hK K bn
  (try simp only [Act.put, List.setIfInBounds_toArray, List.set_cons_zero, List.set_cons_succ])
  refine wpAnyH_ready (rs := [20]) (by kernel_rfl) (by simp) (AllReadyH.cons rfl (fun K hK => ?_) AllReadyH.nil)
  go_simp
  refine (k6 _).mono ?_
  rintro e v4_20 ⟨rfl, bn⟩
  (try go_wp2_with fail)
  refine hK.out _ _ (Keeps.next hS_ bn) (fun hS_ => ?_)
  clear hK K bn
  (try simp only [Act.put, List.setIfInBounds_toArray, List.set_cons_zero, List.set_cons_succ])
  refine wpAnyH_ready (rs := [21]) (by kernel_rfl) (by simp) (AllReadyH.cons rfl (fun K hK => ?_) AllReadyH.nil)
  go_simp
  (try go_wp2_with fail)
  refine hK.out _ _ (hS_) (fun hS_ => ?_)
  clear hK K
  (try simp only [Act.put, List.setIfInBounds_toArray, List.set_cons_zero, List.set_cons_succ])
  refine wpAnyH_ready (rs := [22]) (by kernel_rfl) (by simp) (AllReadyH.cons rfl (fun K hK => ?_) AllReadyH.nil)
  go_simp
  (try go_wp2_with fail)
  refine hK.out _ _ (hS_) (fun hS_ => ?_)
  clear hK K
  (try simp only [Act.put, List.setIfInBounds_toArray, List.set_cons_zero, List.set_cons_succ])
  refine wpAnyH_ready (rs := [23]) (by kernel_rfl) (by simp) (AllReadyH.cons rfl (fun K hK => ?_) AllReadyH.nil)
  go_simp
  (try go_wp2_with fail)
  refine hK.out _ _ (hS_) (fun hS_ => ?_)
  clear hK K
  (try simp only [Act.put, List.setIfInBounds_toArray, List.set_cons_zero, List.set_cons_succ])
  refine wpAnyH_take (i := 24) rfl (by kernel_rfl) (by kernel_rfl) (by kernel_rfl) (fun _ _ _ h => h) (yields_load_blk (by rfl) 25 (.tmp 2) rfl _ rfl (fun w hw => Keeps.at1 hw) Try.underlying25 rfl (by kernel_rfl)) hS_ ?_
  (try simp only [Act.put, List.setIfInBounds_toArray, List.set_cons_zero, List.set_cons_succ])
  refine wpAnyH_take (i := 25) rfl (by kernel_rfl) (by kernel_rfl) (by kernel_rfl) (fun _ _ _ h => h) (yields_load_blk (by rfl) 25 (.tmp 3) rfl _ rfl (fun w hw => Keeps.at0 hw) Try.underlying25 rfl (by kernel_rfl)) hS_ ?_
  (try simp only [Act.put, List.setIfInBounds_toArray, List.set_cons_zero, List.set_cons_succ])
  refine wpAnyH_take (i := 27) rfl (by kernel_rfl) (by kernel_rfl) (by kernel_rfl) (fun _ _ _ h => h) (yields_load_blk (by rfl) 25 (.tmp 2) rfl _ rfl (fun w hw => Keeps.at1 hw) Try.underlying25 rfl (by kernel_rfl)) hS_ ?_
  (try simp only [Act.put, List.setIfInBounds_toArray, List.set_cons_zero, List.set_cons_succ])
  refine wpAnyH_take (i := 28) rfl (by kernel_rfl) (by kernel_rfl) (by kernel_rfl) (fun _ _ _ h => h) (yields_load_blk (by rfl) 25 (.tmp 3) rfl _ rfl (fun w hw => Keeps.at0 hw) Try.underlying25 rfl (by kernel_rfl)) hS_ ?_
  (try simp only [Act.put, List.setIfInBounds_toArray, List.set_cons_zero, List.set_cons_succ])
  refine wpAnyH_ready (rs := [26]) (by kernel_rfl) (by simp) (AllReadyH.cons rfl (fun K hK => ?_) AllReadyH.nil)
  go_simp
  refine (k7 _).mono ?_
  rintro e v4_26 ⟨rfl, bn⟩
  (try go_wp2_with fail)
  refine hK.out _ _ (Keeps.next hS_ bn) (fun hS_ => ?_)
  clear hK K bn
  (try simp only [Act.put, List.setIfInBounds_toArray, List.set_cons_zero, List.set_cons_succ])
  refine wpAnyH_ready (rs := [29]) (by kernel_rfl) (by simp) (AllReadyH.cons rfl (fun K hK => ?_) AllReadyH.nil)
  go_simp
  refine (k8 _).mono ?_
  rintro e v4_29 ⟨rfl, bn⟩
  (try go_wp2_with fail)
  refine hK.out _ _ (Keeps.next hS_ bn) (fun hS_ => ?_)
  clear hK K bn
  (try simp only [Act.put, List.setIfInBounds_toArray, List.set_cons_zero, List.set_cons_succ])
  refine wpAnyH_ready (rs := [30]) (by kernel_rfl) (by simp) (AllReadyH.cons rfl (fun K hK => ?_) AllReadyH.nil)
  go_simp
  (try go_wp2_with fail)
  refine hK.out _ _ (hS_) (fun hS_ => ?_)
  clear hK K
  (try simp only [Act.put, List.setIfInBounds_toArray, List.set_cons_zero, List.set_cons_succ])
  refine wpAnyH_ready (rs := [31]) (by kernel_rfl) (by simp) (AllReadyH.cons rfl (fun K hK => ?_) AllReadyH.nil)
  go_simp
  (try go_wp2_with fail)
  refine hK.out _ _ (hS_) (fun hS_ => ?_)
  clear hK K
  (try simp only [Act.put, List.setIfInBounds_toArray, List.set_cons_zero, List.set_cons_succ])
  refine wpAnyH_ready (rs := [32]) (by kernel_rfl) (by simp) (AllReadyH.cons rfl (fun K hK => ?_) AllReadyH.nil)
  go_simp
  (try go_wp2_with fail)
  refine hK.out _ _ (hS_) (fun hS_ => ?_)
  clear hK K
  (try simp only [Act.put, List.setIfInBounds_toArray, List.set_cons_zero, List.set_cons_succ])
  refine wpAnyH_take (i := 33) rfl (by kernel_rfl) (by kernel_rfl) (by kernel_rfl) (fun _ _ _ h => h) (yields_load_blk (by rfl) 25 (.tmp 2) rfl _ rfl (fun w hw => Keeps.at1 hw) Try.underlying25 rfl (by kernel_rfl)) hS_ ?_
  (try simp only [Act.put, List.setIfInBounds_toArray, List.set_cons_zero, List.set_cons_succ])
  refine wpAnyH_take (i := 34) rfl (by kernel_rfl) (by kernel_rfl) (by kernel_rfl) (fun _ _ _ h => h) (yields_load_blk (by rfl) 25 (.tmp 2) rfl _ rfl (fun w hw => Keeps.at1 hw) Try.underlying25 rfl (by kernel_rfl)) hS_ ?_
  (try simp only [Act.put, List.setIfInBounds_toArray, List.set_cons_zero, List.set_cons_succ])
  refine wpAnyH_ready (rs := [35]) (by kernel_rfl) (by simp) (AllReadyH.cons rfl (fun K hK => ?_) AllReadyH.nil)
  go_simp
  refine (k9 _).mono ?_
  rintro e v4_35 ⟨rfl, bn⟩
  (try go_wp2_with fail)
  refine hK.out _ _ (Keeps.next hS_ bn) (fun hS_ => ?_)
  clear hK K bn
  (try simp only [Act.put, List.setIfInBounds_toArray, List.set_cons_zero, List.set_cons_succ])
  refine wpAnyH_ready (rs := [36]) (by kernel_rfl) (by simp) (AllReadyH.cons rfl (fun K hK => ?_) AllReadyH.nil)
  go_simp
  (try go_wp2_with fail)
  refine hK.out _ _ (hS_) (fun hS_ => ?_)
  clear hK K
  (try simp only [Act.put, List.setIfInBounds_toArray, List.set_cons_zero, List.set_cons_succ])
  refine wpAnyH_ready (rs := [37]) (by kernel_rfl) (by simp) (AllReadyH.cons rfl (fun K hK => ?_) AllReadyH.nil)
  go_simp
  (try go_wp2_with fail)
  refine hK.out _ _ (hS_) (fun hS_ => ?_)
  clear hK K
  (try simp only [Act.put, List.setIfInBounds_toArray, List.set_cons_zero, List.set_cons_succ])
  refine wpAnyH_ready (rs := [38]) (by kernel_rfl) (by simp) (AllReadyH.cons rfl (fun K hK => ?_) AllReadyH.nil)
  go_simp
  (try go_wp2_with fail)
  refine hK.out _ _ (hS_) (fun hS_ => ?_)
  clear hK K
  (try simp only [Act.put, List.setIfInBounds_toArray, List.set_cons_zero, List.set_cons_succ])
  refine wpAnyH_done (by kernel_rfl) ?_ _
  go_wp2
  go_ret
  exact ⟨by simp, hS_.bel⟩
end Go.Proofs.Ytglhfknlemaidaa
