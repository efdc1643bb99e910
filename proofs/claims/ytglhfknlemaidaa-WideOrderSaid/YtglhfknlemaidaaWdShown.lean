/-
  The examples at the head of the statements of layer 1 hold.
-/
import Derived.Test.YtglhfknlemaidaaWdDiv
namespace Go.Proofs.Ytglhfknlemaidaa
open Go.RowKit
set_option linter.unusedVariables false
set_option linter.unusedSimpArgs false

/-- The variables that the conclusion reads, and what else the memory holds. -/
structure ShS (w : World) (g1 g2 g3 g4 : Nat) (w' : World) : Prop where
  b1 : Blk w' g1 25 #[.int .i64 (-1), .int .u64 18446744073709551612]
  b2 : Blk w' g2 25 #[.int .i64 0, .int .u64 0]
  b3 : Blk w' g3 25 #[.int .i64 (-1), .int .u64 9223372036854775807]
  b4 : Blk w' g4 25 #[.int .i64 (-9223372036854775808), .int .u64 0]
  bel : Below w.heap.size w w'
theorem ShS.next {w w' w1 : World} {g1 g2 g3 g4 : Nat} (h : ShS w g1 g2 g3 g4 w') (b : Below w'.heap.size w' w1) : ShS w g1 g2 g3 g4 w1 := ⟨h.b1.below b, h.b2.below b, h.b3.below b, h.b4.below b, below_next h.bel b⟩
theorem ShS.drew {w w' : World} {g1 g2 g3 g4 : Nat} (h : ShS w g1 g2 g3 g4 w') : ShS w g1 g2 g3 g4 w'.drew := ⟨h.b1.drewN 1, h.b2.drewN 1, h.b3.drewN 1, h.b4.drewN 1, drewN_below h.bel 1⟩

attribute [local go_sem high] eqInt
set_option maxRecDepth 100000 in
set_option maxHeartbeats 6400000 in
theorem inclinelaw01_shown_any (w : World) :
    Calls Try.prog 10 #[] w fun e w' => e = .returned (.bool true) ∧ Below w.heap.size w w' := by
  have s_of7 := fun w => wide_Of.calls (-7) (-1) 18446744073709551609 w (by decide +kernel)
  have s_of4 := fun w => wide_Of.calls (-4) (-1) 18446744073709551612 w (by decide +kernel)
  have s_of1 := fun w => wide_Of.calls (-1) (-1) 18446744073709551615 w (by decide +kernel)
  have s_div1 := fun w => wide_Div.calls (-1) 18446744073709551609 2 (-1) 18446744073709551612 1 0 w (by decide +kernel)
  have s_div2 := fun w => wide_Div.calls 0 7 0 0 0 0 10 w (by decide +kernel)
  have s_div3 := fun w => wide_Div.calls (-9223372036854775808) 0 18446744073709551615 (-1) 9223372036854775807 9223372036854775807 0 w (by decide +kernel)
  have s_add := fun w => wide_Add.calls 9223372036854775807 18446744073709551615 0 1 (-9223372036854775808) 0 w (by decide +kernel)
  have s_times := fun w => wide_Times.calls (-3) 9223372036854775808 (-2) 9223372036854775808 w (by decide +kernel)
  have s_neg := fun w => wide_Neg.calls (-9223372036854775808) 0 (-9223372036854775808) 0 w (by decide +kernel)
  have s_sub := fun w => wide_Sub.calls 0 0 0 1 (-1) 18446744073709551615 w (by decide +kernel)
  have s_cmp1 := fun w => wide_Cmp.calls 0 9223372036854775808 0 1 1 w (by decide +kernel)
  have s_cmp2 := fun w => wide_Cmp.calls (-1) 18446744073709551615 0 0 (-1) w (by decide +kernel)
  go_enter Try.func10, Try.ntmps10
  go_wp2_with fail
  refine (s_of7 _).mono ?_
  rintro e w1 ⟨rfl, b1⟩
  have B1 := b1
  go_wp2_with fail
  refine (s_div1 _).mono ?_
  rintro e w2 ⟨rfl, b2⟩
  have B2 := below_next B1 b2
  go_wp2_with fail
  refine (s_div2 _).mono ?_
  rintro e w3 ⟨rfl, b3⟩
  have B3 := below_next (below_new B2 (.cells #[.int .i64 (-1), .int .u64 18446744073709551612] 25)) b3
  have V0 := (Blk.new w2 25 #[.int .i64 (-1), .int .u64 18446744073709551612]).below b3
  go_wp2_with fail
  refine (s_div3 _).mono ?_
  rintro e w4 ⟨rfl, b4⟩
  have B4 := below_next (below_new B3 (.cells #[.int .i64 0, .int .u64 0] 25)) b4
  have V0 := (V0.alloc (.cells #[.int .i64 0, .int .u64 0] 25)).below b4
  have V1 := (Blk.new w3 25 #[.int .i64 0, .int .u64 0]).below b4
  go_wp2_with fail
  refine (s_add _).mono ?_
  rintro e w5 ⟨rfl, b5⟩
  have B5 := below_next (below_new B4 (.cells #[.int .i64 (-1), .int .u64 9223372036854775807] 25)) b5
  have V0 := (V0.alloc (.cells #[.int .i64 (-1), .int .u64 9223372036854775807] 25)).below b5
  have V1 := (V1.alloc (.cells #[.int .i64 (-1), .int .u64 9223372036854775807] 25)).below b5
  have V2 := (Blk.new w4 25 #[.int .i64 (-1), .int .u64 9223372036854775807]).below b5
  go_wp2_with fail
  have B6 := below_new B5 (.cells #[.int .i64 (-9223372036854775808), .int .u64 0] 25)
  have V0 := (V0.alloc (.cells #[.int .i64 (-9223372036854775808), .int .u64 0] 25))
  have V1 := (V1.alloc (.cells #[.int .i64 (-9223372036854775808), .int .u64 0] 25))
  have V2 := (V2.alloc (.cells #[.int .i64 (-9223372036854775808), .int .u64 0] 25))
  have V3 := Blk.new w5 25 #[.int .i64 (-9223372036854775808), .int .u64 0]
  generalize w5.alloc (.cells #[.int .i64 (-9223372036854775808), .int .u64 0] 25) = w6 at *
  have hS6 : ShS w w2.heap.size w3.heap.size w4.heap.size w5.heap.size w6 := ⟨V0, V1, V2, V3, B6⟩
  clear b1 V0 V1 V2 V3 b2 b3 b4 b5 B1 B2 B3 B4 B5
  simp only [List.append]
  refine wp_region_held_drew (S := (ShS w w2.heap.size w3.heap.size w4.heap.size w5.heap.size)) (by kernel_rfl) (hS6.drew) (fun hS_ => ?_)
  refine wpAnyH_take (i := 0) rfl (by kernel_rfl) (by kernel_rfl) (by kernel_rfl) (fun _ _ _ h => h) (yields_load_blk (by rfl) 25 (.tmp 1) rfl _ rfl (fun w hw => hw.b1) Try.underlying25 rfl (by kernel_rfl)) hS_ ?_
  (try simp only [Act.put, List.setIfInBounds_toArray, List.set_cons_zero, List.set_cons_succ])
  refine wpAnyH_ready (rs := [1]) (by kernel_rfl) (by simp) (AllReadyH.cons rfl (fun K hK => ?_) AllReadyH.nil)
  go_simp
  refine (s_of4 _).mono ?_
  rintro e v7 ⟨rfl, bn⟩
  (try go_wp2_with fail)
  refine hK.out _ _ (ShS.next hS_ bn) (fun hS_ => ?_)
  clear hK K
  (try simp only [Act.put, List.setIfInBounds_toArray, List.set_cons_zero, List.set_cons_succ])
  refine wpAnyH_ready (rs := [2]) (by kernel_rfl) (by simp) (AllReadyH.cons rfl (fun K hK => ?_) AllReadyH.nil)
  go_simp
  (try go_wp2_with fail)
  refine hK.out _ _ (hS_) (fun hS_ => ?_)
  clear hK K
  (try simp only [Act.put, List.setIfInBounds_toArray, List.set_cons_zero, List.set_cons_succ])
  refine wpAnyH_ready (rs := [3]) (by kernel_rfl) (by simp) (AllReadyH.cons rfl (fun K hK => ?_) AllReadyH.nil)
  go_simp
  (try go_wp2_with fail)
  refine hK.out _ _ (hS_) (fun hS_ => ?_)
  clear hK K
  (try simp only [Act.put, List.setIfInBounds_toArray, List.set_cons_zero, List.set_cons_succ])
  refine wpAnyH_ready (rs := [4]) (by kernel_rfl) (by simp) (AllReadyH.cons rfl (fun K hK => ?_) AllReadyH.nil)
  go_simp
  (try go_wp2_with fail)
  refine hK.out _ _ (hS_) (fun hS_ => ?_)
  clear hK K
  (try simp only [Act.put, List.setIfInBounds_toArray, List.set_cons_zero, List.set_cons_succ])
  refine wpAnyH_ready (rs := [5]) (by kernel_rfl) (by simp) (AllReadyH.cons rfl (fun K hK => ?_) AllReadyH.nil)
  go_simp
  (try go_wp2_with fail)
  refine hK.out _ _ (hS_) (fun hS_ => ?_)
  clear hK K
  (try simp only [Act.put, List.setIfInBounds_toArray, List.set_cons_zero, List.set_cons_succ])
  refine wpAnyH_ready (rs := [6]) (by kernel_rfl) (by simp) (AllReadyH.cons rfl (fun K hK => ?_) AllReadyH.nil)
  go_simp
  (try go_wp2_with fail)
  refine hK.out _ _ (hS_) (fun hS_ => ?_)
  clear hK K
  (try simp only [Act.put, List.setIfInBounds_toArray, List.set_cons_zero, List.set_cons_succ])
  refine wpAnyH_ready (rs := [7]) (by kernel_rfl) (by simp) (AllReadyH.cons rfl (fun K hK => ?_) AllReadyH.nil)
  go_simp
  (try go_wp2_with fail)
  refine hK.out _ _ (hS_) (fun hS_ => ?_)
  clear hK K
  (try simp only [Act.put, List.setIfInBounds_toArray, List.set_cons_zero, List.set_cons_succ])
  refine wpAnyH_ready (rs := [8]) (by kernel_rfl) (by simp) (AllReadyH.cons rfl (fun K hK => ?_) AllReadyH.nil)
  go_simp
  (try go_wp2_with fail)
  refine hK.out _ _ (hS_) (fun hS_ => ?_)
  clear hK K
  (try simp only [Act.put, List.setIfInBounds_toArray, List.set_cons_zero, List.set_cons_succ])
  refine wpAnyH_ready (rs := [9]) (by kernel_rfl) (by simp) (AllReadyH.cons rfl (fun K hK => ?_) AllReadyH.nil)
  go_simp
  (try go_wp2_with fail)
  refine hK.out _ _ (hS_) (fun hS_ => ?_)
  clear hK K
  (try simp only [Act.put, List.setIfInBounds_toArray, List.set_cons_zero, List.set_cons_succ])
  refine wpAnyH_ready (rs := [10]) (by kernel_rfl) (by simp) (AllReadyH.cons rfl (fun K hK => ?_) AllReadyH.nil)
  go_simp
  (try go_wp2_with fail)
  refine hK.out _ _ (hS_) (fun hS_ => ?_)
  clear hK K
  (try simp only [Act.put, List.setIfInBounds_toArray, List.set_cons_zero, List.set_cons_succ])
  refine wpAnyH_ready (rs := [11]) (by kernel_rfl) (by simp) (AllReadyH.cons rfl (fun K hK => ?_) AllReadyH.nil)
  go_simp
  (try go_wp2_with fail)
  refine hK.out _ _ (hS_) (fun hS_ => ?_)
  clear hK K
  (try simp only [Act.put, List.setIfInBounds_toArray, List.set_cons_zero, List.set_cons_succ])
  refine wpAnyH_take (i := 12) rfl (by kernel_rfl) (by kernel_rfl) (by kernel_rfl) (fun _ _ _ h => h) (yields_load_blk (by rfl) 25 (.tmp 4) rfl _ rfl (fun w hw => hw.b2) Try.underlying25 rfl (by kernel_rfl)) hS_ ?_
  (try simp only [Act.put, List.setIfInBounds_toArray, List.set_cons_zero, List.set_cons_succ])
  refine wpAnyH_ready (rs := [13]) (by kernel_rfl) (by simp) (AllReadyH.cons rfl (fun K hK => ?_) AllReadyH.nil)
  go_simp
  (try go_wp2_with fail)
  refine hK.out _ _ (hS_) (fun hS_ => ?_)
  clear hK K
  (try simp only [Act.put, List.setIfInBounds_toArray, List.set_cons_zero, List.set_cons_succ])
  refine wpAnyH_ready (rs := [14]) (by kernel_rfl) (by simp) (AllReadyH.cons rfl (fun K hK => ?_) AllReadyH.nil)
  go_simp
  (try go_wp2_with fail)
  refine hK.out _ _ (hS_) (fun hS_ => ?_)
  clear hK K
  (try simp only [Act.put, List.setIfInBounds_toArray, List.set_cons_zero, List.set_cons_succ])
  refine wpAnyH_ready (rs := [15]) (by kernel_rfl) (by simp) (AllReadyH.cons rfl (fun K hK => ?_) AllReadyH.nil)
  go_simp
  (try go_wp2_with fail)
  refine hK.out _ _ (hS_) (fun hS_ => ?_)
  clear hK K
  (try simp only [Act.put, List.setIfInBounds_toArray, List.set_cons_zero, List.set_cons_succ])
  refine wpAnyH_ready (rs := [16]) (by kernel_rfl) (by simp) (AllReadyH.cons rfl (fun K hK => ?_) AllReadyH.nil)
  go_simp
  (try go_wp2_with fail)
  refine hK.out _ _ (hS_) (fun hS_ => ?_)
  clear hK K
  (try simp only [Act.put, List.setIfInBounds_toArray, List.set_cons_zero, List.set_cons_succ])
  refine wpAnyH_ready (rs := [17]) (by kernel_rfl) (by simp) (AllReadyH.cons rfl (fun K hK => ?_) AllReadyH.nil)
  go_simp
  (try go_wp2_with fail)
  refine hK.out _ _ (hS_) (fun hS_ => ?_)
  clear hK K
  (try simp only [Act.put, List.setIfInBounds_toArray, List.set_cons_zero, List.set_cons_succ])
  refine wpAnyH_ready (rs := [18]) (by kernel_rfl) (by simp) (AllReadyH.cons rfl (fun K hK => ?_) AllReadyH.nil)
  go_simp
  (try go_wp2_with fail)
  refine hK.out _ _ (hS_) (fun hS_ => ?_)
  clear hK K
  (try simp only [Act.put, List.setIfInBounds_toArray, List.set_cons_zero, List.set_cons_succ])
  refine wpAnyH_ready (rs := [19]) (by kernel_rfl) (by simp) (AllReadyH.cons rfl (fun K hK => ?_) AllReadyH.nil)
  go_simp
  (try go_wp2_with fail)
  refine hK.out _ _ (hS_) (fun hS_ => ?_)
  clear hK K
  (try simp only [Act.put, List.setIfInBounds_toArray, List.set_cons_zero, List.set_cons_succ])
  refine wpAnyH_ready (rs := [20]) (by kernel_rfl) (by simp) (AllReadyH.cons rfl (fun K hK => ?_) AllReadyH.nil)
  go_simp
  (try go_wp2_with fail)
  refine hK.out _ _ (hS_) (fun hS_ => ?_)
  clear hK K
  (try simp only [Act.put, List.setIfInBounds_toArray, List.set_cons_zero, List.set_cons_succ])
  refine wpAnyH_ready (rs := [21]) (by kernel_rfl) (by simp) (AllReadyH.cons rfl (fun K hK => ?_) AllReadyH.nil)
  go_simp
  (try go_wp2_with fail)
  refine hK.out _ _ (hS_) (fun hS_ => ?_)
  clear hK K
  (try simp only [Act.put, List.setIfInBounds_toArray, List.set_cons_zero, List.set_cons_succ])
  refine wpAnyH_ready (rs := [22]) (by kernel_rfl) (by simp) (AllReadyH.cons rfl (fun K hK => ?_) AllReadyH.nil)
  go_simp
  (try go_wp2_with fail)
  refine hK.out _ _ (hS_) (fun hS_ => ?_)
  clear hK K
  (try simp only [Act.put, List.setIfInBounds_toArray, List.set_cons_zero, List.set_cons_succ])
  refine wpAnyH_ready (rs := [23]) (by kernel_rfl) (by simp) (AllReadyH.cons rfl (fun K hK => ?_) AllReadyH.nil)
  go_simp
  (try go_wp2_with fail)
  refine hK.out _ _ (hS_) (fun hS_ => ?_)
  clear hK K
  (try simp only [Act.put, List.setIfInBounds_toArray, List.set_cons_zero, List.set_cons_succ])
  refine wpAnyH_ready (rs := [24]) (by kernel_rfl) (by simp) (AllReadyH.cons rfl (fun K hK => ?_) AllReadyH.nil)
  go_simp
  (try go_wp2_with fail)
  refine hK.out _ _ (hS_) (fun hS_ => ?_)
  clear hK K
  (try simp only [Act.put, List.setIfInBounds_toArray, List.set_cons_zero, List.set_cons_succ])
  refine wpAnyH_take (i := 25) rfl (by kernel_rfl) (by kernel_rfl) (by kernel_rfl) (fun _ _ _ h => h) (yields_load_blk (by rfl) 25 (.tmp 7) rfl _ rfl (fun w hw => hw.b3) Try.underlying25 rfl (by kernel_rfl)) hS_ ?_
  (try simp only [Act.put, List.setIfInBounds_toArray, List.set_cons_zero, List.set_cons_succ])
  refine wpAnyH_ready (rs := [26]) (by kernel_rfl) (by simp) (AllReadyH.cons rfl (fun K hK => ?_) AllReadyH.nil)
  go_simp
  (try go_wp2_with fail)
  refine hK.out _ _ (hS_) (fun hS_ => ?_)
  clear hK K
  (try simp only [Act.put, List.setIfInBounds_toArray, List.set_cons_zero, List.set_cons_succ])
  refine wpAnyH_ready (rs := [27]) (by kernel_rfl) (by simp) (AllReadyH.cons rfl (fun K hK => ?_) AllReadyH.nil)
  go_simp
  (try go_wp2_with fail)
  refine hK.out _ _ (hS_) (fun hS_ => ?_)
  clear hK K
  (try simp only [Act.put, List.setIfInBounds_toArray, List.set_cons_zero, List.set_cons_succ])
  refine wpAnyH_ready (rs := [28]) (by kernel_rfl) (by simp) (AllReadyH.cons rfl (fun K hK => ?_) AllReadyH.nil)
  go_simp
  (try go_wp2_with fail)
  refine hK.out _ _ (hS_) (fun hS_ => ?_)
  clear hK K
  (try simp only [Act.put, List.setIfInBounds_toArray, List.set_cons_zero, List.set_cons_succ])
  refine wpAnyH_ready (rs := [29]) (by kernel_rfl) (by simp) (AllReadyH.cons rfl (fun K hK => ?_) AllReadyH.nil)
  go_simp
  (try go_wp2_with fail)
  refine hK.out _ _ (hS_) (fun hS_ => ?_)
  clear hK K
  (try simp only [Act.put, List.setIfInBounds_toArray, List.set_cons_zero, List.set_cons_succ])
  refine wpAnyH_ready (rs := [30]) (by kernel_rfl) (by simp) (AllReadyH.cons rfl (fun K hK => ?_) AllReadyH.nil)
  go_simp
  (try go_wp2_with fail)
  refine hK.out _ _ (hS_) (fun hS_ => ?_)
  clear hK K
  (try simp only [Act.put, List.setIfInBounds_toArray, List.set_cons_zero, List.set_cons_succ])
  refine wpAnyH_ready (rs := [31]) (by kernel_rfl) (by simp) (AllReadyH.cons rfl (fun K hK => ?_) AllReadyH.nil)
  go_simp
  (try go_wp2_with fail)
  refine hK.out _ _ (hS_) (fun hS_ => ?_)
  clear hK K
  (try simp only [Act.put, List.setIfInBounds_toArray, List.set_cons_zero, List.set_cons_succ])
  refine wpAnyH_ready (rs := [32]) (by kernel_rfl) (by simp) (AllReadyH.cons rfl (fun K hK => ?_) AllReadyH.nil)
  go_simp
  (try go_wp2_with fail)
  refine hK.out _ _ (hS_) (fun hS_ => ?_)
  clear hK K
  (try simp only [Act.put, List.setIfInBounds_toArray, List.set_cons_zero, List.set_cons_succ])
  refine wpAnyH_ready (rs := [33]) (by kernel_rfl) (by simp) (AllReadyH.cons rfl (fun K hK => ?_) AllReadyH.nil)
  go_simp
  (try go_wp2_with fail)
  refine hK.out _ _ (hS_) (fun hS_ => ?_)
  clear hK K
  (try simp only [Act.put, List.setIfInBounds_toArray, List.set_cons_zero, List.set_cons_succ])
  refine wpAnyH_ready (rs := [34]) (by kernel_rfl) (by simp) (AllReadyH.cons rfl (fun K hK => ?_) AllReadyH.nil)
  go_simp
  (try go_wp2_with fail)
  refine hK.out _ _ (hS_) (fun hS_ => ?_)
  clear hK K
  (try simp only [Act.put, List.setIfInBounds_toArray, List.set_cons_zero, List.set_cons_succ])
  refine wpAnyH_ready (rs := [35]) (by kernel_rfl) (by simp) (AllReadyH.cons rfl (fun K hK => ?_) AllReadyH.nil)
  go_simp
  (try go_wp2_with fail)
  refine hK.out _ _ (hS_) (fun hS_ => ?_)
  clear hK K
  (try simp only [Act.put, List.setIfInBounds_toArray, List.set_cons_zero, List.set_cons_succ])
  refine wpAnyH_ready (rs := [36]) (by kernel_rfl) (by simp) (AllReadyH.cons rfl (fun K hK => ?_) AllReadyH.nil)
  go_simp
  (try go_wp2_with fail)
  refine hK.out _ _ (hS_) (fun hS_ => ?_)
  clear hK K
  (try simp only [Act.put, List.setIfInBounds_toArray, List.set_cons_zero, List.set_cons_succ])
  refine wpAnyH_ready (rs := [37]) (by kernel_rfl) (by simp) (AllReadyH.cons rfl (fun K hK => ?_) AllReadyH.nil)
  go_simp
  (try go_wp2_with fail)
  refine hK.out _ _ (hS_) (fun hS_ => ?_)
  clear hK K
  (try simp only [Act.put, List.setIfInBounds_toArray, List.set_cons_zero, List.set_cons_succ])
  refine wpAnyH_take (i := 39) (v := .agg #[.int .i64 (-2), .int .u64 9223372036854775808]) rfl (by kernel_rfl) (by kernel_rfl) (by kernel_rfl) (fun _ _ _ h => h) (Or.inl ⟨by rfl, by intro w hSw; go_simp⟩) hS_ ?_
  (try simp only [Act.put, List.setIfInBounds_toArray, List.set_cons_zero, List.set_cons_succ])
  refine wpAnyH_ready (rs := [38]) (by kernel_rfl) (by simp) (AllReadyH.cons rfl (fun K hK => ?_) AllReadyH.nil)
  go_simp
  refine (s_times _).mono ?_
  rintro e v8 ⟨rfl, bn⟩
  (try go_wp2_with fail)
  refine hK.out _ _ (ShS.next hS_ bn) (fun hS_ => ?_)
  clear hK K
  (try simp only [Act.put, List.setIfInBounds_toArray, List.set_cons_zero, List.set_cons_succ])
  refine wpAnyH_ready (rs := [40]) (by kernel_rfl) (by simp) (AllReadyH.cons rfl (fun K hK => ?_) AllReadyH.nil)
  go_simp
  (try go_wp2_with fail)
  refine hK.out _ _ (hS_) (fun hS_ => ?_)
  clear hK K
  (try simp only [Act.put, List.setIfInBounds_toArray, List.set_cons_zero, List.set_cons_succ])
  refine wpAnyH_ready (rs := [41]) (by kernel_rfl) (by simp) (AllReadyH.cons rfl (fun K hK => ?_) AllReadyH.nil)
  go_simp
  (try go_wp2_with fail)
  refine hK.out _ _ (hS_) (fun hS_ => ?_)
  clear hK K
  (try simp only [Act.put, List.setIfInBounds_toArray, List.set_cons_zero, List.set_cons_succ])
  refine wpAnyH_ready (rs := [42]) (by kernel_rfl) (by simp) (AllReadyH.cons rfl (fun K hK => ?_) AllReadyH.nil)
  go_simp
  (try go_wp2_with fail)
  refine hK.out _ _ (hS_) (fun hS_ => ?_)
  clear hK K
  (try simp only [Act.put, List.setIfInBounds_toArray, List.set_cons_zero, List.set_cons_succ])
  refine wpAnyH_take (i := 43) rfl (by kernel_rfl) (by kernel_rfl) (by kernel_rfl) (fun _ _ _ h => h) (yields_load_blk (by rfl) 25 (.tmp 10) rfl _ rfl (fun w hw => hw.b4) Try.underlying25 rfl (by kernel_rfl)) hS_ ?_
  (try simp only [Act.put, List.setIfInBounds_toArray, List.set_cons_zero, List.set_cons_succ])
  refine wpAnyH_ready (rs := [44]) (by kernel_rfl) (by simp) (AllReadyH.cons rfl (fun K hK => ?_) AllReadyH.nil)
  go_simp
  (try go_wp2_with fail)
  refine hK.out _ _ (hS_) (fun hS_ => ?_)
  clear hK K
  (try simp only [Act.put, List.setIfInBounds_toArray, List.set_cons_zero, List.set_cons_succ])
  refine wpAnyH_ready (rs := [45]) (by kernel_rfl) (by simp) (AllReadyH.cons rfl (fun K hK => ?_) AllReadyH.nil)
  go_simp
  (try go_wp2_with fail)
  refine hK.out _ _ (hS_) (fun hS_ => ?_)
  clear hK K
  (try simp only [Act.put, List.setIfInBounds_toArray, List.set_cons_zero, List.set_cons_succ])
  refine wpAnyH_ready (rs := [46]) (by kernel_rfl) (by simp) (AllReadyH.cons rfl (fun K hK => ?_) AllReadyH.nil)
  go_simp
  (try go_wp2_with fail)
  refine hK.out _ _ (hS_) (fun hS_ => ?_)
  clear hK K
  (try simp only [Act.put, List.setIfInBounds_toArray, List.set_cons_zero, List.set_cons_succ])
  refine wpAnyH_ready (rs := [47]) (by kernel_rfl) (by simp) (AllReadyH.cons rfl (fun K hK => ?_) AllReadyH.nil)
  go_simp
  (try go_wp2_with fail)
  refine hK.out _ _ (hS_) (fun hS_ => ?_)
  clear hK K
  (try simp only [Act.put, List.setIfInBounds_toArray, List.set_cons_zero, List.set_cons_succ])
  refine wpAnyH_take (i := 48) (v := .agg #[.int .i64 (-9223372036854775808), .int .u64 0]) rfl (by kernel_rfl) (by kernel_rfl) (by kernel_rfl) (fun _ _ _ h => h) (Or.inl ⟨by rfl, by intro w hSw; go_simp⟩) hS_ ?_
  (try simp only [Act.put, List.setIfInBounds_toArray, List.set_cons_zero, List.set_cons_succ])
  refine wpAnyH_take (i := 50) (v := .agg #[.int .i64 (-9223372036854775808), .int .u64 0]) rfl (by kernel_rfl) (by kernel_rfl) (by kernel_rfl) (fun _ _ _ h => h) (Or.inl ⟨by rfl, by intro w hSw; go_simp⟩) hS_ ?_
  (try simp only [Act.put, List.setIfInBounds_toArray, List.set_cons_zero, List.set_cons_succ])
  refine wpAnyH_ready (rs := [49]) (by kernel_rfl) (by simp) (AllReadyH.cons rfl (fun K hK => ?_) AllReadyH.nil)
  go_simp
  refine (s_neg _).mono ?_
  rintro e v9 ⟨rfl, bn⟩
  (try go_wp2_with fail)
  refine hK.out _ _ (ShS.next hS_ bn) (fun hS_ => ?_)
  clear hK K
  (try simp only [Act.put, List.setIfInBounds_toArray, List.set_cons_zero, List.set_cons_succ])
  refine wpAnyH_ready (rs := [51]) (by kernel_rfl) (by simp) (AllReadyH.cons rfl (fun K hK => ?_) AllReadyH.nil)
  go_simp
  (try go_wp2_with fail)
  refine hK.out _ _ (hS_) (fun hS_ => ?_)
  clear hK K
  (try simp only [Act.put, List.setIfInBounds_toArray, List.set_cons_zero, List.set_cons_succ])
  refine wpAnyH_ready (rs := [52]) (by kernel_rfl) (by simp) (AllReadyH.cons rfl (fun K hK => ?_) AllReadyH.nil)
  go_simp
  (try go_wp2_with fail)
  refine hK.out _ _ (hS_) (fun hS_ => ?_)
  clear hK K
  (try simp only [Act.put, List.setIfInBounds_toArray, List.set_cons_zero, List.set_cons_succ])
  refine wpAnyH_ready (rs := [53]) (by kernel_rfl) (by simp) (AllReadyH.cons rfl (fun K hK => ?_) AllReadyH.nil)
  go_simp
  (try go_wp2_with fail)
  refine hK.out _ _ (hS_) (fun hS_ => ?_)
  clear hK K
  (try simp only [Act.put, List.setIfInBounds_toArray, List.set_cons_zero, List.set_cons_succ])
  refine wpAnyH_take (i := 54) (v := .agg #[.int .i64 0, .int .u64 0]) rfl (by kernel_rfl) (by kernel_rfl) (by kernel_rfl) (fun _ _ _ h => h) (Or.inl ⟨by rfl, by intro w hSw; go_simp⟩) hS_ ?_
  (try simp only [Act.put, List.setIfInBounds_toArray, List.set_cons_zero, List.set_cons_succ])
  refine wpAnyH_ready (rs := [55]) (by kernel_rfl) (by simp) (AllReadyH.cons rfl (fun K hK => ?_) AllReadyH.nil)
  go_simp
  (try go_wp2_with fail)
  refine hK.out _ _ (hS_) (fun hS_ => ?_)
  clear hK K
  (try simp only [Act.put, List.setIfInBounds_toArray, List.set_cons_zero, List.set_cons_succ])
  refine wpAnyH_ready (rs := [56]) (by kernel_rfl) (by simp) (AllReadyH.cons rfl (fun K hK => ?_) AllReadyH.nil)
  go_simp
  refine (s_sub _).mono ?_
  rintro e v10 ⟨rfl, bn⟩
  (try go_wp2_with fail)
  refine hK.out _ _ (ShS.next hS_ bn) (fun hS_ => ?_)
  clear hK K
  (try simp only [Act.put, List.setIfInBounds_toArray, List.set_cons_zero, List.set_cons_succ])
  refine wpAnyH_ready (rs := [57]) (by kernel_rfl) (by simp) (AllReadyH.cons rfl (fun K hK => ?_) AllReadyH.nil)
  go_simp
  refine (s_of1 _).mono ?_
  rintro e v11 ⟨rfl, bn⟩
  (try go_wp2_with fail)
  refine hK.out _ _ (ShS.next hS_ bn) (fun hS_ => ?_)
  clear hK K
  (try simp only [Act.put, List.setIfInBounds_toArray, List.set_cons_zero, List.set_cons_succ])
  refine wpAnyH_ready (rs := [58]) (by kernel_rfl) (by simp) (AllReadyH.cons rfl (fun K hK => ?_) AllReadyH.nil)
  go_simp
  (try go_wp2_with fail)
  refine hK.out _ _ (hS_) (fun hS_ => ?_)
  clear hK K
  (try simp only [Act.put, List.setIfInBounds_toArray, List.set_cons_zero, List.set_cons_succ])
  refine wpAnyH_ready (rs := [59]) (by kernel_rfl) (by simp) (AllReadyH.cons rfl (fun K hK => ?_) AllReadyH.nil)
  go_simp
  (try go_wp2_with fail)
  refine hK.out _ _ (hS_) (fun hS_ => ?_)
  clear hK K
  (try simp only [Act.put, List.setIfInBounds_toArray, List.set_cons_zero, List.set_cons_succ])
  refine wpAnyH_ready (rs := [60]) (by kernel_rfl) (by simp) (AllReadyH.cons rfl (fun K hK => ?_) AllReadyH.nil)
  go_simp
  (try go_wp2_with fail)
  refine hK.out _ _ (hS_) (fun hS_ => ?_)
  clear hK K
  (try simp only [Act.put, List.setIfInBounds_toArray, List.set_cons_zero, List.set_cons_succ])
  refine wpAnyH_take (i := 61) (v := .agg #[.int .i64 0, .int .u64 9223372036854775808]) rfl (by kernel_rfl) (by kernel_rfl) (by kernel_rfl) (fun _ _ _ h => h) (Or.inl ⟨by rfl, by intro w hSw; go_simp⟩) hS_ ?_
  (try simp only [Act.put, List.setIfInBounds_toArray, List.set_cons_zero, List.set_cons_succ])
  refine wpAnyH_ready (rs := [62]) (by kernel_rfl) (by simp) (AllReadyH.cons rfl (fun K hK => ?_) AllReadyH.nil)
  go_simp
  (try go_wp2_with fail)
  refine hK.out _ _ (hS_) (fun hS_ => ?_)
  clear hK K
  (try simp only [Act.put, List.setIfInBounds_toArray, List.set_cons_zero, List.set_cons_succ])
  refine wpAnyH_ready (rs := [63]) (by kernel_rfl) (by simp) (AllReadyH.cons rfl (fun K hK => ?_) AllReadyH.nil)
  go_simp
  refine (s_cmp1 _).mono ?_
  rintro e v12 ⟨rfl, bn⟩
  (try go_wp2_with fail)
  refine hK.out _ _ (ShS.next hS_ bn) (fun hS_ => ?_)
  clear hK K
  (try simp only [Act.put, List.setIfInBounds_toArray, List.set_cons_zero, List.set_cons_succ])
  refine wpAnyH_ready (rs := [64]) (by kernel_rfl) (by simp) (AllReadyH.cons rfl (fun K hK => ?_) AllReadyH.nil)
  go_simp
  (try go_wp2_with fail)
  refine hK.out _ _ (hS_) (fun hS_ => ?_)
  clear hK K
  (try simp only [Act.put, List.setIfInBounds_toArray, List.set_cons_zero, List.set_cons_succ])
  refine wpAnyH_ready (rs := [65]) (by kernel_rfl) (by simp) (AllReadyH.cons rfl (fun K hK => ?_) AllReadyH.nil)
  go_simp
  (try go_wp2_with fail)
  refine hK.out _ _ (hS_) (fun hS_ => ?_)
  clear hK K
  (try simp only [Act.put, List.setIfInBounds_toArray, List.set_cons_zero, List.set_cons_succ])
  refine wpAnyH_ready (rs := [66]) (by kernel_rfl) (by simp) (AllReadyH.cons rfl (fun K hK => ?_) AllReadyH.nil)
  go_simp
  (try go_wp2_with fail)
  refine hK.out _ _ (hS_) (fun hS_ => ?_)
  clear hK K
  (try simp only [Act.put, List.setIfInBounds_toArray, List.set_cons_zero, List.set_cons_succ])
  refine wpAnyH_take (i := 68) (v := .agg #[.int .i64 0, .int .u64 0]) rfl (by kernel_rfl) (by kernel_rfl) (by kernel_rfl) (fun _ _ _ h => h) (Or.inl ⟨by rfl, by intro w hSw; go_simp⟩) hS_ ?_
  (try simp only [Act.put, List.setIfInBounds_toArray, List.set_cons_zero, List.set_cons_succ])
  refine wpAnyH_ready (rs := [67]) (by kernel_rfl) (by simp) (AllReadyH.cons rfl (fun K hK => ?_) AllReadyH.nil)
  go_simp
  refine (s_of1 _).mono ?_
  rintro e v13 ⟨rfl, bn⟩
  (try go_wp2_with fail)
  refine hK.out _ _ (ShS.next hS_ bn) (fun hS_ => ?_)
  clear hK K
  (try simp only [Act.put, List.setIfInBounds_toArray, List.set_cons_zero, List.set_cons_succ])
  refine wpAnyH_ready (rs := [69]) (by kernel_rfl) (by simp) (AllReadyH.cons rfl (fun K hK => ?_) AllReadyH.nil)
  go_simp
  refine (s_cmp2 _).mono ?_
  rintro e v14 ⟨rfl, bn⟩
  (try go_wp2_with fail)
  refine hK.out _ _ (ShS.next hS_ bn) (fun hS_ => ?_)
  clear hK K
  (try simp only [Act.put, List.setIfInBounds_toArray, List.set_cons_zero, List.set_cons_succ])
  refine wpAnyH_ready (rs := [70]) (by kernel_rfl) (by simp) (AllReadyH.cons rfl (fun K hK => ?_) AllReadyH.nil)
  go_simp
  (try go_wp2_with fail)
  refine hK.out _ _ (hS_) (fun hS_ => ?_)
  clear hK K
  (try simp only [Act.put, List.setIfInBounds_toArray, List.set_cons_zero, List.set_cons_succ])
  refine wpAnyH_ready (rs := [71]) (by kernel_rfl) (by simp) (AllReadyH.cons rfl (fun K hK => ?_) AllReadyH.nil)
  go_simp
  (try go_wp2_with fail)
  refine hK.out _ _ (hS_) (fun hS_ => ?_)
  clear hK K
  (try simp only [Act.put, List.setIfInBounds_toArray, List.set_cons_zero, List.set_cons_succ])
  refine wpAnyH_ready (rs := [72]) (by kernel_rfl) (by simp) (AllReadyH.cons rfl (fun K hK => ?_) AllReadyH.nil)
  go_simp
  (try go_wp2_with fail)
  refine hK.out _ _ (hS_) (fun hS_ => ?_)
  clear hK K
  (try simp only [Act.put, List.setIfInBounds_toArray, List.set_cons_zero, List.set_cons_succ])
  refine wpAnyH_done (by kernel_rfl) ?_ _
  go_wp2
  go_ret
  exact ⟨rfl, hS_.bel⟩

def inclinelaw01_shown.f : Option Bool := some true
theorem inclinelaw01_shown.calls (r : Bool) (w : World) (h : inclinelaw01_shown.f = some r) :
    Calls Try.prog 10 #[] w fun e w' => e = .returned (.bool r) ∧ Below w.heap.size w w' := by
  cases h
  exact inclinelaw01_shown_any w
end Go.Proofs.Ytglhfknlemaidaa
