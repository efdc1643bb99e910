/-
  The reference's Add, Sub and Neg come to the sum, the difference and minus the number, modulo 2^128.
-/
import Derived.Test.YtglhfknlemaidaaWdNum
namespace Go.Proofs.Ytglhfknlemaidaa
open Go.RowKit
set_option linter.unusedVariables false
set_option linter.unusedSimpArgs false

def inclineref01_Add.f (a0_0 a0_1 a1_0 a1_1 : Int) : Option (Int × Int) := if i64ok a0_0 ∧ u64ok a0_1 ∧ i64ok a1_0 ∧ u64ok a1_1 then some (I128.enc (I128.val a0_0 a0_1 + I128.val a1_0 a1_1)) else none
set_option maxHeartbeats 1600000 in
theorem inclineref01_Add.calls (a0_0 a0_1 a1_0 a1_1 r1 r2 : Int) (w : World) (h : inclineref01_Add.f a0_0 a0_1 a1_0 a1_1 = some (r1, r2)) :
    Calls Try.prog 16 #[.agg #[.int .i64 a0_0, .int .u64 a0_1], .agg #[.int .i64 a1_0, .int .u64 a1_1]] w fun e w' => e = .returned (.agg #[.int .i64 r1, .int .u64 r2]) ∧ Below w.heap.size w w' := by
  unfold inclineref01_Add.f at h
  split at h
  case isFalse => exact absurd h (by simp)
  case isTrue hr =>
    obtain ⟨h1, h2, h3, h4⟩ := hr
    have h := Option.some.inj h
    obtain ⟨rfl, rfl⟩ : (I128.enc (I128.val a0_0 a0_1 + I128.val a1_0 a1_1)).1 = r1 ∧ (I128.enc (I128.val a0_0 a0_1 + I128.val a1_0 a1_1)).2 = r2 := by rw [h]; exact ⟨rfl, rfl⟩
    clear h
    have X := num_of_any a0_0 a0_1 h1 h2
    have Y := num_of_any a1_0 a1_1 h3 h4
    have P := num_plus_any (I128.val a0_0 a0_1) (I128.val a1_0 a1_1)
    have Z := num_told_any ((I128.val a0_0 a0_1) + (I128.val a1_0 a1_1))
    go_enter Try.func16, Try.ntmps16
    go_wp2_with fail
    have R1 : Blk (((w.alloc (.cells #[.int .i64 a0_0, .int .u64 a0_1] 25)).alloc (.cells #[.int .i64 a1_0, .int .u64 a1_1] 25)).alloc (.cells #[.int .i64 0, .int .u64 0] 25)) w.heap.size 25 #[.int .i64 a0_0, .int .u64 a0_1] := ((Blk.new w _ _).alloc _).alloc _
    have R2 : Blk (((w.alloc (.cells #[.int .i64 a0_0, .int .u64 a0_1] 25)).alloc (.cells #[.int .i64 a1_0, .int .u64 a1_1] 25)).alloc (.cells #[.int .i64 0, .int .u64 0] 25)) (w.heap.size + 1) 25 #[.int .i64 a1_0, .int .u64 a1_1] := (Blk.new' _ _ (by simp)).alloc _
    have R3 : Blk (((w.alloc (.cells #[.int .i64 a0_0, .int .u64 a0_1] 25)).alloc (.cells #[.int .i64 a1_0, .int .u64 a1_1] 25)).alloc (.cells #[.int .i64 0, .int .u64 0] 25)) (w.heap.size + 1 + 1) 25 #[.int .i64 0, .int .u64 0] := Blk.new' _ _ (by simp)
    have B3 := below_new (below_new (below_new (Below.refl w.heap.size w) (.cells #[.int .i64 a0_0, .int .u64 a0_1] 25)) (.cells #[.int .i64 a1_0, .int .u64 a1_1] 25)) (.cells #[.int .i64 0, .int .u64 0] 25)
    refine wp_region_held_drew (S := (fun w' => Blk w' w.heap.size 25 #[.int .i64 a0_0, .int .u64 a0_1] ∧ Blk w' (w.heap.size + 1) 25 #[.int .i64 a1_0, .int .u64 a1_1] ∧ (∃ x y, Blk w' (w.heap.size + 1 + 1) 25 #[x, y]) ∧ Below w.heap.size w w')) (by kernel_rfl) (⟨R1.drew, R2.drew, ⟨_, _, R3.drew⟩, B3.drew⟩) (fun hS_ => ?_)
    refine wpAnyH_take (i := 0) rfl (by kernel_rfl) (by kernel_rfl) (by kernel_rfl) (fun _ _ _ h => h) (yields_load_blk rfl 25 (.tmp 2) rfl w.heap.size rfl (fun w h => h.1) Try.underlying25 rfl (by kernel_rfl)) hS_ ?_
    (try simp only [Act.put, List.setIfInBounds_toArray, List.set_cons_zero, List.set_cons_succ])
    refine wpAnyH_take (i := 2) rfl (by kernel_rfl) (by kernel_rfl) (by kernel_rfl) (fun _ _ _ h => h) (yields_load_blk rfl 25 (.tmp 3) rfl (w.heap.size + 1) rfl (fun w h => h.2.1) Try.underlying25 rfl (by kernel_rfl)) hS_ ?_
    (try simp only [Act.put, List.setIfInBounds_toArray, List.set_cons_zero, List.set_cons_succ])
    refine wpAnyH_ready (rs := [1]) (by kernel_rfl) (by simp) (AllReadyH.cons rfl (fun K hK => ?_) AllReadyH.nil)
    go_simp
    (go_at_call 26; refine (X _).mono ?_; rintro e w4 ⟨rfl, b4⟩)
    (try go_wp2_with fail)
    refine hK.out _ _ (⟨Blk.below hS_.1 b4, Blk.below hS_.2.1 b4, ⟨_, _, Blk.below hS_.2.2.1.choose_spec.choose_spec b4⟩, below_then hS_.2.2.2 b4 hS_.2.2.2.size⟩) (fun hS_ => ?_)
    clear hK K
    (try simp only [Act.put, List.setIfInBounds_toArray, List.set_cons_zero, List.set_cons_succ])
    refine wpAnyH_ready (rs := [3]) (by kernel_rfl) (by simp) (AllReadyH.cons rfl (fun K hK => ?_) AllReadyH.nil)
    go_simp
    (go_at_call 26; refine (Y _).mono ?_; rintro e w5 ⟨rfl, b5⟩)
    (try go_wp2_with fail)
    refine hK.out _ _ (⟨Blk.below hS_.1 b5, Blk.below hS_.2.1 b5, ⟨_, _, Blk.below hS_.2.2.1.choose_spec.choose_spec b5⟩, below_then hS_.2.2.2 b5 hS_.2.2.2.size⟩) (fun hS_ => ?_)
    clear hK K
    (try simp only [Act.put, List.setIfInBounds_toArray, List.set_cons_zero, List.set_cons_succ])
    refine wpAnyH_ready (rs := [4]) (by kernel_rfl) (by simp) (AllReadyH.cons rfl (fun K hK => ?_) AllReadyH.nil)
    go_simp
    (go_at_call 31; refine (P _).mono ?_; rintro e w6 ⟨rfl, b6⟩)
    (try go_wp2_with fail)
    refine hK.out _ _ (⟨Blk.below hS_.1 b6, Blk.below hS_.2.1 b6, ⟨_, _, Blk.below hS_.2.2.1.choose_spec.choose_spec b6⟩, below_then hS_.2.2.2 b6 hS_.2.2.2.size⟩) (fun hS_ => ?_)
    clear hK K
    (try simp only [Act.put, List.setIfInBounds_toArray, List.set_cons_zero, List.set_cons_succ])
    refine wpAnyH_ready (rs := [5]) (by kernel_rfl) (by simp) (AllReadyH.cons rfl (fun K hK => ?_) AllReadyH.nil)
    go_simp
    (go_at_call 29; refine (Z _).mono ?_; rintro e w7 ⟨rfl, b7⟩)
    (try go_wp2_with fail)
    refine hK.out _ _ (⟨Blk.below hS_.1 b7, Blk.below hS_.2.1 b7, ⟨_, _, Blk.below hS_.2.2.1.choose_spec.choose_spec b7⟩, below_then hS_.2.2.2 b7 hS_.2.2.2.size⟩) (fun hS_ => ?_)
    clear hK K
    (try simp only [Act.put, List.setIfInBounds_toArray, List.set_cons_zero, List.set_cons_succ])
    obtain ⟨S1, S2, ⟨x9, y9, R9⟩, S3⟩ := hS_
    obtain ⟨r0, r1, r2, r3⟩ := Blk.cells2 R9
    have hS_ : True := trivial
    refine wpAnyH_ready (rs := [6]) (by kernel_rfl) (by simp) (AllReadyH.cons rfl (fun K hK => ?_) AllReadyH.nil)
    go_simp
    (try go_wp2_with fail)
    refine hK.out _ _ (⟨Blk.far2 S1 (by omega), Blk.far2 S2 (by omega), ⟨_, _, Blk.set2 R9⟩, below_set2 S3 (by omega)⟩) (fun hS_ => ?_)
    clear hK K
    (try simp only [Act.put, List.setIfInBounds_toArray, List.set_cons_zero, List.set_cons_succ])
    refine wpAnyH_done (by kernel_rfl) ?_ _
    go_wp2
    refine bodyPost_ret (results_cell_row rfl _ _ (w.heap.size + 1 + 1) 25 #[.int .i64 (I128.enc (I128.val a0_0 a0_1 + I128.val a1_0 a1_1)).1, .int .u64 (I128.enc (I128.val a0_0 a0_1 + I128.val a1_0 a1_1)).2] (0, 0) _ rfl (Blk.set2 R9) Try.underlying25 rfl (by kernel_rfl)) rfl ?_
    exact ⟨rfl, below_set2 S3 (by omega)⟩

def inclineref01_Sub.f (a0_0 a0_1 a1_0 a1_1 : Int) : Option (Int × Int) := if i64ok a0_0 ∧ u64ok a0_1 ∧ i64ok a1_0 ∧ u64ok a1_1 then some (I128.enc (I128.val a0_0 a0_1 - I128.val a1_0 a1_1)) else none
set_option maxHeartbeats 1600000 in
theorem inclineref01_Sub.calls (a0_0 a0_1 a1_0 a1_1 r1 r2 : Int) (w : World) (h : inclineref01_Sub.f a0_0 a0_1 a1_0 a1_1 = some (r1, r2)) :
    Calls Try.prog 18 #[.agg #[.int .i64 a0_0, .int .u64 a0_1], .agg #[.int .i64 a1_0, .int .u64 a1_1]] w fun e w' => e = .returned (.agg #[.int .i64 r1, .int .u64 r2]) ∧ Below w.heap.size w w' := by
  unfold inclineref01_Sub.f at h
  split at h
  case isFalse => exact absurd h (by simp)
  case isTrue hr =>
    obtain ⟨h1, h2, h3, h4⟩ := hr
    have h := Option.some.inj h
    obtain ⟨rfl, rfl⟩ : (I128.enc (I128.val a0_0 a0_1 - I128.val a1_0 a1_1)).1 = r1 ∧ (I128.enc (I128.val a0_0 a0_1 - I128.val a1_0 a1_1)).2 = r2 := by rw [h]; exact ⟨rfl, rfl⟩
    clear h
    have X := num_of_any a0_0 a0_1 h1 h2
    have Y := num_of_any a1_0 a1_1 h3 h4
    have L := num_less_any (I128.val a1_0 a1_1)
    have P := num_plus_any (I128.val a0_0 a0_1) (-(I128.val a1_0 a1_1))
    rw [show (I128.val a0_0 a0_1) + -(I128.val a1_0 a1_1) = (I128.val a0_0 a0_1) - (I128.val a1_0 a1_1) from by omega] at P
    have Z := num_told_any ((I128.val a0_0 a0_1) - (I128.val a1_0 a1_1))
    go_enter Try.func18, Try.ntmps18
    go_wp2_with fail
    have R1 : Blk (((w.alloc (.cells #[.int .i64 a0_0, .int .u64 a0_1] 25)).alloc (.cells #[.int .i64 a1_0, .int .u64 a1_1] 25)).alloc (.cells #[.int .i64 0, .int .u64 0] 25)) w.heap.size 25 #[.int .i64 a0_0, .int .u64 a0_1] := ((Blk.new w _ _).alloc _).alloc _
    have R2 : Blk (((w.alloc (.cells #[.int .i64 a0_0, .int .u64 a0_1] 25)).alloc (.cells #[.int .i64 a1_0, .int .u64 a1_1] 25)).alloc (.cells #[.int .i64 0, .int .u64 0] 25)) (w.heap.size + 1) 25 #[.int .i64 a1_0, .int .u64 a1_1] := (Blk.new' _ _ (by simp)).alloc _
    have R3 : Blk (((w.alloc (.cells #[.int .i64 a0_0, .int .u64 a0_1] 25)).alloc (.cells #[.int .i64 a1_0, .int .u64 a1_1] 25)).alloc (.cells #[.int .i64 0, .int .u64 0] 25)) (w.heap.size + 1 + 1) 25 #[.int .i64 0, .int .u64 0] := Blk.new' _ _ (by simp)
    have B3 := below_new (below_new (below_new (Below.refl w.heap.size w) (.cells #[.int .i64 a0_0, .int .u64 a0_1] 25)) (.cells #[.int .i64 a1_0, .int .u64 a1_1] 25)) (.cells #[.int .i64 0, .int .u64 0] 25)
    refine wp_region_held_drew (S := (fun w' => Blk w' w.heap.size 25 #[.int .i64 a0_0, .int .u64 a0_1] ∧ Blk w' (w.heap.size + 1) 25 #[.int .i64 a1_0, .int .u64 a1_1] ∧ (∃ x y, Blk w' (w.heap.size + 1 + 1) 25 #[x, y]) ∧ Below w.heap.size w w')) (by kernel_rfl) (⟨R1.drew, R2.drew, ⟨_, _, R3.drew⟩, B3.drew⟩) (fun hS_ => ?_)
    refine wpAnyH_take (i := 0) rfl (by kernel_rfl) (by kernel_rfl) (by kernel_rfl) (fun _ _ _ h => h) (yields_load_blk rfl 25 (.tmp 2) rfl w.heap.size rfl (fun w h => h.1) Try.underlying25 rfl (by kernel_rfl)) hS_ ?_
    (try simp only [Act.put, List.setIfInBounds_toArray, List.set_cons_zero, List.set_cons_succ])
    refine wpAnyH_take (i := 2) rfl (by kernel_rfl) (by kernel_rfl) (by kernel_rfl) (fun _ _ _ h => h) (yields_load_blk rfl 25 (.tmp 3) rfl (w.heap.size + 1) rfl (fun w h => h.2.1) Try.underlying25 rfl (by kernel_rfl)) hS_ ?_
    (try simp only [Act.put, List.setIfInBounds_toArray, List.set_cons_zero, List.set_cons_succ])
    refine wpAnyH_ready (rs := [1]) (by kernel_rfl) (by simp) (AllReadyH.cons rfl (fun K hK => ?_) AllReadyH.nil)
    go_simp
    (go_at_call 26; refine (X _).mono ?_; rintro e w4 ⟨rfl, b4⟩)
    (try go_wp2_with fail)
    refine hK.out _ _ (⟨Blk.below hS_.1 b4, Blk.below hS_.2.1 b4, ⟨_, _, Blk.below hS_.2.2.1.choose_spec.choose_spec b4⟩, below_then hS_.2.2.2 b4 hS_.2.2.2.size⟩) (fun hS_ => ?_)
    clear hK K
    (try simp only [Act.put, List.setIfInBounds_toArray, List.set_cons_zero, List.set_cons_succ])
    refine wpAnyH_ready (rs := [3]) (by kernel_rfl) (by simp) (AllReadyH.cons rfl (fun K hK => ?_) AllReadyH.nil)
    go_simp
    (go_at_call 26; refine (Y _).mono ?_; rintro e w5 ⟨rfl, b5⟩)
    (try go_wp2_with fail)
    refine hK.out _ _ (⟨Blk.below hS_.1 b5, Blk.below hS_.2.1 b5, ⟨_, _, Blk.below hS_.2.2.1.choose_spec.choose_spec b5⟩, below_then hS_.2.2.2 b5 hS_.2.2.2.size⟩) (fun hS_ => ?_)
    clear hK K
    (try simp only [Act.put, List.setIfInBounds_toArray, List.set_cons_zero, List.set_cons_succ])
    refine wpAnyH_ready (rs := [4]) (by kernel_rfl) (by simp) (AllReadyH.cons rfl (fun K hK => ?_) AllReadyH.nil)
    go_simp
    (go_at_call 27; refine (L _).mono ?_; rintro e w6 ⟨rfl, b6⟩)
    (try go_wp2_with fail)
    refine hK.out _ _ (⟨Blk.below hS_.1 b6, Blk.below hS_.2.1 b6, ⟨_, _, Blk.below hS_.2.2.1.choose_spec.choose_spec b6⟩, below_then hS_.2.2.2 b6 hS_.2.2.2.size⟩) (fun hS_ => ?_)
    clear hK K
    (try simp only [Act.put, List.setIfInBounds_toArray, List.set_cons_zero, List.set_cons_succ])
    refine wpAnyH_ready (rs := [5]) (by kernel_rfl) (by simp) (AllReadyH.cons rfl (fun K hK => ?_) AllReadyH.nil)
    go_simp
    (go_at_call 31; refine (P _).mono ?_; rintro e w7 ⟨rfl, b7⟩)
    (try go_wp2_with fail)
    refine hK.out _ _ (⟨Blk.below hS_.1 b7, Blk.below hS_.2.1 b7, ⟨_, _, Blk.below hS_.2.2.1.choose_spec.choose_spec b7⟩, below_then hS_.2.2.2 b7 hS_.2.2.2.size⟩) (fun hS_ => ?_)
    clear hK K
    (try simp only [Act.put, List.setIfInBounds_toArray, List.set_cons_zero, List.set_cons_succ])
    refine wpAnyH_ready (rs := [6]) (by kernel_rfl) (by simp) (AllReadyH.cons rfl (fun K hK => ?_) AllReadyH.nil)
    go_simp
    (go_at_call 29; refine (Z _).mono ?_; rintro e w8 ⟨rfl, b8⟩)
    (try go_wp2_with fail)
    refine hK.out _ _ (⟨Blk.below hS_.1 b8, Blk.below hS_.2.1 b8, ⟨_, _, Blk.below hS_.2.2.1.choose_spec.choose_spec b8⟩, below_then hS_.2.2.2 b8 hS_.2.2.2.size⟩) (fun hS_ => ?_)
    clear hK K
    (try simp only [Act.put, List.setIfInBounds_toArray, List.set_cons_zero, List.set_cons_succ])
    obtain ⟨S1, S2, ⟨x9, y9, R9⟩, S3⟩ := hS_
    obtain ⟨r0, r1, r2, r3⟩ := Blk.cells2 R9
    have hS_ : True := trivial
    refine wpAnyH_ready (rs := [7]) (by kernel_rfl) (by simp) (AllReadyH.cons rfl (fun K hK => ?_) AllReadyH.nil)
    go_simp
    (try go_wp2_with fail)
    refine hK.out _ _ (⟨Blk.far2 S1 (by omega), Blk.far2 S2 (by omega), ⟨_, _, Blk.set2 R9⟩, below_set2 S3 (by omega)⟩) (fun hS_ => ?_)
    clear hK K
    (try simp only [Act.put, List.setIfInBounds_toArray, List.set_cons_zero, List.set_cons_succ])
    refine wpAnyH_done (by kernel_rfl) ?_ _
    go_wp2
    refine bodyPost_ret (results_cell_row rfl _ _ (w.heap.size + 1 + 1) 25 #[.int .i64 (I128.enc (I128.val a0_0 a0_1 - I128.val a1_0 a1_1)).1, .int .u64 (I128.enc (I128.val a0_0 a0_1 - I128.val a1_0 a1_1)).2] (0, 0) _ rfl (Blk.set2 R9) Try.underlying25 rfl (by kernel_rfl)) rfl ?_
    exact ⟨rfl, below_set2 S3 (by omega)⟩

def inclineref01_Neg.f (a0_0 a0_1 : Int) : Option (Int × Int) := if i64ok a0_0 ∧ u64ok a0_1 then some (I128.enc (-I128.val a0_0 a0_1)) else none
set_option maxHeartbeats 1600000 in
theorem inclineref01_Neg.calls (a0_0 a0_1 r1 r2 : Int) (w : World) (h : inclineref01_Neg.f a0_0 a0_1 = some (r1, r2)) :
    Calls Try.prog 20 #[.agg #[.int .i64 a0_0, .int .u64 a0_1]] w fun e w' => e = .returned (.agg #[.int .i64 r1, .int .u64 r2]) ∧ Below w.heap.size w w' := by
  unfold inclineref01_Neg.f at h
  split at h
  case isFalse => exact absurd h (by simp)
  case isTrue hr =>
    obtain ⟨h1, h2⟩ := hr
    have h := Option.some.inj h
    obtain ⟨rfl, rfl⟩ : (I128.enc (-I128.val a0_0 a0_1)).1 = r1 ∧ (I128.enc (-I128.val a0_0 a0_1)).2 = r2 := by rw [h]; exact ⟨rfl, rfl⟩
    clear h
    have X := num_of_any a0_0 a0_1 h1 h2
    have L := num_less_any (I128.val a0_0 a0_1)
    have Z := num_told_any (-I128.val a0_0 a0_1)
    have R3 : Blk ((w.alloc (.cells #[.int .i64 a0_0, .int .u64 a0_1] 25)).alloc (.cells #[.int .i64 0, .int .u64 0] 25)) (w.heap.size + 1) 25 #[.int .i64 0, .int .u64 0] := Blk.new' _ _ (by simp)
    have B3 := below_new (below_new (Below.refl w.heap.size w) (.cells #[.int .i64 a0_0, .int .u64 a0_1] 25)) (.cells #[.int .i64 0, .int .u64 0] 25)
    go_enter Try.func20, Try.ntmps20
    go_wp2_with (first | (go_at_call 26; refine (X _).mono ?_; rintro e w4 ⟨rfl, b4⟩) | (go_at_call 27; refine (L _).mono ?_; rintro e w5 ⟨rfl, b5⟩) | (go_at_call 29; refine (Z _).mono ?_; rintro e w6 ⟨rfl, b6⟩; have R9 := ((R3.below b4).below b5).below b6; obtain ⟨r0, r1, r2, r3⟩ := Blk.cells2 R9))
    refine bodyPost_ret (results_cell_row rfl _ _ (w.heap.size + 1) 25 #[.int .i64 (I128.enc (-I128.val a0_0 a0_1)).1, .int .u64 (I128.enc (-I128.val a0_0 a0_1)).2] (0, 0) _ rfl (Blk.set2 R9) Try.underlying25 rfl (by kernel_rfl)) rfl ?_
    exact ⟨rfl, below_set2 (below_next (below_next (below_next B3 b4) b5) b6) (by omega)⟩

end Go.Proofs.Ytglhfknlemaidaa
