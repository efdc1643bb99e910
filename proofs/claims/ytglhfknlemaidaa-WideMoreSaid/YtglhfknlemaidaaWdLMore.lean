/-
  WideMore: the walk.
-/
import Derived.Test.YtglhfknlemaidaaWdKeeps
namespace Go.Proofs.Ytglhfknlemaidaa
open Go.RowKit
set_option linter.unusedVariables false
set_option linter.unusedSimpArgs false
attribute [local go_sem high] eqInt

theorem encU {m : Int} (h : u64ok m) : I128.enc m = (0, m) := by unfold u64ok at h; unfold I128.enc wrap64; rw [Prod.ext_iff]; constructor <;> (simp only []; omega)
theorem prod_ok {n d : Int} (hn : i64ok n) (hd : u64ok d) : i128ok (n * d) := by
  unfold i64ok at hn; unfold u64ok at hd; unfold i128ok
  have h1 := Int.mul_le_mul_of_nonneg_right hn.2 hd.1
  have h2 := Int.mul_le_mul_of_nonneg_right hn.1 hd.1
  generalize n * d = p at *
  omega
set_option maxHeartbeats 3200000 in
theorem wideMore_zero {x n : Int} (w : World) :
    Calls Try.prog 9 #[.agg #[.int .i64 (I128.enc (x)).1, .int .u64 (I128.enc (x)).2], .int .i64 n, .int .u64 0] w fun e w' => e = .returned (.bool true) ∧ Below w.heap.size w w' := by
  have K0 : Keeps w [(w.heap.size, #[.int .i64 (I128.enc (x)).1, .int .u64 (I128.enc (x)).2])] (w.alloc (.cells #[.int .i64 (I128.enc (x)).1, .int .u64 (I128.enc (x)).2] 25)) := (Keeps.nil w).box rfl #[.int .i64 (I128.enc (x)).1, .int .u64 (I128.enc (x)).2]
  go_enter Try.func9, Try.ntmps9
  go_wp2_with fail
  refine (inclinelaw01_shown_any _).mono ?_
  rintro e w1 ⟨rfl, b1⟩
  have K1 := K0.next b1
  go_wp2_with fail
  go_ret
  exact ⟨by simp, K1.bel⟩

set_option maxHeartbeats 12800000 in
set_option maxRecDepth 100000 in
theorem wideMore_A {x n d s : Int} (hx : i128ok x) (hn : i64ok n) (hd : u64ok d) (hz : d ≠ 0) (hsum : x + d = s) (hs : i128ok s) (w : World) :
    Calls Try.prog 9 #[.agg #[.int .i64 (I128.enc (x)).1, .int .u64 (I128.enc (x)).2], .int .i64 n, .int .u64 d] w fun e w' => e = .returned (.bool true) ∧ Below w.heap.size w w' := by
  have hd0 : 0 < d := by unfold u64ok at hd; omega
  have z0 : (d == 0) = false := by simpa using hz
  have k1 := cDiv hx hd hz
  have r1 := Int.emod_lt_of_pos x hd0
  have kA := cAdd x d
  rw [hsum, encU hd] at kA
  have kT := cTimes hn hd
  have kE := cDiv (prod_ok hn hd) hd hz
  rw [Int.mul_ediv_cancel n hz, Int.mul_emod_left] at kE
  have kO := cOf hn
  have kC := cCmp hs hx
  rw [cmpI_gt (by omega)] at kC
  have kD := cDiv hs hd hz
  have q1 : s / d = x / d + 1 := by rw [← hsum]; have := Int.add_mul_ediv_right x 1 hz; rwa [Int.one_mul] at this
  have q2 : s % d = x % d := by rw [← hsum]; exact Int.add_emod_right x d
  rw [q1, q2] at kD
  have kB := cAdd (x / d) 1
  rw [show I128.enc 1 = (0, 1) from by decide +kernel] at kB
  clear q1 q2
  have rd : decide (d ≤ x % d) = false := by simp; omega
  clear hsum hx hn hd hz hd0 r1
  generalize x / d = q at *
  generalize x % d = r at *
  have K0 : Keeps w [(w.heap.size, #[.int .i64 (I128.enc (x)).1, .int .u64 (I128.enc (x)).2])] (w.alloc (.cells #[.int .i64 (I128.enc (x)).1, .int .u64 (I128.enc (x)).2] 25)) := (Keeps.nil w).box rfl #[.int .i64 (I128.enc (x)).1, .int .u64 (I128.enc (x)).2]
  go_enter Try.func9, Try.ntmps9
  go_wp2_with fail
  refine (inclinelaw01_shown_any _).mono ?_
  rintro e w1 ⟨rfl, b1⟩
  have K1 := K0.next b1
  clear b1 K0
  go_wp2_with (first | (refine load_blk rfl 25 (.tmp 3) rfl _ rfl (Keeps.at0 K1) Try.underlying25 rfl (by kernel_rfl) ?_))
  refine (k1 _).mono ?_
  rintro e w2 ⟨rfl, b2⟩
  have K2 := (K1.next b2).box rfl #[.int .i64 (I128.enc (q)).1, .int .u64 (I128.enc (q)).2]
  clear K1 b2
  go_wp2_with (first | (refine load_blk rfl 25 (.tmp 3) rfl _ rfl (Keeps.at1 K2) Try.underlying25 rfl (by kernel_rfl) ?_) | (refine load_blk rfl 25 (.tmp 8) rfl _ rfl (Keeps.at0 K2) Try.underlying25 rfl (by kernel_rfl) ?_))
  refine (kA _).mono ?_
  rintro e w3 ⟨rfl, b3⟩
  have K3 := (K2.next b3).box rfl #[.int .i64 (I128.enc (s)).1, .int .u64 (I128.enc (s)).2]
  clear K2 b3
  go_wp2_with (first | (refine load_blk rfl 25 (.tmp 3) rfl _ rfl (Keeps.at2 K3) Try.underlying25 rfl (by kernel_rfl) ?_) | (refine load_blk rfl 25 (.tmp 8) rfl _ rfl (Keeps.at1 K3) Try.underlying25 rfl (by kernel_rfl) ?_) | (refine load_blk rfl 25 (.tmp 11) rfl _ rfl (Keeps.at0 K3) Try.underlying25 rfl (by kernel_rfl) ?_))
  refine (kC _).mono ?_
  rintro e w4 ⟨rfl, b4⟩
  have K4 := K3.next b4
  clear K3 b4
  go_wp2_with (first | (refine load_blk rfl 25 (.tmp 3) rfl _ rfl (Keeps.at2 K4) Try.underlying25 rfl (by kernel_rfl) ?_) | (refine load_blk rfl 25 (.tmp 8) rfl _ rfl (Keeps.at1 K4) Try.underlying25 rfl (by kernel_rfl) ?_) | (refine load_blk rfl 25 (.tmp 11) rfl _ rfl (Keeps.at0 K4) Try.underlying25 rfl (by kernel_rfl) ?_))
  refine (kD _).mono ?_
  rintro e w5 ⟨rfl, b5⟩
  have K5 := (K4.next b5).box rfl #[.int .i64 (I128.enc (q + 1)).1, .int .u64 (I128.enc (q + 1)).2]
  clear K4 b5
  go_wp2_with fail
  refine wp_region_held_drew (S := (Keeps w [(w5.heap.size, #[.int .i64 (I128.enc (q + 1)).1, .int .u64 (I128.enc (q + 1)).2]), (w3.heap.size, #[.int .i64 (I128.enc (s)).1, .int .u64 (I128.enc (s)).2]), (w2.heap.size, #[.int .i64 (I128.enc (q)).1, .int .u64 (I128.enc (q)).2]), (w.heap.size, #[.int .i64 (I128.enc (x)).1, .int .u64 (I128.enc (x)).2])])) (by kernel_rfl) (K5.drew) (fun hS_ => ?_)
  refine wpAnyH_ready (rs := [0]) (by kernel_rfl) (by simp) (AllReadyH.cons rfl (fun K hK => ?_) AllReadyH.nil)
  go_simp
  (try go_wp2_with fail)
  refine hK.out _ _ (hS_) (fun hS_ => ?_)
  clear hK K
  (try simp only [Act.put, List.setIfInBounds_toArray, List.set_cons_zero, List.set_cons_succ])
  refine wpAnyH_ready (rs := [1]) (by kernel_rfl) (by simp) (AllReadyH.cons rfl (fun K hK => ?_) AllReadyH.nil)
  go_simp
  (try go_wp2_with fail)
  refine hK.out _ _ (hS_) (fun hS_ => ?_)
  clear hK K
  (try simp only [Act.put, List.setIfInBounds_toArray, List.set_cons_zero, List.set_cons_succ])
  refine wpAnyH_ready (rs := [2]) (by kernel_rfl) (by simp) (AllReadyH.cons rfl (fun K hK => ?_) AllReadyH.nil)
  go_simp
  (try go_wp2_with fail)
  refine hK.out _ _ (hS_) (fun hS_ => ?_)
  clear hK K
  (try simp only [Act.put, List.setIfInBounds_toArray, List.set_cons_zero, List.set_cons_succ])
  refine wpAnyH_take (i := 3) (v := .int .u64 r) rfl (by kernel_rfl) (by kernel_rfl) (by kernel_rfl) (fun _ _ _ h => h) (Or.inl ⟨by rfl, by intro w hSw; go_simp⟩) hS_ ?_
  (try simp only [Act.put, List.setIfInBounds_toArray, List.set_cons_zero, List.set_cons_succ])
  refine wpAnyH_ready (rs := [4]) (by kernel_rfl) (by simp) (AllReadyH.cons rfl (fun K hK => ?_) AllReadyH.nil)
  go_simp
  (try go_wp2_with fail)
  refine hK.out _ _ (hS_) (fun hS_ => ?_)
  clear hK K
  (try simp only [Act.put, List.setIfInBounds_toArray, List.set_cons_zero, List.set_cons_succ])
  refine wpAnyH_ready (rs := [5]) (by kernel_rfl) (by simp) (AllReadyH.cons rfl (fun K hK => ?_) AllReadyH.nil)
  go_simp
  (try go_wp2_with fail)
  refine hK.out _ _ (hS_) (fun hS_ => ?_)
  clear hK K
  (try simp only [Act.put, List.setIfInBounds_toArray, List.set_cons_zero, List.set_cons_succ])
  refine wpAnyH_ready (rs := [6]) (by kernel_rfl) (by simp) (AllReadyH.cons rfl (fun K hK => ?_) AllReadyH.nil)
  go_simp
  (try go_wp2_with fail)
  refine hK.out _ _ (hS_) (fun hS_ => ?_)
  clear hK K
  (try simp only [Act.put, List.setIfInBounds_toArray, List.set_cons_zero, List.set_cons_succ])
  refine wpAnyH_ready (rs := [7]) (by kernel_rfl) (by simp) (AllReadyH.cons rfl (fun K hK => ?_) AllReadyH.nil)
  go_simp
  (try go_wp2_with fail)
  refine hK.out _ _ (hS_) (fun hS_ => ?_)
  clear hK K
  (try simp only [Act.put, List.setIfInBounds_toArray, List.set_cons_zero, List.set_cons_succ])
  refine wpAnyH_take (i := 8) rfl (by kernel_rfl) (by kernel_rfl) (by kernel_rfl) (fun _ _ _ h => h) (yields_load_blk (by rfl) 25 (.tmp 12) rfl _ rfl (fun w hw => Keeps.at0 hw) Try.underlying25 rfl (by kernel_rfl)) hS_ ?_
  (try simp only [Act.put, List.setIfInBounds_toArray, List.set_cons_zero, List.set_cons_succ])
  refine wpAnyH_take (i := 9) rfl (by kernel_rfl) (by kernel_rfl) (by kernel_rfl) (fun _ _ _ h => h) (yields_load_blk (by rfl) 25 (.tmp 8) rfl _ rfl (fun w hw => Keeps.at2 hw) Try.underlying25 rfl (by kernel_rfl)) hS_ ?_
  (try simp only [Act.put, List.setIfInBounds_toArray, List.set_cons_zero, List.set_cons_succ])
  refine wpAnyH_ready (rs := [10]) (by kernel_rfl) (by simp) (AllReadyH.cons rfl (fun K hK => ?_) AllReadyH.nil)
  go_simp
  (try go_wp2_with fail)
  refine hK.out _ _ (hS_) (fun hS_ => ?_)
  clear hK K
  (try simp only [Act.put, List.setIfInBounds_toArray, List.set_cons_zero, List.set_cons_succ])
  refine wpAnyH_ready (rs := [11]) (by kernel_rfl) (by simp) (AllReadyH.cons rfl (fun K hK => ?_) AllReadyH.nil)
  go_simp
  refine (kB _).mono ?_
  rintro e v12_11 ⟨rfl, bn⟩
  (try go_wp2_with fail)
  refine hK.out _ _ (Keeps.next hS_ bn) (fun hS_ => ?_)
  clear hK K bn
  (try simp only [Act.put, List.setIfInBounds_toArray, List.set_cons_zero, List.set_cons_succ])
  refine wpAnyH_ready (rs := [12]) (by kernel_rfl) (by simp) (AllReadyH.cons rfl (fun K hK => ?_) AllReadyH.nil)
  go_simp
  (try go_wp2_with fail)
  refine hK.out _ _ (hS_) (fun hS_ => ?_)
  clear hK K
  (try simp only [Act.put, List.setIfInBounds_toArray, List.set_cons_zero, List.set_cons_succ])
  refine wpAnyH_ready (rs := [13]) (by kernel_rfl) (by simp) (AllReadyH.cons rfl (fun K hK => ?_) AllReadyH.nil)
  go_simp
  (try go_wp2_with fail)
  refine hK.out _ _ (hS_) (fun hS_ => ?_)
  clear hK K
  (try simp only [Act.put, List.setIfInBounds_toArray, List.set_cons_zero, List.set_cons_succ])
  refine wpAnyH_done (by kernel_rfl) ?_ _
  clear K5
  have K6 := hS_
  clear hS_
  go_wp2_with (first | (refine load_blk rfl 25 (.tmp 12) rfl _ rfl (Keeps.at0 K6) Try.underlying25 rfl (by kernel_rfl) ?_) | (refine load_blk rfl 25 (.tmp 11) rfl _ rfl (Keeps.at1 K6) Try.underlying25 rfl (by kernel_rfl) ?_) | (refine load_blk rfl 25 (.tmp 8) rfl _ rfl (Keeps.at2 K6) Try.underlying25 rfl (by kernel_rfl) ?_) | (refine load_blk rfl 25 (.tmp 3) rfl _ rfl (Keeps.at3 K6) Try.underlying25 rfl (by kernel_rfl) ?_))
  refine (kT _).mono ?_
  rintro e w8 ⟨rfl, b8⟩
  have J := K6.next b8
  clear b8
  go_wp2_with fail
  refine (kE _).mono ?_
  rintro e w9 ⟨rfl, b9⟩
  have J9 := (J.next b9).box rfl #[.int .i64 (I128.enc (n)).1, .int .u64 (I128.enc (n)).2]
  clear J b9
  go_wp2_with fail
  refine wp_region_held_drew (S := (Keeps w [(w9.heap.size, #[.int .i64 (I128.enc (n)).1, .int .u64 (I128.enc (n)).2]), (w5.heap.size, #[.int .i64 (I128.enc (q + 1)).1, .int .u64 (I128.enc (q + 1)).2]), (w3.heap.size, #[.int .i64 (I128.enc (s)).1, .int .u64 (I128.enc (s)).2]), (w2.heap.size, #[.int .i64 (I128.enc (q)).1, .int .u64 (I128.enc (q)).2]), (w.heap.size, #[.int .i64 (I128.enc (x)).1, .int .u64 (I128.enc (x)).2])])) (by kernel_rfl) (J9.drew) (fun hS_ => ?_)
  refine wpAnyH_ready (rs := [0]) (by kernel_rfl) (by simp) (AllReadyH.cons rfl (fun K hK => ?_) AllReadyH.nil)
  go_simp
  (try go_wp2_with fail)
  refine hK.out _ _ (hS_) (fun hS_ => ?_)
  clear hK K
  (try simp only [Act.put, List.setIfInBounds_toArray, List.set_cons_zero, List.set_cons_succ])
  refine wpAnyH_ready (rs := [1]) (by kernel_rfl) (by simp) (AllReadyH.cons rfl (fun K hK => ?_) AllReadyH.nil)
  go_simp
  (try go_wp2_with fail)
  refine hK.out _ _ (hS_) (fun hS_ => ?_)
  clear hK K
  (try simp only [Act.put, List.setIfInBounds_toArray, List.set_cons_zero, List.set_cons_succ])
  refine wpAnyH_take (i := 2) rfl (by kernel_rfl) (by kernel_rfl) (by kernel_rfl) (fun _ _ _ h => h) (yields_load_blk (by rfl) 25 (.tmp 15) rfl _ rfl (fun w hw => Keeps.at0 hw) Try.underlying25 rfl (by kernel_rfl)) hS_ ?_
  (try simp only [Act.put, List.setIfInBounds_toArray, List.set_cons_zero, List.set_cons_succ])
  refine wpAnyH_ready (rs := [3]) (by kernel_rfl) (by simp) (AllReadyH.cons rfl (fun K hK => ?_) AllReadyH.nil)
  go_simp
  (try go_wp2_with fail)
  refine hK.out _ _ (hS_) (fun hS_ => ?_)
  clear hK K
  (try simp only [Act.put, List.setIfInBounds_toArray, List.set_cons_zero, List.set_cons_succ])
  refine wpAnyH_ready (rs := [4]) (by kernel_rfl) (by simp) (AllReadyH.cons rfl (fun K hK => ?_) AllReadyH.nil)
  go_simp
  refine (kO _).mono ?_
  rintro e v15_4 ⟨rfl, bn⟩
  (try go_wp2_with fail)
  refine hK.out _ _ (Keeps.next hS_ bn) (fun hS_ => ?_)
  clear hK K bn
  (try simp only [Act.put, List.setIfInBounds_toArray, List.set_cons_zero, List.set_cons_succ])
  refine wpAnyH_ready (rs := [5]) (by kernel_rfl) (by simp) (AllReadyH.cons rfl (fun K hK => ?_) AllReadyH.nil)
  go_simp
  (try go_wp2_with fail)
  refine hK.out _ _ (hS_) (fun hS_ => ?_)
  clear hK K
  (try simp only [Act.put, List.setIfInBounds_toArray, List.set_cons_zero, List.set_cons_succ])
  refine wpAnyH_ready (rs := [6]) (by kernel_rfl) (by simp) (AllReadyH.cons rfl (fun K hK => ?_) AllReadyH.nil)
  go_simp
  (try go_wp2_with fail)
  refine hK.out _ _ (hS_) (fun hS_ => ?_)
  clear hK K
  (try simp only [Act.put, List.setIfInBounds_toArray, List.set_cons_zero, List.set_cons_succ])
  refine wpAnyH_ready (rs := [7]) (by kernel_rfl) (by simp) (AllReadyH.cons rfl (fun K hK => ?_) AllReadyH.nil)
  go_simp
  (try go_wp2_with fail)
  refine hK.out _ _ (hS_) (fun hS_ => ?_)
  clear hK K
  (try simp only [Act.put, List.setIfInBounds_toArray, List.set_cons_zero, List.set_cons_succ])
  refine wpAnyH_ready (rs := [8]) (by kernel_rfl) (by simp) (AllReadyH.cons rfl (fun K hK => ?_) AllReadyH.nil)
  go_simp
  (try go_wp2_with fail)
  refine hK.out _ _ (hS_) (fun hS_ => ?_)
  clear hK K
  (try simp only [Act.put, List.setIfInBounds_toArray, List.set_cons_zero, List.set_cons_succ])
  refine wpAnyH_ready (rs := [9]) (by kernel_rfl) (by simp) (AllReadyH.cons rfl (fun K hK => ?_) AllReadyH.nil)
  go_simp
  (try go_wp2_with fail)
  refine hK.out _ _ (hS_) (fun hS_ => ?_)
  clear hK K
  (try simp only [Act.put, List.setIfInBounds_toArray, List.set_cons_zero, List.set_cons_succ])
  refine wpAnyH_ready (rs := [10]) (by kernel_rfl) (by simp) (AllReadyH.cons rfl (fun K hK => ?_) AllReadyH.nil)
  go_simp
  (try go_wp2_with fail)
  refine hK.out _ _ (hS_) (fun hS_ => ?_)
  clear hK K
  (try simp only [Act.put, List.setIfInBounds_toArray, List.set_cons_zero, List.set_cons_succ])
  refine wpAnyH_ready (rs := [11]) (by kernel_rfl) (by simp) (AllReadyH.cons rfl (fun K hK => ?_) AllReadyH.nil)
  go_simp
  (try go_wp2_with fail)
  refine hK.out _ _ (hS_) (fun hS_ => ?_)
  clear hK K
  (try simp only [Act.put, List.setIfInBounds_toArray, List.set_cons_zero, List.set_cons_succ])
  refine wpAnyH_ready (rs := [12]) (by kernel_rfl) (by simp) (AllReadyH.cons rfl (fun K hK => ?_) AllReadyH.nil)
  go_simp
  (try go_wp2_with fail)
  refine hK.out _ _ (hS_) (fun hS_ => ?_)
  clear hK K
  (try simp only [Act.put, List.setIfInBounds_toArray, List.set_cons_zero, List.set_cons_succ])
  refine wpAnyH_ready (rs := [13]) (by kernel_rfl) (by simp) (AllReadyH.cons rfl (fun K hK => ?_) AllReadyH.nil)
  go_simp
  (try go_wp2_with fail)
  refine hK.out _ _ (hS_) (fun hS_ => ?_)
  clear hK K
  (try simp only [Act.put, List.setIfInBounds_toArray, List.set_cons_zero, List.set_cons_succ])
  refine wpAnyH_ready (rs := [14]) (by kernel_rfl) (by simp) (AllReadyH.cons rfl (fun K hK => ?_) AllReadyH.nil)
  go_simp
  (try go_wp2_with fail)
  refine hK.out _ _ (hS_) (fun hS_ => ?_)
  clear hK K
  (try simp only [Act.put, List.setIfInBounds_toArray, List.set_cons_zero, List.set_cons_succ])
  refine wpAnyH_ready (rs := [15]) (by kernel_rfl) (by simp) (AllReadyH.cons rfl (fun K hK => ?_) AllReadyH.nil)
  go_simp
  (try go_wp2_with fail)
  refine hK.out _ _ (hS_) (fun hS_ => ?_)
  clear hK K
  (try simp only [Act.put, List.setIfInBounds_toArray, List.set_cons_zero, List.set_cons_succ])
  refine wpAnyH_done (by kernel_rfl) ?_ _
  go_wp2_with fail
  go_ret
  exact ⟨by simp, hS_.bel⟩

set_option maxHeartbeats 12800000 in
set_option maxRecDepth 100000 in
theorem wideMore_B {x n d s : Int} (hx : i128ok x) (hn : i64ok n) (hd : u64ok d) (hz : d ≠ 0) (hsum : x + d = s) (hs : ∃ s', i128ok s' ∧ I128.enc s = I128.enc s' ∧ cmpI s' x = -1) (w : World) :
    Calls Try.prog 9 #[.agg #[.int .i64 (I128.enc (x)).1, .int .u64 (I128.enc (x)).2], .int .i64 n, .int .u64 d] w fun e w' => e = .returned (.bool true) ∧ Below w.heap.size w w' := by
  have hd0 : 0 < d := by unfold u64ok at hd; omega
  have z0 : (d == 0) = false := by simpa using hz
  have k1 := cDiv hx hd hz
  have r1 := Int.emod_lt_of_pos x hd0
  have kA := cAdd x d
  rw [hsum, encU hd] at kA
  have kT := cTimes hn hd
  have kE := cDiv (prod_ok hn hd) hd hz
  rw [Int.mul_ediv_cancel n hz, Int.mul_emod_left] at kE
  have kO := cOf hn
  obtain ⟨s', hs1, hs2, hs3⟩ := hs
  have kC := cCmp hs1 hx
  rw [hs3, ← hs2] at kC
  clear hs1 hs2 hs3 s'
  have rd : decide (d ≤ x % d) = false := by simp; omega
  clear hsum hx hn hd hz hd0 r1
  generalize x / d = q at *
  generalize x % d = r at *
  have K0 : Keeps w [(w.heap.size, #[.int .i64 (I128.enc (x)).1, .int .u64 (I128.enc (x)).2])] (w.alloc (.cells #[.int .i64 (I128.enc (x)).1, .int .u64 (I128.enc (x)).2] 25)) := (Keeps.nil w).box rfl #[.int .i64 (I128.enc (x)).1, .int .u64 (I128.enc (x)).2]
  go_enter Try.func9, Try.ntmps9
  go_wp2_with fail
  refine (inclinelaw01_shown_any _).mono ?_
  rintro e w1 ⟨rfl, b1⟩
  have K1 := K0.next b1
  clear b1 K0
  go_wp2_with (first | (refine load_blk rfl 25 (.tmp 3) rfl _ rfl (Keeps.at0 K1) Try.underlying25 rfl (by kernel_rfl) ?_))
  refine (k1 _).mono ?_
  rintro e w2 ⟨rfl, b2⟩
  have K2 := (K1.next b2).box rfl #[.int .i64 (I128.enc (q)).1, .int .u64 (I128.enc (q)).2]
  clear K1 b2
  go_wp2_with (first | (refine load_blk rfl 25 (.tmp 3) rfl _ rfl (Keeps.at1 K2) Try.underlying25 rfl (by kernel_rfl) ?_) | (refine load_blk rfl 25 (.tmp 8) rfl _ rfl (Keeps.at0 K2) Try.underlying25 rfl (by kernel_rfl) ?_))
  refine (kA _).mono ?_
  rintro e w3 ⟨rfl, b3⟩
  have K3 := (K2.next b3).box rfl #[.int .i64 (I128.enc (s)).1, .int .u64 (I128.enc (s)).2]
  clear K2 b3
  go_wp2_with (first | (refine load_blk rfl 25 (.tmp 3) rfl _ rfl (Keeps.at2 K3) Try.underlying25 rfl (by kernel_rfl) ?_) | (refine load_blk rfl 25 (.tmp 8) rfl _ rfl (Keeps.at1 K3) Try.underlying25 rfl (by kernel_rfl) ?_) | (refine load_blk rfl 25 (.tmp 11) rfl _ rfl (Keeps.at0 K3) Try.underlying25 rfl (by kernel_rfl) ?_))
  refine (kC _).mono ?_
  rintro e w4 ⟨rfl, b4⟩
  have K4 := K3.next b4
  clear K3 b4
  go_wp2_with (first | (refine load_blk rfl 25 (.tmp 3) rfl _ rfl (Keeps.at2 K4) Try.underlying25 rfl (by kernel_rfl) ?_) | (refine load_blk rfl 25 (.tmp 8) rfl _ rfl (Keeps.at1 K4) Try.underlying25 rfl (by kernel_rfl) ?_) | (refine load_blk rfl 25 (.tmp 11) rfl _ rfl (Keeps.at0 K4) Try.underlying25 rfl (by kernel_rfl) ?_))
  refine (kT _).mono ?_
  rintro e w8 ⟨rfl, b8⟩
  have J := K4.next b8
  clear b8
  go_wp2_with fail
  refine (kE _).mono ?_
  rintro e w9 ⟨rfl, b9⟩
  have J9 := (J.next b9).box rfl #[.int .i64 (I128.enc (n)).1, .int .u64 (I128.enc (n)).2]
  clear J b9
  go_wp2_with fail
  refine wp_region_held_drew (S := (Keeps w [(w9.heap.size, #[.int .i64 (I128.enc (n)).1, .int .u64 (I128.enc (n)).2]), (w3.heap.size, #[.int .i64 (I128.enc (s)).1, .int .u64 (I128.enc (s)).2]), (w2.heap.size, #[.int .i64 (I128.enc (q)).1, .int .u64 (I128.enc (q)).2]), (w.heap.size, #[.int .i64 (I128.enc (x)).1, .int .u64 (I128.enc (x)).2])])) (by kernel_rfl) (J9.drew) (fun hS_ => ?_)
  refine wpAnyH_ready (rs := [0]) (by kernel_rfl) (by simp) (AllReadyH.cons rfl (fun K hK => ?_) AllReadyH.nil)
  go_simp
  (try go_wp2_with fail)
  refine hK.out _ _ (hS_) (fun hS_ => ?_)
  clear hK K
  (try simp only [Act.put, List.setIfInBounds_toArray, List.set_cons_zero, List.set_cons_succ])
  refine wpAnyH_ready (rs := [1]) (by kernel_rfl) (by simp) (AllReadyH.cons rfl (fun K hK => ?_) AllReadyH.nil)
  go_simp
  (try go_wp2_with fail)
  refine hK.out _ _ (hS_) (fun hS_ => ?_)
  clear hK K
  (try simp only [Act.put, List.setIfInBounds_toArray, List.set_cons_zero, List.set_cons_succ])
  refine wpAnyH_take (i := 2) rfl (by kernel_rfl) (by kernel_rfl) (by kernel_rfl) (fun _ _ _ h => h) (yields_load_blk (by rfl) 25 (.tmp 15) rfl _ rfl (fun w hw => Keeps.at0 hw) Try.underlying25 rfl (by kernel_rfl)) hS_ ?_
  (try simp only [Act.put, List.setIfInBounds_toArray, List.set_cons_zero, List.set_cons_succ])
  refine wpAnyH_ready (rs := [3]) (by kernel_rfl) (by simp) (AllReadyH.cons rfl (fun K hK => ?_) AllReadyH.nil)
  go_simp
  (try go_wp2_with fail)
  refine hK.out _ _ (hS_) (fun hS_ => ?_)
  clear hK K
  (try simp only [Act.put, List.setIfInBounds_toArray, List.set_cons_zero, List.set_cons_succ])
  refine wpAnyH_ready (rs := [4]) (by kernel_rfl) (by simp) (AllReadyH.cons rfl (fun K hK => ?_) AllReadyH.nil)
  go_simp
  refine (kO _).mono ?_
  rintro e v15_4 ⟨rfl, bn⟩
  (try go_wp2_with fail)
  refine hK.out _ _ (Keeps.next hS_ bn) (fun hS_ => ?_)
  clear hK K bn
  (try simp only [Act.put, List.setIfInBounds_toArray, List.set_cons_zero, List.set_cons_succ])
  refine wpAnyH_ready (rs := [5]) (by kernel_rfl) (by simp) (AllReadyH.cons rfl (fun K hK => ?_) AllReadyH.nil)
  go_simp
  (try go_wp2_with fail)
  refine hK.out _ _ (hS_) (fun hS_ => ?_)
  clear hK K
  (try simp only [Act.put, List.setIfInBounds_toArray, List.set_cons_zero, List.set_cons_succ])
  refine wpAnyH_ready (rs := [6]) (by kernel_rfl) (by simp) (AllReadyH.cons rfl (fun K hK => ?_) AllReadyH.nil)
  go_simp
  (try go_wp2_with fail)
  refine hK.out _ _ (hS_) (fun hS_ => ?_)
  clear hK K
  (try simp only [Act.put, List.setIfInBounds_toArray, List.set_cons_zero, List.set_cons_succ])
  refine wpAnyH_ready (rs := [7]) (by kernel_rfl) (by simp) (AllReadyH.cons rfl (fun K hK => ?_) AllReadyH.nil)
  go_simp
  (try go_wp2_with fail)
  refine hK.out _ _ (hS_) (fun hS_ => ?_)
  clear hK K
  (try simp only [Act.put, List.setIfInBounds_toArray, List.set_cons_zero, List.set_cons_succ])
  refine wpAnyH_ready (rs := [8]) (by kernel_rfl) (by simp) (AllReadyH.cons rfl (fun K hK => ?_) AllReadyH.nil)
  go_simp
  (try go_wp2_with fail)
  refine hK.out _ _ (hS_) (fun hS_ => ?_)
  clear hK K
  (try simp only [Act.put, List.setIfInBounds_toArray, List.set_cons_zero, List.set_cons_succ])
  refine wpAnyH_ready (rs := [9]) (by kernel_rfl) (by simp) (AllReadyH.cons rfl (fun K hK => ?_) AllReadyH.nil)
  go_simp
  (try go_wp2_with fail)
  refine hK.out _ _ (hS_) (fun hS_ => ?_)
  clear hK K
  (try simp only [Act.put, List.setIfInBounds_toArray, List.set_cons_zero, List.set_cons_succ])
  refine wpAnyH_ready (rs := [10]) (by kernel_rfl) (by simp) (AllReadyH.cons rfl (fun K hK => ?_) AllReadyH.nil)
  go_simp
  (try go_wp2_with fail)
  refine hK.out _ _ (hS_) (fun hS_ => ?_)
  clear hK K
  (try simp only [Act.put, List.setIfInBounds_toArray, List.set_cons_zero, List.set_cons_succ])
  refine wpAnyH_ready (rs := [11]) (by kernel_rfl) (by simp) (AllReadyH.cons rfl (fun K hK => ?_) AllReadyH.nil)
  go_simp
  (try go_wp2_with fail)
  refine hK.out _ _ (hS_) (fun hS_ => ?_)
  clear hK K
  (try simp only [Act.put, List.setIfInBounds_toArray, List.set_cons_zero, List.set_cons_succ])
  refine wpAnyH_ready (rs := [12]) (by kernel_rfl) (by simp) (AllReadyH.cons rfl (fun K hK => ?_) AllReadyH.nil)
  go_simp
  (try go_wp2_with fail)
  refine hK.out _ _ (hS_) (fun hS_ => ?_)
  clear hK K
  (try simp only [Act.put, List.setIfInBounds_toArray, List.set_cons_zero, List.set_cons_succ])
  refine wpAnyH_ready (rs := [13]) (by kernel_rfl) (by simp) (AllReadyH.cons rfl (fun K hK => ?_) AllReadyH.nil)
  go_simp
  (try go_wp2_with fail)
  refine hK.out _ _ (hS_) (fun hS_ => ?_)
  clear hK K
  (try simp only [Act.put, List.setIfInBounds_toArray, List.set_cons_zero, List.set_cons_succ])
  refine wpAnyH_ready (rs := [14]) (by kernel_rfl) (by simp) (AllReadyH.cons rfl (fun K hK => ?_) AllReadyH.nil)
  go_simp
  (try go_wp2_with fail)
  refine hK.out _ _ (hS_) (fun hS_ => ?_)
  clear hK K
  (try simp only [Act.put, List.setIfInBounds_toArray, List.set_cons_zero, List.set_cons_succ])
  refine wpAnyH_ready (rs := [15]) (by kernel_rfl) (by simp) (AllReadyH.cons rfl (fun K hK => ?_) AllReadyH.nil)
  go_simp
  (try go_wp2_with fail)
  refine hK.out _ _ (hS_) (fun hS_ => ?_)
  clear hK K
  (try simp only [Act.put, List.setIfInBounds_toArray, List.set_cons_zero, List.set_cons_succ])
  refine wpAnyH_done (by kernel_rfl) ?_ _
  go_wp2_with fail
  go_ret
  exact ⟨by simp, hS_.bel⟩

theorem wideMore_walk {x n d : Int} (hx : i128ok x) (hn : i64ok n) (hd : u64ok d) (w : World) :
    Calls Try.prog 9 #[.agg #[.int .i64 (I128.enc (x)).1, .int .u64 (I128.enc (x)).2], .int .i64 n, .int .u64 d] w fun e w' => e = .returned (.bool true) ∧ Below w.heap.size w w' := by
  by_cases hz : d = 0
  · subst hz; exact wideMore_zero w
  · by_cases hs : i128ok (x + d)
    · exact wideMore_A hx hn hd hz rfl hs w
    · refine wideMore_B hx hn hd hz rfl ⟨x + d - 340282366920938463463374607431768211456, ?_, ?_, ?_⟩ w
      · unfold i128ok at *; unfold u64ok at hd; omega
      · exact I128.enc_congr (by omega)
      · refine cmpI_lt ?_; unfold u64ok at hd; omega
end Go.Proofs.Ytglhfknlemaidaa
