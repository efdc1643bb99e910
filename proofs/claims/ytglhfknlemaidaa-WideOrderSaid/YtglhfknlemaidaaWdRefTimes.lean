/-
  The reference's Of and Times come to the number and the product.
-/
import Derived.Test.YtglhfknlemaidaaWdNum
namespace Go.Proofs.Ytglhfknlemaidaa
open Go.RowKit
set_option linter.unusedVariables false
set_option linter.unusedSimpArgs false

def refhi (a : Int) : Int := if a < 0 then -1 else 0
theorem refhi_ok (a : Int) : i64ok (refhi a) := by unfold refhi i64ok; split <;> omega
theorem refhi_val {a : Int} (h : i64ok a) : I128.val (refhi a) (IntKind.u64.wrap a) = a := by unfold i64ok at h; unfold refhi I128.val; rw [IntKind.wrap_u64]; split <;> omega
theorem u64wrap_ok (a : Int) : u64ok (IntKind.u64.wrap a) := u64_range a
set_option maxHeartbeats 800000 in
theorem ref_of_any (a : Int) (w : World) :
    Calls Try.prog 12 #[.int .i64 a] w fun e w' => e = .returned (.agg #[.int .i64 (refhi a), .int .u64 (IntKind.u64.wrap a)]) ∧ Below w.heap.size w w' := by
  unfold refhi
  by_cases h : a < 0
  · go_enter Try.func12, Try.ntmps12
    go_wp2
    simp [bodyPost, results, Try.results12, go_sem, h]
    exact (Below.refl _ _).alloc (Nat.le_refl _) _
  · go_enter Try.func12, Try.ntmps12
    go_wp2
    simp [bodyPost, results, Try.results12, go_sem, h]
    exact (Below.refl _ _).alloc (Nat.le_refl _) _

/-- What a call into the reference's Times has laid when both numbers are told in digits. -/
theorem times_heap {w w1 w2 w3 : World} {a0 a1 : Int} (b1 : Below (w.alloc (.cells #[.int .i64 0, .int .u64 0] 25)).heap.size (w.alloc (.cells #[.int .i64 0, .int .u64 0] 25)) w1) (b2 : Below w1.heap.size w1 w2)
    (b3 : Below (w2.alloc (.cells (cellsOf (dig a0)) 44)).heap.size (w2.alloc (.cells (cellsOf (dig a0)) 44)) w3) :
    Blk (w3.alloc (.cells (cellsOf (dig a1)) 44)) w.heap.size 25 #[.int .i64 0, .int .u64 0] ∧ NumAt (w3.alloc (.cells (cellsOf (dig a1)) 44)) w2.heap.size (dig a0) ∧ NumAt (w3.alloc (.cells (cellsOf (dig a1)) 44)) w3.heap.size (dig a1) ∧
    Below w.heap.size w (w3.alloc (.cells (cellsOf (dig a1)) 44)) :=
  ⟨((((Blk.new w _ _).below b1).below b2).alloc _ |>.below b3).alloc _, ((NumAt.new w2 _).below b3).alloc _, NumAt.new w3 _,
    below_new (below_next (below_new (below_next (below_next (below_new (Below.refl _ w) _) b1) b2) _) b3) _⟩

def inclineref01_Times.f (a0 a1 : Int) : Option (Int × Int) := if i64ok a0 ∧ u64ok a1 then some (I128.enc (a0 * a1)) else none
set_option maxHeartbeats 1600000 in
theorem inclineref01_Times.calls (a0 a1 r1 r2 : Int) (w : World) (h : inclineref01_Times.f a0 a1 = some (r1, r2)) :
    Calls Try.prog 14 #[.int .i64 a0, .int .u64 a1] w fun e w' => e = .returned (.agg #[.int .i64 r1, .int .u64 r2]) ∧ Below w.heap.size w w' := by
  unfold inclineref01_Times.f at h
  split at h
  case isFalse => exact absurd h (by simp)
  case isTrue hr =>
    obtain ⟨h1, h2⟩ := hr
    have h := Option.some.inj h
    obtain ⟨rfl, rfl⟩ : (I128.enc (a0 * a1)).1 = r1 ∧ (I128.enc (a0 * a1)).2 = r2 := by rw [h]; exact ⟨rfl, rfl⟩
    clear h
    have X := num_of_any (refhi a0) (IntKind.u64.wrap a0) (refhi_ok a0) (u64wrap_ok a0)
    rw [refhi_val h1] at X
    have Y := num_of_any 0 a1 (by unfold i64ok; omega) h2
    rw [show I128.val 0 a1 = a1 from by unfold I128.val; omega] at Y
    by_cases hn : a0 < 0
    · have L0 := num_less_any a0
      have T := num_times_any (-a0) a1
      have L := num_less_any (-a0 * a1)
      rw [show -(-a0 * a1) = a0 * a1 from by rw [Int.neg_mul, Int.neg_neg]] at L
      have Z := num_told_any (a0 * a1)
      go_enter Try.func14, Try.ntmps14
      go_wp2_with fail
      refine (ref_of_any a0 _).mono ?_
      rintro e w1 ⟨rfl, b1⟩
      go_wp2_with fail
      refine (X _).mono ?_
      rintro e w2 ⟨rfl, b2⟩
      have hst := store_fresh w2 (dig a0)
      go_wp2_with fail
      refine (Y _).mono ?_
      rintro e w3 ⟨rfl, b3⟩
      have hst3 := store_fresh w3 (dig a1)
      obtain ⟨R1, G2, G3, B3⟩ := times_heap (a1 := a1) b1 b2 b3
      go_wp2_with fail
      have ne2 : w.heap.size < w2.heap.size := Nat.lt_of_lt_of_le (by simp) (Nat.le_trans b1.size b2.size)
      have ne3 : w.heap.size < w3.heap.size := Nat.lt_of_lt_of_le (by simp; omega) b3.size
      clear hst hst3
      generalize w3.alloc (Obj.cells (cellsOf (dig a1)) 44) = W5 at *
      refine wp_region_held_drew (S := (fun w' => (∃ x y, Blk w' w.heap.size 25 #[x, y]) ∧ NumAt w' w2.heap.size (dig a0) ∧ NumAt w' w3.heap.size (dig a1) ∧ Below w.heap.size w w')) (by kernel_rfl) (⟨⟨_, _, R1.drew⟩, G2, G3, B3.drew⟩) (fun hS_ => ?_)
      refine wpAnyH_take (i := 0) rfl (by kernel_rfl) (by kernel_rfl) (by kernel_rfl) (fun _ _ _ h => h) (yields_load_blk rfl 44 (.tmp 5) rfl w2.heap.size rfl (fun w h => h.2.1) Try.underlying44 rfl (by kernel_rfl)) hS_ ?_
      (try simp only [Act.put, List.setIfInBounds_toArray, List.set_cons_zero, List.set_cons_succ])
      refine wpAnyH_take (i := 2) rfl (by kernel_rfl) (by kernel_rfl) (by kernel_rfl) (fun _ _ _ h => h) (yields_load_blk rfl 44 (.tmp 6) rfl w3.heap.size rfl (fun w h => h.2.2.1) Try.underlying44 rfl (by kernel_rfl)) hS_ ?_
      (try simp only [Act.put, List.setIfInBounds_toArray, List.set_cons_zero, List.set_cons_succ])
      refine wpAnyH_ready (rs := [1]) (by kernel_rfl) (by simp) (AllReadyH.cons rfl (fun K hK => ?_) AllReadyH.nil)
      go_simp
      (go_at_call 27; refine (L0 _).mono ?_; rintro e w6 ⟨rfl, b6⟩)
      (try go_wp2_with fail)
      refine hK.out _ _ (⟨⟨_, _, Blk.below hS_.1.choose_spec.choose_spec b6⟩, NumAt.below hS_.2.1 b6, NumAt.below hS_.2.2.1 b6, below_then hS_.2.2.2 b6 hS_.2.2.2.size⟩) (fun hS_ => ?_)
      clear hK K
      (try simp only [Act.put, List.setIfInBounds_toArray, List.set_cons_zero, List.set_cons_succ])
      refine wpAnyH_ready (rs := [3]) (by kernel_rfl) (by simp) (AllReadyH.cons rfl (fun K hK => ?_) AllReadyH.nil)
      go_simp
      (go_at_call 28; refine (T _).mono ?_; rintro e w7 ⟨rfl, b7⟩)
      (try go_wp2_with fail)
      refine hK.out _ _ (⟨⟨_, _, Blk.below hS_.1.choose_spec.choose_spec b7⟩, NumAt.below hS_.2.1 b7, NumAt.below hS_.2.2.1 b7, below_then hS_.2.2.2 b7 hS_.2.2.2.size⟩) (fun hS_ => ?_)
      clear hK K
      (try simp only [Act.put, List.setIfInBounds_toArray, List.set_cons_zero, List.set_cons_succ])
      refine wpAnyH_ready (rs := [4]) (by kernel_rfl) (by simp) (AllReadyH.cons rfl (fun K hK => ?_) AllReadyH.nil)
      go_simp
      (go_at_call 27; refine (L _).mono ?_; rintro e w8 ⟨rfl, b8⟩)
      (try go_wp2_with fail)
      refine hK.out _ _ (⟨⟨_, _, Blk.below hS_.1.choose_spec.choose_spec b8⟩, NumAt.below hS_.2.1 b8, NumAt.below hS_.2.2.1 b8, below_then hS_.2.2.2 b8 hS_.2.2.2.size⟩) (fun hS_ => ?_)
      clear hK K
      (try simp only [Act.put, List.setIfInBounds_toArray, List.set_cons_zero, List.set_cons_succ])
      refine wpAnyH_ready (rs := [5]) (by kernel_rfl) (by simp) (AllReadyH.cons rfl (fun K hK => ?_) AllReadyH.nil)
      go_simp
      (go_at_call 29; refine (Z _).mono ?_; rintro e w9 ⟨rfl, b9⟩)
      (try go_wp2_with fail)
      refine hK.out _ _ (⟨⟨_, _, Blk.below hS_.1.choose_spec.choose_spec b9⟩, NumAt.below hS_.2.1 b9, NumAt.below hS_.2.2.1 b9, below_then hS_.2.2.2 b9 hS_.2.2.2.size⟩) (fun hS_ => ?_)
      clear hK K
      (try simp only [Act.put, List.setIfInBounds_toArray, List.set_cons_zero, List.set_cons_succ])
      obtain ⟨⟨x9, y9, R9⟩, S1, S2, S3⟩ := hS_
      obtain ⟨r0, r1, r2, r3⟩ := Blk.cells2 R9
      have hS_ : True := trivial
      refine wpAnyH_ready (rs := [6]) (by kernel_rfl) (by simp) (AllReadyH.cons rfl (fun K hK => ?_) AllReadyH.nil)
      go_simp
      (try go_wp2_with fail)
      refine hK.out _ _ (⟨⟨_, _, Blk.set2 R9⟩, Blk.far2 S1 (by omega), Blk.far2 S2 (by omega), below_set2 S3 (Nat.le_refl _)⟩) (fun hS_ => ?_)
      clear hK K
      (try simp only [Act.put, List.setIfInBounds_toArray, List.set_cons_zero, List.set_cons_succ])
      refine wpAnyH_done (by kernel_rfl) ?_ _
      go_wp2
      refine bodyPost_ret (results_cell_row rfl _ _ w.heap.size 25 #[.int .i64 (I128.enc (a0 * a1)).1, .int .u64 (I128.enc (a0 * a1)).2] (0, 0) _ rfl (Blk.set2 R9) Try.underlying25 rfl (by kernel_rfl)) rfl ?_
      exact ⟨rfl, below_set2 S3 (Nat.le_refl _)⟩
    · have T := num_times_any a0 a1
      have Z := num_told_any (a0 * a1)
      go_enter Try.func14, Try.ntmps14
      go_wp2_with fail
      refine (ref_of_any a0 _).mono ?_
      rintro e w1 ⟨rfl, b1⟩
      go_wp2_with fail
      refine (X _).mono ?_
      rintro e w2 ⟨rfl, b2⟩
      have hst := store_fresh w2 (dig a0)
      go_wp2_with fail
      refine (Y _).mono ?_
      rintro e w3 ⟨rfl, b3⟩
      have hst3 := store_fresh w3 (dig a1)
      obtain ⟨R1, G2, G3, B3⟩ := times_heap (a1 := a1) b1 b2 b3
      go_wp2_with (first | (refine load_blk rfl 44 (.tmp 5) rfl w2.heap.size rfl G2 Try.underlying44 rfl (by kernel_rfl) ?_) | (refine load_blk rfl 44 (.tmp 6) rfl w3.heap.size rfl G3 Try.underlying44 rfl (by kernel_rfl) ?_) | (go_at_call 28; refine (T _).mono ?_; rintro e w7 ⟨rfl, b7⟩) | (go_at_call 29; refine (Z _).mono ?_; rintro e w8 ⟨rfl, b8⟩; have R9 := (R1.below b7).below b8; obtain ⟨r0, r1, r2, r3⟩ := Blk.cells2 R9))
      have S3 := below_next (below_next B3 b7) b8
      refine bodyPost_ret (results_cell_row rfl _ _ w.heap.size 25 #[.int .i64 (I128.enc (a0 * a1)).1, .int .u64 (I128.enc (a0 * a1)).2] (0, 0) _ rfl (Blk.set2 R9) Try.underlying25 rfl (by kernel_rfl)) rfl ?_
      exact ⟨rfl, below_set2 S3 (Nat.le_refl _)⟩

end Go.Proofs.Ytglhfknlemaidaa
