/-
  The reference's Cmp tells which of two numbers is below the other.
-/
import Derived.Test.YtglhfknlemaidaaWdNum
import Derived.Test.YtglhfknlemaidaaWdCmpPlain
namespace Go.Proofs.Ytglhfknlemaidaa
open Go.RowKit
set_option linter.unusedVariables false
set_option linter.unusedSimpArgs false

theorem num_below_is {a : Int} (h : i128ok a) {s : Bool} (hs : decide (a < 0) = s) (w : World) :
    Calls Try.prog 35 #[.agg (cellsOf (dig a))] w fun e w' => e = .returned (.bool s) ∧ Below w.heap.size w w' := by
  refine (num_below_any a w).mono ?_
  rintro e w' ⟨rfl, hb⟩
  refine ⟨?_, hb⟩
  rw [← hs]; simp [sign_dig h]

def inclineref01_Cmp.f (a0_0 a0_1 a1_0 a1_1 : Int) : Option Int := if i64ok a0_0 ∧ u64ok a0_1 ∧ i64ok a1_0 ∧ u64ok a1_1 then some (cmpI (I128.val a0_0 a0_1) (I128.val a1_0 a1_1)) else none

set_option maxHeartbeats 1600000 in
theorem inclineref01_Cmp.calls (a0_0 a0_1 a1_0 a1_1 r : Int) (w : World) (h : inclineref01_Cmp.f a0_0 a0_1 a1_0 a1_1 = some r) :
    Calls Try.prog 22 #[.agg #[.int .i64 a0_0, .int .u64 a0_1], .agg #[.int .i64 a1_0, .int .u64 a1_1]] w fun e w' => e = .returned (.int .i64 r) ∧ Below w.heap.size w w' := by
  unfold inclineref01_Cmp.f at h
  split at h
  case isFalse => exact absurd h (by simp)
  case isTrue hr =>
    obtain ⟨h1, h2, h3, h4⟩ := hr
    obtain rfl := Option.some.inj h
    clear h
    have X := num_of_any a0_0 a0_1 h1 h2
    have Y := num_of_any a1_0 a1_1 h3 h4
    have oa := I128.val_ok h1 h2
    have ob := I128.val_ok h3 h4
    have R2 : Blk ((w.alloc (.cells #[.int .i64 a0_0, .int .u64 a0_1] 25)).alloc (.cells #[.int .i64 a1_0, .int .u64 a1_1] 25)) (w.heap.size + 1) 25 #[.int .i64 a1_0, .int .u64 a1_1] := Blk.new' _ _ (by simp)
    generalize I128.val a0_0 a0_1 = a at *
    generalize I128.val a1_0 a1_1 = b at *
    obtain ⟨sa, hsa⟩ : ∃ s, decide (a < 0) = s := ⟨_, rfl⟩
    obtain ⟨sb, hsb⟩ : ∃ s, decide (b < 0) = s := ⟨_, rfl⟩
    have BA := num_below_is oa hsa
    have BB := num_below_is ob hsb
    have HA := Lib.hid hsa; have HB := Lib.hid hsb; clear hsa hsb
    go_enter Try.func22, Try.ntmps22
    go_wp2_with fail
    refine (X _).mono ?_
    rintro e w1 ⟨rfl, b1⟩
    have hst := store_fresh w1 (dig a)
    have R3 := (R2.below b1).alloc (.cells (cellsOf (dig a)) 44)
    obtain ⟨q0, q1, q2, q3⟩ := R3.cells2
    go_wp2_with fail
    refine (Y _).mono ?_
    rintro e w2 ⟨rfl, b2⟩
    have hst2 := store_fresh w2 (dig b)
    go_wp2_with fail
    have G1 := ((NumAt.new w1 (dig a)).below b2).alloc (.cells (cellsOf (dig b)) 44)
    have G2 := NumAt.new w2 (dig b)
    have B2 := below_new (below_next (below_new (below_next (below_new (below_new (Below.refl w.heap.size w) (.cells #[.int .i64 a0_0, .int .u64 a0_1] 25)) (.cells #[.int .i64 a1_0, .int .u64 a1_1] 25)) b1) (.cells (cellsOf (dig a)) 44)) b2) (.cells (cellsOf (dig b)) 44)
    clear hst hst2 q0 q1 q2 q3 R3 R2
    generalize w2.alloc (.cells (cellsOf (dig b)) 44) = W at *
    cases sa <;> cases sb
    · refine wp_region_held_drew (S := (fun w' => NumAt w' w1.heap.size (dig a) ∧ NumAt w' w2.heap.size (dig b) ∧ Below w.heap.size w w')) (by kernel_rfl) (⟨G1.drew, G2.drew, B2.drew⟩) (fun hS_ => ?_)
      refine wpAnyH_take (i := 0) rfl (by kernel_rfl) (by kernel_rfl) (by kernel_rfl) (fun _ _ _ h => h) (yields_load_blk rfl 44 (.tmp 5) rfl w1.heap.size rfl (fun w h => h.1) Try.underlying44 rfl (by kernel_rfl)) hS_ ?_
      (try simp only [Act.put, List.setIfInBounds_toArray, List.set_cons_zero, List.set_cons_succ])
      refine wpAnyH_take (i := 2) rfl (by kernel_rfl) (by kernel_rfl) (by kernel_rfl) (fun _ _ _ h => h) (yields_load_blk rfl 44 (.tmp 6) rfl w2.heap.size rfl (fun w h => h.2.1) Try.underlying44 rfl (by kernel_rfl)) hS_ ?_
      (try simp only [Act.put, List.setIfInBounds_toArray, List.set_cons_zero, List.set_cons_succ])
      refine wpAnyH_ready (rs := [1]) (by kernel_rfl) (by simp) (AllReadyH.cons rfl (fun K hK => ?_) AllReadyH.nil)
      go_simp
      (go_at_call 35; refine (BA _).mono ?_; rintro e w4 ⟨rfl, b4⟩)
      (try go_wp2_with fail)
      refine hK.out _ _ (⟨NumAt.below hS_.1 b4, NumAt.below hS_.2.1 b4, below_then hS_.2.2 b4 hS_.2.2.size⟩) (fun hS_ => ?_)
      clear hK K
      (try simp only [Act.put, List.setIfInBounds_toArray, List.set_cons_zero, List.set_cons_succ])
      refine wpAnyH_ready (rs := [3]) (by kernel_rfl) (by simp) (AllReadyH.cons rfl (fun K hK => ?_) AllReadyH.nil)
      go_simp
      (go_at_call 35; refine (BB _).mono ?_; rintro e w5 ⟨rfl, b5⟩)
      (try go_wp2_with fail)
      refine hK.out _ _ (⟨NumAt.below hS_.1 b5, NumAt.below hS_.2.1 b5, below_then hS_.2.2 b5 hS_.2.2.size⟩) (fun hS_ => ?_)
      clear hK K
      (try simp only [Act.put, List.setIfInBounds_toArray, List.set_cons_zero, List.set_cons_succ])
      refine wpAnyH_ready (rs := [4]) (by kernel_rfl) (by simp) (AllReadyH.cons rfl (fun K hK => ?_) AllReadyH.nil)
      go_simp
      (try go_wp2_with fail)
      refine hK.out _ _ (hS_) (fun hS_ => ?_)
      clear hK K
      (try simp only [Act.put, List.setIfInBounds_toArray, List.set_cons_zero, List.set_cons_succ])
      refine wpAnyH_done (by kernel_rfl) ?_ _
      obtain ⟨S1, S2, S3⟩ := hS_
      have hsg : a < 0 ↔ b < 0 := by have h1_ := HA.out; have h2_ := HB.out; simp at h1_ h2_; omega
      have HG := Lib.hid hsg
      clear hsg
      go_wp2
      go_loopw [7] (fun i wr => ∃ k : Nat, k ≤ 8 ∧ i = .int .i64 ((k : Int) - 1) ∧ Hid (top a k = top b k) ∧ NumAt wr w1.heap.size (dig a) ∧ NumAt wr w2.heap.size (dig b) ∧ Below w.heap.size w wr) (fun i _ => (intOf i + 1).toNat)
      case atStart => exact ⟨8, by omega, rfl, Lib.hid (by rw [top_eight, top_eight]), S1, S2, S3⟩
      case round =>
        obtain ⟨k, hk, rfl, ht, H1, H2, H3⟩ := hrel
        by_cases hlt : 0 < k
        · obtain ⟨m, rfl⟩ : ∃ m, k = m + 1 := ⟨k - 1, by omega⟩
          have c1 := H1.cell m (by omega)
          have c2 := H2.cell m (by omega)
          by_cases hd : dig a m < dig b m
          · have fin := Lib.hid (cmp_less oa ob HG.out m (by omega) ht.out hd)
            go_wp2
            go_quiet (fail)
            go_wp2
            go_ret
            exact ⟨by rw [fin.out]; rfl, by first | exact drewN_below H3 _ | exact drewN_below (drewN_below H3 _) _⟩
          · by_cases hd2 : dig b m < dig a m
            · have fin := Lib.hid (cmp_more oa ob HG.out m (by omega) ht.out hd2)
              go_wp2
              go_quiet (fail)
              go_wp2
              go_quiet (fail)
              go_wp2
              go_ret
              exact ⟨by rw [fin.out]; rfl, by first | exact drewN_below H3 _ | exact drewN_below (drewN_below H3 _) _⟩
            · have nxt := Lib.hid (show top a m = top b m from by rw [top_succ a m (by omega), top_succ b m (by omega), ht.out]; omega)
              go_wp2
              go_quiet (fail)
              go_wp2
              go_quiet (fail)
              go_wp2
              go_roundw
              case rel => exact ⟨m, by omega, rfl, nxt, H1, H2, drewN_below H3 _⟩
              case measure => simp [intOf]
        · obtain rfl : k = 0 := by omega
          have fin := Lib.hid (cmp_same oa ob ht.out)
          go_wp2
          go_ret
          exact ⟨by rw [fin.out]; rfl, H3⟩
    · refine wp_region_held_drew (S := (fun w' => NumAt w' w1.heap.size (dig a) ∧ NumAt w' w2.heap.size (dig b) ∧ Below w.heap.size w w')) (by kernel_rfl) (⟨G1.drew, G2.drew, B2.drew⟩) (fun hS_ => ?_)
      refine wpAnyH_take (i := 0) rfl (by kernel_rfl) (by kernel_rfl) (by kernel_rfl) (fun _ _ _ h => h) (yields_load_blk rfl 44 (.tmp 5) rfl w1.heap.size rfl (fun w h => h.1) Try.underlying44 rfl (by kernel_rfl)) hS_ ?_
      (try simp only [Act.put, List.setIfInBounds_toArray, List.set_cons_zero, List.set_cons_succ])
      refine wpAnyH_take (i := 2) rfl (by kernel_rfl) (by kernel_rfl) (by kernel_rfl) (fun _ _ _ h => h) (yields_load_blk rfl 44 (.tmp 6) rfl w2.heap.size rfl (fun w h => h.2.1) Try.underlying44 rfl (by kernel_rfl)) hS_ ?_
      (try simp only [Act.put, List.setIfInBounds_toArray, List.set_cons_zero, List.set_cons_succ])
      refine wpAnyH_ready (rs := [1]) (by kernel_rfl) (by simp) (AllReadyH.cons rfl (fun K hK => ?_) AllReadyH.nil)
      go_simp
      (go_at_call 35; refine (BA _).mono ?_; rintro e w4 ⟨rfl, b4⟩)
      (try go_wp2_with fail)
      refine hK.out _ _ (⟨NumAt.below hS_.1 b4, NumAt.below hS_.2.1 b4, below_then hS_.2.2 b4 hS_.2.2.size⟩) (fun hS_ => ?_)
      clear hK K
      (try simp only [Act.put, List.setIfInBounds_toArray, List.set_cons_zero, List.set_cons_succ])
      refine wpAnyH_ready (rs := [3]) (by kernel_rfl) (by simp) (AllReadyH.cons rfl (fun K hK => ?_) AllReadyH.nil)
      go_simp
      (go_at_call 35; refine (BB _).mono ?_; rintro e w5 ⟨rfl, b5⟩)
      (try go_wp2_with fail)
      refine hK.out _ _ (⟨NumAt.below hS_.1 b5, NumAt.below hS_.2.1 b5, below_then hS_.2.2 b5 hS_.2.2.size⟩) (fun hS_ => ?_)
      clear hK K
      (try simp only [Act.put, List.setIfInBounds_toArray, List.set_cons_zero, List.set_cons_succ])
      refine wpAnyH_ready (rs := [4]) (by kernel_rfl) (by simp) (AllReadyH.cons rfl (fun K hK => ?_) AllReadyH.nil)
      go_simp
      (try go_wp2_with fail)
      refine hK.out _ _ (hS_) (fun hS_ => ?_)
      clear hK K
      (try simp only [Act.put, List.setIfInBounds_toArray, List.set_cons_zero, List.set_cons_succ])
      refine wpAnyH_done (by kernel_rfl) ?_ _
      obtain ⟨S1, S2, S3⟩ := hS_
      go_wp2_with (first | (refine load_blk rfl 44 (.tmp 5) rfl w1.heap.size rfl S1 Try.underlying44 rfl (by kernel_rfl) ?_) | (go_at_call 35; refine (BA _).mono ?_; rintro e w6 ⟨rfl, b6⟩))
      go_ret
      exact ⟨by rw [cmpI_gt (show b < a from by have := of_decide_eq_false HA.out; have := of_decide_eq_true HB.out; omega)]; rfl, below_next S3 b6⟩
    · refine wp_region_held_drew (S := (fun w' => NumAt w' w1.heap.size (dig a) ∧ NumAt w' w2.heap.size (dig b) ∧ Below w.heap.size w w')) (by kernel_rfl) (⟨G1.drew, G2.drew, B2.drew⟩) (fun hS_ => ?_)
      refine wpAnyH_take (i := 0) rfl (by kernel_rfl) (by kernel_rfl) (by kernel_rfl) (fun _ _ _ h => h) (yields_load_blk rfl 44 (.tmp 5) rfl w1.heap.size rfl (fun w h => h.1) Try.underlying44 rfl (by kernel_rfl)) hS_ ?_
      (try simp only [Act.put, List.setIfInBounds_toArray, List.set_cons_zero, List.set_cons_succ])
      refine wpAnyH_take (i := 2) rfl (by kernel_rfl) (by kernel_rfl) (by kernel_rfl) (fun _ _ _ h => h) (yields_load_blk rfl 44 (.tmp 6) rfl w2.heap.size rfl (fun w h => h.2.1) Try.underlying44 rfl (by kernel_rfl)) hS_ ?_
      (try simp only [Act.put, List.setIfInBounds_toArray, List.set_cons_zero, List.set_cons_succ])
      refine wpAnyH_ready (rs := [1]) (by kernel_rfl) (by simp) (AllReadyH.cons rfl (fun K hK => ?_) AllReadyH.nil)
      go_simp
      (go_at_call 35; refine (BA _).mono ?_; rintro e w4 ⟨rfl, b4⟩)
      (try go_wp2_with fail)
      refine hK.out _ _ (⟨NumAt.below hS_.1 b4, NumAt.below hS_.2.1 b4, below_then hS_.2.2 b4 hS_.2.2.size⟩) (fun hS_ => ?_)
      clear hK K
      (try simp only [Act.put, List.setIfInBounds_toArray, List.set_cons_zero, List.set_cons_succ])
      refine wpAnyH_ready (rs := [3]) (by kernel_rfl) (by simp) (AllReadyH.cons rfl (fun K hK => ?_) AllReadyH.nil)
      go_simp
      (go_at_call 35; refine (BB _).mono ?_; rintro e w5 ⟨rfl, b5⟩)
      (try go_wp2_with fail)
      refine hK.out _ _ (⟨NumAt.below hS_.1 b5, NumAt.below hS_.2.1 b5, below_then hS_.2.2 b5 hS_.2.2.size⟩) (fun hS_ => ?_)
      clear hK K
      (try simp only [Act.put, List.setIfInBounds_toArray, List.set_cons_zero, List.set_cons_succ])
      refine wpAnyH_ready (rs := [4]) (by kernel_rfl) (by simp) (AllReadyH.cons rfl (fun K hK => ?_) AllReadyH.nil)
      go_simp
      (try go_wp2_with fail)
      refine hK.out _ _ (hS_) (fun hS_ => ?_)
      clear hK K
      (try simp only [Act.put, List.setIfInBounds_toArray, List.set_cons_zero, List.set_cons_succ])
      refine wpAnyH_done (by kernel_rfl) ?_ _
      obtain ⟨S1, S2, S3⟩ := hS_
      go_wp2_with (first | (refine load_blk rfl 44 (.tmp 5) rfl w1.heap.size rfl S1 Try.underlying44 rfl (by kernel_rfl) ?_) | (go_at_call 35; refine (BA _).mono ?_; rintro e w6 ⟨rfl, b6⟩))
      go_ret
      exact ⟨by rw [cmpI_lt (show a < b from by have := of_decide_eq_true HA.out; have := of_decide_eq_false HB.out; omega)]; rfl, below_next S3 b6⟩
    · refine wp_region_held_drew (S := (fun w' => NumAt w' w1.heap.size (dig a) ∧ NumAt w' w2.heap.size (dig b) ∧ Below w.heap.size w w')) (by kernel_rfl) (⟨G1.drew, G2.drew, B2.drew⟩) (fun hS_ => ?_)
      refine wpAnyH_take (i := 0) rfl (by kernel_rfl) (by kernel_rfl) (by kernel_rfl) (fun _ _ _ h => h) (yields_load_blk rfl 44 (.tmp 5) rfl w1.heap.size rfl (fun w h => h.1) Try.underlying44 rfl (by kernel_rfl)) hS_ ?_
      (try simp only [Act.put, List.setIfInBounds_toArray, List.set_cons_zero, List.set_cons_succ])
      refine wpAnyH_take (i := 2) rfl (by kernel_rfl) (by kernel_rfl) (by kernel_rfl) (fun _ _ _ h => h) (yields_load_blk rfl 44 (.tmp 6) rfl w2.heap.size rfl (fun w h => h.2.1) Try.underlying44 rfl (by kernel_rfl)) hS_ ?_
      (try simp only [Act.put, List.setIfInBounds_toArray, List.set_cons_zero, List.set_cons_succ])
      refine wpAnyH_ready (rs := [1]) (by kernel_rfl) (by simp) (AllReadyH.cons rfl (fun K hK => ?_) AllReadyH.nil)
      go_simp
      (go_at_call 35; refine (BA _).mono ?_; rintro e w4 ⟨rfl, b4⟩)
      (try go_wp2_with fail)
      refine hK.out _ _ (⟨NumAt.below hS_.1 b4, NumAt.below hS_.2.1 b4, below_then hS_.2.2 b4 hS_.2.2.size⟩) (fun hS_ => ?_)
      clear hK K
      (try simp only [Act.put, List.setIfInBounds_toArray, List.set_cons_zero, List.set_cons_succ])
      refine wpAnyH_ready (rs := [3]) (by kernel_rfl) (by simp) (AllReadyH.cons rfl (fun K hK => ?_) AllReadyH.nil)
      go_simp
      (go_at_call 35; refine (BB _).mono ?_; rintro e w5 ⟨rfl, b5⟩)
      (try go_wp2_with fail)
      refine hK.out _ _ (⟨NumAt.below hS_.1 b5, NumAt.below hS_.2.1 b5, below_then hS_.2.2 b5 hS_.2.2.size⟩) (fun hS_ => ?_)
      clear hK K
      (try simp only [Act.put, List.setIfInBounds_toArray, List.set_cons_zero, List.set_cons_succ])
      refine wpAnyH_ready (rs := [4]) (by kernel_rfl) (by simp) (AllReadyH.cons rfl (fun K hK => ?_) AllReadyH.nil)
      go_simp
      (try go_wp2_with fail)
      refine hK.out _ _ (hS_) (fun hS_ => ?_)
      clear hK K
      (try simp only [Act.put, List.setIfInBounds_toArray, List.set_cons_zero, List.set_cons_succ])
      refine wpAnyH_done (by kernel_rfl) ?_ _
      obtain ⟨S1, S2, S3⟩ := hS_
      have hsg : a < 0 ↔ b < 0 := by have h1_ := HA.out; have h2_ := HB.out; simp at h1_ h2_; omega
      have HG := Lib.hid hsg
      clear hsg
      go_wp2
      go_loopw [7] (fun i wr => ∃ k : Nat, k ≤ 8 ∧ i = .int .i64 ((k : Int) - 1) ∧ Hid (top a k = top b k) ∧ NumAt wr w1.heap.size (dig a) ∧ NumAt wr w2.heap.size (dig b) ∧ Below w.heap.size w wr) (fun i _ => (intOf i + 1).toNat)
      case atStart => exact ⟨8, by omega, rfl, Lib.hid (by rw [top_eight, top_eight]), S1, S2, S3⟩
      case round =>
        obtain ⟨k, hk, rfl, ht, H1, H2, H3⟩ := hrel
        by_cases hlt : 0 < k
        · obtain ⟨m, rfl⟩ : ∃ m, k = m + 1 := ⟨k - 1, by omega⟩
          have c1 := H1.cell m (by omega)
          have c2 := H2.cell m (by omega)
          by_cases hd : dig a m < dig b m
          · have fin := Lib.hid (cmp_less oa ob HG.out m (by omega) ht.out hd)
            go_wp2
            go_quiet (fail)
            go_wp2
            go_ret
            exact ⟨by rw [fin.out]; rfl, by first | exact drewN_below H3 _ | exact drewN_below (drewN_below H3 _) _⟩
          · by_cases hd2 : dig b m < dig a m
            · have fin := Lib.hid (cmp_more oa ob HG.out m (by omega) ht.out hd2)
              go_wp2
              go_quiet (fail)
              go_wp2
              go_quiet (fail)
              go_wp2
              go_ret
              exact ⟨by rw [fin.out]; rfl, by first | exact drewN_below H3 _ | exact drewN_below (drewN_below H3 _) _⟩
            · have nxt := Lib.hid (show top a m = top b m from by rw [top_succ a m (by omega), top_succ b m (by omega), ht.out]; omega)
              go_wp2
              go_quiet (fail)
              go_wp2
              go_quiet (fail)
              go_wp2
              go_roundw
              case rel => exact ⟨m, by omega, rfl, nxt, H1, H2, drewN_below H3 _⟩
              case measure => simp [intOf]
        · obtain rfl : k = 0 := by omega
          have fin := Lib.hid (cmp_same oa ob ht.out)
          go_wp2
          go_ret
          exact ⟨by rw [fin.out]; rfl, H3⟩

end Go.Proofs.Ytglhfknlemaidaa
