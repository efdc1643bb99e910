/-
  The reference's numbers of eight digits: each operation comes to the digits of the sum, the difference, the product.
-/
import Derived.Test.YtglhfknlemaidaaProg
import Derived.Test.YtglhfknlemaidaaWdDigs
import Derived.Test.YtglhfknlemaidaaHw
namespace Go.Proofs.Ytglhfknlemaidaa
open Go.RowKit
set_option linter.unusedVariables false
set_option linter.unusedSimpArgs false

/-- A number's cells. -/
def cellsOf (f : Nat → Int) : Array Value := #[.int .i64 (f 0), .int .i64 (f 1), .int .i64 (f 2), .int .i64 (f 3), .int .i64 (f 4), .int .i64 (f 5), .int .i64 (f 6), .int .i64 (f 7)]
theorem cellsOf_size (f : Nat → Int) : (cellsOf f).size = 8 := rfl
theorem cellsOf_get (f : Nat → Int) (k : Nat) (hk : k < 8) : (cellsOf f)[k]? = some (.int .i64 (f k)) := by
  refine lt8 (P := fun k => (cellsOf f)[k]? = some (.int .i64 (f k))) ?_ ?_ ?_ ?_ ?_ ?_ ?_ ?_ k hk <;> rfl
theorem cellsOf_congr {f g : Nat → Int} (h : ∀ j, j < 8 → f j = g j) : cellsOf f = cellsOf g := by
  unfold cellsOf
  rw [h 0 (by omega), h 1 (by omega), h 2 (by omega), h 3 (by omega), h 4 (by omega), h 5 (by omega), h 6 (by omega), h 7 (by omega)]
theorem cellsOf_set (f : Nat → Int) (k : Nat) (v : Int) (hk : k < 8) : (cellsOf f).setIfInBounds k (.int .i64 v) = cellsOf (fun j => if j = k then v else f j) := by
  refine lt8 (P := fun k => (cellsOf f).setIfInBounds k (.int .i64 v) = cellsOf (fun j => if j = k then v else f j)) ?_ ?_ ?_ ?_ ?_ ?_ ?_ ?_ k hk <;> rfl
/-- A block that holds such cells. -/
abbrev NumAt (w : World) (g : Nat) (f : Nat → Int) : Prop := Blk w g 44 (cellsOf f)
section
variable {w w1 : World} {g : Nat} {f : Nat → Int}
theorem NumAt.cell (h : NumAt w g f) (k : Nat) (hk : k < 8) : w.cell? ⟨g, k, none⟩ = some (.int .i64 (f k)) := (Blk.cell h k).trans (cellsOf_get f k hk)
theorem NumAt.free (h : NumAt w g f) (k : Nat) : w.frozen? ⟨g, k, none⟩ = false := Blk.free h k
theorem NumAt.set (h : NumAt w g f) (k : Nat) (v : Int) (hk : k < 8) : NumAt (w.setCell ⟨g, k, none⟩ (.int .i64 v)) g (fun j => if j = k then v else f j) := (Blk.set h k _).congr (cellsOf_set f k v hk)
theorem NumAt.far (h : NumAt w g f) {a : Addr} (v : Value) (hne : g ≠ a.block) : NumAt (w.setCell a v) g f := Blk.far h v hne
theorem NumAt.congr {f' : Nat → Int} (h : NumAt w g f) (hf : ∀ j, j < 8 → f j = f' j) : NumAt w g f' := Blk.congr h (cellsOf_congr hf)
theorem NumAt.lt (h : NumAt w g f) : g < w.heap.size := Blk.lt h
theorem NumAt.drewN (h : NumAt w g f) (n : Nat) : NumAt (w.drewN n) g f := h
theorem NumAt.alloc (h : NumAt w g f) (o : Obj) : NumAt (w.alloc o) g f := Blk.alloc h o
theorem cellsOf_one (f : Nat → Int) : ∀ v ∈ (cellsOf f).toList, v.oneCell' = true := by
  intro v hv; simp [cellsOf] at hv; rcases hv with rfl | rfl | rfl | rfl | rfl | rfl | rfl | rfl <;> rfl
theorem NumAt.store (h : NumAt w g f) (f' : Nat → Int) : (storeCells ⟨g, 0, none⟩ (cellsOf f').toList).run Try.prog w = .ok () (w.setRow g (cellsOf f')) := Blk.storeAll h _ rfl (cellsOf_one f')
theorem NumAt.row (h : NumAt w g f) (f' : Nat → Int) : NumAt (w.setRow g (cellsOf f')) g f' := Blk.row h _
theorem NumAt.rowFar (h : NumAt w g f) {g' : Nat} (cs : Array Value) (hne : g ≠ g') : NumAt (w.setRow g' cs) g f := Blk.rowFar h cs hne
theorem NumAt.below (h : NumAt w g f) (hb : Below w.heap.size w w1) : NumAt w1 g f := Blk.below h hb
theorem NumAt.new (w : World) (f : Nat → Int) : NumAt (w.alloc (.cells (cellsOf f) 44)) w.heap.size f := Blk.new w _ _
theorem NumAt.new' (f : Nat → Int) (hg : g = w.heap.size) : NumAt (w.alloc (.cells (cellsOf f) 44)) g f := Blk.new' _ _ hg
end
/-- A fresh variable, stored whole: as if it had been laid so. -/
theorem store_fresh (w : World) (f : Nat → Int) : (storeCells ⟨w.heap.size, 0, none⟩ (cellsOf f).toList).run Try.prog (w.alloc (.cells #[.int .i64 0, .int .i64 0, .int .i64 0, .int .i64 0, .int .i64 0, .int .i64 0, .int .i64 0, .int .i64 0] 44)) = .ok () (w.alloc (.cells (cellsOf f) 44)) := by
  refine (NumAt.store (f := fun _ => 0) (heap_alloc_new w _) f).trans ?_
  rw [World.setRow_alloc_new]

set_option maxHeartbeats 800000 in
theorem num_plus_any (a b : Int) (w : World) :
    Calls Try.prog 31 #[.agg (cellsOf (dig a)), .agg (cellsOf (dig b))] w fun e w' => e = .returned (.agg (cellsOf (dig (a + b)))) ∧ Below w.heap.size w w' := by
  go_enter Try.func31, Try.ntmps31
  go_wp2
  go_loopw [5, 6] (fun c i wr => ∃ k : Nat, k ≤ 8 ∧ i = .int .i64 k ∧ c = .int .i64 (carr a b k) ∧ NumAt wr w.heap.size (fun j => if j < k then dig (a + b) j else dig a j) ∧ NumAt wr (w.heap.size + 1) (dig b) ∧ NumAt wr (w.heap.size + 1 + 1) (fun _ => 0) ∧ Below w.heap.size w wr) (fun _ i _ => 8 - (intOf i).toNat)
  case atStart =>
    refine ⟨0, by omega, rfl, by rw [carr_zero], ?_, ?_, NumAt.new' (fun _ => 0) (by simp), (((Below.refl _ _).alloc (Nat.le_refl _) _).alloc (by simp) _).alloc (by simp; omega) _⟩
    · exact (((NumAt.new w (dig a)).alloc _).alloc _).congr fun j _ => by simp
    · exact (NumAt.new' (dig b) (by simp)).alloc _
  case round =>
    obtain ⟨k, hk, rfl, rfl, H0, H1, H2, HB⟩ := hrel
    by_cases hlt : k < 8
    · have c0 := H0.cell k hlt
      have c1 := H1.cell k hlt
      have f0 := H0.free k
      simp only [Nat.lt_irrefl, if_false] at c0
      have ra := dig_range a k
      have rb := dig_range b k
      have rc := carr_range a b k
      go_wp2
      go_quiet (fail)
      go_wp2
      go_roundw
      case rel =>
        refine ⟨k + 1, by omega, by go_num, by rw [plus_carr a b k hlt], ?_, (H1.drewN nq).far _ (by simp), (H2.drewN nq).far _ (by simp; omega), ?_⟩
        · refine ((H0.drewN nq).set k _ hlt).congr fun j hj => ?_
          rw [plus_dig a b k hlt]
          by_cases h : j = k
          · subst h; simp
          · simp only [h, if_false]; by_cases h2 : j < k <;> simp [h2] <;> omega
        · exact (drewN_below HB nq).setCell (Nat.le_refl _) _
      case measure => simp [intOf]; omega
    · have hk8 : k = 8 := by omega
      have H0' : NumAt wr w.heap.size (dig (a + b)) := H0.congr fun j hj => if_pos (by omega)
      clear H0 hk8
      have hst := H2.store (dig (a + b))
      go_wp2_with (refine wpList_load_row rfl 44 _ rfl w.heap.size rfl 44 (cellsOf (dig (a + b))) (0, 0) _ H0' Try.underlying44 rfl (by kernel_rfl) ?_)
      refine bodyPost_ret (results_cell_row rfl _ _ (w.heap.size + 1 + 1) 44 (cellsOf (dig (a + b))) (0, 0) _ rfl (H2.row _) Try.underlying44 rfl (by kernel_rfl)) rfl ?_
      exact ⟨rfl, below_setRow HB (by omega) _⟩

set_option maxHeartbeats 800000 in
theorem num_less_any (a : Int) (w : World) :
    Calls Try.prog 27 #[.agg (cellsOf (dig a))] w fun e w' => e = .returned (.agg (cellsOf (dig (-a)))) ∧ Below w.heap.size w w' := by
  go_enter Try.func27, Try.ntmps27
  go_wp2
  go_loopw [4] (fun i wr => ∃ k : Nat, k ≤ 8 ∧ i = .int .i64 k ∧ NumAt wr w.heap.size (fun j => if j < k then dig (-a - 1) j else dig a j) ∧ NumAt wr (w.heap.size + 1) (fun _ => 0) ∧ NumAt wr (w.heap.size + 1 + 1) (dig 1) ∧ Below w.heap.size w wr) (fun i _ => 8 - (intOf i).toNat)
  case atStart =>
    refine ⟨0, by omega, rfl, ?_, (NumAt.new' (fun _ => 0) (by simp)).alloc _, NumAt.new' (dig 1) (by simp), (((Below.refl _ _).alloc (Nat.le_refl _) _).alloc (by simp) _).alloc (by simp; omega) _⟩
    exact (((NumAt.new w (dig a)).alloc _).alloc _).congr fun j _ => by simp
  case round =>
    obtain ⟨k, hk, rfl, H0, H1, H2, HB⟩ := hrel
    have hp := num_plus_any (-a - 1) 1
    rw [show -a - 1 + 1 = -a from by omega] at hp
    have HP := Lib.hid hp
    clear hp
    by_cases hlt : k < 8
    · have c0 := H0.cell k hlt
      have f0 := H0.free k
      simp only [Nat.lt_irrefl, if_false] at c0
      have ra := dig_range a k
      go_wp2
      go_roundw
      case rel =>
        refine ⟨k + 1, by omega, by go_num, ?_, H1.far _ (by simp), H2.far _ (by simp; omega), ?_⟩
        · refine (H0.set k _ hlt).congr fun j hj => ?_
          by_cases h : j = k
          · subst h; have := less_dig a j hlt; simp; omega
          · simp only [h, if_false]; by_cases h2 : j < k <;> simp [h2] <;> omega
        · exact HB.setCell (Nat.le_refl _) _
      case measure => simp [intOf]; omega
    · have hk8 : k = 8 := by omega
      have H0' : NumAt wr w.heap.size (dig (-a - 1)) := H0.congr fun j hj => if_pos (by omega)
      clear H0 hk8
      go_wp2_with (first
        | (refine load_blk rfl 44 (.tmp 1) rfl w.heap.size rfl H0' Try.underlying44 rfl (by kernel_rfl) ?_)
        | (refine load_blk rfl 44 (.tmp 3) rfl (w.heap.size + 1 + 1) rfl H2 Try.underlying44 rfl (by kernel_rfl) ?_)
        | (go_at_call 31; refine (HP.out _).mono ?_; rintro e w1 ⟨rfl, hb⟩; have hst := (H1.below hb).store (dig (-a))))
      refine bodyPost_ret (results_cell_row rfl _ _ (w.heap.size + 1) 44 (cellsOf (dig (-a))) (0, 0) _ rfl ((H1.below hb).row _) Try.underlying44 rfl (by kernel_rfl)) rfl ?_
      exact ⟨rfl, below_setRow (HB.trans (hb.mono HB.size)) (by omega) _⟩

theorem of_lo (hi lo : Int) (h2 : u64ok lo) (k : Nat) (hk : k < 4) : lo / pw k % 65536 = dig (I128.val hi lo) k := by
  unfold u64ok at h2
  have : k = 0 ∨ k = 1 ∨ k = 2 ∨ k = 3 := by omega
  rcases this with rfl | rfl | rfl | rfl <;> (simp only [dig, pw, I128.val]; omega)
theorem of_hi (hi lo : Int) (h2 : u64ok lo) (k : Nat) (hk : k < 4) : IntKind.u64.wrap hi / pw k % 65536 = dig (I128.val hi lo) (4 + k) := by
  unfold u64ok at h2
  have : k = 0 ∨ k = 1 ∨ k = 2 ∨ k = 3 := by omega
  rcases this with rfl | rfl | rfl | rfl <;> (simp only [IntKind.wrap_u64, dig, pw, I128.val]; omega)
theorem of_next (x : Int) (k : Nat) (hk : k < 4) : x / pw k / 65536 = x / pw (k + 1) := by
  rw [pw_succ k (by omega), ← Int.ediv_ediv_of_nonneg (Int.le_of_lt (pw_pos k))]
theorem of_range (x : Int) (h0 : 0 ≤ x) (h1 : x ≤ 18446744073709551615) (k : Nat) (hk : k ≤ 4) : 0 ≤ x / pw k ∧ x / pw k ≤ 18446744073709551615 := by
  have : k = 0 ∨ k = 1 ∨ k = 2 ∨ k = 3 ∨ k = 4 := by omega
  rcases this with rfl | rfl | rfl | rfl | rfl <;> (simp only [pw]; omega)

set_option maxHeartbeats 800000 in
theorem num_of_any (hi lo : Int) (h1 : i64ok hi) (h2 : u64ok lo) (w : World) :
    Calls Try.prog 26 #[.agg #[.int .i64 hi, .int .u64 lo]] w fun e w' => e = .returned (.agg (cellsOf (dig (I128.val hi lo)))) ∧ Below w.heap.size w w' := by
  go_enter Try.func26, Try.ntmps26
  go_wp2
  go_loopw [4, 5, 6] (fun l h i wr => ∃ k : Nat, k ≤ 4 ∧ i = .int .i64 k ∧ l = .int .u64 (lo / pw k) ∧ h = .int .u64 (IntKind.u64.wrap hi / pw k) ∧ NumAt wr (w.heap.size + 1 + 1) (fun j => if j < k then dig (I128.val hi lo) j else if 4 ≤ j ∧ j < 4 + k then dig (I128.val hi lo) j else 0) ∧ NumAt wr (w.heap.size + 1) (fun _ => 0) ∧ Below w.heap.size w wr) (fun _ _ i _ => 4 - (intOf i).toNat)
  case atStart =>
    refine ⟨0, by omega, rfl, by simp [pw], by simp [pw], (NumAt.new' (fun _ => 0) (by simp)).congr fun j _ => by simp; omega, (NumAt.new' (fun _ => 0) (by simp)).alloc _, (((Below.refl _ _).alloc (Nat.le_refl _) _).alloc (by simp) _).alloc (by simp; omega) _⟩
  case round =>
    obtain ⟨k, hk, rfl, rfl, rfl, H0, H1, HB⟩ := hrel
    unfold u64ok at h2
    have rl := of_range lo h2.1 h2.2 k hk
    have ru := u64_range hi
    have rh := of_range _ ru.1 ru.2 k hk
    by_cases hlt : k < 4
    · have c0 := H0.cell k (by omega)
      have c1 := H0.cell (4 + k) (by omega)
      have f0 := H0.free k
      have f1 := H0.free (4 + k)
      go_wp2
      go_roundw
      case rel =>
        refine ⟨k + 1, by omega, by go_num, by rw [of_next lo k hlt], by rw [of_next _ k hlt], ?_, (H1.far _ (by simp)).far _ (by simp), (HB.setCell (by simp; omega) _).setCell (by simp; omega) _⟩
        refine ((H0.set k _ (by omega)).set (4 + k) _ (by omega)).congr fun j hj => ?_
        rw [of_lo hi lo h2 k hlt, of_hi hi lo h2 k hlt]
        by_cases e1 : j = 4 + k
        · subst e1; simp
        · by_cases e2 : j = k
          · subst e2; simp [e1]
          · simp only [e1, e2, if_false]
            by_cases e3 : j < k
            · simp [e3]; omega
            · by_cases e4 : 4 ≤ j ∧ j < 4 + k
              · have : 4 ≤ j ∧ j < 4 + (k + 1) := by omega
                simp [e3, e4, this]
              · have : ¬ (4 ≤ j ∧ j < 4 + (k + 1)) := by omega
                have e5 : ¬ j < k + 1 := by omega
                simp only [e3, e4, e5, this, if_false]
      case measure => simp [intOf]; omega
    · have H0' : NumAt wr (w.heap.size + 1 + 1) (dig (I128.val hi lo)) := H0.congr fun j hj => by by_cases e3 : j < k <;> simp only [e3, if_true, if_false]; rw [if_pos (by omega)]
      clear H0
      have hst := H1.store (dig (I128.val hi lo))
      go_wp2_with (refine load_blk rfl 44 (.tmp 3) rfl (w.heap.size + 1 + 1) rfl H0' Try.underlying44 rfl (by kernel_rfl) ?_)
      refine bodyPost_ret (results_cell_row rfl _ _ (w.heap.size + 1) 44 (cellsOf (dig (I128.val hi lo))) (0, 0) _ rfl (H1.row _) Try.underlying44 rfl (by kernel_rfl)) rfl ?_
      exact ⟨rfl, below_setRow HB (by omega) _⟩

set_option maxHeartbeats 800000 in
theorem num_below_any (a : Int) (w : World) :
    Calls Try.prog 35 #[.agg (cellsOf (dig a))] w fun e w' => e = .returned (.bool (decide (32768 ≤ dig a 7))) ∧ Below w.heap.size w w' := by
  have c7 := (NumAt.new w (dig a)).cell 7 (by omega)
  go_enter Try.func35, Try.ntmps35
  go_wp2
  go_ret
  exact ⟨rfl, (Below.refl _ _).alloc (Nat.le_refl _) _⟩

theorem told_lo (a : Int) (k : Nat) (hk : k < 4) : (a % 18446744073709551616) / pw (k + 1) * 65536 + dig a k = (a % 18446744073709551616) / pw k := by
  have : k = 0 ∨ k = 1 ∨ k = 2 ∨ k = 3 := by omega
  rcases this with rfl | rfl | rfl | rfl <;> (simp only [dig, pw]; omega)
theorem told_hi (a : Int) (k : Nat) (hk : k < 4) : (a / 18446744073709551616 % 18446744073709551616) / pw (k + 1) * 65536 + dig a (4 + k) = (a / 18446744073709551616 % 18446744073709551616) / pw k := by
  have : k = 0 ∨ k = 1 ∨ k = 2 ∨ k = 3 := by omega
  rcases this with rfl | rfl | rfl | rfl <;> (simp only [dig, pw]; omega)

set_option maxHeartbeats 800000 in
theorem num_told_any (a : Int) (w : World) :
    Calls Try.prog 29 #[.agg (cellsOf (dig a))] w fun e w' => e = .returned (.agg #[.int .i64 (I128.enc a).1, .int .u64 (I128.enc a).2]) ∧ Below w.heap.size w w' := by
  go_enter Try.func29, Try.ntmps29
  go_wp2
  go_loopw [3, 4, 5] (fun l h i wr => ∃ k : Nat, k ≤ 4 ∧ i = .int .i64 ((k : Int) - 1) ∧ l = .int .u64 ((a % 18446744073709551616) / pw k) ∧ h = .int .u64 ((a / 18446744073709551616 % 18446744073709551616) / pw k) ∧ wr = (w.alloc (Obj.cells (cellsOf (dig a)) 44)).alloc (Obj.cells #[Value.int IntKind.i64 0, Value.int IntKind.u64 0] 25)) (fun _ _ i _ => (intOf i + 1).toNat)
  case atStart =>
    refine ⟨4, by omega, rfl, ?_, ?_, rfl⟩ <;> (simp only [pw]; congr 1; omega)
  case round =>
    obtain ⟨k, hk, rfl, rfl, rfl, rfl⟩ := hrel
    have H0 := (NumAt.new w (dig a)).alloc (Obj.cells #[Value.int IntKind.i64 0, Value.int IntKind.u64 0] 25)
    by_cases hlt : 0 < k
    · obtain ⟨m, rfl⟩ : ∃ m, k = m + 1 := ⟨k - 1, by omega⟩
      have c0 := H0.cell m (by omega)
      have c1 := H0.cell (4 + m) (by omega)
      have rl := of_range (a % 18446744073709551616) (by omega) (by omega) m (by omega)
      have rh := of_range (a / 18446744073709551616 % 18446744073709551616) (by omega) (by omega) m (by omega)
      have tl := told_lo a m (by omega)
      have th := told_hi a m (by omega)
      have da := dig_range a m
      have db := dig_range a (4 + m)
      clear H0
      go_wp2
      go_roundw
      case rel => exact ⟨m, by omega, rfl, rfl, rfl, trivial⟩
      case measure => simp [intOf]
    · obtain rfl : k = 0 := by omega
      go_wp2
      refine bodyPost_ret (results_cell_row rfl _ _ (w.heap.size + 1) 25 #[.int .i64 (wrap64 (a / 18446744073709551616 % 18446744073709551616 / pw 0)), .int .u64 (a % 18446744073709551616 / pw 0)] (0, 0) _ rfl (heap_alloc2_new w _ _) Try.underlying25 rfl (by kernel_rfl)) rfl ?_
      refine ⟨?_, ((Below.refl _ _).alloc (Nat.le_refl _) _).alloc (by simp) _⟩
      have e1 : wrap64 (a / 18446744073709551616 % 18446744073709551616 / pw 0) = (I128.enc a).1 := by simp only [pw, I128.enc, wrap64]; omega
      have e2 : a % 18446744073709551616 / pw 0 = (I128.enc a).2 := by simp only [pw, I128.enc]; omega
      rw [e1, e2]

theorem times_row (a b : Int) (k : Nat) (hk : k < 8) : a % pw k * b + dig a k * b * pw k = a % pw (k + 1) * b := by
  rw [mod_split a k hk, Int.add_mul, Int.mul_right_comm, Int.add_comm]
theorem times_end (a b : Int) (j : Nat) : dig (a % pw 8 * b) j = dig (a * b) j := by
  refine dig_congr ?_ j
  have e : a = pw 8 * (a / pw 8) + a % pw 8 := (Int.mul_ediv_add_emod a (pw 8)).symm
  have e2 : a % pw 8 * b - a * b = 340282366920938463463374607431768211456 * (- (a / pw 8 * b)) := by
    have : a * b = pw 8 * (a / pw 8 * b) + a % pw 8 * b := by
      conv => lhs; rw [e]
      rw [Int.add_mul, Int.mul_assoc]
    rw [this]; simp only [pw]; omega
  rw [e2, Int.mul_emod_right]
set_option maxHeartbeats 1600000 in
theorem num_times_any (a b : Int) (w : World) :
    Calls Try.prog 28 #[.agg (cellsOf (dig a)), .agg (cellsOf (dig b))] w fun e w' => e = .returned (.agg (cellsOf (dig (a * b)))) ∧ Below w.heap.size w w' := by
  go_enter Try.func28, Try.ntmps28
  go_wp2
  go_loopw [6] (fun i wr => ∃ k : Nat, k ≤ 8 ∧ i = .int .i64 k ∧ NumAt wr w.heap.size (dig a) ∧ NumAt wr (w.heap.size + 1) (dig b) ∧ NumAt wr (w.heap.size + 1 + 1) (fun _ => 0) ∧ NumAt wr (w.heap.size + 1 + 1 + 1) (dig (a % pw k * b)) ∧ Below w.heap.size w wr) (fun i _ => 8 - (intOf i).toNat)
  case atStart =>
    refine ⟨0, by omega, rfl, (((NumAt.new w (dig a)).alloc _).alloc _).alloc _, ((NumAt.new' (dig b) (by simp)).alloc _).alloc _, (NumAt.new' (fun _ => 0) (by simp)).alloc _, (NumAt.new' (fun _ => 0) (by simp)).congr fun j hj => ?_, (((Below.refl _ _).alloc (Nat.le_refl _) _).alloc (by simp) _).alloc (by simp; omega) _ |>.alloc (by simp; omega) _⟩
    rw [dig_div _ j hj]; simp [pw, Int.emod_one]
  case round =>
    obtain ⟨k, hk, rfl, H0, H1, H2, H3, HB⟩ := hrel
    obtain ⟨wo, rfl⟩ : ∃ wo : World, wo = wr := ⟨_, rfl⟩
    by_cases hlt : k < 8
    · have c0 := H0.cell k hlt
      have ra := dig_range a k
      have G3 := H3.lt
      have HS := HB.size
      have R := Lib.hid (times_row a b k hlt)
      go_wp2
      go_loopw [8, 9] (fun c i wi => ∃ m : Nat, k + m ≤ 8 ∧ i = .int .i64 m ∧ c = .int .i64 (carm (dig a k) b m) ∧ NumAt wi wo.heap.size (fun j => if k ≤ j ∧ j < k + m then dig (dig a k * b) (j - k) else 0) ∧ Below wo.heap.size wo wi) (fun _ i _ => 8 - (intOf i).toNat)
      case atStart =>
        refine ⟨0, by omega, rfl, by rw [carm_zero], (NumAt.new wo (fun _ => 0)).congr fun j _ => ?_, (Below.refl _ _).alloc (Nat.le_refl _) _⟩
        rw [if_neg (by omega)]
      case round =>
        obtain ⟨m, hm, rfl, rfl, J, JB⟩ := hrel
        by_cases hlm : k + m < 8
        · have d0 := (H0.below JB).cell k hlt
          have d1 := (H1.below JB).cell m (by omega)
          have d2 := J.cell (k + m) hlm
          have d3 := J.free (k + m)
          have rb := dig_range b m
          have rc := carm_range (dig a k) b m ra.1 ra.2
          have rp0 := Int.mul_nonneg ra.1 rb.1
          have rp1 := Int.mul_le_mul ra.2 rb.2 rb.1 (by omega)
          have T1 := Lib.hid (times_dig (dig a k) b m (by omega))
          have T2 := Lib.hid (times_carr (dig a k) b m (by omega))
          go_wp2
          go_quiet (fail)
          go_wp2
          go_roundw
          case rel =>
            refine ⟨m + 1, by omega, by go_num, by rw [T2.out], ?_, ?_⟩
            · refine ((J.drewN nq).set (k + m) _ hlm).congr fun j hj => ?_
              rw [T1.out]
              by_cases e1 : j = k + m
              · subst e1; simp
              · simp only [e1, if_false]
                by_cases e2 : k ≤ j ∧ j < k + m
                · have : k ≤ j ∧ j < k + (m + 1) := by omega
                  simp [e2, this]
                · have : ¬ (k ≤ j ∧ j < k + (m + 1)) := by omega
                  simp [e2, this]
            · exact (drewN_below JB nq).setCell (Nat.le_refl _) _
          case measure => simp [intOf]; omega
        · have J' : NumAt wr wo.heap.size (dig (dig a k * b * pw k)) := J.congr fun j hj => by
            rw [dig_shift _ k j hlt hj]
            by_cases e1 : j < k
            · simp only [e1, if_true]; rw [if_neg (by omega)]
            · simp only [e1, if_false]; rw [if_pos (by omega)]
          have H3' := H3.below JB
          have HP := Lib.hid (num_plus_any (a % pw k * b) (dig a k * b * pw k))
          clear J
          go_wp2_with (first
            | (refine load_blk rfl 44 (.tmp 5) rfl (w.heap.size + 1 + 1 + 1) rfl H3' Try.underlying44 rfl (by kernel_rfl) ?_)
            | (refine load_blk rfl 44 (.tmp 7) rfl wo.heap.size rfl J' Try.underlying44 rfl (by kernel_rfl) ?_)
            | (go_at_call 31; refine (HP.out _).mono ?_; rintro e w1 ⟨rfl, hb⟩; have hst := ((H3.below JB).below hb).store (dig (a % pw k * b + dig a k * b * pw k))))
          go_roundw
          case rel =>
            have B1 : Below wo.heap.size wo w1 := JB.trans (hb.mono JB.size)
            refine ⟨k + 1, by omega, by go_num, ?_, ?_, ?_, ?_, ?_⟩
            · exact (H0.below B1).rowFar _ (by omega)
            · exact (H1.below B1).rowFar _ (by omega)
            · exact (H2.below B1).rowFar _ (by omega)
            · rw [R.out]; exact (H3.below B1).row _
            · exact below_setRow (HB.trans (B1.mono HB.size)) (by omega) _
          case measure => simp [intOf]; omega
    · obtain rfl : k = 8 := by omega
      have e8 : cellsOf (dig (a % pw 8 * b)) = cellsOf (dig (a * b)) := cellsOf_congr fun j hj => times_end a b j
      unfold NumAt at H3
      rw [e8] at H3
      have hst := H2.store (dig (a * b))
      clear e8
      go_wp2_with (refine load_blk rfl 44 (.tmp 5) rfl (w.heap.size + 1 + 1 + 1) rfl H3 Try.underlying44 rfl (by kernel_rfl) ?_)
      refine bodyPost_ret (results_cell_row rfl _ _ (w.heap.size + 1 + 1) 44 (cellsOf (dig (a * b))) (0, 0) _ rfl (H2.row _) Try.underlying44 rfl (by kernel_rfl)) rfl ?_
      exact ⟨rfl, below_setRow HB (by omega) _⟩

end Go.Proofs.Ytglhfknlemaidaa
