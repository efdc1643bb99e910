/-
  The reference's numbers of eight digits: each operation comes to the digits of the sum, the difference, the product.
-/
import Derived.Test.YtnccgpdniigekaaProg
import Derived.Test.YtnccgpdniigekaaQG17
import Derived.Test.YtnccgpdniigekaaQG28
namespace Go.Proofs.Ytnccgpdniigekaa
open Go.RowKit
set_option linter.unusedVariables false
set_option linter.unusedSimpArgs false

/-- A number's cells. -/
def cellsOf (f : Nat → Int) : Array Value := #[.int .i64 (f 0), .int .i64 (f 1), .int .i64 (f 2), .int .i64 (f 3), .int .i64 (f 4), .int .i64 (f 5), .int .i64 (f 6), .int .i64 (f 7)]
theorem cellsOf_get (f : Nat → Int) (k : Nat) (hk : k < 8) : (cellsOf f)[k]? = some (.int .i64 (f k)) := by
  refine lt8 (P := fun k => (cellsOf f)[k]? = some (.int .i64 (f k))) ?_ ?_ ?_ ?_ ?_ ?_ ?_ ?_ k hk <;> rfl
theorem cellsOf_congr {f g : Nat → Int} (h : ∀ j, j < 8 → f j = g j) : cellsOf f = cellsOf g := by
  unfold cellsOf
  rw [h 0 (by omega), h 1 (by omega), h 2 (by omega), h 3 (by omega), h 4 (by omega), h 5 (by omega), h 6 (by omega), h 7 (by omega)]
theorem cellsOf_set (f : Nat → Int) (k : Nat) (v : Int) (hk : k < 8) : (cellsOf f).setIfInBounds k (.int .i64 v) = cellsOf (fun j => if j = k then v else f j) := by
  refine lt8 (P := fun k => (cellsOf f).setIfInBounds k (.int .i64 v) = cellsOf (fun j => if j = k then v else f j)) ?_ ?_ ?_ ?_ ?_ ?_ ?_ ?_ k hk <;> rfl
/-- A block that holds such cells. -/
abbrev NumAt (w : World) (g : Nat) (f : Nat → Int) : Prop := Blk w g 168 (cellsOf f)
section
variable {w w1 : World} {g : Nat} {f : Nat → Int}
theorem NumAt.cell (h : NumAt w g f) (k : Nat) (hk : k < 8) : w.cell? ⟨g, k, none⟩ = some (.int .i64 (f k)) := (Blk.cell h k).trans (cellsOf_get f k hk)
theorem NumAt.free (h : NumAt w g f) (k : Nat) : w.frozen? ⟨g, k, none⟩ = false := Blk.free h k
theorem NumAt.set (h : NumAt w g f) (k : Nat) (v : Int) (hk : k < 8) : NumAt (w.setCell ⟨g, k, none⟩ (.int .i64 v)) g (fun j => if j = k then v else f j) := (Blk.set h k _).congr (cellsOf_set f k v hk)
theorem NumAt.far (h : NumAt w g f) {a : Addr} (v : Value) (hne : g ≠ a.block) : NumAt (w.setCell a v) g f := Blk.far h v hne
theorem NumAt.congr {f' : Nat → Int} (h : NumAt w g f) (hf : ∀ j, j < 8 → f j = f' j) : NumAt w g f' := Blk.congr h (cellsOf_congr hf)
theorem NumAt.lt (h : NumAt w g f) : g < w.heap.size := Blk.lt h
theorem NumAt.drewN (h : NumAt w g f) (n : Nat) : NumAt (w.drewN n) g f := h
theorem NumAt.alloc (h : NumAt w g f) (o : Obj) : NumAt (w.alloc o) g f := Blk.alloc h o
theorem cellsOf_one (f : Nat → Int) : ∀ v ∈ (cellsOf f).toList, v.oneCell' = true := by
  intro v hv; simp [cellsOf] at hv; rcases hv with rfl | rfl | rfl | rfl | rfl | rfl | rfl | rfl <;> rfl
theorem NumAt.store (h : NumAt w g f) (f' : Nat → Int) : (storeCells ⟨g, 0, none⟩ (cellsOf f').toList).run Try.prog w = .ok () (w.setRow g (cellsOf f')) := Blk.storeAll h _ rfl (cellsOf_one f')
theorem NumAt.row (h : NumAt w g f) (f' : Nat → Int) : NumAt (w.setRow g (cellsOf f')) g f' := Blk.row h _
theorem NumAt.rowFar (h : NumAt w g f) {g' : Nat} (cs : Array Value) (hne : g ≠ g') : NumAt (w.setRow g' cs) g f := Blk.rowFar h cs hne
theorem NumAt.below (h : NumAt w g f) (hb : Below w.heap.size w w1) : NumAt w1 g f := Blk.below h hb
theorem NumAt.new (w : World) (f : Nat → Int) : NumAt (w.alloc (.cells (cellsOf f) 168)) w.heap.size f := Blk.new w _ _
theorem NumAt.new' (f : Nat → Int) (hg : g = w.heap.size) : NumAt (w.alloc (.cells (cellsOf f) 168)) g f := Blk.new' _ _ hg
end
/-- A fresh variable, stored whole: as if it had been laid so. -/
theorem store_fresh (w : World) (f : Nat → Int) : (storeCells ⟨w.heap.size, 0, none⟩ (cellsOf f).toList).run Try.prog (w.alloc (.cells #[.int .i64 0, .int .i64 0, .int .i64 0, .int .i64 0, .int .i64 0, .int .i64 0, .int .i64 0, .int .i64 0] 168)) = .ok () (w.alloc (.cells (cellsOf f) 168)) := by
  refine (NumAt.store (f := fun _ => 0) (heap_alloc_new w _) f).trans ?_
  rw [World.setRow_alloc_new]

set_option maxHeartbeats 800000 in
theorem num_plus_any (a b : Int) (w : World) :
    Calls Try.prog 123 #[.agg (cellsOf (dig a)), .agg (cellsOf (dig b))] w fun e w' => e = .returned (.agg (cellsOf (dig (a + b)))) ∧ Below w.heap.size w w' := by
  go_enter Try.func123, Try.ntmps123
  go_wp2
  go_loopw [5, 6] (fun c i wr => ∃ k : Nat, k ≤ 8 ∧ i = .int .i64 k ∧ c = .int .i64 (carr a b k) ∧ NumAt wr w.heap.size (fun j => if j < k then dig (a + b) j else dig a j) ∧ NumAt wr (w.heap.size + 1) (dig b) ∧ NumAt wr (w.heap.size + 1 + 1) (fun _ => 0) ∧ Below w.heap.size w wr) (fun _ i _ => 8 - (intOf i).toNat)
  case atStart =>
    refine ⟨0, by omega, rfl, by rw [carr_zero], ?_, ?_, NumAt.new' (fun _ => 0) (by simp), (((Below.refl _ _).alloc (Nat.le_refl _) _).alloc (by simp) _).alloc (by simp; omega) _⟩
    · exact (((NumAt.new w (dig a)).alloc _).alloc _).congr fun j _ => by simp
    · exact (NumAt.new' (dig b) (by simp)).alloc _
  case round =>
    obtain ⟨k, hk, rfl, rfl, H0, H1, H2, HB⟩ := hrel
    by_cases hlt : k < 8
    · have c0 := H0.cell k hlt
      have c1 := H1.cell k hlt
      have f0 := H0.free k
      simp only [Nat.lt_irrefl, if_false] at c0
      have ra := dig_range a k
      have rb := dig_range b k
      have rc := carr_range a b k
      go_wp2
      go_quiet (fail)
      go_wp2
      go_roundw
      case rel =>
        refine ⟨k + 1, by omega, by go_num, by rw [plus_carr a b k hlt], ?_, (H1.drewN nq).far _ (by simp), (H2.drewN nq).far _ (by simp; omega), ?_⟩
        · refine ((H0.drewN nq).set k _ hlt).congr fun j hj => ?_
          rw [plus_dig a b k hlt]
          by_cases h : j = k
          · subst h; simp
          · simp only [h, if_false]; by_cases h2 : j < k <;> simp [h2] <;> omega
        · exact (drewN_below HB nq).setCell (Nat.le_refl _) _
      case measure => simp [intOf]; omega
    · have hk8 : k = 8 := by omega
      have H0' : NumAt wr w.heap.size (dig (a + b)) := H0.congr fun j hj => if_pos (by omega)
      clear H0 hk8
      have hst := H2.store (dig (a + b))
      go_wp2_with (refine wpList_load_row rfl 168 _ rfl w.heap.size rfl 168 (cellsOf (dig (a + b))) (0, 0) _ H0' Try.underlying168 rfl (by kernel_rfl) ?_)
      refine bodyPost_ret (results_cell_row rfl _ _ (w.heap.size + 1 + 1) 168 (cellsOf (dig (a + b))) (0, 0) _ rfl (H2.row _) Try.underlying168 rfl (by kernel_rfl)) rfl ?_
      exact ⟨rfl, below_setRow HB (by omega) _⟩

set_option maxHeartbeats 800000 in
theorem num_less_any (a : Int) (w : World) :
    Calls Try.prog 121 #[.agg (cellsOf (dig a))] w fun e w' => e = .returned (.agg (cellsOf (dig (-a)))) ∧ Below w.heap.size w w' := by
  go_enter Try.func121, Try.ntmps121
  go_wp2
  go_loopw [4] (fun i wr => ∃ k : Nat, k ≤ 8 ∧ i = .int .i64 k ∧ NumAt wr w.heap.size (fun j => if j < k then dig (-a - 1) j else dig a j) ∧ NumAt wr (w.heap.size + 1) (fun _ => 0) ∧ NumAt wr (w.heap.size + 1 + 1) (dig 1) ∧ Below w.heap.size w wr) (fun i _ => 8 - (intOf i).toNat)
  case atStart =>
    refine ⟨0, by omega, rfl, ?_, (NumAt.new' (fun _ => 0) (by simp)).alloc _, NumAt.new' (dig 1) (by simp), (((Below.refl _ _).alloc (Nat.le_refl _) _).alloc (by simp) _).alloc (by simp; omega) _⟩
    exact (((NumAt.new w (dig a)).alloc _).alloc _).congr fun j _ => by simp
  case round =>
    obtain ⟨k, hk, rfl, H0, H1, H2, HB⟩ := hrel
    have hp := num_plus_any (-a - 1) 1
    rw [show -a - 1 + 1 = -a from by omega] at hp
    have HP := Lib.hid hp
    clear hp
    by_cases hlt : k < 8
    · have c0 := H0.cell k hlt
      have f0 := H0.free k
      simp only [Nat.lt_irrefl, if_false] at c0
      have ra := dig_range a k
      go_wp2
      go_roundw
      case rel =>
        refine ⟨k + 1, by omega, by go_num, ?_, H1.far _ (by simp), H2.far _ (by simp; omega), ?_⟩
        · refine (H0.set k _ hlt).congr fun j hj => ?_
          by_cases h : j = k
          · subst h; have := less_dig a j hlt; simp; omega
          · simp only [h, if_false]; by_cases h2 : j < k <;> simp [h2] <;> omega
        · exact HB.setCell (Nat.le_refl _) _
      case measure => simp [intOf]; omega
    · have hk8 : k = 8 := by omega
      have H0' : NumAt wr w.heap.size (dig (-a - 1)) := H0.congr fun j hj => if_pos (by omega)
      clear H0 hk8
      go_wp2_with (first
        | (refine load_blk rfl 168 (.tmp 1) rfl w.heap.size rfl H0' Try.underlying168 rfl (by kernel_rfl) ?_)
        | (refine load_blk rfl 168 (.tmp 3) rfl (w.heap.size + 1 + 1) rfl H2 Try.underlying168 rfl (by kernel_rfl) ?_)
        | (go_at_call 123; refine (HP.out _).mono ?_; rintro e w1 ⟨rfl, hb⟩; have hst := (H1.below hb).store (dig (-a))))
      refine bodyPost_ret (results_cell_row rfl _ _ (w.heap.size + 1) 168 (cellsOf (dig (-a))) (0, 0) _ rfl ((H1.below hb).row _) Try.underlying168 rfl (by kernel_rfl)) rfl ?_
      exact ⟨rfl, below_setRow (HB.trans (hb.mono HB.size)) (by omega) _⟩

theorem of_lo (hi lo : Int) (h2 : u64ok lo) (k : Nat) (hk : k < 4) : lo / pw k % 65536 = dig (I128.val hi lo) k := by
  unfold u64ok at h2
  have : k = 0 ∨ k = 1 ∨ k = 2 ∨ k = 3 := by omega
  rcases this with rfl | rfl | rfl | rfl <;> (simp only [dig, pw, I128.val]; omega)
theorem of_hi (hi lo : Int) (h2 : u64ok lo) (k : Nat) (hk : k < 4) : IntKind.u64.wrap hi / pw k % 65536 = dig (I128.val hi lo) (4 + k) := by
  unfold u64ok at h2
  have : k = 0 ∨ k = 1 ∨ k = 2 ∨ k = 3 := by omega
  rcases this with rfl | rfl | rfl | rfl <;> (simp only [IntKind.wrap_u64, dig, pw, I128.val]; omega)
theorem of_next (x : Int) (k : Nat) (hk : k < 4) : x / pw k / 65536 = x / pw (k + 1) := by
  rw [pw_succ k (by omega), ← Int.ediv_ediv_of_nonneg (Int.le_of_lt (pw_pos k))]
theorem of_range (x : Int) (h0 : 0 ≤ x) (h1 : x ≤ 18446744073709551615) (k : Nat) (hk : k ≤ 4) : 0 ≤ x / pw k ∧ x / pw k ≤ 18446744073709551615 := by
  have : k = 0 ∨ k = 1 ∨ k = 2 ∨ k = 3 ∨ k = 4 := by omega
  rcases this with rfl | rfl | rfl | rfl | rfl <;> (simp only [pw]; omega)

set_option maxHeartbeats 800000 in
theorem num_of_any (hi lo : Int) (h1 : i64ok hi) (h2 : u64ok lo) (w : World) :
    Calls Try.prog 119 #[.agg #[.int .i64 hi, .int .u64 lo]] w fun e w' => e = .returned (.agg (cellsOf (dig (I128.val hi lo)))) ∧ Below w.heap.size w w' := by
  go_enter Try.func119, Try.ntmps119
  go_wp2
  go_loopw [4, 5, 6] (fun l h i wr => ∃ k : Nat, k ≤ 4 ∧ i = .int .i64 k ∧ l = .int .u64 (lo / pw k) ∧ h = .int .u64 (IntKind.u64.wrap hi / pw k) ∧ NumAt wr (w.heap.size + 1 + 1) (fun j => if j < k then dig (I128.val hi lo) j else if 4 ≤ j ∧ j < 4 + k then dig (I128.val hi lo) j else 0) ∧ NumAt wr (w.heap.size + 1) (fun _ => 0) ∧ Below w.heap.size w wr) (fun _ _ i _ => 4 - (intOf i).toNat)
  case atStart =>
    refine ⟨0, by omega, rfl, by simp [pw], by simp [pw], (NumAt.new' (fun _ => 0) (by simp)).congr fun j _ => by simp; omega, (NumAt.new' (fun _ => 0) (by simp)).alloc _, (((Below.refl _ _).alloc (Nat.le_refl _) _).alloc (by simp) _).alloc (by simp; omega) _⟩
  case round =>
    obtain ⟨k, hk, rfl, rfl, rfl, H0, H1, HB⟩ := hrel
    unfold u64ok at h2
    have rl := of_range lo h2.1 h2.2 k hk
    have ru := u64_range hi
    have rh := of_range _ ru.1 ru.2 k hk
    by_cases hlt : k < 4
    · have c0 := H0.cell k (by omega)
      have c1 := H0.cell (4 + k) (by omega)
      have f0 := H0.free k
      have f1 := H0.free (4 + k)
      go_wp2
      go_roundw
      case rel =>
        refine ⟨k + 1, by omega, by go_num, by rw [of_next lo k hlt], by rw [of_next _ k hlt], ?_, (H1.far _ (by simp)).far _ (by simp), (HB.setCell (by simp; omega) _).setCell (by simp; omega) _⟩
        refine ((H0.set k _ (by omega)).set (4 + k) _ (by omega)).congr fun j hj => ?_
        rw [of_lo hi lo h2 k hlt, of_hi hi lo h2 k hlt]
        by_cases e1 : j = 4 + k
        · subst e1; simp
        · by_cases e2 : j = k
          · subst e2; simp [e1]
          · simp only [e1, e2, if_false]
            by_cases e3 : j < k
            · simp [e3]; omega
            · by_cases e4 : 4 ≤ j ∧ j < 4 + k
              · have : 4 ≤ j ∧ j < 4 + (k + 1) := by omega
                simp [e3, e4, this]
              · have : ¬ (4 ≤ j ∧ j < 4 + (k + 1)) := by omega
                have e5 : ¬ j < k + 1 := by omega
                simp only [e3, e4, e5, this, if_false]
      case measure => simp [intOf]; omega
    · have H0' : NumAt wr (w.heap.size + 1 + 1) (dig (I128.val hi lo)) := H0.congr fun j hj => by by_cases e3 : j < k <;> simp only [e3, if_true, if_false]; rw [if_pos (by omega)]
      clear H0
      have hst := H1.store (dig (I128.val hi lo))
      go_wp2_with (refine load_blk rfl 168 (.tmp 3) rfl (w.heap.size + 1 + 1) rfl H0' Try.underlying168 rfl (by kernel_rfl) ?_)
      refine bodyPost_ret (results_cell_row rfl _ _ (w.heap.size + 1) 168 (cellsOf (dig (I128.val hi lo))) (0, 0) _ rfl (H1.row _) Try.underlying168 rfl (by kernel_rfl)) rfl ?_
      exact ⟨rfl, below_setRow HB (by omega) _⟩

set_option maxHeartbeats 800000 in
theorem num_below_any (a : Int) (w : World) :
    Calls Try.prog 120 #[.agg (cellsOf (dig a))] w fun e w' => e = .returned (.bool (decide (32768 ≤ dig a 7))) ∧ Below w.heap.size w w' := by
  have c7 := (NumAt.new w (dig a)).cell 7 (by omega)
  go_enter Try.func120, Try.ntmps120
  go_wp2
  go_ret
  exact ⟨rfl, (Below.refl _ _).alloc (Nat.le_refl _) _⟩

theorem told_lo (a : Int) (k : Nat) (hk : k < 4) : (a % 18446744073709551616) / pw (k + 1) * 65536 + dig a k = (a % 18446744073709551616) / pw k := by
  have : k = 0 ∨ k = 1 ∨ k = 2 ∨ k = 3 := by omega
  rcases this with rfl | rfl | rfl | rfl <;> (simp only [dig, pw]; omega)
theorem told_hi (a : Int) (k : Nat) (hk : k < 4) : (a / 18446744073709551616 % 18446744073709551616) / pw (k + 1) * 65536 + dig a (4 + k) = (a / 18446744073709551616 % 18446744073709551616) / pw k := by
  have : k = 0 ∨ k = 1 ∨ k = 2 ∨ k = 3 := by omega
  rcases this with rfl | rfl | rfl | rfl <;> (simp only [dig, pw]; omega)

set_option maxHeartbeats 800000 in
theorem num_told_any (a : Int) (w : World) :
    Calls Try.prog 122 #[.agg (cellsOf (dig a))] w fun e w' => e = .returned (.agg #[.int .i64 (I128.enc a).1, .int .u64 (I128.enc a).2]) ∧ Below w.heap.size w w' := by
  go_enter Try.func122, Try.ntmps122
  go_wp2
  go_loopw [3, 4, 5] (fun l h i wr => ∃ k : Nat, k ≤ 4 ∧ i = .int .i64 ((k : Int) - 1) ∧ l = .int .u64 ((a % 18446744073709551616) / pw k) ∧ h = .int .u64 ((a / 18446744073709551616 % 18446744073709551616) / pw k) ∧ wr = (w.alloc (Obj.cells (cellsOf (dig a)) 168)).alloc (Obj.cells #[Value.int IntKind.i64 0, Value.int IntKind.u64 0] 152)) (fun _ _ i _ => (intOf i + 1).toNat)
  case atStart =>
    refine ⟨4, by omega, rfl, ?_, ?_, rfl⟩ <;> (simp only [pw]; congr 1; omega)
  case round =>
    obtain ⟨k, hk, rfl, rfl, rfl, rfl⟩ := hrel
    have H0 := (NumAt.new w (dig a)).alloc (Obj.cells #[Value.int IntKind.i64 0, Value.int IntKind.u64 0] 152)
    by_cases hlt : 0 < k
    · obtain ⟨m, rfl⟩ : ∃ m, k = m + 1 := ⟨k - 1, by omega⟩
      have c0 := H0.cell m (by omega)
      have c1 := H0.cell (4 + m) (by omega)
      have rl := of_range (a % 18446744073709551616) (by omega) (by omega) m (by omega)
      have rh := of_range (a / 18446744073709551616 % 18446744073709551616) (by omega) (by omega) m (by omega)
      have tl := told_lo a m (by omega)
      have th := told_hi a m (by omega)
      have da := dig_range a m
      have db := dig_range a (4 + m)
      clear H0
      go_wp2
      go_roundw
      case rel => exact ⟨m, by omega, rfl, rfl, rfl, trivial⟩
      case measure => simp [intOf]
    · obtain rfl : k = 0 := by omega
      go_wp2
      refine bodyPost_ret (results_cell_row rfl _ _ (w.heap.size + 1) 152 #[.int .i64 (wrap64 (a / 18446744073709551616 % 18446744073709551616 / pw 0)), .int .u64 (a % 18446744073709551616 / pw 0)] (0, 0) _ rfl (heap_alloc2_new w _ _) Try.underlying152 rfl (by kernel_rfl)) rfl ?_
      refine ⟨?_, ((Below.refl _ _).alloc (Nat.le_refl _) _).alloc (by simp) _⟩
      have e1 : wrap64 (a / 18446744073709551616 % 18446744073709551616 / pw 0) = (I128.enc a).1 := by simp only [pw, I128.enc, wrap64]; omega
      have e2 : a % 18446744073709551616 / pw 0 = (I128.enc a).2 := by simp only [pw, I128.enc]; omega
      rw [e1, e2]

theorem times_row (a b : Int) (k : Nat) (hk : k < 8) : a % pw k * b + dig a k * b * pw k = a % pw (k + 1) * b := by
  rw [mod_split a k hk, Int.add_mul, Int.mul_right_comm, Int.add_comm]
theorem times_end (a b : Int) (j : Nat) : dig (a % pw 8 * b) j = dig (a * b) j := by
  refine dig_congr ?_ j
  have e : a = pw 8 * (a / pw 8) + a % pw 8 := (Int.mul_ediv_add_emod a (pw 8)).symm
  have e2 : a % pw 8 * b - a * b = 340282366920938463463374607431768211456 * (- (a / pw 8 * b)) := by
    have : a * b = pw 8 * (a / pw 8 * b) + a % pw 8 * b := by
      conv => lhs; rw [e]
      rw [Int.add_mul, Int.mul_assoc]
    rw [this]; simp only [pw]; omega
  rw [e2, Int.mul_emod_right]
set_option maxHeartbeats 1600000 in
theorem num_times_any (a b : Int) (w : World) :
    Calls Try.prog 125 #[.agg (cellsOf (dig a)), .agg (cellsOf (dig b))] w fun e w' => e = .returned (.agg (cellsOf (dig (a * b)))) ∧ Below w.heap.size w w' := by
  go_enter Try.func125, Try.ntmps125
  go_wp2
  go_loopw [6] (fun i wr => ∃ k : Nat, k ≤ 8 ∧ i = .int .i64 k ∧ NumAt wr w.heap.size (dig a) ∧ NumAt wr (w.heap.size + 1) (dig b) ∧ NumAt wr (w.heap.size + 1 + 1) (fun _ => 0) ∧ NumAt wr (w.heap.size + 1 + 1 + 1) (dig (a % pw k * b)) ∧ Below w.heap.size w wr) (fun i _ => 8 - (intOf i).toNat)
  case atStart =>
    refine ⟨0, by omega, rfl, (((NumAt.new w (dig a)).alloc _).alloc _).alloc _, ((NumAt.new' (dig b) (by simp)).alloc _).alloc _, (NumAt.new' (fun _ => 0) (by simp)).alloc _, (NumAt.new' (fun _ => 0) (by simp)).congr fun j hj => ?_, (((Below.refl _ _).alloc (Nat.le_refl _) _).alloc (by simp) _).alloc (by simp; omega) _ |>.alloc (by simp; omega) _⟩
    rw [dig_div _ j hj]; simp [pw, Int.emod_one]
  case round =>
    obtain ⟨k, hk, rfl, H0, H1, H2, H3, HB⟩ := hrel
    obtain ⟨wo, rfl⟩ : ∃ wo : World, wo = wr := ⟨_, rfl⟩
    by_cases hlt : k < 8
    · have c0 := H0.cell k hlt
      have ra := dig_range a k
      have G3 := H3.lt
      have HS := HB.size
      have R := Lib.hid (times_row a b k hlt)
      go_wp2
      go_loopw [8, 9] (fun c i wi => ∃ m : Nat, k + m ≤ 8 ∧ i = .int .i64 m ∧ c = .int .i64 (carm (dig a k) b m) ∧ NumAt wi wo.heap.size (fun j => if k ≤ j ∧ j < k + m then dig (dig a k * b) (j - k) else 0) ∧ Below wo.heap.size wo wi) (fun _ i _ => 8 - (intOf i).toNat)
      case atStart =>
        refine ⟨0, by omega, rfl, by rw [carm_zero], (NumAt.new wo (fun _ => 0)).congr fun j _ => ?_, (Below.refl _ _).alloc (Nat.le_refl _) _⟩
        rw [if_neg (by omega)]
      case round =>
        obtain ⟨m, hm, rfl, rfl, J, JB⟩ := hrel
        by_cases hlm : k + m < 8
        · have d0 := (H0.below JB).cell k hlt
          have d1 := (H1.below JB).cell m (by omega)
          have d2 := J.cell (k + m) hlm
          have d3 := J.free (k + m)
          have rb := dig_range b m
          have rc := carm_range (dig a k) b m ra.1 ra.2
          have rp0 := Int.mul_nonneg ra.1 rb.1
          have rp1 := Int.mul_le_mul ra.2 rb.2 rb.1 (by omega)
          have T1 := Lib.hid (times_dig (dig a k) b m (by omega))
          have T2 := Lib.hid (times_carr (dig a k) b m (by omega))
          go_wp2
          go_quiet (fail)
          go_wp2
          go_roundw
          case rel =>
            refine ⟨m + 1, by omega, by go_num, by rw [T2.out], ?_, ?_⟩
            · refine ((J.drewN nq).set (k + m) _ hlm).congr fun j hj => ?_
              rw [T1.out]
              by_cases e1 : j = k + m
              · subst e1; simp
              · simp only [e1, if_false]
                by_cases e2 : k ≤ j ∧ j < k + m
                · have : k ≤ j ∧ j < k + (m + 1) := by omega
                  simp [e2, this]
                · have : ¬ (k ≤ j ∧ j < k + (m + 1)) := by omega
                  simp [e2, this]
            · exact (drewN_below JB nq).setCell (Nat.le_refl _) _
          case measure => simp [intOf]; omega
        · have J' : NumAt wr wo.heap.size (dig (dig a k * b * pw k)) := J.congr fun j hj => by
            rw [dig_shift _ k j hlt hj]
            by_cases e1 : j < k
            · simp only [e1, if_true]; rw [if_neg (by omega)]
            · simp only [e1, if_false]; rw [if_pos (by omega)]
          have H3' := H3.below JB
          have HP := Lib.hid (num_plus_any (a % pw k * b) (dig a k * b * pw k))
          clear J
          go_wp2_with (first
            | (refine load_blk rfl 168 (.tmp 5) rfl (w.heap.size + 1 + 1 + 1) rfl H3' Try.underlying168 rfl (by kernel_rfl) ?_)
            | (refine load_blk rfl 168 (.tmp 7) rfl wo.heap.size rfl J' Try.underlying168 rfl (by kernel_rfl) ?_)
            | (go_at_call 123; refine (HP.out _).mono ?_; rintro e w1 ⟨rfl, hb⟩; have hst := ((H3.below JB).below hb).store (dig (a % pw k * b + dig a k * b * pw k))))
          go_roundw
          case rel =>
            have B1 : Below wo.heap.size wo w1 := JB.trans (hb.mono JB.size)
            refine ⟨k + 1, by omega, by go_num, ?_, ?_, ?_, ?_, ?_⟩
            · exact (H0.below B1).rowFar _ (by omega)
            · exact (H1.below B1).rowFar _ (by omega)
            · exact (H2.below B1).rowFar _ (by omega)
            · rw [R.out]; exact (H3.below B1).row _
            · exact below_setRow (HB.trans (B1.mono HB.size)) (by omega) _
          case measure => simp [intOf]; omega
    · obtain rfl : k = 8 := by omega
      have e8 : cellsOf (dig (a % pw 8 * b)) = cellsOf (dig (a * b)) := cellsOf_congr fun j hj => times_end a b j
      unfold NumAt at H3
      rw [e8] at H3
      have hst := H2.store (dig (a * b))
      clear e8
      go_wp2_with (refine load_blk rfl 168 (.tmp 5) rfl (w.heap.size + 1 + 1 + 1) rfl H3 Try.underlying168 rfl (by kernel_rfl) ?_)
      refine bodyPost_ret (results_cell_row rfl _ _ (w.heap.size + 1 + 1) 168 (cellsOf (dig (a * b))) (0, 0) _ rfl (H2.row _) Try.underlying168 rfl (by kernel_rfl)) rfl ?_
      exact ⟨rfl, below_setRow HB (by omega) _⟩

end Go.Proofs.Ytnccgpdniigekaa
/-
  The reference's Cmp tells which of two numbers is below the other.
-/
namespace Go.Proofs.Ytnccgpdniigekaa
open Go.RowKit
set_option linter.unusedVariables false
set_option linter.unusedSimpArgs false

theorem num_below_is {a : Int} (h : i128ok a) {s : Bool} (hs : decide (a < 0) = s) (w : World) :
    Calls Try.prog 120 #[.agg (cellsOf (dig a))] w fun e w' => e = .returned (.bool s) ∧ Below w.heap.size w w' := by
  refine (num_below_any a w).mono ?_
  rintro e w' ⟨rfl, hb⟩
  refine ⟨?_, hb⟩
  rw [← hs]; simp [sign_dig h]

def inclineref01_Cmp.f (a0_0 a0_1 a1_0 a1_1 : Int) : Option Int := if i64ok a0_0 ∧ u64ok a0_1 ∧ i64ok a1_0 ∧ u64ok a1_1 then some (cmpI (I128.val a0_0 a0_1) (I128.val a1_0 a1_1)) else none

end Go.Proofs.Ytnccgpdniigekaa
/-
  The reference's Add comes to the sum, modulo 2^128.
-/
namespace Go.Proofs.Ytnccgpdniigekaa
open Go.RowKit
set_option linter.unusedVariables false
set_option linter.unusedSimpArgs false

def inclineref01_Add.f (a0_0 a0_1 a1_0 a1_1 : Int) : Option (Int × Int) := if i64ok a0_0 ∧ u64ok a0_1 ∧ i64ok a1_0 ∧ u64ok a1_1 then some (I128.enc (I128.val a0_0 a0_1 + I128.val a1_0 a1_1)) else none
set_option maxHeartbeats 1600000 in
theorem inclineref01_Add.calls (a0_0 a0_1 a1_0 a1_1 r1 r2 : Int) (w : World) (h : inclineref01_Add.f a0_0 a0_1 a1_0 a1_1 = some (r1, r2)) :
    Calls Try.prog 104 #[.agg #[.int .i64 a0_0, .int .u64 a0_1], .agg #[.int .i64 a1_0, .int .u64 a1_1]] w fun e w' => e = .returned (.agg #[.int .i64 r1, .int .u64 r2]) ∧ Below w.heap.size w w' := by
  unfold inclineref01_Add.f at h
  split at h
  case isFalse => exact absurd h (by simp)
  case isTrue hr =>
    obtain ⟨h1, h2, h3, h4⟩ := hr
    have h := Option.some.inj h
    obtain ⟨rfl, rfl⟩ : (I128.enc (I128.val a0_0 a0_1 + I128.val a1_0 a1_1)).1 = r1 ∧ (I128.enc (I128.val a0_0 a0_1 + I128.val a1_0 a1_1)).2 = r2 := by rw [h]; exact ⟨rfl, rfl⟩
    clear h
    have X := num_of_any a0_0 a0_1 h1 h2
    have Y := num_of_any a1_0 a1_1 h3 h4
    have P := num_plus_any (I128.val a0_0 a0_1) (I128.val a1_0 a1_1)
    have Z := num_told_any ((I128.val a0_0 a0_1) + (I128.val a1_0 a1_1))
    go_enter Try.func104, Try.ntmps104
    go_wp2_with fail
    have R1 : Blk (((w.alloc (.cells #[.int .i64 a0_0, .int .u64 a0_1] 152)).alloc (.cells #[.int .i64 a1_0, .int .u64 a1_1] 152)).alloc (.cells #[.int .i64 0, .int .u64 0] 152)) w.heap.size 152 #[.int .i64 a0_0, .int .u64 a0_1] := ((Blk.new w _ _).alloc _).alloc _
    have R2 : Blk (((w.alloc (.cells #[.int .i64 a0_0, .int .u64 a0_1] 152)).alloc (.cells #[.int .i64 a1_0, .int .u64 a1_1] 152)).alloc (.cells #[.int .i64 0, .int .u64 0] 152)) (w.heap.size + 1) 152 #[.int .i64 a1_0, .int .u64 a1_1] := (Blk.new' _ _ (by simp)).alloc _
    have R3 : Blk (((w.alloc (.cells #[.int .i64 a0_0, .int .u64 a0_1] 152)).alloc (.cells #[.int .i64 a1_0, .int .u64 a1_1] 152)).alloc (.cells #[.int .i64 0, .int .u64 0] 152)) (w.heap.size + 1 + 1) 152 #[.int .i64 0, .int .u64 0] := Blk.new' _ _ (by simp)
    have B3 := below_new (below_new (below_new (Below.refl w.heap.size w) (.cells #[.int .i64 a0_0, .int .u64 a0_1] 152)) (.cells #[.int .i64 a1_0, .int .u64 a1_1] 152)) (.cells #[.int .i64 0, .int .u64 0] 152)
    refine wp_region_held_drew (S := (fun w' => Blk w' w.heap.size 152 #[.int .i64 a0_0, .int .u64 a0_1] ∧ Blk w' (w.heap.size + 1) 152 #[.int .i64 a1_0, .int .u64 a1_1] ∧ (∃ x y, Blk w' (w.heap.size + 1 + 1) 152 #[x, y]) ∧ Below w.heap.size w w')) (by kernel_rfl) (⟨R1.drew, R2.drew, ⟨_, _, R3.drew⟩, B3.drew⟩) (fun hS_ => ?_)
    refine wpAnyH_take (i := 0) rfl (by kernel_rfl) (by kernel_rfl) (by kernel_rfl) (fun _ _ _ h => h) (yields_load_blk rfl 152 (.tmp 2) rfl w.heap.size rfl (fun w h => h.1) Try.underlying152 rfl (by kernel_rfl)) hS_ ?_
    (try simp only [Act.put, List.setIfInBounds_toArray, List.set_cons_zero, List.set_cons_succ])
    refine wpAnyH_take (i := 2) rfl (by kernel_rfl) (by kernel_rfl) (by kernel_rfl) (fun _ _ _ h => h) (yields_load_blk rfl 152 (.tmp 3) rfl (w.heap.size + 1) rfl (fun w h => h.2.1) Try.underlying152 rfl (by kernel_rfl)) hS_ ?_
    (try simp only [Act.put, List.setIfInBounds_toArray, List.set_cons_zero, List.set_cons_succ])
    refine wpAnyH_ready (rs := [1]) (by kernel_rfl) (by simp) (AllReadyH.cons rfl (fun K hK => ?_) AllReadyH.nil)
    go_simp
    (go_at_call 119; refine (X _).mono ?_; rintro e w4 ⟨rfl, b4⟩)
    (try go_wp2_with fail)
    refine hK.out _ _ (⟨Blk.below hS_.1 b4, Blk.below hS_.2.1 b4, ⟨_, _, Blk.below hS_.2.2.1.choose_spec.choose_spec b4⟩, below_then hS_.2.2.2 b4 hS_.2.2.2.size⟩) (fun hS_ => ?_)
    clear hK K
    (try simp only [Act.put, List.setIfInBounds_toArray, List.set_cons_zero, List.set_cons_succ])
    refine wpAnyH_ready (rs := [3]) (by kernel_rfl) (by simp) (AllReadyH.cons rfl (fun K hK => ?_) AllReadyH.nil)
    go_simp
    (go_at_call 119; refine (Y _).mono ?_; rintro e w5 ⟨rfl, b5⟩)
    (try go_wp2_with fail)
    refine hK.out _ _ (⟨Blk.below hS_.1 b5, Blk.below hS_.2.1 b5, ⟨_, _, Blk.below hS_.2.2.1.choose_spec.choose_spec b5⟩, below_then hS_.2.2.2 b5 hS_.2.2.2.size⟩) (fun hS_ => ?_)
    clear hK K
    (try simp only [Act.put, List.setIfInBounds_toArray, List.set_cons_zero, List.set_cons_succ])
    refine wpAnyH_ready (rs := [4]) (by kernel_rfl) (by simp) (AllReadyH.cons rfl (fun K hK => ?_) AllReadyH.nil)
    go_simp
    (go_at_call 123; refine (P _).mono ?_; rintro e w6 ⟨rfl, b6⟩)
    (try go_wp2_with fail)
    refine hK.out _ _ (⟨Blk.below hS_.1 b6, Blk.below hS_.2.1 b6, ⟨_, _, Blk.below hS_.2.2.1.choose_spec.choose_spec b6⟩, below_then hS_.2.2.2 b6 hS_.2.2.2.size⟩) (fun hS_ => ?_)
    clear hK K
    (try simp only [Act.put, List.setIfInBounds_toArray, List.set_cons_zero, List.set_cons_succ])
    refine wpAnyH_ready (rs := [5]) (by kernel_rfl) (by simp) (AllReadyH.cons rfl (fun K hK => ?_) AllReadyH.nil)
    go_simp
    (go_at_call 122; refine (Z _).mono ?_; rintro e w7 ⟨rfl, b7⟩)
    (try go_wp2_with fail)
    refine hK.out _ _ (⟨Blk.below hS_.1 b7, Blk.below hS_.2.1 b7, ⟨_, _, Blk.below hS_.2.2.1.choose_spec.choose_spec b7⟩, below_then hS_.2.2.2 b7 hS_.2.2.2.size⟩) (fun hS_ => ?_)
    clear hK K
    (try simp only [Act.put, List.setIfInBounds_toArray, List.set_cons_zero, List.set_cons_succ])
    obtain ⟨S1, S2, ⟨x9, y9, R9⟩, S3⟩ := hS_
    obtain ⟨r0, r1, r2, r3⟩ := Blk.cells2 R9
    have hS_ : True := trivial
    refine wpAnyH_ready (rs := [6]) (by kernel_rfl) (by simp) (AllReadyH.cons rfl (fun K hK => ?_) AllReadyH.nil)
    go_simp
    (try go_wp2_with fail)
    refine hK.out _ _ (⟨Blk.far2 S1 (by omega), Blk.far2 S2 (by omega), ⟨_, _, Blk.set2 R9⟩, below_set2 S3 (by omega)⟩) (fun hS_ => ?_)
    clear hK K
    (try simp only [Act.put, List.setIfInBounds_toArray, List.set_cons_zero, List.set_cons_succ])
    refine wpAnyH_done (by kernel_rfl) ?_ _
    go_wp2
    refine bodyPost_ret (results_cell_row rfl _ _ (w.heap.size + 1 + 1) 152 #[.int .i64 (I128.enc (I128.val a0_0 a0_1 + I128.val a1_0 a1_1)).1, .int .u64 (I128.enc (I128.val a0_0 a0_1 + I128.val a1_0 a1_1)).2] (0, 0) _ rfl (Blk.set2 R9) Try.underlying152 rfl (by kernel_rfl)) rfl ?_
    exact ⟨rfl, below_set2 S3 (by omega)⟩

end Go.Proofs.Ytnccgpdniigekaa
/-
  The reference's Div comes to the quotient, rounded down, and the rest.
-/
namespace Go.Proofs.Ytnccgpdniigekaa
open Go.RowKit
set_option linter.unusedVariables false
set_option linter.unusedSimpArgs false

def inclineref01_Div.f (a0_0 a0_1 a1 : Int) : Option (Int × Int × Int × Int) :=
  if i64ok a0_0 ∧ u64ok a0_1 ∧ u64ok a1 then
    if a1 = 0 then some (0, 0, 0, 10) else some ((I128.enc (I128.val a0_0 a0_1 / a1)).1, (I128.enc (I128.val a0_0 a0_1 / a1)).2, I128.val a0_0 a0_1 % a1, 0)
  else none

/-- What the two loops need of memory: the number's digits at gn, the quotient's at gq. -/
structure DivS (w0 wr : World) (gr gn gq : Nat) (M : Int) (f : Nat → Int) : Prop where
  r : Blk wr gr 152 #[.int .i64 0, .int .u64 0]
  n : NumAt wr gn (dig M)
  q : NumAt wr gq f
  b : Below w0.heap.size w0 wr
  nr : gr ≠ gq
  nn : gn ≠ gq
  hq : w0.heap.size ≤ gq
theorem DivS.set {w0 wr : World} {gr gn gq : Nat} {M : Int} {f f' : Nat → Int} (h : DivS w0 wr gr gn gq M f) (k : Nat) (v : Int) (hk : k < 8) (hf : ∀ j, j < 8 → (if j = k then v else f j) = f' j) : DivS w0 (wr.setCell ⟨gq, k, none⟩ (.int .i64 v)) gr gn gq M f' :=
  ⟨h.r.far _ h.nr, Blk.far h.n _ h.nn, (NumAt.set h.q k v hk).congr hf, h.b.setCell h.hq _, h.nr, h.nn, h.hq⟩
theorem DivS.congr {w0 wr : World} {gr gn gq : Nat} {M : Int} {f f' : Nat → Int} (h : DivS w0 wr gr gn gq M f) (hf : ∀ j, j < 8 → f j = f' j) : DivS w0 wr gr gn gq M f' := ⟨h.r, h.n, h.q.congr hf, h.b, h.nr, h.nn, h.hq⟩

set_option maxHeartbeats 800000 in
theorem ref_div_zero (a0_0 a0_1 : Int) (w : World) :
    Calls Try.prog 102 #[.agg #[.int .i64 a0_0, .int .u64 a0_1], .int .u64 0] w fun e w' => e = .returned (.tuple #[.agg #[.int .i64 0, .int .u64 0], .int .u64 0, .int .i64 10]) ∧ Below w.heap.size w w' := by
  go_enter Try.func102, Try.ntmps102
  go_wp2
  refine bodyPost_ret (v := .tuple #[.agg #[.int .i64 0, .int .u64 0], .int .u64 0, .int .i64 10]) (by simp [results, Try.results102, go_sem]) rfl ⟨rfl, ?_⟩
  exact below_new (below_new (Below.refl _ _) _) _

set_option maxHeartbeats 3200000 in
theorem ref_div_not (a0_0 a0_1 d : Int) (h1 : i64ok a0_0) (h2 : u64ok a0_1) (h3 : u64ok d) (hz : d ≠ 0) (hn : 0 ≤ I128.val a0_0 a0_1) (w : World) :
    Calls Try.prog 102 #[.agg #[.int .i64 a0_0, .int .u64 a0_1], .int .u64 d] w fun e w' => e = .returned (.tuple #[.agg #[.int .i64 (I128.enc (I128.val a0_0 a0_1 / d)).1, .int .u64 (I128.enc (I128.val a0_0 a0_1 / d)).2], .int .u64 (I128.val a0_0 a0_1 % d), .int .i64 0]) ∧ Below w.heap.size w w' := by
  have X := num_of_any a0_0 a0_1 h1 h2
  have ov := I128.val_ok h1 h2
  generalize I128.val a0_0 a0_1 = v at *
  have hd0 : 0 < d := by unfold u64ok at h3; omega
  have hd1 : d ≤ 18446744073709551615 := h3.2
  have BV := num_below_is ov (s := false) (by simp; omega)
  have L0 := num_less_any v
  have hz0 : (d == 0) = false := by simpa using hz
  have R1 := Blk.new' (w := w.alloc (.cells #[.int .i64 a0_0, .int .u64 a0_1] 152)) (g := w.heap.size + 1) 152 #[.int .i64 0, .int .u64 0] (by simp)
  have B1 := below_new (below_new (Below.refl w.heap.size w) (.cells #[.int .i64 a0_0, .int .u64 a0_1] 152)) (.cells #[.int .i64 0, .int .u64 0] 152)
  go_enter Try.func102, Try.ntmps102
  go_wp2_with fail
  refine (X _).mono ?_
  rintro e w1 ⟨rfl, b1⟩
  have hst := store_fresh w1 (dig v)
  have G := NumAt.new w1 (dig v)
  have R2 := (R1.below b1).alloc (.cells (cellsOf (dig v)) 168)
  have B2 := below_new (below_next B1 b1) (.cells (cellsOf (dig v)) 168)
  go_wp2_with (first | (refine load_blk rfl 168 (.tmp 7) rfl w1.heap.size rfl G Try.underlying168 rfl (by kernel_rfl) ?_) | (go_at_call 120; refine (BV _).mono ?_; rintro e w2 ⟨rfl, b2⟩))
  have hM : 0 ≤ v ∧ v < 340282366920938463463374607431768211456 := by unfold i128ok at ov; omega
  have D0 : DivS w (w2.alloc (.cells (cellsOf fun _ => 0) 168)) (w.heap.size + 1) w1.heap.size w2.heap.size v (fun _ => 0) := ⟨(R2.below b2).alloc _, (NumAt.below G b2).alloc _, NumAt.new w2 _, below_new (below_next B2 b2) _, Nat.ne_of_lt (R2.below b2).lt, Nat.ne_of_lt (NumAt.below G b2).lt, (below_next B2 b2).size⟩
  clear hst
  go_loopw [10, 11] (fun r i wr => ∃ m : Nat, m ≤ 8 ∧ i = .int .i64 ((m : Int) - 1) ∧ r = .int .u64 (v / pw m % d) ∧ DivS w wr (w.heap.size + 1) w1.heap.size w2.heap.size v (fun j => if m ≤ j then dig (v / d) j else 0)) (fun _ i _ => (intOf i + 1).toNat)
  case atStart => exact ⟨8, by omega, rfl, by rw [dig_top v hM.1 hM.2]; simp, D0.congr fun j hj => by rw [if_neg (by omega)]⟩
  case round =>
    obtain ⟨m, hm, rfl, rfl, D⟩ := hrel
    obtain ⟨wo, rfl⟩ : ∃ wo : World, wo = wr := ⟨_, rfl⟩
    have r0 := Int.emod_nonneg (v / pw m) (Int.ne_of_gt hd0)
    have r1 := Int.emod_lt_of_pos (v / pw m) hd0
    by_cases hlt : 0 < m
    · obtain ⟨i, rfl⟩ : ∃ i, m = i + 1 := ⟨m - 1, by omega⟩
      rw [show ((i + 1 : Nat) : Int) - 1 = (i : Int) from by omega]
      go_wp2
      go_loopw [10, 12] (fun r k wr => ∃ s : Nat, s ≤ 16 ∧ k = .int .i64 (kk s) ∧ r = .int .u64 (above v i s % d) ∧ DivS w wr (w.heap.size + 1) w1.heap.size w2.heap.size v (got (v / d) i s)) (fun _ k _ => (intOf k).toNat)
      case atStart => exact ⟨16, by omega, rfl, by rw [above_sixteen v i (by omega)], D.congr fun j hj => (got_top (v / d) i j).symm⟩
      case round =>
        obtain ⟨s, hs, rfl, rfl, E⟩ := hrel
        have a0 := Int.emod_nonneg (above v i s) (Int.ne_of_gt hd0)
        have a1 := Int.emod_lt_of_pos (above v i s) hd0
        by_cases hls : 0 < s
        · obtain ⟨u, rfl⟩ : ∃ u, s = u + 1 := ⟨s - 1, by omega⟩
          obtain ⟨rs, bs⟩ := rest_step v d i u (by omega) (by omega) hd0
          have kh := kk_half u (by omega)
          have kl := kk_lt u (by omega)
          have kr := kk_range u
          have kr1 := kk_range (u + 1)
          have gi : got (v / d) i (u + 1) i = dig (v / d) i / p2 (u + 1) * p2 (u + 1) := by unfold got; rw [if_neg (by omega), if_pos rfl]
          have c1 := E.n.cell i (by omega)
          have c2 := NumAt.cell E.q i (by omega)
          rw [gi] at c2
          have f2 := NumAt.free E.q i
          have gs := got_step (v / d) i u (by omega)
          have dr := dig_range v i
          have dq := dig_range (v / d) i
          have gq0 : 0 ≤ dig (v / d) i / p2 (u + 1) * p2 (u + 1) ∧ dig (v / d) i / p2 (u + 1) * p2 (u + 1) ≤ 65535 := by
            have := Int.ediv_mul_le (dig (v / d) i) (Int.ne_of_gt (p2_pos (u + 1)))
            have := Int.mul_nonneg (Int.ediv_nonneg dq.1 (Int.le_of_lt (p2_pos (u + 1)))) (Int.le_of_lt (p2_pos (u + 1)))
            omega
          clear gi
          have dv0 := Int.ediv_nonneg dr.1 kr1.1
          have hbit : bit v i u = dig v i / kk (u + 1) % 2 := rfl
          have br := bit_range v i u
          generalize above v i (u + 1) % d = y at *
          rcases (show bit v i u = 0 ∨ bit v i u = 1 from by omega) with hbv | hbv
          · skip
            by_cases hov : 9223372036854775808 ≤ y
            · have hb1 : (dig v i / kk (u + 1) % 2 == 1) = false := by rw [← hbit, hbv]; rfl
              have ho : decide (9223372036854775808 ≤ y) = true := by simp; omega
              have e1 : IntKind.u64.wrap (2 * y) = 2 * y - 18446744073709551616 := by rw [IntKind.wrap_u64]; omega
              have e3 : IntKind.u64.wrap (2 * y - 18446744073709551616 - d) = 2 * y - d := by rw [IntKind.wrap_u64]; omega
              have fr := Lib.hid (show above v i u % d = 2 * y - d from by rw [rs, hbv]; rw [if_pos (by omega)]; omega)
              have fb : bit (v / d) i u = 1 := by rw [bs, hbv]; rw [if_pos (by omega)]
              rw [fb] at gs
              have GS := Lib.hid gs
              clear gs fb bs rs
              have KH := Lib.hid kh
              clear kh
              have HBV := Lib.hid hbv; clear hbv
              go_wp2
              go_roundw
              case rel =>
                refine ⟨u, by omega, by rw [KH.out], by rw [fr.out], ?_⟩
                refine E.set i _ (by omega) fun j hj => ?_
                have g1 := GS.out
                unfold got
                by_cases e : j = i
                · subst e; rw [if_pos rfl, if_neg (by omega), if_pos rfl, g1]; show _ + p2 u = _; omega
                · rw [if_neg e, if_neg e, if_neg e]
              case measure => rw [KH.out]; simp only [intOf]; omega
            · by_cases hge : d ≤ 2 * y
              · have hb1 : (dig v i / kk (u + 1) % 2 == 1) = false := by rw [← hbit, hbv]; rfl
                have ho : decide (9223372036854775808 ≤ y) = false := by simp; omega
                have hg : decide (d ≤ 2 * y) = true := by simp; omega
                have fr := Lib.hid (show above v i u % d = 2 * y - d from by rw [rs, hbv]; rw [if_pos (by omega)]; omega)
                have fb : bit (v / d) i u = 1 := by rw [bs, hbv]; rw [if_pos (by omega)]
                rw [fb] at gs
                have GS := Lib.hid gs
                clear gs fb bs rs
                have KH := Lib.hid kh
                clear kh
                have HBV := Lib.hid hbv; clear hbv
                go_wp2
                go_roundw
                case rel =>
                  refine ⟨u, by omega, by rw [KH.out], by rw [fr.out], ?_⟩
                  refine E.set i _ (by omega) fun j hj => ?_
                  have g1 := GS.out
                  unfold got
                  by_cases e : j = i
                  · subst e; rw [if_pos rfl, if_neg (by omega), if_pos rfl, g1]; show _ + p2 u = _; omega
                  · rw [if_neg e, if_neg e, if_neg e]
                case measure => rw [KH.out]; simp only [intOf]; omega
              · have hb1 : (dig v i / kk (u + 1) % 2 == 1) = false := by rw [← hbit, hbv]; rfl
                have ho : decide (9223372036854775808 ≤ y) = false := by simp; omega
                have hg : decide (d ≤ 2 * y) = false := by simp; omega
                have fr := Lib.hid (show above v i u % d = 2 * y from by rw [rs, hbv]; rw [if_neg (by omega)]; omega)
                have fb : bit (v / d) i u = 0 := by rw [bs, hbv]; rw [if_neg (by omega)]
                rw [fb] at gs
                have GS := Lib.hid gs
                clear gs fb bs rs
                have KH := Lib.hid kh
                clear kh
                have HBV := Lib.hid hbv; clear hbv
                go_wp2
                go_roundw
                case rel =>
                  refine ⟨u, by omega, by rw [KH.out], by rw [fr.out], ?_⟩
                  refine E.congr fun j hj => ?_
                  have g1 := GS.out
                  unfold got
                  by_cases e : j = i
                  · subst e; rw [if_neg (by omega), if_pos rfl, if_neg (by omega), if_pos rfl, g1]; omega
                  · rw [if_neg e, if_neg e]
                case measure => rw [KH.out]; simp only [intOf]; omega
          · skip
            by_cases hov : 9223372036854775808 ≤ y
            · have hb1 : (dig v i / kk (u + 1) % 2 == 1) = true := by rw [← hbit, hbv]; rfl
              have ho : decide (9223372036854775808 ≤ y) = true := by simp; omega
              have e1 : IntKind.u64.wrap (2 * y) = 2 * y - 18446744073709551616 := by rw [IntKind.wrap_u64]; omega
              have e2 : IntKind.u64.wrap (2 * y - 18446744073709551616 + 1) = 2 * y - 18446744073709551616 + 1 := by rw [IntKind.wrap_u64]; omega
              have e3 : IntKind.u64.wrap (2 * y - 18446744073709551616 + 1 - d) = 2 * y + 1 - d := by rw [IntKind.wrap_u64]; omega
              have fr := Lib.hid (show above v i u % d = 2 * y + 1 - d from by rw [rs, hbv]; rw [if_pos (by omega)])
              have fb : bit (v / d) i u = 1 := by rw [bs, hbv]; rw [if_pos (by omega)]
              rw [fb] at gs
              have GS := Lib.hid gs
              clear gs fb bs rs
              have KH := Lib.hid kh
              clear kh
              have HBV := Lib.hid hbv; clear hbv
              go_wp2
              go_roundw
              case rel =>
                refine ⟨u, by omega, by rw [KH.out], by rw [fr.out], ?_⟩
                refine E.set i _ (by omega) fun j hj => ?_
                have g1 := GS.out
                unfold got
                by_cases e : j = i
                · subst e; rw [if_pos rfl, if_neg (by omega), if_pos rfl, g1]; show _ + p2 u = _; omega
                · rw [if_neg e, if_neg e, if_neg e]
              case measure => rw [KH.out]; simp only [intOf]; omega
            · by_cases hge : d ≤ 2 * y + 1
              · have hb1 : (dig v i / kk (u + 1) % 2 == 1) = true := by rw [← hbit, hbv]; rfl
                have ho : decide (9223372036854775808 ≤ y) = false := by simp; omega
                have hg : decide (d ≤ 2 * y + 1) = true := by simp; omega
                have fr := Lib.hid (show above v i u % d = 2 * y + 1 - d from by rw [rs, hbv]; rw [if_pos (by omega)])
                have fb : bit (v / d) i u = 1 := by rw [bs, hbv]; rw [if_pos (by omega)]
                rw [fb] at gs
                have GS := Lib.hid gs
                clear gs fb bs rs
                have KH := Lib.hid kh
                clear kh
                have HBV := Lib.hid hbv; clear hbv
                go_wp2
                go_roundw
                case rel =>
                  refine ⟨u, by omega, by rw [KH.out], by rw [fr.out], ?_⟩
                  refine E.set i _ (by omega) fun j hj => ?_
                  have g1 := GS.out
                  unfold got
                  by_cases e : j = i
                  · subst e; rw [if_pos rfl, if_neg (by omega), if_pos rfl, g1]; show _ + p2 u = _; omega
                  · rw [if_neg e, if_neg e, if_neg e]
                case measure => rw [KH.out]; simp only [intOf]; omega
              · have hb1 : (dig v i / kk (u + 1) % 2 == 1) = true := by rw [← hbit, hbv]; rfl
                have ho : decide (9223372036854775808 ≤ y) = false := by simp; omega
                have hg : decide (d ≤ 2 * y + 1) = false := by simp; omega
                have fr := Lib.hid (show above v i u % d = 2 * y + 1 from by rw [rs, hbv]; rw [if_neg (by omega)])
                have fb : bit (v / d) i u = 0 := by rw [bs, hbv]; rw [if_neg (by omega)]
                rw [fb] at gs
                have GS := Lib.hid gs
                clear gs fb bs rs
                have KH := Lib.hid kh
                clear kh
                have HBV := Lib.hid hbv; clear hbv
                go_wp2
                go_roundw
                case rel =>
                  refine ⟨u, by omega, by rw [KH.out], by rw [fr.out], ?_⟩
                  refine E.congr fun j hj => ?_
                  have g1 := GS.out
                  unfold got
                  by_cases e : j = i
                  · subst e; rw [if_neg (by omega), if_pos rfl, if_neg (by omega), if_pos rfl, g1]; omega
                  · rw [if_neg e, if_neg e]
                case measure => rw [KH.out]; simp only [intOf]; omega
        · obtain rfl : s = 0 := by omega
          have hk0 : (kk 0 : Int) = 0 := rfl
          rw [hk0]
          go_wp2
          go_roundw
          case rel => exact ⟨i, by omega, rfl, by rw [above_zero], E.congr fun j hj => got_zero (v / d) i j⟩
          case measure => simp [intOf]
    · obtain rfl : m = 0 := by omega
      have hend : v / pw 0 % d = v % d := by simp only [pw, Int.ediv_one]
      rw [hend]
      have Dq := D.congr (f' := dig (v / d)) fun j hj => if_pos (Nat.zero_le _)
      clear D hend
      have Z := num_told_any (v / d)
      go_wp2_with (first | (refine load_blk rfl 168 (.tmp 9) rfl w2.heap.size rfl Dq.q Try.underlying168 rfl (by kernel_rfl) ?_) | (go_at_call 122; refine (Z _).mono ?_; rintro e w4 ⟨rfl, b4⟩; have R9 := Dq.r.below b4; obtain ⟨s0, s1, s2, s3⟩ := Blk.cells2 R9))
      refine bodyPost_ret (v := .tuple #[.agg #[.int .i64 (I128.enc (v / d)).1, .int .u64 (I128.enc (v / d)).2], .int .u64 (v % d), .int .i64 0]) (results_ctt (p := 4) (u := 5) (v := 6) (ty := 152) rfl _ rfl rfl rfl (Blk.set2 R9) Try.underlying152 rfl (by kernel_rfl)) rfl ?_
      exact ⟨rfl, below_set2 (below_next Dq.b b4) (by omega)⟩

set_option maxHeartbeats 3200000 in
theorem ref_div_under (a0_0 a0_1 d : Int) (h1 : i64ok a0_0) (h2 : u64ok a0_1) (h3 : u64ok d) (hz : d ≠ 0) (hn : I128.val a0_0 a0_1 < 0) (w : World) :
    Calls Try.prog 102 #[.agg #[.int .i64 a0_0, .int .u64 a0_1], .int .u64 d] w fun e w' => e = .returned (.tuple #[.agg #[.int .i64 (I128.enc (I128.val a0_0 a0_1 / d)).1, .int .u64 (I128.enc (I128.val a0_0 a0_1 / d)).2], .int .u64 (I128.val a0_0 a0_1 % d), .int .i64 0]) ∧ Below w.heap.size w w' := by
  have X := num_of_any a0_0 a0_1 h1 h2
  have ov := I128.val_ok h1 h2
  generalize I128.val a0_0 a0_1 = v at *
  have hd0 : 0 < d := by unfold u64ok at h3; omega
  have hd1 : d ≤ 18446744073709551615 := h3.2
  have BV := num_below_is ov (s := true) (by simp; omega)
  have L0 := num_less_any v
  have hz0 : (d == 0) = false := by simpa using hz
  have R1 := Blk.new' (w := w.alloc (.cells #[.int .i64 a0_0, .int .u64 a0_1] 152)) (g := w.heap.size + 1) 152 #[.int .i64 0, .int .u64 0] (by simp)
  have B1 := below_new (below_new (Below.refl w.heap.size w) (.cells #[.int .i64 a0_0, .int .u64 a0_1] 152)) (.cells #[.int .i64 0, .int .u64 0] 152)
  go_enter Try.func102, Try.ntmps102
  go_wp2_with fail
  refine (X _).mono ?_
  rintro e w1 ⟨rfl, b1⟩
  have hst := store_fresh w1 (dig v)
  have G := NumAt.new w1 (dig v)
  have R2 := (R1.below b1).alloc (.cells (cellsOf (dig v)) 168)
  have B2 := below_new (below_next B1 b1) (.cells (cellsOf (dig v)) 168)
  go_wp2_with (first | (refine load_blk rfl 168 (.tmp 7) rfl w1.heap.size rfl (by first | exact G | exact NumAt.below G b2) Try.underlying168 rfl (by kernel_rfl) ?_) | (go_at_call 120; refine (BV _).mono ?_; rintro e w2 ⟨rfl, b2⟩) | (go_at_call 121; refine (L0 _).mono ?_; rintro e w3 ⟨rfl, b3⟩; have hst3 := ((G.below b2).below b3).store (dig (-v))))
  have hM : 0 ≤ -v ∧ -v < 340282366920938463463374607431768211456 := by unfold i128ok at ov; omega
  have ne1 : w.heap.size + 1 ≠ w1.heap.size := Nat.ne_of_lt (R1.below b1).lt
  have D0 : DivS w ((w3.setRow w1.heap.size (cellsOf (dig (-v)))).alloc (.cells (cellsOf fun _ => 0) 168)) (w.heap.size + 1) w1.heap.size w3.heap.size (-v) (fun _ => 0) := ⟨(((R2.below b2).below b3).rowFar _ ne1).alloc _, (NumAt.row ((NumAt.below G b2).below b3) _).alloc _, NumAt.new' _ (by simp), below_new (below_setRow (below_next (below_next B2 b2) b3) (by have := B1.size; have := b1.size; omega) _) _, Nat.ne_of_lt ((R2.below b2).below b3).lt, Nat.ne_of_lt ((NumAt.below G b2).below b3).lt, (below_next (below_next B2 b2) b3).size⟩
  clear hst hst3
  go_loopw [10, 11] (fun r i wr => ∃ m : Nat, m ≤ 8 ∧ i = .int .i64 ((m : Int) - 1) ∧ r = .int .u64 ((-v) / pw m % d) ∧ DivS w wr (w.heap.size + 1) w1.heap.size w3.heap.size (-v) (fun j => if m ≤ j then dig ((-v) / d) j else 0)) (fun _ i _ => (intOf i + 1).toNat)
  case atStart => exact ⟨8, by omega, rfl, by rw [dig_top (-v) hM.1 hM.2]; simp, D0.congr fun j hj => by rw [if_neg (by omega)]⟩
  case round =>
    obtain ⟨m, hm, rfl, rfl, D⟩ := hrel
    obtain ⟨wo, rfl⟩ : ∃ wo : World, wo = wr := ⟨_, rfl⟩
    have r0 := Int.emod_nonneg ((-v) / pw m) (Int.ne_of_gt hd0)
    have r1 := Int.emod_lt_of_pos ((-v) / pw m) hd0
    by_cases hlt : 0 < m
    · obtain ⟨i, rfl⟩ : ∃ i, m = i + 1 := ⟨m - 1, by omega⟩
      rw [show ((i + 1 : Nat) : Int) - 1 = (i : Int) from by omega]
      go_wp2
      go_loopw [10, 12] (fun r k wr => ∃ s : Nat, s ≤ 16 ∧ k = .int .i64 (kk s) ∧ r = .int .u64 (above (-v) i s % d) ∧ DivS w wr (w.heap.size + 1) w1.heap.size w3.heap.size (-v) (got ((-v) / d) i s)) (fun _ k _ => (intOf k).toNat)
      case atStart => exact ⟨16, by omega, rfl, by rw [above_sixteen (-v) i (by omega)], D.congr fun j hj => (got_top ((-v) / d) i j).symm⟩
      case round =>
        obtain ⟨s, hs, rfl, rfl, E⟩ := hrel
        have a0 := Int.emod_nonneg (above (-v) i s) (Int.ne_of_gt hd0)
        have a1 := Int.emod_lt_of_pos (above (-v) i s) hd0
        by_cases hls : 0 < s
        · obtain ⟨u, rfl⟩ : ∃ u, s = u + 1 := ⟨s - 1, by omega⟩
          obtain ⟨rs, bs⟩ := rest_step (-v) d i u (by omega) (by omega) hd0
          have kh := kk_half u (by omega)
          have kl := kk_lt u (by omega)
          have kr := kk_range u
          have kr1 := kk_range (u + 1)
          have gi : got ((-v) / d) i (u + 1) i = dig ((-v) / d) i / p2 (u + 1) * p2 (u + 1) := by unfold got; rw [if_neg (by omega), if_pos rfl]
          have c1 := E.n.cell i (by omega)
          have c2 := NumAt.cell E.q i (by omega)
          rw [gi] at c2
          have f2 := NumAt.free E.q i
          have gs := got_step ((-v) / d) i u (by omega)
          have dr := dig_range (-v) i
          have dq := dig_range ((-v) / d) i
          have gq0 : 0 ≤ dig ((-v) / d) i / p2 (u + 1) * p2 (u + 1) ∧ dig ((-v) / d) i / p2 (u + 1) * p2 (u + 1) ≤ 65535 := by
            have := Int.ediv_mul_le (dig ((-v) / d) i) (Int.ne_of_gt (p2_pos (u + 1)))
            have := Int.mul_nonneg (Int.ediv_nonneg dq.1 (Int.le_of_lt (p2_pos (u + 1)))) (Int.le_of_lt (p2_pos (u + 1)))
            omega
          clear gi
          have dv0 := Int.ediv_nonneg dr.1 kr1.1
          have hbit : bit (-v) i u = dig (-v) i / kk (u + 1) % 2 := rfl
          have br := bit_range (-v) i u
          generalize above (-v) i (u + 1) % d = y at *
          rcases (show bit (-v) i u = 0 ∨ bit (-v) i u = 1 from by omega) with hbv | hbv
          · skip
            by_cases hov : 9223372036854775808 ≤ y
            · have hb1 : (dig (-v) i / kk (u + 1) % 2 == 1) = false := by rw [← hbit, hbv]; rfl
              have ho : decide (9223372036854775808 ≤ y) = true := by simp; omega
              have e1 : IntKind.u64.wrap (2 * y) = 2 * y - 18446744073709551616 := by rw [IntKind.wrap_u64]; omega
              have e3 : IntKind.u64.wrap (2 * y - 18446744073709551616 - d) = 2 * y - d := by rw [IntKind.wrap_u64]; omega
              have fr := Lib.hid (show above (-v) i u % d = 2 * y - d from by rw [rs, hbv]; rw [if_pos (by omega)]; omega)
              have fb : bit ((-v) / d) i u = 1 := by rw [bs, hbv]; rw [if_pos (by omega)]
              rw [fb] at gs
              have GS := Lib.hid gs
              clear gs fb bs rs
              have KH := Lib.hid kh
              clear kh
              have HBV := Lib.hid hbv; clear hbv
              go_wp2
              go_roundw
              case rel =>
                refine ⟨u, by omega, by rw [KH.out], by rw [fr.out], ?_⟩
                refine E.set i _ (by omega) fun j hj => ?_
                have g1 := GS.out
                unfold got
                by_cases e : j = i
                · subst e; rw [if_pos rfl, if_neg (by omega), if_pos rfl, g1]; show _ + p2 u = _; omega
                · rw [if_neg e, if_neg e, if_neg e]
              case measure => rw [KH.out]; simp only [intOf]; omega
            · by_cases hge : d ≤ 2 * y
              · have hb1 : (dig (-v) i / kk (u + 1) % 2 == 1) = false := by rw [← hbit, hbv]; rfl
                have ho : decide (9223372036854775808 ≤ y) = false := by simp; omega
                have hg : decide (d ≤ 2 * y) = true := by simp; omega
                have fr := Lib.hid (show above (-v) i u % d = 2 * y - d from by rw [rs, hbv]; rw [if_pos (by omega)]; omega)
                have fb : bit ((-v) / d) i u = 1 := by rw [bs, hbv]; rw [if_pos (by omega)]
                rw [fb] at gs
                have GS := Lib.hid gs
                clear gs fb bs rs
                have KH := Lib.hid kh
                clear kh
                have HBV := Lib.hid hbv; clear hbv
                go_wp2
                go_roundw
                case rel =>
                  refine ⟨u, by omega, by rw [KH.out], by rw [fr.out], ?_⟩
                  refine E.set i _ (by omega) fun j hj => ?_
                  have g1 := GS.out
                  unfold got
                  by_cases e : j = i
                  · subst e; rw [if_pos rfl, if_neg (by omega), if_pos rfl, g1]; show _ + p2 u = _; omega
                  · rw [if_neg e, if_neg e, if_neg e]
                case measure => rw [KH.out]; simp only [intOf]; omega
              · have hb1 : (dig (-v) i / kk (u + 1) % 2 == 1) = false := by rw [← hbit, hbv]; rfl
                have ho : decide (9223372036854775808 ≤ y) = false := by simp; omega
                have hg : decide (d ≤ 2 * y) = false := by simp; omega
                have fr := Lib.hid (show above (-v) i u % d = 2 * y from by rw [rs, hbv]; rw [if_neg (by omega)]; omega)
                have fb : bit ((-v) / d) i u = 0 := by rw [bs, hbv]; rw [if_neg (by omega)]
                rw [fb] at gs
                have GS := Lib.hid gs
                clear gs fb bs rs
                have KH := Lib.hid kh
                clear kh
                have HBV := Lib.hid hbv; clear hbv
                go_wp2
                go_roundw
                case rel =>
                  refine ⟨u, by omega, by rw [KH.out], by rw [fr.out], ?_⟩
                  refine E.congr fun j hj => ?_
                  have g1 := GS.out
                  unfold got
                  by_cases e : j = i
                  · subst e; rw [if_neg (by omega), if_pos rfl, if_neg (by omega), if_pos rfl, g1]; omega
                  · rw [if_neg e, if_neg e]
                case measure => rw [KH.out]; simp only [intOf]; omega
          · skip
            by_cases hov : 9223372036854775808 ≤ y
            · have hb1 : (dig (-v) i / kk (u + 1) % 2 == 1) = true := by rw [← hbit, hbv]; rfl
              have ho : decide (9223372036854775808 ≤ y) = true := by simp; omega
              have e1 : IntKind.u64.wrap (2 * y) = 2 * y - 18446744073709551616 := by rw [IntKind.wrap_u64]; omega
              have e2 : IntKind.u64.wrap (2 * y - 18446744073709551616 + 1) = 2 * y - 18446744073709551616 + 1 := by rw [IntKind.wrap_u64]; omega
              have e3 : IntKind.u64.wrap (2 * y - 18446744073709551616 + 1 - d) = 2 * y + 1 - d := by rw [IntKind.wrap_u64]; omega
              have fr := Lib.hid (show above (-v) i u % d = 2 * y + 1 - d from by rw [rs, hbv]; rw [if_pos (by omega)])
              have fb : bit ((-v) / d) i u = 1 := by rw [bs, hbv]; rw [if_pos (by omega)]
              rw [fb] at gs
              have GS := Lib.hid gs
              clear gs fb bs rs
              have KH := Lib.hid kh
              clear kh
              have HBV := Lib.hid hbv; clear hbv
              go_wp2
              go_roundw
              case rel =>
                refine ⟨u, by omega, by rw [KH.out], by rw [fr.out], ?_⟩
                refine E.set i _ (by omega) fun j hj => ?_
                have g1 := GS.out
                unfold got
                by_cases e : j = i
                · subst e; rw [if_pos rfl, if_neg (by omega), if_pos rfl, g1]; show _ + p2 u = _; omega
                · rw [if_neg e, if_neg e, if_neg e]
              case measure => rw [KH.out]; simp only [intOf]; omega
            · by_cases hge : d ≤ 2 * y + 1
              · have hb1 : (dig (-v) i / kk (u + 1) % 2 == 1) = true := by rw [← hbit, hbv]; rfl
                have ho : decide (9223372036854775808 ≤ y) = false := by simp; omega
                have hg : decide (d ≤ 2 * y + 1) = true := by simp; omega
                have fr := Lib.hid (show above (-v) i u % d = 2 * y + 1 - d from by rw [rs, hbv]; rw [if_pos (by omega)])
                have fb : bit ((-v) / d) i u = 1 := by rw [bs, hbv]; rw [if_pos (by omega)]
                rw [fb] at gs
                have GS := Lib.hid gs
                clear gs fb bs rs
                have KH := Lib.hid kh
                clear kh
                have HBV := Lib.hid hbv; clear hbv
                go_wp2
                go_roundw
                case rel =>
                  refine ⟨u, by omega, by rw [KH.out], by rw [fr.out], ?_⟩
                  refine E.set i _ (by omega) fun j hj => ?_
                  have g1 := GS.out
                  unfold got
                  by_cases e : j = i
                  · subst e; rw [if_pos rfl, if_neg (by omega), if_pos rfl, g1]; show _ + p2 u = _; omega
                  · rw [if_neg e, if_neg e, if_neg e]
                case measure => rw [KH.out]; simp only [intOf]; omega
              · have hb1 : (dig (-v) i / kk (u + 1) % 2 == 1) = true := by rw [← hbit, hbv]; rfl
                have ho : decide (9223372036854775808 ≤ y) = false := by simp; omega
                have hg : decide (d ≤ 2 * y + 1) = false := by simp; omega
                have fr := Lib.hid (show above (-v) i u % d = 2 * y + 1 from by rw [rs, hbv]; rw [if_neg (by omega)])
                have fb : bit ((-v) / d) i u = 0 := by rw [bs, hbv]; rw [if_neg (by omega)]
                rw [fb] at gs
                have GS := Lib.hid gs
                clear gs fb bs rs
                have KH := Lib.hid kh
                clear kh
                have HBV := Lib.hid hbv; clear hbv
                go_wp2
                go_roundw
                case rel =>
                  refine ⟨u, by omega, by rw [KH.out], by rw [fr.out], ?_⟩
                  refine E.congr fun j hj => ?_
                  have g1 := GS.out
                  unfold got
                  by_cases e : j = i
                  · subst e; rw [if_neg (by omega), if_pos rfl, if_neg (by omega), if_pos rfl, g1]; omega
                  · rw [if_neg e, if_neg e]
                case measure => rw [KH.out]; simp only [intOf]; omega
        · obtain rfl : s = 0 := by omega
          have hk0 : (kk 0 : Int) = 0 := rfl
          rw [hk0]
          go_wp2
          go_roundw
          case rel => exact ⟨i, by omega, rfl, by rw [above_zero], E.congr fun j hj => got_zero ((-v) / d) i j⟩
          case measure => simp [intOf]
    · obtain rfl : m = 0 := by omega
      have hend : (-v) / pw 0 % d = (-v) % d := by simp only [pw, Int.ediv_one]
      rw [hend]
      have Dq := D.congr (f' := dig ((-v) / d)) fun j hj => if_pos (Nat.zero_le _)
      clear D hend
      by_cases hr0 : -v % d = 0
      · obtain ⟨q1, q2⟩ := neg_exact v d hd0 hr0
        have L := num_less_any (-v / d)
        rw [← q1] at L
        have Z := num_told_any (v / d)
        rw [hr0]
        clear q1 hr0
        go_wp2_with (first | (refine load_blk rfl 168 (.tmp 9) rfl w3.heap.size rfl Dq.q Try.underlying168 rfl (by kernel_rfl) ?_) | (go_at_call 121; refine (L _).mono ?_; rintro e w4 ⟨rfl, b4⟩) | (go_at_call 122; refine (Z _).mono ?_; rintro e w5 ⟨rfl, b5⟩; have R9 := (Dq.r.below b4).below b5; obtain ⟨s0, s1, s2, s3⟩ := Blk.cells2 R9))
        rw [q2]
        refine bodyPost_ret (v := .tuple #[.agg #[.int .i64 (I128.enc (v / d)).1, .int .u64 (I128.enc (v / d)).2], .int .u64 0, .int .i64 0]) (results_ctt (p := 4) (u := 5) (v := 6) (ty := 152) rfl _ rfl rfl rfl (Blk.set2 R9) Try.underlying152 rfl (by kernel_rfl)) rfl ?_
        exact ⟨rfl, below_set2 (below_next (below_next Dq.b b4) b5) (by omega)⟩
      · have hr1 : 0 < -v % d := by have := Int.emod_nonneg (-v) (Int.ne_of_gt hd0); omega
        obtain ⟨q1, q2⟩ := neg_part v d hd0 hr1
        have P := num_plus_any (-v / d) 1
        have L := num_less_any (-v / d + 1)
        rw [← q1] at L
        have Z := num_told_any (v / d)
        have r2 := Int.emod_lt_of_pos (-v) hd0
        have Q2 := Lib.hid q2
        clear q1 q2
        have O := NumAt.new wo (dig 1)
        go_wp2_with (first | (refine load_blk rfl 168 (.tmp 9) rfl w3.heap.size rfl (by first | exact Dq.q.alloc _ | exact qn) Try.underlying168 rfl (by kernel_rfl) ?_) | (refine load_blk rfl 168 (.tmp 14) rfl wo.heap.size rfl O Try.underlying168 rfl (by kernel_rfl) ?_) | (go_at_call 123; refine (P _).mono ?_; rintro e w4 ⟨rfl, b4⟩; have hst4 := (NumAt.below (Dq.q.alloc _) b4).store (dig (-v / d + 1)); have qn := (NumAt.below (Dq.q.alloc _) b4).row (dig (-v / d + 1))) | (go_at_call 121; refine (L _).mono ?_; rintro e w5 ⟨rfl, b5⟩) | (go_at_call 122; refine (Z _).mono ?_; rintro e w6 ⟨rfl, b6⟩; have R9 := ((((Dq.r.alloc _).below b4).rowFar _ Dq.nr).below b5).below b6; obtain ⟨s0, s1, s2, s3⟩ := Blk.cells2 R9))
        rw [Q2.out]
        refine bodyPost_ret (v := .tuple #[.agg #[.int .i64 (I128.enc (v / d)).1, .int .u64 (I128.enc (v / d)).2], .int .u64 (d - -v % d), .int .i64 0]) (results_ctt (p := 4) (u := 5) (v := 6) (ty := 152) rfl _ rfl rfl rfl (Blk.set2 R9) Try.underlying152 rfl (by kernel_rfl)) rfl ?_
        exact ⟨rfl, below_set2 (below_next (below_next (below_setRow (below_next (below_new Dq.b _) b4) Dq.hq _) b5) b6) (by omega)⟩

theorem inclineref01_Div.calls (a0_0 a0_1 a1 r1 r2 r3 r4 : Int) (w : World) (h : inclineref01_Div.f a0_0 a0_1 a1 = some (r1, r2, r3, r4)) :
    Calls Try.prog 102 #[.agg #[.int .i64 a0_0, .int .u64 a0_1], .int .u64 a1] w fun e w' => e = .returned (.tuple #[.agg #[.int .i64 r1, .int .u64 r2], .int .u64 r3, .int .i64 r4]) ∧ Below w.heap.size w w' := by
  unfold inclineref01_Div.f at h
  split at h
  case isFalse => exact absurd h (by simp)
  case isTrue hr =>
    obtain ⟨h1, h2, h3⟩ := hr
    split at h
    · rename_i hz
      subst hz
      simp at h; obtain ⟨rfl, rfl, rfl, rfl⟩ := h
      exact ref_div_zero a0_0 a0_1 w
    · rename_i hz
      simp at h; obtain ⟨rfl, rfl, rfl, rfl⟩ := h
      by_cases hn : I128.val a0_0 a0_1 < 0
      · exact ref_div_under a0_0 a0_1 a1 h1 h2 h3 hz hn w
      · exact ref_div_not a0_0 a0_1 a1 h1 h2 h3 hz (by omega) w

end Go.Proofs.Ytnccgpdniigekaa
/-
  The reference's Of and Times come to the number and the product.
-/
namespace Go.Proofs.Ytnccgpdniigekaa
open Go.RowKit
set_option linter.unusedVariables false
set_option linter.unusedSimpArgs false

def refhi (a : Int) : Int := if a < 0 then -1 else 0
theorem refhi_ok (a : Int) : i64ok (refhi a) := by unfold refhi i64ok; split <;> omega
theorem refhi_val {a : Int} (h : i64ok a) : I128.val (refhi a) (IntKind.u64.wrap a) = a := by unfold i64ok at h; unfold refhi I128.val; rw [IntKind.wrap_u64]; split <;> omega
theorem u64wrap_ok (a : Int) : u64ok (IntKind.u64.wrap a) := u64_range a
set_option maxHeartbeats 800000 in
theorem ref_of_any (a : Int) (w : World) :
    Calls Try.prog 124 #[.int .i64 a] w fun e w' => e = .returned (.agg #[.int .i64 (refhi a), .int .u64 (IntKind.u64.wrap a)]) ∧ Below w.heap.size w w' := by
  unfold refhi
  by_cases h : a < 0
  · go_enter Try.func124, Try.ntmps124
    go_wp2
    simp [bodyPost, results, Try.results124, go_sem, h]
    exact (Below.refl _ _).alloc (Nat.le_refl _) _
  · go_enter Try.func124, Try.ntmps124
    go_wp2
    simp [bodyPost, results, Try.results124, go_sem, h]
    exact (Below.refl _ _).alloc (Nat.le_refl _) _

/-- What a call into the reference's Times has laid when both numbers are told in digits. -/
theorem times_heap {w w1 w2 w3 : World} {a0 a1 : Int} (b1 : Below (w.alloc (.cells #[.int .i64 0, .int .u64 0] 152)).heap.size (w.alloc (.cells #[.int .i64 0, .int .u64 0] 152)) w1) (b2 : Below w1.heap.size w1 w2)
    (b3 : Below (w2.alloc (.cells (cellsOf (dig a0)) 168)).heap.size (w2.alloc (.cells (cellsOf (dig a0)) 168)) w3) :
    Blk (w3.alloc (.cells (cellsOf (dig a1)) 168)) w.heap.size 152 #[.int .i64 0, .int .u64 0] ∧ NumAt (w3.alloc (.cells (cellsOf (dig a1)) 168)) w2.heap.size (dig a0) ∧ NumAt (w3.alloc (.cells (cellsOf (dig a1)) 168)) w3.heap.size (dig a1) ∧
    Below w.heap.size w (w3.alloc (.cells (cellsOf (dig a1)) 168)) :=
  ⟨((((Blk.new w _ _).below b1).below b2).alloc _ |>.below b3).alloc _, ((NumAt.new w2 _).below b3).alloc _, NumAt.new w3 _,
    below_new (below_next (below_new (below_next (below_next (below_new (Below.refl _ w) _) b1) b2) _) b3) _⟩

def inclineref01_Times.f (a0 a1 : Int) : Option (Int × Int) := if i64ok a0 ∧ u64ok a1 then some (I128.enc (a0 * a1)) else none
set_option maxHeartbeats 1600000 in
theorem inclineref01_Times.calls (a0 a1 r1 r2 : Int) (w : World) (h : inclineref01_Times.f a0 a1 = some (r1, r2)) :
    Calls Try.prog 103 #[.int .i64 a0, .int .u64 a1] w fun e w' => e = .returned (.agg #[.int .i64 r1, .int .u64 r2]) ∧ Below w.heap.size w w' := by
  unfold inclineref01_Times.f at h
  split at h
  case isFalse => exact absurd h (by simp)
  case isTrue hr =>
    obtain ⟨h1, h2⟩ := hr
    have h := Option.some.inj h
    obtain ⟨rfl, rfl⟩ : (I128.enc (a0 * a1)).1 = r1 ∧ (I128.enc (a0 * a1)).2 = r2 := by rw [h]; exact ⟨rfl, rfl⟩
    clear h
    have X := num_of_any (refhi a0) (IntKind.u64.wrap a0) (refhi_ok a0) (u64wrap_ok a0)
    rw [refhi_val h1] at X
    have Y := num_of_any 0 a1 (by unfold i64ok; omega) h2
    rw [show I128.val 0 a1 = a1 from by unfold I128.val; omega] at Y
    by_cases hn : a0 < 0
    · have L0 := num_less_any a0
      have T := num_times_any (-a0) a1
      have L := num_less_any (-a0 * a1)
      rw [show -(-a0 * a1) = a0 * a1 from by rw [Int.neg_mul, Int.neg_neg]] at L
      have Z := num_told_any (a0 * a1)
      go_enter Try.func103, Try.ntmps103
      go_wp2_with fail
      refine (ref_of_any a0 _).mono ?_
      rintro e w1 ⟨rfl, b1⟩
      go_wp2_with fail
      refine (X _).mono ?_
      rintro e w2 ⟨rfl, b2⟩
      have hst := store_fresh w2 (dig a0)
      go_wp2_with fail
      refine (Y _).mono ?_
      rintro e w3 ⟨rfl, b3⟩
      have hst3 := store_fresh w3 (dig a1)
      obtain ⟨R1, G2, G3, B3⟩ := times_heap (a1 := a1) b1 b2 b3
      go_wp2_with fail
      have ne2 : w.heap.size < w2.heap.size := Nat.lt_of_lt_of_le (by simp) (Nat.le_trans b1.size b2.size)
      have ne3 : w.heap.size < w3.heap.size := Nat.lt_of_lt_of_le (by simp; omega) b3.size
      clear hst hst3
      generalize w3.alloc (Obj.cells (cellsOf (dig a1)) 168) = W5 at *
      refine wp_region_held_drew (S := (fun w' => (∃ x y, Blk w' w.heap.size 152 #[x, y]) ∧ NumAt w' w2.heap.size (dig a0) ∧ NumAt w' w3.heap.size (dig a1) ∧ Below w.heap.size w w')) (by kernel_rfl) (⟨⟨_, _, R1.drew⟩, G2, G3, B3.drew⟩) (fun hS_ => ?_)
      refine wpAnyH_take (i := 0) rfl (by kernel_rfl) (by kernel_rfl) (by kernel_rfl) (fun _ _ _ h => h) (yields_load_blk rfl 168 (.tmp 5) rfl w2.heap.size rfl (fun w h => h.2.1) Try.underlying168 rfl (by kernel_rfl)) hS_ ?_
      (try simp only [Act.put, List.setIfInBounds_toArray, List.set_cons_zero, List.set_cons_succ])
      refine wpAnyH_take (i := 2) rfl (by kernel_rfl) (by kernel_rfl) (by kernel_rfl) (fun _ _ _ h => h) (yields_load_blk rfl 168 (.tmp 6) rfl w3.heap.size rfl (fun w h => h.2.2.1) Try.underlying168 rfl (by kernel_rfl)) hS_ ?_
      (try simp only [Act.put, List.setIfInBounds_toArray, List.set_cons_zero, List.set_cons_succ])
      refine wpAnyH_ready (rs := [1]) (by kernel_rfl) (by simp) (AllReadyH.cons rfl (fun K hK => ?_) AllReadyH.nil)
      go_simp
      (go_at_call 121; refine (L0 _).mono ?_; rintro e w6 ⟨rfl, b6⟩)
      (try go_wp2_with fail)
      refine hK.out _ _ (⟨⟨_, _, Blk.below hS_.1.choose_spec.choose_spec b6⟩, NumAt.below hS_.2.1 b6, NumAt.below hS_.2.2.1 b6, below_then hS_.2.2.2 b6 hS_.2.2.2.size⟩) (fun hS_ => ?_)
      clear hK K
      (try simp only [Act.put, List.setIfInBounds_toArray, List.set_cons_zero, List.set_cons_succ])
      refine wpAnyH_ready (rs := [3]) (by kernel_rfl) (by simp) (AllReadyH.cons rfl (fun K hK => ?_) AllReadyH.nil)
      go_simp
      (go_at_call 125; refine (T _).mono ?_; rintro e w7 ⟨rfl, b7⟩)
      (try go_wp2_with fail)
      refine hK.out _ _ (⟨⟨_, _, Blk.below hS_.1.choose_spec.choose_spec b7⟩, NumAt.below hS_.2.1 b7, NumAt.below hS_.2.2.1 b7, below_then hS_.2.2.2 b7 hS_.2.2.2.size⟩) (fun hS_ => ?_)
      clear hK K
      (try simp only [Act.put, List.setIfInBounds_toArray, List.set_cons_zero, List.set_cons_succ])
      refine wpAnyH_ready (rs := [4]) (by kernel_rfl) (by simp) (AllReadyH.cons rfl (fun K hK => ?_) AllReadyH.nil)
      go_simp
      (go_at_call 121; refine (L _).mono ?_; rintro e w8 ⟨rfl, b8⟩)
      (try go_wp2_with fail)
      refine hK.out _ _ (⟨⟨_, _, Blk.below hS_.1.choose_spec.choose_spec b8⟩, NumAt.below hS_.2.1 b8, NumAt.below hS_.2.2.1 b8, below_then hS_.2.2.2 b8 hS_.2.2.2.size⟩) (fun hS_ => ?_)
      clear hK K
      (try simp only [Act.put, List.setIfInBounds_toArray, List.set_cons_zero, List.set_cons_succ])
      refine wpAnyH_ready (rs := [5]) (by kernel_rfl) (by simp) (AllReadyH.cons rfl (fun K hK => ?_) AllReadyH.nil)
      go_simp
      (go_at_call 122; refine (Z _).mono ?_; rintro e w9 ⟨rfl, b9⟩)
      (try go_wp2_with fail)
      refine hK.out _ _ (⟨⟨_, _, Blk.below hS_.1.choose_spec.choose_spec b9⟩, NumAt.below hS_.2.1 b9, NumAt.below hS_.2.2.1 b9, below_then hS_.2.2.2 b9 hS_.2.2.2.size⟩) (fun hS_ => ?_)
      clear hK K
      (try simp only [Act.put, List.setIfInBounds_toArray, List.set_cons_zero, List.set_cons_succ])
      obtain ⟨⟨x9, y9, R9⟩, S1, S2, S3⟩ := hS_
      obtain ⟨r0, r1, r2, r3⟩ := Blk.cells2 R9
      have hS_ : True := trivial
      refine wpAnyH_ready (rs := [6]) (by kernel_rfl) (by simp) (AllReadyH.cons rfl (fun K hK => ?_) AllReadyH.nil)
      go_simp
      (try go_wp2_with fail)
      refine hK.out _ _ (⟨⟨_, _, Blk.set2 R9⟩, Blk.far2 S1 (by omega), Blk.far2 S2 (by omega), below_set2 S3 (Nat.le_refl _)⟩) (fun hS_ => ?_)
      clear hK K
      (try simp only [Act.put, List.setIfInBounds_toArray, List.set_cons_zero, List.set_cons_succ])
      refine wpAnyH_done (by kernel_rfl) ?_ _
      go_wp2
      refine bodyPost_ret (results_cell_row rfl _ _ w.heap.size 152 #[.int .i64 (I128.enc (a0 * a1)).1, .int .u64 (I128.enc (a0 * a1)).2] (0, 0) _ rfl (Blk.set2 R9) Try.underlying152 rfl (by kernel_rfl)) rfl ?_
      exact ⟨rfl, below_set2 S3 (Nat.le_refl _)⟩
    · have T := num_times_any a0 a1
      have Z := num_told_any (a0 * a1)
      go_enter Try.func103, Try.ntmps103
      go_wp2_with fail
      refine (ref_of_any a0 _).mono ?_
      rintro e w1 ⟨rfl, b1⟩
      go_wp2_with fail
      refine (X _).mono ?_
      rintro e w2 ⟨rfl, b2⟩
      have hst := store_fresh w2 (dig a0)
      go_wp2_with fail
      refine (Y _).mono ?_
      rintro e w3 ⟨rfl, b3⟩
      have hst3 := store_fresh w3 (dig a1)
      obtain ⟨R1, G2, G3, B3⟩ := times_heap (a1 := a1) b1 b2 b3
      go_wp2_with (first | (refine load_blk rfl 168 (.tmp 5) rfl w2.heap.size rfl G2 Try.underlying168 rfl (by kernel_rfl) ?_) | (refine load_blk rfl 168 (.tmp 6) rfl w3.heap.size rfl G3 Try.underlying168 rfl (by kernel_rfl) ?_) | (go_at_call 125; refine (T _).mono ?_; rintro e w7 ⟨rfl, b7⟩) | (go_at_call 122; refine (Z _).mono ?_; rintro e w8 ⟨rfl, b8⟩; have R9 := (R1.below b7).below b8; obtain ⟨r0, r1, r2, r3⟩ := Blk.cells2 R9))
      have S3 := below_next (below_next B3 b7) b8
      refine bodyPost_ret (results_cell_row rfl _ _ w.heap.size 152 #[.int .i64 (I128.enc (a0 * a1)).1, .int .u64 (I128.enc (a0 * a1)).2] (0, 0) _ rfl (Blk.set2 R9) Try.underlying152 rfl (by kernel_rfl)) rfl ?_
      exact ⟨rfl, below_set2 S3 (Nat.le_refl _)⟩

end Go.Proofs.Ytnccgpdniigekaa
/-
  The reference's contracts once more, each number of 128 bits written as the code of a whole number.
-/
namespace Go.Proofs.Ytnccgpdniigekaa
open Go.RowKit
set_option linter.unusedVariables false
set_option linter.unusedSimpArgs false

theorem cRefTimes {a b : Int} (h : i64ok a) (k : u64ok b) (w : World) : Calls Try.prog 103 #[.int .i64 a, .int .u64 b] w fun e w' => e = .returned (.agg #[.int .i64 (I128.enc (a * b)).1, .int .u64 (I128.enc (a * b)).2]) ∧ Below w.heap.size w w' :=
  inclineref01_Times.calls a b _ _ w (by unfold inclineref01_Times.f; rw [if_pos ⟨h, k⟩])
theorem encRAdd (x y : Int) : inclineref01_Add.f (I128.enc x).1 (I128.enc x).2 (I128.enc y).1 (I128.enc y).2 = some ((I128.enc (x + y)).1, (I128.enc (x + y)).2) := by unfold inclineref01_Add.f; rw [if_pos ⟨I128.enc_i64 x, I128.enc_u64 x, I128.enc_i64 y, I128.enc_u64 y⟩, I128.enc_add_enc]
theorem cRefAdd (x y : Int) (w : World) : Calls Try.prog 104 #[.agg #[.int .i64 (I128.enc x).1, .int .u64 (I128.enc x).2], .agg #[.int .i64 (I128.enc y).1, .int .u64 (I128.enc y).2]] w fun e w' => e = .returned (.agg #[.int .i64 (I128.enc (x + y)).1, .int .u64 (I128.enc (x + y)).2]) ∧ Below w.heap.size w w' :=
  inclineref01_Add.calls _ _ _ _ _ _ w (encRAdd x y)
theorem cRefDiv {x d : Int} (hx : i128ok x) (hd : u64ok d) (hz : d ≠ 0) (w : World) : Calls Try.prog 102 #[.agg #[.int .i64 (I128.enc x).1, .int .u64 (I128.enc x).2], .int .u64 d] w fun e w' => e = .returned (.tuple #[.agg #[.int .i64 (I128.enc (x / d)).1, .int .u64 (I128.enc (x / d)).2], .int .u64 (x % d), .int .i64 0]) ∧ Below w.heap.size w w' :=
  inclineref01_Div.calls _ _ _ _ _ _ _ w (by unfold inclineref01_Div.f; rw [if_pos ⟨I128.enc_i64 x, I128.enc_u64 x, hd⟩, if_neg hz, I128.val_enc_of hx])
end Go.Proofs.Ytnccgpdniigekaa
