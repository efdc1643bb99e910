/-
  'shown' of the statements about cuts is true.
-/
import Derived.Test.YtanhhgifcolfaaaQCuSame
namespace Go.Proofs.Ytanhhgifcolfaaa
open Go.RowKit
set_option linter.unusedVariables false
set_option linter.unusedSimpArgs false

theorem ArgU.of_blk {w : World} {g : Nat} {t : TypeId} {L : List Int} (h : Blk w g t (L.map (Value.int .u64)).toArray) : ArgU w (some ⟨g, 0, none⟩) L := fun _ => ⟨g, 0, rfl, h.lt, fun i hi => by
  rw [h.cell]; simp [List.getElem?_eq_getElem hi]⟩
theorem ArgN.of_blk {w : World} {g : Nat} {t : TypeId} {l : List Nat} (h : Blk w g t (l.map (fun (n : Nat) => Value.int .i64 (n : Int))).toArray) : ArgN w (some ⟨g, 0, none⟩) l := fun _ => ⟨g, 0, rfl, h.lt, fun i hi => by
  rw [h.cell]; simp [List.getElem?_eq_getElem hi]⟩
theorem exA : endsL (2 - 1) [10, 20, 30, 40, 50] = [5] := by decide +kernel
theorem exB : endsL (2 - 1) [0, 1, 2, 3, 100, 101, 102] = [4, 7] := by decide +kernel
theorem exN : endsL (64 - 1) [] = [] := rfl
set_option maxHeartbeats 4000000 in
set_option maxRecDepth 100000 in
theorem cshown_any (w : World) : Calls Try.prog 29 #[] w fun e w' => e = .returned (.bool true) ∧ Below w.heap.size w w' := by
  go_enter Try.func29, Try.ntmps29
  go_wp2_with fail
  refine (ends_arg 2 (by omega) (by omega) _ _ [10, 20, 30, 40, 50] (by unfold U64s u64ok; simp) (by simp) (by simp) _ (ArgU.of_blk (Blk.new w 34 _))).mono ?_
  rintro e w1 ⟨A1, c1, rfl, N1, b1⟩
  rw [exA] at N1 ⊢
  have H1 := Lib.hid (And.intro N1 (below_next (below_new (Below.refl _ w) _) b1))
  clear N1 b1
  go_wp2_with fail
  refine (ends_arg 2 (by omega) (by omega) _ _ [0, 1, 2, 3, 100, 101, 102] (by unfold U64s u64ok; simp) (by simp) (by simp) _ (ArgU.of_blk (Blk.new w1 34 _))).mono ?_
  rintro e w2 ⟨A2, c2, rfl, N2, b2⟩
  rw [exB] at N2 ⊢
  have k2 := below_next (below_new (Below.refl _ w1) (.cells _ _)) b2
  have H2 := Lib.hid (And.intro (H1.out.1.below k2) (And.intro N2 (below_next H1.out.2 k2)))
  clear N2 b2 k2 H1
  go_wp2_with fail
  refine (ends_unsorted 2 (by omega) (by omega) _ _ [5, 5] (by simp) (by simp) _ (ArgU.of_blk (Blk.new w2 34 _))).mono ?_
  rintro e w3 ⟨rfl, b3⟩
  have k3 := below_next (below_new (Below.refl _ w2) (.cells _ _)) b3
  have H3 := Lib.hid (And.intro (H2.out.1.below k3) (And.intro (H2.out.2.1.below k3) (below_next H2.out.2.2 k3)))
  clear b3 k3 H2
  go_wp2_with fail
  refine (ends_bad 1 (by omega) _ _ _ _).mono ?_
  rintro e w4 ⟨rfl, rfl⟩
  have k4 := below_new (Below.refl _ w3) (.cells #[.int .u64 7] 34)
  have H4 := Lib.hid (And.intro (H3.out.1.below k4) (And.intro (H3.out.2.1.below k4) (below_next H3.out.2.2 k4)))
  clear k4 H3
  go_wp2_with fail
  refine (ends_arg 64 (by omega) (by omega) _ _ [] (by unfold U64s; simp) (by simp) (by simp) _ (fun h => by simp at h)).mono ?_
  rintro e w5 ⟨A5, c5, rfl, N5, b5⟩
  rw [exN]
  have k5 := below_next (below_new (Below.refl _ (w3.alloc (.cells #[.int .u64 7] 34))) (.cells #[] 34)) b5
  have H5 := Lib.hid (And.intro (H4.out.1.below k5) (And.intro (H4.out.2.1.below k5) (below_next H4.out.2.2 k5)))
  clear k5 H4 b5 N5
  go_wp2_with fail
  have n6 := below_new (Below.refl _ w5) (.cells #[.int .i64 5] 3)
  refine (same_any [5] [5] A1 _ c1 _ (by simp) _ (H5.out.1.below n6) (ArgN.of_blk (Blk.new w5 3 _))).mono ?_
  rintro e w6 ⟨rfl, b6⟩
  have k6 := below_next n6 b6
  have H6 := Lib.hid (And.intro (H5.out.2.1.below k6) (below_next H5.out.2.2 k6))
  rw [show decide (([5] : List Nat) = [5]) = true from rfl]
  clear H5 n6 b6 k6
  go_wp2_with fail
  have n7 := below_new (Below.refl _ w6) (.cells #[.int .i64 4, .int .i64 7] 3)
  refine (same_any [4, 7] [4, 7] A2 _ c2 _ (by simp) _ (H6.out.1.below n7) (ArgN.of_blk (Blk.new w6 3 _))).mono ?_
  rintro e w7 ⟨rfl, b7⟩
  have H7 := Lib.hid (below_next H6.out.2 (below_next n7 b7))
  rw [show decide (([4, 7] : List Nat) = [4, 7]) = true from rfl]
  clear H6 n7 b7
  go_wp2_with fail
  go_ret
  exact ⟨rfl, H7.out⟩
end Go.Proofs.Ytanhhgifcolfaaa
