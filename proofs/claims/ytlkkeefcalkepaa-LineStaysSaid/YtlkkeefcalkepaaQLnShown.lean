/-
  'shown', the small thing at the head of each statement about lines, is true.
-/
import Derived.Test.YtlkkeefcalkepaaQG6
import Derived.Test.YtlkkeefcalkepaaQG7
namespace Go.Proofs.Ytlkkeefcalkepaa
open Go.RowKit
set_option linter.unusedVariables false
set_option linter.unusedSimpArgs false

theorem eqLine (d : Nat) (w : World) (x0 y0 x1 y1 x2 y2 : Int) :
    (Op.equalIn (d + 2) 27 (.agg #[.int .u64 x0, .int .u64 x1, .int .i64 x2]) (.agg #[.int .u64 y0, .int .u64 y1, .int .i64 y2])).run Try.prog w = .ok (x0 == y0 && (x1 == y1 && (x2 == y2 && true))) w := by
  refine equal_struct Try.underlying27 (by kernel_rfl) ?_
  refine eqFields_step (by decide) (by go_simp; rfl) (by go_simp; rfl) (by go_simp) ?_
  refine eqFields_step (by decide) (by go_simp; rfl) (by go_simp; rfl) (by go_simp) ?_
  exact eqFields_step (by decide) (by go_simp; rfl) (by go_simp; rfl) (by go_simp) eqFields_nil
def exL : List Int := [10, 20, 30, 40, 50]
theorem exOf : lineOf exL 2 = ((1, 20, 1), 0) := by decide +kernel
theorem exAt : lineAt (1, 20, 1) 40 = (3, 0) := by decide +kernel
theorem exFits : fitsB (1, 20, 1) exL 2 = true := by decide +kernel
theorem exArg {w w' : World} {g : Nat} (h : Blk w' g 25 #[.int .u64 10, .int .u64 20, .int .u64 30, .int .u64 40, .int .u64 50]) : ArgU w' (some ⟨g, 0, none⟩) exL := by
  intro _
  refine ⟨g, 0, rfl, h.lt, fun i hi => ?_⟩
  rw [Nat.zero_add, h.cell]
  have : i = 0 ∨ i = 1 ∨ i = 2 ∨ i = 3 ∨ i = 4 := by unfold exL at hi; simp at hi; omega
  rcases this with rfl | rfl | rfl | rfl | rfl <;> rfl
theorem exU : U64s exL := by intro k hk; unfold exL at hk; simp at hk; unfold u64ok; omega
attribute [local go_sem high] eqLine
set_option maxHeartbeats 4000000 in
set_option maxRecDepth 10000 in
theorem shown5 (w : World) : Calls Try.prog 10 #[] w fun e w' => e = .returned (.bool true) ∧ Below w.heap.size w w' := by
  have O : ∀ (w' : World) (g : Nat), Blk w' g 25 #[.int .u64 10, .int .u64 20, .int .u64 30, .int .u64 40, .int .u64 50] →
      Calls Try.prog 12 #[.slice (some ⟨g, 0, none⟩) 5 5, .int .i64 2] w' fun e w2 => e = .returned (.tuple #[.agg #[.int .u64 1, .int .u64 20, .int .i64 1], .int .i64 0]) ∧ Below w'.heap.size w' w2 := fun w' g hb => by
    have := Of_any (some ⟨g, 0, none⟩) 5 exL 2 exU (by decide) w' (exArg (w := w') hb)
    unfold OfPost at this
    rw [exOf] at this
    exact this
  have T : ∀ w' : World, Calls Try.prog 15 #[.agg #[.int .u64 1, .int .u64 20, .int .i64 1], .int .u64 40] w' fun e w2 => e = .returned (.tuple #[.int .i64 3, .int .i64 0]) ∧ Below w'.heap.size w' w2 := fun w' => by
    have := At_any (1, 20, 1) 40 (by unfold u64ok; simp) (by unfold u64ok; simp) (by unfold i64ok; simp) (by unfold u64ok; omega) w'
    rw [exAt] at this
    exact this
  have R : ∀ (w' : World) (g : Nat), Blk w' g 25 #[.int .u64 10, .int .u64 20, .int .u64 30, .int .u64 40, .int .u64 50] →
      Calls Try.prog 17 #[.agg #[.int .u64 1, .int .u64 20, .int .i64 1], .slice (some ⟨g, 0, none⟩) 5 5, .int .i64 2] w' fun e w2 => e = .returned (.bool true) ∧ Below w'.heap.size w' w2 := fun w' g hb => by
    have := Fits_any (1, 20, 1) ⟨by unfold u64ok; simp, by unfold u64ok; simp, by unfold i64ok; simp⟩ (some ⟨g, 0, none⟩) 5 exL 2 exU (by decide) w' (exArg (w := w') hb)
    rw [exFits] at this
    exact this
  have HO := Lib.hid O
  have HT := Lib.hid T
  have HR := Lib.hid R
  clear O T R
  go_enter Try.func10, Try.ntmps10
  go_wp2_with fail
  refine (HO.out _ _ (Blk.new _ _ _)).mono ?_
  rintro e w1 ⟨rfl, b1⟩
  have H1 := Lib.hid (below_next (below_new (Below.refl _ _) _) b1)
  clear b1
  go_wp2_with fail
  refine (HT.out _).mono ?_
  rintro e w2 ⟨rfl, b2⟩
  have H2 := Lib.hid (And.intro ((Blk.new w1 27 #[.int .u64 1, .int .u64 20, .int .i64 1]).below b2) (below_next (below_new H1.out _) b2))
  clear b2 H1
  go_wp2_with fail
  refine (HR.out _ _ (Blk.new _ _ _)).mono ?_
  rintro e w3 ⟨rfl, b3⟩
  have H3 := Lib.hid (And.intro ((H2.out.1.alloc _).below b3) (below_next (below_new H2.out.2 _) b3))
  obtain ⟨p0, p1, p2, _, _, _⟩ := H3.out.1.cells3
  clear b3 H2
  go_wp2_with fail
  go_ret
  exact ⟨rfl, H3.out.2⟩
end Go.Proofs.Ytlkkeefcalkepaa
