/-
  'shown', the small thing at the head of each statement about fits, is true.
-/
import Derived.Test.YtnccgpdniigekaaQHuFns
namespace Go.Proofs.Ytnccgpdniigekaa
open Go.RowKit
set_option linter.unusedVariables false
set_option linter.unusedSimpArgs false

/-- A fit all of whose blocks were made since world w0; what was there then is as it was. -/
def Mine (w0 : World) (b : Nat) (e : Int) (F : Fit) (w : World) : Prop := ∃ S, FitO w b e F S ∧ (∀ k, S k → w0.heap.size ≤ k) ∧ Below w0.heap.size w0 w
theorem Mine.below {w0 w w' : World} {b : Nat} {e : Int} {F : Fit} (h : Mine w0 b e F w) (k : Below w.heap.size w w') : Mine w0 b e F w' := by
  obtain ⟨S, h1, h2, h3⟩ := h; exact ⟨S, h1.below k, h2, below_next h3 k⟩
theorem Mine.bel {w0 w : World} {b : Nat} {e : Int} {F : Fit} (h : Mine w0 b e F w) : Below w0.heap.size w0 w := by obtain ⟨S, h1, h2, h3⟩ := h; exact h3
theorem Mine.drewN {w0 w : World} {b : Nat} {e : Int} {F : Fit} (h : Mine w0 b e F w) (n : Nat) : Mine w0 b e F (w.drewN n) := h.below (drewN_below (Below.refl _ _) n)
theorem Mine.base {w w0 w' : World} {b : Nat} {e : Int} {F : Fit} (h : Mine w0 b e F w') (k : Below w.heap.size w w0) : Mine w b e F w' := by
  obtain ⟨S, h1, h2, h3⟩ := h; exact ⟨S, h1, fun i hi => Nat.le_trans k.size (h2 i hi), below_next k h3⟩
theorem add_mine {w0 w : World} {b : Nat} {e : Int} {F F' : Fit} {key : Int} {t : Bool} {c : Int} (hp : F.add e key = ((t, c), F')) (hk : u64ok key) (big : F.keys.length < 17592186044416) (H : Mine w0 b e F w) :
    Calls Try.prog 81 #[.pointer (some ⟨b, 0, none⟩), .int .u64 key] w fun e' w' => e' = .returned (.tuple #[.bool t, .int .i64 c]) ∧ Mine w0 b e F' w' := by
  obtain ⟨S, h1, h2, h3⟩ := H
  refine (hull_AddO key hk big h1).mono ?_
  rintro e' w' ⟨rfl, S', f1, f2, f3⟩
  rw [hp] at f1 ⊢
  refine ⟨rfl, S', f1, fun k hk => ?_, below_chg h3 f2 (fun k _ hk => h2 k hk) h3.size⟩
  rcases f3 k hk with m | m
  · exact h2 k m
  · have := h3.size; omega
theorem new_mine (eps : Int) (h1 : 2 ≤ eps) (h2 : eps ≤ 64) (w : World) : Calls Try.prog 80 #[.int .i64 eps] w fun e' w' =>
    e' = .returned (.tuple #[.pointer (some ⟨w.heap.size, 0, none⟩), .int .i64 0]) ∧ Mine w w.heap.size (eps - 1) Fit.zero w' :=
  (hull_New eps h1 h2 w).mono fun e' w' ⟨he, hb, ho⟩ => ⟨he, _, ho, fun k hk => by omega, hb⟩
theorem least_mine {w0 w : World} {b : Nat} {e : Int} {F : Fit} (H : Mine w0 b e F w) : Calls Try.prog 96 #[.pointer (some ⟨b, 0, none⟩)] w fun e' w' => e' = .returned (.agg #[.int .u64 F.low.1, .int .u64 F.low.2]) ∧ Below w.heap.size w w' := by
  obtain ⟨S, h1, h2, h3⟩ := H; exact hull_Least h1
/-- The example's fit, some keys in. -/
def exF : Nat → Fit
  | 0 => Fit.zero
  | k + 1 => ((exF k).add 1 (10 * (k + 1))).2
theorem exF_add : ∀ k, k < 5 → (exF k).add 1 (10 * (k + 1)) = ((true, 0), exF (k + 1)) ∧ (exF k).keys.length < 17592186044416 := by
  intro k hk
  have h : ((exF k).add 1 (10 * (k + 1))).1 = (true, 0) ∧ (exF k).keys.length = k := by
    have : k = 0 ∨ k = 1 ∨ k = 2 ∨ k = 3 ∨ k = 4 := by omega
    rcases this with rfl | rfl | rfl | rfl | rfl <;> exact ⟨by decide +kernel, by decide +kernel⟩
  refine ⟨?_, by omega⟩
  rw [exF]
  exact Prod.ext h.1 rfl
def exG : Fit := ((exF 5).add 1 51).2
theorem ex5 : (exF 5).low = (1, 20) ∧ (exF 5).top = (3, 20) ∧ (exF 5).keys.length < 17592186044416 := by decide +kernel
theorem ex50 : (exF 5).add 1 50 = ((false, 40), exF 5) := by
  have h : (exF 5).late 50 = true := by decide +kernel
  rw [Fit.add, if_pos h]
theorem ex51 : (exF 5).add 1 51 = ((true, 0), exG) := by
  have h : ((exF 5).add 1 51).1 = (true, 0) := by decide +kernel
  exact Prod.ext h rfl
theorem exG_len : exG.keys.length = 6 := by decide +kernel
theorem exFar : exG.add 1 9223372036854775808 = ((false, 0), exG) := by
  have h : exG.late 9223372036854775808 = false := by decide +kernel
  have k : ltF (exG.topWith 1 9223372036854775808) (exG.lowWith 1 9223372036854775808) := by decide +kernel
  rw [Fit.add, if_neg (by simp [h]), if_pos k]
attribute [local go_sem high] eqSlope
/-- Where the loop of the example stands. -/
def ShTo (w0 : World) (b : Nat) (x : Value) (w : World) : Prop := ∃ k : Nat, k ≤ 5 ∧ x = .int .i64 ((k : Int) + 1) ∧ Mine w0 b 1 (exF k) w
end Go.Proofs.Ytnccgpdniigekaa
