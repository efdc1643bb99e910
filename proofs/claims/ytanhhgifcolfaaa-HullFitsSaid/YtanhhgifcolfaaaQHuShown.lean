/-
  'shown', the small thing at the head of each statement about fits, is true.
-/
import Derived.Test.YtanhhgifcolfaaaQHuFns
namespace Go.Proofs.Ytanhhgifcolfaaa
open Go.RowKit
set_option linter.unusedVariables false
set_option linter.unusedSimpArgs false

/-- A fit all of whose blocks were made since world w0; what was there then is as it was. -/
def Mine (w0 : World) (b : Nat) (e : Int) (F : Fit) (w : World) : Prop := ∃ S, FitO w b e F S ∧ (∀ k, S k → w0.heap.size ≤ k) ∧ Below w0.heap.size w0 w
theorem Mine.below {w0 w w' : World} {b : Nat} {e : Int} {F : Fit} (h : Mine w0 b e F w) (k : Below w.heap.size w w') : Mine w0 b e F w' := by
  obtain ⟨S, h1, h2, h3⟩ := h; exact ⟨S, h1.below k, h2, below_next h3 k⟩
theorem Mine.bel {w0 w : World} {b : Nat} {e : Int} {F : Fit} (h : Mine w0 b e F w) : Below w0.heap.size w0 w := by obtain ⟨S, h1, h2, h3⟩ := h; exact h3
theorem Mine.drewN {w0 w : World} {b : Nat} {e : Int} {F : Fit} (h : Mine w0 b e F w) (n : Nat) : Mine w0 b e F (w.drewN n) := h.below (drewN_below (Below.refl _ _) n)
theorem Mine.base {w w0 w' : World} {b : Nat} {e : Int} {F : Fit} (h : Mine w0 b e F w') (k : Below w.heap.size w w0) : Mine w b e F w' := by
  obtain ⟨S, h1, h2, h3⟩ := h; exact ⟨S, h1, fun i hi => Nat.le_trans k.size (h2 i hi), below_next k h3⟩
theorem add_mine {w0 w : World} {b : Nat} {e : Int} {F F' : Fit} {key : Int} {t : Bool} {c : Int} (hp : F.add e key = ((t, c), F')) (hk : u64ok key) (big : F.keys.length < 17592186044416) (H : Mine w0 b e F w) :
    Calls Try.prog 17 #[.pointer (some ⟨b, 0, none⟩), .int .u64 key] w fun e' w' => e' = .returned (.tuple #[.bool t, .int .i64 c]) ∧ Mine w0 b e F' w' := by
  obtain ⟨S, h1, h2, h3⟩ := H
  refine (hull_AddO key hk big h1).mono ?_
  rintro e' w' ⟨rfl, S', f1, f2, f3⟩
  rw [hp] at f1 ⊢
  refine ⟨rfl, S', f1, fun k hk => ?_, below_chg h3 f2 (fun k _ hk => h2 k hk) h3.size⟩
  rcases f3 k hk with m | m
  · exact h2 k m
  · have := h3.size; omega
theorem new_mine (eps : Int) (h1 : 2 ≤ eps) (h2 : eps ≤ 64) (w : World) : Calls Try.prog 20 #[.int .i64 eps] w fun e' w' =>
    e' = .returned (.tuple #[.pointer (some ⟨w.heap.size, 0, none⟩), .int .i64 0]) ∧ Mine w w.heap.size (eps - 1) Fit.zero w' :=
  (hull_New eps h1 h2 w).mono fun e' w' ⟨he, hb, ho⟩ => ⟨he, _, ho, fun k hk => by omega, hb⟩
theorem count_mine {w0 w : World} {b : Nat} {e : Int} {F : Fit} (H : Mine w0 b e F w) : Calls Try.prog 21 #[.pointer (some ⟨b, 0, none⟩)] w fun e' w' => e' = .returned (.int .i64 F.keys.length) ∧ w = w' := by
  obtain ⟨S, h1, h2, h3⟩ := H; exact hull_Count h1
theorem least_mine {w0 w : World} {b : Nat} {e : Int} {F : Fit} (H : Mine w0 b e F w) : Calls Try.prog 22 #[.pointer (some ⟨b, 0, none⟩)] w fun e' w' => e' = .returned (.agg #[.int .u64 F.low.1, .int .u64 F.low.2]) ∧ Below w.heap.size w w' := by
  obtain ⟨S, h1, h2, h3⟩ := H; exact hull_Least h1
theorem most_mine {w0 w : World} {b : Nat} {e : Int} {F : Fit} (H : Mine w0 b e F w) : Calls Try.prog 23 #[.pointer (some ⟨b, 0, none⟩)] w fun e' w' => e' = .returned (.agg #[.int .u64 F.top.1, .int .u64 F.top.2]) ∧ Below w.heap.size w w' := by
  obtain ⟨S, h1, h2, h3⟩ := H; exact hull_Most h1

/-- The example's fit, some keys in. -/
def exF : Nat → Fit
  | 0 => Fit.zero
  | k + 1 => ((exF k).add 1 (10 * (k + 1))).2
theorem exF_add : ∀ k, k < 5 → (exF k).add 1 (10 * (k + 1)) = ((true, 0), exF (k + 1)) ∧ (exF k).keys.length < 17592186044416 := by
  intro k hk
  have h : ((exF k).add 1 (10 * (k + 1))).1 = (true, 0) ∧ (exF k).keys.length = k := by
    have : k = 0 ∨ k = 1 ∨ k = 2 ∨ k = 3 ∨ k = 4 := by omega
    rcases this with rfl | rfl | rfl | rfl | rfl <;> exact ⟨by decide +kernel, by decide +kernel⟩
  refine ⟨?_, by omega⟩
  rw [exF]
  exact Prod.ext h.1 rfl
def exG : Fit := ((exF 5).add 1 51).2
theorem ex5 : (exF 5).low = (1, 20) ∧ (exF 5).top = (3, 20) ∧ (exF 5).keys.length < 17592186044416 := by decide +kernel
theorem ex50 : (exF 5).add 1 50 = ((false, 40), exF 5) := by
  have h : (exF 5).late 50 = true := by decide +kernel
  rw [Fit.add, if_pos h]
theorem ex51 : (exF 5).add 1 51 = ((true, 0), exG) := by
  have h : ((exF 5).add 1 51).1 = (true, 0) := by decide +kernel
  exact Prod.ext h rfl
theorem exG_len : exG.keys.length = 6 := by decide +kernel
theorem exFar : exG.add 1 9223372036854775808 = ((false, 0), exG) := by
  have h : exG.late 9223372036854775808 = false := by decide +kernel
  have k : ltF (exG.topWith 1 9223372036854775808) (exG.lowWith 1 9223372036854775808) := by decide +kernel
  rw [Fit.add, if_neg (by simp [h]), if_pos k]
attribute [local go_sem high] eqSlope
/-- Where the loop of the example stands. -/
def ShTo (w0 : World) (b : Nat) (x : Value) (w : World) : Prop := ∃ k : Nat, k ≤ 5 ∧ x = .int .i64 ((k : Int) + 1) ∧ Mine w0 b 1 (exF k) w
set_option maxHeartbeats 4000000 in
set_option maxRecDepth 10000 in
theorem shown_any (w : World) : Calls Try.prog 14 #[] w fun e w' => e = .returned (.bool true) ∧ Below w.heap.size w w' := by
  have N := new_mine 2 (by decide) (by decide) w
  have NB := fun w => hull_New_bad 1 (.inl (by decide)) w
  go_enter Try.func14, Try.ntmps14
  go_wp2_with fail
  refine N.mono ?_
  rintro e w1 ⟨rfl, M1⟩
  have M1' : Mine w w.heap.size 1 (exF 0) w1 := M1
  have HM := Lib.hid M1'
  clear M1 M1'
  go_wp2_with fail
  refine (NB w1).mono ?_
  rintro e w1' ⟨rfl, rfl⟩
  clear N NB
  go_wp2_with fail
  refine (least_mine HM.out).mono ?_
  rintro e w2 ⟨rfl, hb⟩
  have HM2 := Lib.hid (HM.out.below hb)
  have e0 : (exF 0).low.1 = 0 := rfl
  have e1 : (exF 0).low.2 = 1 := rfl
  have e2 : (exF 0).top.1 = 1 := rfl
  have e3 : (exF 0).top.2 = 0 := rfl
  rw [e0, e1]
  clear HM
  go_wp2_with fail
  refine (most_mine HM2.out).mono ?_
  rintro e w3 ⟨rfl, hb3⟩
  have HM3 := Lib.hid (HM2.out.below hb3)
  rw [e2, e3]
  clear HM2 e0 e1 e2 e3
  go_wp2_with fail
  go_loopw [6] (fun x wr => ShTo w w.heap.size x wr) (fun x _ => 6 - (intOf x).toNat)
  case atStart => exact ⟨0, by omega, rfl, HM3.out⟩
  case round =>
    obtain ⟨k, hk, rfl, M⟩ := hrel
    by_cases hlt : k < 5
    · obtain ⟨hadd, hlen⟩ := exF_add k hlt
      have A := add_mine (w := wr) hadd (by unfold u64ok; omega) hlen M
      have q1 : IntKind.u64.wrap (10 * ((k : Int) + 1)) = 10 * ((k : Int) + 1) := by rw [IntKind.wrap_u64]; omega
      have HMr := Lib.hid M
      clear M hadd hlen
      go_wp2_with (go_at_call 17; refine A.mono ?_; rintro e w5 ⟨rfl, M5⟩)
      go_roundw
      case rel => exact ⟨k + 1, by omega, by go_num, M5⟩
      case measure => simp [intOf]; omega
    · obtain rfl : k = 5 := by omega
      have HMr := Lib.hid M
      clear M
      have e0 : (exF 5).low.1 = 1 := by rw [ex5.1]
      have e1 : (exF 5).low.2 = 20 := by rw [ex5.1]
      have e2 : (exF 5).top.1 = 3 := by rw [ex5.2.1]
      have e3 : (exF 5).top.2 = 20 := by rw [ex5.2.1]
      have E0 := Lib.hid (And.intro (And.intro e0 e1) (And.intro e2 e3))
      clear e0 e1 e2 e3
      go_wp2_with fail
      refine (least_mine HMr.out).mono ?_
      rintro e w6 ⟨rfl, hb6⟩
      have HM6 := Lib.hid (HMr.out.below hb6)
      rw [E0.out.1.1, E0.out.1.2]
      clear HMr
      go_wp2_with fail
      refine (most_mine HM6.out).mono ?_
      rintro e w7 ⟨rfl, hb7⟩
      have HM7 := Lib.hid (HM6.out.below hb7)
      rw [E0.out.2.1, E0.out.2.2]
      clear HM6
      go_wp2_with fail
      refine (add_mine ex50 (by unfold u64ok; omega) ex5.2.2 HM7.out).mono ?_
      rintro e w8 ⟨rfl, M8⟩
      have HM8 := Lib.hid M8
      clear M8 HM7
      go_wp2_with fail
      refine (add_mine ex51 (by unfold u64ok; omega) ex5.2.2 HM8.out).mono ?_
      rintro e w9 ⟨rfl, M9⟩
      have HM9 := Lib.hid M9
      clear M9 HM8
      go_wp2_with fail
      refine (add_mine exFar (by unfold u64ok; omega) (by rw [exG_len]; omega) HM9.out).mono ?_
      rintro e w10 ⟨rfl, M10⟩
      have HM10 := Lib.hid M10
      have C10 := count_mine M10
      rw [exG_len] at C10
      clear M10 HM9
      go_wp2_with fail
      refine C10.mono ?_
      rintro e w11 ⟨rfl, rfl⟩
      clear C10
      go_wp2_with fail
      go_ret
      exact ⟨rfl, HM10.out.bel⟩
end Go.Proofs.Ytanhhgifcolfaaa
