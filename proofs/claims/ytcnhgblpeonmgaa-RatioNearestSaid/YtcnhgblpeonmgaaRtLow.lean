/-
  ratio.Lowest and inclineref02.Lowest come to the same fraction.
-/
import Derived.Test.YtcnhgblpeonmgaaRtRefNearW
import Derived.Test.YtcnhgblpeonmgaaChg
import Derived.BigQuiet
namespace Go.Proofs.Ytcnhgblpeonmgaa
open Go.RowKit
set_option linter.unusedVariables false
set_option linter.unusedSimpArgs false

/-- What Euclid's loop keeps. -/
def GcdTo (n d : Int) (x y : Value) : Prop := ∃ a b : Int, x = .int .u64 a ∧ y = .int .u64 b ∧ 0 ≤ a ∧ 0 ≤ b ∧ (0 < a ∨ 0 < b) ∧ b < 18446744073709551616 ∧ a < 18446744073709551616 ∧ Int.gcd a b = Int.gcd n d
theorem gcd_emod (a b : Int) (ha : 0 ≤ a) (hb : 0 ≤ b) : Int.gcd (b % a) a = Int.gcd a b := by
  obtain ⟨a, rfl⟩ := Int.eq_ofNat_of_zero_le ha
  obtain ⟨b, rfl⟩ := Int.eq_ofNat_of_zero_le hb
  rw [← Int.natCast_emod, Int.gcd_natCast_natCast, Int.gcd_natCast_natCast]
  exact (Nat.gcd_rec a b).symm
theorem gcd_at_zero (b : Int) (hb : 0 ≤ b) : ((Int.gcd 0 b : Nat) : Int) = b := by
  rw [Int.gcd_zero_left]; omega
/-- Lowest terms. -/
def lowA (n d : Int) : Int := if d = 0 then 0 else n / (Int.gcd n d : Nat)
def lowB (n d : Int) : Int := if d = 0 then 0 else d / (Int.gcd n d : Nat)
def lowE (d : Int) : Int := if d = 0 then 20 else 0
def lowV (n d : Int) : Value := .tuple #[.agg #[.int .u64 (lowA n d), .int .u64 (lowB n d)], .int .i64 (lowE d)]

set_option maxHeartbeats 2000000 in
theorem lowest_any (n d : Int) (hn : u64ok n) (hd : u64ok d) (w : World) :
    Calls Try.prog 17 #[.int .u64 n, .int .u64 d] w fun e w' => e = .returned (lowV n d) ∧ Below w.heap.size w w' := by
  by_cases h00 : d = 0
  · subst h00
    have e : lowV n 0 = .tuple #[.agg #[.int .u64 0, .int .u64 0], .int .i64 20] := by simp [lowV, lowA, lowB, lowE]
    rw [e]
    go_enter Try.func17, Try.ntmps17
    go_wp2_with fail
    refine bodyPost_ret (v := .tuple #[.agg #[.int .u64 0, .int .u64 0], .int .i64 20]) (results_ct (p := 4) (u := 5) (ty := 36) (t := 36) rfl _ rfl rfl ?_ Try.underlying36 rfl (by kernel_rfl)) rfl ?_
    · exact Blk.new _ _ _
    · exact ⟨rfl, below_new (Below.refl _ _) _⟩
  have h0 : 0 < d := by unfold u64ok at hd; omega
  have d0 : (d == 0) = false := by simpa using h00
  have e : lowV n d = .tuple #[.agg #[.int .u64 (n / (Int.gcd n d : Nat)), .int .u64 (d / (Int.gcd n d : Nat))], .int .i64 0] := by simp [lowV, lowA, lowB, lowE, h00]
  rw [e]
  clear e
  unfold u64ok at hn hd
  obtain ⟨s, hs⟩ : ∃ s : Int × Int, s = (n / (Int.gcd n d : Nat), d / (Int.gcd n d : Nat)) := ⟨_, rfl⟩
  have s1 : n / (Int.gcd n d : Nat) = s.1 := by rw [hs]
  have s2 : d / (Int.gcd n d : Nat) = s.2 := by rw [hs]
  rw [s1, s2]
  clear s1 s2
  have HL := Lib.hid hs
  clear hs
  have HG : Hid (0 < ((Int.gcd n d : Nat) : Int) ∧ 0 ≤ n / ((Int.gcd n d : Nat) : Int) ∧ n / ((Int.gcd n d : Nat) : Int) ≤ n ∧ 0 ≤ d / ((Int.gcd n d : Nat) : Int) ∧ d / ((Int.gcd n d : Nat) : Int) ≤ d) := by
    have h : 0 < Int.gcd n d := Int.gcd_pos_of_ne_zero_right _ (by omega)
    exact Lib.hid ⟨by omega, Int.ediv_nonneg hn.1 (by omega), Int.ediv_le_self _ hn.1, Int.ediv_nonneg hd.1 (by omega), Int.ediv_le_self _ hd.1⟩
  go_enter Try.func17, Try.ntmps17
  go_wp2
  go_loop [6, 7] (fun x y => GcdTo n d x y) (fun x _ => (intOf x).toNat)
  case atStart => exact ⟨n, d, rfl, rfl, hn.1, hd.1, .inr h0, by omega, by omega, rfl⟩
  case round =>
    obtain ⟨a, b, rfl, rfl, ha, hb, hab, hb2, ha2, hg⟩ := hrel
    by_cases hp : 0 < a
    · have G := Lib.hid (gcd_emod a b ha hb)
      have m1 := Int.emod_nonneg b (show a ≠ 0 by omega)
      have m2 := Int.emod_lt_of_pos b hp
      go_wp2
      go_round
      case rel => exact ⟨_, _, rfl, rfl, by omega, by omega, .inr hp, by omega, by omega, by rw [G.out, hg]⟩
      case measure => simp only [intOf]; omega
    · obtain rfl : a = 0 := by omega
      have hgb : ((Int.gcd n d : Nat) : Int) = b := by rw [← hg]; exact gcd_at_zero b hb
      rw [hgb] at HL HG
      obtain ⟨g0, g1, g2, g3, g4⟩ := HG.out
      have b0 : (b == 0) = false := by
        have : b ≠ 0 := by omega
        simpa using this
      have b1 : b ≠ 0 := by omega
      have hdv : ∀ x y : Int, 0 ≤ x → 0 < y → x.tdiv y = x / y := fun x y h _ => Int.tdiv_eq_ediv_of_nonneg h
      go_wp2_with fail
      go_big_region
      all_goals go_wp2_with fail
      all_goals refine bodyPost_ret (v := .tuple #[.agg #[.int .u64 s.1, .int .u64 s.2], .int .i64 0]) (results_ct (p := 4) (u := 5) (ty := 36) (t := 36) rfl _ rfl rfl ?_ Try.underlying36 rfl (by kernel_rfl)) rfl ?_
      · rw [HL.out]; exact (Blk.new _ _ _).drew
      · exact ⟨rfl, (below_new (Below.refl _ _) _).drew⟩

set_option maxHeartbeats 2000000 in
theorem refLowest_any (n d : Int) (hn : u64ok n) (hd : u64ok d) (w : World) :
    Calls Try.prog 18 #[.int .u64 n, .int .u64 d] w fun e w' => e = .returned (lowV n d) ∧ Below w.heap.size w w' := by
  by_cases h00 : d = 0
  · subst h00
    have e : lowV n 0 = .tuple #[.agg #[.int .u64 0, .int .u64 0], .int .i64 20] := by simp [lowV, lowA, lowB, lowE]
    rw [e]
    go_enter Try.func18, Try.ntmps18
    go_wp2_with fail
    refine bodyPost_ret (v := .tuple #[.agg #[.int .u64 0, .int .u64 0], .int .i64 20]) (results_ct (p := 4) (u := 5) (ty := 36) (t := 36) rfl _ rfl rfl ?_ Try.underlying36 rfl (by kernel_rfl)) rfl ?_
    · exact Blk.new _ _ _
    · exact ⟨rfl, below_new (Below.refl _ _) _⟩
  have h0 : 0 < d := by unfold u64ok at hd; omega
  have d0 : (d == 0) = false := by simpa using h00
  have e : lowV n d = .tuple #[.agg #[.int .u64 (n / (Int.gcd n d : Nat)), .int .u64 (d / (Int.gcd n d : Nat))], .int .i64 0] := by simp [lowV, lowA, lowB, lowE, h00]
  rw [e]
  clear e
  unfold u64ok at hn hd
  obtain ⟨s, hs⟩ : ∃ s : Int × Int, s = (n / (Int.gcd n d : Nat), d / (Int.gcd n d : Nat)) := ⟨_, rfl⟩
  have s1 : n / (Int.gcd n d : Nat) = s.1 := by rw [hs]
  have s2 : d / (Int.gcd n d : Nat) = s.2 := by rw [hs]
  rw [s1, s2]
  clear s1 s2
  have HL := Lib.hid hs
  clear hs
  have HG : Hid (0 < ((Int.gcd n d : Nat) : Int) ∧ 0 ≤ n / ((Int.gcd n d : Nat) : Int) ∧ n / ((Int.gcd n d : Nat) : Int) ≤ n ∧ 0 ≤ d / ((Int.gcd n d : Nat) : Int) ∧ d / ((Int.gcd n d : Nat) : Int) ≤ d) := by
    have h : 0 < Int.gcd n d := Int.gcd_pos_of_ne_zero_right _ (by omega)
    exact Lib.hid ⟨by omega, Int.ediv_nonneg hn.1 (by omega), Int.ediv_le_self _ hn.1, Int.ediv_nonneg hd.1 (by omega), Int.ediv_le_self _ hd.1⟩
  go_enter Try.func18, Try.ntmps18
  go_wp2
  go_loop [6, 7] (fun x y => GcdTo n d x y) (fun x _ => (intOf x).toNat)
  case atStart => exact ⟨n, d, rfl, rfl, hn.1, hd.1, .inr h0, by omega, by omega, rfl⟩
  case round =>
    obtain ⟨a, b, rfl, rfl, ha, hb, hab, hb2, ha2, hg⟩ := hrel
    by_cases hp : 0 < a
    · have G := Lib.hid (gcd_emod a b ha hb)
      have m1 := Int.emod_nonneg b (show a ≠ 0 by omega)
      have m2 := Int.emod_lt_of_pos b hp
      go_wp2
      go_round
      case rel => exact ⟨_, _, rfl, rfl, by omega, by omega, .inr hp, by omega, by omega, by rw [G.out, hg]⟩
      case measure => simp only [intOf]; omega
    · obtain rfl : a = 0 := by omega
      have hgb : ((Int.gcd n d : Nat) : Int) = b := by rw [← hg]; exact gcd_at_zero b hb
      rw [hgb] at HL HG
      obtain ⟨g0, g1, g2, g3, g4⟩ := HG.out
      have b0 : (b == 0) = false := by
        have : b ≠ 0 := by omega
        simpa using this
      have b1 : b ≠ 0 := by omega
      have hdv : ∀ x y : Int, 0 ≤ x → 0 < y → x.tdiv y = x / y := fun x y h _ => Int.tdiv_eq_ediv_of_nonneg h
      go_wp2_with fail
      go_big_region
      all_goals go_wp2_with fail
      all_goals refine bodyPost_ret (v := .tuple #[.agg #[.int .u64 s.1, .int .u64 s.2], .int .i64 0]) (results_ct (p := 4) (u := 5) (ty := 36) (t := 36) rfl _ rfl rfl ?_ Try.underlying36 rfl (by kernel_rfl)) rfl ?_
      · rw [HL.out]; exact (Blk.new _ _ _).drew
      · exact ⟨rfl, (below_new (Below.refl _ _) _).drew⟩
end Go.Proofs.Ytcnhgblpeonmgaa
