/-
  MaxHeight of the program and of the reference.
-/
import Derived.Test.YtnccgpdniigekaaProg
import Derived.Test.YtnccgpdniigekaaQG28
import Derived.Test.YtnccgpdniigekaaQG17
namespace Go.Proofs.Ytnccgpdniigekaa
open Go.RowKit
set_option linter.unusedVariables false
set_option linter.unusedSimpArgs false

/-- How high levels over n may be, for an eps of 2 or more. -/
def maxH (eps n : Nat) : Nat := if h : 2 ≤ eps ∧ 2 * eps ≤ n then 1 + maxH eps (n / eps + 1) else 1
termination_by n
decreasing_by
  have h1 : n / eps ≤ n / 2 := Nat.div_le_div_left h.1 (by decide)
  omega
theorem maxH_one {eps n : Nat} (h : n < 2 * eps) : maxH eps n = 1 := by
  rw [maxH, dif_neg (by omega)]
theorem maxH_more {eps n : Nat} (h1 : 2 ≤ eps) (h : 2 * eps ≤ n) : maxH eps n = 1 + maxH eps (n / eps + 1) := by
  rw [maxH, dif_pos ⟨h1, h⟩]
theorem div_less {eps n : Nat} (h1 : 2 ≤ eps) (h : 2 * eps ≤ n) : n / eps + 1 < n := by
  have h1 : n / eps ≤ n / 2 := Nat.div_le_div_left h1 (by decide)
  omega
theorem maxH_le {eps : Nat} (h1 : 2 ≤ eps) : ∀ n, 1 ≤ n → 1 ≤ maxH eps n ∧ maxH eps n ≤ n := by
  intro n
  induction n using Nat.strongRecOn with
  | ind n ih =>
    intro hn
    rcases Nat.lt_or_ge n (2 * eps) with h | h
    · rw [maxH_one h]; omega
    · rw [maxH_more h1 h]
      have hd := div_less h1 h
      obtain ⟨k, hk⟩ : ∃ k, k = n / eps := ⟨_, rfl⟩
      rw [← hk] at hd ⊢
      have := ih (k + 1) hd (by omega)
      omega
theorem maxH_mono {eps : Nat} (h1 : 2 ≤ eps) : ∀ n m, n ≤ m → maxH eps n ≤ maxH eps m := by
  intro n
  induction n using Nat.strongRecOn with
  | ind n ih =>
    intro m hm
    rcases Nat.lt_or_ge n (2 * eps) with h | h
    · rw [maxH_one h]
      rcases Nat.lt_or_ge m (2 * eps) with h2 | h2
      · rw [maxH_one h2]; exact Nat.le_refl _
      · rw [maxH_more h1 h2]; exact Nat.le_add_right _ _
    · rw [maxH_more h1 h, maxH_more h1 (show 2 * eps ≤ m from Nat.le_trans h hm)]
      exact Nat.add_le_add_left (ih _ (div_less h1 h) (m / eps + 1) (Nat.succ_le_succ (Nat.div_le_div_right hm))) 1
def mhI (n eps : Int) : Int := if n < 1 ∨ eps < 2 ∨ 64 < eps then 0 else (maxH eps.toNat n.toNat : Int)
theorem mhI_nat {n eps : Nat} (h1 : 1 ≤ n) (h2 : 2 ≤ eps) (h3 : eps ≤ 64) : mhI (n : Int) (eps : Int) = (maxH eps n : Int) := by
  unfold mhI; rw [if_neg (by omega), Int.toNat_natCast, Int.toNat_natCast]

theorem maxHeight_bad (n eps : Int) (h : n < 1 ∨ eps < 2 ∨ 64 < eps) (w : World) : Calls Try.prog 24 #[.int .i64 n, .int .i64 eps] w fun e w' => e = .returned (.int .i64 0) ∧ w = w' := by
  by_cases h1 : n < 1
  · clear h
    go_enter Try.func24, Try.ntmps24
    go_wp2_with fail
    go_ret
    exact ⟨rfl, rfl⟩
  by_cases h2 : eps < 2
  · clear h
    go_enter Try.func24, Try.ntmps24
    go_wp2_with fail
    go_ret
    exact ⟨rfl, rfl⟩
  · have h3 : 64 < eps := by omega
    clear h
    go_enter Try.func24, Try.ntmps24
    go_wp2_with fail
    go_ret
    exact ⟨rfl, rfl⟩
theorem maxHeight_good {eps : Nat} (h2 : 2 ≤ eps) (h3 : eps ≤ 64) : ∀ n : Nat, 1 ≤ n → n ≤ 9223372036854775807 → ∀ w, Calls Try.prog 24 #[.int .i64 (n : Int), .int .i64 (eps : Int)] w fun e w' => e = .returned (.int .i64 (maxH eps n : Nat)) ∧ w = w' := by
  intro n
  induction n using Nat.strongRecOn with
  | ind n ih =>
    intro hn hn2 w
    have a1 : ¬ (n : Int) < 1 := by omega
    have a2 : ¬ (eps : Int) < 2 := by omega
    have a3 : ¬ (64 : Int) < (eps : Int) := by omega
    have v1 : wrap64 (2 * (eps : Int)) = 2 * eps := by unfold wrap64; omega
    have v2 : wrap64 (2 * (eps : Int) - 1) = 2 * eps - 1 := by unfold wrap64; omega
    rcases Nat.lt_or_ge n (2 * eps) with h | h
    · rw [maxH_one h]
      have a4 : (n : Int) ≤ 2 * (eps : Int) - 1 := by omega
      clear ih h
      go_enter Try.func24, Try.ntmps24
      go_wp2_with fail
      go_ret
      exact ⟨rfl, rfl⟩
    · have hd := div_less h2 h
      have RC := ih (n / eps + 1) hd (Nat.succ_le_succ (Nat.zero_le _)) (Nat.le_trans (Nat.le_of_lt hd) hn2)
      have hb := maxH_le h2 (n / eps + 1) (Nat.succ_le_succ (Nat.zero_le _))
      rw [maxH_more h2 h]
      have a4 : ¬ (n : Int) ≤ 2 * (eps : Int) - 1 := by omega
      have a5 : ¬ (eps : Int) = 0 := by omega
      have a6 : ((eps : Int) == 0) = false := by simp; omega
      have q1 : (n : Int) / (eps : Int) = ((n / eps : Nat) : Int) := (Int.natCast_ediv ..).symm
      have a7 : (0 : Int) < (eps : Int) := by omega
      obtain ⟨k, hk⟩ : ∃ k, n / eps = k := ⟨_, rfl⟩
      rw [hk] at q1 RC hb hd ⊢
      have v3 : wrap64 (k : Int) = k := by unfold wrap64; omega
      have v4 : wrap64 ((k : Int) + 1) = ((k + 1 : Nat) : Int) := by unfold wrap64; omega
      generalize maxH eps (k + 1) = m at *
      have v5 : wrap64 (1 + (m : Int)) = ((1 + m : Nat) : Int) := by unfold wrap64; omega
      clear ih h hk
      go_enter Try.func24, Try.ntmps24
      go_wp2_with fail
      refine (RC _).mono ?_
      rintro e w1 ⟨rfl, rfl⟩
      go_wp2_with fail
      go_ret
      exact ⟨rfl, rfl⟩
theorem maxHeight_any (n eps : Int) (hn : n ≤ 9223372036854775807) (w : World) : Calls Try.prog 24 #[.int .i64 n, .int .i64 eps] w fun e w' => e = .returned (.int .i64 (mhI n eps)) ∧ w = w' := by
  by_cases h : n < 1 ∨ eps < 2 ∨ 64 < eps
  · have : mhI n eps = 0 := if_pos h
    rw [this]; exact maxHeight_bad n eps h w
  · obtain ⟨m, rfl⟩ := Int.eq_ofNat_of_zero_le (show 0 ≤ n by omega)
    obtain ⟨e, rfl⟩ := Int.eq_ofNat_of_zero_le (show 0 ≤ eps by omega)
    rw [mhI_nat (by omega) (by omega) (by omega)]
    exact maxHeight_good (by omega) (by omega) m (by omega) (by omega) w

end Go.Proofs.Ytnccgpdniigekaa
/-
  MaxHeight of the reference.
-/
namespace Go.Proofs.Ytnccgpdniigekaa
open Go.RowKit
set_option linter.unusedVariables false
set_option linter.unusedSimpArgs false

theorem mh_step {e n0 n h k : Nat} (h2 : 2 ≤ e) (hd : k + 1 < n) (I : Hid (1 ≤ n ∧ n ≤ n0 ∧ 1 ≤ h ∧ maxH e n0 + 1 = h + maxH e n)) (J : Hid (maxH e n = 1 + maxH e (k + 1))) :
    Hid (1 ≤ k + 1 ∧ k + 1 ≤ n0 ∧ 1 ≤ h + 1 ∧ maxH e n0 + 1 = h + 1 + maxH e (k + 1)) := by
  obtain ⟨i1, i2, i3, i4⟩ := I.out
  have j := J.out
  generalize maxH e n = a at *
  generalize maxH e n0 = b at *
  generalize maxH e (k + 1) = c at *
  exact Lib.hid ⟨by omega, by omega, by omega, by omega⟩
theorem mh_lt {e n0 n h k R : Nat} (h2 : 2 ≤ e) (hR : Hid (maxH e n0 = R)) (hb : R ≤ n0) (I : Hid (1 ≤ n ∧ n ≤ n0 ∧ 1 ≤ h ∧ maxH e n0 + 1 = h + maxH e n)) (J : Hid (maxH e n = 1 + maxH e (k + 1))) : h + 1 ≤ n0 := by
  obtain ⟨i1, i2, i3, i4⟩ := I.out
  have j := J.out
  have m := (maxH_le h2 (k + 1) (by omega)).1
  have r := hR.out
  generalize maxH e n = a at *
  generalize maxH e n0 = b at *
  generalize maxH e (k + 1) = c at *
  omega
theorem lvWrap {h n0 : Nat} (h1 : h + 1 ≤ n0) (hn : n0 ≤ 9223372036854775807) : wrap64 ((h : Int) + 1) = ((h + 1 : Nat) : Int) := by unfold wrap64; omega
theorem lvWrap0 {h n0 : Nat} (h1 : h ≤ n0) (hn : n0 ≤ 9223372036854775807) : wrap64 (h : Int) = (h : Int) := by unfold wrap64; omega
theorem toNat_less {k n : Nat} (v : wrap64 ((k : Int) + 1) = ((k + 1 : Nat) : Int)) (h : k + 1 < n) : (intOf (.int .i64 (wrap64 ((k : Int) + 1)))).toNat < (intOf (.int .i64 (n : Int))).toNat := by
  rw [v]; exact h
theorem refMaxHeight_bad (n eps : Int) (h : n < 1 ∨ eps < 2 ∨ 64 < eps) (w : World) : Calls Try.prog 25 #[.int .i64 n, .int .i64 eps] w fun e w' => e = .returned (.int .i64 0) ∧ w = w' := by
  by_cases h2 : eps < 2
  · clear h
    go_enter Try.func25, Try.ntmps25
    go_wp2_with fail
    go_ret
    exact ⟨rfl, rfl⟩
  by_cases h3 : 64 < eps
  · clear h
    go_enter Try.func25, Try.ntmps25
    go_wp2_with fail
    go_ret
    exact ⟨rfl, rfl⟩
  · have h1 : n < 1 := by omega
    clear h
    go_enter Try.func25, Try.ntmps25
    go_wp2_with fail
    go_ret
    exact ⟨rfl, rfl⟩

theorem refMaxHeight_any (n eps : Int) (hn : n ≤ 9223372036854775807) (w : World) : Calls Try.prog 25 #[.int .i64 n, .int .i64 eps] w fun e w' => e = .returned (.int .i64 (mhI n eps)) ∧ w = w' := by
  by_cases h : n < 1 ∨ eps < 2 ∨ 64 < eps
  · have : mhI n eps = 0 := if_pos h
    rw [this]; exact refMaxHeight_bad n eps h w
  · obtain ⟨n0, rfl⟩ := Int.eq_ofNat_of_zero_le (show 0 ≤ n by omega)
    obtain ⟨e, rfl⟩ := Int.eq_ofNat_of_zero_le (show 0 ≤ eps by omega)
    rw [mhI_nat (by omega) (by omega) (by omega)]
    have h2 : 2 ≤ e := by omega
    have a1 : ¬ (n0 : Int) < 1 := by omega
    have a2 : ¬ (e : Int) < 2 := by omega
    have a3 : ¬ (64 : Int) < (e : Int) := by omega
    have v1 : wrap64 (2 * (e : Int)) = 2 * e := by unfold wrap64; omega
    have v2 : wrap64 (2 * (e : Int) - 1) = 2 * e - 1 := by unfold wrap64; omega
    have a5 : ¬ (e : Int) = 0 := by omega
    have a6 : ((e : Int) == 0) = false := by simp; omega
    have a7 : (0 : Int) < (e : Int) := by omega
    have hb := (maxH_le h2 n0 (by omega)).2
    obtain ⟨R, hR⟩ : ∃ R, maxH e n0 = R := ⟨_, rfl⟩
    rw [hR] at hb ⊢
    have HR := Lib.hid hR
    have HN := Lib.hid (show n0 ≤ 9223372036854775807 by omega)
    have H1 := Lib.hid (show 1 ≤ n0 by omega)
    clear hR h hn
    go_enter Try.func25, Try.ntmps25
    go_wp2_with fail
    go_loopw [0, 5] (fun x y wr => ∃ n h : Nat, w = wr ∧ x = .int .i64 (n : Int) ∧ y = .int .i64 (h : Int) ∧ Hid (1 ≤ n ∧ n ≤ n0 ∧ 1 ≤ h ∧ maxH e n0 + 1 = h + maxH e n)) (fun x _ _ => (intOf x).toNat)
    case atStart => exact ⟨n0, 1, rfl, rfl, rfl, Lib.hid ⟨H1.out, Nat.le_refl _, Nat.le_refl _, by omega⟩⟩
    case round =>
      obtain ⟨n, h, rfl, rfl, rfl, I⟩ := hrel
      rcases Nat.lt_or_ge n (2 * e) with hc | hc
      · have a4 : ¬ 2 * (e : Int) - 1 < (n : Int) := by omega
        have E : Hid (h = R) := Lib.hid (by have := I.out.2.2.2; rw [maxH_one hc, HR.out] at this; omega)
        clear hc
        go_wp2_with fail
        go_ret
        exact ⟨by rw [E.out]; rfl, rfl⟩
      · have a4 : 2 * (e : Int) - 1 < (n : Int) := by omega
        have hd := div_less h2 hc
        have q1 : (n : Int) / (e : Int) = ((n / e : Nat) : Int) := (Int.natCast_ediv ..).symm
        have J := Lib.hid (maxH_more h2 hc)
        obtain ⟨k, hk⟩ : ∃ k, n / e = k := ⟨_, rfl⟩
        rw [hk] at q1 J hd
        have i1 := I.out.2.1
        have n9 := HN.out
        have hh := mh_lt h2 HR hb I J
        have v3 : wrap64 (k : Int) = k := lvWrap0 (n0 := n0) (by omega) n9
        have v4 := lvWrap (h := k) (n0 := n0) (by omega) n9
        have v5 := lvWrap hh n9
        have I2 := mh_step h2 hd I J
        have hd2 := Lib.hid hd
        clear hk hc i1 n9 hh hb hd I J
        go_wp2_with fail
        go_roundw
        case rel => exact ⟨k + 1, h + 1, trivial, congrArg (Value.int .i64) v4, congrArg (Value.int .i64) v5, I2⟩
        case measure => exact toNat_less v4 hd2.out
end Go.Proofs.Ytnccgpdniigekaa
