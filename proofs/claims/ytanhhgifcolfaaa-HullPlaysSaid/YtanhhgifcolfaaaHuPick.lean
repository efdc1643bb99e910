/-
  Which of some things a raw number speaks of.
-/
import Derived.Test.YtanhhgifcolfaaaHuRefClone
import Derived.Test.YtanhhgifcolfaaaHuMade
namespace Go.Proofs.Ytanhhgifcolfaaa
open Go.RowKit
set_option linter.unusedVariables false
set_option linter.unusedSimpArgs false

theorem pick_any (c : Int) (h1 : -9223372036854775808 ≤ c) (h2 : c ≤ 9223372036854775807) (n : Nat) (hn : 0 < n) (hn2 : n ≤ 4611686018427387904) (w : World) :
    Calls Try.prog 26 #[.int .i64 c, .int .i64 n] w fun e w' => ∃ m : Nat, m < n ∧ e = .returned (.int .i64 m) ∧ w = w' := by
  have g0 : ((n : Int) == 0) = false := beq_eq_false_iff_ne.2 (by omega)
  have g1 : (n : Int) ≠ 0 := by omega
  obtain ⟨d, hd⟩ : ∃ d : Int, (if c < 0 then -(c + 1) else c) = d := ⟨_, rfl⟩
  have hd0 : 0 ≤ d := by rw [← hd]; split <;> omega
  have hd1 : d ≤ 9223372036854775807 := by rw [← hd]; split <;> omega
  have v1 : d.tmod (n : Int) = d % (n : Int) := Int.tmod_eq_emod_of_nonneg hd0
  have v2 : 0 ≤ d % (n : Int) := Int.emod_nonneg _ g1
  have v3 : d % (n : Int) < (n : Int) := Int.emod_lt_of_pos _ (by omega)
  have v4 : IntKind.i64.wrap (d % (n : Int)) = d % (n : Int) := IntWalk.i64_in _ (by omega)
  have FIN : Hid (∃ m : Nat, m < n ∧ d % (n : Int) = (m : Int)) := Lib.hid ⟨(d % (n : Int)).toNat, by omega, by omega⟩
  by_cases hc : c < 0
  · have v5 : IntKind.i64.wrap (c + 1) = c + 1 := IntWalk.i64_in _ (by omega)
    rw [if_pos hc] at hd
    have v6 : IntKind.i64.wrap (-(c + 1)) = d := by rw [hd]; exact IntWalk.i64_in _ (by omega)
    clear hd
    go_enter Try.func26, Try.ntmps26
    go_wp2
    go_ret
    obtain ⟨m, h3, h4⟩ := FIN.out
    exact ⟨m, h3, by rw [← h4]; rfl, rfl⟩
  · rw [if_neg hc] at hd
    subst hd
    go_enter Try.func26, Try.ntmps26
    go_wp2
    go_ret
    obtain ⟨m, h3, h4⟩ := FIN.out
    exact ⟨m, h3, by rw [← h4]; rfl, rfl⟩
end Go.Proofs.Ytanhhgifcolfaaa
