/-
  Plain: twice a float, half of one.
-/
import Derived.Test.YtcnhgblpeonmgaaRtFrexp
namespace Go.Proofs.Ytcnhgblpeonmgaa
set_option linter.unusedVariables false
set_option linter.unusedSimpArgs false

theorem val_dbl {r : Nat} (h : 4503599627370496 ≤ r) : val (r + 4503599627370496) = 2 * val r := by
  have hm := mg_or r
  have hl := mg_lt r
  have e := rung_eq r
  have hg : 4503599627370496 ≤ mg r := by unfold mg; split <;> omega
  have h2 := val_em (pl r + 1) (mg r) (.inl hg) (by omega)
  have e2 : (pl r + 1) * 4503599627370496 + mg r = r + 4503599627370496 := by omega
  rw [e2, Nat.pow_succ] at h2
  rw [h2]; unfold val; ac_rfl

theorem mul_two {r : Nat} (h1 : 4503599627370496 ≤ r) (h2 : r + 4503599627370496 < INF) : Ieee.double.mul r 4611686018427387904 = some (r + 4503599627370496) := by
  have e1 : ng 4611686018427387904 = false := ng_small (by decide)
  have e2 : rg 4611686018427387904 = 4611686018427387904 := rg_small (by decide)
  have e3 := ng_small (show r ≤ INF by omega)
  have e4 := rg_small (show r ≤ INF by omega)
  have := mul_exact (a := r) (b := 4611686018427387904) (r := r + 4503599627370496) (fin_small (by omega)) (fin_small (by decide)) (by omega) (by rw [e2, e4, val_two, val_dbl h1]; ac_rfl)
  rw [e1, e3] at this; exact this

theorem read_two : Ieee.double.read 4611686018427387904 = .number false 4503599627370496 (-51) := by decide
theorem log2_52 : (4503599627370496 : Nat).log2 = 52 := by decide
theorem div_two {r : Nat} (h1 : 9007199254740992 ≤ r) (h2 : r < INF) : Ieee.double.div r 4611686018427387904 = some (r - 4503599627370496) := by
  have e3 := ng_small (show r ≤ INF by omega)
  have e4 := rg_small (show r ≤ INF by omega)
  have hg : 4503599627370496 ≤ mg r := by unfold mg; split <;> omega
  have hl := mg_lt r
  have e := rung_eq r
  have hp : 1 ≤ pl r := by unfold pl; omega
  unfold Ieee.Format.div
  rw [read_fin (fin_small h2), e3, e4]
  have r2 := read_two
  rw [r2, d_frac]
  unfold Ieee.Datum.quotient
  dsimp only
  rw [if_neg (by decide)]
  have hlog : (mg r).log2 = 52 := by
    rw [Nat.log2_eq_iff (by omega)]
    have a1 : (2 : Nat) ^ 52 = 4503599627370496 := by decide
    have a2 : (2 : Nat) ^ (52 + 1) = 9007199254740992 := by decide
    omega
  have hlog2 := log2_52
  rw [hlog, hlog2, Nat.shiftLeft_eq]
  have hdiv : mg r * 2 ^ (52 + 2 + 52 - 52) / 4503599627370496 = mg r * 4 := by
    have : (2 : Nat) ^ (52 + 2 + 52 - 52) = 4 * 4503599627370496 := by decide
    rw [this, ← Nat.mul_assoc, Nat.mul_div_cancel _ (by decide)]
  have hmod : mg r * 2 ^ (52 + 2 + 52 - 52) % 4503599627370496 = 0 := by
    have : (2 : Nat) ^ (52 + 2 + 52 - 52) = 4 * 4503599627370496 := by decide
    rw [this, ← Nat.mul_assoc, Nat.mul_mod_left]
  rw [hdiv, hmod]
  have hv : val (r - 4503599627370496) = mg r * 2 ^ (pl r - 1) := by
    have h2 := val_em (pl r - 1) (mg r) (.inl hg) (by omega)
    have e2 : (pl r - 1) * 4503599627370496 + mg r = r - 4503599627370496 := by omega
    rw [e2] at h2; exact h2
  have hz : (0 != 0).toNat = 0 := by decide
  rw [hz]
  have fin := write_exact false (2 * (mg r * 4) + 0) (-1074 + (pl r : Int) - -51 - ((52 + 2 + 52 - 52 : Nat) : Int) - 1) (r - 4503599627370496) (by omega) ?_
  · have hx : (false ^^ false) = false := by decide
    rw [hx, Option.map_some, fin, wd_pos]
  · rw [hv]
    obtain ⟨up, hup⟩ : ∃ up, up = (-1074 + (pl r : Int) - -51 - ((52 + 2 + 52 - 52 : Nat) : Int) - 1 + 1074).toNat := ⟨_, rfl⟩
    obtain ⟨dn, hdn⟩ : ∃ dn, dn = (-1074 - (-1074 + (pl r : Int) - -51 - ((52 + 2 + 52 - 52 : Nat) : Int) - 1)).toNat := ⟨_, rfl⟩
    rw [← hup, ← hdn]
    have hs : up + 3 = pl r - 1 + dn := by omega
    have : 2 ^ up * 8 = 2 ^ (pl r - 1) * 2 ^ dn := by
      rw [← Nat.pow_add, ← hs, Nat.pow_add]
    rw [Nat.mul_assoc (mg r), ← this, Nat.add_zero]
    have : 2 * (mg r * 4) = mg r * 8 := by omega
    rw [this]; ac_rfl
end Go.Proofs.Ytcnhgblpeonmgaa
