/-
  Plain: floats and whole numbers; what is exact.
-/
import Derived.Test.YtcnhgblpeonmgaaRtOps
namespace Go.Proofs.Ytcnhgblpeonmgaa
set_option linter.unusedVariables false
set_option linter.unusedSimpArgs false

theorem INF_lit : INF = 9218868437227405312 := rfl
theorem rg_of {s : Bool} {r : Nat} (h : r ≤ INF) : rg (wd s r) = r := rg_wd s (by rw [INF_lit] at h; omega)
theorem ng_of {s : Bool} {r : Nat} (h : r ≤ INF) : ng (wd s r) = s := ng_wd s (by rw [INF_lit] at h; omega)
theorem sv_of {s : Bool} {r : Nat} (h : r ≤ INF) : sv (wd s r) = sg s (val r) := by rw [sv_eq, rg_of h, ng_of h]
theorem fin_of {s : Bool} {r : Nat} (h : r < INF) : Fin64 (wd s r) := by unfold Fin64; rw [rg_of (by omega)]; exact h
theorem num_of {s : Bool} {r : Nat} (h : r ≤ INF) : Num64 (wd s r) := by unfold Num64; rw [rg_of h]; exact h
theorem Fin64.num {b : Nat} (h : Fin64 b) : Num64 b := Nat.le_of_lt h
theorem wd_lt {s : Bool} {r : Nat} (h : r ≤ INF) : wd s r < 18446744073709551616 := by rw [INF_lit] at h; unfold wd; split <;> omega
theorem wd_pos (r : Nat) : wd false r = r := rfl

theorem near_self {r q D : Nat} (h : Near (val r * D) D q) (hD : 0 < D) : q = r := near_unique h (near_exact D r hD) hD hD rfl

/-- A number that the format has is written as it is. -/
theorem write_exact (neg : Bool) (mag : Nat) (place : Int) (r : Nat) (hr : r ≤ INF) (he : mag * 2 ^ (place + 1074).toNat = val r * 2 ^ (-1074 - place).toNat) :
    Ieee.double.write (.number neg mag place) = wd neg r := by
  obtain ⟨q, h1, h2⟩ := nearest_near neg mag place
  rw [he] at h2
  have := near_self h2 (p2pos _)
  subst this
  have e : min q INF = q := Nat.min_eq_left hr
  rw [e] at h1; exact h1

theorem mul_exact {a b r : Nat} (ha : Fin64 a) (hb : Fin64 b) (hr : r ≤ INF) (he : val (rg a) * val (rg b) = val r * S) : Ieee.double.mul a b = some (wd (ng a ^^ ng b) r) := by
  obtain ⟨q, h1, h2⟩ := mul_fin ha hb
  rw [he] at h2
  have := near_self h2 S_pos
  subst this
  have e : min q INF = q := Nat.min_eq_left hr
  rw [e] at h1; exact h1
theorem add_exact {a b r : Nat} (ha : Fin64 a) (hb : Fin64 b) (hr : r ≤ INF) (he : (sv a + sv b).natAbs = val r) : Ieee.double.add a b = some (wd (sumNeg (ng a) (ng b) (sv a + sv b)) r) := by
  obtain ⟨q, h1, h2⟩ := add_fin ha hb
  rw [he, ← Nat.mul_one (val r)] at h2
  have := near_self h2 (by decide)
  subst this
  have e : min q INF = q := Nat.min_eq_left hr
  rw [e] at h1; exact h1
theorem sub_exact {a b r : Nat} (ha : Fin64 a) (hb : Fin64 b) (hr : r ≤ INF) (he : (sv a - sv b).natAbs = val r) : Ieee.double.sub a b = some (wd (sumNeg (ng a) (!ng b) (sv a - sv b)) r) := by
  obtain ⟨q, h1, h2⟩ := sub_fin ha hb
  rw [he, ← Nat.mul_one (val r)] at h2
  have := near_self h2 (by decide)
  subst this
  have e : min q INF = q := Nat.min_eq_left hr
  rw [e] at h1; exact h1

theorem sumNeg_val {s t : Bool} {x : Int} {r : Nat} (hr : r ≤ INF) (he : x.natAbs = val r) : sv (wd (sumNeg s t x) r) = x := by
  rw [sv_of hr, ← he]
  unfold sumNeg
  by_cases h : x = 0
  · subst h; cases (s && t) <;> rfl
  · rw [if_neg h]; exact sg_add_natAbs x

theorem val_two_pow (j : Nat) : val ((1023 + j) * 4503599627370496) = 2 ^ j * S := by
  have h := val_em (1022 + j) 4503599627370496 (.inl (Nat.le_refl _)) (by decide)
  have e : (1022 + j) * 4503599627370496 + 4503599627370496 = (1023 + j) * 4503599627370496 := by omega
  rw [e] at h
  have hq := Q_eq
  have e2 : (4503599627370496 : Nat) = 2 ^ 52 := by decide
  rw [h, S_eq]
  have e3 : (4503599627370496 : Nat) * 2 ^ (1022 + j) = 2 ^ (52 + (1022 + j)) := by rw [Nat.pow_add 2 52, ← e2]
  rw [e3, ← Nat.pow_add]
  congr 1; omega
theorem val_one : val 4607182418800017408 = S := by have := val_two_pow 0; simpa using this
theorem val_two : val 4611686018427387904 = 2 * S := by have := val_two_pow 1; simpa using this
theorem val_63 : val 4890909195324358656 = 9223372036854775808 * S := by have := val_two_pow 63; simpa using this
theorem val_64 : val 4895412794951729152 = 18446744073709551616 * S := by have := val_two_pow 64; simpa using this
theorem val_128 : val (1151 * 4503599627370496) = 340282366920938463463374607431768211456 * S := by have := val_two_pow 128; simpa using this

theorem cut_zero (neg : Bool) (n drop : Nat) : Ieee.Toward.zero.cut neg n drop = n / 2 ^ drop := by
  unfold Ieee.Toward.cut
  dsimp only
  rw [Nat.one_shiftLeft]
  by_cases hd : drop ≤ n.log2 + 2
  · rw [Nat.min_eq_left hd]; rfl
  · rw [Nat.min_eq_right (by omega)]
    have h1 : n < 2 ^ (n.log2 + 1) := Nat.lt_log2_self
    have h2 : 2 ^ (n.log2 + 2) = 2 ^ (n.log2 + 1) * 2 := Nat.pow_succ ..
    have h3 : 2 ^ (n.log2 + 2) ≤ 2 ^ drop := Nat.pow_le_pow_right (by omega) (by omega)
    rw [Nat.div_eq_of_lt (by omega), Nat.div_eq_of_lt (by omega)]; rfl
theorem cut_down (neg : Bool) (n drop : Nat) : Ieee.Toward.down.cut neg n drop = n / 2 ^ drop + (neg && n % 2 ^ drop != 0).toNat := by
  unfold Ieee.Toward.cut
  dsimp only
  rw [Nat.one_shiftLeft]
  by_cases hd : drop ≤ n.log2 + 2
  · rw [Nat.min_eq_left hd]
  · rw [Nat.min_eq_right (by omega)]
    have h1 : n < 2 ^ (n.log2 + 1) := Nat.lt_log2_self
    have h2 : 2 ^ (n.log2 + 2) = 2 ^ (n.log2 + 1) * 2 := Nat.pow_succ ..
    have h3 : 2 ^ (n.log2 + 2) ≤ 2 ^ drop := Nat.pow_le_pow_right (by omega) (by omega)
    rw [Nat.div_eq_of_lt (by omega), Nat.div_eq_of_lt (by omega), Nat.mod_eq_of_lt (by omega), Nat.mod_eq_of_lt (by omega)]

/-- The whole part of a rung's value, as its digits are moved. -/
theorem whole_part (r : Nat) : (mg r * 2 ^ (-1074 + (pl r : Int)).toNat) / 2 ^ (-(-1074 + (pl r : Int))).toNat = val r / S ∧
    ((mg r * 2 ^ (-1074 + (pl r : Int)).toNat) % 2 ^ (-(-1074 + (pl r : Int))).toNat = 0 ↔ val r % S = 0) := by
  have hq := Q_eq
  by_cases h : Q ≤ pl r
  · have e1 : (-1074 + (pl r : Int)).toNat = pl r - Q := by omega
    have e2 : (-(-1074 + (pl r : Int))).toNat = 0 := by omega
    have e3 : val r = mg r * 2 ^ (pl r - Q) * S := by
      unfold val; rw [S_eq, Nat.mul_assoc, ← Nat.pow_add]; congr 2; omega
    rw [e1, e2, e3, Nat.pow_zero, Nat.div_one, Nat.mul_div_cancel _ S_pos, Nat.mod_one, Nat.mul_mod_left]
    exact ⟨rfl, Iff.rfl⟩
  · have e1 : (-1074 + (pl r : Int)).toNat = 0 := by omega
    have e2 : (-(-1074 + (pl r : Int))).toNat = Q - pl r := by omega
    have e3 : S = 2 ^ (Q - pl r) * 2 ^ pl r := by rw [S_eq, ← Nat.pow_add]; congr 1; omega
    rw [e1, e2, e3, Nat.pow_zero, Nat.mul_one]
    unfold val
    have hp := p2pos (pl r)
    rw [Nat.mul_div_mul_right _ _ hp, Nat.mul_mod_mul_right]
    refine ⟨rfl, fun h => by rw [h, Nat.zero_mul], fun h => ?_⟩
    rcases Nat.mul_eq_zero.1 h with h | h
    · exact h
    · omega

theorem toInt_zero {b : Nat} (h : Fin64 b) : (Ieee.double.read b).toInt .zero = some (sg (ng b) (val (rg b) / S)) := by
  rw [read_fin h]
  unfold Ieee.Datum.toInt Ieee.Datum.integral
  dsimp only
  rw [signed_eq, cut_zero, Nat.shiftLeft_eq, (whole_part (rg b)).1, Nat.pow_zero, Nat.mul_one]

/-- A whole number of so few digits, or a float's whole part, is a float. -/
theorem whole_rep (r : Nat) : ∀ c, c = val r / S ∨ c = val r / S + 1 ∧ val r % S ≠ 0 → ∃ q, val q = c * S := by
  have hq := Q_eq
  intro c hc
  by_cases h : Q ≤ pl r
  · have e3 : val r = mg r * 2 ^ (pl r - Q) * S := by
      unfold val; rw [S_eq, Nat.mul_assoc, ← Nat.pow_add]; congr 2; omega
    rcases hc with hc | ⟨_, hc⟩
    · refine ⟨r, ?_⟩
      rw [hc, e3, Nat.mul_div_cancel _ S_pos]
    · exfalso; rw [e3, Nat.mul_mod_left] at hc; exact hc rfl
  · have e3 : S = 2 ^ (Q - pl r) * 2 ^ pl r := by rw [S_eq, ← Nat.pow_add]; congr 1; omega
    have hle : val r / S ≤ mg r / 2 := by
      unfold val
      rw [e3, Nat.mul_div_mul_right _ _ (p2pos _)]
      have : Q - pl r = (Q - pl r - 1) + 1 := by omega
      rw [this, Nat.pow_succ]
      exact Nat.div_le_div_left (by have := p2pos (Q - pl r - 1); omega) (by decide)
    have hm := mg_lt r
    obtain ⟨q, hq⟩ := rep Q c (by omega)
    exact ⟨q, by rw [hq, S_eq]⟩

theorem sg_floor (s : Bool) (v : Nat) : sg s (v / S + (s && v % S != 0).toNat) = sg s v / (S : Int) := by
  have hS := S_pos
  cases s
  · show ((v / S + 0 : Nat) : Int) = (v : Int) / (S : Int)
    rw [Nat.add_zero]; exact Int.natCast_ediv ..
  · show -((v / S + (v % S != 0).toNat : Nat) : Int) = (-(v : Int)) / (S : Int)
    have hdm := Nat.div_add_mod v S
    have hlt := Nat.mod_lt v hS
    by_cases h : v % S = 0
    · have e : (v % S != 0).toNat = 0 := by simp [h]
      rw [e]
      have : -(v : Int) = -((v / S : Nat) : Int) * (S : Int) := by
        have h9 : (v : Int) = (S : Int) * ((v / S : Nat) : Int) + ((v % S : Nat) : Int) := by exact_mod_cast hdm.symm
        rw [h9, h, Int.neg_mul, Int.mul_comm]; simp
      rw [this, Int.mul_ediv_cancel _ (by omega)]; simp
    · have e : (v % S != 0).toNat = 1 := by simp [h]
      rw [e]
      have h9 : (v : Int) = (S : Int) * ((v / S : Nat) : Int) + ((v % S : Nat) : Int) := by exact_mod_cast hdm.symm
      have h8 : -(v : Int) = ((S - v % S : Nat) : Int) + (S : Int) * (-((v / S + 1 : Nat) : Int)) := by
        rw [Int.natCast_sub (Nat.le_of_lt hlt), h9, Int.mul_neg, Int.natCast_add, Int.mul_add]; simp; omega
      rw [h8, Int.add_mul_ediv_left _ _ (by omega), Int.ediv_eq_zero_of_lt (by omega) (by omega)]
      simp

/-- Rounded down. -/
theorem floor_fin {b : Nat} (h : Fin64 b) : ∃ q, Ieee.double.write ((Ieee.double.read b).integral .down) = wd (ng b) (min q INF) ∧ sg (ng b) (val q) = sv b / (S : Int) * (S : Int) := by
  rw [read_fin h]
  unfold Ieee.Datum.integral
  dsimp only
  rw [cut_down, Nat.shiftLeft_eq, (whole_part (rg b)).1]
  have hw := (whole_part (rg b)).2
  have e : (ng b && mg (rg b) * 2 ^ (-1074 + (pl (rg b) : Int)).toNat % 2 ^ (-(-1074 + (pl (rg b) : Int))).toNat != 0) = (ng b && val (rg b) % S != 0) := by
    congr 1
    by_cases h0 : val (rg b) % S = 0
    · rw [h0, hw.2 h0]
    · rw [bne_iff_ne.2 h0, bne_iff_ne.2 (fun h => h0 (hw.1 h))]
  rw [e]
  obtain ⟨c, hc⟩ : ∃ c, c = val (rg b) / S + (ng b && val (rg b) % S != 0).toNat := ⟨_, rfl⟩
  rw [← hc]
  have hcc : c = val (rg b) / S ∨ c = val (rg b) / S + 1 ∧ val (rg b) % S ≠ 0 := by
    by_cases h0 : val (rg b) % S = 0
    · left; rw [hc, h0]; simp
    · cases hn : ng b
      · left; rw [hc, hn]; simp
      · right; rw [hc, hn]; simp [h0]
  obtain ⟨q, hq⟩ := whole_rep (rg b) c hcc
  refine ⟨q, ?_, ?_⟩
  · obtain ⟨q', h1, h2⟩ := nearest_near (ng b) c 0
    have e1 : ((0 : Int) + 1074).toNat = Q := by have := Q_eq; omega
    have e2 : ((-1074 : Int) - 0).toNat = 0 := by omega
    rw [e1, e2, ← S_eq, ← hq, Nat.pow_zero, ← Nat.mul_one (val q)] at h2
    have := near_self h2 (by decide)
    subst this
    exact h1
  · rw [hq, sg_mul, hc, sg_floor]; rfl
end Go.Proofs.Ytcnhgblpeonmgaa
