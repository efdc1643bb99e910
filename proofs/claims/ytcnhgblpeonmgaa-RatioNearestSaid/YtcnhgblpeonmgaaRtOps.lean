/-
  Plain: comparisons, products, sums and conversions of 64-bit floats, by their values.
-/
import Derived.Test.YtcnhgblpeonmgaaRtWord
namespace Go.Proofs.Ytcnhgblpeonmgaa
set_option linter.unusedVariables false
set_option linter.unusedSimpArgs false

/-- One, in units of the least place. -/
def Q : Nat := 1074
theorem Q_eq : Q = 1074 := rfl
attribute [irreducible] Q
def S : Nat := 2 ^ Q
theorem S_pos : 0 < S := Nat.two_pow_pos _
theorem S_eq : S = 2 ^ Q := rfl
attribute [irreducible] S

/-- A number with its sign. -/
def sg (neg : Bool) (n : Nat) : Int := if neg then -(n : Int) else n
theorem sv_eq (b : Nat) : sv b = sg (ng b) (val (rg b)) := rfl
theorem sg_natAbs (neg : Bool) (n : Nat) : (sg neg n).natAbs = n := by cases neg <;> simp [sg]
theorem sg_mul (neg : Bool) (n k : Nat) : sg neg (n * k) = sg neg n * (k : Int) := by
  cases neg
  · show ((n * k : Nat) : Int) = (n : Int) * k; simp
  · show -((n * k : Nat) : Int) = -(n : Int) * k; simp [Int.neg_mul]
theorem signed_eq (neg : Bool) (m up : Nat) : Ieee.signed neg m up = sg neg (m * 2 ^ up) := by
  unfold Ieee.signed sg; rw [Nat.shiftLeft_eq]

/-- Two finite words' values, over one base. -/
theorem signed_base (s : Bool) (r k : Nat) (hk : k ≤ pl r) : Ieee.signed s (mg r) ((-1074 + (pl r : Int)) - (-1074 + (k : Int))).toNat * ((2 ^ k : Nat) : Int) = sg s (val r) := by
  have e : ((-1074 + (pl r : Int)) - (-1074 + (k : Int))).toNat = pl r - k := by omega
  rw [e, signed_eq, ← sg_mul, Nat.mul_assoc, ← Nat.pow_add]
  have : pl r - k + k = pl r := by omega
  rw [this]; rfl

theorem compare_mul (x y : Int) (c : Nat) (hc : 0 < c) : compare (x * (c : Int)) (y * (c : Int)) = compare x y := by
  have hc' : (0 : Int) < c := by omega
  rcases Int.lt_trichotomy x y with h | h | h
  · have h2 : x * (c : Int) < y * c := Int.mul_lt_mul_of_pos_right h hc'
    rw [Int.compare_eq_lt.2 h2, Int.compare_eq_lt.2 h]
  · subst h; rw [Int.compare_eq_eq.2 rfl, Int.compare_eq_eq.2 rfl]
  · have h2 : y * (c : Int) < x * c := Int.mul_lt_mul_of_pos_right h hc'
    rw [Int.compare_eq_gt.2 h2, Int.compare_eq_gt.2 h]

theorem min_base (a b : Nat) : min (-1074 + (a : Int)) (-1074 + (b : Int)) = -1074 + ((min a b : Nat) : Int) := by omega

theorem order_fin {a b : Nat} (ha : Fin64 a) (hb : Fin64 b) : Ieee.double.order a b = some (compare (sv a) (sv b)) := by
  unfold Ieee.Format.order
  rw [read_fin ha, read_fin hb]
  unfold Ieee.Datum.order
  dsimp only
  rw [min_base]
  rw [← compare_mul _ _ (2 ^ min (pl (rg a)) (pl (rg b))) (p2pos _), signed_base _ _ _ (Nat.min_le_left ..), signed_base _ _ _ (Nat.min_le_right ..)]
  rfl

theorem sv_fin_lt {a : Nat} (ha : Fin64 a) : -(val INF : Int) < sv a ∧ sv a < val INF := by
  have h1 : val (rg a) < val INF := val_lt ha
  unfold sv; split <;> omega
theorem sv_inf {a : Nat} (ha : rg a = INF) : sv a = if ng a then -(val INF : Int) else val INF := by unfold sv; rw [ha]
theorem vinf_pos : 0 < val INF := val_pos (by decide)

theorem order_num {a b : Nat} (ha : Num64 a) (hb : Num64 b) : Ieee.double.order a b = some (compare (sv a) (sv b)) := by
  have hv := vinf_pos
  rcases Nat.lt_or_eq_of_le ha with ha' | ha' <;> rcases Nat.lt_or_eq_of_le hb with hb' | hb'
  · exact order_fin ha' hb'
  · unfold Ieee.Format.order
    rw [read_fin ha', read_inf hb']
    have h1 := sv_fin_lt ha'
    rw [sv_inf hb']
    unfold Ieee.Datum.order
    cases hng : ng b
    · rw [Int.compare_eq_lt.2 (by simp; omega)]; rfl
    · rw [Int.compare_eq_gt.2 (by simp; omega)]; rfl
  · unfold Ieee.Format.order
    rw [read_inf ha', read_fin hb']
    have h1 := sv_fin_lt hb'
    rw [sv_inf ha']
    unfold Ieee.Datum.order
    cases hng : ng a
    · rw [Int.compare_eq_gt.2 (by simp; omega)]; rfl
    · rw [Int.compare_eq_lt.2 (by simp; omega)]; rfl
  · unfold Ieee.Format.order
    rw [read_inf ha', read_inf hb', sv_inf ha', sv_inf hb']
    unfold Ieee.Datum.order
    cases hna : ng a <;> cases hnb : ng b
    · rw [Int.compare_eq_eq.2 rfl]; rfl
    · rw [Int.compare_eq_gt.2 (by simp; omega)]; rfl
    · rw [Int.compare_eq_lt.2 (by simp; omega)]; rfl
    · rw [Int.compare_eq_eq.2 rfl]; rfl

theorem order_nan {a b : Nat} (h : ¬ Num64 a ∨ ¬ Num64 b) : Ieee.double.order a b = none := by
  unfold Ieee.Format.order
  rcases h with h | h
  · rw [read_nan (by unfold Num64 at h; omega)]; rfl
  · rw [read_nan (b := b) (by unfold Num64 at h; omega)]
    cases Ieee.double.read a <;> rfl

theorem lss_num {a b : Nat} (ha : Num64 a) (hb : Num64 b) : (Ieee.double.order a b == some .lt) = decide (sv a < sv b) := by
  rw [order_num ha hb]
  rcases Int.lt_trichotomy (sv a) (sv b) with h | h | h
  · rw [Int.compare_eq_lt.2 h]; simp [h]
  · rw [Int.compare_eq_eq.2 h]; simp [h]
  · rw [Int.compare_eq_gt.2 h]; simp; omega
theorem gtr_num {a b : Nat} (ha : Num64 a) (hb : Num64 b) : (Ieee.double.order a b == some .gt) = decide (sv b < sv a) := by
  rw [order_num ha hb]
  rcases Int.lt_trichotomy (sv a) (sv b) with h | h | h
  · rw [Int.compare_eq_lt.2 h]; simp; omega
  · rw [Int.compare_eq_eq.2 h]; simp [h]
  · rw [Int.compare_eq_gt.2 h]; simp [h]
theorem eql_num {a b : Nat} (ha : Num64 a) (hb : Num64 b) : (Ieee.double.order a b == some .eq) = decide (sv a = sv b) := by
  rw [order_num ha hb]
  rcases Int.lt_trichotomy (sv a) (sv b) with h | h | h
  · rw [Int.compare_eq_lt.2 h]; simp; omega
  · rw [Int.compare_eq_eq.2 h]; simp [h]
  · rw [Int.compare_eq_gt.2 h]; simp; omega
theorem geq_num {a b : Nat} (ha : Num64 a) (hb : Num64 b) : (Ieee.double.order a b == some .gt || Ieee.double.order a b == some .eq) = decide (sv b ≤ sv a) := by
  rw [gtr_num ha hb, eql_num ha hb]
  by_cases h : sv b ≤ sv a
  · by_cases h2 : sv b < sv a
    · simp [h, h2]
    · have : sv a = sv b := by omega
      simp [this]
  · simp [h]; omega
theorem leq_num {a b : Nat} (ha : Num64 a) (hb : Num64 b) : (Ieee.double.order a b == some .lt || Ieee.double.order a b == some .eq) = decide (sv a ≤ sv b) := by
  rw [lss_num ha hb, eql_num ha hb]
  by_cases h : sv a ≤ sv b
  · by_cases h2 : sv a < sv b
    · simp [h, h2]
    · have : sv a = sv b := by omega
      simp [this]
  · simp [h]; omega

/-- What is written for a number: the nearest. -/
theorem write_near (neg : Bool) (mag : Nat) (place : Int) (N D : Nat) (hD : 0 < D) (he : mag * 2 ^ (place + 1074).toNat * D = N * 2 ^ (-1074 - place).toNat) :
    ∃ r, Ieee.double.write (.number neg mag place) = wd neg (min r INF) ∧ Near N D r := by
  obtain ⟨r, h1, h2⟩ := nearest_near neg mag place
  exact ⟨r, h1, near_congr h2 (p2pos _) hD he⟩

theorem mul_fin {a b : Nat} (ha : Fin64 a) (hb : Fin64 b) : ∃ r, Ieee.double.mul a b = some (wd (ng a ^^ ng b) (min r INF)) ∧ Near (val (rg a) * val (rg b)) S r := by
  unfold Ieee.Format.mul
  rw [read_fin ha, read_fin hb]
  obtain ⟨r, h1, h2⟩ := write_near (ng a ^^ ng b) (mg (rg a) * mg (rg b)) (-1074 + (pl (rg a) : Int) + (-1074 + (pl (rg b) : Int))) (val (rg a) * val (rg b)) S S_pos (by
    obtain ⟨up, hup⟩ : ∃ up : Nat, up = (-1074 + (pl (rg a) : Int) + (-1074 + (pl (rg b) : Int)) + 1074).toNat := ⟨_, rfl⟩
    obtain ⟨dn, hdn⟩ : ∃ dn : Nat, dn = (-1074 - (-1074 + (pl (rg a) : Int) + (-1074 + (pl (rg b) : Int)))).toNat := ⟨_, rfl⟩
    rw [← hup, ← hdn, S_eq]
    unfold val
    have : up + Q = pl (rg a) + pl (rg b) + dn := by have := Q_eq; omega
    have e : 2 ^ up * 2 ^ Q = 2 ^ pl (rg a) * 2 ^ pl (rg b) * 2 ^ dn := by rw [← Nat.pow_add, ← Nat.pow_add, ← Nat.pow_add, this]
    rw [Nat.mul_assoc, e]; ac_rfl
    )
  exact ⟨r, by rw [← h1]; rfl, h2⟩
theorem sg_add_natAbs (x : Int) : sg (decide (x < 0)) x.natAbs = x := by
  unfold sg; by_cases h : x < 0
  · simp [h]; omega
  · simp [h]; omega

/-- The sign that a sum of two has. -/
def sumNeg (s t : Bool) (x : Int) : Bool := if x = 0 then s && t else decide (x < 0)

theorem add_core (s t : Bool) (r u : Nat) : ∃ q, (Ieee.Datum.sum (.number s (mg r) (-1074 + (pl r : Int))) (.number t (mg u) (-1074 + (pl u : Int)))).map Ieee.double.write = some (wd (sumNeg s t (sg s (val r) + sg t (val u))) (min q INF)) ∧ Near (sg s (val r) + sg t (val u)).natAbs 1 q := by
  unfold Ieee.Datum.sum
  dsimp only
  rw [min_base]
  obtain ⟨k, hk⟩ : ∃ k, k = min (pl r) (pl u) := ⟨_, rfl⟩
  rw [← hk]
  have h1 := signed_base s r k (by omega)
  have h2 := signed_base t u k (by omega)
  obtain ⟨x, hx⟩ : ∃ x, x = Ieee.signed s (mg r) ((-1074 + (pl r : Int)) - (-1074 + (k : Int))).toNat := ⟨_, rfl⟩
  obtain ⟨y, hy⟩ : ∃ y, y = Ieee.signed t (mg u) ((-1074 + (pl u : Int)) - (-1074 + (k : Int))).toNat := ⟨_, rfl⟩
  rw [← hx] at h1 ⊢
  rw [← hy] at h2 ⊢
  have hp := p2pos k
  have hsum : sg s (val r) + sg t (val u) = (x + y) * ((2 ^ k : Nat) : Int) := by rw [← h1, ← h2, Int.add_mul]
  have hneg : sumNeg s t (sg s (val r) + sg t (val u)) = if x + y = 0 then s && t else decide (x + y < 0) := by
    rw [hsum]
    unfold sumNeg
    have hp' : (0 : Int) < ((2 ^ k : Nat) : Int) := by omega
    by_cases h0 : x + y = 0
    · simp [h0]
    · have hne : (x + y) * ((2 ^ k : Nat) : Int) ≠ 0 := fun h => (Int.mul_eq_zero.1 h).elim h0 (by omega)
      rw [if_neg hne, if_neg h0]
      by_cases hl : x + y < 0
      · have : (x + y) * ((2 ^ k : Nat) : Int) < 0 := Int.mul_neg_of_neg_of_pos hl hp'
        rw [decide_eq_true this, decide_eq_true hl]
      · have : ¬ (x + y) * ((2 ^ k : Nat) : Int) < 0 := by
          have := Int.mul_nonneg (by omega : 0 ≤ x + y) (by omega : (0 : Int) ≤ ((2 ^ k : Nat) : Int)); omega
        rw [decide_eq_false this, decide_eq_false hl]
  rw [hneg]
  obtain ⟨q, h3, h4⟩ := write_near (if x + y = 0 then s && t else decide (x + y < 0)) (x + y).natAbs (-1074 + (k : Int)) (sg s (val r) + sg t (val u)).natAbs 1 (by decide) (by
    have e1 : (-1074 + (k : Int) + 1074).toNat = k := by omega
    have e2 : (-1074 - (-1074 + (k : Int))).toNat = 0 := by omega
    rw [e1, e2, hsum, Int.natAbs_mul, Int.natAbs_natCast])
  exact ⟨q, by rw [← h3]; rfl, h4⟩

theorem add_fin {a b : Nat} (ha : Fin64 a) (hb : Fin64 b) : ∃ q, Ieee.double.add a b = some (wd (sumNeg (ng a) (ng b) (sv a + sv b)) (min q INF)) ∧ Near (sv a + sv b).natAbs 1 q := by
  unfold Ieee.Format.add
  rw [read_fin ha, read_fin hb]
  exact add_core (ng a) (ng b) (rg a) (rg b)

theorem sg_not (s : Bool) (n : Nat) : sg (!s) n = -sg s n := by cases s <;> simp [sg]

theorem sub_fin {a b : Nat} (ha : Fin64 a) (hb : Fin64 b) : ∃ q, Ieee.double.sub a b = some (wd (sumNeg (ng a) (!ng b) (sv a - sv b)) (min q INF)) ∧ Near (sv a - sv b).natAbs 1 q := by
  unfold Ieee.Format.sub
  rw [read_fin ha, read_fin hb]
  have h := add_core (ng a) (!ng b) (rg a) (rg b)
  rw [sg_not] at h
  exact h

/-- A whole number as a float. -/
theorem nearest_int (n : Int) : ∃ q, Ieee.double.write (.number (n < 0) n.natAbs 0) = wd (decide (n < 0)) (min q INF) ∧ Near (n.natAbs * S) 1 q :=
  write_near _ _ _ _ _ (by decide) (by
    have e1 : ((0 : Int) + 1074).toNat = Q := by have := Q_eq; omega
    have e2 : ((-1074 : Int) - 0).toNat = 0 := by omega
    rw [e1, e2, S_eq])
end Go.Proofs.Ytcnhgblpeonmgaa
