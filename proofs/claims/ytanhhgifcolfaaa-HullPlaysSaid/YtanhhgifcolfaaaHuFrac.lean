/-
  Plain: fractions in lowest terms ({1, 0}: without a bound), their order, the least and the greatest of some.
-/
namespace Go.Proofs.Ytanhhgifcolfaaa
set_option linter.unusedVariables false
set_option linter.unusedSimpArgs false

/-- A fraction: numerator, denominator. -/
abbrev Fr := Int × Int
/-- Below. -/
def ltF (a b : Fr) : Prop := a.1 * b.2 < b.1 * a.2
instance (a b : Fr) : Decidable (ltF a b) := by unfold ltF; exact inferInstance
/-- A fraction that is one: no negative part, not both 0. -/
structure OkF (a : Fr) : Prop where
  num : 0 ≤ a.1
  den : 0 ≤ a.2
  some : 0 < a.1 ∨ 0 < a.2
/-- In lowest terms. -/
structure LowF (a : Fr) : Prop where
  ok : OkF a
  cop : Int.gcd a.1 a.2 = 1
theorem ltF_trans' {a b c : Fr} (ha : OkF a) (hb : OkF b) (hc : OkF c) (h1 : ¬ ltF b a) (h2 : ¬ ltF c b) : ¬ ltF c a := by
  unfold ltF at *
  obtain ⟨an, ad⟩ := a; obtain ⟨bn, bd⟩ := b; obtain ⟨cn, cd⟩ := c
  have := ha.num; have := ha.den; have := hb.num; have := hb.den; have := hc.num; have := hc.den
  have hbs := hb.some
  simp only [] at *
  intro h3
  -- an*bd ≤ bn*ad, bn*cd ≤ cn*bd, cn*ad < an*cd
  rcases Int.lt_or_eq_of_le (show 0 ≤ bd by assumption) with hbd | hbd
  · have k1 : 0 ≤ (bn * ad - an * bd) * cd := Int.mul_nonneg (by omega) (by assumption)
    have k2 : 0 ≤ (cn * bd - bn * cd) * ad := Int.mul_nonneg (by omega) (by assumption)
    have k3 : 0 < (an * cd - cn * ad) * bd := Int.mul_pos (by omega) hbd
    grind
  · subst hbd
    have hbn : 0 < bn := by omega
    simp only [Int.mul_zero] at h1 h2
    have k2 : bn * cd ≤ 0 := by omega
    have hcd : cd = 0 := by
      rcases Int.lt_or_eq_of_le (show 0 ≤ cd by assumption) with h | h
      · have := Int.mul_pos hbn h; omega
      · exact h.symm
    subst hcd
    have k4 : 0 ≤ cn * ad := Int.mul_nonneg (by assumption) (by assumption)
    simp at h3; omega
theorem ltF_irrefl (a : Fr) : ¬ ltF a a := by unfold ltF; omega
theorem ltF_asymm {a b : Fr} (h : ltF a b) : ¬ ltF b a := by unfold ltF at *; omega
/-- Two fractions in lowest terms of which none is below the other are the same. -/
theorem LowF.eq {a b : Fr} (ha : LowF a) (hb : LowF b) (h1 : ¬ ltF a b) (h2 : ¬ ltF b a) : a = b := by
  obtain ⟨an, ad⟩ := a; obtain ⟨bn, bd⟩ := b
  unfold ltF at h1 h2
  simp only [] at h1 h2
  have he : an * bd = bn * ad := by omega
  have hca := ha.cop; have hcb := hb.cop
  have n1 := ha.ok.num; have n2 := ha.ok.den; have n3 := hb.ok.num; have n4 := hb.ok.den
  simp only [] at hca hcb n1 n2 n3 n4
  obtain ⟨an, rfl⟩ := Int.eq_ofNat_of_zero_le n1
  obtain ⟨ad, rfl⟩ := Int.eq_ofNat_of_zero_le n2
  obtain ⟨bn, rfl⟩ := Int.eq_ofNat_of_zero_le n3
  obtain ⟨bd, rfl⟩ := Int.eq_ofNat_of_zero_le n4
  rw [Int.gcd_natCast_natCast] at hca hcb
  have hn : an * bd = bn * ad := by exact_mod_cast he
  have d1 : an ∣ bn := Nat.Coprime.dvd_of_dvd_mul_right (show Nat.Coprime an ad from hca) ⟨bd, hn.symm⟩
  have d2 : bn ∣ an := Nat.Coprime.dvd_of_dvd_mul_right (show Nat.Coprime bn bd from hcb) ⟨ad, hn⟩
  have d3 : ad ∣ bd := Nat.Coprime.dvd_of_dvd_mul_left (show Nat.Coprime ad an from (Nat.gcd_comm ad an).trans hca) ⟨bn, by rw [hn, Nat.mul_comm]⟩
  have d4 : bd ∣ ad := Nat.Coprime.dvd_of_dvd_mul_left (show Nat.Coprime bd bn from (Nat.gcd_comm bd bn).trans hcb) ⟨an, by rw [← hn, Nat.mul_comm]⟩
  have e1 := Nat.dvd_antisymm d1 d2
  have e2 := Nat.dvd_antisymm d3 d4
  rw [e1, e2]

/-- Lowest terms. -/
def lowest (n d : Int) : Fr := (n / (Int.gcd n d : Nat), d / (Int.gcd n d : Nat))
theorem lowest_low {n d : Int} (hn : 0 ≤ n) (hd : 0 < d) : LowF (lowest n d) ∧ (lowest n d).1 * d = n * (lowest n d).2 ∧ 0 < (lowest n d).2 ∧ (lowest n d).1 ≤ n ∧ (lowest n d).2 ≤ d ∧ (0 < n → 0 < (lowest n d).1) := by
  have hg : 0 < Int.gcd n d := Int.gcd_pos_of_ne_zero_right _ (by omega)
  obtain ⟨n', hn'⟩ := Int.gcd_dvd_left n d
  obtain ⟨d', hd'⟩ := Int.gcd_dvd_right n d
  have hg' : (0 : Int) < ((Int.gcd n d : Nat) : Int) := by omega
  have e1 : n / ((Int.gcd n d : Nat) : Int) = n' := by
    conv => lhs; lhs; rw [hn']
    exact Int.mul_ediv_cancel_left _ (by omega)
  have e2 : d / ((Int.gcd n d : Nat) : Int) = d' := by
    conv => lhs; lhs; rw [hd']
    exact Int.mul_ediv_cancel_left _ (by omega)
  have hc := Int.gcd_ediv_gcd_ediv_gcd hg
  unfold lowest
  rw [e1, e2] at *
  generalize ((Int.gcd n d : Nat) : Int) = g at *
  have hd'' : 0 < d' := Int.pos_of_mul_pos_right (by rw [← hd']; exact hd) (by omega)
  have hn'' : 0 ≤ n' := by
    refine Int.not_lt.1 fun h => ?_
    have : g * n' < 0 := Int.mul_neg_of_pos_of_neg hg' h
    omega
  refine ⟨⟨⟨hn'', by simp only []; omega, .inr hd''⟩, hc⟩, by simp only []; grind, hd'', ?_, ?_, fun h => ?_⟩
  · have : 1 * n' ≤ g * n' := Int.mul_le_mul_of_nonneg_right (by omega) hn''
    simp only []; omega
  · have : 1 * d' ≤ g * d' := Int.mul_le_mul_of_nonneg_right (by omega) (by omega)
    simp only []; omega
  · rcases Int.lt_or_eq_of_le hn'' with h0 | h0
    · exact h0
    · rw [← h0, Int.mul_zero] at hn'; omega
/-- The order of two fractions in lowest terms is that of what they came from. -/
theorem lowest_lt {a b c d : Int} (ha : 0 ≤ a) (hb : 0 < b) (hc : 0 ≤ c) (hd : 0 < d) : ltF (lowest a b) (lowest c d) ↔ a * d < c * b := by
  obtain ⟨_, e1, p1, _⟩ := lowest_low ha hb
  obtain ⟨_, e2, p2, _⟩ := lowest_low hc hd
  unfold ltF
  generalize (lowest a b).1 = x at *; generalize (lowest a b).2 = y at *; generalize (lowest c d).1 = u at *; generalize (lowest c d).2 = v at *
  -- x*b = a*y, u*d = c*v
  have q1 := Int.mul_pos p1 p2
  have q2 := Int.mul_pos hb hd
  have e : (a * d - c * b) * (y * v) = (x * v - u * y) * (b * d) := by
    have e3 : (a * d - c * b) * (y * v) = (a * y) * (d * v) - (c * v) * (b * y) := by grind
    rw [e3, ← e1, ← e2]
    grind
  constructor
  · intro h
    refine Int.not_le.1 fun h' => ?_
    have k1 : 0 ≤ (a * d - c * b) * (y * v) := Int.mul_nonneg (by omega) (by omega)
    have k2 : 0 < (u * y - x * v) * (b * d) := Int.mul_pos (by omega) q2
    have k3 : (u * y - x * v) * (b * d) = -((x * v - u * y) * (b * d)) := by grind
    omega
  · intro h
    refine Int.not_le.1 fun h' => ?_
    have k1 : 0 < (c * b - a * d) * (y * v) := Int.mul_pos (by omega) q1
    have k2 : 0 ≤ (x * v - u * y) * (b * d) := Int.mul_nonneg (by omega) (by omega)
    have k3 : (c * b - a * d) * (y * v) = -((a * d - c * b) * (y * v)) := by grind
    omega

/-- The greatest of one and some. -/
structure MaxOf (low0 : Fr) (S : Fr → Prop) (r : Fr) : Prop where
  is : r = low0 ∨ S r
  ge : ¬ ltF r low0
  all : ∀ s, S s → ¬ ltF r s
/-- The least of one and some. -/
structure MinOf (top0 : Fr) (S : Fr → Prop) (r : Fr) : Prop where
  is : r = top0 ∨ S r
  le : ¬ ltF top0 r
  all : ∀ s, S s → ¬ ltF s r
theorem MaxOf.not {low0 r r' : Fr} {S : Fr → Prop} (h : MaxOf low0 S r) (h' : MaxOf low0 S r') : ¬ ltF r r' := by
  rcases h'.is with e | e
  · rw [e]; exact h.ge
  · exact h.all _ e
theorem MaxOf.uniq {low0 r r' : Fr} {S : Fr → Prop} (h0 : LowF low0) (hS : ∀ s, S s → LowF s) (h : MaxOf low0 S r) (h' : MaxOf low0 S r') : r = r' :=
  LowF.eq (h.is.elim (fun e => e ▸ h0) (hS r)) (h'.is.elim (fun e => e ▸ h0) (hS r')) (h.not h') (h'.not h)
theorem MinOf.not {top0 r r' : Fr} {S : Fr → Prop} (h : MinOf top0 S r) (h' : MinOf top0 S r') : ¬ ltF r r' := by
  rcases h.is with e | e
  · rw [e]; exact h'.le
  · exact h'.all _ e
theorem MinOf.uniq {top0 r r' : Fr} {S : Fr → Prop} (h0 : LowF top0) (hS : ∀ s, S s → LowF s) (h : MinOf top0 S r) (h' : MinOf top0 S r') : r = r' :=
  LowF.eq (h.is.elim (fun e => e ▸ h0) (hS r)) (h'.is.elim (fun e => e ▸ h0) (hS r')) (h.not h') (h'.not h)
theorem MaxOf.none {low0 : Fr} : MaxOf low0 (fun _ => False) low0 := ⟨.inl rfl, ltF_irrefl _, fun _ h => h.elim⟩
theorem MinOf.none {top0 : Fr} : MinOf top0 (fun _ => False) top0 := ⟨.inl rfl, ltF_irrefl _, fun _ h => h.elim⟩
/-- One more is looked at. -/
theorem MaxOf.step {low0 r s : Fr} {S : Fr → Prop} (h0 : LowF low0) (hS : ∀ s, S s → LowF s) (hs : LowF s) (h : MaxOf low0 S r) : MaxOf low0 (fun x => S x ∨ x = s) (if ltF r s then s else r) := by
  have hr : LowF r := h.is.elim (fun e => e ▸ h0) (hS r)
  split
  · rename_i hlt
    exact ⟨.inr (.inr rfl), ltF_trans' h0.ok hr.ok hs.ok h.ge (ltF_asymm hlt), fun x hx => hx.elim (fun hx => ltF_trans' (hS x hx).ok hr.ok hs.ok (h.all x hx) (ltF_asymm hlt)) (fun hx => hx ▸ ltF_irrefl _)⟩
  · rename_i hlt
    exact ⟨h.is.imp id .inl, h.ge, fun x hx => hx.elim (h.all x) (fun hx => hx ▸ hlt)⟩
theorem MinOf.step {top0 r s : Fr} {S : Fr → Prop} (h0 : LowF top0) (hS : ∀ s, S s → LowF s) (hs : LowF s) (h : MinOf top0 S r) : MinOf top0 (fun x => S x ∨ x = s) (if ltF s r then s else r) := by
  have hr : LowF r := h.is.elim (fun e => e ▸ h0) (hS r)
  split
  · rename_i hlt
    exact ⟨.inr (.inr rfl), ltF_trans' hs.ok hr.ok h0.ok (ltF_asymm hlt) h.le, fun x hx => hx.elim (fun hx => ltF_trans' hs.ok hr.ok (hS x hx).ok (ltF_asymm hlt) (h.all x hx)) (fun hx => hx ▸ ltF_irrefl _)⟩
  · rename_i hlt
    exact ⟨h.is.imp id .inl, h.le, fun x hx => hx.elim (h.all x) (fun hx => hx ▸ hlt)⟩
/-- One that is a best of all, alone. -/
theorem MaxOf.best {low0 s : Fr} {S : Fr → Prop} (h0 : LowF low0) (hS : ∀ s, S s → LowF s) (hs : S s) (hb : ∀ x, S x → ¬ ltF s x) : MaxOf low0 S (if ltF low0 s then s else low0) := by
  split
  · rename_i hlt; exact ⟨.inr hs, ltF_asymm hlt, hb⟩
  · rename_i hlt; exact ⟨.inl rfl, ltF_irrefl _, fun x hx => ltF_trans' (hS x hx).ok (hS s hs).ok h0.ok (hb x hx) hlt⟩
theorem MinOf.best {top0 s : Fr} {S : Fr → Prop} (h0 : LowF top0) (hS : ∀ s, S s → LowF s) (hs : S s) (hb : ∀ x, S x → ¬ ltF x s) : MinOf top0 S (if ltF s top0 then s else top0) := by
  split
  · rename_i hlt; exact ⟨.inr hs, ltF_asymm hlt, hb⟩
  · rename_i hlt; exact ⟨.inl rfl, ltF_irrefl _, fun x hx => ltF_trans' h0.ok (hS s hs).ok (hS x hx).ok hlt (hb x hx)⟩
end Go.Proofs.Ytanhhgifcolfaaa
