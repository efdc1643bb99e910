/-
  Plain: what the reference's Cmp keeps behind the point: a float below one, doubled, and a rest.
-/
import Derived.Test.YtcnhgblpeonmgaaRtCmp
import Derived.Test.YtcnhgblpeonmgaaRtTwo
namespace Go.Proofs.Ytcnhgblpeonmgaa
set_option linter.unusedVariables false
set_option linter.unusedSimpArgs false

theorem dbl_rep (r : Nat) : ∃ q, val q = 2 * val r := by
  by_cases h : 4503599627370496 ≤ r
  · exact ⟨_, val_dbl h⟩
  · refine ⟨2 * r, ?_⟩
    have v1 := val_em 0 r (.inr rfl) (by omega)
    have v2 := val_em 0 (2 * r) (.inr rfl) (by omega)
    rw [Nat.zero_mul, Nat.zero_add, Nat.pow_zero, Nat.mul_one] at v1 v2
    rw [v1, v2]
theorem rest_rep (r : Nat) : ∃ q, val q = val r % S := by
  have hq := Q_eq
  by_cases h : Q ≤ pl r
  · have e3 : val r = mg r * 2 ^ (pl r - Q) * S := by
      unfold val; rw [S_eq, Nat.mul_assoc, ← Nat.pow_add]; congr 2; omega
    exact ⟨0, by rw [e3, Nat.mul_mod_left]; exact val_zero⟩
  · have e3 : S = 2 ^ (Q - pl r) * 2 ^ pl r := by rw [S_eq, ← Nat.pow_add]; congr 1; omega
    have e4 : val r % S = mg r % 2 ^ (Q - pl r) * 2 ^ pl r := by
      unfold val; rw [e3, Nat.mul_mod_mul_right]
    rw [e4]
    exact rep (pl r) _ (by have := mg_lt r; have := Nat.mod_le (mg r) (2 ^ (Q - pl r)); omega)
theorem less_rep (r : Nat) (h1 : S ≤ val r) (h2 : val r < 2 * S) : ∃ q, val q = val r - S := by
  have hq := Q_eq
  rw [← val_one] at h1
  rw [← val_two] at h2
  have a1 : 4607182418800017408 ≤ r := by
    rcases Nat.lt_or_ge r 4607182418800017408 with h | h
    · have := val_lt h; omega
    · exact h
  have a2 : r < 4611686018427387904 := val_lt_iff.1 h2
  have hp : pl r + 52 = Q := by unfold pl; omega
  have hS : S = 4503599627370496 * 2 ^ pl r := by
    have e : (4503599627370496 : Nat) = 2 ^ 52 := by decide
    rw [S_eq, e, ← Nat.pow_add]; congr 1; omega
  have e : val r - S = (mg r - 4503599627370496) * 2 ^ pl r := by
    unfold val; rw [hS, ← Nat.sub_mul]
  rw [e]
  exact rep (pl r) _ (by have := mg_lt r; omega)

/-- A float from nought to below one (or minus nought), and its number. -/
structure TW (tw T : Nat) : Prop where
  fin : Fin64 tw
  sv : sv tw = (T : Int)
  lt : T < S
theorem TW.vl {tw T : Nat} (h : TW tw T) : val (rg tw) = T := by
  have := congrArg Int.natAbs h.sv
  rw [sv_eq, sg_natAbs] at this; simpa using this

theorem svn_zero : sv 0 = 0 := by rw [sv_eq]; decide
theorem svn_one : sv 4607182418800017408 = (S : Int) := by
  have h := sv_of (s := false) (r := 4607182418800017408) (by decide)
  rw [val_one] at h; exact h
theorem fin_one : Fin64 4607182418800017408 := fin_of (s := false) (by decide)
theorem fin_two : Fin64 4611686018427387904 := fin_of (s := false) (by decide)

/-- Twice it. -/
theorem TW.dbl {tw T : Nat} (h : TW tw T) : ∃ u, Ieee.double.mul 4611686018427387904 tw = some u ∧ Fin64 u ∧ Go.Proofs.Ytcnhgblpeonmgaa.sv u = ((2 * T : Nat) : Int) := by
  obtain ⟨q, hq⟩ := dbl_rep (rg tw)
  have hv := h.vl
  have hl := INF_lit
  have hq2 : q < 4611686018427387904 := by
    rw [← val_lt_iff, val_two, hq, hv]; have := h.lt; omega
  have r2 : rg 4611686018427387904 = 4611686018427387904 := rg_wd false (by decide)
  have n2 : ng 4611686018427387904 = false := ng_wd false (by decide)
  have m := mul_exact (r := q) fin_two h.fin (by omega) (by rw [r2, val_two, hq]; ac_rfl)
  refine ⟨_, m, fin_of (by omega), ?_⟩
  rw [sv_of (by omega), n2, hq]
  have h1 := h.sv
  rw [sv_eq] at h1
  have : sg (false ^^ ng tw) (2 * val (rg tw)) = sg (ng tw) (val (rg tw)) * ((2 : Nat) : Int) := by
    rw [Bool.false_xor, Nat.mul_comm, sg_mul]
  rw [this, h1]; omega
theorem TW.one' {u o T : Nat} (ho : Fin64 o) (hso : Go.Proofs.Ytcnhgblpeonmgaa.sv o = (S : Int)) (hf : Fin64 u) (hs : Go.Proofs.Ytcnhgblpeonmgaa.sv u = ((2 * T : Nat) : Int)) (h1 : S ≤ 2 * T) (h2 : T < S) : ∃ t, Ieee.double.sub u o = some t ∧ TW t (2 * T - S) := by
  have hv : val (rg u) = 2 * T := by
    have := congrArg Int.natAbs hs
    rw [sv_eq, sg_natAbs] at this; omega
  obtain ⟨q, hq⟩ := less_rep (rg u) (by omega) (by omega)
  have hl := INF_lit
  have hq2 : q < 4607182418800017408 := by
    rw [← val_lt_iff, val_one, hq, hv]; omega
  have hx : Go.Proofs.Ytcnhgblpeonmgaa.sv u - Go.Proofs.Ytcnhgblpeonmgaa.sv o = ((2 * T - S : Nat) : Int) := by rw [hs, hso]; omega
  have hxa : (Go.Proofs.Ytcnhgblpeonmgaa.sv u - Go.Proofs.Ytcnhgblpeonmgaa.sv o).natAbs = val q := by rw [hx, hq, hv, Int.natAbs_natCast]
  have hq3 : q ≤ INF := by omega
  have m := sub_exact (r := q) hf ho hq3 hxa
  refine ⟨_, m, fin_of (by omega), ?_, by omega⟩
  rw [sumNeg_val hq3 hxa, hx]
theorem TW.one {u T : Nat} (hf : Fin64 u) (hs : Go.Proofs.Ytcnhgblpeonmgaa.sv u = ((2 * T : Nat) : Int)) (h1 : S ≤ 2 * T) (h2 : T < S) : ∃ t, Ieee.double.sub u 4607182418800017408 = some t ∧ TW t (2 * T - S) :=
  TW.one' fin_one svn_one hf hs h1 h2
/-- What is behind the point. -/
theorem TW.first {f n : Nat} (hf : Fin64 f) (h0 : 0 ≤ Go.Proofs.Ytcnhgblpeonmgaa.sv f) (h1 : Go.Proofs.Ytcnhgblpeonmgaa.sv f < 18446744073709551616 * (S : Int)) (hn : n = val (rg f) / S) :
    n < 18446744073709551616 ∧ Go.Proofs.Ytcnhgblpeonmgaa.sv f = ((n * S + val (rg f) % S : Nat) : Int) ∧ ∃ t, (∃ g, floatOfInt .f64 (n : Int) = g ∧ Ieee.double.sub f g = some t) ∧ TW t (val (rg f) % S) := by
  have hS := S_pos
  have hl := INF_lit
  have hv : Go.Proofs.Ytcnhgblpeonmgaa.sv f = (val (rg f) : Int) := by
    have h2 := sv_eq f
    cases hng : ng f
    · rw [hng] at h2; exact h2
    · rw [hng] at h2; simp [sg] at h2; omega
  have hlt : val (rg f) < 18446744073709551616 * S := by
    have : ((18446744073709551616 * S : Nat) : Int) = 18446744073709551616 * (S : Int) := by rw [Int.natCast_mul]; rfl
    omega
  have hdm := Nat.div_add_mod (val (rg f)) S
  rw [← hn, Nat.mul_comm] at hdm
  have hn2 : n < 18446744073709551616 := by rw [hn, Nat.div_lt_iff_lt_mul hS]; exact hlt
  obtain ⟨g, hg⟩ := whole_rep (rg f) n (.inl hn)
  have hg2 : g < 4895412794951729152 := by
    rw [← val_lt_iff, val_64, hg]; exact Nat.mul_lt_mul_of_pos_right hn2 hS
  have hfo := ofInt_exact n g (by omega) hg
  obtain ⟨q, hq⟩ := rest_rep (rg f)
  have hq2 : q < 4607182418800017408 := by
    rw [← val_lt_iff, val_one, hq]; exact Nat.mod_lt _ hS
  have hsg : Go.Proofs.Ytcnhgblpeonmgaa.sv g = ((n * S : Nat) : Int) := by
    have h := sv_of (s := false) (r := g) (by omega)
    rw [hg] at h; exact h
  have hx : Go.Proofs.Ytcnhgblpeonmgaa.sv f - Go.Proofs.Ytcnhgblpeonmgaa.sv g = ((val (rg f) % S : Nat) : Int) := by rw [hv, hsg]; omega
  have m := sub_exact (r := q) hf (fin_of (s := false) (r := g) (by omega)) (by omega) (by rw [show wd false g = g from rfl, hx, hq, Int.natAbs_natCast])
  refine ⟨hn2, by rw [hv, hdm], _, ⟨g, hfo, m⟩, fin_of (by omega), ?_, Nat.mod_lt _ hS⟩
  rw [sumNeg_val (by omega) (by rw [show wd false g = g from rfl, hx, hq, Int.natAbs_natCast])]
  exact hx

/-- What the loop keeps: the order is that of what is left. -/
structure RC (den : Nat) (c : Int) (tw T r : Nat) : Prop where
  hw : TW tw T
  hr : r < den
  hc : cmpZ ((T : Int) * (den : Int)) ((r : Int) * (S : Int)) = c
def valOf : Value → Nat | .float _ b => val (rg b) | _ => 0
def muT (T : Nat) : Nat := S / Nat.gcd T S

theorem mu_step {T T' : Nat} (h0 : 0 < T) (h : T < S) (h' : T' = 2 * T ∨ T' = 2 * T - S) : muT T' < muT T := by
  have hS := S_pos
  obtain ⟨d, hd⟩ : ∃ d, d = Nat.gcd T S := ⟨_, rfl⟩
  have hdT : d ∣ T := by rw [hd]; exact Nat.gcd_dvd_left ..
  obtain ⟨e, he⟩ : d ∣ S := by rw [hd]; exact Nat.gcd_dvd_right ..
  have hd0 : 0 < d := by rw [hd]; exact Nat.gcd_pos_of_pos_right _ hS
  have hee : e % 2 = 0 := by
    apply Classical.byContradiction; intro ho
    have hc : Nat.Coprime e (2 ^ Q) := by
      apply Nat.Coprime.pow_right
      rw [Nat.coprime_comm]
      rw [Nat.coprime_iff_gcd_eq_one]
      have : Nat.gcd 2 e = Nat.gcd (e % 2) 2 := Nat.gcd_rec 2 e
      rw [this, show e % 2 = 1 by omega]; decide
    have h1 : e ∣ 2 ^ Q := ⟨d, by rw [← S_eq, he, Nat.mul_comm]⟩
    have h2 : e = 1 := Nat.Coprime.eq_one_of_dvd hc h1
    rw [h2, Nat.mul_one] at he
    rw [he] at h
    have := Nat.le_of_dvd h0 hdT
    omega
  obtain ⟨k, hk⟩ : ∃ k, e = 2 * k := ⟨e / 2, by omega⟩
  have hk0 : 0 < k := by
    rcases Nat.eq_zero_or_pos k with h3 | h3
    · rw [h3] at hk; rw [hk] at he; omega
    · exact h3
  have hS2 : S = 2 * d * k := by rw [he, hk]; ac_rfl
  have h2T : 2 * d ∣ 2 * T := Nat.mul_dvd_mul_left 2 hdT
  have h2S : 2 * d ∣ S := ⟨k, hS2⟩
  have hT' : 2 * d ∣ T' := by
    rcases h' with rfl | rfl
    · exact h2T
    · exact Nat.dvd_sub h2T h2S
  have hg : 2 * d ∣ Nat.gcd T' S := Nat.dvd_gcd hT' h2S
  have hgp : 0 < Nat.gcd T' S := Nat.gcd_pos_of_pos_right _ hS
  have hge : 2 * d ≤ Nat.gcd T' S := Nat.le_of_dvd hgp hg
  have m1 : muT T = 2 * k := by
    unfold muT; rw [← hd, he, Nat.mul_div_cancel_left _ hd0, hk]
  have m2 : muT T' ≤ k := by
    unfold muT
    have : S / Nat.gcd T' S ≤ S / (2 * d) := Nat.div_le_div_left hge (by omega)
    rw [hS2, Nat.mul_div_cancel_left _ (by omega), ← hS2] at this
    exact this
  omega

theorem RC.mu {den : Nat} {T T' r r' : Nat} (h0 : 0 < T ∨ 0 < r) (h : T < S) (hT : T' = 2 * T ∨ T' = 2 * T - S) (hr' : r' < 18446744073709551616) (hr : r < 18446744073709551616) (hz : T = 0 → T' = 0 ∧ r' = 2 * r) :
    muT T' * 36893488147419103232 + (18446744073709551616 - r') < muT T * 36893488147419103232 + (18446744073709551616 - r) := by
  rcases Nat.eq_zero_or_pos T with h1 | h1
  · obtain ⟨e1, e2⟩ := hz h1
    subst h1; subst e1
    omega
  · have := mu_step h1 h hT
    omega

theorem RC.next {den : Nat} {c : Int} {tw T r tw' T' r' : Nat} (h : RC den c tw T r) (hb : (S ≤ 2 * T ∧ den ≤ 2 * r ∧ T' = 2 * T - S ∧ r' = 2 * r - den) ∨ (¬ S ≤ 2 * T ∧ ¬ den ≤ 2 * r ∧ T' = 2 * T ∧ r' = 2 * r)) (ht : TW tw' T') : RC den c tw' T' r' := by
  have hr := h.hr
  have hc := h.hc
  refine ⟨ht, by omega, ?_⟩
  rw [← hc]
  rcases hb with ⟨a, b, e1, e2⟩ | ⟨a, b, e1, e2⟩
  · have c1 : (T' : Int) = 2 * (T : Int) - (S : Int) := by omega
    have c2 : (r' : Int) = 2 * (r : Int) - (den : Int) := by omega
    rw [c1, c2, ← cmpZ_mul ((T : Int) * den) _ 2 (by decide)]
    have x1 : (2 * (T : Int) - (S : Int)) * (den : Int) = (T : Int) * den * 2 - (S : Int) * den := by rw [Int.sub_mul, Int.mul_comm 2 (T : Int), Int.mul_right_comm]
    have x2 : (2 * (r : Int) - (den : Int)) * (S : Int) = (r : Int) * S * 2 - (S : Int) * den := by rw [Int.sub_mul, Int.mul_comm 2 (r : Int), Int.mul_right_comm, Int.mul_comm (den : Int)]
    rw [x1, x2]
    generalize (T : Int) * den * 2 = X
    generalize (r : Int) * S * 2 = Y
    generalize (S : Int) * den = Z
    unfold cmpZ
    split <;> split <;> (try split) <;> (try split) <;> omega
  · have c1 : (T' : Int) = (T : Int) * 2 := by omega
    have c2 : (r' : Int) = (r : Int) * 2 := by omega
    rw [c1, c2, ← cmpZ_mul ((T : Int) * den) _ 2 (by decide), Int.mul_right_comm, Int.mul_right_comm (r : Int)]
theorem RC.over {den : Nat} {c : Int} {tw T r : Nat} (h : RC den c tw T r) (a : S ≤ 2 * T) (b : ¬ den ≤ 2 * r) : c = 1 := by
  have hr := h.hr
  rw [← h.hc]
  refine cmpZ_gt ?_
  have x1 : (S : Int) * (den : Int) ≤ 2 * (T : Int) * (den : Int) := Int.mul_le_mul_of_nonneg_right (by omega) (by omega)
  have x2 : 2 * (r : Int) * (S : Int) < (den : Int) * (S : Int) := Int.mul_lt_mul_of_pos_right (by omega) (by have := S_pos; omega)
  rw [Int.mul_assoc] at x1 x2
  rw [Int.mul_comm (den : Int)] at x2
  omega
theorem RC.under {den : Nat} {c : Int} {tw T r : Nat} (h : RC den c tw T r) (a : ¬ S ≤ 2 * T) (b : den ≤ 2 * r) : c = -1 := by
  have hr := h.hr
  rw [← h.hc]
  refine cmpZ_lt ?_
  have x1 : 2 * (T : Int) * (den : Int) < (S : Int) * (den : Int) := Int.mul_lt_mul_of_pos_right (by omega) (by omega)
  have x2 : (den : Int) * (S : Int) ≤ 2 * (r : Int) * (S : Int) := Int.mul_le_mul_of_nonneg_right (by omega) (by omega)
  rw [Int.mul_assoc] at x1 x2
  rw [Int.mul_comm (den : Int)] at x2
  omega
theorem RC.even {den : Nat} {c : Int} {tw T r : Nat} (h : RC den c tw T r) (a : T = 0) (b : r = 0) : c = 0 := by
  rw [← h.hc, a, b]
  exact cmpZ_eq (by simp)

/-- Beginning: the whole parts are alike. -/
theorem RC.start {f num den n tw : Nat} (hd : 0 < den) (hs : sv f = ((n * S + val (rg f) % S : Nat) : Int)) (ht : TW tw (val (rg f) % S)) (hq : n = num / den) : RC den (cmpF f num den) tw (val (rg f) % S) (num % den) := by
  refine ⟨ht, Nat.mod_lt _ hd, ?_⟩
  generalize val (rg f) % S = T at *
  have hdm := Nat.div_add_mod num den
  rw [← hq] at hdm
  generalize num % den = r at *
  unfold cmpF
  rw [hs]
  have e1 : ((n * S + T : Nat) : Int) * (den : Int) = (T : Int) * den + (n : Int) * S * den := by
    rw [Int.natCast_add, Int.natCast_mul, Int.add_mul]; omega
  have e2 : (num : Int) * (S : Int) = (r : Int) * S + (n : Int) * S * den := by
    have : (num : Int) = (den : Int) * n + r := by exact_mod_cast hdm.symm
    rw [this, Int.add_mul, Int.mul_comm (den : Int) n, Int.mul_right_comm]; omega
  rw [e1, e2]
  generalize (T : Int) * den = X
  generalize (r : Int) * S = Y
  generalize (n : Int) * S * den = Z
  unfold cmpZ
  split <;> split <;> (try split) <;> (try split) <;> omega
/-- The whole parts tell it. -/
theorem cmpF_lt {f num den n : Nat} (hd : 0 < den) (hs : sv f = ((n * S + val (rg f) % S : Nat) : Int)) (h : n < num / den) : cmpF f num den = -1 := by
  have hT := Nat.mod_lt (val (rg f)) S_pos
  generalize val (rg f) % S = T at *
  refine cmpZ_lt ?_
  rw [hs]
  have h1 : (n + 1) * den ≤ num := by
    have := Nat.div_mul_le_self num den
    have h2 : (n + 1) * den ≤ num / den * den := Nat.mul_le_mul_right _ h
    omega
  have h2 : (n * S + T) * den < (n + 1) * S * den := Nat.mul_lt_mul_of_pos_right (by rw [Nat.add_mul]; omega) hd
  have h3 : (n + 1) * den * S ≤ num * S := Nat.mul_le_mul_right _ h1
  rw [Nat.mul_right_comm] at h3
  have : (n * S + T) * den < num * S := by omega
  exact_mod_cast this
theorem cmpF_gt {f num den n : Nat} (hd : 0 < den) (hs : sv f = ((n * S + val (rg f) % S : Nat) : Int)) (h : num / den < n) : cmpF f num den = 1 := by
  generalize val (rg f) % S = T at *
  refine cmpZ_gt ?_
  rw [hs]
  have h1 : num < n * den := by rw [Nat.div_lt_iff_lt_mul hd] at h; exact h
  have h3 : num * S < n * den * S := Nat.mul_lt_mul_of_pos_right h1 S_pos
  rw [Nat.mul_right_comm] at h3
  have h4 : n * S * den ≤ (n * S + T) * den := Nat.mul_le_mul_right _ (by omega)
  have : num * S < (n * S + T) * den := by omega
  exact_mod_cast this
end Go.Proofs.Ytcnhgblpeonmgaa
