/-
  ratio.Clamp and inclineref02.Clamp come to the same whole number.
-/
import Derived.Test.YtnccgpdniigekaaQG12
import Derived.Test.YtnccgpdniigekaaQG13
import Derived.Test.YtnccgpdniigekaaQG28
import Derived.BigQuiet
import Derived.Deep.CutBlock
namespace Go.Proofs.Ytnccgpdniigekaa
open Go.RowKit
set_option linter.unusedVariables false
set_option linter.unusedSimpArgs false
attribute [local go_sem high] binOp_lss64 binOp_gtr64 binOp_geq64 binOp_leq64 binOp_eql64 binOp_neq64 f64bits frombits

/-- A float, rounded down and brought into bounds. -/
def clampI (b : Nat) (lo hi : Int) : Int :=
  if hi < lo ∨ INF < rg b ∨ sv b < -(9223372036854775808 * (S : Int)) then lo
  else if 9223372036854775808 * (S : Int) ≤ sv b then hi
  else max lo (min hi (sv b / (S : Int)))

theorem sv_m63 : sv 14114281232179134464 = -(9223372036854775808 * (S : Int)) := by
  have h := sv_of (s := true) (r := 4890909195324358656) (by decide)
  have e : wd true 4890909195324358656 = 14114281232179134464 := by decide
  rw [e, val_63] at h
  rw [h]; simp [sg]
theorem sv_63 : sv 4890909195324358656 = 9223372036854775808 * (S : Int) := by
  rw [sv_small (by decide), val_63]; simp
theorem num_m63 : Num64 14114281232179134464 := num_of (s := true) (r := 4890909195324358656) (by decide)
theorem num_63 : Num64 4890909195324358656 := num_small (by decide)
theorem sv_fin_of {b : Nat} (h : Num64 b) (h1 : -(9223372036854775808 * (S : Int)) ≤ sv b) (h2 : sv b < 9223372036854775808 * (S : Int)) : Fin64 b := by
  have hv : val 4890909195324358656 < val INF := val_lt (by decide)
  rw [val_63] at hv
  have hS := S_pos
  rcases Nat.lt_or_eq_of_le h with h' | h'
  · exact h'
  · exfalso
    rw [sv_inf h'] at h1 h2
    have hv' := Int.ofNat_lt.2 hv
    rw [Int.natCast_mul] at hv'
    by_cases hng : ng b = true
    · rw [if_pos hng] at h1; omega
    · rw [if_neg hng] at h2; omega

theorem floatToInt_i64 {b : Nat} {n : Int} (hf : Fin64 b) (hn : sg (ng b) (val (rg b) / S) = n) (h1 : -9223372036854775808 ≤ n) (h2 : n ≤ 9223372036854775807) : floatToIntVal .f64 b .i64 = some n := by
  unfold floatToIntVal
  have e : (FloatKind.f64.decode b).toInt .zero = some n := by rw [← hn]; exact toInt_zero hf
  rw [e]
  show (if IntKind.i64.min ≤ n ∧ n ≤ IntKind.i64.max then some n else none) = some n
  have m1 : IntKind.i64.min = -9223372036854775808 := by decide
  have m2 : IntKind.i64.max = 9223372036854775807 := by decide
  rw [m1, m2, if_pos ⟨h1, h2⟩]

theorem sg_div {s : Bool} {v : Nat} {F : Int} (h : sg s v = F * (S : Int)) : v % S = 0 ∧ sg s (v / S) = F := by
  have hS := S_pos
  have hv : v = F.natAbs * S := by
    have := congrArg Int.natAbs h
    rw [sg_natAbs, Int.natAbs_mul, Int.natAbs_natCast] at this; exact this
  have h1 : v / S * S = v := by rw [hv, Nat.mul_div_cancel _ hS]
  refine ⟨by rw [hv, Nat.mul_mod_left], ?_⟩
  have h2 : sg s (v / S) * (S : Int) = F * (S : Int) := by rw [← sg_mul, h1, h]
  exact Int.eq_of_mul_eq_mul_right (by omega) h2

/-- int(math.Floor(f)). -/
theorem floor_int {b : Nat} (hf : Fin64 b) (h1 : -(9223372036854775808 * (S : Int)) ≤ sv b) (h2 : sv b < 9223372036854775808 * (S : Int)) :
    floatToIntVal .f64 (Ieee.double.write ((Ieee.double.read b).integral .down)) .i64 = some (sv b / (S : Int)) ∧ -9223372036854775808 ≤ sv b / (S : Int) ∧ sv b / (S : Int) ≤ 9223372036854775807 := by
  have hS := S_pos
  have hS' : (0 : Int) < S := by omega
  obtain ⟨q, e1, e2⟩ := floor_fin hf
  have b1 : -9223372036854775808 ≤ sv b / (S : Int) := by rw [Int.le_ediv_iff_mul_le hS']; omega
  have b2 : sv b / (S : Int) < 9223372036854775808 := by rw [Int.ediv_lt_iff_lt_mul hS']; omega
  obtain ⟨F, hF⟩ : ∃ F, F = sv b / (S : Int) := ⟨_, rfl⟩
  rw [← hF] at e2 b1 b2 ⊢
  have hq : q ≤ 4890909195324358656 := by
    have hv : val q = F.natAbs * S := by
      have := congrArg Int.natAbs e2
      rw [sg_natAbs, Int.natAbs_mul, Int.natAbs_natCast] at this; exact this
    have : F.natAbs * S ≤ 9223372036854775808 * S := Nat.mul_le_mul_right _ (by omega)
    rw [← hv, ← val_63] at this
    rcases Nat.lt_or_ge 4890909195324358656 q with h | h
    · have := val_lt h; omega
    · exact h
  have hl := INF_lit
  have e3 : min q INF = q := Nat.min_eq_left (by omega)
  rw [e1, e3]
  refine ⟨?_, b1, by omega⟩
  have r1 : rg (wd (ng b) q) = q := rg_of (by omega)
  have r2 : ng (wd (ng b) q) = ng b := ng_of (by omega)
  exact floatToInt_i64 (fin_of (by omega)) (by rw [r1, r2]; exact (sg_div e2).2) b1 (by omega)

theorem nan_eq (b : Nat) : ¬ fEq b b ↔ INF < rg b := by rw [fEq_self]; omega
theorem fLt_iff {a b : Nat} (ha : Num64 a) (hb : Num64 b) : fLt a b ↔ sv a < sv b := by unfold fLt; exact ⟨fun h => h.2.2, fun h => ⟨ha, hb, h⟩⟩
theorem fLe_iff {a b : Nat} (ha : Num64 a) (hb : Num64 b) : fLe a b ↔ sv a ≤ sv b := by unfold fLe; exact ⟨fun h => h.2.2, fun h => ⟨ha, hb, h⟩⟩
theorem clamp_any (b : Nat) (lo hi : Int) (hlo : -9223372036854775808 ≤ lo ∧ lo ≤ 9223372036854775807) (hhi : -9223372036854775808 ≤ hi ∧ hi ≤ 9223372036854775807) (w : World) :
    Calls Try.prog 74 #[.float .f64 b, .int .i64 lo, .int .i64 hi] w fun e w' => e = .returned (.int .i64 (clampI b lo hi)) ∧ w = w' := by
  have FN := isNaN_any b
  unfold clampI
  by_cases c1 : hi < lo
  · rw [if_pos (.inl c1)]
    go_enter Try.func74, Try.ntmps74
    go_wp2_with (go_at_call 89; refine (FN _).mono ?_; rintro e w' ⟨rfl, rfl⟩)
    simp [bodyPost, results, Try.results74, go_sem]
  by_cases c2 : INF < rg b
  · rw [if_pos (.inr (.inl c2))]
    rw [decide_eq_true c2] at FN
    clear c2
    go_enter Try.func74, Try.ntmps74
    go_wp2_with (go_at_call 89; refine (FN _).mono ?_; rintro e w' ⟨rfl, rfl⟩)
    simp [bodyPost, results, Try.results74, go_sem]
  have hN : Num64 b := by unfold Num64; omega
  have i1 := fLt_iff hN num_m63
  have i2 := fLe_iff num_63 hN
  rw [sv_m63] at i1
  rw [sv_63] at i2
  rw [decide_eq_false c2] at FN
  by_cases c3 : sv b < -(9223372036854775808 * (S : Int))
  · rw [if_pos (.inr (.inr c3))]
    have g := i1.2 c3
    clear i1 i2 c2 c3
    go_enter Try.func74, Try.ntmps74
    go_wp2_with (go_at_call 89; refine (FN _).mono ?_; rintro e w' ⟨rfl, rfl⟩)
    simp [bodyPost, results, Try.results74, go_sem]
  rw [if_neg (by intro h; rcases h with h | h | h; exact c1 h; exact c2 h; exact c3 h)]
  have g1 : ¬ fLt b 14114281232179134464 := fun h => c3 (i1.1 h)
  by_cases c4 : 9223372036854775808 * (S : Int) ≤ sv b
  · rw [if_pos c4]
    have g2 := i2.2 c4
    clear i1 i2 c2 c3 c4
    go_enter Try.func74, Try.ntmps74
    go_wp2_with (go_at_call 89; refine (FN _).mono ?_; rintro e w' ⟨rfl, rfl⟩)
    simp [bodyPost, results, Try.results74, go_sem]
  rw [if_neg c4]
  have g2 : ¬ fLe 4890909195324358656 b := fun h => c4 (i2.1 h)
  have hF := sv_fin_of hN (by omega) (by omega)
  obtain ⟨f1, f2, f3⟩ := floor_int hF (by omega) (by omega)
  have FF := fun W => floor_any hF W
  obtain ⟨F, hFF⟩ : ∃ F, F = sv b / (S : Int) := ⟨_, rfl⟩
  rw [← hFF] at f1 f2 f3 ⊢
  have HFF := Lib.hid hFF
  obtain ⟨r, hr⟩ : ∃ r, r = Ieee.double.write ((Ieee.double.read b).integral .down) := ⟨_, rfl⟩
  rw [← hr] at f1 FF
  have CV := fun W => run_convert_float_int W 31 3 .f64 .i64 r F (by kernel_rfl) (by kernel_rfl) f1 (P := Try.prog)
  clear i1 i2 c2 c3 c4 hFF hr f1 hN hF
  go_enter Try.func74, Try.ntmps74
  go_wp2_with (first | (go_at_call 89; refine (FN _).mono ?_; rintro e w' ⟨rfl, rfl⟩) | (go_at_call 91; refine (FF _).mono ?_; rintro e w' ⟨rfl, rfl⟩))
  simp [bodyPost, results, Try.results74, go_sem]

/-- int(f), and that as a float. -/
theorem trunc_int {b : Nat} (hf : Fin64 b) (h1 : -(9223372036854775808 * (S : Int)) ≤ sv b) (h2 : sv b < 9223372036854775808 * (S : Int)) :
    ∃ (T : Int) (t : Nat), floatToIntVal .f64 b .i64 = some T ∧ -9223372036854775808 ≤ T ∧ T ≤ 9223372036854775807 ∧ floatOfInt .f64 T = t ∧ Num64 t ∧ sv t = T * (S : Int) ∧ (sv b / (S : Int) = if sv b < T * (S : Int) then T - 1 else T) ∧ (sv b < T * (S : Int) → -9223372036854775808 < T) := by
  have hS := S_pos
  have hS' : (0 : Int) < S := by omega
  obtain ⟨v, hv⟩ : ∃ v, v = val (rg b) := ⟨_, rfl⟩
  have hsv : sv b = sg (ng b) v := by rw [hv]; rfl
  have hv1 : v ≤ 9223372036854775808 * S := by
    have := congrArg Int.natAbs hsv
    rw [sg_natAbs] at this
    have h3 : (sv b).natAbs ≤ 9223372036854775808 * S := by
      have : ((9223372036854775808 * S : Nat) : Int) = 9223372036854775808 * (S : Int) := by rw [Int.natCast_mul]; rfl
      omega
    omega
  obtain ⟨c, hc⟩ : ∃ c, c = v / S := ⟨_, rfl⟩
  have hc1 : c ≤ 9223372036854775808 := by
    rw [hc]; exact Nat.div_le_of_le_mul (by rw [Nat.mul_comm]; exact hv1)
  have hdm := Nat.div_add_mod v S
  have hml := Nat.mod_lt v hS
  rw [← hc, Nat.mul_comm] at hdm
  obtain ⟨q, hq⟩ := whole_rep (rg b) c (.inl (by rw [hc, hv]))
  have hqle : q ≤ 4890909195324358656 := by
    have : c * S ≤ 9223372036854775808 * S := Nat.mul_le_mul_right _ hc1
    rw [← hq, ← val_63] at this
    rcases Nat.lt_or_ge 4890909195324358656 q with h | h
    · have := val_lt h; omega
    · exact h
  have hl := INF_lit
  obtain ⟨T, hT⟩ : ∃ T, T = sg (ng b) c := ⟨_, rfl⟩
  have hTS : T * (S : Int) = sg (ng b) (c * S) := by rw [hT, sg_mul]
  have hTa : T.natAbs = c := by rw [hT, sg_natAbs]
  have hfo : floatOfInt .f64 T = wd (decide (T < 0)) q := by
    show Ieee.double.write (.number (decide (T < 0)) T.natAbs 0) = _
    have e1 : ((0 : Int) + 1074).toNat = Q := by have := Q_eq; omega
    have e2 : ((-1074 : Int) - 0).toNat = 0 := by omega
    exact write_exact _ _ 0 q (by omega) (by rw [e1, e2, hq, hTa, S_eq]; simp)
  have hT1 : -9223372036854775808 ≤ T := by omega
  have hcs : ((c * S : Nat) : Int) = (c : Int) * (S : Int) := Int.natCast_mul ..
  have hT2 : T ≤ 9223372036854775807 := by
    rcases Int.lt_or_le T 9223372036854775808 with h | h
    · omega
    · exfalso
      have hcc : c = 9223372036854775808 := by omega
      have hng : ng b = false := by
        cases hn : ng b
        · rfl
        · rw [hn] at hT; simp [sg] at hT; omega
      rw [hng] at hsv
      have : sv b = (v : Int) := by rw [hsv]; rfl
      rw [hcc] at hdm
      omega
  refine ⟨T, _, ?_, hT1, hT2, hfo, num_of (by omega), ?_, ?_, ?_⟩
  · exact floatToInt_i64 hf (by rw [hT, hc, hv]) hT1 hT2
  · have e : sg (decide (T < 0)) (val q) = T * (S : Int) := by
      rw [hq, sg_mul, ← hTa, sg_add_natAbs]
    rw [sv_of (by omega), e]
  · have hfl := sg_floor (ng b) v
    rw [← hc, ← hsv] at hfl
    rw [← hfl, hTS, hsv, hT]
    cases hn : ng b
    · have e1 : (false && v % S != 0).toNat = 0 := rfl
      rw [e1, if_neg (by simp [sg]; omega)]; rfl
    · by_cases h0 : v % S = 0
      · have e1 : (true && v % S != 0).toNat = 0 := by simp [h0]
        rw [e1, if_neg (by simp [sg]; omega)]; rfl
      · have e1 : (true && v % S != 0).toNat = 1 := by simp [h0]
        rw [e1, if_pos (by simp [sg]; omega)]; simp [sg]; omega
  · intro hlt
    rcases Int.lt_or_le (-9223372036854775808) T with h | h
    · exact h
    · exfalso
      have : T = -9223372036854775808 := by omega
      rw [this] at hlt; omega

theorem refClamp_any (b : Nat) (lo hi : Int) (hlo : -9223372036854775808 ≤ lo ∧ lo ≤ 9223372036854775807) (hhi : -9223372036854775808 ≤ hi ∧ hi ≤ 9223372036854775807) (w : World) :
    Calls Try.prog 77 #[.float .f64 b, .int .i64 lo, .int .i64 hi] w fun e w' => e = .returned (.int .i64 (clampI b lo hi)) ∧ w = w' := by
  have z := nan_eq b
  unfold clampI
  by_cases c1 : hi < lo
  · rw [if_pos (.inl c1)]
    clear z
    go_enter Try.func77, Try.ntmps77
    go_wp2
    simp [bodyPost, results, Try.results77, go_sem]
  by_cases c2 : INF < rg b
  · rw [if_pos (.inr (.inl c2))]
    have g0 := z.2 c2
    clear c2 z
    go_enter Try.func77, Try.ntmps77
    go_wp2
    simp [bodyPost, results, Try.results77, go_sem]
  have hN : Num64 b := by unfold Num64; omega
  have i1 := fLt_iff hN num_m63
  have i2 := fLe_iff num_63 hN
  rw [sv_m63] at i1
  rw [sv_63] at i2
  have g0 : fEq b b := Classical.byContradiction fun h => c2 (z.1 h)
  clear z
  by_cases c3 : sv b < -(9223372036854775808 * (S : Int))
  · rw [if_pos (.inr (.inr c3))]
    have g := i1.2 c3
    have g2 : ¬ fLe 4890909195324358656 b := fun h => by have := i2.1 h; have := S_pos; omega
    clear i1 i2 c2 c3
    go_enter Try.func77, Try.ntmps77
    go_wp2
    simp [bodyPost, results, Try.results77, go_sem]
  rw [if_neg (by intro h; rcases h with h | h | h; exact c1 h; exact c2 h; exact c3 h)]
  have g1 : ¬ fLt b 14114281232179134464 := fun h => c3 (i1.1 h)
  by_cases c4 : 9223372036854775808 * (S : Int) ≤ sv b
  · rw [if_pos c4]
    have g2 := i2.2 c4
    clear i1 i2 c2 c3 c4
    go_enter Try.func77, Try.ntmps77
    go_wp2
    simp [bodyPost, results, Try.results77, go_sem]
  rw [if_neg c4]
  have g2 : ¬ fLe 4890909195324358656 b := fun h => c4 (i2.1 h)
  have hF := sv_fin_of hN (by omega) (by omega)
  obtain ⟨T, t, f1, f2, f3, f4, f5, f6, f7, f8⟩ := trunc_int hF (by omega) (by omega)
  have CV := fun W => run_convert_float_int W 31 3 .f64 .i64 b T (by kernel_rfl) (by kernel_rfl) f1 (P := Try.prog)
  have it := fLt_iff hN f5
  rw [f6] at it
  by_cases c5 : sv b < T * (S : Int)
  · have g5 := it.2 c5
    have f9 := f8 c5
    rw [if_pos c5] at f7
    rw [f7]
    have w1 : wrap64 (T - 1) = T - 1 := by unfold wrap64; omega
    clear i1 i2 c2 c3 c4 hN hF f1 it c5 f5 f6 f7 f8
    go_enter Try.func77, Try.ntmps77
    go_wp2
    simp [bodyPost, results, Try.results77, go_sem]
  · have g5 : ¬ fLt b t := fun h => c5 (it.1 h)
    rw [if_neg c5] at f7
    rw [f7]
    clear i1 i2 c2 c3 c4 hN hF f1 it c5 f5 f6 f7 f8
    go_enter Try.func77, Try.ntmps77
    go_wp2
    simp [bodyPost, results, Try.results77, go_sem]
end Go.Proofs.Ytnccgpdniigekaa
/-
  ratio.Lowest and inclineref02.Lowest come to the same fraction.
-/
namespace Go.Proofs.Ytnccgpdniigekaa
open Go.RowKit
set_option linter.unusedVariables false
set_option linter.unusedSimpArgs false

end Go.Proofs.Ytnccgpdniigekaa
/-
  ratio.Cmp comes to the order of a float and a fraction.
-/
namespace Go.Proofs.Ytnccgpdniigekaa
open Go.RowKit
set_option linter.unusedVariables false
set_option linter.unusedSimpArgs false
attribute [local go_sem high] binOp_lss64 binOp_gtr64 binOp_geq64 binOp_leq64 binOp_eql64 binOp_neq64 f64bits frombits

end Go.Proofs.Ytnccgpdniigekaa
/-
  ratio.Cmp walked.
-/
namespace Go.Proofs.Ytnccgpdniigekaa
open Go.RowKit
set_option linter.unusedVariables false
set_option linter.unusedSimpArgs false
attribute [local go_sem high] binOp_lss64 binOp_gtr64 binOp_geq64 binOp_leq64 binOp_eql64 binOp_neq64 f64bits frombits

/-- The parts of a normal float. -/
structure Parts (b e m : Nat) : Prop where
  he : e = b / 4503599627370496
  hm : m = b % 4503599627370496 + 4503599627370496
theorem Parts.val {b e m : Nat} (h : Parts b e m) (hn : Norm64 b) : val b = m * 2 ^ (e - 1) := by
  have h1 := hn.lo
  have hb : b = (e - 1) * 4503599627370496 + m := by have := h.he; have := h.hm; omega
  have := val_em (e - 1) m (.inl (by have := h.hm; omega)) (by have := h.hm; omega)
  rw [← hb] at this; exact this
end Go.Proofs.Ytnccgpdniigekaa
/-
  ratio.Cmp of any float and any fraction.
-/
namespace Go.Proofs.Ytnccgpdniigekaa
open Go.RowKit
set_option linter.unusedVariables false
set_option linter.unusedSimpArgs false
attribute [local go_sem high] binOp_lss64 binOp_gtr64 binOp_geq64 binOp_leq64 binOp_eql64 binOp_neq64 f64bits frombits

theorem val_m65 : val 4314448443020935168 * 36893488147419103232 = S := by
  obtain ⟨k, hk⟩ : ∃ k, k = 957 := ⟨_, rfl⟩
  have e : k * 4503599627370496 + 4503599627370496 = 4314448443020935168 := by omega
  have hkq : 52 + k + 65 = Q := by have := Q_eq; omega
  clear hk
  have h := val_em k 4503599627370496 (.inl (Nat.le_refl _)) (by decide)
  rw [e] at h
  have e3 : (4503599627370496 : Nat) = 2 ^ 52 := by decide
  have e4 : (36893488147419103232 : Nat) = 2 ^ 65 := by decide
  rw [h, S_eq, e4, e3, ← Nat.pow_add, ← Nat.pow_add]
  rw [hkq]
theorem sv_nought : sv 0 = 0 := by rw [sv_small (by decide), val_zero]; rfl
theorem num_nought : Num64 0 := num_small (by decide)
end Go.Proofs.Ytnccgpdniigekaa
/-
  Along, of the program and of the reference; the small thing that stands ahead of each law.
-/
namespace Go.Proofs.Ytnccgpdniigekaa
open Go.RowKit
set_option linter.unusedVariables false
set_option linter.unusedSimpArgs false
attribute [local go_sem high] binOp_lss64 binOp_gtr64 binOp_geq64 binOp_leq64 binOp_eql64 binOp_neq64 f64bits frombits

/-- Base more by slope times distance; nothing where the language fixes no bits. -/
def alongF (s : Nat) (far : Int) (t : Nat) : Option Nat := (Ieee.double.mul s (floatOfInt .f64 far)).bind fun m => Ieee.double.add m t

theorem cut_nan (x y t : Nat) : INF < rg ((Question.nanBits .f64 x y).cut t) ∧ (Question.nanBits .f64 x y).cut t < 18446744073709551616 := by
  have e : (Question.nanBits .f64 x y).cut t = (t % 2) * 9223372036854775808 + 9218868437227405312 + 1 + (t / 2) % 4503599627370495 := rfl
  rw [e]
  have hl := INF_lit
  have h1 : (t / 2) % 4503599627370495 < 4503599627370495 := Nat.mod_lt _ (by decide)
  generalize (t / 2) % 4503599627370495 = u at h1 ⊢
  have h2 : t % 2 < 2 := Nat.mod_lt _ (by decide)
  generalize t % 2 = v at h2 ⊢
  unfold rg
  omega
theorem run_float_nan {P : Program} (w : World) (op : BinOp) (x y : Nat) (hop : op = .mul ∨ op = .add ∨ op = .sub) (h : floatBits op .f64 x y = none) :
    ∃ r, INF < rg r ∧ r < 18446744073709551616 ∧ ∀ t, (binOp op t (.float .f64 x) (.float .f64 y)).run P w = .ok (.float .f64 r) w.drew := by
  refine ⟨(Question.nanBits .f64 x y).cut (w.tape w.drawn (.nanBits .f64 x y)), (cut_nan x y _).1, (cut_nan x y _).2, ?_⟩
  intro t
  have hf : (Question.nanBits .f64 x y).forced = false := rfl
  unfold floatBits at h
  rcases hop with rfl | rfl | rfl <;> simp only at h <;> simp [binOp, Op.floatArith, h, hf]

theorem not_num {r : Nat} (h : INF < rg r) : ¬ Num64 r := by unfold Num64; omega
theorem nan_op {op : BinOp} {x y : Nat} (hop : op = .mul ∨ op = .add ∨ op = .sub) (h : INF < rg x) : floatBits op .f64 x y = none := by
  have hr := read_nan h
  rcases hop with rfl | rfl | rfl
  · show Ieee.double.mul x y = none
    unfold Ieee.Format.mul; rw [hr]; rfl
  · show Ieee.double.add x y = none
    unfold Ieee.Format.add; rw [hr]; rfl
  · show Ieee.double.sub x y = none
    unfold Ieee.Format.sub; rw [hr]; rfl

/-- What Along hands back. -/
def AlongR (s : Nat) (far : Int) (t : Nat) (r : Nat) : Prop := r < 18446744073709551616 ∧ (alongF s far t = some r ∨ alongF s far t = none ∧ INF < rg r)

set_option maxHeartbeats 1000000 in
theorem alongW_any (s t : Nat) (far : Int) (w : World) :
    Calls Try.prog 75 #[.float .f64 s, .int .u64 far, .float .f64 t] w fun e w' => ∃ r, e = .returned (.float .f64 r) ∧ Hid (AlongR s far t r) ∧ Below w.heap.size w w' := by
  obtain ⟨g, hg⟩ : ∃ g, g = floatOfInt .f64 far := ⟨_, rfl⟩
  have hal : alongF s far t = (Ieee.double.mul s g).bind fun m => Ieee.double.add m t := by rw [hg]; rfl
  cases hm : Ieee.double.mul s g with
  | none =>
    obtain ⟨r1, a1, a2, a3⟩ := run_float_nan (P := Try.prog) w .mul s g (.inl rfl) hm
    obtain ⟨r2, b1, b2, b3⟩ := run_float_nan (P := Try.prog) w.drew .add r1 t (.inr (.inl rfl)) (nan_op (.inr (.inl rfl)) a1)
    have R : Hid (AlongR s far t r2) := Lib.hid ⟨b2, .inr ⟨by rw [hal, hm]; rfl, b1⟩⟩
    have B : Hid (Below w.heap.size w w.drew.drew) := Lib.hid ((Below.refl _ _).drew.drew)
    clear hal hm a1 a2 b1 b2
    have HG := hg.symm
    clear hg
    go_enter Try.func75, Try.ntmps75
    go_wp2
    go_ret
    exact ⟨r2, rfl, R, B.out⟩
  | some m =>
    have hm1 : ∀ tt W, (binOp .mul tt (.float .f64 s) (.float .f64 g)).run Try.prog W = .ok (.float .f64 m) W := fun tt W => run_float_arith W .mul tt .f64 _ _ _ hm
    cases ha : Ieee.double.add m t with
    | none =>
      obtain ⟨r2, b1, b2, b3⟩ := run_float_nan (P := Try.prog) w .add m t (.inr (.inl rfl)) ha
      have R : Hid (AlongR s far t r2) := Lib.hid ⟨b2, .inr ⟨by rw [hal, hm]; exact ha, b1⟩⟩
      have B : Hid (Below w.heap.size w w.drew) := Lib.hid ((Below.refl _ _).drew)
      clear hal hm ha b1 b2
      have HG := hg.symm
      clear hg
      go_enter Try.func75, Try.ntmps75
      go_wp2
      go_ret
      exact ⟨r2, rfl, R, B.out⟩
    | some r =>
      have hm2 : ∀ tt W, (binOp .add tt (.float .f64 m) (.float .f64 t)).run Try.prog W = .ok (.float .f64 r) W := fun tt W => run_float_arith W .add tt .f64 _ _ _ ha
      have hr64 : r < 18446744073709551616 := Ieee.Format.add_lt _ ha
      have R : Hid (AlongR s far t r) := Lib.hid ⟨hr64, .inl (by rw [hal, hm]; exact ha)⟩
      clear hal hm ha hr64
      have HG := hg.symm
      clear hg
      go_enter Try.func75, Try.ntmps75
      go_wp2
      go_ret
      exact ⟨r, rfl, R, Below.refl _ _⟩

set_option maxHeartbeats 1000000 in
theorem refAlong_any (s t : Nat) (far : Int) (w : World) :
    Calls Try.prog 78 #[.float .f64 s, .int .u64 far, .float .f64 t] w fun e w' => ∃ r, e = .returned (.float .f64 r) ∧ Hid (AlongR s far t r) ∧ Below w.heap.size w w' := by
  obtain ⟨g, hg⟩ : ∃ g, g = floatOfInt .f64 far := ⟨_, rfl⟩
  have hal : alongF s far t = (Ieee.double.mul s g).bind fun m => Ieee.double.add m t := by rw [hg]; rfl
  cases hm : Ieee.double.mul s g with
  | none =>
    obtain ⟨r1, a1, a2, a3⟩ := run_float_nan (P := Try.prog) w .mul s g (.inl rfl) hm
    obtain ⟨r2, b1, b2, b3⟩ := run_float_nan (P := Try.prog) w.drew .add r1 t (.inr (.inl rfl)) (nan_op (.inr (.inl rfl)) a1)
    have R : Hid (AlongR s far t r2) := Lib.hid ⟨b2, .inr ⟨by rw [hal, hm]; rfl, b1⟩⟩
    have B : Hid (Below w.heap.size w w.drew.drew) := Lib.hid ((Below.refl _ _).drew.drew)
    clear hal hm a1 a2 b1 b2
    have HG := hg.symm
    clear hg
    go_enter Try.func78, Try.ntmps78
    go_wp2
    go_ret
    exact ⟨r2, rfl, R, B.out⟩
  | some m =>
    have hm1 : ∀ tt W, (binOp .mul tt (.float .f64 s) (.float .f64 g)).run Try.prog W = .ok (.float .f64 m) W := fun tt W => run_float_arith W .mul tt .f64 _ _ _ hm
    cases ha : Ieee.double.add m t with
    | none =>
      obtain ⟨r2, b1, b2, b3⟩ := run_float_nan (P := Try.prog) w .add m t (.inr (.inl rfl)) ha
      have R : Hid (AlongR s far t r2) := Lib.hid ⟨b2, .inr ⟨by rw [hal, hm]; exact ha, b1⟩⟩
      have B : Hid (Below w.heap.size w w.drew) := Lib.hid ((Below.refl _ _).drew)
      clear hal hm ha b1 b2
      have HG := hg.symm
      clear hg
      go_enter Try.func78, Try.ntmps78
      go_wp2
      go_ret
      exact ⟨r2, rfl, R, B.out⟩
    | some r =>
      have hm2 : ∀ tt W, (binOp .add tt (.float .f64 m) (.float .f64 t)).run Try.prog W = .ok (.float .f64 r) W := fun tt W => run_float_arith W .add tt .f64 _ _ _ ha
      have hr64 : r < 18446744073709551616 := Ieee.Format.add_lt _ ha
      have R : Hid (AlongR s far t r) := Lib.hid ⟨hr64, .inl (by rw [hal, hm]; exact ha)⟩
      clear hal hm ha hr64
      have HG := hg.symm
      clear hg
      go_enter Try.func78, Try.ntmps78
      go_wp2
      go_ret
      exact ⟨r, rfl, R, Below.refl _ _⟩

end Go.Proofs.Ytnccgpdniigekaa
/-
  Plain: sums of floats do not fall where what is added rises.
-/
namespace Go.Proofs.Ytnccgpdniigekaa
set_option linter.unusedVariables false
set_option linter.unusedSimpArgs false

/-- A whole number from 0 on as a float: its rung. -/
theorem ofInt_near (n : Nat) (hn : n ≤ 18446744073709551616) : ∃ q, floatOfInt .f64 (n : Int) = q ∧ Near (n * S) 1 q ∧ q ≤ 4895412794951729152 := by
  obtain ⟨q, h1, h2⟩ := nearest_int (n : Int)
  rw [Int.natAbs_natCast] at h2
  have hq : q ≤ 4895412794951729152 := by
    refine near_mono h2 (near_exact 1 4895412794951729152 (by decide)) (by decide) (by decide) ?_
    rw [Nat.mul_one, Nat.mul_one, Nat.mul_one, val_64]
    exact Nat.mul_le_mul_right _ hn
  have hl := INF_lit
  have e : min q INF = q := Nat.min_eq_left (by omega)
  rw [decide_eq_false (by omega : ¬ (n : Int) < 0), e, wd_pos] at h1
  refine ⟨q, ?_, h2, hq⟩
  show Ieee.double.write (.number (decide ((n : Int) < 0)) (n : Int).natAbs 0) = q
  rw [decide_eq_false (by omega : ¬ (n : Int) < 0)]
  exact h1

/-- The product of a slope and a distance. -/
theorem mul_near (s n : Nat) (hs : s ≤ 4895412794951729152) (hn : n ≤ 18446744073709551616) : ∃ q o, Ieee.double.mul s (floatOfInt .f64 (n : Int)) = some q ∧ Near (n * S) 1 o ∧ Near (val s * val o) S q ∧ q ≤ 1151 * 4503599627370496 := by
  obtain ⟨o, ho, hno, hob⟩ := ofInt_near n hn
  have hl := INF_lit
  rw [ho]
  obtain ⟨q, h1, h2⟩ := mul_fin (fin_small (r := s) (by omega)) (fin_small (r := o) (by omega))
  rw [rg_small (r := s) (by omega), rg_small (r := o) (by omega)] at h2
  have hq : q ≤ 1151 * 4503599627370496 := by
    refine near_mono h2 (near_exact 1 (1151 * 4503599627370496) (by decide)) S_pos (by decide) ?_
    rw [Nat.mul_one, Nat.mul_one, val_128]
    have a1 : val s ≤ 18446744073709551616 * S := by rw [← val_64]; exact val_le hs
    have a2 : val o ≤ 18446744073709551616 * S := by rw [← val_64]; exact val_le hob
    have a3 := Nat.mul_le_mul a1 a2
    have a4 : 18446744073709551616 * S * (18446744073709551616 * S) = 340282366920938463463374607431768211456 * S * S := by
      have : (340282366920938463463374607431768211456 : Nat) = 18446744073709551616 * 18446744073709551616 := by decide
      rw [this]; ac_rfl
    omega
  have e : min q INF = q := Nat.min_eq_left (by omega)
  rw [ng_small (r := s) (by omega), ng_small (r := o) (by omega), e] at h1
  exact ⟨q, o, h1, hno, h2, hq⟩

end Go.Proofs.Ytnccgpdniigekaa
