/-
  ratio.Clamp and inclineref02.Clamp come to the same whole number.
-/
import Derived.Test.YtnccgpdniigekaaQG12
import Derived.Test.YtnccgpdniigekaaQG13
import Derived.Test.YtnccgpdniigekaaQG28
import Derived.BigQuiet
import Derived.Deep.CutBlock
namespace Go.Proofs.Ytnccgpdniigekaa
open Go.RowKit
set_option linter.unusedVariables false
set_option linter.unusedSimpArgs false
attribute [local go_sem high] binOp_lss64 binOp_gtr64 binOp_geq64 binOp_leq64 binOp_eql64 binOp_neq64 f64bits frombits

/-- A float, rounded down and brought into bounds. -/
def clampI (b : Nat) (lo hi : Int) : Int :=
  if hi < lo ∨ INF < rg b ∨ sv b < -(9223372036854775808 * (S : Int)) then lo
  else if 9223372036854775808 * (S : Int) ≤ sv b then hi
  else max lo (min hi (sv b / (S : Int)))

theorem sv_m63 : sv 14114281232179134464 = -(9223372036854775808 * (S : Int)) := by
  have h := sv_of (s := true) (r := 4890909195324358656) (by decide)
  have e : wd true 4890909195324358656 = 14114281232179134464 := by decide
  rw [e, val_63] at h
  rw [h]; simp [sg]
theorem sv_63 : sv 4890909195324358656 = 9223372036854775808 * (S : Int) := by
  rw [sv_small (by decide), val_63]; simp
theorem num_m63 : Num64 14114281232179134464 := num_of (s := true) (r := 4890909195324358656) (by decide)
theorem num_63 : Num64 4890909195324358656 := num_small (by decide)
theorem sv_fin_of {b : Nat} (h : Num64 b) (h1 : -(9223372036854775808 * (S : Int)) ≤ sv b) (h2 : sv b < 9223372036854775808 * (S : Int)) : Fin64 b := by
  have hv : val 4890909195324358656 < val INF := val_lt (by decide)
  rw [val_63] at hv
  have hS := S_pos
  rcases Nat.lt_or_eq_of_le h with h' | h'
  · exact h'
  · exfalso
    rw [sv_inf h'] at h1 h2
    have hv' := Int.ofNat_lt.2 hv
    rw [Int.natCast_mul] at hv'
    by_cases hng : ng b = true
    · rw [if_pos hng] at h1; omega
    · rw [if_neg hng] at h2; omega

theorem floatToInt_i64 {b : Nat} {n : Int} (hf : Fin64 b) (hn : sg (ng b) (val (rg b) / S) = n) (h1 : -9223372036854775808 ≤ n) (h2 : n ≤ 9223372036854775807) : floatToIntVal .f64 b .i64 = some n := by
  unfold floatToIntVal
  have e : (FloatKind.f64.decode b).toInt .zero = some n := by rw [← hn]; exact toInt_zero hf
  rw [e]
  show (if IntKind.i64.min ≤ n ∧ n ≤ IntKind.i64.max then some n else none) = some n
  have m1 : IntKind.i64.min = -9223372036854775808 := by decide
  have m2 : IntKind.i64.max = 9223372036854775807 := by decide
  rw [m1, m2, if_pos ⟨h1, h2⟩]

theorem sg_div {s : Bool} {v : Nat} {F : Int} (h : sg s v = F * (S : Int)) : v % S = 0 ∧ sg s (v / S) = F := by
  have hS := S_pos
  have hv : v = F.natAbs * S := by
    have := congrArg Int.natAbs h
    rw [sg_natAbs, Int.natAbs_mul, Int.natAbs_natCast] at this; exact this
  have h1 : v / S * S = v := by rw [hv, Nat.mul_div_cancel _ hS]
  refine ⟨by rw [hv, Nat.mul_mod_left], ?_⟩
  have h2 : sg s (v / S) * (S : Int) = F * (S : Int) := by rw [← sg_mul, h1, h]
  exact Int.eq_of_mul_eq_mul_right (by omega) h2

/-- int(math.Floor(f)). -/
theorem floor_int {b : Nat} (hf : Fin64 b) (h1 : -(9223372036854775808 * (S : Int)) ≤ sv b) (h2 : sv b < 9223372036854775808 * (S : Int)) :
    floatToIntVal .f64 (Ieee.double.write ((Ieee.double.read b).integral .down)) .i64 = some (sv b / (S : Int)) ∧ -9223372036854775808 ≤ sv b / (S : Int) ∧ sv b / (S : Int) ≤ 9223372036854775807 := by
  have hS := S_pos
  have hS' : (0 : Int) < S := by omega
  obtain ⟨q, e1, e2⟩ := floor_fin hf
  have b1 : -9223372036854775808 ≤ sv b / (S : Int) := by rw [Int.le_ediv_iff_mul_le hS']; omega
  have b2 : sv b / (S : Int) < 9223372036854775808 := by rw [Int.ediv_lt_iff_lt_mul hS']; omega
  obtain ⟨F, hF⟩ : ∃ F, F = sv b / (S : Int) := ⟨_, rfl⟩
  rw [← hF] at e2 b1 b2 ⊢
  have hq : q ≤ 4890909195324358656 := by
    have hv : val q = F.natAbs * S := by
      have := congrArg Int.natAbs e2
      rw [sg_natAbs, Int.natAbs_mul, Int.natAbs_natCast] at this; exact this
    have : F.natAbs * S ≤ 9223372036854775808 * S := Nat.mul_le_mul_right _ (by omega)
    rw [← hv, ← val_63] at this
    rcases Nat.lt_or_ge 4890909195324358656 q with h | h
    · have := val_lt h; omega
    · exact h
  have hl := INF_lit
  have e3 : min q INF = q := Nat.min_eq_left (by omega)
  rw [e1, e3]
  refine ⟨?_, b1, by omega⟩
  have r1 : rg (wd (ng b) q) = q := rg_of (by omega)
  have r2 : ng (wd (ng b) q) = ng b := ng_of (by omega)
  exact floatToInt_i64 (fin_of (by omega)) (by rw [r1, r2]; exact (sg_div e2).2) b1 (by omega)

theorem nan_eq (b : Nat) : ¬ fEq b b ↔ INF < rg b := by rw [fEq_self]; omega
theorem fLt_iff {a b : Nat} (ha : Num64 a) (hb : Num64 b) : fLt a b ↔ sv a < sv b := by unfold fLt; exact ⟨fun h => h.2.2, fun h => ⟨ha, hb, h⟩⟩
theorem fLe_iff {a b : Nat} (ha : Num64 a) (hb : Num64 b) : fLe a b ↔ sv a ≤ sv b := by unfold fLe; exact ⟨fun h => h.2.2, fun h => ⟨ha, hb, h⟩⟩
theorem fEq_iff {a b : Nat} (ha : Num64 a) (hb : Num64 b) : fEq a b ↔ sv a = sv b := by unfold fEq; exact ⟨fun h => h.2.2, fun h => ⟨ha, hb, h⟩⟩

theorem clamp_any (b : Nat) (lo hi : Int) (hlo : -9223372036854775808 ≤ lo ∧ lo ≤ 9223372036854775807) (hhi : -9223372036854775808 ≤ hi ∧ hi ≤ 9223372036854775807) (w : World) :
    Calls Try.prog 74 #[.float .f64 b, .int .i64 lo, .int .i64 hi] w fun e w' => e = .returned (.int .i64 (clampI b lo hi)) ∧ w = w' := by
  have FN := isNaN_any b
  unfold clampI
  by_cases c1 : hi < lo
  · rw [if_pos (.inl c1)]
    go_enter Try.func74, Try.ntmps74
    go_wp2_with (go_at_call 89; refine (FN _).mono ?_; rintro e w' ⟨rfl, rfl⟩)
    simp [bodyPost, results, Try.results74, go_sem]
  by_cases c2 : INF < rg b
  · rw [if_pos (.inr (.inl c2))]
    rw [decide_eq_true c2] at FN
    clear c2
    go_enter Try.func74, Try.ntmps74
    go_wp2_with (go_at_call 89; refine (FN _).mono ?_; rintro e w' ⟨rfl, rfl⟩)
    simp [bodyPost, results, Try.results74, go_sem]
  have hN : Num64 b := by unfold Num64; omega
  have i1 := fLt_iff hN num_m63
  have i2 := fLe_iff num_63 hN
  rw [sv_m63] at i1
  rw [sv_63] at i2
  rw [decide_eq_false c2] at FN
  by_cases c3 : sv b < -(9223372036854775808 * (S : Int))
  · rw [if_pos (.inr (.inr c3))]
    have g := i1.2 c3
    clear i1 i2 c2 c3
    go_enter Try.func74, Try.ntmps74
    go_wp2_with (go_at_call 89; refine (FN _).mono ?_; rintro e w' ⟨rfl, rfl⟩)
    simp [bodyPost, results, Try.results74, go_sem]
  rw [if_neg (by intro h; rcases h with h | h | h; exact c1 h; exact c2 h; exact c3 h)]
  have g1 : ¬ fLt b 14114281232179134464 := fun h => c3 (i1.1 h)
  by_cases c4 : 9223372036854775808 * (S : Int) ≤ sv b
  · rw [if_pos c4]
    have g2 := i2.2 c4
    clear i1 i2 c2 c3 c4
    go_enter Try.func74, Try.ntmps74
    go_wp2_with (go_at_call 89; refine (FN _).mono ?_; rintro e w' ⟨rfl, rfl⟩)
    simp [bodyPost, results, Try.results74, go_sem]
  rw [if_neg c4]
  have g2 : ¬ fLe 4890909195324358656 b := fun h => c4 (i2.1 h)
  have hF := sv_fin_of hN (by omega) (by omega)
  obtain ⟨f1, f2, f3⟩ := floor_int hF (by omega) (by omega)
  have FF := fun W => floor_any hF W
  obtain ⟨F, hFF⟩ : ∃ F, F = sv b / (S : Int) := ⟨_, rfl⟩
  rw [← hFF] at f1 f2 f3 ⊢
  have HFF := Lib.hid hFF
  obtain ⟨r, hr⟩ : ∃ r, r = Ieee.double.write ((Ieee.double.read b).integral .down) := ⟨_, rfl⟩
  rw [← hr] at f1 FF
  have CV := fun W => run_convert_float_int W 31 3 .f64 .i64 r F (by kernel_rfl) (by kernel_rfl) f1 (P := Try.prog)
  clear i1 i2 c2 c3 c4 hFF hr f1 hN hF
  go_enter Try.func74, Try.ntmps74
  go_wp2_with (first | (go_at_call 89; refine (FN _).mono ?_; rintro e w' ⟨rfl, rfl⟩) | (go_at_call 91; refine (FF _).mono ?_; rintro e w' ⟨rfl, rfl⟩))
  simp [bodyPost, results, Try.results74, go_sem]

/-- int(f), and that as a float. -/
theorem trunc_int {b : Nat} (hf : Fin64 b) (h1 : -(9223372036854775808 * (S : Int)) ≤ sv b) (h2 : sv b < 9223372036854775808 * (S : Int)) :
    ∃ (T : Int) (t : Nat), floatToIntVal .f64 b .i64 = some T ∧ -9223372036854775808 ≤ T ∧ T ≤ 9223372036854775807 ∧ floatOfInt .f64 T = t ∧ Num64 t ∧ sv t = T * (S : Int) ∧ (sv b / (S : Int) = if sv b < T * (S : Int) then T - 1 else T) ∧ (sv b < T * (S : Int) → -9223372036854775808 < T) := by
  have hS := S_pos
  have hS' : (0 : Int) < S := by omega
  obtain ⟨v, hv⟩ : ∃ v, v = val (rg b) := ⟨_, rfl⟩
  have hsv : sv b = sg (ng b) v := by rw [hv]; rfl
  have hv1 : v ≤ 9223372036854775808 * S := by
    have := congrArg Int.natAbs hsv
    rw [sg_natAbs] at this
    have h3 : (sv b).natAbs ≤ 9223372036854775808 * S := by
      have : ((9223372036854775808 * S : Nat) : Int) = 9223372036854775808 * (S : Int) := by rw [Int.natCast_mul]; rfl
      omega
    omega
  obtain ⟨c, hc⟩ : ∃ c, c = v / S := ⟨_, rfl⟩
  have hc1 : c ≤ 9223372036854775808 := by
    rw [hc]; exact Nat.div_le_of_le_mul (by rw [Nat.mul_comm]; exact hv1)
  have hdm := Nat.div_add_mod v S
  have hml := Nat.mod_lt v hS
  rw [← hc, Nat.mul_comm] at hdm
  obtain ⟨q, hq⟩ := whole_rep (rg b) c (.inl (by rw [hc, hv]))
  have hqle : q ≤ 4890909195324358656 := by
    have : c * S ≤ 9223372036854775808 * S := Nat.mul_le_mul_right _ hc1
    rw [← hq, ← val_63] at this
    rcases Nat.lt_or_ge 4890909195324358656 q with h | h
    · have := val_lt h; omega
    · exact h
  have hl := INF_lit
  obtain ⟨T, hT⟩ : ∃ T, T = sg (ng b) c := ⟨_, rfl⟩
  have hTS : T * (S : Int) = sg (ng b) (c * S) := by rw [hT, sg_mul]
  have hTa : T.natAbs = c := by rw [hT, sg_natAbs]
  have hfo : floatOfInt .f64 T = wd (decide (T < 0)) q := by
    show Ieee.double.write (.number (decide (T < 0)) T.natAbs 0) = _
    have e1 : ((0 : Int) + 1074).toNat = Q := by have := Q_eq; omega
    have e2 : ((-1074 : Int) - 0).toNat = 0 := by omega
    exact write_exact _ _ 0 q (by omega) (by rw [e1, e2, hq, hTa, S_eq]; simp)
  have hT1 : -9223372036854775808 ≤ T := by omega
  have hcs : ((c * S : Nat) : Int) = (c : Int) * (S : Int) := Int.natCast_mul ..
  have hT2 : T ≤ 9223372036854775807 := by
    rcases Int.lt_or_le T 9223372036854775808 with h | h
    · omega
    · exfalso
      have hcc : c = 9223372036854775808 := by omega
      have hng : ng b = false := by
        cases hn : ng b
        · rfl
        · rw [hn] at hT; simp [sg] at hT; omega
      rw [hng] at hsv
      have : sv b = (v : Int) := by rw [hsv]; rfl
      rw [hcc] at hdm
      omega
  refine ⟨T, _, ?_, hT1, hT2, hfo, num_of (by omega), ?_, ?_, ?_⟩
  · exact floatToInt_i64 hf (by rw [hT, hc, hv]) hT1 hT2
  · have e : sg (decide (T < 0)) (val q) = T * (S : Int) := by
      rw [hq, sg_mul, ← hTa, sg_add_natAbs]
    rw [sv_of (by omega), e]
  · have hfl := sg_floor (ng b) v
    rw [← hc, ← hsv] at hfl
    rw [← hfl, hTS, hsv, hT]
    cases hn : ng b
    · have e1 : (false && v % S != 0).toNat = 0 := rfl
      rw [e1, if_neg (by simp [sg]; omega)]; rfl
    · by_cases h0 : v % S = 0
      · have e1 : (true && v % S != 0).toNat = 0 := by simp [h0]
        rw [e1, if_neg (by simp [sg]; omega)]; rfl
      · have e1 : (true && v % S != 0).toNat = 1 := by simp [h0]
        rw [e1, if_pos (by simp [sg]; omega)]; simp [sg]; omega
  · intro hlt
    rcases Int.lt_or_le (-9223372036854775808) T with h | h
    · exact h
    · exfalso
      have : T = -9223372036854775808 := by omega
      rw [this] at hlt; omega

theorem refClamp_any (b : Nat) (lo hi : Int) (hlo : -9223372036854775808 ≤ lo ∧ lo ≤ 9223372036854775807) (hhi : -9223372036854775808 ≤ hi ∧ hi ≤ 9223372036854775807) (w : World) :
    Calls Try.prog 77 #[.float .f64 b, .int .i64 lo, .int .i64 hi] w fun e w' => e = .returned (.int .i64 (clampI b lo hi)) ∧ w = w' := by
  have z := nan_eq b
  unfold clampI
  by_cases c1 : hi < lo
  · rw [if_pos (.inl c1)]
    clear z
    go_enter Try.func77, Try.ntmps77
    go_wp2
    simp [bodyPost, results, Try.results77, go_sem]
  by_cases c2 : INF < rg b
  · rw [if_pos (.inr (.inl c2))]
    have g0 := z.2 c2
    clear c2 z
    go_enter Try.func77, Try.ntmps77
    go_wp2
    simp [bodyPost, results, Try.results77, go_sem]
  have hN : Num64 b := by unfold Num64; omega
  have i1 := fLt_iff hN num_m63
  have i2 := fLe_iff num_63 hN
  rw [sv_m63] at i1
  rw [sv_63] at i2
  have g0 : fEq b b := Classical.byContradiction fun h => c2 (z.1 h)
  clear z
  by_cases c3 : sv b < -(9223372036854775808 * (S : Int))
  · rw [if_pos (.inr (.inr c3))]
    have g := i1.2 c3
    have g2 : ¬ fLe 4890909195324358656 b := fun h => by have := i2.1 h; have := S_pos; omega
    clear i1 i2 c2 c3
    go_enter Try.func77, Try.ntmps77
    go_wp2
    simp [bodyPost, results, Try.results77, go_sem]
  rw [if_neg (by intro h; rcases h with h | h | h; exact c1 h; exact c2 h; exact c3 h)]
  have g1 : ¬ fLt b 14114281232179134464 := fun h => c3 (i1.1 h)
  by_cases c4 : 9223372036854775808 * (S : Int) ≤ sv b
  · rw [if_pos c4]
    have g2 := i2.2 c4
    clear i1 i2 c2 c3 c4
    go_enter Try.func77, Try.ntmps77
    go_wp2
    simp [bodyPost, results, Try.results77, go_sem]
  rw [if_neg c4]
  have g2 : ¬ fLe 4890909195324358656 b := fun h => c4 (i2.1 h)
  have hF := sv_fin_of hN (by omega) (by omega)
  obtain ⟨T, t, f1, f2, f3, f4, f5, f6, f7, f8⟩ := trunc_int hF (by omega) (by omega)
  have CV := fun W => run_convert_float_int W 31 3 .f64 .i64 b T (by kernel_rfl) (by kernel_rfl) f1 (P := Try.prog)
  have it := fLt_iff hN f5
  rw [f6] at it
  by_cases c5 : sv b < T * (S : Int)
  · have g5 := it.2 c5
    have f9 := f8 c5
    rw [if_pos c5] at f7
    rw [f7]
    have w1 : wrap64 (T - 1) = T - 1 := by unfold wrap64; omega
    clear i1 i2 c2 c3 c4 hN hF f1 it c5 f5 f6 f7 f8
    go_enter Try.func77, Try.ntmps77
    go_wp2
    simp [bodyPost, results, Try.results77, go_sem]
  · have g5 : ¬ fLt b t := fun h => c5 (it.1 h)
    rw [if_neg c5] at f7
    rw [f7]
    clear i1 i2 c2 c3 c4 hN hF f1 it c5 f5 f6 f7 f8
    go_enter Try.func77, Try.ntmps77
    go_wp2
    simp [bodyPost, results, Try.results77, go_sem]
end Go.Proofs.Ytnccgpdniigekaa
/-
  ratio.Lowest and inclineref02.Lowest come to the same fraction.
-/
namespace Go.Proofs.Ytnccgpdniigekaa
open Go.RowKit
set_option linter.unusedVariables false
set_option linter.unusedSimpArgs false

/-- What Euclid's loop keeps. -/
def GcdToR (n d : Int) (x y : Value) : Prop := ∃ a b : Int, x = .int .u64 a ∧ y = .int .u64 b ∧ 0 ≤ a ∧ 0 ≤ b ∧ (0 < a ∨ 0 < b) ∧ b < 18446744073709551616 ∧ a < 18446744073709551616 ∧ Int.gcd a b = Int.gcd n d
theorem gcd_emodR (a b : Int) (ha : 0 ≤ a) (hb : 0 ≤ b) : Int.gcd (b % a) a = Int.gcd a b := by
  obtain ⟨a, rfl⟩ := Int.eq_ofNat_of_zero_le ha
  obtain ⟨b, rfl⟩ := Int.eq_ofNat_of_zero_le hb
  rw [← Int.natCast_emod, Int.gcd_natCast_natCast, Int.gcd_natCast_natCast]
  exact (Nat.gcd_rec a b).symm
theorem gcd_at_zeroR (b : Int) (hb : 0 ≤ b) : ((Int.gcd 0 b : Nat) : Int) = b := by
  rw [Int.gcd_zero_left]; omega
/-- Lowest terms. -/
def lowA (n d : Int) : Int := if d = 0 then 0 else n / (Int.gcd n d : Nat)
def lowB (n d : Int) : Int := if d = 0 then 0 else d / (Int.gcd n d : Nat)
def lowE (d : Int) : Int := if d = 0 then 20 else 0
def lowV (n d : Int) : Value := .tuple #[.agg #[.int .u64 (lowA n d), .int .u64 (lowB n d)], .int .i64 (lowE d)]

set_option maxHeartbeats 2000000 in
theorem lowest_any (n d : Int) (hn : u64ok n) (hd : u64ok d) (w : World) :
    Calls Try.prog 112 #[.int .u64 n, .int .u64 d] w fun e w' => e = .returned (lowV n d) ∧ Below w.heap.size w w' := by
  by_cases h00 : d = 0
  · subst h00
    have e : lowV n 0 = .tuple #[.agg #[.int .u64 0, .int .u64 0], .int .i64 20] := by simp [lowV, lowA, lowB, lowE]
    rw [e]
    go_enter Try.func112, Try.ntmps112
    go_wp2_with fail
    refine bodyPost_ret (v := .tuple #[.agg #[.int .u64 0, .int .u64 0], .int .i64 20]) (results_ct (p := 4) (u := 5) (ty := 122) (t := 122) rfl _ rfl rfl ?_ Try.underlying122 rfl (by kernel_rfl)) rfl ?_
    · exact Blk.new _ _ _
    · exact ⟨rfl, below_new (Below.refl _ _) _⟩
  have h0 : 0 < d := by unfold u64ok at hd; omega
  have d0 : (d == 0) = false := by simpa using h00
  have e : lowV n d = .tuple #[.agg #[.int .u64 (n / (Int.gcd n d : Nat)), .int .u64 (d / (Int.gcd n d : Nat))], .int .i64 0] := by simp [lowV, lowA, lowB, lowE, h00]
  rw [e]
  clear e
  unfold u64ok at hn hd
  obtain ⟨s, hs⟩ : ∃ s : Int × Int, s = (n / (Int.gcd n d : Nat), d / (Int.gcd n d : Nat)) := ⟨_, rfl⟩
  have s1 : n / (Int.gcd n d : Nat) = s.1 := by rw [hs]
  have s2 : d / (Int.gcd n d : Nat) = s.2 := by rw [hs]
  rw [s1, s2]
  clear s1 s2
  have HL := Lib.hid hs
  clear hs
  have HG : Hid (0 < ((Int.gcd n d : Nat) : Int) ∧ 0 ≤ n / ((Int.gcd n d : Nat) : Int) ∧ n / ((Int.gcd n d : Nat) : Int) ≤ n ∧ 0 ≤ d / ((Int.gcd n d : Nat) : Int) ∧ d / ((Int.gcd n d : Nat) : Int) ≤ d) := by
    have h : 0 < Int.gcd n d := Int.gcd_pos_of_ne_zero_right _ (by omega)
    exact Lib.hid ⟨by omega, Int.ediv_nonneg hn.1 (by omega), Int.ediv_le_self _ hn.1, Int.ediv_nonneg hd.1 (by omega), Int.ediv_le_self _ hd.1⟩
  go_enter Try.func112, Try.ntmps112
  go_wp2
  go_loop [6, 7] (fun x y => GcdToR n d x y) (fun x _ => (intOf x).toNat)
  case atStart => exact ⟨n, d, rfl, rfl, hn.1, hd.1, .inr h0, by omega, by omega, rfl⟩
  case round =>
    obtain ⟨a, b, rfl, rfl, ha, hb, hab, hb2, ha2, hg⟩ := hrel
    by_cases hp : 0 < a
    · have G := Lib.hid (gcd_emodR a b ha hb)
      have m1 := Int.emod_nonneg b (show a ≠ 0 by omega)
      have m2 := Int.emod_lt_of_pos b hp
      go_wp2
      go_round
      case rel => exact ⟨_, _, rfl, rfl, by omega, by omega, .inr hp, by omega, by omega, by rw [G.out, hg]⟩
      case measure => simp only [intOf]; omega
    · obtain rfl : a = 0 := by omega
      have hgb : ((Int.gcd n d : Nat) : Int) = b := by rw [← hg]; exact gcd_at_zeroR b hb
      rw [hgb] at HL HG
      obtain ⟨g0, g1, g2, g3, g4⟩ := HG.out
      have b0 : (b == 0) = false := by
        have : b ≠ 0 := by omega
        simpa using this
      have b1 : b ≠ 0 := by omega
      have hdv : ∀ x y : Int, 0 ≤ x → 0 < y → x.tdiv y = x / y := fun x y h _ => Int.tdiv_eq_ediv_of_nonneg h
      go_wp2_with fail
      go_big_region
      all_goals go_wp2_with fail
      all_goals refine bodyPost_ret (v := .tuple #[.agg #[.int .u64 s.1, .int .u64 s.2], .int .i64 0]) (results_ct (p := 4) (u := 5) (ty := 122) (t := 122) rfl _ rfl rfl ?_ Try.underlying122 rfl (by kernel_rfl)) rfl ?_
      · rw [HL.out]; exact (Blk.new _ _ _).drew
      · exact ⟨rfl, (below_new (Below.refl _ _) _).drew⟩

end Go.Proofs.Ytnccgpdniigekaa
/-
  ratio.Cmp comes to the order of a float and a fraction.
-/
namespace Go.Proofs.Ytnccgpdniigekaa
open Go.RowKit
set_option linter.unusedVariables false
set_option linter.unusedSimpArgs false
attribute [local go_sem high] binOp_lss64 binOp_gtr64 binOp_geq64 binOp_leq64 binOp_eql64 binOp_neq64 f64bits frombits

/-- How two whole numbers stand. -/
def cmpZ (x y : Int) : Int := if x < y then -1 else if x = y then 0 else 1
theorem cmpZ_lt {x y : Int} (h : x < y) : cmpZ x y = -1 := if_pos h
theorem cmpZ_eq {x y : Int} (h : x = y) : cmpZ x y = 0 := by unfold cmpZ; rw [if_neg (by omega), if_pos h]
theorem cmpZ_gt {x y : Int} (h : y < x) : cmpZ x y = 1 := by unfold cmpZ; rw [if_neg (by omega), if_neg (by omega)]
theorem cmpZ_mul (x y c : Int) (hc : 0 < c) : cmpZ (x * c) (y * c) = cmpZ x y := by
  rcases Int.lt_trichotomy x y with h | h | h
  · rw [cmpZ_lt h, cmpZ_lt (Int.mul_lt_mul_of_pos_right h hc)]
  · rw [cmpZ_eq h, cmpZ_eq (by rw [h])]
  · rw [cmpZ_gt h, cmpZ_gt (Int.mul_lt_mul_of_pos_right h hc)]
/-- A float against a fraction. -/
def cmpF (b : Nat) (num den : Int) : Int := cmpZ (sv b * den) (num * (S : Int))
def cmpR (b : Nat) (num den : Int) : Int := if den = 0 ∨ INF ≤ rg b then 0 else cmpF b num den
def cmpE (b : Nat) (den : Int) : Int := if den = 0 then 20 else if INF ≤ rg b then 21 else 0

end Go.Proofs.Ytnccgpdniigekaa
/-
  ratio.Cmp walked.
-/
namespace Go.Proofs.Ytnccgpdniigekaa
open Go.RowKit
set_option linter.unusedVariables false
set_option linter.unusedSimpArgs false
attribute [local go_sem high] binOp_lss64 binOp_gtr64 binOp_geq64 binOp_leq64 binOp_eql64 binOp_neq64 f64bits frombits

theorem floatToInt_u64 {b n : Nat} (hf : Fin64 b) (hp : ng b = false) (hn : val (rg b) / S = n) (h2 : n ≤ 18446744073709551615) : floatToIntVal .f64 b .u64 = some (n : Int) := by
  unfold floatToIntVal
  have e : (FloatKind.f64.decode b).toInt .zero = some (n : Int) := by
    have := toInt_zero hf
    rw [hp, hn] at this; exact this
  rw [e]
  have m1 : IntKind.u64.min = 0 := by decide
  have m2 : IntKind.u64.max = 18446744073709551615 := by decide
  show (if IntKind.u64.min ≤ (n : Int) ∧ (n : Int) ≤ IntKind.u64.max then some (n : Int) else none) = some (n : Int)
  rw [m1, m2, if_pos ⟨by omega, by omega⟩]

theorem val_whole {m : Nat} (h1 : 4503599627370496 ≤ m) (h2 : m ≤ 9007199254740992) : val (1074 * 4503599627370496 + m) = m * S := by
  rw [val_em 1074 m (.inl h1) h2, S_eq, Q_eq]

/-- The parts of a normal float. -/
structure Parts (b e m : Nat) : Prop where
  he : e = b / 4503599627370496
  hm : m = b % 4503599627370496 + 4503599627370496
theorem Parts.val {b e m : Nat} (h : Parts b e m) (hn : Norm64 b) : val b = m * 2 ^ (e - 1) := by
  have h1 := hn.lo
  have hb : b = (e - 1) * 4503599627370496 + m := by have := h.he; have := h.hm; omega
  have := val_em (e - 1) m (.inl (by have := h.hm; omega)) (by have := h.hm; omega)
  rw [← hb] at this; exact this
theorem cmp_hi {b e m : Nat} (h : Parts b e m) (hn : Norm64 b) (num den : Nat) (he : 1075 ≤ e) : cmpF b num den = cmpZ ((m * den * 2 ^ (e - 1075) : Nat) : Int) (num : Int) := by
  unfold cmpF
  rw [sv_small (Nat.le_of_lt hn.hi), h.val hn]
  have hS : m * 2 ^ (e - 1) * den = m * den * 2 ^ (e - 1075) * S := by
    have : e - 1 = e - 1075 + Q := by have := Q_eq; omega
    rw [this, Nat.pow_add, ← S_eq, ← Nat.mul_assoc, Nat.mul_right_comm, Nat.mul_right_comm m]
  rw [← Int.natCast_mul, hS, Int.natCast_mul _ S]
  exact cmpZ_mul _ _ _ (by have := S_pos; omega)
theorem cmp_lo {b e m : Nat} (h : Parts b e m) (hn : Norm64 b) (num den : Nat) (he : e ≤ 1075) (he1 : 1 ≤ e) : cmpF b num den = cmpZ ((m * den : Nat) : Int) ((num * 2 ^ (1075 - e) : Nat) : Int) := by
  unfold cmpF
  rw [sv_small (Nat.le_of_lt hn.hi), h.val hn]
  have hS : (num : Int) * (S : Int) = ((num * 2 ^ (1075 - e) : Nat) : Int) * ((2 ^ (e - 1) : Nat) : Int) := by
    rw [← Int.natCast_mul, ← Int.natCast_mul, S_eq, Nat.mul_assoc, ← Nat.pow_add]
    have : Q = 1075 - e + (e - 1) := by have := Q_eq; omega
    rw [this]
  have e1 : ((m * 2 ^ (e - 1) : Nat) : Int) * (den : Int) = ((m * den : Nat) : Int) * ((2 ^ (e - 1) : Nat) : Int) := by
    rw [← Int.natCast_mul, ← Int.natCast_mul]; congr 1; ac_rfl
  rw [hS, e1]
  exact cmpZ_mul _ _ _ (by have := p2pos (e - 1); omega)

/-- What is laid ahead of the walk. -/
structure CmpPre (b num den : Nat) : Prop where
  n : Norm64 b
  lo : 958 * 4503599627370496 ≤ b
  hi : b < 1087 * 4503599627370496
  num0 : 0 < num
  num1 : num < 18446744073709551616
  den0 : 0 < den
  den1 : den < 18446744073709551616

theorem len_nat (n : Nat) (h1 : n < 18446744073709551616) : ∃ a : Nat, (Lib.bitLen n : Int) = (a : Int) ∧ a ≤ 64 ∧ n < 2 ^ a ∧ (0 < n → 2 ^ (a - 1) ≤ n) ∧ (n = 0 → a = 0) := by
  rcases Nat.eq_zero_or_pos n with h | h
  · subst h; exact ⟨0, by decide, by decide, by decide, fun h => absurd h (by decide), fun _ => rfl⟩
  · have h' := bitLenAux_bounds 64 n h (by omega)
    exact ⟨Lib.bitLenAux 64 n, rfl, h'.2.1, h'.2.2.2, fun _ => h'.2.2.1, fun h0 => by omega⟩
theorem nat_big {a k : Nat} (h : 64 < a + k) : (64 : Int) < (a : Int) + (k : Int) := by omega
theorem nat_small {a k : Nat} (h : ¬ 64 < a + k) : ¬ (64 : Int) < (a : Int) + (k : Int) := by omega
theorem wrap_64k {k : Nat} (h : k ≤ 11) : wrap64 (64 - (k : Int)) = 64 - (k : Int) := by unfold wrap64; omega
theorem u64_nat {n : Nat} (h : n < 18446744073709551616) : u64ok (n : Int) := ⟨by omega, by omega⟩
theorem le_63 {k : Nat} (h : k ≤ 11) : k ≤ 63 := by omega
theorem cmp_up {H L B P2 : Nat} {num : Int} (h : (H + L) * 18446744073709551616 + B = P2) : cmpZ (((H + L : Nat) : Int) * 18446744073709551616 + (B : Int)) (0 * 18446744073709551616 + num) = cmpZ (P2 : Int) num := by
  have e1 : ((H + L : Nat) : Int) * 18446744073709551616 + (B : Int) = (P2 : Int) := by omega
  have e2 : (0 : Int) * 18446744073709551616 + num = num := by omega
  rw [e1, e2]
theorem le_11 {k : Nat} (h : k ≤ 11) : k ≤ 64 := by omega
theorem big_gt {P hi lo num a k : Nat} (PHL : P = hi * 18446744073709551616 + lo) (hn1 : num < 18446744073709551616) (ha3 : 0 < hi → 2 ^ (a - 1) ≤ hi) (ha4 : hi = 0 → a = 0) (hbig : 64 < a + k) (hk : k ≤ 64) : (num : Int) < ((P * 2 ^ k : Nat) : Int) := by
  have h0 : 0 < hi := by
    rcases Nat.eq_zero_or_pos hi with h | h
    · have := ha4 h; omega
    · exact h
  have h1 := ha3 h0
  have h2 : 2 ^ (a - 1) * 2 ^ k ≤ hi * 2 ^ k := Nat.mul_le_mul_right _ h1
  rw [← Nat.pow_add] at h2
  have h3 : (2 : Nat) ^ 64 ≤ 2 ^ (a - 1 + k) := Nat.pow_le_pow_right (by omega) (by omega)
  have h4 : (2 : Nat) ^ 64 = 18446744073709551616 := by decide
  have h5 : hi * 2 ^ k * 18446744073709551616 ≤ P * 2 ^ k := by
    have : hi * 18446744073709551616 * 2 ^ k ≤ P * 2 ^ k := Nat.mul_le_mul_right _ (by omega)
    have e5 : hi * 2 ^ k * 18446744073709551616 = hi * 18446744073709551616 * 2 ^ k := Nat.mul_right_comm ..
    rw [e5]; exact this
  generalize P * 2 ^ k = X at *
  generalize hi * 2 ^ k = Y at *
  generalize 2 ^ (a - 1 + k) = Z at *
  clear h1 ha3 ha4
  omega
theorem small_lt {hi a k : Nat} (ha2 : hi < 2 ^ a) (h : a + k ≤ 64) : hi * 2 ^ k < 18446744073709551616 := by
  have h1 : hi * 2 ^ k < 2 ^ a * 2 ^ k := Nat.mul_lt_mul_of_pos_right ha2 (p2pos k)
  rw [← Nat.pow_add] at h1
  have h3 : (2 : Nat) ^ (a + k) ≤ 2 ^ 64 := Nat.pow_le_pow_right (by omega) h
  have h4 : (2 : Nat) ^ 64 = 18446744073709551616 := by decide
  generalize 2 ^ (a + k) = Z at *
  generalize hi * 2 ^ k = Y at *
  omega
theorem shift_up {P hi lo k H L B : Nat} (PHL : P = hi * 18446744073709551616 + lo) (hk : k ≤ 63) (h2k : hi * 2 ^ k < 18446744073709551616) (hlo : lo < 18446744073709551616) (hH : H = hi * 2 ^ k) (hL : L = lo / 2 ^ (64 - k)) (hB : B = lo * 2 ^ k % 18446744073709551616) :
    IntKind.u64.wrap ((hi : Int) * 2 ^ k) = (H : Int) ∧ (lo : Int) / 2 ^ (64 - k) = (L : Int) ∧ bits .or .u64 (H : Int) (L : Int) = ((H + L : Nat) : Int) ∧ IntKind.u64.wrap ((lo : Int) * 2 ^ k) = (B : Int) ∧ (H + L < 18446744073709551616 ∧ B < 18446744073709551616) ∧ (H + L) * 18446744073709551616 + B = P * 2 ^ k := by
  have hp := p2pos k
  have h64 : (18446744073709551616 : Nat) = 2 ^ (64 - k) * 2 ^ k := by
    rw [← Nat.pow_add, show 64 - k + k = 64 by omega]
  have hdiv : lo * 2 ^ k / 18446744073709551616 = L := by rw [h64, Nat.mul_div_mul_right _ _ hp, hL]
  have hdm := Nat.div_add_mod (lo * 2 ^ k) 18446744073709551616
  rw [hdiv, ← hB] at hdm
  have hBl : B < 18446744073709551616 := by rw [hB]; exact Nat.mod_lt _ (by decide)
  have hLl : L < 2 ^ k := by
    rw [← hdiv, Nat.div_lt_iff_lt_mul (by decide), Nat.mul_comm]
    exact Nat.mul_lt_mul_of_pos_left hlo hp
  have hHL : H + L < 18446744073709551616 := by
    have h1 : hi + 1 ≤ 2 ^ (64 - k) := by
      rw [h64] at h2k
      exact Nat.lt_of_mul_lt_mul_right h2k
    have h2 : (hi + 1) * 2 ^ k ≤ 2 ^ (64 - k) * 2 ^ k := Nat.mul_le_mul_right _ h1
    rw [← h64, Nat.add_mul, Nat.one_mul, ← hH] at h2
    omega
  have c1 : (hi : Int) * 2 ^ k = (H : Int) := by rw [hH, Int.natCast_mul, Int.natCast_pow]; rfl
  have c2 : (lo : Int) * 2 ^ k = ((lo * 2 ^ k : Nat) : Int) := by rw [Int.natCast_mul, Int.natCast_pow]; rfl
  refine ⟨?_, ?_, ?_, ?_, ⟨hHL, hBl⟩, ?_⟩
  · rw [c1, IntKind.wrap_u64]; rw [← hH] at h2k; omega
  · have e2 : ((2 : Int) ^ (64 - k)) = ((2 ^ (64 - k) : Nat) : Int) := by rw [Int.natCast_pow]; rfl
    rw [e2, hL, Int.natCast_ediv]
  · rw [hH]
    exact or_apart hi L k hk hLl h2k
  · rw [c2, IntKind.wrap_u64, hB]; omega
  · rw [PHL, Nat.add_mul, Nat.add_mul, ← hdm, hH]
    have : hi * 18446744073709551616 * 2 ^ k = hi * 2 ^ k * 18446744073709551616 := Nat.mul_right_comm ..
    rw [this]
    generalize hi * 2 ^ k = Y
    omega
theorem len_any (n : Nat) (h : n < 18446744073709551616) (w : World) : Calls Try.prog 117 #[.int .u64 (n : Int)] w fun e w' => e = .returned (.int .i64 (Lib.bitLen n : Int)) ∧ w = w' := by
  have := Try.bits_Len64 (n : Int) w (by omega) (by omega)
  rw [Int.toNat_natCast] at this; exact this.mono (by rintro e w' ⟨rfl, rfl⟩; exact ⟨rfl, rfl⟩)
theorem mul_any (x y : Nat) (hx : x < 18446744073709551616) (hy : y < 18446744073709551616) (w : World) : Calls Try.prog 116 #[.int .u64 x, .int .u64 y] w fun e w' => e = .returned (.tuple #[.int .u64 ((x * y / 18446744073709551616 : Nat) : Int), .int .u64 ((x * y % 18446744073709551616 : Nat) : Int)]) ∧ w = w' :=
  (Try.bits_Mul64 x y hx hy w).mono (by rintro e w' ⟨rfl, rfl⟩; exact ⟨rfl, rfl⟩)

theorem w_neg {e y : Nat} {x1 : Int} (h1 : x1 = (e : Int) - 1022) (hy : y = 1075 - e) (he : e ≤ 1075) : wrap64 (x1 - 53) = -(y : Int) ∧ wrap64 (-(-(y : Int))) = (y : Int) := by unfold wrap64; omega
theorem c_shift {num y C D : Nat} (hy : y ≤ 63) (hn : num < 18446744073709551616) (hC : C = num / 2 ^ (64 - y)) (hD : D = num * 2 ^ y % 18446744073709551616) :
    (num : Int) / 2 ^ (64 - y) = (C : Int) ∧ IntKind.u64.wrap ((num : Int) * 2 ^ y) = (D : Int) ∧ C < 18446744073709551616 ∧ D < 18446744073709551616 ∧ C * 18446744073709551616 + D = num * 2 ^ y := by
  obtain ⟨_, s2, _, s4, s5, s6⟩ := shift_up (P := num) (hi := 0) (lo := num) (k := y) (H := 0) (L := C) (B := D) (by omega) hy (by rw [Nat.zero_mul]; decide) hn (by rw [Nat.zero_mul]) hC hD
  rw [Nat.zero_add] at s5 s6
  exact ⟨s2, s4, s5.1, s5.2, s6⟩
theorem cmp_down {hi lo P C D N : Nat} (h1 : P = hi * 18446744073709551616 + lo) (h2 : C * 18446744073709551616 + D = N) : cmpZ ((hi : Int) * 18446744073709551616 + (lo : Int)) ((C : Int) * 18446744073709551616 + (D : Int)) = cmpZ (P : Int) (N : Int) := by
  have e1 : (hi : Int) * 18446744073709551616 + (lo : Int) = (P : Int) := by omega
  have e2 : (C : Int) * 18446744073709551616 + (D : Int) = (N : Int) := by omega
  rw [e1, e2]
theorem cmp_down0 {hi lo P C N : Nat} (h1 : P = hi * 18446744073709551616 + lo) (h2 : C * 18446744073709551616 = N) : cmpZ ((hi : Int) * 18446744073709551616 + (lo : Int)) ((C : Int) * 18446744073709551616 + 0) = cmpZ (P : Int) (N : Int) := by
  have e1 : (hi : Int) * 18446744073709551616 + (lo : Int) = (P : Int) := by omega
  have e2 : (C : Int) * 18446744073709551616 + 0 = (N : Int) := by omega
  rw [e1, e2]
theorem y_facts {y : Nat} (h1 : 1 ≤ y) (h2 : y ≤ 117) : ¬ (0 : Int) ≤ -(y : Int) ∧ ¬ (128 : Int) ≤ (y : Int) := by omega
theorem y_mid {y : Nat} (h1 : 1 ≤ y) (h2 : y ≤ 63) : ¬ (64 : Int) ≤ (y : Int) ∧ wrap64 (64 - (y : Int)) = 64 - (y : Int) ∧ ¬ (64 - (y : Int) < 0) ∧ (0 : Int) ≤ 64 - (y : Int) ∧ (64 - (y : Int)).toNat = 64 - y ∧ IntKind.i64.wrap (64 - (y : Int)) = 64 - (y : Int) := by rw [IntKind.wrap_i64]; unfold wrap64; omega
theorem y_low {y a : Nat} (h1 : 64 ≤ y) (h2 : y ≤ 117) (ha : a ≤ 64) : (64 : Int) ≤ (y : Int) ∧ wrap64 ((a : Int) + (y : Int)) = (a : Int) + (y : Int) ∧ wrap64 ((a : Int) + (y : Int) - 64) = (a : Int) + (y : Int) - 64 ∧ wrap64 ((y : Int) - 64) = ((y - 64 : Nat) : Int) := by unfold wrap64; omega
theorem a_big {a y : Nat} (h : 128 < a + y) : (64 : Int) < (a : Int) + (y : Int) - 64 := by omega
theorem a_small {a y : Nat} (h : ¬ 128 < a + y) : ¬ (64 : Int) < (a : Int) + (y : Int) - 64 := by omega
theorem big_lt {P num a y : Nat} (hP : P < 9007199254740992 * 18446744073709551616) (hn0 : 0 < num) (ha3 : 0 < num → 2 ^ (a - 1) ≤ num) (hbig : 128 < a + y) (hy : y ≤ 117) : (P : Int) < ((num * 2 ^ y : Nat) : Int) := by
  have h1 := ha3 hn0
  have h2 : 2 ^ (a - 1) * 2 ^ y ≤ num * 2 ^ y := Nat.mul_le_mul_right _ h1
  rw [← Nat.pow_add] at h2
  have h3 : (2 : Nat) ^ 128 ≤ 2 ^ (a - 1 + y) := Nat.pow_le_pow_right (by omega) (by omega)
  have h4 : (2 : Nat) ^ 128 = 340282366920938463463374607431768211456 := by decide
  generalize num * 2 ^ y = Y at *
  generalize 2 ^ (a - 1 + y) = Z at *
  clear ha3 h1
  omega
theorem low_shift {num a y D : Nat} (ha2 : num < 2 ^ a) (h : ¬ 128 < a + y) (hy : 64 ≤ y) (hD : D = num * 2 ^ (y - 64)) : IntKind.u64.wrap ((num : Int) * 2 ^ (y - 64)) = (D : Int) ∧ D < 18446744073709551616 ∧ D * 18446744073709551616 = num * 2 ^ y := by
  have h1 := small_lt (k := y - 64) ha2 (by omega)
  rw [← hD] at h1
  have c1 : (num : Int) * 2 ^ (y - 64) = (D : Int) := by rw [hD, Int.natCast_mul, Int.natCast_pow]; rfl
  refine ⟨by rw [c1, IntKind.wrap_u64]; omega, h1, ?_⟩
  rw [hD, show (18446744073709551616 : Nat) = 2 ^ 64 by decide, Nat.mul_assoc, ← Nat.pow_add]
  congr 2; omega

end Go.Proofs.Ytnccgpdniigekaa
/-
  ratio.Cmp of any float and any fraction.
-/
namespace Go.Proofs.Ytnccgpdniigekaa
open Go.RowKit
set_option linter.unusedVariables false
set_option linter.unusedSimpArgs false
attribute [local go_sem high] binOp_lss64 binOp_gtr64 binOp_geq64 binOp_leq64 binOp_eql64 binOp_neq64 f64bits frombits

theorem val_m65 : val 4314448443020935168 * 36893488147419103232 = S := by
  obtain ⟨k, hk⟩ : ∃ k, k = 957 := ⟨_, rfl⟩
  have e : k * 4503599627370496 + 4503599627370496 = 4314448443020935168 := by omega
  have hkq : 52 + k + 65 = Q := by have := Q_eq; omega
  clear hk
  have h := val_em k 4503599627370496 (.inl (Nat.le_refl _)) (by decide)
  rw [e] at h
  have e3 : (4503599627370496 : Nat) = 2 ^ 52 := by decide
  have e4 : (36893488147419103232 : Nat) = 2 ^ 65 := by decide
  rw [h, S_eq, e4, e3, ← Nat.pow_add, ← Nat.pow_add]
  rw [hkq]
theorem sv_nought : sv 0 = 0 := by rw [sv_small (by decide), val_zero]; rfl
theorem num_nought : Num64 0 := num_small (by decide)
theorem sv_64 : sv 4895412794951729152 = 18446744073709551616 * (S : Int) := by
  rw [sv_small (by decide), val_64, Int.natCast_mul]; rfl
theorem num_64 : Num64 4895412794951729152 := num_small (by decide)
theorem sv_m65 : sv 4314448443020935168 * 36893488147419103232 = (S : Int) := by
  rw [sv_small (by decide), ← val_m65, Int.natCast_mul]; rfl
theorem num_m65 : Num64 4314448443020935168 := num_small (by decide)

end Go.Proofs.Ytnccgpdniigekaa
/-
  Along, of the program and of the reference; the small thing that stands ahead of each law.
-/
namespace Go.Proofs.Ytnccgpdniigekaa
open Go.RowKit
set_option linter.unusedVariables false
set_option linter.unusedSimpArgs false
attribute [local go_sem high] binOp_lss64 binOp_gtr64 binOp_geq64 binOp_leq64 binOp_eql64 binOp_neq64 f64bits frombits

/-- Base more by slope times distance; nothing where the language fixes no bits. -/
def alongF (s : Nat) (far : Int) (t : Nat) : Option Nat := (Ieee.double.mul s (floatOfInt .f64 far)).bind fun m => Ieee.double.add m t

theorem cut_nan (x y t : Nat) : INF < rg ((Question.nanBits .f64 x y).cut t) ∧ (Question.nanBits .f64 x y).cut t < 18446744073709551616 := by
  have e : (Question.nanBits .f64 x y).cut t = (t % 2) * 9223372036854775808 + 9218868437227405312 + 1 + (t / 2) % 4503599627370495 := rfl
  rw [e]
  have hl := INF_lit
  have h1 : (t / 2) % 4503599627370495 < 4503599627370495 := Nat.mod_lt _ (by decide)
  generalize (t / 2) % 4503599627370495 = u at h1 ⊢
  have h2 : t % 2 < 2 := Nat.mod_lt _ (by decide)
  generalize t % 2 = v at h2 ⊢
  unfold rg
  omega
theorem run_float_nan {P : Program} (w : World) (op : BinOp) (x y : Nat) (hop : op = .mul ∨ op = .add ∨ op = .sub) (h : floatBits op .f64 x y = none) :
    ∃ r, INF < rg r ∧ r < 18446744073709551616 ∧ ∀ t, (binOp op t (.float .f64 x) (.float .f64 y)).run P w = .ok (.float .f64 r) w.drew := by
  refine ⟨(Question.nanBits .f64 x y).cut (w.tape w.drawn (.nanBits .f64 x y)), (cut_nan x y _).1, (cut_nan x y _).2, ?_⟩
  intro t
  have hf : (Question.nanBits .f64 x y).forced = false := rfl
  unfold floatBits at h
  rcases hop with rfl | rfl | rfl <;> simp only at h <;> simp [binOp, Op.floatArith, h, hf]

theorem not_num {r : Nat} (h : INF < rg r) : ¬ Num64 r := by unfold Num64; omega
theorem nan_op {op : BinOp} {x y : Nat} (hop : op = .mul ∨ op = .add ∨ op = .sub) (h : INF < rg x) : floatBits op .f64 x y = none := by
  have hr := read_nan h
  rcases hop with rfl | rfl | rfl
  · show Ieee.double.mul x y = none
    unfold Ieee.Format.mul; rw [hr]; rfl
  · show Ieee.double.add x y = none
    unfold Ieee.Format.add; rw [hr]; rfl
  · show Ieee.double.sub x y = none
    unfold Ieee.Format.sub; rw [hr]; rfl

/-- What Along hands back. -/
def AlongR (s : Nat) (far : Int) (t : Nat) (r : Nat) : Prop := r < 18446744073709551616 ∧ (alongF s far t = some r ∨ alongF s far t = none ∧ INF < rg r)

set_option maxHeartbeats 1000000 in
theorem alongW_any (s t : Nat) (far : Int) (w : World) :
    Calls Try.prog 75 #[.float .f64 s, .int .u64 far, .float .f64 t] w fun e w' => ∃ r, e = .returned (.float .f64 r) ∧ Hid (AlongR s far t r) ∧ Below w.heap.size w w' := by
  obtain ⟨g, hg⟩ : ∃ g, g = floatOfInt .f64 far := ⟨_, rfl⟩
  have hal : alongF s far t = (Ieee.double.mul s g).bind fun m => Ieee.double.add m t := by rw [hg]; rfl
  cases hm : Ieee.double.mul s g with
  | none =>
    obtain ⟨r1, a1, a2, a3⟩ := run_float_nan (P := Try.prog) w .mul s g (.inl rfl) hm
    obtain ⟨r2, b1, b2, b3⟩ := run_float_nan (P := Try.prog) w.drew .add r1 t (.inr (.inl rfl)) (nan_op (.inr (.inl rfl)) a1)
    have R : Hid (AlongR s far t r2) := Lib.hid ⟨b2, .inr ⟨by rw [hal, hm]; rfl, b1⟩⟩
    have B : Hid (Below w.heap.size w w.drew.drew) := Lib.hid ((Below.refl _ _).drew.drew)
    clear hal hm a1 a2 b1 b2
    have HG := hg.symm
    clear hg
    go_enter Try.func75, Try.ntmps75
    go_wp2
    go_ret
    exact ⟨r2, rfl, R, B.out⟩
  | some m =>
    have hm1 : ∀ tt W, (binOp .mul tt (.float .f64 s) (.float .f64 g)).run Try.prog W = .ok (.float .f64 m) W := fun tt W => run_float_arith W .mul tt .f64 _ _ _ hm
    cases ha : Ieee.double.add m t with
    | none =>
      obtain ⟨r2, b1, b2, b3⟩ := run_float_nan (P := Try.prog) w .add m t (.inr (.inl rfl)) ha
      have R : Hid (AlongR s far t r2) := Lib.hid ⟨b2, .inr ⟨by rw [hal, hm]; exact ha, b1⟩⟩
      have B : Hid (Below w.heap.size w w.drew) := Lib.hid ((Below.refl _ _).drew)
      clear hal hm ha b1 b2
      have HG := hg.symm
      clear hg
      go_enter Try.func75, Try.ntmps75
      go_wp2
      go_ret
      exact ⟨r2, rfl, R, B.out⟩
    | some r =>
      have hm2 : ∀ tt W, (binOp .add tt (.float .f64 m) (.float .f64 t)).run Try.prog W = .ok (.float .f64 r) W := fun tt W => run_float_arith W .add tt .f64 _ _ _ ha
      have hr64 : r < 18446744073709551616 := Ieee.Format.add_lt _ ha
      have R : Hid (AlongR s far t r) := Lib.hid ⟨hr64, .inl (by rw [hal, hm]; exact ha)⟩
      clear hal hm ha hr64
      have HG := hg.symm
      clear hg
      go_enter Try.func75, Try.ntmps75
      go_wp2
      go_ret
      exact ⟨r, rfl, R, Below.refl _ _⟩

set_option maxHeartbeats 1000000 in
theorem refAlong_any (s t : Nat) (far : Int) (w : World) :
    Calls Try.prog 78 #[.float .f64 s, .int .u64 far, .float .f64 t] w fun e w' => ∃ r, e = .returned (.float .f64 r) ∧ Hid (AlongR s far t r) ∧ Below w.heap.size w w' := by
  obtain ⟨g, hg⟩ : ∃ g, g = floatOfInt .f64 far := ⟨_, rfl⟩
  have hal : alongF s far t = (Ieee.double.mul s g).bind fun m => Ieee.double.add m t := by rw [hg]; rfl
  cases hm : Ieee.double.mul s g with
  | none =>
    obtain ⟨r1, a1, a2, a3⟩ := run_float_nan (P := Try.prog) w .mul s g (.inl rfl) hm
    obtain ⟨r2, b1, b2, b3⟩ := run_float_nan (P := Try.prog) w.drew .add r1 t (.inr (.inl rfl)) (nan_op (.inr (.inl rfl)) a1)
    have R : Hid (AlongR s far t r2) := Lib.hid ⟨b2, .inr ⟨by rw [hal, hm]; rfl, b1⟩⟩
    have B : Hid (Below w.heap.size w w.drew.drew) := Lib.hid ((Below.refl _ _).drew.drew)
    clear hal hm a1 a2 b1 b2
    have HG := hg.symm
    clear hg
    go_enter Try.func78, Try.ntmps78
    go_wp2
    go_ret
    exact ⟨r2, rfl, R, B.out⟩
  | some m =>
    have hm1 : ∀ tt W, (binOp .mul tt (.float .f64 s) (.float .f64 g)).run Try.prog W = .ok (.float .f64 m) W := fun tt W => run_float_arith W .mul tt .f64 _ _ _ hm
    cases ha : Ieee.double.add m t with
    | none =>
      obtain ⟨r2, b1, b2, b3⟩ := run_float_nan (P := Try.prog) w .add m t (.inr (.inl rfl)) ha
      have R : Hid (AlongR s far t r2) := Lib.hid ⟨b2, .inr ⟨by rw [hal, hm]; exact ha, b1⟩⟩
      have B : Hid (Below w.heap.size w w.drew) := Lib.hid ((Below.refl _ _).drew)
      clear hal hm ha b1 b2
      have HG := hg.symm
      clear hg
      go_enter Try.func78, Try.ntmps78
      go_wp2
      go_ret
      exact ⟨r2, rfl, R, B.out⟩
    | some r =>
      have hm2 : ∀ tt W, (binOp .add tt (.float .f64 m) (.float .f64 t)).run Try.prog W = .ok (.float .f64 r) W := fun tt W => run_float_arith W .add tt .f64 _ _ _ ha
      have hr64 : r < 18446744073709551616 := Ieee.Format.add_lt _ ha
      have R : Hid (AlongR s far t r) := Lib.hid ⟨hr64, .inl (by rw [hal, hm]; exact ha)⟩
      clear hal hm ha hr64
      have HG := hg.symm
      clear hg
      go_enter Try.func78, Try.ntmps78
      go_wp2
      go_ret
      exact ⟨r, rfl, R, Below.refl _ _⟩

theorem nr_third : nr 1 3 = 4599676419421066581 := nr_eq (by decide) ⟨fun _ => by decide +kernel, by decide +kernel, fun _ => by decide +kernel⟩
theorem cmp_tenth : cmpF 4591870180066957722 1 10 = 1 := by decide +kernel
theorem clamp_29 : clampI 4613712638259704627 0 5 = 2 := by decide +kernel
theorem along_35 : alongF 4602678819172646912 3 4611686018427387904 = some 4615063718147915776 := by decide +kernel
end Go.Proofs.Ytnccgpdniigekaa
/-
  Plain: sums of floats do not fall where what is added rises.
-/
namespace Go.Proofs.Ytnccgpdniigekaa
set_option linter.unusedVariables false
set_option linter.unusedSimpArgs false

theorem sg_sum {s t : Bool} {x : Int} {q : Nat} (hq : q ≤ INF) (h : Near x.natAbs 1 q) : (0 ≤ x → sv (wd (sumNeg s t x) q) = (val q : Int)) ∧ (x < 0 → sv (wd (sumNeg s t x) q) = -(val q : Int)) := by
  constructor
  · intro hx
    rw [sv_of hq]
    by_cases h0 : x = 0
    · subst h0
      have hz : q = 0 := near_unique h (near_zero 1) (by decide) (by decide) rfl
      subst hz
      rw [val_zero]; cases (sumNeg s t 0) <;> rfl
    · unfold sumNeg
      rw [if_neg h0, decide_eq_false (by omega)]; rfl
  · intro hx
    rw [sv_of hq]
    unfold sumNeg
    rw [if_neg (by omega), decide_eq_true hx]; rfl
theorem sum_mono {s t s' t' : Bool} {x y : Int} {q q' : Nat} (hq : q ≤ INF) (hq' : q' ≤ INF) (h : Near x.natAbs 1 q) (h' : Near y.natAbs 1 q') (hxy : x ≤ y) : sv (wd (sumNeg s t x) q) ≤ sv (wd (sumNeg s' t' y) q') := by
  have a := sg_sum (s := s) (t := t) hq h
  have b := sg_sum (s := s') (t := t') hq' h'
  by_cases hx : 0 ≤ x
  · rw [a.1 hx, b.1 (by omega)]
    have := val_le (near_mono h h' (by decide) (by decide) (by omega))
    omega
  · rw [a.2 (by omega)]
    by_cases hy : 0 ≤ y
    · rw [b.1 hy]; omega
    · rw [b.2 (by omega)]
      have := val_le (near_mono h' h (by decide) (by decide) (by omega))
      omega

/-- A whole number from 0 on as a float: its rung. -/
theorem ofInt_near (n : Nat) (hn : n ≤ 18446744073709551616) : ∃ q, floatOfInt .f64 (n : Int) = q ∧ Near (n * S) 1 q ∧ q ≤ 4895412794951729152 := by
  obtain ⟨q, h1, h2⟩ := nearest_int (n : Int)
  rw [Int.natAbs_natCast] at h2
  have hq : q ≤ 4895412794951729152 := by
    refine near_mono h2 (near_exact 1 4895412794951729152 (by decide)) (by decide) (by decide) ?_
    rw [Nat.mul_one, Nat.mul_one, Nat.mul_one, val_64]
    exact Nat.mul_le_mul_right _ hn
  have hl := INF_lit
  have e : min q INF = q := Nat.min_eq_left (by omega)
  rw [decide_eq_false (by omega : ¬ (n : Int) < 0), e, wd_pos] at h1
  refine ⟨q, ?_, h2, hq⟩
  show Ieee.double.write (.number (decide ((n : Int) < 0)) (n : Int).natAbs 0) = q
  rw [decide_eq_false (by omega : ¬ (n : Int) < 0)]
  exact h1

/-- The product of a slope and a distance. -/
theorem mul_near (s n : Nat) (hs : s ≤ 4895412794951729152) (hn : n ≤ 18446744073709551616) : ∃ q o, Ieee.double.mul s (floatOfInt .f64 (n : Int)) = some q ∧ Near (n * S) 1 o ∧ Near (val s * val o) S q ∧ q ≤ 1151 * 4503599627370496 := by
  obtain ⟨o, ho, hno, hob⟩ := ofInt_near n hn
  have hl := INF_lit
  rw [ho]
  obtain ⟨q, h1, h2⟩ := mul_fin (fin_small (r := s) (by omega)) (fin_small (r := o) (by omega))
  rw [rg_small (r := s) (by omega), rg_small (r := o) (by omega)] at h2
  have hq : q ≤ 1151 * 4503599627370496 := by
    refine near_mono h2 (near_exact 1 (1151 * 4503599627370496) (by decide)) S_pos (by decide) ?_
    rw [Nat.mul_one, Nat.mul_one, val_128]
    have a1 : val s ≤ 18446744073709551616 * S := by rw [← val_64]; exact val_le hs
    have a2 : val o ≤ 18446744073709551616 * S := by rw [← val_64]; exact val_le hob
    have a3 := Nat.mul_le_mul a1 a2
    have a4 : 18446744073709551616 * S * (18446744073709551616 * S) = 340282366920938463463374607431768211456 * S * S := by
      have : (340282366920938463463374607431768211456 : Nat) = 18446744073709551616 * 18446744073709551616 := by decide
      rw [this]; ac_rfl
    omega
  have e : min q INF = q := Nat.min_eq_left (by omega)
  rw [ng_small (r := s) (by omega), ng_small (r := o) (by omega), e] at h1
  exact ⟨q, o, h1, hno, h2, hq⟩

/-- A base, as a float. -/
theorem base_fin (t : Int) (h1 : -9223372036854775808 ≤ t) (h2 : t ≤ 9223372036854775807) : ∃ b, floatOfInt .f64 t = b ∧ Fin64 b ∧ -(9223372036854775808 * (S : Int)) ≤ sv b ∧ sv b ≤ 9223372036854775808 * (S : Int) ∧ b < 18446744073709551616 := by
  obtain ⟨q, e1, e2⟩ := nearest_int t
  have hq : q ≤ 4890909195324358656 := by
    refine near_mono e2 (near_exact 1 4890909195324358656 (by decide)) (by decide) (by decide) ?_
    rw [Nat.mul_one, Nat.mul_one, Nat.mul_one, val_63]
    exact Nat.mul_le_mul_right _ (by omega)
  have hl := INF_lit
  have e : min q INF = q := Nat.min_eq_left (by omega)
  rw [e] at e1
  have hv : val q ≤ 9223372036854775808 * S := by rw [← val_63]; exact val_le hq
  have hv' := Int.ofNat_le.2 hv
  rw [Int.natCast_mul] at hv'
  refine ⟨wd (decide (t < 0)) q, e1, fin_of (by omega), ?_, ?_, wd_lt (by omega)⟩
  · rw [sv_of (by omega)]; unfold sg; split <;> omega
  · rw [sv_of (by omega)]; unfold sg; split <;> omega

theorem val_129 : val (1152 * 4503599627370496) = 680564733841876926926749214863536422912 * S := by have := val_two_pow 129; simpa using this
theorem sum_bound {m b q : Nat} (hm : m ≤ 1151 * 4503599627370496) (hb1 : -(9223372036854775808 * (S : Int)) ≤ sv b) (hb2 : sv b ≤ 9223372036854775808 * (S : Int)) (h : Near (sv m + sv b).natAbs 1 q) : q ≤ INF := by
  have hl := INF_lit
  have : q ≤ 1152 * 4503599627370496 := by
    refine near_mono h (near_exact 1 (1152 * 4503599627370496) (by decide)) (by decide) (by decide) ?_
    rw [Nat.mul_one, Nat.mul_one, Nat.mul_one, val_129]
    have hv : val m ≤ 340282366920938463463374607431768211456 * S := by rw [← val_128]; exact val_le hm
    rw [sv_small (r := m) (by omega)]
    generalize S = k at *
    omega
  omega
/-- What Along reckons does not fall where the distance rises. -/
theorem along_rises (s n n' : Nat) (t : Int) (hs : s ≤ 4895412794951729152) (hnn : n ≤ n') (hn : n' ≤ 18446744073709551616) (h1 : -9223372036854775808 ≤ t) (h2 : t ≤ 9223372036854775807) :
    ∃ a b, alongF s n (floatOfInt .f64 t) = some a ∧ alongF s n' (floatOfInt .f64 t) = some b ∧ Num64 a ∧ Num64 b ∧ sv a ≤ sv b := by
  obtain ⟨m, o, m1, m2, m3, m4⟩ := mul_near s n hs (by omega)
  obtain ⟨m', o', m1', m2', m3', m4'⟩ := mul_near s n' hs hn
  obtain ⟨b, hb, hbf, hb1, hb2, -⟩ := base_fin t h1 h2
  have hl := INF_lit
  have ho : o ≤ o' := near_mono m2 m2' (by decide) (by decide) (by rw [Nat.mul_one, Nat.mul_one]; exact Nat.mul_le_mul_right _ hnn)
  have hm : m ≤ m' := near_mono m3 m3' S_pos S_pos (Nat.mul_le_mul_right _ (Nat.mul_le_mul_left _ (val_le ho)))
  obtain ⟨q, a1, a2⟩ := add_fin (fin_small (r := m) (by omega)) hbf
  obtain ⟨q', a1', a2'⟩ := add_fin (fin_small (r := m') (by omega)) hbf
  unfold alongF
  rw [hb, m1, m1']
  refine ⟨_, _, a1, a1', num_of (Nat.min_le_right ..), num_of (Nat.min_le_right ..), ?_⟩
  have hq := sum_bound m4 hb1 hb2 a2
  have hq' := sum_bound m4' hb1 hb2 a2'
  rw [Nat.min_eq_left hq, Nat.min_eq_left hq']
  refine sum_mono hq hq' a2 a2' ?_
  rw [sv_small (r := m) (by omega), sv_small (r := m') (by omega)]
  have := val_le hm
  omega
end Go.Proofs.Ytnccgpdniigekaa
