/-
  Go's library functions on floats, as the program calls them.
-/
import Derived.Test.YtnccgpdniigekaaQG11
import Derived.Test.YtnccgpdniigekaaProg
import Derived.Test.YtnccgpdniigekaaQG28
import Derived.Laws.BitsAllLaws
import Derived.WalkLawsBesides
import Derived.Laws.Externs
import Derived.Deep.CutBlock
import Derived.Test.YtnccgpdniigekaaQG18
namespace Go.Proofs.Ytnccgpdniigekaa
open Go.RowKit
set_option linter.unusedVariables false
set_option linter.unusedSimpArgs false

/-- How floats stand to each other; a NaN to none. -/
def fLt (a b : Nat) : Prop := Num64 a ∧ Num64 b ∧ sv a < sv b
def fLe (a b : Nat) : Prop := Num64 a ∧ Num64 b ∧ sv a ≤ sv b
def fEq (a b : Nat) : Prop := Num64 a ∧ Num64 b ∧ sv a = sv b
instance (a b : Nat) : Decidable (fLt a b) := by unfold fLt Num64; infer_instance
instance (a b : Nat) : Decidable (fLe a b) := by unfold fLe Num64; infer_instance
instance (a b : Nat) : Decidable (fEq a b) := by unfold fEq Num64; infer_instance
theorem binOp_lss64 (t : TypeId) (a b : Nat) : binOp .lss t (.float .f64 a) (.float .f64 b) = pure (.bool (decide (fLt a b))) := by
  rw [binOp_float_cmp_lss]
  show pure (Value.bool (Ieee.double.order a b == some .lt)) = _
  by_cases h : Num64 a ∧ Num64 b
  · rw [lss_num h.1 h.2]; simp [fLt, h.1, h.2]
  · rw [order_nan (by by_cases h1 : Num64 a; exact .inr (fun h2 => h ⟨h1, h2⟩); exact .inl h1), decide_eq_false (fun hh => h ⟨hh.1, hh.2.1⟩)]; rfl
theorem binOp_gtr64 (t : TypeId) (a b : Nat) : binOp .gtr t (.float .f64 a) (.float .f64 b) = pure (.bool (decide (fLt b a))) := by
  rw [binOp_float_cmp_gtr]
  show pure (Value.bool (Ieee.double.order a b == some .gt)) = _
  by_cases h : Num64 a ∧ Num64 b
  · rw [gtr_num h.1 h.2]; simp [fLt, h.1, h.2]
  · rw [order_nan (by by_cases h1 : Num64 a; exact .inr (fun h2 => h ⟨h1, h2⟩); exact .inl h1), decide_eq_false (fun hh => h ⟨hh.2.1, hh.1⟩)]; rfl
theorem binOp_geq64 (t : TypeId) (a b : Nat) : binOp .geq t (.float .f64 a) (.float .f64 b) = pure (.bool (decide (fLe b a))) := by
  rw [binOp_float_cmp_geq]
  show pure (Value.bool (Ieee.double.order a b == some .gt || Ieee.double.order a b == some .eq)) = _
  by_cases h : Num64 a ∧ Num64 b
  · rw [geq_num h.1 h.2]; simp [fLe, h.1, h.2]
  · rw [order_nan (by by_cases h1 : Num64 a; exact .inr (fun h2 => h ⟨h1, h2⟩); exact .inl h1), decide_eq_false (fun hh => h ⟨hh.2.1, hh.1⟩)]; rfl
theorem binOp_leq64 (t : TypeId) (a b : Nat) : binOp .leq t (.float .f64 a) (.float .f64 b) = pure (.bool (decide (fLe a b))) := by
  rw [binOp_float_cmp_leq]
  show pure (Value.bool (Ieee.double.order a b == some .lt || Ieee.double.order a b == some .eq)) = _
  by_cases h : Num64 a ∧ Num64 b
  · rw [leq_num h.1 h.2]; simp [fLe, h.1, h.2]
  · rw [order_nan (by by_cases h1 : Num64 a; exact .inr (fun h2 => h ⟨h1, h2⟩); exact .inl h1), decide_eq_false (fun hh => h ⟨hh.1, hh.2.1⟩)]; rfl
theorem binOp_eql64 (t : TypeId) (a b : Nat) : binOp .eql t (.float .f64 a) (.float .f64 b) = pure (.bool (decide (fEq a b))) := by
  rw [binOp_float_cmp_eql]
  show pure (Value.bool (Ieee.double.order a b == some .eq)) = _
  by_cases h : Num64 a ∧ Num64 b
  · rw [eql_num h.1 h.2]; simp [fEq, h.1, h.2]
  · rw [order_nan (by by_cases h1 : Num64 a; exact .inr (fun h2 => h ⟨h1, h2⟩); exact .inl h1), decide_eq_false (fun hh => h ⟨hh.1, hh.2.1⟩)]; rfl
theorem binOp_neq64 (t : TypeId) (a b : Nat) : binOp .neq t (.float .f64 a) (.float .f64 b) = pure (.bool (decide (¬ fEq a b))) := by
  rw [binOp_float_cmp_neq]
  show pure (Value.bool (!(Ieee.double.order a b == some .eq))) = _
  by_cases h : Num64 a ∧ Num64 b
  · rw [eql_num h.1 h.2]; simp [fEq, h.1, h.2]
  · have hn : ¬ fEq a b := fun hh => h ⟨hh.1, hh.2.1⟩
    rw [order_nan (by by_cases h1 : Num64 a; exact .inr (fun h2 => h ⟨h1, h2⟩); exact .inl h1)]; simp [hn]
attribute [irreducible] fLt fLe fEq

theorem f64bits (b : Nat) (w : World) : (callFunc 45 #[.float .f64 b]).run Try.prog w = .ok (.value (.int .u64 (b : Int))) w := by
  rw [run_callFunc_extern Try.func45 (by kernel_rfl) (by kernel_rfl) (by kernel_rfl) (e := Extern.MathFloatBits.float64bits) (by kernel_rfl)]
  rfl
theorem frombits (n : Int) (w : World) : (callFunc 55 #[.int .u64 n]).run Try.prog w = .ok (.value (.float .f64 n.toNat)) w := by
  rw [run_callFunc_extern Try.func55 (by kernel_rfl) (by kernel_rfl) (by kernel_rfl) (e := Extern.MathFloatBits.float64frombits) (by kernel_rfl)]
  rfl
attribute [local go_sem high] binOp_lss64 binOp_gtr64 binOp_geq64 binOp_leq64 binOp_eql64 binOp_neq64 f64bits frombits

theorem fEq_self (b : Nat) : fEq b b ↔ rg b ≤ INF := by unfold fEq Num64; exact ⟨fun h => h.1, fun h => ⟨h, h, rfl⟩⟩

theorem isNaN_any (b : Nat) (w : World) : Calls Try.prog 89 #[.float .f64 b] w fun e w' => e = .returned (.bool (decide (INF < rg b))) ∧ w = w' := by
  have e : decide (¬ fEq b b) = decide (INF < rg b) := by
    rw [decide_eq_decide, fEq_self]; omega
  go_enter Try.func89, Try.ntmps89
  go_wp2
  simp [bodyPost, results, Try.results89, go_sem, ← e]

theorem andNot_sign (b : Nat) (h : b < 18446744073709551616) : bits .andNot .u64 (b : Int) 9223372036854775808 = ((rg b : Nat) : Int) := by
  have := u64_andNot_nat b 9223372036854775808 h (by decide)
  rw [show ((9223372036854775808 : Nat) : Int) = 9223372036854775808 from rfl] at this
  rw [this]
  have e : 18446744073709551615 - 9223372036854775808 = 2 ^ 63 - 1 := by decide
  rw [e, Nat.and_two_pow_sub_one_eq_mod]; rfl
theorem andNot_exp (b : Nat) (h : b < 9223372036854775808) : bits .andNot .u64 (b : Int) 9218868437227405312 = ((b % 4503599627370496 : Nat) : Int) := by
  have := u64_andNot_nat b 9218868437227405312 (by omega) (by decide)
  rw [show ((9218868437227405312 : Nat) : Int) = 9218868437227405312 from rfl] at this
  rw [this]
  have e : 9223372036854775807 &&& (18446744073709551615 - 9218868437227405312) = 2 ^ 52 - 1 := by decide
  have e2 : b &&& 9223372036854775807 = b := by
    rw [show 9223372036854775807 = 2 ^ 63 - 1 by decide, Nat.and_two_pow_sub_one_eq_mod]; omega
  rw [← e2, Nat.and_assoc, e, Nat.and_two_pow_sub_one_eq_mod, e2]
theorem or_exp (low e : Nat) (hl : low < 4503599627370496) (he : e < 4096) : bits .or .u64 (low : Int) ((e * 4503599627370496 : Nat) : Int) = ((e * 4503599627370496 + low : Nat) : Int) := by
  rw [u64_or_nat low (e * 4503599627370496) (by omega) (by omega), Nat.or_comm]
  congr 1
  have h := Nat.two_pow_add_eq_or_of_lt (show low < 2 ^ 52 by omega) e
  rw [show 4503599627370496 = 2 ^ 52 by decide, Nat.mul_comm, h]
theorem and_2047 (b : Nat) (h : b < 9223372036854775808) : bits .and .u64 ((b / 4503599627370496 : Nat) : Int) 2047 = ((b / 4503599627370496 : Nat) : Int) := by
  have := u64_and_nat (b / 4503599627370496) 2047 (by omega) (by decide)
  rw [show ((2047 : Nat) : Int) = 2047 from rfl] at this
  rw [this, show 2047 = 2 ^ 11 - 1 by decide, Nat.and_two_pow_sub_one_eq_mod]
  congr 1; omega

theorem abs_any (b : Nat) (hb : b < 18446744073709551616) (w : World) : Calls Try.prog 105 #[.float .f64 b] w fun e w' => e = .returned (.float .f64 (rg b)) ∧ w = w' := by
  have e := andNot_sign b hb
  go_enter Try.func105, Try.ntmps105
  go_wp2
  simp [bodyPost, results, Try.results105, go_sem, e]
end Go.Proofs.Ytnccgpdniigekaa
/-
  math.IsInf, Frexp, Ldexp and Floor, as the program calls them.
-/
namespace Go.Proofs.Ytnccgpdniigekaa
open Go.RowKit
set_option linter.unusedVariables false
set_option linter.unusedSimpArgs false
attribute [local go_sem high] binOp_lss64 binOp_gtr64 binOp_geq64 binOp_leq64 binOp_eql64 binOp_neq64 f64bits frombits

theorem num_small {r : Nat} (h : r ≤ INF) : Num64 r := num_of (s := false) h
theorem fin_small {r : Nat} (h : r < INF) : Fin64 r := fin_of (s := false) h
theorem rg_small {r : Nat} (h : r ≤ INF) : rg r = r := rg_of (s := false) h
theorem ng_small {r : Nat} (h : r ≤ INF) : ng r = false := ng_of (s := false) h
theorem sv_small {r : Nat} (h : r ≤ INF) : sv r = (val r : Int) := sv_of (s := false) h

theorem isInf_any (b : Nat) (hb : b < 18446744073709551616) (w : World) : Calls Try.prog 90 #[.float .f64 b, .int .i64 0] w fun e w' => e = .returned (.bool (decide (rg b = INF))) ∧ w = w' := by
  have hl := INF_lit
  have e : fLt 9218868437227405311 (rg b) ↔ rg b = INF := by
    have h1 : Num64 9218868437227405311 := num_small (by omega)
    have h2 : rg (rg b) = rg b := by unfold rg; omega
    unfold fLt Num64
    rw [h2]
    constructor
    · rintro ⟨_, hn, hlt⟩
      rw [sv_small (by omega), sv_small hn] at hlt
      have := val_lt_iff.1 (Int.ofNat_lt.1 hlt); omega
    · intro h
      refine ⟨h1, by omega, ?_⟩
      rw [sv_small (by omega), sv_small (by omega)]
      exact Int.ofNat_lt.2 (val_lt (by omega))
  have F := abs_any b hb
  go_enter Try.func90, Try.ntmps90
  go_wp2_with (go_at_call 105; refine (F _).mono ?_; rintro e w' ⟨rfl, rfl⟩)
  simp [bodyPost, results, Try.results90, go_sem, e, hl]

/-- A normal float above zero. -/
structure Norm64 (b : Nat) : Prop where
  lo : 4503599627370496 ≤ b
  hi : b < INF
theorem Norm64.lt {b : Nat} (h : Norm64 b) : b < 9223372036854775808 := by have := h.hi; have := INF_lit; omega
theorem Norm64.rg {b : Nat} (h : Norm64 b) : rg b = b := rg_small (Nat.le_of_lt h.hi)
theorem Norm64.num {b : Nat} (h : Norm64 b) : Num64 b := num_small (Nat.le_of_lt h.hi)
theorem Norm64.fin {b : Nat} (h : Norm64 b) : Fin64 b := fin_small h.hi

theorem normalize_any (b : Nat) (h : Norm64 b) (w : World) : Calls Try.prog 135 #[.float .f64 b] w fun e w' => e = .returned (.tuple #[.float .f64 b, .int .i64 0]) ∧ w = w' := by
  have F := abs_any b (by have := h.lt; omega)
  have hr := h.rg
  rw [hr] at F
  have hn : ¬ fLt b 4503599627370496 := by
    unfold fLt; rintro ⟨h1, h2, h3⟩
    rw [sv_small (Nat.le_of_lt h.hi), sv_small (by decide)] at h3
    have := val_lt_iff.1 (Int.ofNat_lt.1 h3); have := h.lo; omega
  go_enter Try.func135, Try.ntmps135
  go_wp2_with (go_at_call 105; refine (F _).mono ?_; rintro e w' ⟨rfl, rfl⟩)
  simp [bodyPost, results, Try.results135, go_sem]

/-- One times a finite float. -/
theorem one_mul64 {r : Nat} (h : r < INF) : Ieee.double.mul 4607182418800017408 r = some r := by
  have e1 : ng 4607182418800017408 = false := ng_small (by decide)
  have e2 : rg 4607182418800017408 = 4607182418800017408 := rg_small (by decide)
  have e3 := ng_small (Nat.le_of_lt h)
  have e4 := rg_small (Nat.le_of_lt h)
  have := mul_exact (a := 4607182418800017408) (b := r) (r := r) (fin_small (by decide)) (fin_small h) (Nat.le_of_lt h) (by rw [e2, e4, val_one, Nat.mul_comm])
  rw [e1, e3] at this; exact this

theorem and_2047i (p : Nat) (h : p < 2048) : bits .and .i64 (p : Int) 2047 = (p : Int) := by
  have := (bits_nat .i64 63 (by decide) (fun n h0 h1 => by rw [IntKind.wrap_i64]; omega) p 2047 (by omega) (by decide)).1
  rw [show ((2047 : Nat) : Int) = 2047 from rfl] at this
  rw [this, show 2047 = 2 ^ 11 - 1 by decide, Nat.and_two_pow_sub_one_eq_mod]
  congr 1; omega

theorem ldexp_in (b : Nat) (x : Int) (h : Norm64 b) (hx : -2000 ≤ x ∧ x ≤ 2000) (h1 : 1 ≤ x + (b / 4503599627370496 : Nat)) (h2 : x + (b / 4503599627370496 : Nat) ≤ 2046) (w : World) :
    Calls Try.prog 130 #[.float .f64 b, .int .i64 x] w fun e w' => e = .returned (.float .f64 (b + x * 4503599627370496).toNat) ∧ w = w' := by
  have hlt := h.lt
  have hlo := h.lo
  have hr := h.rg
  have FI := isInf_any b (by omega)
  have FN := isNaN_any b
  have FZ := normalize_any b h
  rw [hr] at FI FN
  have d1 : decide (b = INF) = false := decide_eq_false (by have := h.hi; omega)
  have d2 : decide (INF < b) = false := decide_eq_false (by have := h.hi; omega)
  rw [d1] at FI; rw [d2] at FN
  have z : ¬ fEq b 0 := by
    unfold fEq; rintro ⟨_, _, h3⟩
    rw [sv_small (Nat.le_of_lt h.hi), sv_small (by decide)] at h3
    have := val_inj (Int.ofNat_inj.1 h3); omega
  obtain ⟨p, hp'⟩ : ∃ p : Nat, p = b / 4503599627370496 := ⟨_, rfl⟩
  rw [← hp'] at h1 h2
  have hp : (b : Int) / 4503599627370496 = (p : Int) := by omega
  have hpl : p < 2048 := by omega
  obtain ⟨e, he⟩ : ∃ e : Nat, x + (p : Int) = (e : Int) := ⟨(x + (p : Int)).toNat, by omega⟩
  obtain ⟨r, hrr⟩ : ∃ r : Nat, r = e * 4503599627370496 + b % 4503599627370496 := ⟨_, rfl⟩
  have hrl : r < INF := by have := INF_lit; omega
  have hres : ((b : Int) + x * 4503599627370496).toNat = r := by omega
  rw [hres]
  have e1 : bits .and .i64 (p : Int) 2047 = (p : Int) := and_2047i p hpl
  have e2 : wrap64 ((p : Int) - 1023) = (p : Int) - 1023 := by unfold wrap64; omega
  have e3 : wrap64 (x + ((p : Int) - 1023)) = x + ((p : Int) - 1023) := by unfold wrap64; omega
  have e4 : bits .andNot .u64 (b : Int) 9218868437227405312 = (b : Int) % 4503599627370496 := by rw [andNot_exp b hlt]; simp
  have e5 : bits .or .u64 ((b : Int) % 4503599627370496) ((x + ((p : Int) - 1023) + 1023) * 4503599627370496) = (r : Int) := by
    rw [show x + ((p : Int) - 1023) + 1023 = (e : Int) by omega]
    have := or_exp (b % 4503599627370496) e (by omega) (by omega)
    rw [← hrr] at this; simpa using this
  have HM : ∀ t W, (binOp .mul t (.float .f64 4607182418800017408) (.float .f64 r)).run Try.prog W = .ok (.float .f64 r) W := fun t W => run_float_arith W .mul t .f64 _ _ _ (one_mul64 hrl)
  have g1 : ¬ (x + ((p : Int) - 1023) < -1075) := by omega
  have g2 : ¬ (1023 < x + ((p : Int) - 1023)) := by omega
  have g3 : ¬ (x + ((p : Int) - 1023) < -1022) := by omega
  have hl1 := Lib.hid h1; have hl2 := Lib.hid h2; clear h1 h2
  have hh := Lib.hid he; clear he
  have hh2 := Lib.hid hrr; clear hrr hres
  have hh3 := Lib.hid hp'; clear hp'
  go_enter Try.func130, Try.ntmps130
  go_wp2_with (first | (go_at_call 90; refine (FI _).mono ?_; rintro e w' ⟨rfl, rfl⟩) | (go_at_call 89; refine (FN _).mono ?_; rintro e w' ⟨rfl, rfl⟩) | (go_at_call 135; refine (FZ _).mono ?_; rintro e w' ⟨rfl, rfl⟩))
  all_goals simp [bodyPost, results, Try.results130, go_sem]
end Go.Proofs.Ytnccgpdniigekaa
/-
  math.Ldexp and Floor; ratio.pack: 64 digits and what is behind them as the nearest float.
-/
namespace Go.Proofs.Ytnccgpdniigekaa
open Go.RowKit
set_option linter.unusedVariables false
set_option linter.unusedSimpArgs false
attribute [local go_sem high] binOp_lss64 binOp_gtr64 binOp_geq64 binOp_leq64 binOp_eql64 binOp_neq64 f64bits frombits

theorem ldexp_any (b : Nat) (x : Int) (h : Norm64 b) (hx : -2000 ≤ x ∧ x ≤ 2000) (h1 : 1 ≤ x + (b / 4503599627370496 : Nat)) (h2 : x + (b / 4503599627370496 : Nat) ≤ 2046) (w : World) :
    Calls Try.prog 118 #[.float .f64 b, .int .i64 x] w fun e w' => e = .returned (.float .f64 (b + x * 4503599627370496).toNat) ∧ w = w' := by
  have F := ldexp_in b x h hx h1 h2
  generalize ((b : Int) + x * 4503599627370496).toNat = r at F ⊢
  clear h1 h2
  go_enter Try.func118, Try.ntmps118
  go_wp2_with (go_at_call 130; refine (F _).mono ?_; rintro e w' ⟨rfl, rfl⟩)
  simp [bodyPost, results, Try.results118, go_sem]

theorem archFloor_run {b : Nat} (h : Fin64 b) (w : World) : (callFunc 106 #[.float .f64 b]).run Try.prog w = .ok (.value (.float .f64 (Ieee.double.write ((Ieee.double.read b).integral .down)))) w := by
  rw [run_callFunc_extern Try.func106 (by kernel_rfl) (by kernel_rfl) (by kernel_rfl) (e := Extern.MathFloor.toIntegral "math.archFloor" .down) (by kernel_rfl)]
  have e : (Extern.MathFloor.toIntegral "math.archFloor" .down #[.float .f64 b]).run Try.prog w = .ok (.float .f64 (Ieee.double.write ((Ieee.double.read b).integral .down))) w := by
    unfold Extern.MathFloor.toIntegral
    show Sem.run Try.prog (match Ieee.double.read b with | .nan s t => _ | d => _) w = _
    rw [read_fin h]; rfl
  rw [e]; rfl

theorem floor_any {b : Nat} (h : Fin64 b) (w : World) : Calls Try.prog 91 #[.float .f64 b] w fun e w' => e = .returned (.float .f64 (Ieee.double.write ((Ieee.double.read b).integral .down))) ∧ w = w' := by
  have F := fun W => archFloor_run h W
  generalize Ieee.double.write ((Ieee.double.read b).integral .down) = r at F ⊢
  go_enter Try.func91, Try.ntmps91
  go_wp2
  simp [bodyPost, results, Try.results91, go_sem]

/-- A whole number that is a float's value, as a float. -/
theorem ofInt_exact (n r : Nat) (hr : r ≤ INF) (h : val r = n * S) : floatOfInt .f64 (n : Int) = r := by
  show Ieee.double.write (.number (decide ((n : Int) < 0)) (n : Int).natAbs 0) = r
  rw [decide_eq_false (by omega : ¬ (n : Int) < 0), Int.natAbs_natCast]
  have e1 : ((0 : Int) + 1074).toNat = Q := by have := Q_eq; omega
  have e2 : ((-1074 : Int) - 0).toNat = 0 := by omega
  exact write_exact false n 0 r hr (by rw [e1, e2, h, S_eq]; simp)
theorem ofInt_53 (n : Nat) (h1 : 4503599627370496 ≤ n) (h2 : n ≤ 9007199254740992) : floatOfInt .f64 (n : Int) = 1074 * 4503599627370496 + n := by
  refine ofInt_exact n _ (by have := INF_lit; omega) ?_
  rw [val_em 1074 n (.inl h1) h2, S_eq, Q_eq]

/-- 64 digits cut to 53, and rounded. -/
def pk (m : Nat) (more : Bool) : Nat := m / 2048 + (if 1024 < m % 2048 ∨ m % 2048 = 1024 ∧ (more = true ∨ m / 2048 % 2 = 1) then 1 else 0)

theorem lz_zero (m : Nat) (h1 : 9223372036854775808 ≤ m) (h2 : m < 18446744073709551616) : lz (m : Int) = 0 := by
  obtain ⟨a, b, c, d⟩ := lz_spec (m : Int) (by omega) (by omega)
  rcases Nat.eq_zero_or_pos (lz (m : Int)).toNat with h | h
  · omega
  · exfalso
    obtain ⟨k, hk⟩ : ∃ k, (lz (m : Int)).toNat = k + 1 := ⟨(lz (m : Int)).toNat - 1, by omega⟩
    rw [hk, Int.pow_succ] at d
    have : (1 : Int) ≤ 2 ^ k := by exact_mod_cast Nat.one_le_two_pow
    have h3 : (m : Int) * 1 ≤ (m : Int) * 2 ^ k := Int.mul_le_mul_of_nonneg_left this (by omega)
    have h4 : (m : Int) * (2 ^ k * 2) = (m : Int) * 2 ^ k * 2 := by rw [Int.mul_assoc]
    rw [h4] at d; omega

theorem pack_any (m : Nat) (more : Bool) (x : Int) (h1 : 9223372036854775808 ≤ m) (h2 : m < 18446744073709551616) (hx : -1000 ≤ x ∧ x ≤ 500) (w : World) :
    Calls Try.prog 100 #[.int .u64 m, .bool more, .int .i64 x] w fun e w' => e = .returned (.float .f64 ((x + 1085) * 4503599627370496 + pk m more).toNat) ∧ w = w' := by
  have LZ := lz_any (m : Int) ⟨by omega, by omega⟩
  rw [lz_zero m h1 h2] at LZ
  have hM1 : 4503599627370496 ≤ m / 2048 := by omega
  have hM2 : m / 2048 < 9007199254740992 := by omega
  obtain ⟨M, hM⟩ : ∃ M, M = m / 2048 := ⟨_, rfl⟩
  obtain ⟨low, hlow⟩ : ∃ low, low = m % 2048 := ⟨_, rfl⟩
  have e1 : bits .and .u64 (m : Int) 2047 = (low : Int) := by
    have := u64_and_nat m 2047 (by omega) (by decide)
    rw [show ((2047 : Nat) : Int) = 2047 from rfl] at this
    rw [this, show 2047 = 2 ^ 11 - 1 by decide, Nat.and_two_pow_sub_one_eq_mod, hlow]
  have e2 : (m : Int) / 2048 = (M : Int) := by omega
  have e3 : bits .and .u64 (M : Int) 1 = ((M % 2 : Nat) : Int) := by
    have := u64_and_nat M 1 (by omega) (by decide)
    rw [show ((1 : Nat) : Int) = 1 from rfl] at this
    rw [this, show 1 = 2 ^ 1 - 1 by decide, Nat.and_two_pow_sub_one_eq_mod]
  obtain ⟨p, hp⟩ : ∃ p, p = M % 2 := ⟨_, rfl⟩
  rw [← hp] at e3
  have hpk : pk m more = M + (if 1024 < low ∨ low = 1024 ∧ (more = true ∨ p = 1) then 1 else 0) := by unfold pk; rw [hp, hM, hlow]
  have fin : ∀ K : Nat, K = pk m more → ∀ W, Calls Try.prog 118 #[.float .f64 (floatOfInt .f64 (K : Int)), .int .i64 (x + 11)] W fun e w' => e = .returned (.float .f64 ((x + 1085) * 4503599627370496 + pk m more).toNat) ∧ W = w' := by
    intro K hK W
    have hK2 : K ≤ M + 1 := by rw [hK, hpk]; split <;> omega
    have hK1 : M ≤ K := by rw [hK, hpk]; omega
    rw [ofInt_53 K (by omega) (by omega)]
    have hl := INF_lit
    have := ldexp_any (1074 * 4503599627370496 + K) (x + 11) ⟨by omega, by omega⟩ (by omega) (by omega) (by omega) W
    have e : ((1074 * 4503599627370496 + K : Nat) : Int) + (x + 11) * 4503599627370496 = (x + 1085) * 4503599627370496 + (pk m more : Nat) := by rw [← hK]; omega
    rw [e] at this; exact this
  generalize ((x + 1085) * 4503599627370496 + (pk m more : Int)).toNat = r at fin ⊢
  generalize pk m more = k at hpk fin
  have Fin := fin k rfl
  have HMl := Lib.hid hM; have HLl := Lib.hid hlow; have HPl := Lib.hid hp
  rw [← hM] at hM1 hM2
  have w1 : IntKind.u64.wrap (m : Int) = (m : Int) := by rw [IntKind.wrap_u64]; omega
  have w2 : wrap64 (x + 11) = x + 11 := by unfold wrap64; omega
  have hp2 : p < 2 := by omega
  have hlw : low < 2048 := by omega
  clear hM hlow hp fin
  have cases5 : (1024 < low ∧ k = M + 1) ∨ (low < 1024 ∧ k = M) ∨ (low = 1024 ∧ more = true ∧ k = M + 1) ∨ (low = 1024 ∧ more = false ∧ p = 1 ∧ k = M + 1) ∨ (low = 1024 ∧ more = false ∧ p = 0 ∧ k = M) := by
    by_cases c1 : 1024 < low
    · left; rw [if_pos (.inl c1)] at hpk; exact ⟨c1, hpk⟩
    · by_cases c2 : low = 1024
      · cases more
        · by_cases c3 : p = 1
          · rw [if_pos (.inr ⟨c2, .inr c3⟩)] at hpk; exact .inr (.inr (.inr (.inl ⟨c2, rfl, c3, hpk⟩)))
          · rw [if_neg (by simp [c1, c3])] at hpk; exact .inr (.inr (.inr (.inr ⟨c2, rfl, by omega, by omega⟩)))
        · rw [if_pos (.inr ⟨c2, .inl rfl⟩)] at hpk; exact .inr (.inr (.inl ⟨c2, rfl, hpk⟩))
      · rw [if_neg (by simp [c1, c2])] at hpk; exact .inr (.inl ⟨by omega, by omega⟩)
  clear hpk
  rcases cases5 with ⟨c1, rfl⟩ | ⟨c1, rfl⟩ | ⟨rfl, rfl, rfl⟩ | ⟨rfl, rfl, rfl, rfl⟩ | ⟨rfl, rfl, rfl, rfl⟩
  · have g1 : (1024 : Int) < (low : Int) := by omega
    have g2 : IntKind.u64.wrap ((M : Int) + 1) = ((M + 1 : Nat) : Int) := by rw [IntKind.wrap_u64]; omega
    go_enter Try.func100, Try.ntmps100
    go_wp2_with (first | (go_at_call 98; refine (LZ _).mono ?_; rintro e w' ⟨rfl, rfl⟩) | (go_at_call 118; refine (Fin _).mono ?_; rintro e w' ⟨rfl, rfl⟩))
    simp [bodyPost, results, Try.results100, go_sem]
  · have g1 : ¬ ((1024 : Int) < (low : Int)) := by omega
    have g2 : ((low : Int) = 1024) = False := by simp; omega
    go_enter Try.func100, Try.ntmps100
    go_wp2_with (first | (go_at_call 98; refine (LZ _).mono ?_; rintro e w' ⟨rfl, rfl⟩) | (go_at_call 118; refine (Fin _).mono ?_; rintro e w' ⟨rfl, rfl⟩))
    simp [bodyPost, results, Try.results100, go_sem]
  · have g2 : IntKind.u64.wrap ((M : Int) + 1) = ((M + 1 : Nat) : Int) := by rw [IntKind.wrap_u64]; omega
    go_enter Try.func100, Try.ntmps100
    go_wp2_with (first | (go_at_call 98; refine (LZ _).mono ?_; rintro e w' ⟨rfl, rfl⟩) | (go_at_call 118; refine (Fin _).mono ?_; rintro e w' ⟨rfl, rfl⟩))
    simp [bodyPost, results, Try.results100, go_sem]
  · have g2 : IntKind.u64.wrap ((M : Int) + 1) = ((M + 1 : Nat) : Int) := by rw [IntKind.wrap_u64]; omega
    go_enter Try.func100, Try.ntmps100
    go_wp2_with (first | (go_at_call 98; refine (LZ _).mono ?_; rintro e w' ⟨rfl, rfl⟩) | (go_at_call 118; refine (Fin _).mono ?_; rintro e w' ⟨rfl, rfl⟩))
    simp [bodyPost, results, Try.results100, go_sem]
  · skip
    go_enter Try.func100, Try.ntmps100
    go_wp2_with (first | (go_at_call 98; refine (LZ _).mono ?_; rintro e w' ⟨rfl, rfl⟩) | (go_at_call 118; refine (Fin _).mono ?_; rintro e w' ⟨rfl, rfl⟩))
    simp [bodyPost, results, Try.results100, go_sem]
end Go.Proofs.Ytnccgpdniigekaa
