/-
  math.IsInf, Frexp, Ldexp and Floor, as the program calls them.
-/
import Derived.Test.YtcnhgblpeonmgaaRtMath
namespace Go.Proofs.Ytcnhgblpeonmgaa
open Go.RowKit
set_option linter.unusedVariables false
set_option linter.unusedSimpArgs false
attribute [local go_sem high] binOp_lss64 binOp_gtr64 binOp_geq64 binOp_leq64 binOp_eql64 binOp_neq64 f64bits frombits

theorem num_small {r : Nat} (h : r ≤ INF) : Num64 r := num_of (s := false) h
theorem fin_small {r : Nat} (h : r < INF) : Fin64 r := fin_of (s := false) h
theorem rg_small {r : Nat} (h : r ≤ INF) : rg r = r := rg_of (s := false) h
theorem ng_small {r : Nat} (h : r ≤ INF) : ng r = false := ng_of (s := false) h
theorem sv_small {r : Nat} (h : r ≤ INF) : sv r = (val r : Int) := sv_of (s := false) h

theorem isInf_any (b : Nat) (hb : b < 18446744073709551616) (w : World) : Calls Try.prog 31 #[.float .f64 b, .int .i64 0] w fun e w' => e = .returned (.bool (decide (rg b = INF))) ∧ w = w' := by
  have hl := INF_lit
  have e : fLt 9218868437227405311 (rg b) ↔ rg b = INF := by
    have h1 : Num64 9218868437227405311 := num_small (by omega)
    have h2 : rg (rg b) = rg b := by unfold rg; omega
    unfold fLt Num64
    rw [h2]
    constructor
    · rintro ⟨_, hn, hlt⟩
      rw [sv_small (by omega), sv_small hn] at hlt
      have := val_lt_iff.1 (Int.ofNat_lt.1 hlt); omega
    · intro h
      refine ⟨h1, by omega, ?_⟩
      rw [sv_small (by omega), sv_small (by omega)]
      exact Int.ofNat_lt.2 (val_lt (by omega))
  have F := abs_any b hb
  go_enter Try.func31, Try.ntmps31
  go_wp2_with (go_at_call 40; refine (F _).mono ?_; rintro e w' ⟨rfl, rfl⟩)
  simp [bodyPost, results, Try.results31, go_sem, e, hl]

/-- A normal float above zero. -/
structure Norm64 (b : Nat) : Prop where
  lo : 4503599627370496 ≤ b
  hi : b < INF
theorem Norm64.lt {b : Nat} (h : Norm64 b) : b < 9223372036854775808 := by have := h.hi; have := INF_lit; omega
theorem Norm64.rg {b : Nat} (h : Norm64 b) : rg b = b := rg_small (Nat.le_of_lt h.hi)
theorem Norm64.num {b : Nat} (h : Norm64 b) : Num64 b := num_small (Nat.le_of_lt h.hi)
theorem Norm64.fin {b : Nat} (h : Norm64 b) : Fin64 b := fin_small h.hi

theorem normalize_any (b : Nat) (h : Norm64 b) (w : World) : Calls Try.prog 47 #[.float .f64 b] w fun e w' => e = .returned (.tuple #[.float .f64 b, .int .i64 0]) ∧ w = w' := by
  have F := abs_any b (by have := h.lt; omega)
  have hr := h.rg
  rw [hr] at F
  have hn : ¬ fLt b 4503599627370496 := by
    unfold fLt; rintro ⟨h1, h2, h3⟩
    rw [sv_small (Nat.le_of_lt h.hi), sv_small (by decide)] at h3
    have := val_lt_iff.1 (Int.ofNat_lt.1 h3); have := h.lo; omega
  go_enter Try.func47, Try.ntmps47
  go_wp2_with (go_at_call 40; refine (F _).mono ?_; rintro e w' ⟨rfl, rfl⟩)
  simp [bodyPost, results, Try.results47, go_sem]

theorem frexp_in (b : Nat) (h : Norm64 b) (w : World) : Calls Try.prog 42 #[.float .f64 b] w fun e w' => e = .returned (.tuple #[.float .f64 (b % 4503599627370496 + 4602678819172646912), .int .i64 ((b / 4503599627370496 : Nat) - 1022)]) ∧ w = w' := by
  have hlt := h.lt
  have hlo := h.lo
  have hr := h.rg
  have FI := isInf_any b (by omega)
  have FN := isNaN_any b
  have FZ := normalize_any b h
  rw [hr] at FI FN
  have d1 : decide (b = INF) = false := decide_eq_false (by have := h.hi; omega)
  have d2 : decide (INF < b) = false := decide_eq_false (by have := h.hi; omega)
  rw [d1] at FI; rw [d2] at FN
  have z : ¬ fEq b 0 := by
    unfold fEq; rintro ⟨_, _, h3⟩
    rw [sv_small (Nat.le_of_lt h.hi), sv_small (by decide)] at h3
    have := val_inj (Int.ofNat_inj.1 h3); omega
  have e1 := and_2047 b hlt
  have e2 := andNot_exp b hlt
  have e3 := or_exp (b % 4503599627370496) 1022 (by omega) (by decide)
  rw [show ((1022 * 4503599627370496 : Nat) : Int) = 4602678819172646912 from rfl] at e3
  have E1 := Lib.hid e1; clear e1
  have E2 := Lib.hid e2; clear e2
  have E3 := Lib.hid e3; clear e3
  go_enter Try.func42, Try.ntmps42
  go_wp2_with (first | (go_at_call 31; refine (FI _).mono ?_; rintro e w' ⟨rfl, rfl⟩) | (go_at_call 30; refine (FN _).mono ?_; rintro e w' ⟨rfl, rfl⟩) | (go_at_call 47; refine (FZ _).mono ?_; rintro e w' ⟨rfl, rfl⟩))
  simp [bodyPost, results, Try.results42, go_sem]
  have e1 := E1.out; have e2 := E2.out; have e3 := E3.out
  refine ⟨?_, ?_⟩
  · rw [e2, e3, Int.toNat_natCast]; omega
  · rw [show ((b : Int) / 4503599627370496) = ((b / 4503599627370496 : Nat) : Int) by omega, e1]; unfold wrap64; omega

theorem frexp_any (b : Nat) (h : Norm64 b) (w : World) : Calls Try.prog 33 #[.float .f64 b] w fun e w' => e = .returned (.tuple #[.float .f64 (b % 4503599627370496 + 4602678819172646912), .int .i64 ((b / 4503599627370496 : Nat) - 1022)]) ∧ w = w' := by
  have F := frexp_in b h
  go_enter Try.func33, Try.ntmps33
  go_wp2_with (go_at_call 42; refine (F _).mono ?_; rintro e w' ⟨rfl, rfl⟩)
  simp [bodyPost, results, Try.results33, go_sem]

/-- One times a finite float. -/
theorem one_mul64 {r : Nat} (h : r < INF) : Ieee.double.mul 4607182418800017408 r = some r := by
  have e1 : ng 4607182418800017408 = false := ng_small (by decide)
  have e2 : rg 4607182418800017408 = 4607182418800017408 := rg_small (by decide)
  have e3 := ng_small (Nat.le_of_lt h)
  have e4 := rg_small (Nat.le_of_lt h)
  have := mul_exact (a := 4607182418800017408) (b := r) (r := r) (fin_small (by decide)) (fin_small h) (Nat.le_of_lt h) (by rw [e2, e4, val_one, Nat.mul_comm])
  rw [e1, e3] at this; exact this

theorem and_2047i (p : Nat) (h : p < 2048) : bits .and .i64 (p : Int) 2047 = (p : Int) := by
  have := (bits_nat .i64 63 (by decide) (fun n h0 h1 => by rw [IntKind.wrap_i64]; omega) p 2047 (by omega) (by decide)).1
  rw [show ((2047 : Nat) : Int) = 2047 from rfl] at this
  rw [this, show 2047 = 2 ^ 11 - 1 by decide, Nat.and_two_pow_sub_one_eq_mod]
  congr 1; omega

theorem ldexp_in (b : Nat) (x : Int) (h : Norm64 b) (hx : -2000 ≤ x ∧ x ≤ 2000) (h1 : 1 ≤ x + (b / 4503599627370496 : Nat)) (h2 : x + (b / 4503599627370496 : Nat) ≤ 2046) (w : World) :
    Calls Try.prog 44 #[.float .f64 b, .int .i64 x] w fun e w' => e = .returned (.float .f64 (b + x * 4503599627370496).toNat) ∧ w = w' := by
  have hlt := h.lt
  have hlo := h.lo
  have hr := h.rg
  have FI := isInf_any b (by omega)
  have FN := isNaN_any b
  have FZ := normalize_any b h
  rw [hr] at FI FN
  have d1 : decide (b = INF) = false := decide_eq_false (by have := h.hi; omega)
  have d2 : decide (INF < b) = false := decide_eq_false (by have := h.hi; omega)
  rw [d1] at FI; rw [d2] at FN
  have z : ¬ fEq b 0 := by
    unfold fEq; rintro ⟨_, _, h3⟩
    rw [sv_small (Nat.le_of_lt h.hi), sv_small (by decide)] at h3
    have := val_inj (Int.ofNat_inj.1 h3); omega
  obtain ⟨p, hp'⟩ : ∃ p : Nat, p = b / 4503599627370496 := ⟨_, rfl⟩
  rw [← hp'] at h1 h2
  have hp : (b : Int) / 4503599627370496 = (p : Int) := by omega
  have hpl : p < 2048 := by omega
  obtain ⟨e, he⟩ : ∃ e : Nat, x + (p : Int) = (e : Int) := ⟨(x + (p : Int)).toNat, by omega⟩
  obtain ⟨r, hrr⟩ : ∃ r : Nat, r = e * 4503599627370496 + b % 4503599627370496 := ⟨_, rfl⟩
  have hrl : r < INF := by have := INF_lit; omega
  have hres : ((b : Int) + x * 4503599627370496).toNat = r := by omega
  rw [hres]
  have e1 : bits .and .i64 (p : Int) 2047 = (p : Int) := and_2047i p hpl
  have e2 : wrap64 ((p : Int) - 1023) = (p : Int) - 1023 := by unfold wrap64; omega
  have e3 : wrap64 (x + ((p : Int) - 1023)) = x + ((p : Int) - 1023) := by unfold wrap64; omega
  have e4 : bits .andNot .u64 (b : Int) 9218868437227405312 = (b : Int) % 4503599627370496 := by rw [andNot_exp b hlt]; simp
  have e5 : bits .or .u64 ((b : Int) % 4503599627370496) ((x + ((p : Int) - 1023) + 1023) * 4503599627370496) = (r : Int) := by
    rw [show x + ((p : Int) - 1023) + 1023 = (e : Int) by omega]
    have := or_exp (b % 4503599627370496) e (by omega) (by omega)
    rw [← hrr] at this; simpa using this
  have HM : ∀ t W, (binOp .mul t (.float .f64 4607182418800017408) (.float .f64 r)).run Try.prog W = .ok (.float .f64 r) W := fun t W => run_float_arith W .mul t .f64 _ _ _ (one_mul64 hrl)
  have g1 : ¬ (x + ((p : Int) - 1023) < -1075) := by omega
  have g2 : ¬ (1023 < x + ((p : Int) - 1023)) := by omega
  have g3 : ¬ (x + ((p : Int) - 1023) < -1022) := by omega
  have hl1 := Lib.hid h1; have hl2 := Lib.hid h2; clear h1 h2
  have hh := Lib.hid he; clear he
  have hh2 := Lib.hid hrr; clear hrr hres
  have hh3 := Lib.hid hp'; clear hp'
  go_enter Try.func44, Try.ntmps44
  go_wp2_with (first | (go_at_call 31; refine (FI _).mono ?_; rintro e w' ⟨rfl, rfl⟩) | (go_at_call 30; refine (FN _).mono ?_; rintro e w' ⟨rfl, rfl⟩) | (go_at_call 47; refine (FZ _).mono ?_; rintro e w' ⟨rfl, rfl⟩))
  all_goals simp [bodyPost, results, Try.results44, go_sem]
end Go.Proofs.Ytcnhgblpeonmgaa
