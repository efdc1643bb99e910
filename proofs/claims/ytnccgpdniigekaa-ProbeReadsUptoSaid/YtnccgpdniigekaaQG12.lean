/-
  Go's library functions on floats, as the program calls them.
-/
import Derived.Test.YtnccgpdniigekaaQG11
import Derived.Test.YtnccgpdniigekaaProg
import Derived.Test.YtnccgpdniigekaaQG28
import Derived.Laws.BitsAllLaws
import Derived.WalkLawsBesides
import Derived.Laws.Externs
import Derived.Deep.CutBlock
import Derived.Test.YtnccgpdniigekaaQG18
namespace Go.Proofs.Ytnccgpdniigekaa
open Go.RowKit
set_option linter.unusedVariables false
set_option linter.unusedSimpArgs false

/-- How floats stand to each other; a NaN to none. -/
def fLt (a b : Nat) : Prop := Num64 a ∧ Num64 b ∧ sv a < sv b
def fLe (a b : Nat) : Prop := Num64 a ∧ Num64 b ∧ sv a ≤ sv b
def fEq (a b : Nat) : Prop := Num64 a ∧ Num64 b ∧ sv a = sv b
instance (a b : Nat) : Decidable (fLt a b) := by unfold fLt Num64; infer_instance
instance (a b : Nat) : Decidable (fLe a b) := by unfold fLe Num64; infer_instance
instance (a b : Nat) : Decidable (fEq a b) := by unfold fEq Num64; infer_instance
theorem binOp_lss64 (t : TypeId) (a b : Nat) : binOp .lss t (.float .f64 a) (.float .f64 b) = pure (.bool (decide (fLt a b))) := by
  rw [binOp_float_cmp_lss]
  show pure (Value.bool (Ieee.double.order a b == some .lt)) = _
  by_cases h : Num64 a ∧ Num64 b
  · rw [lss_num h.1 h.2]; simp [fLt, h.1, h.2]
  · rw [order_nan (by by_cases h1 : Num64 a; exact .inr (fun h2 => h ⟨h1, h2⟩); exact .inl h1), decide_eq_false (fun hh => h ⟨hh.1, hh.2.1⟩)]; rfl
theorem binOp_gtr64 (t : TypeId) (a b : Nat) : binOp .gtr t (.float .f64 a) (.float .f64 b) = pure (.bool (decide (fLt b a))) := by
  rw [binOp_float_cmp_gtr]
  show pure (Value.bool (Ieee.double.order a b == some .gt)) = _
  by_cases h : Num64 a ∧ Num64 b
  · rw [gtr_num h.1 h.2]; simp [fLt, h.1, h.2]
  · rw [order_nan (by by_cases h1 : Num64 a; exact .inr (fun h2 => h ⟨h1, h2⟩); exact .inl h1), decide_eq_false (fun hh => h ⟨hh.2.1, hh.1⟩)]; rfl
theorem binOp_geq64 (t : TypeId) (a b : Nat) : binOp .geq t (.float .f64 a) (.float .f64 b) = pure (.bool (decide (fLe b a))) := by
  rw [binOp_float_cmp_geq]
  show pure (Value.bool (Ieee.double.order a b == some .gt || Ieee.double.order a b == some .eq)) = _
  by_cases h : Num64 a ∧ Num64 b
  · rw [geq_num h.1 h.2]; simp [fLe, h.1, h.2]
  · rw [order_nan (by by_cases h1 : Num64 a; exact .inr (fun h2 => h ⟨h1, h2⟩); exact .inl h1), decide_eq_false (fun hh => h ⟨hh.2.1, hh.1⟩)]; rfl
theorem binOp_leq64 (t : TypeId) (a b : Nat) : binOp .leq t (.float .f64 a) (.float .f64 b) = pure (.bool (decide (fLe a b))) := by
  rw [binOp_float_cmp_leq]
  show pure (Value.bool (Ieee.double.order a b == some .lt || Ieee.double.order a b == some .eq)) = _
  by_cases h : Num64 a ∧ Num64 b
  · rw [leq_num h.1 h.2]; simp [fLe, h.1, h.2]
  · rw [order_nan (by by_cases h1 : Num64 a; exact .inr (fun h2 => h ⟨h1, h2⟩); exact .inl h1), decide_eq_false (fun hh => h ⟨hh.1, hh.2.1⟩)]; rfl
theorem binOp_eql64 (t : TypeId) (a b : Nat) : binOp .eql t (.float .f64 a) (.float .f64 b) = pure (.bool (decide (fEq a b))) := by
  rw [binOp_float_cmp_eql]
  show pure (Value.bool (Ieee.double.order a b == some .eq)) = _
  by_cases h : Num64 a ∧ Num64 b
  · rw [eql_num h.1 h.2]; simp [fEq, h.1, h.2]
  · rw [order_nan (by by_cases h1 : Num64 a; exact .inr (fun h2 => h ⟨h1, h2⟩); exact .inl h1), decide_eq_false (fun hh => h ⟨hh.1, hh.2.1⟩)]; rfl
theorem binOp_neq64 (t : TypeId) (a b : Nat) : binOp .neq t (.float .f64 a) (.float .f64 b) = pure (.bool (decide (¬ fEq a b))) := by
  rw [binOp_float_cmp_neq]
  show pure (Value.bool (!(Ieee.double.order a b == some .eq))) = _
  by_cases h : Num64 a ∧ Num64 b
  · rw [eql_num h.1 h.2]; simp [fEq, h.1, h.2]
  · have hn : ¬ fEq a b := fun hh => h ⟨hh.1, hh.2.1⟩
    rw [order_nan (by by_cases h1 : Num64 a; exact .inr (fun h2 => h ⟨h1, h2⟩); exact .inl h1)]; simp [hn]
attribute [irreducible] fLt fLe fEq

theorem f64bits (b : Nat) (w : World) : (callFunc 45 #[.float .f64 b]).run Try.prog w = .ok (.value (.int .u64 (b : Int))) w := by
  rw [run_callFunc_extern Try.func45 (by kernel_rfl) (by kernel_rfl) (by kernel_rfl) (e := Extern.MathFloatBits.float64bits) (by kernel_rfl)]
  rfl
theorem frombits (n : Int) (w : World) : (callFunc 55 #[.int .u64 n]).run Try.prog w = .ok (.value (.float .f64 n.toNat)) w := by
  rw [run_callFunc_extern Try.func55 (by kernel_rfl) (by kernel_rfl) (by kernel_rfl) (e := Extern.MathFloatBits.float64frombits) (by kernel_rfl)]
  rfl
attribute [local go_sem high] binOp_lss64 binOp_gtr64 binOp_geq64 binOp_leq64 binOp_eql64 binOp_neq64 f64bits frombits

theorem fEq_self (b : Nat) : fEq b b ↔ rg b ≤ INF := by unfold fEq Num64; exact ⟨fun h => h.1, fun h => ⟨h, h, rfl⟩⟩

theorem isNaN_any (b : Nat) (w : World) : Calls Try.prog 89 #[.float .f64 b] w fun e w' => e = .returned (.bool (decide (INF < rg b))) ∧ w = w' := by
  have e : decide (¬ fEq b b) = decide (INF < rg b) := by
    rw [decide_eq_decide, fEq_self]; omega
  go_enter Try.func89, Try.ntmps89
  go_wp2
  simp [bodyPost, results, Try.results89, go_sem, ← e]

theorem andNot_sign (b : Nat) (h : b < 18446744073709551616) : bits .andNot .u64 (b : Int) 9223372036854775808 = ((rg b : Nat) : Int) := by
  have := u64_andNot_nat b 9223372036854775808 h (by decide)
  rw [show ((9223372036854775808 : Nat) : Int) = 9223372036854775808 from rfl] at this
  rw [this]
  have e : 18446744073709551615 - 9223372036854775808 = 2 ^ 63 - 1 := by decide
  rw [e, Nat.and_two_pow_sub_one_eq_mod]; rfl
theorem abs_any (b : Nat) (hb : b < 18446744073709551616) (w : World) : Calls Try.prog 105 #[.float .f64 b] w fun e w' => e = .returned (.float .f64 (rg b)) ∧ w = w' := by
  have e := andNot_sign b hb
  go_enter Try.func105, Try.ntmps105
  go_wp2
  simp [bodyPost, results, Try.results105, go_sem, e]
end Go.Proofs.Ytnccgpdniigekaa
/-
  math.IsInf, Frexp, Ldexp and Floor, as the program calls them.
-/
namespace Go.Proofs.Ytnccgpdniigekaa
open Go.RowKit
set_option linter.unusedVariables false
set_option linter.unusedSimpArgs false
attribute [local go_sem high] binOp_lss64 binOp_gtr64 binOp_geq64 binOp_leq64 binOp_eql64 binOp_neq64 f64bits frombits

theorem num_small {r : Nat} (h : r ≤ INF) : Num64 r := num_of (s := false) h
theorem fin_small {r : Nat} (h : r < INF) : Fin64 r := fin_of (s := false) h
theorem rg_small {r : Nat} (h : r ≤ INF) : rg r = r := rg_of (s := false) h
theorem ng_small {r : Nat} (h : r ≤ INF) : ng r = false := ng_of (s := false) h
theorem sv_small {r : Nat} (h : r ≤ INF) : sv r = (val r : Int) := sv_of (s := false) h

theorem isInf_any (b : Nat) (hb : b < 18446744073709551616) (w : World) : Calls Try.prog 90 #[.float .f64 b, .int .i64 0] w fun e w' => e = .returned (.bool (decide (rg b = INF))) ∧ w = w' := by
  have hl := INF_lit
  have e : fLt 9218868437227405311 (rg b) ↔ rg b = INF := by
    have h1 : Num64 9218868437227405311 := num_small (by omega)
    have h2 : rg (rg b) = rg b := by unfold rg; omega
    unfold fLt Num64
    rw [h2]
    constructor
    · rintro ⟨_, hn, hlt⟩
      rw [sv_small (by omega), sv_small hn] at hlt
      have := val_lt_iff.1 (Int.ofNat_lt.1 hlt); omega
    · intro h
      refine ⟨h1, by omega, ?_⟩
      rw [sv_small (by omega), sv_small (by omega)]
      exact Int.ofNat_lt.2 (val_lt (by omega))
  have F := abs_any b hb
  go_enter Try.func90, Try.ntmps90
  go_wp2_with (go_at_call 105; refine (F _).mono ?_; rintro e w' ⟨rfl, rfl⟩)
  simp [bodyPost, results, Try.results90, go_sem, e, hl]

/-- A normal float above zero. -/
structure Norm64 (b : Nat) : Prop where
  lo : 4503599627370496 ≤ b
  hi : b < INF
theorem Norm64.lt {b : Nat} (h : Norm64 b) : b < 9223372036854775808 := by have := h.hi; have := INF_lit; omega
theorem Norm64.rg {b : Nat} (h : Norm64 b) : rg b = b := rg_small (Nat.le_of_lt h.hi)
theorem Norm64.num {b : Nat} (h : Norm64 b) : Num64 b := num_small (Nat.le_of_lt h.hi)
theorem Norm64.fin {b : Nat} (h : Norm64 b) : Fin64 b := fin_small h.hi

end Go.Proofs.Ytnccgpdniigekaa
/-
  math.Ldexp and Floor; ratio.pack: 64 digits and what is behind them as the nearest float.
-/
namespace Go.Proofs.Ytnccgpdniigekaa
open Go.RowKit
set_option linter.unusedVariables false
set_option linter.unusedSimpArgs false
attribute [local go_sem high] binOp_lss64 binOp_gtr64 binOp_geq64 binOp_leq64 binOp_eql64 binOp_neq64 f64bits frombits

theorem archFloor_run {b : Nat} (h : Fin64 b) (w : World) : (callFunc 106 #[.float .f64 b]).run Try.prog w = .ok (.value (.float .f64 (Ieee.double.write ((Ieee.double.read b).integral .down)))) w := by
  rw [run_callFunc_extern Try.func106 (by kernel_rfl) (by kernel_rfl) (by kernel_rfl) (e := Extern.MathFloor.toIntegral "math.archFloor" .down) (by kernel_rfl)]
  have e : (Extern.MathFloor.toIntegral "math.archFloor" .down #[.float .f64 b]).run Try.prog w = .ok (.float .f64 (Ieee.double.write ((Ieee.double.read b).integral .down))) w := by
    unfold Extern.MathFloor.toIntegral
    show Sem.run Try.prog (match Ieee.double.read b with | .nan s t => _ | d => _) w = _
    rw [read_fin h]; rfl
  rw [e]; rfl

theorem floor_any {b : Nat} (h : Fin64 b) (w : World) : Calls Try.prog 91 #[.float .f64 b] w fun e w' => e = .returned (.float .f64 (Ieee.double.write ((Ieee.double.read b).integral .down))) ∧ w = w' := by
  have F := fun W => archFloor_run h W
  generalize Ieee.double.write ((Ieee.double.read b).integral .down) = r at F ⊢
  go_enter Try.func91, Try.ntmps91
  go_wp2
  simp [bodyPost, results, Try.results91, go_sem]

/-- A whole number that is a float's value, as a float. -/
theorem ofInt_exact (n r : Nat) (hr : r ≤ INF) (h : val r = n * S) : floatOfInt .f64 (n : Int) = r := by
  show Ieee.double.write (.number (decide ((n : Int) < 0)) (n : Int).natAbs 0) = r
  rw [decide_eq_false (by omega : ¬ (n : Int) < 0), Int.natAbs_natCast]
  have e1 : ((0 : Int) + 1074).toNat = Q := by have := Q_eq; omega
  have e2 : ((-1074 : Int) - 0).toNat = 0 := by omega
  exact write_exact false n 0 r hr (by rw [e1, e2, h, S_eq]; simp)
theorem ofInt_53 (n : Nat) (h1 : 4503599627370496 ≤ n) (h2 : n ≤ 9007199254740992) : floatOfInt .f64 (n : Int) = 1074 * 4503599627370496 + n := by
  refine ofInt_exact n _ (by have := INF_lit; omega) ?_
  rw [val_em 1074 n (.inl h1) h2, S_eq, Q_eq]

/-- 64 digits cut to 53, and rounded. -/
def pk (m : Nat) (more : Bool) : Nat := m / 2048 + (if 1024 < m % 2048 ∨ m % 2048 = 1024 ∧ (more = true ∨ m / 2048 % 2 = 1) then 1 else 0)

end Go.Proofs.Ytnccgpdniigekaa
