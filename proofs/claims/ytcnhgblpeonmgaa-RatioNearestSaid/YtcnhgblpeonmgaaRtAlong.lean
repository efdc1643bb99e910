/-
  Along, of the program and of the reference; the small thing that stands ahead of each law.
-/
import Derived.Test.YtcnhgblpeonmgaaRtCmpA
namespace Go.Proofs.Ytcnhgblpeonmgaa
open Go.RowKit
set_option linter.unusedVariables false
set_option linter.unusedSimpArgs false
attribute [local go_sem high] binOp_lss64 binOp_gtr64 binOp_geq64 binOp_leq64 binOp_eql64 binOp_neq64 f64bits frombits

/-- Base more by slope times distance; nothing where the language fixes no bits. -/
def alongF (s : Nat) (far : Int) (t : Nat) : Option Nat := (Ieee.double.mul s (floatOfInt .f64 far)).bind fun m => Ieee.double.add m t

theorem cut_nan (x y t : Nat) : INF < rg ((Question.nanBits .f64 x y).cut t) ∧ (Question.nanBits .f64 x y).cut t < 18446744073709551616 := by
  have e : (Question.nanBits .f64 x y).cut t = (t % 2) * 9223372036854775808 + 9218868437227405312 + 1 + (t / 2) % 4503599627370495 := rfl
  rw [e]
  have hl := INF_lit
  have h1 : (t / 2) % 4503599627370495 < 4503599627370495 := Nat.mod_lt _ (by decide)
  generalize (t / 2) % 4503599627370495 = u at h1 ⊢
  have h2 : t % 2 < 2 := Nat.mod_lt _ (by decide)
  generalize t % 2 = v at h2 ⊢
  unfold rg
  omega
theorem run_float_nan {P : Program} (w : World) (op : BinOp) (x y : Nat) (hop : op = .mul ∨ op = .add ∨ op = .sub) (h : floatBits op .f64 x y = none) :
    ∃ r, INF < rg r ∧ r < 18446744073709551616 ∧ ∀ t, (binOp op t (.float .f64 x) (.float .f64 y)).run P w = .ok (.float .f64 r) w.drew := by
  refine ⟨(Question.nanBits .f64 x y).cut (w.tape w.drawn (.nanBits .f64 x y)), (cut_nan x y _).1, (cut_nan x y _).2, ?_⟩
  intro t
  have hf : (Question.nanBits .f64 x y).forced = false := rfl
  unfold floatBits at h
  rcases hop with rfl | rfl | rfl <;> simp only at h <;> simp [binOp, Op.floatArith, h, hf]

theorem not_num {r : Nat} (h : INF < rg r) : ¬ Num64 r := by unfold Num64; omega
theorem nan_op {op : BinOp} {x y : Nat} (hop : op = .mul ∨ op = .add ∨ op = .sub) (h : INF < rg x) : floatBits op .f64 x y = none := by
  have hr := read_nan h
  rcases hop with rfl | rfl | rfl
  · show Ieee.double.mul x y = none
    unfold Ieee.Format.mul; rw [hr]; rfl
  · show Ieee.double.add x y = none
    unfold Ieee.Format.add; rw [hr]; rfl
  · show Ieee.double.sub x y = none
    unfold Ieee.Format.sub; rw [hr]; rfl

/-- What Along hands back. -/
def AlongR (s : Nat) (far : Int) (t : Nat) (r : Nat) : Prop := r < 18446744073709551616 ∧ (alongF s far t = some r ∨ alongF s far t = none ∧ INF < rg r)

set_option maxHeartbeats 1000000 in
theorem along_any (s t : Nat) (far : Int) (w : World) :
    Calls Try.prog 23 #[.float .f64 s, .int .u64 far, .float .f64 t] w fun e w' => ∃ r, e = .returned (.float .f64 r) ∧ Hid (AlongR s far t r) ∧ Below w.heap.size w w' := by
  obtain ⟨g, hg⟩ : ∃ g, g = floatOfInt .f64 far := ⟨_, rfl⟩
  have hal : alongF s far t = (Ieee.double.mul s g).bind fun m => Ieee.double.add m t := by rw [hg]; rfl
  cases hm : Ieee.double.mul s g with
  | none =>
    obtain ⟨r1, a1, a2, a3⟩ := run_float_nan (P := Try.prog) w .mul s g (.inl rfl) hm
    obtain ⟨r2, b1, b2, b3⟩ := run_float_nan (P := Try.prog) w.drew .add r1 t (.inr (.inl rfl)) (nan_op (.inr (.inl rfl)) a1)
    have R : Hid (AlongR s far t r2) := Lib.hid ⟨b2, .inr ⟨by rw [hal, hm]; rfl, b1⟩⟩
    have B : Hid (Below w.heap.size w w.drew.drew) := Lib.hid ((Below.refl _ _).drew.drew)
    clear hal hm a1 a2 b1 b2
    have HG := hg.symm
    clear hg
    go_enter Try.func23, Try.ntmps23
    go_wp2
    go_ret
    exact ⟨r2, rfl, R, B.out⟩
  | some m =>
    have hm1 : ∀ tt W, (binOp .mul tt (.float .f64 s) (.float .f64 g)).run Try.prog W = .ok (.float .f64 m) W := fun tt W => run_float_arith W .mul tt .f64 _ _ _ hm
    cases ha : Ieee.double.add m t with
    | none =>
      obtain ⟨r2, b1, b2, b3⟩ := run_float_nan (P := Try.prog) w .add m t (.inr (.inl rfl)) ha
      have R : Hid (AlongR s far t r2) := Lib.hid ⟨b2, .inr ⟨by rw [hal, hm]; exact ha, b1⟩⟩
      have B : Hid (Below w.heap.size w w.drew) := Lib.hid ((Below.refl _ _).drew)
      clear hal hm ha b1 b2
      have HG := hg.symm
      clear hg
      go_enter Try.func23, Try.ntmps23
      go_wp2
      go_ret
      exact ⟨r2, rfl, R, B.out⟩
    | some r =>
      have hm2 : ∀ tt W, (binOp .add tt (.float .f64 m) (.float .f64 t)).run Try.prog W = .ok (.float .f64 r) W := fun tt W => run_float_arith W .add tt .f64 _ _ _ ha
      have hr64 : r < 18446744073709551616 := Ieee.Format.add_lt _ ha
      have R : Hid (AlongR s far t r) := Lib.hid ⟨hr64, .inl (by rw [hal, hm]; exact ha)⟩
      clear hal hm ha hr64
      have HG := hg.symm
      clear hg
      go_enter Try.func23, Try.ntmps23
      go_wp2
      go_ret
      exact ⟨r, rfl, R, Below.refl _ _⟩

set_option maxHeartbeats 1000000 in
theorem refAlong_any (s t : Nat) (far : Int) (w : World) :
    Calls Try.prog 24 #[.float .f64 s, .int .u64 far, .float .f64 t] w fun e w' => ∃ r, e = .returned (.float .f64 r) ∧ Hid (AlongR s far t r) ∧ Below w.heap.size w w' := by
  obtain ⟨g, hg⟩ : ∃ g, g = floatOfInt .f64 far := ⟨_, rfl⟩
  have hal : alongF s far t = (Ieee.double.mul s g).bind fun m => Ieee.double.add m t := by rw [hg]; rfl
  cases hm : Ieee.double.mul s g with
  | none =>
    obtain ⟨r1, a1, a2, a3⟩ := run_float_nan (P := Try.prog) w .mul s g (.inl rfl) hm
    obtain ⟨r2, b1, b2, b3⟩ := run_float_nan (P := Try.prog) w.drew .add r1 t (.inr (.inl rfl)) (nan_op (.inr (.inl rfl)) a1)
    have R : Hid (AlongR s far t r2) := Lib.hid ⟨b2, .inr ⟨by rw [hal, hm]; rfl, b1⟩⟩
    have B : Hid (Below w.heap.size w w.drew.drew) := Lib.hid ((Below.refl _ _).drew.drew)
    clear hal hm a1 a2 b1 b2
    have HG := hg.symm
    clear hg
    go_enter Try.func24, Try.ntmps24
    go_wp2
    go_ret
    exact ⟨r2, rfl, R, B.out⟩
  | some m =>
    have hm1 : ∀ tt W, (binOp .mul tt (.float .f64 s) (.float .f64 g)).run Try.prog W = .ok (.float .f64 m) W := fun tt W => run_float_arith W .mul tt .f64 _ _ _ hm
    cases ha : Ieee.double.add m t with
    | none =>
      obtain ⟨r2, b1, b2, b3⟩ := run_float_nan (P := Try.prog) w .add m t (.inr (.inl rfl)) ha
      have R : Hid (AlongR s far t r2) := Lib.hid ⟨b2, .inr ⟨by rw [hal, hm]; exact ha, b1⟩⟩
      have B : Hid (Below w.heap.size w w.drew) := Lib.hid ((Below.refl _ _).drew)
      clear hal hm ha b1 b2
      have HG := hg.symm
      clear hg
      go_enter Try.func24, Try.ntmps24
      go_wp2
      go_ret
      exact ⟨r2, rfl, R, B.out⟩
    | some r =>
      have hm2 : ∀ tt W, (binOp .add tt (.float .f64 m) (.float .f64 t)).run Try.prog W = .ok (.float .f64 r) W := fun tt W => run_float_arith W .add tt .f64 _ _ _ ha
      have hr64 : r < 18446744073709551616 := Ieee.Format.add_lt _ ha
      have R : Hid (AlongR s far t r) := Lib.hid ⟨hr64, .inl (by rw [hal, hm]; exact ha)⟩
      clear hal hm ha hr64
      have HG := hg.symm
      clear hg
      go_enter Try.func24, Try.ntmps24
      go_wp2
      go_ret
      exact ⟨r, rfl, R, Below.refl _ _⟩

theorem nr_third : nr 1 3 = 4599676419421066581 := nr_eq (by decide) ⟨fun _ => by decide +kernel, by decide +kernel, fun _ => by decide +kernel⟩
theorem cmp_tenth : cmpF 4591870180066957722 1 10 = 1 := by decide +kernel
theorem clamp_29 : clampI 4613712638259704627 0 5 = 2 := by decide +kernel
theorem along_35 : alongF 4602678819172646912 3 4611686018427387904 = some 4615063718147915776 := by decide +kernel
end Go.Proofs.Ytcnhgblpeonmgaa
