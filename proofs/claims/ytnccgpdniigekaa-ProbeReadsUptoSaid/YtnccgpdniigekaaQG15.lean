/-
  Plain: a segment; whether it is right, what it predicts, how far off it is.
-/
import Derived.Test.YtnccgpdniigekaaQG14
import Derived.Test.YtnccgpdniigekaaQG32
import Derived.Test.YtnccgpdniigekaaQG9
import Derived.Test.YtnccgpdniigekaaQG5
namespace Go.Proofs.Ytnccgpdniigekaa
open Go.RowKit
set_option linter.unusedVariables false
set_option linter.unusedSimpArgs false

/-- A segment, its floats by their words. -/
structure Sg where
  first : Int
  sl : Nat
  ic : Nat
  fr : Int
  up : Int
def Sg.c (s : Sg) : Array Value := #[.int .u64 s.first, .float .f64 s.sl, .float .f64 s.ic, .int .i64 s.fr, .int .i64 s.up]
def Sg.v (s : Sg) : Value := .agg #[.int .u64 s.first, .float .f64 s.sl, .float .f64 s.ic, .int .i64 s.fr, .int .i64 s.up]
structure SgOk (s : Sg) : Prop where
  hf : u64ok s.first
  hs : s.sl < 18446744073709551616
  hi : s.ic < 18446744073709551616
  ha : i64ok s.fr
  hb : i64ok s.up
/-- What is wrong with it. -/
def chk (s : Sg) : Int :=
  if s.fr < 0 ∨ s.up ≤ s.fr ∨ 4294967296 < s.up then 70
  else if 4611686018427387904 < s.sl then 71
  else if INF ≤ rg s.ic then 72 else 0
structure Right (s : Sg) : Prop where
  fr : 0 ≤ s.fr
  hto : s.fr < s.up
  run : s.up ≤ 4294967296
  sl : s.sl ≤ 4611686018427387904
  ic : rg s.ic < INF
theorem chk_right {s : Sg} : chk s = 0 ↔ Right s := by
  unfold chk
  constructor
  · intro h
    split at h
    · omega
    · split at h
      · omega
      · split at h
        · omega
        · exact ⟨by omega, by omega, by omega, by omega, by omega⟩
  · intro h
    have h1 := h.fr; have h2 := h.hto; have h3 := h.run; have h4 := h.sl; have h5 := h.ic
    rw [if_neg (by omega), if_neg (by omega), if_neg (by omega)]
/-- What is reckoned. -/
def gF (s : Sg) (q : Int) : Nat := (alongF s.sl (max q s.first - s.first) s.ic).getD 0
/-- What it predicts. -/
def guess (s : Sg) (q : Int) : Int := if chk s = 0 then clampI (gF s q) s.fr s.up else 0

/-- Of a right segment something is reckoned, and it is a number. -/
theorem gF_some {s : Sg} (h : Right s) {q : Int} (hq : u64ok q) (hf : u64ok s.first) : ∃ r, alongF s.sl (max q s.first - s.first) s.ic = some r ∧ Num64 r ∧ gF s q = r := by
  obtain ⟨n, hn⟩ : ∃ n : Nat, max q s.first - s.first = (n : Int) := ⟨(max q s.first - s.first).toNat, by omega⟩
  unfold u64ok at hq hf
  have hl := INF_lit
  have h4 := h.sl
  obtain ⟨m, o, m1, m2, m3, m4⟩ := mul_near s.sl n (by omega) (by omega)
  obtain ⟨q2, a1, a2⟩ := add_fin (fin_small (r := m) (by omega)) (show Fin64 s.ic from h.ic)
  have e : alongF s.sl (max q s.first - s.first) s.ic = some (wd (sumNeg (ng m) (ng s.ic) (sv m + sv s.ic)) (min q2 INF)) := by
    rw [hn]; unfold alongF; rw [m1]; exact a1
  exact ⟨_, e, num_of (Nat.min_le_right ..), by unfold gF; rw [e]; rfl⟩
theorem clampI_in {b : Nat} {lo hi : Int} (h : lo ≤ hi) : lo ≤ clampI b lo hi ∧ clampI b lo hi ≤ hi := by
  unfold clampI
  split
  · omega
  · split
    · omega
    · omega
theorem guess_in {s : Sg} (h : Right s) (q : Int) : s.fr ≤ guess s q ∧ guess s q ≤ s.up := by
  unfold guess; rw [if_pos (chk_right.2 h)]
  exact clampI_in (by have := h.hto; omega)
theorem guess_zero {s : Sg} (h : chk s ≠ 0) (q : Int) : guess s q = 0 := if_neg h
theorem guess_bounds (s : Sg) (q : Int) : 0 ≤ guess s q ∧ guess s q ≤ 4294967296 := by
  by_cases h : chk s = 0
  · have := guess_in (chk_right.1 h) q
    have h1 := (chk_right.1 h).fr; have h3 := (chk_right.1 h).run
    omega
  · rw [guess_zero h]; omega

/-- The worst of the first so many keys. -/
def worst (s : Sg) (L : List Int) : Nat → Int
  | 0 => 0
  | n + 1 => max (max (worst s L n) (guess s (L.getD n 0) - (s.fr + n))) (-(guess s (L.getD n 0) - (s.fr + n)))
def offI (s : Sg) (L : List Int) : Int × Int :=
  if chk s ≠ 0 then (0, chk s)
  else if (L.length : Int) ≠ s.up - s.fr ∨ L.getD 0 0 ≠ s.first ∨ ¬ L.Pairwise (· < ·) then (0, 1)
  else (worst s L L.length, 0)
theorem worst_bounds {s : Sg} (h : Right s) (L : List Int) (n : Nat) (hn : (n : Int) ≤ s.up - s.fr) : 0 ≤ worst s L n ∧ worst s L n ≤ 4294967296 := by
  induction n with
  | zero => unfold worst; omega
  | succ k ih =>
    have := ih (by omega)
    have g := guess_in h (L.getD k 0)
    have h1 := h.fr; have h3 := h.run
    unfold worst
    omega
theorem worst_of {s : Sg} {L : List Int} {n : Int} {k : Nat} (hk : worst s L k ≤ n) : ∀ i, i < k → guess s (L.getD i 0) - (s.fr + i) ≤ n ∧ -(guess s (L.getD i 0) - (s.fr + i)) ≤ n := by
  induction k with
  | zero => intro i hi; omega
  | succ k ih =>
    intro i hi
    unfold worst at hk
    rcases Nat.lt_or_ge i k with h | h
    · exact ih (by omega) i h
    · obtain rfl : i = k := by omega
      omega
theorem worst_le {s : Sg} {L : List Int} {n : Int} (h0 : 0 ≤ n) {k : Nat} (h : ∀ i, i < k → guess s (L.getD i 0) - (s.fr + i) ≤ n ∧ -(guess s (L.getD i 0) - (s.fr + i)) ≤ n) : worst s L k ≤ n := by
  induction k with
  | zero => exact h0
  | succ k ih =>
    have := ih fun i hi => h i (by omega)
    have := h k (by omega)
    unfold worst
    omega

/-- The segment of keys. -/
noncomputable def ofS (L : List Int) (eps fr : Int) : Sg × Int :=
  if (lineOf L eps).2 ≠ 0 then (⟨0, 0, 0, 0, 0⟩, (lineOf L eps).2)
  else if fr < 0 ∨ 4294967296 - (L.length : Int) < fr then (⟨0, 0, 0, 0, 0⟩, 1)
  else (⟨L.getD 0 0, nearF (lineOf L eps).1.1.toNat (lineOf L eps).1.2.1.toNat, floatOfInt .f64 (wrap64 (fr + (lineOf L eps).1.2.2)), fr, fr + L.length⟩, 0)
end Go.Proofs.Ytnccgpdniigekaa
/-
  Check of the program and of the reference.
-/
namespace Go.Proofs.Ytnccgpdniigekaa
open Go.RowKit
set_option linter.unusedVariables false
set_option linter.unusedSimpArgs false
attribute [local go_sem high] binOp_lss64 binOp_gtr64 binOp_geq64 binOp_leq64 binOp_eql64 binOp_neq64 f64bits frombits

theorem finite_any (b : Nat) (hb : b < 18446744073709551616) (w : World) : Calls Try.prog 72 #[.float .f64 b] w fun e w' => e = .returned (.bool (decide (rg b < INF))) ∧ w = w' := by
  have FI := isInf_any b hb
  have FN := isNaN_any b
  rcases Nat.lt_trichotomy (rg b) INF with h | h | h
  · rw [decide_eq_true h]
    rw [decide_eq_false (by omega)] at FI FN
    clear h
    go_enter Try.func72, Try.ntmps72
    go_wp2_with (first | (go_at_call 90; refine (FI _).mono ?_; rintro e w' ⟨rfl, rfl⟩) | (go_at_call 89; refine (FN _).mono ?_; rintro e w' ⟨rfl, rfl⟩))
    simp [bodyPost, results, Try.results72, go_sem]
  · rw [decide_eq_false (by omega)]
    rw [decide_eq_true h] at FI
    rw [decide_eq_false (by omega)] at FN
    clear h
    go_enter Try.func72, Try.ntmps72
    go_wp2_with (first | (go_at_call 90; refine (FI _).mono ?_; rintro e w' ⟨rfl, rfl⟩) | (go_at_call 89; refine (FN _).mono ?_; rintro e w' ⟨rfl, rfl⟩))
    simp [bodyPost, results, Try.results72, go_sem]
  · rw [decide_eq_false (by omega)]
    rw [decide_eq_true h] at FN
    clear h FI
    go_enter Try.func72, Try.ntmps72
    go_wp2_with (go_at_call 89; refine (FN _).mono ?_; rintro e w' ⟨rfl, rfl⟩)
    simp [bodyPost, results, Try.results72, go_sem]
theorem signbit_any (b : Nat) (hb : b < 18446744073709551616) (w : World) : Calls Try.prog 73 #[.float .f64 b] w fun e w' => e = .returned (.bool (decide (9223372036854775808 ≤ b))) ∧ w = w' := by
  have e : decide (wrap64 (b : Int) < 0) = decide (9223372036854775808 ≤ b) := by
    rw [decide_eq_decide]; unfold wrap64; omega
  go_enter Try.func73, Try.ntmps73
  go_wp2
  simp [bodyPost, results, Try.results73, go_sem]

theorem Sg.blk (s : Sg) (w : World) : Blk (w.alloc (.cells s.c 33)) w.heap.size 33 s.c := Blk.new _ _ _

/-- What is held against the slope. -/
theorem slope_facts {b : Nat} (hb : b < 18446744073709551616) :
    (b ≤ 4611686018427387904 → rg b < INF ∧ ¬ 9223372036854775808 ≤ b ∧ fLe 0 b ∧ ¬ fLt 4611686018427387904 b) ∧
    (4611686018427387904 < b → rg b < INF → ¬ 9223372036854775808 ≤ b → fLe 0 b ∧ fLt 4611686018427387904 b) ∧
    (INF < rg b → ¬ fLe 0 b) ∧ (rg b = INF → ¬ 9223372036854775808 ≤ b → fLe 0 b ∧ fLt 4611686018427387904 b) := by
  have hl := INF_lit
  have hr : b < 9223372036854775808 → rg b = b := fun h => by unfold rg; omega
  have z : ∀ {r}, r ≤ INF → fLe 0 r := fun {r} h => by
    rw [fLe_iff num_nought (num_small h), sv_nought, sv_small h]; omega
  have t : ∀ {r}, r ≤ INF → (fLt 4611686018427387904 r ↔ 4611686018427387904 < r) := fun {r} h => by
    rw [fLt_iff (num_small (by omega)) (num_small h), sv_small (by omega), sv_small h]
    rw [Int.ofNat_lt, val_lt_iff]
  refine ⟨fun h => ⟨by rw [hr (by omega)]; omega, by omega, z (by omega), fun h' => ?_⟩, fun h1 h2 h3 => ?_, fun h => ?_, fun h1 h2 => ?_⟩
  · rw [t (by omega)] at h'; omega
  · rw [hr (by omega)] at h2
    exact ⟨z (by omega), (t (by omega)).2 h1⟩
  · unfold fLe Num64; omega
  · rw [hr (by omega)] at h1
    exact ⟨z (by omega), (t (by omega)).2 (by omega)⟩

set_option maxHeartbeats 2000000 in
theorem check_any (s : Sg) (hs : SgOk s) (w : World) : Calls Try.prog 49 #[s.v] w fun e w' => e = .returned (.int .i64 (chk s)) ∧ Below w.heap.size w w' := by
  have G := s.blk w
  have H0 := Lib.hid (below_new (Below.refl w.heap.size w) (.cells s.c 33))
  have FA := finite_any s.sl hs.hs
  have FB := finite_any s.ic hs.hi
  have SB := signbit_any s.sl hs.hs
  obtain ⟨f1, f2, f3, f4⟩ := slope_facts hs.hs
  obtain ⟨first, sl, ic, fr, up⟩ := s
  unfold chk
  simp only [] at *
  unfold Sg.c at *
  unfold Sg.v
  simp only [] at *
  have c1 := G.cell 1
  have c2 := G.cell 2
  have c3 := G.cell 3
  have c4 := G.cell 4
  have END := Lib.hid G
  clear G hs
  by_cases h1 : fr < 0 ∨ up ≤ fr ∨ 4294967296 < up
  · rw [if_pos h1]
    clear f1 f2 f3 f4 FA FB SB
    by_cases a1 : fr < 0
    · clear h1
      go_enter Try.func49, Try.ntmps49
      go_wp2_with fail
      go_ret
      exact ⟨rfl, H0.out⟩
    by_cases a2 : up ≤ fr
    · clear h1
      go_enter Try.func49, Try.ntmps49
      go_wp2_with fail
      go_ret
      exact ⟨rfl, H0.out⟩
    · have a3 : 4294967296 < up := by omega
      clear h1
      go_enter Try.func49, Try.ntmps49
      go_wp2_with fail
      go_ret
      exact ⟨rfl, H0.out⟩
  rw [if_neg h1]
  have a1 : ¬ fr < 0 := by omega
  have a2 : ¬ up ≤ fr := by omega
  have a3 : ¬ 4294967296 < up := by omega
  clear h1
  by_cases h2 : 4611686018427387904 < sl
  · rw [if_pos h2]
    clear f1 f3 f4 FB
    by_cases b1 : rg sl < INF
    · rw [decide_eq_true b1] at FA
      by_cases b2 : 9223372036854775808 ≤ sl
      · rw [decide_eq_true b2] at SB
        clear f2 h2 b1 b2
        go_enter Try.func49, Try.ntmps49
        go_wp2_with (first | (go_at_call 72; refine (FA _).mono ?_; rintro e w' ⟨rfl, rfl⟩) | (go_at_call 73; refine (SB _).mono ?_; rintro e w' ⟨rfl, rfl⟩))
        go_ret
        exact ⟨rfl, H0.out⟩
      · rw [decide_eq_false b2] at SB
        have b3 := (f2 h2 b1 b2).2
        clear f2 h2 b1 b2
        go_enter Try.func49, Try.ntmps49
        go_wp2_with (first | (go_at_call 72; refine (FA _).mono ?_; rintro e w' ⟨rfl, rfl⟩) | (go_at_call 73; refine (SB _).mono ?_; rintro e w' ⟨rfl, rfl⟩))
        go_ret
        exact ⟨rfl, H0.out⟩
    · rw [decide_eq_false b1] at FA
      clear f2 h2 b1 SB
      go_enter Try.func49, Try.ntmps49
      go_wp2_with (first | (go_at_call 72; refine (FA _).mono ?_; rintro e w' ⟨rfl, rfl⟩))
      go_ret
      exact ⟨rfl, H0.out⟩
  rw [if_neg h2]
  obtain ⟨b1, b2, b3, b4⟩ := f1 (by omega)
  rw [decide_eq_true b1] at FA
  rw [decide_eq_false b2] at SB
  clear f1 f2 f3 f4 h2 b1 b2 b3
  by_cases h3 : INF ≤ rg ic
  · rw [if_pos h3]
    rw [decide_eq_false (by omega)] at FB
    clear h3
    go_enter Try.func49, Try.ntmps49
    go_upto_region 5 with (first | (go_at_call 72; refine (FA _).mono ?_; rintro e w' ⟨rfl, rfl⟩) | (go_at_call 73; refine (SB _).mono ?_; rintro e w' ⟨rfl, rfl⟩))
    go_wp2_with (go_at_call 72; refine (FB _).mono ?_; rintro e w' ⟨rfl, rfl⟩)
    go_ret
    exact ⟨rfl, H0.out⟩
  · rw [if_neg h3]
    rw [decide_eq_true (by omega)] at FB
    clear h3
    go_enter Try.func49, Try.ntmps49
    go_upto_region 5 with (first | (go_at_call 72; refine (FA _).mono ?_; rintro e w' ⟨rfl, rfl⟩) | (go_at_call 73; refine (SB _).mono ?_; rintro e w' ⟨rfl, rfl⟩))
    go_wp2_with (go_at_call 72; refine (FB _).mono ?_; rintro e w' ⟨rfl, rfl⟩)
    go_ret
    exact ⟨rfl, H0.out⟩

/-- A float less itself. -/
theorem self_less (b : Nat) (w : World) : ∃ r w', (∀ t, (binOp .sub t (.float .f64 b) (.float .f64 b)).run Try.prog w = .ok (.float .f64 r) w') ∧ (fEq r 0 ↔ rg b < INF) ∧ (w' = w ∨ w' = w.drew) := by
  by_cases h : rg b < INF
  · refine ⟨0, w, fun t => run_float_arith w .sub t .f64 _ _ _ ?_, ⟨fun _ => h, fun _ => (fEq_self 0).2 (by decide)⟩, .inl rfl⟩
    have m := sub_exact (a := b) (b := b) (r := 0) h h (Nat.zero_le _) (by rw [Int.sub_self, val_zero]; rfl)
    rw [Int.sub_self] at m
    have : sumNeg (ng b) (!ng b) 0 = false := by unfold sumNeg; cases ng b <;> rfl
    rw [this] at m; exact m
  · have hn : Ieee.double.sub b b = none := by
      rcases Nat.lt_or_eq_of_le (Nat.le_of_not_lt h) with h' | h'
      · exact nan_op (op := .sub) (.inr (.inr rfl)) h'
      · unfold Ieee.Format.sub
        rw [read_inf h'.symm]
        cases ng b <;> rfl
    obtain ⟨r, r1, r2, r3⟩ := run_float_nan (P := Try.prog) w .sub b b (.inr (.inr rfl)) hn
    exact ⟨r, w.drew, r3, ⟨fun h' => by unfold fEq at h'; exact absurd h'.1 (not_num r1), fun h' => absurd h' h⟩, .inr rfl⟩

set_option maxHeartbeats 2000000 in
theorem refCheck_any (s : Sg) (hs : SgOk s) (w : World) : Calls Try.prog 52 #[s.v] w fun e w' => e = .returned (.int .i64 (chk s)) ∧ Below w.heap.size w w' := by
  have G := s.blk w
  have H0 := Lib.hid (below_new (Below.refl w.heap.size w) (.cells s.c 33))
  obtain ⟨f1, f2, f3, f4⟩ := slope_facts hs.hs
  obtain ⟨r, wx, x1, x2, x3⟩ := self_less s.ic (w.alloc (.cells s.c 33))
  have H1 : Hid (Below w.heap.size w wx) := Lib.hid (by
    rcases x3 with rfl | rfl
    · exact H0.out
    · exact H0.out.drew)
  clear x3
  have hsl := hs.hs
  obtain ⟨first, sl, ic, fr, up⟩ := s
  unfold chk
  simp only [] at *
  unfold Sg.c at *
  unfold Sg.v
  simp only [] at *
  have c1 := G.cell 1
  have c2 := G.cell 2
  have c3 := G.cell 3
  have c4 := G.cell 4
  have END := Lib.hid G
  clear G hs
  by_cases h1 : fr < 0 ∨ up ≤ fr ∨ 4294967296 < up
  · rw [if_pos h1]
    clear f1 f2 f3 f4 x1 x2 H1 hsl
    by_cases a1 : fr < 0
    · clear h1
      go_enter Try.func52, Try.ntmps52
      go_wp2_with fail
      go_ret
      exact ⟨rfl, H0.out⟩
    by_cases a2 : up ≤ fr
    · clear h1
      go_enter Try.func52, Try.ntmps52
      go_wp2_with fail
      go_ret
      exact ⟨rfl, H0.out⟩
    · have a3 : 4294967296 < up := by omega
      clear h1
      go_enter Try.func52, Try.ntmps52
      go_wp2_with fail
      go_ret
      exact ⟨rfl, H0.out⟩
  rw [if_neg h1]
  have a1 : ¬ fr < 0 := by omega
  have a2 : ¬ up ≤ fr := by omega
  have a3 : ¬ 4294967296 < up := by omega
  clear h1
  by_cases h2 : 4611686018427387904 < sl
  · rw [if_pos h2]
    clear f1 x1 x2 H1
    by_cases b0 : fLe 0 sl
    · by_cases b2 : 9223372036854775808 ≤ sl
      · have b2' : (9223372036854775808 : Int) ≤ (sl : Int) := by omega
        clear f2 f3 f4 h2 b2
        go_enter Try.func52, Try.ntmps52
        go_wp2_with fail
        go_ret
        exact ⟨rfl, H0.out⟩
      · have b2' : ¬ (9223372036854775808 : Int) ≤ (sl : Int) := by omega
        have b3 : fLt 4611686018427387904 sl := by
          rcases Nat.lt_trichotomy (rg sl) INF with h | h | h
          · exact (f2 h2 h b2).2
          · exact (f4 h b2).2
          · exact absurd b0 (f3 h)
        clear f2 f3 f4 h2 b2
        go_enter Try.func52, Try.ntmps52
        go_wp2_with fail
        go_ret
        exact ⟨rfl, H0.out⟩
    · clear f2 f3 f4 h2
      go_enter Try.func52, Try.ntmps52
      go_wp2_with fail
      go_ret
      exact ⟨rfl, H0.out⟩
  rw [if_neg h2]
  obtain ⟨b1, b2, b3, b4⟩ := f1 (by omega)
  have b2' : ¬ (9223372036854775808 : Int) ≤ (sl : Int) := by omega
  clear f1 f2 f3 f4 h2 b1 b2
  by_cases h3 : INF ≤ rg ic
  · rw [if_pos h3]
    have x3 : ¬ fEq r 0 := fun h => by have := x2.1 h; omega
    clear h3 x2
    go_enter Try.func52, Try.ntmps52
    go_wp2_with fail
    go_ret
    exact ⟨rfl, H1.out⟩
  · rw [if_neg h3]
    have x3 : fEq r 0 := x2.2 (by omega)
    clear h3 x2
    go_enter Try.func52, Try.ntmps52
    go_wp2_with fail
    go_ret
    exact ⟨rfl, H1.out⟩
end Go.Proofs.Ytnccgpdniigekaa
/-
  Guess of the program and of the reference.
-/
namespace Go.Proofs.Ytnccgpdniigekaa
open Go.RowKit
set_option linter.unusedVariables false
set_option linter.unusedSimpArgs false
attribute [local go_sem high] binOp_lss64 binOp_gtr64 binOp_geq64 binOp_leq64 binOp_eql64 binOp_neq64 f64bits frombits

/-- A segment's block, some time later. -/
structure SB (w : World) (g : Nat) (s : Sg) (w' : World) : Prop where
  blk : Blk w' g 33 s.c
  bel : Below w.heap.size w w'
theorem SB.all {w w' : World} {g : Nat} {a : Int} {b c : Nat} {d e : Int} (h : SB w g ⟨a, b, c, d, e⟩ w') : SB w g ⟨a, b, c, d, e⟩ w' ∧ w'.cell? ⟨g, 0, none⟩ = some (.int .u64 a) ∧ w'.cell? ⟨g, 1, none⟩ = some (.float .f64 b) ∧ w'.cell? ⟨g, 2, none⟩ = some (.float .f64 c) ∧ w'.cell? ⟨g, 3, none⟩ = some (.int .i64 d) ∧ w'.cell? ⟨g, 4, none⟩ = some (.int .i64 e) :=
  ⟨h, h.blk.cell 0, h.blk.cell 1, h.blk.cell 2, h.blk.cell 3, h.blk.cell 4⟩
theorem SB.below {w w' w2 : World} {g : Nat} {s : Sg} (h : SB w g s w') (b : Below w'.heap.size w' w2) : SB w g s w2 := ⟨h.blk.below b, below_next h.bel b⟩
theorem SB.drew {w w' : World} {g : Nat} {s : Sg} (h : SB w g s w') : SB w g s w'.drew := ⟨h.blk.drew, h.bel.drew⟩
theorem SB.new (s : Sg) (w : World) : SB w w.heap.size s (w.alloc (.cells s.c 33)) := ⟨s.blk w, below_new (Below.refl _ _) _⟩

set_option maxHeartbeats 2000000 in
theorem guess_any (s : Sg) (hs : SgOk s) (q : Int) (hq : u64ok q) (w : World) : Calls Try.prog 54 #[s.v, .int .u64 q] w fun e w' => e = .returned (.int .i64 (guess s q)) ∧ Below w.heap.size w w' := by
  have G := s.blk w
  have CK := check_any s hs
  unfold Sg.c at G
  unfold Sg.v at CK ⊢
  have H0 := Lib.hid (And.intro G (below_new (Below.refl w.heap.size w) (.cells s.c 33)))
  by_cases h : chk s = 0
  · obtain ⟨r, r1, r2, r3⟩ := gF_some (chk_right.1 h) hq hs.hf
    have AL := fun w => alongW_any s.sl s.ic (max q s.first - s.first) w
    have e : guess s q = clampI r s.fr s.up := by unfold guess; rw [if_pos h, r3]
    have CL := fun w => clamp_any r s.fr s.up hs.ha hs.hb w
    rw [e]
    rw [h] at CK
    have HR : ∀ x, Hid (AlongR s.sl (max q s.first - s.first) s.ic x) → x = r := fun x hx => by
      rcases hx.out.2 with h1 | h1
      · rw [r1] at h1; exact (Option.some.inj h1).symm
      · rw [r1] at h1; exact absurd h1.1 (by simp)
    have HR' := Lib.hid HR
    have wr : IntKind.u64.wrap (max q s.first - s.first) = max q s.first - s.first := by
      have := hs.hf; unfold u64ok at this hq; rw [IntKind.wrap_u64]; omega
    clear HR r1 r2 r3 h e
    obtain ⟨first, sl, ic, fr, up⟩ := s
    simp only [] at *
    generalize clampI r fr up = res at *
    have c0 := G.cell 0
    have c1 := G.cell 1
    have c2 := G.cell 2
    have c3 := G.cell 3
    have c4 := G.cell 4
    clear hs hq
    go_enter Try.func54, Try.ntmps54
    go_wp2_with fail
    refine (CK _).mono ?_
    rintro e w1 ⟨rfl, b1⟩
    have G1 := G.below b1
    have H1 := Lib.hid (below_next H0.out.2 b1)
    have K1 : Hid (SB w w.heap.size ⟨first, sl, ic, fr, up⟩ w1) := Lib.hid ⟨G1, H1.out⟩
    clear b1 c0 c1 c2 c3 c4 G G1
    obtain ⟨_, c0, c1, c2, c3, c4⟩ := K1.out.all
    go_upto_region 3 with fail
    go_region_held3 (fun w' => SB w w.heap.size ⟨first, sl, ic, fr, up⟩ w' ∧ w'.cell? ⟨w.heap.size, 0, none⟩ = some (.int .u64 first) ∧ w'.cell? ⟨w.heap.size, 1, none⟩ = some (.float .f64 sl) ∧ w'.cell? ⟨w.heap.size, 2, none⟩ = some (.float .f64 ic) ∧ w'.cell? ⟨w.heap.size, 3, none⟩ = some (.int .i64 fr) ∧ w'.cell? ⟨w.heap.size, 4, none⟩ = some (.int .i64 up))
      (first | exact K1.out.drew.all | exact HB.out.all | go_keep)
      (first | (go_at_call 75; (with_reducible refine (AL _).mono ?_); rintro e5 w5 ⟨x, rfl, hx, b5⟩; obtain rfl := HR'.out x hx; have HB := Lib.hid ((‹SB _ _ _ _ ∧ _›).1.below b5)) | (go_at_call 74; (with_reducible refine (CL _).mono ?_); rintro e6 w6 ⟨rfl, rfl⟩))
    all_goals go_wp2_with fail
    go_ret
    exact ⟨rfl, HB.out.bel⟩
  · rw [guess_zero h]
    have hz : (chk s == 0) = false := by simpa using h
    generalize chk s = k at *
    obtain ⟨first, sl, ic, fr, up⟩ := s
    simp only [] at *
    clear hs hq h
    have c0 := G.cell 0
    have c1 := G.cell 1
    have c2 := G.cell 2
    have c3 := G.cell 3
    have c4 := G.cell 4
    go_enter Try.func54, Try.ntmps54
    go_wp2_with fail
    refine (CK _).mono ?_
    rintro e w1 ⟨rfl, b1⟩
    have H1 := Lib.hid (below_next H0.out.2 b1)
    go_wp2_with fail
    go_ret
    exact ⟨rfl, H1.out⟩
set_option maxHeartbeats 2000000 in
theorem refGuess_any (s : Sg) (hs : SgOk s) (q : Int) (hq : u64ok q) (w : World) : Calls Try.prog 59 #[s.v, .int .u64 q] w fun e w' => e = .returned (.int .i64 (guess s q)) ∧ Below w.heap.size w w' := by
  have G := s.blk w
  have CK := refCheck_any s hs
  unfold Sg.c at G
  unfold Sg.v at CK ⊢
  have H0 := Lib.hid (And.intro G (below_new (Below.refl w.heap.size w) (.cells s.c 33)))
  by_cases h : chk s = 0
  · obtain ⟨r, r1, r2, r3⟩ := gF_some (chk_right.1 h) hq hs.hf
    have AL := fun w => refAlong_any s.sl s.ic (max q s.first - s.first) w
    have e : guess s q = clampI r s.fr s.up := by unfold guess; rw [if_pos h, r3]
    have CL := fun w => refClamp_any r s.fr s.up hs.ha hs.hb w
    rw [e]
    rw [h] at CK
    have HR : ∀ x, Hid (AlongR s.sl (max q s.first - s.first) s.ic x) → x = r := fun x hx => by
      rcases hx.out.2 with h1 | h1
      · rw [r1] at h1; exact (Option.some.inj h1).symm
      · rw [r1] at h1; exact absurd h1.1 (by simp)
    have HR' := Lib.hid HR
    have wr : IntKind.u64.wrap (max q s.first - s.first) = max q s.first - s.first := by
      have := hs.hf; unfold u64ok at this hq; rw [IntKind.wrap_u64]; omega
    clear HR r1 r2 r3 h e
    obtain ⟨first, sl, ic, fr, up⟩ := s
    simp only [] at *
    generalize clampI r fr up = res at *
    have c0 := G.cell 0
    have c1 := G.cell 1
    have c2 := G.cell 2
    have c3 := G.cell 3
    have c4 := G.cell 4
    clear hs hq
    go_enter Try.func59, Try.ntmps59
    go_wp2_with fail
    refine (CK _).mono ?_
    rintro e w1 ⟨rfl, b1⟩
    have G1 := G.below b1
    have H1 := Lib.hid (below_next H0.out.2 b1)
    have K1 : Hid (SB w w.heap.size ⟨first, sl, ic, fr, up⟩ w1) := Lib.hid ⟨G1, H1.out⟩
    clear b1 c0 c1 c2 c3 c4 G G1
    obtain ⟨_, c0, c1, c2, c3, c4⟩ := K1.out.all
    by_cases hgt : first < q
    · have wr2 : IntKind.u64.wrap (q - first) = q - first := by
        have e : max q first = q := by omega
        rwa [e] at wr
      have em : max q first - first = q - first := by omega
      rw [em] at AL HR'
      clear wr em
      go_upto_region 6 with fail
      go_region_held3 (fun w' => SB w w.heap.size ⟨first, sl, ic, fr, up⟩ w' ∧ w'.cell? ⟨w.heap.size, 0, none⟩ = some (.int .u64 first) ∧ w'.cell? ⟨w.heap.size, 1, none⟩ = some (.float .f64 sl) ∧ w'.cell? ⟨w.heap.size, 2, none⟩ = some (.float .f64 ic) ∧ w'.cell? ⟨w.heap.size, 3, none⟩ = some (.int .i64 fr) ∧ w'.cell? ⟨w.heap.size, 4, none⟩ = some (.int .i64 up))
        (first | exact K1.out.drew.all | exact HB.out.all | go_keep)
        (first | (go_at_call 78; (with_reducible refine (AL _).mono ?_); rintro e5 w5 ⟨x, rfl, hx, b5⟩; obtain rfl := HR'.out x hx; have HB := Lib.hid ((‹SB _ _ _ _ ∧ _›).1.below b5)) | (go_at_call 77; (with_reducible refine (CL _).mono ?_); rintro e6 w6 ⟨rfl, rfl⟩))
      all_goals go_wp2_with fail
      go_ret
      exact ⟨rfl, HB.out.bel⟩
    · have em : max q first - first = 0 := by omega
      rw [em] at AL HR'
      clear wr em
      go_upto_region 6 with fail
      go_region_held3 (fun w' => SB w w.heap.size ⟨first, sl, ic, fr, up⟩ w' ∧ w'.cell? ⟨w.heap.size, 0, none⟩ = some (.int .u64 first) ∧ w'.cell? ⟨w.heap.size, 1, none⟩ = some (.float .f64 sl) ∧ w'.cell? ⟨w.heap.size, 2, none⟩ = some (.float .f64 ic) ∧ w'.cell? ⟨w.heap.size, 3, none⟩ = some (.int .i64 fr) ∧ w'.cell? ⟨w.heap.size, 4, none⟩ = some (.int .i64 up))
        (first | exact K1.out.drew.all | exact HB.out.all | go_keep)
        (first | (go_at_call 78; (with_reducible refine (AL _).mono ?_); rintro e5 w5 ⟨x, rfl, hx, b5⟩; obtain rfl := HR'.out x hx; have HB := Lib.hid ((‹SB _ _ _ _ ∧ _›).1.below b5)) | (go_at_call 77; (with_reducible refine (CL _).mono ?_); rintro e6 w6 ⟨rfl, rfl⟩))
      all_goals go_wp2_with fail
      go_ret
      exact ⟨rfl, HB.out.bel⟩
  · rw [guess_zero h]
    have hz : (chk s == 0) = false := by simpa using h
    generalize chk s = k at *
    obtain ⟨first, sl, ic, fr, up⟩ := s
    simp only [] at *
    clear hs hq h
    have c0 := G.cell 0
    have c1 := G.cell 1
    have c2 := G.cell 2
    have c3 := G.cell 3
    have c4 := G.cell 4
    go_enter Try.func59, Try.ntmps59
    go_wp2_with fail
    refine (CK _).mono ?_
    rintro e w1 ⟨rfl, b1⟩
    have H1 := Lib.hid (below_next H0.out.2 b1)
    go_wp2_with fail
    go_ret
    exact ⟨rfl, H1.out⟩
end Go.Proofs.Ytnccgpdniigekaa
/-
  Off of the program and of the reference.
-/
namespace Go.Proofs.Ytnccgpdniigekaa
open Go.RowKit
set_option linter.unusedVariables false
set_option linter.unusedSimpArgs false
attribute [local go_sem high] binOp_lss64 binOp_gtr64 binOp_geq64 binOp_leq64 binOp_eql64 binOp_neq64 f64bits frombits

/-- How far off one is, step by step. -/
theorem worst_step {s : Sg} (h : Right s) (L : List Int) (n : Nat) (hn : (n : Int) < s.up - s.fr) :
    IntKind.i64.wrap (guess s (L.getD n 0) - s.fr) = guess s (L.getD n 0) - s.fr ∧ IntKind.i64.wrap (guess s (L.getD n 0) - s.fr - n) = guess s (L.getD n 0) - s.fr - n ∧ wrap64 (-(guess s (L.getD n 0) - s.fr - n)) = -(guess s (L.getD n 0) - s.fr - n) ∧
    IntKind.i64.wrap (s.fr + n) = s.fr + n ∧ IntKind.i64.wrap (guess s (L.getD n 0) - (s.fr + n)) = guess s (L.getD n 0) - s.fr - n ∧
    worst s L (n + 1) = max (max (worst s L n) (guess s (L.getD n 0) - s.fr - n)) (-(guess s (L.getD n 0) - s.fr - n)) := by
  have g := guess_in h (L.getD n 0)
  have h1 := h.fr; have h3 := h.run
  refine ⟨?_, ?_, ?_, ?_, ?_, ?_⟩
  · exact IntWalk.i64_in _ (by omega)
  · exact IntWalk.i64_in _ (by omega)
  · unfold wrap64; omega
  · exact IntWalk.i64_in _ (by omega)
  · rw [show guess s (L.getD n 0) - (s.fr + n) = guess s (L.getD n 0) - s.fr - n by omega]; exact IntWalk.i64_in _ (by omega)
  · show max (max (worst s L n) (guess s (L.getD n 0) - (s.fr + n))) (-(guess s (L.getD n 0) - (s.fr + n))) = _
    rw [show guess s (L.getD n 0) - (s.fr + n) = guess s (L.getD n 0) - s.fr - n by omega]

theorem and_last {a b c d e f : Prop} (h : a ∧ b ∧ c ∧ d ∧ e) (k : f) : a ∧ b ∧ c ∧ d ∧ e ∧ f := ⟨h.1, h.2.1, h.2.2.1, h.2.2.2.1, h.2.2.2.2, k⟩
theorem max3 (a b c : Int) : (if (if a < b then b else a) < c then c else if a < b then b else a) = max (max a b) c := by
  have e : (if a < b then b else a) = max a b := by rw [Int.max_def]; split <;> split <;> omega
  rw [e, Int.max_def (max a b)]
  split <;> split <;> omega
set_option maxRecDepth 100000 in
set_option maxHeartbeats 4000000 in
theorem off_any (s : Sg) (hs : SgOk s) (A : Option Addr) (c : Nat) (L : List Int) (hL : U64s L) (hn : L.length ≤ 17592186044416) (w : World) (hA : ArgU w A L) :
    Calls Try.prog 50 #[s.v, .slice A L.length c] w fun e w' => e = .returned (.tuple #[.int .i64 (offI s L).1, .int .i64 (offI s L).2]) ∧ Below w.heap.size w w' := by
  have CK := check_any s hs
  have GS := fun k hk => guess_any s hs k hk
  have RI := fun w' hA' => Rising_any A c L hn w' hA'
  have K0 := Lib.hid (SB.new s w)
  have HA := Lib.hid hA
  have HU := Lib.hid hL
  clear hA hL
  by_cases h : chk s = 0
  · have HR := Lib.hid (chk_right.1 h)
    have e0 : offI s L = if (L.length : Int) ≠ s.up - s.fr ∨ L.getD 0 0 ≠ s.first ∨ ¬ L.Pairwise (· < ·) then (0, 1) else (worst s L L.length, 0) := by unfold offI; rw [if_neg (by simpa using h)]
    rw [e0]
    rw [h] at CK
    have WS := Lib.hid (fun n hn => worst_step (chk_right.1 h) L n hn)
    have b1 := (chk_right.1 h).fr; have b2 := (chk_right.1 h).hto; have b3 := (chk_right.1 h).run
    obtain ⟨first, sl, ic, fr, up⟩ := s
    simp only [] at b1 b2 b3 WS ⊢
    have GS' := Lib.hid GS
    have RI' := Lib.hid RI
    unfold Sg.v at CK GS' ⊢
    simp only [] at CK GS' ⊢
    have w1 : IntKind.i64.wrap (up - fr) = up - fr := IntWalk.i64_in _ (by omega)
    clear e0 hs h GS RI
    obtain ⟨_, c0, c1, c2, c3, c4⟩ := K0.out.all
    by_cases a1 : (L.length : Int) = up - fr
    · have z1 : ((L.length : Int) != up - fr) = false := by simpa using a1
      have hl : 0 < L.length := by omega
      have i00 : (0 : Int) < (L.length : Int) := by omega
      obtain ⟨b, o, rfl, hb, hc0, hc⟩ := HA.out.first hl
      have HC := Lib.hid (And.intro hb (And.intro hc0 hc))
      have cc0 : ∀ w', Below w.heap.size w w' → w'.cell? ⟨b, o, none⟩ = some (.int .u64 (L.getD 0 0)) := fun w' k => (k.cell (p := ⟨b, _, none⟩) HC.out.1).trans HC.out.2.1
      have CC0 := Lib.hid cc0
      obtain ⟨k0, hk0⟩ : ∃ k0, L.getD 0 0 = k0 := ⟨_, rfl⟩
      rw [hk0] at CC0 ⊢
      clear hb hc0 hc cc0
      by_cases a2 : k0 = first
      · have z2 : (k0 != first) = false := by simpa using a2
        have RX := RI'.out
        by_cases a3 : L.Pairwise (· < ·)
        · rw [decide_eq_true a3] at RX
          have RX' := Lib.hid RX
          rw [if_neg (show ¬((L.length : Int) ≠ up - fr ∨ k0 ≠ first ∨ ¬ L.Pairwise (· < ·)) by simp [a1, a2, a3])]
          have HG := Lib.hid (And.intro a1 a3)
          clear a3 RX RI' a1 b1 b2 b3
          subst a2
          go_enter Try.func50, Try.ntmps50
          go_wp2_with fail
          refine (CK _).mono ?_
          rintro e w2 ⟨rfl, bb⟩
          have K1 := Lib.hid (K0.out.below bb)
          clear c0 c1 c2 c3 c4 bb CK K0
          obtain ⟨_, c0, c1, c2, c3, c4⟩ := K1.out.all
          go_upto_region 4 with fail
          go_region_held3 (fun w' => SB w w.heap.size ⟨k0, sl, ic, fr, up⟩ w' ∧ w'.cell? ⟨w.heap.size, 0, none⟩ = some (.int .u64 k0) ∧ w'.cell? ⟨w.heap.size, 1, none⟩ = some (.float .f64 sl) ∧ w'.cell? ⟨w.heap.size, 2, none⟩ = some (.float .f64 ic) ∧ w'.cell? ⟨w.heap.size, 3, none⟩ = some (.int .i64 fr) ∧ w'.cell? ⟨w.heap.size, 4, none⟩ = some (.int .i64 up) ∧ w'.cell? ⟨b, o, none⟩ = some (.int .u64 k0))
            (first | exact And.intro K1.out.drew.all.1 (and_last K1.out.drew.all.2 (CC0.out _ K1.out.drew.bel)) | exact And.intro HB.out.all.1 (and_last HB.out.all.2 (CC0.out _ HB.out.bel)) | go_keep)
            (first | (go_at_call 40; (with_reducible refine (RX'.out _ (HA.out.below ((‹SB _ _ _ _ ∧ _›).1.bel))).mono ?_); rintro e5 w5 ⟨rfl, b5⟩; have HB := Lib.hid ((‹SB _ _ _ _ ∧ _›).1.below b5)))
          clear c0 c1 c2 c3 c4 RX' CC0 z1 z2
          go_wp2_with fail
          go_loopw [7, 39] (fun y x wr => ∃ i : Nat, i ≤ L.length ∧ x = .int .i64 i ∧ y = .int .i64 (worst ⟨k0, sl, ic, fr, up⟩ L i) ∧ Hid (SB w w.heap.size ⟨k0, sl, ic, fr, up⟩ wr)) (fun _ x _ => L.length - (intOf x).toNat)
          case atStart => exact ⟨0, Nat.zero_le _, rfl, rfl, HB⟩
          case round =>
            obtain ⟨i, hi, rfl, rfl, K⟩ := hrel
            clear HB
            by_cases hlt : i < L.length
            · have i0 : (0 : Int) ≤ (i : Int) := by omega
              have i1 : (i : Int) < (L.length : Int) := by omega
              have hki : u64ok (L.getD i 0) := HU.out.getD hlt
              have cci : ∀ w', Below w.heap.size w w' → w'.cell? ⟨b, o + i, none⟩ = some (.int .u64 (L.getD i 0)) := fun w' k => (k.cell (p := ⟨b, _, none⟩) HC.out.1).trans (HC.out.2.2 i hlt)
              obtain ⟨v1, v2, v3, v4, v5, v6⟩ := WS.out i (by have := HG.out.1; omega)
              have GG := fun w' => GS'.out (L.getD i 0) hki w'
              have V6 := Lib.hid v6
              obtain ⟨k, hk⟩ : ∃ k, L.getD i 0 = k := ⟨_, rfl⟩
              rw [hk] at cci GG V6 v1 v2 v3 v5
              have CC := Lib.hid cci
              obtain ⟨gv, hg⟩ : ∃ gv, guess ⟨k0, sl, ic, fr, up⟩ k = gv := ⟨_, rfl⟩
              rw [hg] at GG V6 v1 v2 v3 v5
              obtain ⟨m, hm⟩ : ∃ m, gv - fr = m := ⟨_, rfl⟩
              rw [hm] at V6 v1 v2 v3 v5
              obtain ⟨d, hd⟩ : ∃ d, m - (i : Int) = d := ⟨_, rfl⟩
              rw [hd] at V6 v2 v3 v5
              skip
              have gb := guess_in HR.out k
              rw [hg] at gb
              have r1 := HR.out.fr; have r3 := HR.out.run; have r4 := HG.out.1
              simp only [] at gb r1 r3
              have F1 : wrap64 (gv - fr) = m := by rw [hm]; unfold wrap64; omega
              have F2 : wrap64 (m - (i : Int)) = d := by rw [hd]; unfold wrap64; omega
              have FF := Lib.hid (And.intro F1 (And.intro F2 v3))
              clear gb r1 r3 r4
              obtain ⟨wo, hwo⟩ : ∃ wo, worst ⟨k0, sl, ic, fr, up⟩ L i = wo := ⟨_, rfl⟩
              rw [hwo] at V6 ⊢
              clear cci v6 hd hm hg hk hki
              obtain ⟨_, c0, c1, c2, c3, c4⟩ := K.out.all
              have ck := CC.out _ K.out.bel
              go_upto_region 10 with fail
              go_region_held3 (fun w' => SB w w.heap.size ⟨k0, sl, ic, fr, up⟩ w' ∧ w'.cell? ⟨w.heap.size, 0, none⟩ = some (.int .u64 k0) ∧ w'.cell? ⟨w.heap.size, 1, none⟩ = some (.float .f64 sl) ∧ w'.cell? ⟨w.heap.size, 2, none⟩ = some (.float .f64 ic) ∧ w'.cell? ⟨w.heap.size, 3, none⟩ = some (.int .i64 fr) ∧ w'.cell? ⟨w.heap.size, 4, none⟩ = some (.int .i64 up))
                (first | exact K.out.drew.all | exact HB.out.all | go_keep)
                (first | (go_at_call 54; (with_reducible refine (GG _).mono ?_); rintro e5 w5 ⟨rfl, b5⟩; have HB := Lib.hid ((‹SB _ _ _ _ ∧ _›).1.below b5)))
              go_wp2_with fail
              go_roundw
              case rel => exact ⟨i + 1, by omega, by go_num, by rw [V6.out]; congr 1; (try simp only [FF.out.1, FF.out.2.1, FF.out.2.2]); first | rfl | exact max3 _ _ _, HB⟩
              case measure => simp [intOf]; omega
            · obtain rfl : i = L.length := by omega
              have i1 : ¬ (L.length : Int) < (L.length : Int) := by omega
              go_wp2_with fail
              simp [bodyPost, results, Try.results50, go_sem]
              exact K.out.bel
        · rw [decide_eq_false a3] at RX
          have RX' := Lib.hid RX
          rw [if_pos (show ((L.length : Int) ≠ up - fr ∨ k0 ≠ first ∨ ¬ L.Pairwise (· < ·)) from Or.inr (Or.inr a3))]
          clear a3 RX RI' a1 b1 b2 b3
          subst a2
          go_enter Try.func50, Try.ntmps50
          go_wp2_with fail
          refine (CK _).mono ?_
          rintro e w2 ⟨rfl, bb⟩
          have K1 := Lib.hid (K0.out.below bb)
          clear c0 c1 c2 c3 c4 bb CK K0
          obtain ⟨_, c0, c1, c2, c3, c4⟩ := K1.out.all
          go_upto_region 4 with fail
          go_region_held3 (fun w' => SB w w.heap.size ⟨k0, sl, ic, fr, up⟩ w' ∧ w'.cell? ⟨w.heap.size, 0, none⟩ = some (.int .u64 k0) ∧ w'.cell? ⟨w.heap.size, 1, none⟩ = some (.float .f64 sl) ∧ w'.cell? ⟨w.heap.size, 2, none⟩ = some (.float .f64 ic) ∧ w'.cell? ⟨w.heap.size, 3, none⟩ = some (.int .i64 fr) ∧ w'.cell? ⟨w.heap.size, 4, none⟩ = some (.int .i64 up) ∧ w'.cell? ⟨b, o, none⟩ = some (.int .u64 k0))
            (first | exact And.intro K1.out.drew.all.1 (and_last K1.out.drew.all.2 (CC0.out _ K1.out.drew.bel)) | exact And.intro HB.out.all.1 (and_last HB.out.all.2 (CC0.out _ HB.out.bel)) | go_keep)
            (first | (go_at_call 40; (with_reducible refine (RX'.out _ (HA.out.below ((‹SB _ _ _ _ ∧ _›).1.bel))).mono ?_); rintro e5 w5 ⟨rfl, b5⟩; have HB := Lib.hid ((‹SB _ _ _ _ ∧ _›).1.below b5)))
          go_wp2_with fail
          simp [bodyPost, results, Try.results50, go_sem]
          exact HB.out.bel
      · have z2 : (k0 != first) = true := bne_iff_ne.2 a2
        have z2' : (k0 == first) = false := by simpa using a2
        rw [if_pos (show ((L.length : Int) ≠ up - fr ∨ k0 ≠ first ∨ ¬ L.Pairwise (· < ·)) from Or.inr (Or.inl a2))]
        clear a2 a1 b1 b2 b3 RI'
        go_enter Try.func50, Try.ntmps50
        go_wp2_with fail
        refine (CK _).mono ?_
        rintro e w2 ⟨rfl, bb⟩
        have K1 := Lib.hid (K0.out.below bb)
        clear c0 c1 c2 c3 c4 bb CK K0
        obtain ⟨_, c0, c1, c2, c3, c4⟩ := K1.out.all
        have ck0 := CC0.out _ K1.out.bel
        go_upto_region 4 with fail
        go_quiet (fail)
        go_wp2_with fail
        simp [bodyPost, results, Try.results50, go_sem]
        exact drewN_below K1.out.bel _
    · have z1 : ((L.length : Int) != up - fr) = true := bne_iff_ne.2 a1
      have z1' : ((L.length : Int) == up - fr) = false := by simpa using a1
      rw [if_pos (Or.inl a1)]
      go_enter Try.func50, Try.ntmps50
      go_wp2_with fail
      refine (CK _).mono ?_
      rintro e w2 ⟨rfl, bb⟩
      have K1 := Lib.hid (K0.out.below bb)
      clear c0 c1 c2 c3 c4 bb CK K0
      obtain ⟨_, c0, c1, c2, c3, c4⟩ := K1.out.all
      go_upto_region 4 with fail
      go_quiet (fail)
      go_wp2_with fail
      simp [bodyPost, results, Try.results50, go_sem]
      exact drewN_below K1.out.bel _
  · have e0 : offI s L = (0, chk s) := by unfold offI; rw [if_pos h]
    rw [e0]
    have hz : (chk s == 0) = false := by simpa using h
    have K0' := K0
    unfold Sg.v at CK ⊢
    generalize chk s = k at *
    obtain ⟨first, sl, ic, fr, up⟩ := s
    simp only [] at *
    obtain ⟨_, c0, c1, c2, c3, c4⟩ := K0.out.all
    clear h e0
    go_enter Try.func50, Try.ntmps50
    go_wp2_with fail
    refine (CK _).mono ?_
    rintro e w2 ⟨rfl, bb⟩
    have K1 := Lib.hid (K0.out.below bb)
    clear c0 c1 c2 c3 c4 bb CK K0
    obtain ⟨_, c0, c1, c2, c3, c4⟩ := K1.out.all
    go_wp2_with fail
    simp [bodyPost, results, Try.results50, go_sem]
    exact K1.out.bel
set_option maxRecDepth 100000 in
set_option maxHeartbeats 4000000 in
theorem refOff_any (s : Sg) (hs : SgOk s) (A : Option Addr) (c : Nat) (L : List Int) (hL : U64s L) (hn : L.length ≤ 17592186044416) (w : World) (hA : ArgU w A L) :
    Calls Try.prog 53 #[s.v, .slice A L.length c] w fun e w' => e = .returned (.tuple #[.int .i64 (offI s L).1, .int .i64 (offI s L).2]) ∧ Below w.heap.size w w' := by
  have CK := refCheck_any s hs
  have GS := fun k hk => refGuess_any s hs k hk
  have RI := fun w' hA' => ref_Rising A c L hn w' hA'
  have K0 := Lib.hid (SB.new s w)
  have HA := Lib.hid hA
  have HU := Lib.hid hL
  clear hA hL
  by_cases h : chk s = 0
  · have HR := Lib.hid (chk_right.1 h)
    have e0 : offI s L = if (L.length : Int) ≠ s.up - s.fr ∨ L.getD 0 0 ≠ s.first ∨ ¬ L.Pairwise (· < ·) then (0, 1) else (worst s L L.length, 0) := by unfold offI; rw [if_neg (by simpa using h)]
    rw [e0]
    rw [h] at CK
    have WS := Lib.hid (fun n hn => worst_step (chk_right.1 h) L n hn)
    have b1 := (chk_right.1 h).fr; have b2 := (chk_right.1 h).hto; have b3 := (chk_right.1 h).run
    obtain ⟨first, sl, ic, fr, up⟩ := s
    simp only [] at b1 b2 b3 WS ⊢
    have GS' := Lib.hid GS
    have RI' := Lib.hid RI
    unfold Sg.v at CK GS' ⊢
    simp only [] at CK GS' ⊢
    have w1 : IntKind.i64.wrap (up - fr) = up - fr := IntWalk.i64_in _ (by omega)
    clear e0 hs h GS RI
    obtain ⟨_, c0, c1, c2, c3, c4⟩ := K0.out.all
    by_cases a1 : (L.length : Int) = up - fr
    · have z1 : ((L.length : Int) != up - fr) = false := by simpa using a1
      have hl : 0 < L.length := by omega
      have i00 : (0 : Int) < (L.length : Int) := by omega
      obtain ⟨b, o, rfl, hb, hc0, hc⟩ := HA.out.first hl
      have HC := Lib.hid (And.intro hb (And.intro hc0 hc))
      have cc0 : ∀ w', Below w.heap.size w w' → w'.cell? ⟨b, o, none⟩ = some (.int .u64 (L.getD 0 0)) := fun w' k => (k.cell (p := ⟨b, _, none⟩) HC.out.1).trans HC.out.2.1
      have CC0 := Lib.hid cc0
      obtain ⟨k0, hk0⟩ : ∃ k0, L.getD 0 0 = k0 := ⟨_, rfl⟩
      rw [hk0] at CC0 ⊢
      clear hb hc0 hc cc0
      by_cases a2 : k0 = first
      · have z2 : (k0 != first) = false := by simpa using a2
        have RX := RI'.out
        by_cases a3 : L.Pairwise (· < ·)
        · rw [decide_eq_true a3] at RX
          have RX' := Lib.hid RX
          rw [if_neg (show ¬((L.length : Int) ≠ up - fr ∨ k0 ≠ first ∨ ¬ L.Pairwise (· < ·)) by simp [a1, a2, a3])]
          have HG := Lib.hid (And.intro a1 a3)
          clear a3 RX RI' a1 b1 b2 b3
          subst a2
          go_enter Try.func53, Try.ntmps53
          go_wp2_with fail
          refine (CK _).mono ?_
          rintro e w2 ⟨rfl, bb⟩
          have K1 := Lib.hid (K0.out.below bb)
          clear c0 c1 c2 c3 c4 bb CK K0
          obtain ⟨_, c0, c1, c2, c3, c4⟩ := K1.out.all
          go_upto_region 4 with fail
          go_region_held3 (fun w' => SB w w.heap.size ⟨k0, sl, ic, fr, up⟩ w' ∧ w'.cell? ⟨w.heap.size, 0, none⟩ = some (.int .u64 k0) ∧ w'.cell? ⟨w.heap.size, 1, none⟩ = some (.float .f64 sl) ∧ w'.cell? ⟨w.heap.size, 2, none⟩ = some (.float .f64 ic) ∧ w'.cell? ⟨w.heap.size, 3, none⟩ = some (.int .i64 fr) ∧ w'.cell? ⟨w.heap.size, 4, none⟩ = some (.int .i64 up) ∧ w'.cell? ⟨b, o, none⟩ = some (.int .u64 k0))
            (first | exact And.intro K1.out.drew.all.1 (and_last K1.out.drew.all.2 (CC0.out _ K1.out.drew.bel)) | exact And.intro HB.out.all.1 (and_last HB.out.all.2 (CC0.out _ HB.out.bel)) | go_keep)
            (first | (go_at_call 26; (with_reducible refine (RX'.out _ (HA.out.below ((‹SB _ _ _ _ ∧ _›).1.bel))).mono ?_); rintro e5 w5 ⟨rfl, b5⟩; have HB := Lib.hid ((‹SB _ _ _ _ ∧ _›).1.below b5)))
          clear c0 c1 c2 c3 c4 RX' CC0 z1 z2
          go_wp2_with fail
          go_loopw [7, 8] (fun y x wr => ∃ i : Nat, i ≤ L.length ∧ x = .int .i64 i ∧ y = .int .i64 (worst ⟨k0, sl, ic, fr, up⟩ L i) ∧ Hid (SB w w.heap.size ⟨k0, sl, ic, fr, up⟩ wr)) (fun _ x _ => L.length - (intOf x).toNat)
          case atStart => exact ⟨0, Nat.zero_le _, rfl, rfl, HB⟩
          case round =>
            obtain ⟨i, hi, rfl, rfl, K⟩ := hrel
            clear HB
            by_cases hlt : i < L.length
            · have i0 : (0 : Int) ≤ (i : Int) := by omega
              have i1 : (i : Int) < (L.length : Int) := by omega
              have hki : u64ok (L.getD i 0) := HU.out.getD hlt
              have cci : ∀ w', Below w.heap.size w w' → w'.cell? ⟨b, o + i, none⟩ = some (.int .u64 (L.getD i 0)) := fun w' k => (k.cell (p := ⟨b, _, none⟩) HC.out.1).trans (HC.out.2.2 i hlt)
              obtain ⟨v1, v2, v3, v4, v5, v6⟩ := WS.out i (by have := HG.out.1; omega)
              have GG := fun w' => GS'.out (L.getD i 0) hki w'
              have V6 := Lib.hid v6
              obtain ⟨k, hk⟩ : ∃ k, L.getD i 0 = k := ⟨_, rfl⟩
              rw [hk] at cci GG V6 v1 v2 v3 v5
              have CC := Lib.hid cci
              obtain ⟨gv, hg⟩ : ∃ gv, guess ⟨k0, sl, ic, fr, up⟩ k = gv := ⟨_, rfl⟩
              rw [hg] at GG V6 v1 v2 v3 v5
              obtain ⟨m, hm⟩ : ∃ m, gv - fr = m := ⟨_, rfl⟩
              rw [hm] at V6 v1 v2 v3 v5
              obtain ⟨d, hd⟩ : ∃ d, m - (i : Int) = d := ⟨_, rfl⟩
              rw [hd] at V6 v2 v3 v5
              skip
              have gb := guess_in HR.out k
              rw [hg] at gb
              have r1 := HR.out.fr; have r3 := HR.out.run; have r4 := HG.out.1
              simp only [] at gb r1 r3
              have F1 : wrap64 (gv - fr) = m := by rw [hm]; unfold wrap64; omega
              have F2 : wrap64 (m - (i : Int)) = d := by rw [hd]; unfold wrap64; omega
              have FF := Lib.hid (And.intro F1 (And.intro F2 v3))
              clear gb r1 r3 r4
              obtain ⟨wo, hwo⟩ : ∃ wo, worst ⟨k0, sl, ic, fr, up⟩ L i = wo := ⟨_, rfl⟩
              rw [hwo] at V6 ⊢
              clear cci v6 hd hm hg hk hki
              obtain ⟨_, c0, c1, c2, c3, c4⟩ := K.out.all
              have ck := CC.out _ K.out.bel
              go_upto_region 10 with fail
              go_region_held3 (fun w' => SB w w.heap.size ⟨k0, sl, ic, fr, up⟩ w' ∧ w'.cell? ⟨w.heap.size, 0, none⟩ = some (.int .u64 k0) ∧ w'.cell? ⟨w.heap.size, 1, none⟩ = some (.float .f64 sl) ∧ w'.cell? ⟨w.heap.size, 2, none⟩ = some (.float .f64 ic) ∧ w'.cell? ⟨w.heap.size, 3, none⟩ = some (.int .i64 fr) ∧ w'.cell? ⟨w.heap.size, 4, none⟩ = some (.int .i64 up) ∧ w'.cell? ⟨b, o + i, none⟩ = some (.int .u64 k))
                (first | exact And.intro K.out.drew.all.1 (and_last K.out.drew.all.2 (CC.out _ K.out.drew.bel)) | exact And.intro HB.out.all.1 (and_last HB.out.all.2 (CC.out _ HB.out.bel)) | go_keep)
                (first | (go_at_call 59; (with_reducible refine (GG _).mono ?_); rintro e5 w5 ⟨rfl, b5⟩; have HB := Lib.hid ((‹SB _ _ _ _ ∧ _›).1.below b5)))
              go_wp2_with fail
              go_roundw
              case rel => exact ⟨i + 1, by omega, by go_num, by rw [V6.out]; congr 1; (try simp only [FF.out.1, FF.out.2.1, FF.out.2.2]); first | rfl | exact max3 _ _ _, HB⟩
              case measure => simp [intOf]; omega
            · obtain rfl : i = L.length := by omega
              have i1 : ¬ (L.length : Int) < (L.length : Int) := by omega
              go_wp2_with fail
              simp [bodyPost, results, Try.results53, go_sem]
              exact K.out.bel
        · rw [decide_eq_false a3] at RX
          have RX' := Lib.hid RX
          rw [if_pos (show ((L.length : Int) ≠ up - fr ∨ k0 ≠ first ∨ ¬ L.Pairwise (· < ·)) from Or.inr (Or.inr a3))]
          clear a3 RX RI' a1 b1 b2 b3
          subst a2
          go_enter Try.func53, Try.ntmps53
          go_wp2_with fail
          refine (CK _).mono ?_
          rintro e w2 ⟨rfl, bb⟩
          have K1 := Lib.hid (K0.out.below bb)
          clear c0 c1 c2 c3 c4 bb CK K0
          obtain ⟨_, c0, c1, c2, c3, c4⟩ := K1.out.all
          go_upto_region 4 with fail
          go_region_held3 (fun w' => SB w w.heap.size ⟨k0, sl, ic, fr, up⟩ w' ∧ w'.cell? ⟨w.heap.size, 0, none⟩ = some (.int .u64 k0) ∧ w'.cell? ⟨w.heap.size, 1, none⟩ = some (.float .f64 sl) ∧ w'.cell? ⟨w.heap.size, 2, none⟩ = some (.float .f64 ic) ∧ w'.cell? ⟨w.heap.size, 3, none⟩ = some (.int .i64 fr) ∧ w'.cell? ⟨w.heap.size, 4, none⟩ = some (.int .i64 up) ∧ w'.cell? ⟨b, o, none⟩ = some (.int .u64 k0))
            (first | exact And.intro K1.out.drew.all.1 (and_last K1.out.drew.all.2 (CC0.out _ K1.out.drew.bel)) | exact And.intro HB.out.all.1 (and_last HB.out.all.2 (CC0.out _ HB.out.bel)) | go_keep)
            (first | (go_at_call 26; (with_reducible refine (RX'.out _ (HA.out.below ((‹SB _ _ _ _ ∧ _›).1.bel))).mono ?_); rintro e5 w5 ⟨rfl, b5⟩; have HB := Lib.hid ((‹SB _ _ _ _ ∧ _›).1.below b5)))
          go_wp2_with fail
          simp [bodyPost, results, Try.results53, go_sem]
          exact HB.out.bel
      · have z2 : (k0 != first) = true := bne_iff_ne.2 a2
        have z2' : (k0 == first) = false := by simpa using a2
        rw [if_pos (show ((L.length : Int) ≠ up - fr ∨ k0 ≠ first ∨ ¬ L.Pairwise (· < ·)) from Or.inr (Or.inl a2))]
        clear a2 a1 b1 b2 b3 RI'
        go_enter Try.func53, Try.ntmps53
        go_wp2_with fail
        refine (CK _).mono ?_
        rintro e w2 ⟨rfl, bb⟩
        have K1 := Lib.hid (K0.out.below bb)
        clear c0 c1 c2 c3 c4 bb CK K0
        obtain ⟨_, c0, c1, c2, c3, c4⟩ := K1.out.all
        have ck0 := CC0.out _ K1.out.bel
        go_upto_region 4 with fail
        go_quiet (fail)
        go_wp2_with fail
        simp [bodyPost, results, Try.results53, go_sem]
        exact drewN_below K1.out.bel _
    · have z1 : ((L.length : Int) != up - fr) = true := bne_iff_ne.2 a1
      have z1' : ((L.length : Int) == up - fr) = false := by simpa using a1
      rw [if_pos (Or.inl a1)]
      go_enter Try.func53, Try.ntmps53
      go_wp2_with fail
      refine (CK _).mono ?_
      rintro e w2 ⟨rfl, bb⟩
      have K1 := Lib.hid (K0.out.below bb)
      clear c0 c1 c2 c3 c4 bb CK K0
      obtain ⟨_, c0, c1, c2, c3, c4⟩ := K1.out.all
      go_upto_region 4 with fail
      go_quiet (fail)
      go_wp2_with fail
      simp [bodyPost, results, Try.results53, go_sem]
      exact drewN_below K1.out.bel _
  · have e0 : offI s L = (0, chk s) := by unfold offI; rw [if_pos h]
    rw [e0]
    have hz : (chk s == 0) = false := by simpa using h
    have K0' := K0
    unfold Sg.v at CK ⊢
    generalize chk s = k at *
    obtain ⟨first, sl, ic, fr, up⟩ := s
    simp only [] at *
    obtain ⟨_, c0, c1, c2, c3, c4⟩ := K0.out.all
    clear h e0
    go_enter Try.func53, Try.ntmps53
    go_wp2_with fail
    refine (CK _).mono ?_
    rintro e w2 ⟨rfl, bb⟩
    have K1 := Lib.hid (K0.out.below bb)
    clear c0 c1 c2 c3 c4 bb CK K0
    obtain ⟨_, c0, c1, c2, c3, c4⟩ := K1.out.all
    go_wp2_with fail
    simp [bodyPost, results, Try.results53, go_sem]
    exact K1.out.bel
end Go.Proofs.Ytnccgpdniigekaa
