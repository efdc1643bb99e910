/-
  inclineref02.Near, walked.
-/
import Derived.Test.YtcnhgblpeonmgaaRtRefNear
import Derived.Test.YtcnhgblpeonmgaaRtRefNearP
namespace Go.Proofs.Ytcnhgblpeonmgaa
open Go.RowKit
set_option linter.unusedVariables false
set_option linter.unusedSimpArgs false
attribute [local go_sem high] binOp_lss64 binOp_gtr64 binOp_geq64 binOp_leq64 binOp_eql64 binOp_neq64 f64bits frombits

theorem refNear_bad (num : Nat) (w : World) : Calls Try.prog 13 #[.int .u64 (num : Int), .int .u64 0] w fun e w' => e = .returned (.tuple #[.float .f64 0, .int .i64 20]) ∧ w = w' := by
  go_enter Try.func13, Try.ntmps13
  go_wp2
  simp [bodyPost, results, Try.results13, go_sem]
theorem refNear_nought (den : Nat) (hd : 0 < den) (w : World) : Calls Try.prog 13 #[.int .u64 0, .int .u64 (den : Int)] w fun e w' => e = .returned (.tuple #[.float .f64 0, .int .i64 0]) ∧ w = w' := by
  have h : ((den : Int) = 0) = False := by simp; omega
  go_enter Try.func13, Try.ntmps13
  go_wp2
  simp [bodyPost, results, Try.results13, go_sem]

/-- Digits are put on. -/
structure L1 (num den k m r : Nat) : Prop where
  eq : num * 2 ^ k = m * den + r
  hr : r < den
  km : k = 0 ∨ m < 18014398509481984
  m64 : m < 18446744073709551616
  kb : k ≤ 118
theorem L1.next {num den k m r : Nat} (h : L1 num den k m r) (hm : m < 9007199254740992) (hn : 0 < num) (hd : den < 18446744073709551616) : L1 num den (k + 1) (2 * m + (if den ≤ 2 * r then 1 else 0)) (2 * r % den) := by
  have hr := h.hr
  refine ⟨?_, Nat.mod_lt _ (by omega), .inr (by split <;> omega), by split <;> omega, ?_⟩
  · have e : num * 2 ^ (k + 1) = 2 * (num * 2 ^ k) := by rw [Nat.pow_succ]; ac_rfl
    rw [e, h.eq]
    split
    · rename_i c
      have h1 : 2 * r = (2 * r - den) + den := by omega
      have h2 : 2 * r % den = 2 * r - den := by
        have : 2 * r % den = ((2 * r - den) + den) % den := by rw [← h1]
        rw [this, Nat.add_mod_right, Nat.mod_eq_of_lt (by omega)]
      rw [h2, Nat.add_mul, Nat.mul_add, Nat.mul_assoc]; omega
    · rename_i c
      rw [Nat.mod_eq_of_lt (show 2 * r < den by omega), Nat.add_zero, Nat.mul_add, Nat.mul_assoc]
  · apply Classical.byContradiction; intro hk
    have hk' : k = 118 := by have := h.kb; omega
    have h3 := h.eq
    rw [hk'] at h3
    have a1 : m * den ≤ 9007199254740991 * den := Nat.mul_le_mul_right _ (by omega)
    have a2 : 1 * 2 ^ 118 ≤ num * 2 ^ 118 := Nat.mul_le_mul_right _ hn
    have a3 : (2 : Nat) ^ 118 = 332306998946228968225951765070086144 := by decide
    omega

/-- Digits are taken off. -/
structure L2 (num den k j m s r : Nat) : Prop where
  eq : num * 2 ^ k = (m * 2 ^ j + s) * den + r
  hr : r < den
  hs : s < 2 ^ j
  lo : 9007199254740992 ≤ m
  kj : k = 0 ∨ j = 0 ∧ m < 18014398509481984
  top : m * 2 ^ j < 18446744073709551616
  m64 : m < 18446744073709551616
  jb : j ≤ 11
  kb : k ≤ 118
theorem L2.next {num den k j m s r : Nat} (h : L2 num den k j m s r) (hm : 18014398509481984 ≤ m) : L2 num den k (j + 1) (m / 2) (m % 2 * 2 ^ j + s) r := by
  have hp := p2pos j
  have h2 : (2 : Nat) ^ (j + 1) = 2 ^ j * 2 := Nat.pow_succ ..
  have hs := h.hs
  have hmm : m = 2 * (m / 2) + m % 2 := by omega
  have hsum : m / 2 * 2 ^ (j + 1) + (m % 2 * 2 ^ j + s) = m * 2 ^ j + s := by
    have : m * 2 ^ j = 2 * (m / 2) * 2 ^ j + m % 2 * 2 ^ j := by rw [← Nat.add_mul, ← hmm]
    rw [this, h2]
    have : m / 2 * (2 ^ j * 2) = 2 * (m / 2) * 2 ^ j := by ac_rfl
    omega
  have hlow : m % 2 * 2 ^ j ≤ 1 * 2 ^ j := Nat.mul_le_mul_right _ (by omega)
  have ht : m / 2 * 2 ^ (j + 1) ≤ m * 2 ^ j := by omega
  refine ⟨by rw [hsum]; exact h.eq, h.hr, by omega, by omega, ?_, by have := h.top; omega, by have := h.m64; omega, ?_, h.kb⟩
  · rcases h.kj with h' | h'
    · exact .inl h'
    · omega
  · apply Classical.byContradiction; intro hj
    have hj' : j = 11 := by have := h.jb; omega
    have := h.top
    rw [hj'] at this
    have a3 : (2 : Nat) ^ 11 = 2048 := by decide
    omega
theorem L1.to {num den k m r : Nat} (h : L1 num den k m r) (hm : 9007199254740992 ≤ m) : L2 num den k 0 m 0 r :=
  ⟨by rw [h.eq]; simp, h.hr, by decide, hm, by rcases h.km with h' | h'; exact .inl h'; exact .inr ⟨rfl, h'⟩, by have := h.m64; simpa using this, h.m64, by decide, h.kb⟩
theorem L2.left {num den k j m s r : Nat} (h : L2 num den k j m s r) : (decide (0 < m % 2 * 2 ^ j + s)) = (decide (0 < s) || decide (m % 2 = 1)) := by
  have hp := p2pos j
  have hh : m % 2 = 0 ∨ m % 2 = 1 := by omega
  rcases hh with e | e
  · rw [e]; simp
  · rw [e]; simp; omega
theorem L2.fin {num den k j m s r : Nat} (h : L2 num den k j m s r) (hm : m < 18014398509481984) (hd : 0 < den) : nr num den = (1075 - k + j) * 4503599627370496 + (m / 2 + (if m % 2 = 1 ∧ (0 < s ∨ 0 < r ∨ m / 2 % 2 = 1) then 1 else 0)) :=
  nr_eq hd (near_ref num den k j m s r hd (by have := h.kb; omega) h.eq h.hr h.hs h.lo hm)

set_option maxRecDepth 100000 in
set_option maxHeartbeats 2000000 in
theorem refNear_good (num den : Nat) (hn0 : 0 < num) (hn1 : num < 18446744073709551616) (hd0 : 0 < den) (hd1 : den < 18446744073709551616) (w : World) :
    Calls Try.prog 13 #[.int .u64 (num : Int), .int .u64 (den : Int)] w fun e w' => e = .returned (.tuple #[.float .f64 (nr num den), .int .i64 0]) ∧ w = w' := by
  have z1 : ((den : Int) == 0) = false := by simp; omega
  have z2 : ((num : Int) == 0) = false := by simp; omega
  have z3 : (0 : Int) < (den : Int) := by omega
  have q1 : (num : Int) / (den : Int) = ((num / den : Nat) : Int) := (Int.natCast_ediv ..).symm
  have q2 : (num : Int) % (den : Int) = ((num % den : Nat) : Int) := (Int.natCast_emod ..).symm
  have I1 := Lib.hid (show L1 num den 0 (num / den) (num % den) from ⟨by have := Nat.div_add_mod num den; rw [Nat.mul_comm] at this; omega, Nat.mod_lt _ hd0, .inl rfl, by have := Nat.div_le_self num den; omega, by decide⟩)
  generalize num / den = m0 at q1 I1
  generalize num % den = r0 at q2 I1
  obtain ⟨R, hRR⟩ : ∃ R, R = nr num den := ⟨_, rfl⟩
  rw [← hRR]
  have HRR := Lib.hid hRR
  clear hRR
  have w0 : IntKind.u64.wrap (m0 : Int) = (m0 : Int) := by have := I1.out.m64; rw [IntKind.wrap_u64]; omega
  have Q2 := Lib.hid q2
  clear q2
  go_enter Try.func13, Try.ntmps13
  go_wp2
  go_loopw [6, 7, 8] (fun s6 s7 s8 wr => ∃ k m r : Nat, w = wr ∧ s6 = .int .u64 (m : Int) ∧ s7 = .int .u64 (r : Int) ∧ s8 = .int .i64 (-(k : Int)) ∧ Hid (L1 num den k m r)) (fun _ _ s8 _ => (118 + intOf s8).toNat)
  case atStart => exact ⟨0, m0, r0, rfl, rfl, by rw [Q2.out], rfl, I1⟩
  case round =>
    obtain ⟨k, m, r, rfl, rfl, rfl, rfl, H⟩ := hrel
    clear I1 Q2 q1 w0
    by_cases hm : m < 9007199254740992
    · have hm' : (m : Int) < 9007199254740992 := by omega
      have N := Lib.hid (H.out.next hm hn0 hd1)
      have D := double_any r den H.out.hr hd1
      have kb := N.out.kb
      have w1 : wrap64 (-(k : Int) - 1) = -((k + 1 : Nat) : Int) := by unfold wrap64; omega
      by_cases hb : den ≤ 2 * r
      · rw [if_pos hb] at N
        rw [decide_eq_true hb] at D
        have w2 : IntKind.u64.wrap (2 * (m : Int)) = 2 * (m : Int) := by rw [IntKind.wrap_u64]; omega
        have w3 : IntKind.u64.wrap (2 * (m : Int) + 1) = ((2 * m + 1 : Nat) : Int) := by rw [IntKind.wrap_u64]; omega
        generalize 2 * r % den = r' at N D
        go_wp2_with (go_at_call 29; refine (D _).mono ?_; rintro e w' ⟨rfl, rfl⟩)
        go_roundw
        case rel => exact ⟨k + 1, 2 * m + 1, r', trivial, by simp, rfl, by simp; omega, N⟩
        case measure => simp only [intOf]; omega
      · rw [if_neg hb] at N
        rw [decide_eq_false hb] at D
        have w2 : IntKind.u64.wrap (2 * (m : Int)) = ((2 * m : Nat) : Int) := by rw [IntKind.wrap_u64]; omega
        generalize 2 * r % den = r' at N D
        go_wp2_with (go_at_call 29; refine (D _).mono ?_; rintro e w' ⟨rfl, rfl⟩)
        go_roundw
        case rel => exact ⟨k + 1, 2 * m, r', trivial, by simp, rfl, by simp; omega, N⟩
        case measure => simp only [intOf]; omega
    · have hm' : ¬ ((m : Int) < 9007199254740992) := by omega
      have J := Lib.hid (H.out.to (by omega))
      clear H
      go_wp2
      go_loopw [6, 8, 9] (fun s6 s8 s9 wr => ∃ j m s : Nat, w = wr ∧ s6 = .int .u64 (m : Int) ∧ s8 = .int .i64 ((j : Int) - (k : Int)) ∧ s9 = .bool (decide (0 < s)) ∧ Hid (L2 num den k j m s r)) (fun _ s8 _ _ => (11 - (intOf s8 + (k : Int))).toNat)
      case atStart => exact ⟨0, m, 0, rfl, rfl, by simp, rfl, J⟩
      case round =>
        obtain ⟨j, m, s, rfl, rfl, rfl, rfl, H⟩ := hrel
        clear J hm hm'
        obtain ⟨m2, hm2⟩ : ∃ m2, m2 = m / 2 := ⟨_, rfl⟩
        obtain ⟨p, hp⟩ : ∃ p, p = m % 2 := ⟨_, rfl⟩
        have d1 : (m : Int) / 2 = (m2 : Int) := by omega
        have d2 : (m : Int) % 2 = (p : Int) := by omega
        have kb := H.out.kb
        have jb := H.out.jb
        have m64 := H.out.m64
        have hp01 : p = 0 ∨ p = 1 := by omega
        by_cases hm : 18014398509481984 ≤ m
        · have hm' : (18014398509481984 : Int) ≤ (m : Int) := by omega
          have N := H.out.next hm
          have L := H.out.left
          have jb' := N.jb
          rw [← hm2, ← hp] at N
          rw [← hp] at L
          obtain ⟨s', hs'⟩ : ∃ s', s' = p * 2 ^ j + s := ⟨_, rfl⟩
          rw [← hs'] at N L
          have N' := Lib.hid N
          have w1 : wrap64 ((j : Int) - (k : Int) + 1) = ((j + 1 : Nat) : Int) - (k : Int) := by unfold wrap64; omega
          clear N hs'
          have K1 := Lib.hid hm2; have K2 := Lib.hid hp
          clear hm2 hp
          by_cases hs : 0 < s
          · rw [decide_eq_true hs] at L ⊢
            have L' := Lib.hid L; clear L
            go_wp2
            go_roundw
            case rel => exact ⟨j + 1, m2, s', trivial, rfl, by simp; omega, by rw [L'.out]; rfl, N'⟩
            case measure => simp only [intOf]; omega
          · rw [decide_eq_false hs] at L ⊢
            have L' := Lib.hid L; clear L
            rcases hp01 with rfl | rfl
            · go_wp2
              go_roundw
              case rel => exact ⟨j + 1, m2, s', trivial, rfl, by simp; omega, by rw [L'.out]; rfl, N'⟩
              case measure => simp only [intOf]; omega
            · go_wp2
              go_roundw
              case rel => exact ⟨j + 1, m2, s', trivial, rfl, by simp; omega, by rw [L'.out]; rfl, N'⟩
              case measure => simp only [intOf]; omega
        · have hm' : ¬ ((18014398509481984 : Int) ≤ (m : Int)) := by omega
          have hR := H.out.fin (by omega) hd0
          rw [← HRR.out] at hR
          rename_i K2 HK2
          have HK := Lib.hid HK2
          clear HK2
          go_wp2_with fail
          exact HK.out _ _ (rn_tail m s r R ((j : Int) - (k : Int)) _ H.out.lo (by omega) (by have := H.out.hr; omega) (by omega) (by rw [hR]; omega) _ _ _ _ _ _ _ _ _ _ _ _ _ _ _ _ _ _ _ _ _ _ _ _ _ _ _ _ _ _ _ _ _ _ _ _ _ _ _ _ _ _ _ _ _ _ _ _ _ _ _ _ _ _ _ _ _ _ _ _ _ _ _ _ _ _ _ _ _ _ _ _ _ _ _ _ _ _ _ _ _ _ _ _ _ _)

/-- What Near comes to, for any two numbers. -/
noncomputable def nearF (num den : Nat) : Nat := if den = 0 then 0 else nr num den
def nearE (den : Nat) : Int := if den = 0 then 20 else 0

theorem near_any (num den : Nat) (hn : num < 18446744073709551616) (hd : den < 18446744073709551616) (w : World) :
    Calls Try.prog 12 #[.int .u64 (num : Int), .int .u64 (den : Int)] w fun e w' => e = .returned (.tuple #[.float .f64 (nearF num den), .int .i64 (nearE den)]) ∧ Below w.heap.size w w' := by
  unfold nearF nearE
  by_cases h : den = 0
  · subst h
    rw [if_pos rfl, if_pos rfl]
    exact (near_bad num w).mono (by rintro e w' ⟨rfl, rfl⟩; exact ⟨rfl, Below.refl _ _⟩)
  · rw [if_neg h, if_neg h]
    by_cases h0 : num = 0
    · subst h0
      rw [nr_zero (by omega)]
      exact (near_nought den (by omega) w).mono (by rintro e w' ⟨rfl, rfl⟩; exact ⟨rfl, Below.refl _ _⟩)
    · exact near_good num den (by omega) hn (by omega) hd w

theorem refNear_any (num den : Nat) (hn : num < 18446744073709551616) (hd : den < 18446744073709551616) (w : World) :
    Calls Try.prog 13 #[.int .u64 (num : Int), .int .u64 (den : Int)] w fun e w' => e = .returned (.tuple #[.float .f64 (nearF num den), .int .i64 (nearE den)]) ∧ w = w' := by
  unfold nearF nearE
  by_cases h : den = 0
  · subst h
    rw [if_pos rfl, if_pos rfl]
    exact refNear_bad num w
  · rw [if_neg h, if_neg h]
    by_cases h0 : num = 0
    · subst h0
      rw [nr_zero (by omega)]
      exact refNear_nought den (by omega) w
    · exact refNear_good num den (by omega) hn (by omega) hd w
end Go.Proofs.Ytcnhgblpeonmgaa
