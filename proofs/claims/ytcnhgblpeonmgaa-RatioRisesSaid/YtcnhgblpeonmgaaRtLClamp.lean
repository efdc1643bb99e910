/-
  The law RatioClamp, walked.
-/
import Derived.Test.YtcnhgblpeonmgaaRtShown
namespace Go.Proofs.Ytcnhgblpeonmgaa
open Go.RowKit
set_option linter.unusedVariables false
set_option linter.unusedSimpArgs false
attribute [local go_sem high] binOp_lss64 binOp_gtr64 binOp_geq64 binOp_leq64 binOp_eql64 binOp_neq64 f64bits frombits

/-- A greater float comes to no less. -/
theorem clamp_mono {a b : Nat} {lo hi : Int} (h : fLt a b) : clampI a lo hi ≤ clampI b lo hi := by
  unfold fLt Num64 at h
  obtain ⟨ha, hb, h⟩ := h
  have hS := S_pos
  have hd : sv a / (S : Int) ≤ sv b / (S : Int) := Int.ediv_le_ediv (by omega) (by omega)
  unfold clampI
  by_cases c1 : hi < lo
  · rw [if_pos (.inl c1), if_pos (.inl c1)]; exact Int.le_refl _
  have na : ¬ INF < rg a := by omega
  have nb : ¬ INF < rg b := by omega
  by_cases c2 : sv a < -(9223372036854775808 * (S : Int))
  · rw [if_pos (.inr (.inr c2))]
    by_cases c3 : sv b < -(9223372036854775808 * (S : Int))
    · rw [if_pos (.inr (.inr c3))]; exact Int.le_refl _
    · have Nb : ¬ (hi < lo ∨ INF < rg b ∨ sv b < -(9223372036854775808 * (S : Int))) := by intro h; rcases h with h | h | h; exact c1 h; exact nb h; exact c3 h
      rw [if_neg Nb]
      split <;> omega
  · have c3 : ¬ sv b < -(9223372036854775808 * (S : Int)) := by omega
    have Na : ¬ (hi < lo ∨ INF < rg a ∨ sv a < -(9223372036854775808 * (S : Int))) := by intro h; rcases h with h | h | h; exact c1 h; exact na h; exact c2 h
    have Nb : ¬ (hi < lo ∨ INF < rg b ∨ sv b < -(9223372036854775808 * (S : Int))) := by intro h; rcases h with h | h | h; exact c1 h; exact nb h; exact c3 h
    rw [if_neg Na, if_neg Nb]
    by_cases c4 : 9223372036854775808 * (S : Int) ≤ sv a
    · have c5 : 9223372036854775808 * (S : Int) ≤ sv b := by omega
      rw [if_pos c4, if_pos c5]; exact Int.le_refl _
    · rw [if_neg c4]
      split <;> omega

set_option maxHeartbeats 1000000 in
theorem ratioClamp_walk (x : Int × Int) (hx : u64ok x.1 ∧ u64ok x.2) (lo : Int) (hlo : i64ok lo) (hi : Int) (hhi : i64ok hi) (w : World) :
    Calls Try.prog 8 #[.agg #[.int .u64 x.1, .int .u64 x.2], .int .i64 lo, .int .i64 hi] w fun e w' => e = .returned (.bool true) ∧ Below w.heap.size w w' := by
  obtain ⟨a, b⟩ := x
  simp only [] at hx ⊢
  have A1 := clamp_any a.toNat lo hi hlo hhi
  have A2 := refClamp_any a.toNat lo hi hlo hhi
  have B1 := clamp_any b.toNat lo hi hlo hhi
  have B2 := refClamp_any b.toNat lo hi hlo hhi
  have mono := Lib.hid (clamp_mono (a := a.toNat) (b := b.toNat) (lo := lo) (hi := hi))
  obtain ⟨f, hf⟩ : ∃ f : Nat, a.toNat = f := ⟨_, rfl⟩
  obtain ⟨g, hg⟩ : ∃ g : Nat, b.toNat = g := ⟨_, rfl⟩
  rw [hf] at A1 A2 mono
  rw [hg] at B1 B2 mono
  generalize clampI f lo hi = r1 at *
  generalize clampI g lo hi = r2 at *
  clear hx hlo hhi
  go_enter Try.func8, Try.ntmps8
  go_wp2_with fail
  refine (shown_any _).mono ?_
  rintro e w1 ⟨rfl, b1⟩
  have G1 := (Blk.new w 41 #[.int .u64 a, .int .u64 b]).below b1
  have H1 := Lib.hid (below_next (below_new (Below.refl _ _) _) b1)
  have c0 := G1.cell 0
  have c1 := G1.cell 1
  clear b1
  have hle : fLt f g → r1 ≤ r2 := mono.out
  by_cases hlt : fLt f g
  · have g9 := hle hlt
    clear hle mono
    go_upto_region 5 with (go_at_call 21; refine (A1 _).mono ?_; rintro e w' ⟨rfl, rfl⟩)
    go_upto_region 6 with (go_at_call 22; refine (A2 _).mono ?_; rintro e w' ⟨rfl, rfl⟩)
    go_upto_region 7 with (go_at_call 21; refine (B1 _).mono ?_; rintro e w' ⟨rfl, rfl⟩)
    go_upto_region 8 with (go_at_call 22; refine (B2 _).mono ?_; rintro e w' ⟨rfl, rfl⟩)
    go_wp2_with fail
    simp [bodyPost, results, Try.results8, go_sem]
    exact H1.out
  · clear hle mono
    go_upto_region 5 with (go_at_call 21; refine (A1 _).mono ?_; rintro e w' ⟨rfl, rfl⟩)
    go_upto_region 6 with (go_at_call 22; refine (A2 _).mono ?_; rintro e w' ⟨rfl, rfl⟩)
    go_upto_region 7 with (go_at_call 21; refine (B1 _).mono ?_; rintro e w' ⟨rfl, rfl⟩)
    go_upto_region 8 with (go_at_call 22; refine (B2 _).mono ?_; rintro e w' ⟨rfl, rfl⟩)
    go_wp2_with fail
    simp [bodyPost, results, Try.results8, go_sem]
    exact H1.out
end Go.Proofs.Ytcnhgblpeonmgaa
