/-
  The law RatioAlong, walked.
-/
import Derived.Test.YtcnhgblpeonmgaaRtShown
namespace Go.Proofs.Ytcnhgblpeonmgaa
open Go.RowKit
set_option linter.unusedVariables false
set_option linter.unusedSimpArgs false
attribute [local go_sem high] binOp_lss64 binOp_gtr64 binOp_geq64 binOp_leq64 binOp_eql64 binOp_neq64 f64bits frombits

theorem AlongR.same {s t a b : Nat} {far : Int} (h1 : AlongR s far t a) (h2 : AlongR s far t b) : a = b ∨ INF < rg a ∧ INF < rg b := by
  rcases h1.2 with e1 | ⟨e1, n1⟩ <;> rcases h2.2 with e2 | ⟨e2, n2⟩
  · rw [e1] at e2; exact .inl (Option.some.inj e2)
  · rw [e1] at e2; cases e2
  · rw [e1] at e2; cases e2
  · exact .inr ⟨n1, n2⟩
theorem same_true (a b : Nat) (h : a = b ∨ INF < rg a ∧ INF < rg b) (w : World) : Calls Try.prog 25 #[.float .f64 a, .float .f64 b] w fun e w' => e = .returned (.bool true) ∧ w = w' := by
  by_cases hn : INF < rg a
  · have g1 := (nan_eq a).2 hn
    have hb : INF < rg b := by rcases h with h | h; rw [← h]; exact hn; exact h.2
    have g2 := (nan_eq b).2 hb
    clear h hn hb
    go_enter Try.func25, Try.ntmps25
    go_wp2
    simp [bodyPost, results, Try.results25, go_sem]
  · obtain rfl : a = b := by rcases h with h | h; exact h; exact absurd h.1 hn
    have g1 := (fEq_self a).2 (by omega)
    clear h hn
    go_enter Try.func25, Try.ntmps25
    go_wp2
    simp [bodyPost, results, Try.results25, go_sem]

set_option maxHeartbeats 1000000 in
theorem ratioAlong_walk (a : Int) (ha : u64ok a) (b : Int) (hb : u64ok b) (c : Int) (hc : u64ok c) (w : World) :
    Calls Try.prog 9 #[.int .u64 a, .int .u64 b, .int .u64 c] w fun e w' => e = .returned (.bool true) ∧ Below w.heap.size w w' := by
  have A1 := along_any a.toNat c.toNat b
  have A2 := refAlong_any a.toNat c.toNat b
  clear ha hb hc
  go_enter Try.func9, Try.ntmps9
  go_wp2_with fail
  refine (shown_any _).mono ?_
  rintro e w1 ⟨rfl, b1⟩
  go_wp2_with fail
  refine (A1 _).mono ?_
  rintro e w2 ⟨r1, rfl, h1, b2⟩
  have H2 := Lib.hid (below_next b1 b2)
  clear b1 b2
  go_wp2_with fail
  refine (A2 _).mono ?_
  rintro e w3 ⟨r2, rfl, h2, b3⟩
  have H3 := Lib.hid (below_next H2.out b3)
  have SM := same_true r1 r2 (h1.out.same h2.out)
  clear b3 H2 A1 A2 h1 h2
  go_wp2_with (go_at_call 25; refine (SM _).mono ?_; rintro e w' ⟨rfl, rfl⟩)
  simp [bodyPost, results, Try.results9, go_sem]
  exact H3.out
end Go.Proofs.Ytcnhgblpeonmgaa
