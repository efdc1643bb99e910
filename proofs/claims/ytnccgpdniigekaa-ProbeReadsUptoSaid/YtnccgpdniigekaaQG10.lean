/-
  steeper: whether two keys want a slope above another one.
-/
import Derived.Test.YtnccgpdniigekaaQG5
import Derived.Test.YtnccgpdniigekaaQG2
import Derived.Test.YtnccgpdniigekaaQG28
import Derived.Test.YtnccgpdniigekaaQG1
import Derived.Test.YtnccgpdniigekaaQG31
import Derived.Test.YtnccgpdniigekaaQG8
import Derived.Test.YtnccgpdniigekaaQG32
namespace Go.Proofs.Ytnccgpdniigekaa
open Go.RowKit
set_option linter.unusedVariables false
set_option linter.unusedSimpArgs false

end Go.Proofs.Ytnccgpdniigekaa
/-
  Plain: a fit whose keys are moved by a number.
-/
namespace Go.Proofs.Ytnccgpdniigekaa
open Go.RowKit
set_option linter.unusedVariables false
set_option linter.unusedSimpArgs false

end Go.Proofs.Ytnccgpdniigekaa
/-
  Plain: what the laws without the reference say of lines.
-/
namespace Go.Proofs.Ytnccgpdniigekaa
open Go.RowKit
set_option linter.unusedVariables false
set_option linter.unusedSimpArgs false

section
variable {L : List Int} {eps : Int} {F : Fit}
theorem LineIs.zero (h : LineIs L eps F) (h0 : F.low.1 = 0) : F.low.2 = 1 := by
  have hc := h.full.ok.low.cop
  have hd := h.den
  rw [h0, Int.gcd_zero_left] at hc
  omega
end
theorem LineIs.lnOk {L : List Int} {eps : Int} {F : Fit} (h : LineIs L eps F) (hL : U64s L) (hl : L.length ≤ 17592186044416) {d : Int} (hd : d = 0 ∨ d = 1) : LnOk (F.low.1, F.low.2, baseOf F.low L (eps - 1) L.length - d) ∧ 0 ≤ F.low.1 ∧ F.low.1 ≤ 4611686018427387904 := by
  have n0 := h.full.ok.low.ok.num
  have n1 := h.full.num_low h.e0
  rw [h.keys] at n1
  have hb := (h.fits hl).2.2
  have hq : u64ok F.low.2 := by
    rcases h.full.low.is with q | ⟨i, j, hij, hj, hpos, q⟩
    · rw [q]; unfold u64ok; simp
    · rw [h.keys] at hj q
      have hd : 0 < L.getD j 0 - L.getD i 0 := by have := getD_lt h.up hij hj; omega
      have := (lowest_low (n := (j : Int) - i - 2 * (eps - 1)) (d := L.getD j 0 - L.getD i 0) (by omega) hd).2.2.2.2.1
      rw [← q] at this
      have u1 := hL.getD hj
      have u0 := hL.getD (show i < L.length by omega)
      have := h.den
      unfold u64ok at *; omega
  exact ⟨⟨⟨n0, by simp only []; omega⟩, hq, by unfold i64ok; simp only []; omega⟩, n0, by omega⟩
/-- A beginning of keys that have a line. -/
theorem LineIs.begins {L : List Int} {eps : Int} {F : Fit} (h : LineIs L eps F) {n : Nat} (hn : 0 < n) (hn2 : n ≤ L.length) : ∃ G, LineIs (L.take n) eps G ∧ ¬ ltF F.low G.low := by
  have hne : L.take n ≠ [] := by intro e; have := congrArg List.length e; rw [List.length_take, List.length_nil] at this; omega
  have hup : (L.take n).Pairwise (· < ·) := h.up.sublist (List.take_sublist n L)
  obtain ⟨G, hG⟩ := lineOf_is (lineOf_ok h.g1 h.g2 hne hup h.full.ok.low.ok h.full.den_low (h.bears.take n))
  refine ⟨G, hG, ?_⟩
  rcases hG.full.low.is with q | ⟨i, j, hij, hj, hpos, q⟩
  · rw [q]; have := h.full.ok.low.ok.num; unfold ltF; simp only []; omega
  · rw [hG.keys] at hj q
    have g : ∀ m, m < n → (L.take n).getD m 0 = L.getD m 0 := fun m hm => by rw [List.getD_eq_getElem?_getD, List.getD_eq_getElem?_getD, List.getElem?_take, if_pos hm]
    rw [List.length_take] at hj
    rw [g i (by omega), g j (by omega)] at q
    have hd : 0 < L.getD j 0 - L.getD i 0 := by have := getD_lt h.up hij (show j < L.length by omega); omega
    have hb := (h.bears i j hij (by omega)).1
    rw [q, ltF_lowest (by omega) hd]
    omega
end Go.Proofs.Ytnccgpdniigekaa
