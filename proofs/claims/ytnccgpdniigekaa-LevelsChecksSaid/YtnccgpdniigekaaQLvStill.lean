/-
  still of the law: what lent handed over is as it was.
-/
import Derived.Test.YtnccgpdniigekaaQLvLentW
import Derived.Test.YtnccgpdniigekaaQLvSame
namespace Go.Proofs.Ytnccgpdniigekaa
open Go.RowKit
set_option linter.unusedVariables false
set_option linter.unusedSimpArgs false
attribute [local go_sem high] run_store_float

theorem LentW.mark {w w' : World} {g : Nat} {ll : List (List Sg)} (h : LentW w g ll w') {j : Nat} (hj : j < ll.length) : ∃ b, w'.cell? ⟨g, j, none⟩ = some (.slice (some ⟨b, 0, none⟩) (ll.getD j []).length ((ll.getD j []).length + 1)) ∧ w'.cell? ⟨b, (ll.getD j []).length * 5 + 3, none⟩ = some (.int .i64 (-77)) := by
  obtain ⟨b, h1, h2⟩ := h.inn j hj
  obtain ⟨b', o', hA, hb, hc⟩ := h2 (by simp)
  injection hA with hA
  injection hA with e1 e2
  subst e1 e2
  obtain ⟨_, _, _, s3, _⟩ := hc (ll.getD j []).length (by simp)
  rw [mark_get, Nat.zero_add] at s3
  exact ⟨b, h1, s3⟩
theorem LentW.last {w w' : World} {g : Nat} {ll : List (List Sg)} (h : LentW w g ll w') : ∃ b, w'.cell? ⟨g, ll.length, none⟩ = some (.slice (some ⟨b, 0, none⟩) 1 1) ∧ w'.cell? ⟨b, 3, none⟩ = some (.int .i64 (-78)) := by
  obtain ⟨b, h1, h2⟩ := h.lst
  obtain ⟨b', o', hA, hb, hc⟩ := h2 (by simp)
  injection hA with hA
  injection hA with e1 e2
  subst e1 e2
  obtain ⟨_, _, _, s3, _⟩ := hc 0 (by simp)
  exact ⟨b, h1, s3⟩
theorem still_num {i n m : Nat} (h : i < n) (hn : n ≤ 17592186044416) (hm : m ≤ 17592186044416) : wrap64 ((i : Int) + 1) = (i : Int) + 1 ∧ wrap64 ((m : Int) + 1) = ((m + 1 : Nat) : Int) ∧ IntKind.i64.wrap ((m : Int) + 1) = ((m + 1 : Nat) : Int) ∧ (m : Int) < ((m + 1 : Nat) : Int) ∧ (0 : Int) ≤ ((m + 1 : Nat) : Int) ∧ (0 : Int) ≤ (m : Int) := by
  refine ⟨?_, ?_, ?_, ?_, ?_, ?_⟩
  · unfold wrap64; omega
  · unfold wrap64; omega
  · exact (IntWalk.i64_in _ (by omega)).trans (by omega)
  all_goals omega
set_option maxHeartbeats 4000000 in
set_option maxRecDepth 100000 in
theorem still8 (g : Nat) (B : Option Addr) (d : Nat) (ll : List (List Sg)) (hln : ∀ l ∈ ll, l.length ≤ 17592186044416) (hll : ll.length ≤ 17592186044416) (w0 w : World) (hL : LentW w0 g ll w) (hB : ArgSS w B ll) :
    Calls Try.prog 23 #[.slice (some ⟨g, 0, none⟩) ll.length (ll.length + 1), .slice B ll.length d] w fun e w' => e = .returned (.bool true) ∧ Below w.heap.size w w' := by
  have SA := same8 (some ⟨g, 0, none⟩) B (ll.length + 1) d ll ll hll hln w hL.arg hB
  have HL := Lib.hid hL
  have HB := Lib.hid hB
  have HN := Lib.hid hll
  have HLN := Lib.hid hln
  obtain ⟨v1, v2, v3⟩ := lent_num0 hll
  clear hL hB hll hln
  go_enter Try.func23, Try.ntmps23
  go_wp2_with fail
  refine SA.mono ?_
  rintro e w1 ⟨t, rfl, ht, b1⟩
  obtain rfl : t = true := ht.2 rfl
  have L1 := Lib.hid (And.intro (HL.out.below b1) (And.intro (HB.out.below b1) b1))
  obtain ⟨bl, y0, y1⟩ := L1.out.1.last
  clear SA ht b1
  go_wp2_with fail
  clear y0 y1
  go_loopw [5] (fun x wr => ∃ i : Nat, i ≤ ll.length ∧ x = .int .i64 i ∧ Hid (Below w1.heap.size w1 wr)) (fun x _ => ll.length - (intOf x).toNat)
  case atStart => exact ⟨0, Nat.zero_le _, rfl, Lib.hid (Below.refl _ _)⟩
  case round =>
    obtain ⟨i, hi', rfl, I⟩ := hrel
    by_cases hlt : i < ll.length
    · have i0 : (0 : Int) ≤ (i : Int) := by omega
      have i1 : (i : Int) < (ll.length : Int) := by omega
      obtain ⟨bm, x0, x1⟩ := (L1.out.1.below I.out).mark hlt
      obtain ⟨b, o, rfl, hb, hc⟩ := (L1.out.2.1.below I.out) (by omega)
      obtain ⟨A2, c2, y0, _⟩ := hc i hlt
      have hlb := HLN.out _ (mem_getD (z := []) hlt rfl)
      obtain ⟨l, hl⟩ : ∃ l, ll.getD i [] = l := ⟨_, rfl⟩
      rw [hl] at x0 x1 y0 hlb
      obtain ⟨q1, q2, q3, q4, q5, q6⟩ := still_num hlt HN.out hlb
      clear hc hl hb hlb
      go_wp2_with fail
      go_quiet (fail)
      have I9 := Lib.hid (drewN_below I.out nq)
      go_wp2_with fail
      go_roundw
      case rel => exact ⟨i + 1, Nat.succ_le_of_lt hlt, (by first | (rw [q1]; rfl) | rfl), I9⟩
      case measure => first | (rw [q1]; exact meas_next hlt) | exact meas_next hlt
    · obtain rfl : i = ll.length := by omega
      have i1 : ¬ (ll.length : Int) < (ll.length : Int) := by omega
      go_wp2_with fail
      go_ret
      exact ⟨rfl, below_next L1.out.2.2 I.out⟩
end Go.Proofs.Ytnccgpdniigekaa
