/-
  keys.Rising and the reference's Rising: whether a list of numbers rises.
-/
import Derived.Test.YtnccgpdniigekaaQG31
import Derived.Deep.CutBlock
import Derived.Deep.DeepCutAuto
namespace Go.Proofs.Ytnccgpdniigekaa
open Go.RowKit
set_option linter.unusedVariables false
set_option linter.unusedSimpArgs false

theorem up_take {L : List Int} {k : Nat} (hk : k + 1 < L.length) (h : (L.take (k + 1)).Pairwise (· < ·)) (hlt : L[k] < L[k + 1]) : (L.take (k + 2)).Pairwise (· < ·) := by
  rw [List.take_succ_eq_append_getElem hk, List.pairwise_append]
  refine ⟨h, List.pairwise_singleton _ _, fun a ha b hb => ?_⟩
  obtain rfl : b = L[k + 1] := by simpa using hb
  obtain ⟨i, hi, rfl⟩ := List.mem_iff_getElem.1 ha
  have hi' : i < k + 1 := by simp at hi; omega
  rw [List.getElem_take]
  by_cases he : i = k
  · subst he; exact hlt
  · have h1 := List.pairwise_iff_getElem.1 h i k (by simp; omega) (by simp; omega) (by omega)
    rw [List.getElem_take, List.getElem_take] at h1
    omega
theorem up_one {L : List Int} : (L.take 1).Pairwise (· < ·) := by
  cases L with
  | nil => simp
  | cons a r => simp
theorem not_up {L : List Int} {k : Nat} (hk : k + 1 < L.length) (h : ¬ L[k] < L[k + 1]) : ¬ L.Pairwise (· < ·) := fun hp => h (List.pairwise_iff_getElem.1 hp k (k + 1) (by omega) hk (by omega))
theorem rising_fn (k : Int) (w : World) : Calls Try.prog 65 #[.int .u64 k] w fun e w' => e = .returned (.int .u64 k) ∧ w = w' := by
  go_enter Try.func65, Try.ntmps65
  go_wp2
  go_ret
  exact ⟨rfl, rfl⟩
set_option maxHeartbeats 2000000 in
theorem ref_Rising (A : Option Addr) (c : Nat) (L : List Int) (hn : L.length ≤ 17592186044416) (w : World) (hA : ArgU w A L) :
    Calls Try.prog 26 #[.slice A L.length c] w fun e w' => e = .returned (.bool (decide (L.Pairwise (· < ·)))) ∧ Below w.heap.size w w' := by
  have HA := Lib.hid hA
  have HN := Lib.hid hn
  clear hA hn
  by_cases h0 : L.length ≤ 1
  · have hp : Hid (decide (L.Pairwise (· < ·)) = true) := Lib.hid (by
      have := up_one (L := L); rw [List.take_of_length_le h0] at this; simpa using this)
    have h1 : decide ((1 : Int) < (L.length : Int)) = false := by simp; omega
    have h2 : ¬ 1 < L.length := by omega
    go_enter Try.func26, Try.ntmps26
    go_wp2
    go_loopw [3] (fun x wr => x = .int .i64 1 ∧ w = wr) (fun x _ => 0)
    case atStart => exact ⟨rfl, rfl⟩
    case round =>
      obtain ⟨rfl, rfl⟩ := hrel
      go_wp2
      go_ret
      exact ⟨by rw [hp.out]; rfl, Below.refl _ _⟩
  · go_enter Try.func26, Try.ntmps26
    go_wp2
    go_loopw [3] (fun x wr => ∃ k : Nat, k + 1 ≤ L.length ∧ x = .int .i64 ((k : Int) + 1) ∧ Hid ((L.take (k + 1)).Pairwise (· < ·)) ∧ Hid (Below w.heap.size w wr)) (fun x _ => L.length - (intOf x).toNat)
    case atStart => exact ⟨0, by omega, rfl, Lib.hid up_one, Lib.hid (Below.refl _ _)⟩
    case round =>
      obtain ⟨k, hk, rfl, HT, HB⟩ := hrel
      have hN := HN.out
      by_cases hlt : k + 1 < L.length
      · obtain ⟨bb, o, rfl, hbl, hc0⟩ := HA.out.at (i := k) (by omega)
        obtain ⟨bb', o', hA', _, hc1⟩ := HA.out.at (i := k + 1) hlt
        injection hA' with hA'
        injection hA' with q1 q2
        subst q1 q2
        have hd0 : wr.drew.cell? ⟨bb, o + k, none⟩ = some (.int .u64 L[k]) := (HB.out.cell (p := ⟨bb, _, none⟩) hbl).trans hc0
        have hd1 : wr.drew.cell? ⟨bb, o + (k + 1), none⟩ = some (.int .u64 L[k + 1]) := (HB.out.cell (p := ⟨bb, _, none⟩) hbl).trans hc1
        have z0 : wr.cell? ⟨bb, o + k, none⟩ = some (.int .u64 L[k]) := hd0
        have z1 : wr.cell? ⟨bb, o + (k + 1), none⟩ = some (.int .u64 L[k + 1]) := hd1
        have HC := Lib.hid hc0
        have i0 : (0 : Int) ≤ (k : Int) + 1 := by omega
        have i1 : (k : Int) + 1 < (L.length : Int) := by omega
        have i2 : ((k : Int) + 1).toNat = k + 1 := by omega
        have i3 : IntKind.i64.wrap ((k : Int) + 1 - 1) = (k : Int) := by rw [show (k : Int) + 1 - 1 = k from by omega]; exact IntWalk.i64_in _ (by omega)
        have i4 : (0 : Int) ≤ (k : Int) := by omega
        have i5 : (k : Int) < (L.length : Int) := by omega
        have i6 : IntKind.i64.wrap ((k : Int) + 1 + 1) = (k : Int) + 1 + 1 := IntWalk.i64_in _ (by omega)
        obtain ⟨a, ea⟩ : ∃ a, L[k] = a := ⟨_, rfl⟩
        obtain ⟨b, eb⟩ : ∃ b, L[k + 1] = b := ⟨_, rfl⟩
        have HLT : Hid (∀ h : a < b, (L.take (k + 2)).Pairwise (· < ·)) := Lib.hid (fun h => up_take hlt HT.out (by rw [ea, eb]; exact h))
        have HNU : Hid (∀ h : ¬ a < b, decide (L.Pairwise (· < ·)) = false) := Lib.hid (fun h => by have := not_up hlt (by rw [ea, eb]; exact h); simpa using this)
        rw [ea] at hd0 z0
        rw [eb] at hd1 z1
        clear hc0 hc1 ea eb
        by_cases hab : a < b
        · have g1 : decide (b ≤ a) = false := by simp; omega
          have HP := Lib.hid (HLT.out hab)
          go_wp2_with fail
          go_quiet (fail)
          go_wp2_with fail
          go_roundw
          case rel => exact ⟨k + 1, by omega, by go_num, HP, Lib.hid (drewN_below HB.out _)⟩
          case measure => simp [intOf]; omega
        · have g1 : decide (b ≤ a) = true := by simp; omega
          have HP := Lib.hid (HNU.out hab)
          go_wp2_with fail
          go_quiet (fail)
          go_wp2_with fail
          go_ret
          exact ⟨by rw [HP.out]; rfl, drewN_below HB.out _⟩
      · have hkk : k + 1 = L.length := by omega
        have hp : Hid (decide (L.Pairwise (· < ·)) = true) := Lib.hid (by have := HT.out; rw [hkk, List.take_length] at this; simpa using this)
        have i1 : decide ((k : Int) + 1 < (L.length : Int)) = false := by simp; omega
        clear hkk
        go_wp2_with fail
        go_ret
        exact ⟨by rw [hp.out]; rfl, HB.out⟩
end Go.Proofs.Ytnccgpdniigekaa
/-
  keys.Rising.
-/
namespace Go.Proofs.Ytnccgpdniigekaa
open Go.RowKit
set_option linter.unusedVariables false
set_option linter.unusedSimpArgs false

set_option maxHeartbeats 2000000 in
theorem rises_any (A : Option Addr) (c : Nat) (L : List Int) (hn : L.length ≤ 17592186044416) (w : World) (hA : ArgU w A L) :
    Calls Try.prog 64 #[.slice A L.length c, .func (.func 65) #[] #[]] w fun e w' => e = .returned (.bool (decide (L.Pairwise (· < ·)))) ∧ Below w.heap.size w w' := by
  have HA := Lib.hid hA
  have HN := Lib.hid hn
  have RF := rising_fn
  clear hA hn
  go_enter Try.func64, Try.ntmps64
  go_wp2
  go_loopw [8] (fun x wr => ∃ k : Nat, k ≤ L.length ∧ x = .int .i64 k ∧ Hid ((L.take k).Pairwise (· < ·)) ∧ Hid (Below w.heap.size w wr)) (fun x _ => L.length - (intOf x).toNat)
  case atStart => exact ⟨0, by omega, rfl, Lib.hid (by simp), Lib.hid (Below.refl _ _)⟩
  case round =>
    obtain ⟨k, hk, rfl, HT, HB⟩ := hrel
    have hN := HN.out
    by_cases hlt : k < L.length
    · cases k with
      | zero =>
        have HP : Hid ((L.take 1).Pairwise (· < ·)) := Lib.hid up_one
        have g0 : decide ((0 : Int) < (0 : Int)) = false := by decide
        go_wp2_with fail
        go_quiet (fail)
        go_wp2_with fail
        go_roundw
        case rel => exact ⟨1, by omega, by go_num, HP, Lib.hid (drewN_below HB.out _)⟩
        case measure => simp [intOf]; omega
      | succ k =>
        obtain ⟨bb, o, rfl, hbl, hc0⟩ := HA.out.at (i := k) (by omega)
        obtain ⟨bb', o', hA', _, hc1⟩ := HA.out.at (i := k + 1) hlt
        injection hA' with hA'
        injection hA' with q1 q2
        subst q1 q2
        have hd0 : wr.drew.cell? ⟨bb, o + k, none⟩ = some (.int .u64 L[k]) := (HB.out.cell (p := ⟨bb, _, none⟩) hbl).trans hc0
        have hd1 : wr.drew.cell? ⟨bb, o + (k + 1), none⟩ = some (.int .u64 L[k + 1]) := (HB.out.cell (p := ⟨bb, _, none⟩) hbl).trans hc1
        have z0 : wr.cell? ⟨bb, o + k, none⟩ = some (.int .u64 L[k]) := hd0
        have z1 : wr.cell? ⟨bb, o + (k + 1), none⟩ = some (.int .u64 L[k + 1]) := hd1
        have ecast : ((k + 1 : Nat) : Int) = (k : Int) + 1 := by omega
        rw [ecast]
        have i0 : (0 : Int) ≤ (k : Int) + 1 := by omega
        have i1 : (k : Int) + 1 < (L.length : Int) := by omega
        have i2 : ((k : Int) + 1).toNat = k + 1 := by omega
        have i3 : IntKind.i64.wrap ((k : Int) + 1 - 1) = (k : Int) := by rw [show (k : Int) + 1 - 1 = k from by omega]; exact IntWalk.i64_in _ (by omega)
        have i4 : (0 : Int) ≤ (k : Int) := by omega
        have i7 : IntKind.i64.wrap (k : Int) = (k : Int) := IntWalk.i64_in _ (by omega)
        have i8 : ((k : Int)).toNat = k := by omega
        have i5 : (k : Int) < (L.length : Int) := by omega
        have i6 : IntKind.i64.wrap ((k : Int) + 1 + 1) = (k : Int) + 1 + 1 := IntWalk.i64_in _ (by omega)
        have g0 : decide ((0 : Int) < (k : Int) + 1) = true := decide_eq_true (by omega)
        obtain ⟨a, ea⟩ : ∃ a, L[k] = a := ⟨_, rfl⟩
        obtain ⟨b, eb⟩ : ∃ b, L[k + 1] = b := ⟨_, rfl⟩
        have HLT : Hid (∀ h : a < b, (L.take (k + 2)).Pairwise (· < ·)) := Lib.hid (fun h => up_take hlt HT.out (by rw [ea, eb]; exact h))
        have HNU : Hid (∀ h : ¬ a < b, decide (L.Pairwise (· < ·)) = false) := Lib.hid (fun h => by have := not_up hlt (by rw [ea, eb]; exact h); simpa using this)
        rw [ea] at hd0 z0
        rw [eb] at hd1 z1
        clear hc0 hc1 ea eb ecast
        by_cases hab : a < b
        · have g1 : decide (b ≤ a) = false := by simp; omega
          have HP := Lib.hid (HLT.out hab)
          go_wp2_with fail
          go_region_held3 (fun w' => Below w.heap.size w w' ∧ w'.cell? ⟨bb, o + k, none⟩ = some (.int .u64 a) ∧ w'.cell? ⟨bb, o + (k + 1), none⟩ = some (.int .u64 b))
            (first | exact ⟨HB.out.drew, hd0, hd1⟩ | assumption)
            (first | (go_at_call 65; refine (RF _ _).mono ?_; rintro e w' ⟨rfl, rfl⟩))
          all_goals go_wp2_with fail
          all_goals
            have K := Lib.hid (‹Below w.heap.size w _ ∧ _›).1
            go_roundw
            case rel => exact ⟨k + 2, by omega, by go_num, HP, K⟩
            case measure => simp [intOf]; omega
        · have g1 : decide (b ≤ a) = true := by simp; omega
          have HP := Lib.hid (HNU.out hab)
          go_wp2_with fail
          go_region_held3 (fun w' => Below w.heap.size w w' ∧ w'.cell? ⟨bb, o + k, none⟩ = some (.int .u64 a) ∧ w'.cell? ⟨bb, o + (k + 1), none⟩ = some (.int .u64 b))
            (first | exact ⟨HB.out.drew, hd0, hd1⟩ | assumption)
            (first | (go_at_call 65; refine (RF _ _).mono ?_; rintro e w' ⟨rfl, rfl⟩))
          all_goals go_wp2_with fail
          all_goals
            have K := (‹Below w.heap.size w _ ∧ _›).1
            go_ret
            exact ⟨by rw [HP.out]; rfl, K⟩
    · have hkk : k = L.length := by omega
      have hp : Hid (decide (L.Pairwise (· < ·)) = true) := Lib.hid (by have := HT.out; rw [hkk, List.take_length] at this; simpa using this)
      have i1 : ¬ k < L.length := hlt
      clear hkk
      go_wp2_with fail
      go_ret
      exact ⟨by rw [hp.out]; rfl, HB.out⟩
theorem Rising_any (A : Option Addr) (c : Nat) (L : List Int) (hn : L.length ≤ 17592186044416) (w : World) (hA : ArgU w A L) :
    Calls Try.prog 40 #[.slice A L.length c] w fun e w' => e = .returned (.bool (decide (L.Pairwise (· < ·)))) ∧ Below w.heap.size w w' := by
  have R := rises_any A c L hn w hA
  clear hA hn
  generalize decide (L.Pairwise (· < ·)) = p at *
  go_enter Try.func40, Try.ntmps40
  go_wp2_with fail
  refine R.mono ?_
  rintro e w1 ⟨rfl, b1⟩
  go_wp2_with fail
  go_ret
  exact ⟨rfl, b1⟩
end Go.Proofs.Ytnccgpdniigekaa
