/-
  The law HullFirst: few always fit.
-/
import Derived.Test.YtanhhgifcolfaaaHuArg
namespace Go.Proofs.Ytanhhgifcolfaaa
open Go.RowKit
set_option linter.unusedVariables false
set_option linter.unusedSimpArgs false

/-- Where the loop stands. -/
structure FirstAt (w : World) (b : Nat) (eps : Int) (L : List Int) (i : Nat) (F : Fit) (wr : World) : Prop where
  hi : i ≤ L.length
  hn : (F.keys.length : Int) ≤ 2 * eps - 1
  low : F.low = (0, 1)
  m : Mine w b (eps - 1) F wr
def FirstTo (w : World) (b : Nat) (eps : Int) (L : List Int) (x8 x9 x10 : Value) (wr : World) : Prop :=
  ∃ (i : Nat) (F : Fit), x8 = .int .i64 F.keys.length ∧ x9 = .int .u64 F.lst ∧ x10 = .int .i64 i ∧ FirstAt w b eps L i F wr
theorem Mine.ok {w0 w : World} {b : Nat} {e : Int} {F : Fit} (h : Mine w0 b e F w) : FitOk F := by obtain ⟨S, h1, _⟩ := h; exact h1.ok
set_option maxHeartbeats 4000000 in
set_option maxRecDepth 10000 in
theorem first_walk (eps : Int) (A : Option Addr) (c : Nat) (L : List Int) (hL : U64s L) (hn : L.length ≤ 17592186044416) (w : World) (hA : ArgU w A L) :
    Calls Try.prog 4 #[.int .i64 eps, .slice A L.length c] w fun e w' => e = .returned (.bool true) ∧ Below w.heap.size w w' := by
  have SH := shown_any w
  have HU := Lib.hid hL
  have HA := Lib.hid hA
  have HN := Lib.hid hn
  clear hL hA hn
  by_cases hb : eps < 2 ∨ 64 < eps
  · have NB := fun w => hull_New_bad eps hb w
    by_cases h2 : eps < 2
    · go_enter Try.func4, Try.ntmps4
      go_wp2_with fail
      refine SH.mono ?_
      rintro e w1 ⟨rfl, b1⟩
      go_wp2_with fail
      refine (NB w1).mono ?_
      rintro e w2 ⟨rfl, rfl⟩
      go_wp2_with fail
      go_ret
      exact ⟨rfl, b1⟩
    · have h3 : 64 < eps := by omega
      go_enter Try.func4, Try.ntmps4
      go_wp2_with fail
      refine SH.mono ?_
      rintro e w1 ⟨rfl, b1⟩
      go_wp2_with fail
      refine (NB w1).mono ?_
      rintro e w2 ⟨rfl, rfl⟩
      go_wp2_with fail
      go_ret
      exact ⟨rfl, b1⟩
  · have h1 : ¬ eps < 2 := by omega
    have h2 : ¬ 64 < eps := by omega
    have N := new_mine eps (by omega) (by omega)
    clear hb
    go_enter Try.func4, Try.ntmps4
    go_wp2_with fail
    refine SH.mono ?_
    rintro e w1 ⟨rfl, b1⟩
    go_wp2_with fail
    refine (N w1).mono ?_
    rintro e w2 ⟨rfl, M2⟩
    have HM := Lib.hid (M2.base b1)
    clear SH N M2
    go_wp2_with fail
    generalize w1.heap.size = b at *
    go_loopw [8, 9, 10] (fun x8 x9 x10 wr => FirstTo w b eps L x8 x9 x10 wr) (fun _ _ x _ => L.length - (intOf x).toNat)
    case atStart => exact ⟨0, Fit.zero, rfl, rfl, rfl, by omega, by simp [Fit.zero]; omega, rfl, HM.out⟩
    case round =>
      obtain ⟨i, F, rfl, rfl, rfl, R⟩ := hrel
      have HR := Lib.hid R
      have hi := R.hi
      have hk := R.hn
      have HNo := HN.out
      clear R
      by_cases hlt : i < L.length ∧ (F.keys.length : Int) < 2 * eps - 1
      · obtain ⟨hlt, hlm⟩ := hlt
        obtain ⟨bb, o, rfl, hbl, hc0⟩ := HA.out.at hlt
        have hu := HU.out.at hlt
        obtain ⟨key, hkey⟩ : ∃ key, L[i] = key := ⟨_, rfl⟩
        rw [hkey] at hc0 hu
        have HC := Lib.hid (And.intro hbl hc0)
        have hc : wr.cell? ⟨bb, o + i, none⟩ = some (.int .u64 key) := (HR.out.m.bel.cell (p := ⟨bb, _, none⟩) hbl).trans hc0
        have HUk := Lib.hid hu
        have g1 : decide ((F.keys.length : Int) < 2 * eps - 1) = true := by simpa using hlm
        have g2 : decide (i < L.length) = true := by simpa using hlt
        have LE := Lib.hid (F.late_eq key)
        clear hkey hu hc0
        by_cases ht : F.late key = true
        · have AD := add_mine (w := wr) (F.add_late ht) HUk.out (by omega) HR.out.m
          have HT := LE.out
          rw [ht] at HT
          have HT' := HT.symm
          rw [Bool.and_eq_true] at HT'
          obtain ⟨q1, q2⟩ := HT'
          have p1 : 0 < F.keys.length := by simpa using q1
          clear HT LE ht q1
          go_wp2_with fail
          refine AD.mono ?_
          rintro e w5 ⟨rfl, M5⟩
          have HM5 := Lib.hid M5
          have hc5 : w5.cell? ⟨bb, o + i, none⟩ = some (.int .u64 key) := (M5.bel.cell (p := ⟨bb, _, none⟩) HC.out.1).trans HC.out.2
          clear hc M5 AD
          go_wp2_with fail
          go_roundw
          case rel => exact ⟨i + 1, F, rfl, rfl, by go_num, by omega, by omega, HR.out.low, HM5.out⟩
          case measure => simp [intOf]; omega
        · have ht : F.late key = false := by simpa using ht
          obtain ⟨t, hadd⟩ := Fit.add_first HR.out.m.ok (e := eps - 1) (by omega) HR.out.low (by omega) ht
          have AD := add_mine (w := wr) hadd HUk.out (by omega) HR.out.m
          have HT := LE.out
          rw [ht] at HT
          have HT' := HT.symm
          have HF : Hid (∃ F', F' = (⟨F.keys ++ [key], (0, 1), t⟩ : Fit) ∧ F'.keys.length = F.keys.length + 1 ∧ F'.lst = key ∧ F'.low = (0, 1)) := Lib.hid ⟨_, rfl, by simp, by simp [Fit.lst], rfl⟩
          obtain ⟨F', hF', hlen, hlst, hlow⟩ := HF.out
          rw [← hF'] at AD
          have HH := Lib.hid (And.intro hlen (And.intro hlst hlow))
          have hk1 : (F.keys.length : Int) ≤ 1099511627776 := by omega
          clear HT LE ht hadd hlen hlst hlow hF' HF
          have q0 : ¬ 0 < F.keys.length ∨ (0 < F.keys.length ∧ decide (key ≤ F.lst) = false) := by
            by_cases hd : 0 < F.keys.length
            · have : decide (0 < (F.keys.length : Int)) = true := by simpa using hd
              rw [this, Bool.true_and] at HT'; exact .inr ⟨hd, HT'⟩
            · exact .inl hd
          clear HT'
          rcases q0 with q1 | ⟨q1, q2⟩
          all_goals
            go_wp2_with fail
            refine AD.mono ?_
            rintro e w5 ⟨rfl, M5⟩
            have HM5 := Lib.hid M5
            have hc5 : w5.cell? ⟨bb, o + i, none⟩ = some (.int .u64 key) := (M5.bel.cell (p := ⟨bb, _, none⟩) HC.out.1).trans HC.out.2
            have CT := count_mine M5
            rw [HH.out.1] at CT
            have hcast : ((F.keys.length + 1 : Nat) : Int) = (F.keys.length : Int) + 1 := by omega
            rw [hcast] at CT
            clear hc M5 AD hcast
            go_wp2_with fail
            refine CT.mono ?_
            rintro e w6 ⟨rfl, rfl⟩
            clear CT
            go_wp2_with fail
            go_roundw
            case rel => exact ⟨i + 1, F', by rw [HH.out.1]; go_num, by rw [HH.out.2.1], by go_num, by omega, by rw [HH.out.1]; omega, HH.out.2.2, HM5.out⟩
            case measure => simp [intOf]; omega
      · by_cases h3 : i < L.length
        · have h4 : ¬ (F.keys.length : Int) < 2 * eps - 1 := fun h => hlt ⟨h3, h⟩
          have g1 : decide ((F.keys.length : Int) < 2 * eps - 1) = false := by simpa using h4
          have g2 : decide (i < L.length) = true := by simpa using h3
          clear hlt
          go_wp2_with fail
          go_ret
          exact ⟨rfl, HR.out.m.bel⟩
        · have g2 : decide (i < L.length) = false := by simpa using h3
          clear hlt
          go_wp2_with fail
          go_ret
          exact ⟨rfl, HR.out.m.bel⟩
end Go.Proofs.Ytanhhgifcolfaaa
