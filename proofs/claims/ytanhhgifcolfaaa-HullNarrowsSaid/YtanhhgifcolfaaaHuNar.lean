/-
  The law HullNarrows.
-/
import Derived.Test.YtanhhgifcolfaaaHuNarP
namespace Go.Proofs.Ytanhhgifcolfaaa
open Go.RowKit
set_option linter.unusedVariables false
set_option linter.unusedSimpArgs false

structure NarAt (w : World) (b : Nat) (eps : Int) (L : List Int) (i : Nat) (F : Fit) (wr : World) : Prop where
  hi : i ≤ L.length
  hn : F.keys.length ≤ i
  nar : NarOk F
  m : Mine w b (eps - 1) F wr
def NarTo (w : World) (b : Nat) (eps : Int) (L : List Int) (x8 : Value) (wr : World) : Prop :=
  ∃ (i : Nat) (F : Fit), x8 = .int .i64 i ∧ NarAt w b eps L i F wr
attribute [local go_sem high] eqSlope
set_option maxHeartbeats 4000000 in
set_option maxRecDepth 100000 in
theorem narrows_walk (eps : Int) (A : Option Addr) (c : Nat) (L : List Int) (hL : U64s L) (hn : L.length ≤ 17592186044416) (w : World) (hA : ArgU w A L) :
    Calls Try.prog 5 #[.int .i64 eps, .slice A L.length c] w fun e w' => e = .returned (.bool true) ∧ Below w.heap.size w w' := by
  have SH := shown_any w
  have HU := Lib.hid hL
  have HA := Lib.hid hA
  have HN := Lib.hid hn
  clear hL hA hn
  by_cases hb : eps < 2 ∨ 64 < eps
  · have NB := fun w => hull_New_bad eps hb w
    by_cases h2 : eps < 2
    · go_enter Try.func5, Try.ntmps5
      go_wp2_with fail
      refine SH.mono ?_
      rintro e w1 ⟨rfl, b1⟩
      go_wp2_with fail
      refine (NB w1).mono ?_
      rintro e w2 ⟨rfl, rfl⟩
      go_wp2_with fail
      go_ret
      exact ⟨rfl, b1⟩
    · have h3 : 64 < eps := by omega
      go_enter Try.func5, Try.ntmps5
      go_wp2_with fail
      refine SH.mono ?_
      rintro e w1 ⟨rfl, b1⟩
      go_wp2_with fail
      refine (NB w1).mono ?_
      rintro e w2 ⟨rfl, rfl⟩
      go_wp2_with fail
      go_ret
      exact ⟨rfl, b1⟩
  · have h1 : ¬ eps < 2 := by omega
    have h2 : ¬ 64 < eps := by omega
    have N := new_mine eps (by omega) (by omega)
    clear hb
    go_enter Try.func5, Try.ntmps5
    go_wp2_with fail
    refine SH.mono ?_
    rintro e w1 ⟨rfl, b1⟩
    go_wp2_with fail
    refine (N w1).mono ?_
    rintro e w2 ⟨rfl, M2⟩
    have HM := Lib.hid (M2.base b1)
    clear SH N M2
    go_wp2_with fail
    generalize w1.heap.size = b at *
    go_loopw [8] (fun x8 wr => NarTo w b eps L x8 wr) (fun x _ => L.length - (intOf x).toNat)
    case atStart => exact ⟨0, Fit.zero, rfl, by omega, by simp [Fit.zero], NarOk.zero, HM.out⟩
    case round =>
      obtain ⟨i, F, rfl, R⟩ := hrel
      have HR := Lib.hid R
      have hi := R.hi
      have hk := R.hn
      have HNo := HN.out
      clear R
      by_cases hlt : i < L.length ∧ i < 3000
      · obtain ⟨hlt, hlm⟩ := hlt
        obtain ⟨bb, o, rfl, hbl, hc0⟩ := HA.out.at hlt
        have hu := HU.out.at hlt
        obtain ⟨key, hkey⟩ : ∃ key, L[i] = key := ⟨_, rfl⟩
        rw [hkey] at hc0 hu
        have HC := Lib.hid (And.intro hbl hc0)
        have HUk := Lib.hid hu
        obtain ⟨⟨⟨t, c'⟩, F'⟩, hadd⟩ : ∃ r, F.add (eps - 1) key = r := ⟨_, rfl⟩
        have HAD := Lib.hid hadd
        have AD := Lib.hid (fun (w : World) (hb : Below wr.heap.size wr w) => add_mineK (w := w) hadd HUk.out (by omega) HR.out.m hb)
        have C0 := count_mine HR.out.m
        clear hkey hu hc0 hadd
        go_wp2_with fail
        refine C0.mono ?_
        rintro e w3 ⟨rfl, rfl⟩
        have L0 := least_mine HR.out.m
        clear C0
        go_wp2_with fail
        refine L0.mono ?_
        rintro e w4 ⟨rfl, b4⟩
        have BL : Hid (Blk (w4.alloc (.cells #[.int .u64 F.low.1, .int .u64 F.low.2] 39)) w4.heap.size 39 #[.int .u64 F.low.1, .int .u64 F.low.2]) := Lib.hid (Blk.new _ _ _)
        have T0 := most_mine (HR.out.m.below (below_new b4 (.cells #[.int .u64 F.low.1, .int .u64 F.low.2] 39)))
        clear L0
        go_wp2_with fail
        refine T0.mono ?_
        rintro e w5 ⟨rfl, b5⟩
        have BT : Hid (Blk (w5.alloc (.cells #[.int .u64 F.top.1, .int .u64 F.top.2] 39)) w5.heap.size 39 #[.int .u64 F.top.1, .int .u64 F.top.2]) := Lib.hid (Blk.new _ _ _)
        have BL5 : Hid (Blk (w5.alloc (.cells #[.int .u64 F.top.1, .int .u64 F.top.2] 39)) w4.heap.size 39 #[.int .u64 F.low.1, .int .u64 F.low.2]) := Lib.hid ((BL.out.below b5).alloc _)
        have b6 : Hid (Below wr.heap.size wr (w5.alloc (.cells #[.int .u64 F.top.1, .int .u64 F.top.2] 39))) := Lib.hid (below_new (below_next (below_new b4 _) b5) _)
        have hg4 : Hid (wr.heap.size ≤ w4.heap.size) := Lib.hid b4.size
        have hg5 : Hid (wr.heap.size ≤ w5.heap.size) := Lib.hid (by have := b4.size; have := b5.size; simp at this; omega)
        have hc : (w5.alloc (.cells #[.int .u64 F.top.1, .int .u64 F.top.2] 39)).cell? ⟨bb, o + i, none⟩ = some (.int .u64 key) := ((HR.out.m.below b6.out).bel.cell (p := ⟨bb, _, none⟩) HC.out.1).trans HC.out.2
        clear T0 BL
        go_wp2_with fail
        refine (AD.out _ b6.out).mono ?_
        rintro e w7 ⟨rfl, M7, K7⟩
        have HM7 := Lib.hid M7
        have BL7 := Lib.hid (K7 _ _ _ hg4.out BL5.out)
        have BT7 := Lib.hid (K7 _ _ _ hg5.out BT.out)
        have L7 := least_mine M7
        clear M7 K7 AD BL5 BT hc
        go_wp2_with fail
        refine L7.mono ?_
        rintro e w8 ⟨rfl, b8⟩
        have BL8 : Hid (Blk (w8.alloc (.cells #[.int .u64 F'.low.1, .int .u64 F'.low.2] 39)) w8.heap.size 39 #[.int .u64 F'.low.1, .int .u64 F'.low.2]) := Lib.hid (Blk.new _ _ _)
        have T8 := most_mine (HM7.out.below (below_new b8 (.cells #[.int .u64 F'.low.1, .int .u64 F'.low.2] 39)))
        clear L7
        go_wp2_with fail
        refine T8.mono ?_
        rintro e w9 ⟨rfl, b9⟩
        have X0 : Hid (Below w7.heap.size w7 (w9.alloc (.cells #[.int .u64 F'.top.1, .int .u64 F'.top.2] 39))) := Lib.hid (below_new (below_next (below_new b8 _) b9) _)
        have XT : Hid (Blk (w9.alloc (.cells #[.int .u64 F'.top.1, .int .u64 F'.top.2] 39)) w9.heap.size 39 #[.int .u64 F'.top.1, .int .u64 F'.top.2]) := Lib.hid (Blk.new _ _ _)
        have XL : Hid (Blk (w9.alloc (.cells #[.int .u64 F'.top.1, .int .u64 F'.top.2] 39)) w8.heap.size 39 #[.int .u64 F'.low.1, .int .u64 F'.low.2]) := Lib.hid ((BL8.out.below b9).alloc _)
        have YT : Hid (Blk (w9.alloc (.cells #[.int .u64 F'.top.1, .int .u64 F'.top.2] 39)) w5.heap.size 39 #[.int .u64 F.top.1, .int .u64 F.top.2]) := Lib.hid (BT7.out.below X0.out)
        have YL : Hid (Blk (w9.alloc (.cells #[.int .u64 F'.top.1, .int .u64 F'.top.2] 39)) w4.heap.size 39 #[.int .u64 F.low.1, .int .u64 F.low.2]) := Lib.hid (BL7.out.below X0.out)
        have HMW := Lib.hid (HM7.out.below X0.out)
        clear T8 BL8 b9 b8 HM7 BL7 BT7 X0 b6 hg4 hg5 b4 b5
        have CW := count_mine HMW.out
        obtain ⟨p0, p1, _, _⟩ := YL.out.cells2
        obtain ⟨p2, p3, _, _⟩ := YT.out.cells2
        obtain ⟨p4, p5, _, _⟩ := XL.out.cells2
        obtain ⟨p6, p7, _, _⟩ := XT.out.cells2
        cases t with
        | false =>
          obtain rfl := Fit.add_not HAD.out
          go_wp2_with fail
          refine CW.mono ?_
          rintro e w10 ⟨rfl, rfl⟩
          clear CW
          go_wp2_with fail
          go_roundw
          case rel => exact ⟨i + 1, F', by go_num, by omega, by omega, HR.out.nar, HMW.out⟩
          case measure => simp [intOf]; omega
        | true =>
          have NR := Lib.hid (Fit.narrows HR.out.m.ok' HR.out.nar (by omega) HAD.out)
          have hlen := NR.out.2.1
          have hcast : ((F'.keys.length : Nat) : Int) = (F.keys.length : Int) + 1 := by omega
          rw [hcast] at CW
          have B1 := below_not HMW.out.f64.1 HR.out.m.f64.1 HMW.out.ok'.low.ok HR.out.m.ok'.low.ok NR.out.2.2.1
          have B2 := below_not HR.out.m.f64.2 HMW.out.f64.2 HR.out.m.ok'.top.ok HMW.out.ok'.top.ok NR.out.2.2.2.1
          have B3 := below_not HMW.out.f64.2 HMW.out.f64.1 HMW.out.ok'.top.ok HMW.out.ok'.low.ok NR.out.2.2.2.2
          have z1 : (F'.low.2 == 0) = false := by simpa using NR.out.1.den
          have z2 : decide (F'.low.2 < F'.low.1) = false := by simpa using NR.out.1.low
          have z3 : (F'.top.1 == 0) = false := by simpa using NR.out.1.top
          clear hlen hcast
          go_wp2_with fail
          refine CW.mono ?_
          rintro e w10 ⟨rfl, rfl⟩
          clear CW
          go_wp2_with fail
          refine (B1 _).mono ?_
          rintro e wA ⟨rfl, bA⟩
          have XTA := Lib.hid (XT.out.below bA)
          have XLA := Lib.hid (XL.out.below bA)
          have YTA := Lib.hid (YT.out.below bA)
          have HMA := Lib.hid (HMW.out.below bA)
          obtain ⟨s0, s1, _, _⟩ := XTA.out.cells2
          obtain ⟨s2, s3, _, _⟩ := YTA.out.cells2
          clear XT XL YT YL HMW p0 p1 p2 p3 p4 p5 p6 p7 B1 bA
          go_wp2_with fail
          refine (B2 _).mono ?_
          rintro e wB ⟨rfl, bB⟩
          have XTB := Lib.hid (XTA.out.below bB)
          have XLB := Lib.hid (XLA.out.below bB)
          have HMB := Lib.hid (HMA.out.below bB)
          obtain ⟨r0, r1, _, _⟩ := XTB.out.cells2
          obtain ⟨r2, r3, _, _⟩ := XLB.out.cells2
          clear XTA XLA YTA HMA s0 s1 s2 s3 B2 bB
          go_wp2_with fail
          refine (B3 _).mono ?_
          rintro e wC ⟨rfl, bC⟩
          have XTC := Lib.hid (XTB.out.below bC)
          have XLC := Lib.hid (XLB.out.below bC)
          have HMC := Lib.hid (HMB.out.below bC)
          obtain ⟨q0, q1, _, _⟩ := XTC.out.cells2
          obtain ⟨q2, q3, _, _⟩ := XLC.out.cells2
          clear XTB XLB HMB r0 r1 r2 r3 B3 bC
          go_wp2_with fail
          go_roundw
          case rel => exact ⟨i + 1, F', by go_num, by omega, by have := NR.out.2.1; omega, NR.out.1, HMC.out⟩
          case measure => simp [intOf]; omega
      · by_cases h3 : i < L.length
        · have h4 : ¬ i < 3000 := fun h => hlt ⟨h3, h⟩
          have g1 : decide ((i : Int) < 3000) = false := by simp; omega
          have g2 : decide (i < L.length) = true := by simpa using h3
          clear hlt
          go_wp2_with fail
          go_ret
          exact ⟨rfl, HR.out.m.bel⟩
        · have g2 : decide (i < L.length) = false := by simpa using h3
          clear hlt
          go_wp2_with fail
          go_ret
          exact ⟨rfl, HR.out.m.bel⟩
end Go.Proofs.Ytanhhgifcolfaaa
