/-
  The law CutLong, walked.
-/
import Derived.Test.YtanhhgifcolfaaaCuLong
namespace Go.Proofs.Ytanhhgifcolfaaa
open Go.RowKit
set_option linter.unusedVariables false
set_option linter.unusedSimpArgs false

set_option maxHeartbeats 8000000 in
set_option maxRecDepth 100000 in
theorem long_walk (A : Option Addr) (c : Nat) (L : List Int) (hL : U64s L) (hn : L.length ≤ 17592186044416) (eps : Int) (w : World) (hA : ArgU w A L) :
    Calls Try.prog 11 #[.slice A L.length c, .int .i64 eps] w fun e w' => e = .returned (.bool true) ∧ Below w.heap.size w w' := by
  have SH := cshown_any w
  have HR := Lib.hid (fun (w' : World) (k : Below w.heap.size w w') => right_any eps A c L hL hn w' (hA.below k))
  have HEn := Lib.hid (fun (h : Good eps L) (w' : World) (k : Below w.heap.size w w') => ends_arg eps h.1 h.2.1 A c L hL hn h.2.2 w' (hA.below k))
  have HN := Lib.hid hn
  have HU := Lib.hid hL
  have HA := Lib.hid hA
  clear hL hA hn
  go_enter Try.func11, Try.ntmps11
  go_wp2_with fail
  refine SH.mono ?_
  rintro e w1 ⟨rfl, b1⟩
  have R1 := HR.out _ b1
  have HB1 := Lib.hid b1
  clear SH HR b1
  by_cases hbig : (300 : Int) < (L.length : Int)
  · have g1 : decide ((300 : Int) < (L.length : Int)) = true := decide_eq_true hbig
    have g1' : 300 < L.length := by omega
    clear R1
    go_wp2_with fail
    go_ret
    exact ⟨rfl, HB1.out⟩
  · have g1 : decide ((300 : Int) < (L.length : Int)) = false := decide_eq_false hbig
    have g1' : ¬ 300 < L.length := by omega
    have HBG := Lib.hid g1'
    go_wp2_with fail
    refine R1.mono ?_
    rintro e w2 ⟨t, rfl, ht, b2⟩
    have HB2 := Lib.hid (below_next HB1.out b2)
    have HT := Lib.hid ht
    clear R1 HB1 b2 ht
    cases t with
    | false =>
      go_wp2_with fail
      go_ret
      exact ⟨rfl, HB2.out⟩
    | true =>
      have HG := Lib.hid (HT.out.1 rfl)
      have E1 := HEn.out HG.out _ HB2.out
      have HLA := Lib.hid (long_at (e := eps - 1) (by have := HG.out.1; omega) HG.out.2.2)
      have HLL := Lib.hid (endsL_len (e := eps - 1) (by have := HG.out.1; omega) L)
      clear HT HEn
      go_wp2_with fail
      refine E1.mono ?_
      rintro e w3 ⟨A', c', rfl, N3, b3⟩
      have HB3 := Lib.hid (below_next HB2.out b3)
      have HN3 := Lib.hid N3
      clear E1 HB2 b3 N3
      generalize endsL (eps - 1) L = l at *
      have hNL : l.length ≤ 300 := by have := HLL.out; have := HBG.out; omega
      have hN3 : L.length ≤ 300 := by have := HBG.out; omega
      clear hbig g1 g1'
      go_wp2_with fail
      go_loopw [10, 11] (fun x10 x11 wr => ∃ i : Nat, i ≤ l.length ∧ x10 = .int .i64 (prevN 0 l i : Int) ∧ x11 = .int .i64 i ∧ Hid (Below w3.heap.size w3 wr)) (fun _ x _ => l.length - (intOf x).toNat)
      case atStart => exact ⟨0, by omega, rfl, rfl, Lib.hid (Below.refl _ _)⟩
      case round =>
        obtain ⟨i, hi, rfl, rfl, HBr⟩ := hrel
        by_cases hlt : i < l.length
        · obtain ⟨f1, f2, f3, f4, f5⟩ := HLA.out.2 i hlt
          obtain ⟨b, o, rfl, hbl, hcl⟩ := HN3.out.at hlt
          obtain ⟨a, ha⟩ : ∃ a, l[i] = a := ⟨_, rfl⟩
          obtain ⟨p, hp⟩ : ∃ p, prevN 0 l i = p := ⟨_, rfl⟩
          rw [ha] at f1 f2 f3 f4 f5 hcl
          rw [hp] at f1 f4 f5 ⊢
          have hc : wr.cell? ⟨b, o + i, none⟩ = some (.int .i64 (a : Int)) := (HBr.out.cell (p := ⟨b, _, none⟩) hbl).trans hcl
          have HCL := Lib.hid (And.intro hbl hcl)
          have HF := Lib.hid (And.intro f3 (And.intro f4 f5))
          have i1 : (i : Int) < (l.length : Int) := by omega
          have g1 : decide ((a : Int) ≤ (p : Int)) = false := by simp; omega
          have g1' : ¬ a ≤ p := by omega
          have g2 : ¬ L.length < a := by omega
          have NW := RMine.new HG.out.1 HG.out.2.1 HBr.out
          have HPA := Lib.hid (And.intro f1 f2)
          clear ha hp f3 f4 f5 hcl hbl
          go_wp2_with fail
          refine NW.mono ?_
          rintro e w4 ⟨fb, rfl, M4⟩
          have HM4 := Lib.hid M4
          clear NW hc M4
          obtain ⟨wo, hwo⟩ : ∃ wo : World, wo = wr := ⟨_, rfl⟩
          go_wp2_with fail
          go_loopw [14] (fun x14 wx => ∃ k : Nat, p ≤ k ∧ k ≤ a ∧ x14 = .int .i64 (k : Int) ∧ Hid (RMine w3 fb (eps - 1) (runF (eps - 1) L p (k - p)) wx)) (fun x _ => a - (intOf x).toNat)
          case atStart => exact ⟨p, by omega, by omega, rfl, by rw [Nat.sub_self]; exact HM4⟩
          case round =>
            obtain ⟨k, hk1, hk2, rfl, HMd⟩ := hrel
            have hz : wr.cell? ⟨b, o + i, none⟩ = some (.int .i64 (a : Int)) := (HMd.out.bel.cell (p := ⟨b, _, none⟩) HCL.out.1).trans HCL.out.2
            have hpa := HPA.out
            have hBw := below_next HB3.out HMd.out.bel
            by_cases hka : k < a
            · have hkn : k < L.length := by omega
              obtain ⟨kb, ko, rfl, hkbl, hkc⟩ := HA.out.at hkn
              have hku := HU.out.at hkn
              obtain ⟨key, hkey⟩ : ∃ key, L[k] = key := ⟨_, rfl⟩
              have hkd : L.getD k 0 = key := by rw [List.getD_eq_getElem?_getD, List.getElem?_eq_getElem hkn, Option.getD_some, hkey]
              rw [hkey] at hkc hku
              have hkc2 : wr.cell? ⟨kb, ko + k, none⟩ = some (.int .u64 key) := (hBw.cell (p := ⟨kb, _, none⟩) hkbl).trans hkc
              have htk := HF.out.2.1 (k - p) (by omega)
              rw [show p + (k - p) = k from by omega, hkd] at htk
              obtain ⟨⟨⟨t, cc⟩, F'⟩, hadd⟩ : ∃ r, (runF (eps - 1) L p (k - p)).add (eps - 1) key = r := ⟨_, rfl⟩
              rw [hadd] at htk
              obtain rfl : t = true := htk
              have hF' : F' = runF (eps - 1) L p (k + 1 - p) := by
                rw [show k + 1 - p = (k - p) + 1 from by omega, runF, show p + (k - p) = k from by omega, hkd, hadd]
              have AD := HMd.out.add hadd hku (by have := runF_len (e := eps - 1) L p (k - p); omega)
              have HF2 := Lib.hid hF'
              have HK := Lib.hid (And.intro hk1 hka)
              clear hadd hF' hkc hkey hkd hku hBw hpa hk1 hk2
              go_wp2_with fail
              refine AD.mono ?_
              rintro e w5 ⟨rfl, M5⟩
              have HM5 := Lib.hid M5
              clear AD hz hkc2 M5
              go_wp2_with fail
              go_roundw
              case rel => exact ⟨k + 1, by have := HK.out; omega, by have := HK.out; omega, by go_num, by rw [← HF2.out]; exact HM5⟩
              case measure => have := HK.out; simp [intOf]; omega
            · have hkk : k = a := by omega
              subst hkk
              have f3 := HF.out.1
              by_cases han : k < L.length
              · obtain ⟨kb, ko, rfl, hkbl, hkc⟩ := HA.out.at han
                have hku := HU.out.at han
                obtain ⟨key, hkey⟩ : ∃ key, L[k] = key := ⟨_, rfl⟩
                have hkd : L.getD k 0 = key := by rw [List.getD_eq_getElem?_getD, List.getElem?_eq_getElem han, Option.getD_some, hkey]
                rw [hkey] at hkc hku
                have hkc2 : wr.cell? ⟨kb, ko + k, none⟩ = some (.int .u64 key) := (hBw.cell (p := ⟨kb, _, none⟩) hkbl).trans hkc
                have htk := HF.out.2.2 han
                unfold RefAt at htk
                rw [hkd] at htk
                obtain ⟨⟨⟨t, cc⟩, F'⟩, hadd⟩ : ∃ r, (runF (eps - 1) L p (k - p)).add (eps - 1) key = r := ⟨_, rfl⟩
                rw [hadd] at htk
                obtain rfl : t = false := htk
                have AD := HMd.out.add hadd hku (by have := runF_len (e := eps - 1) L p (k - p); omega)
                have HM0 := Lib.hid HMd.out.bel
                clear hadd hkc hkey hkd hku hBw hpa hk1 hk2 HMd
                go_wp2_with fail
                refine AD.mono ?_
                rintro e w5 ⟨rfl, M5⟩
                have HM5 := Lib.hid M5
                have hz5 : w5.cell? ⟨b, o + i, none⟩ = some (.int .i64 (k : Int)) := (M5.bel.cell (p := ⟨b, _, none⟩) HCL.out.1).trans HCL.out.2
                have HF3 := Lib.hid f3
                clear AD hz hkc2 M5 f3
                go_wp2_with fail
                go_roundw
                case rel => exact ⟨i + 1, by omega, by rw [HF3.out], by go_num, Lib.hid HM5.out.bel⟩
                case measure => simp [intOf]; omega
              · have han2 : decide ((k : Int) < (L.length : Int)) = false := by simp; omega
                have HM0 := Lib.hid HMd.out.bel
                have HF3 := Lib.hid f3
                clear hBw hpa hk1 hk2 HMd f3
                go_wp2_with fail
                go_roundw
                case rel => exact ⟨i + 1, by omega, by rw [HF3.out], by go_num, Lib.hid HM0.out⟩
                case measure => simp [intOf]; omega
        · have hil : i = l.length := by omega
          subst hil
          have hpl := HLA.out.1
          rw [hpl]
          clear hpl
          go_wp2_with fail
          go_ret
          exact ⟨rfl, below_next HB3.out HBr.out⟩
end Go.Proofs.Ytanhhgifcolfaaa
