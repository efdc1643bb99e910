/-
  The law: the bound, of levels that are built.
-/
import Derived.Test.YtnccgpdniigekaaQLvNear
import Derived.Test.YtnccgpdniigekaaQLvL2
namespace Go.Proofs.Ytnccgpdniigekaa
open Go.RowKit
set_option linter.unusedVariables false
set_option linter.unusedSimpArgs false
attribute [local go_sem high] run_store_float

theorem wrap_next {i n : Nat} (h : i < n) (hn : n ≤ 17592186044416) : wrap64 ((i : Int) + 1) = (i : Int) + 1 := by unfold wrap64; omega
set_option maxHeartbeats 4000000 in
set_option maxRecDepth 100000 in
theorem lvBound_walk (A : Option Addr) (c : Nat) (K : List Int) (hK : U64s K) (hn : K.length ≤ 4294967296) (hc : K.length ≤ c) (eps : Int) (A2 : Option Addr) (c2 : Nat) (Q : List Int) (hQ : U64s Q) (hm : Q.length ≤ 4294967296) (w : World) (hA : ArgU w A K) (hA2 : ArgU w A2 Q) :
    Calls Try.prog 9 #[.slice A K.length c, .int .i64 eps, .slice A2 Q.length c2] w fun e w' => e = .returned (.bool true) ∧ Below w.heap.size w w' := by
  have SH := shown8 w
  have HA := Lib.hid hA
  by_cases hb : eps < 2 ∨ 64 < eps
  · have BB := fun w' => build_bad eps hb A K.length c w'
    have HB := Lib.hid hb
    clear hA hb hA2
    go_enter Try.func9, Try.ntmps9
    go_wp2_with fail
    refine SH.mono ?_
    rintro e w1 ⟨rfl, b1⟩
    have B1 := Lib.hid b1
    clear b1
    go_wp2_with fail
    refine (BB _).mono ?_
    rintro e w2 ⟨rfl, rfl⟩
    by_cases h1 : eps < 2
    · go_wp2_with fail
      go_ret
      exact ⟨rfl, B1.out⟩
    · have h2 : 64 < eps := by have := HB.out; omega
      go_wp2_with fail
      go_ret
      exact ⟨rfl, B1.out⟩
  · have h1 : ¬ eps < 2 := by omega
    have h2 : ¬ 64 < eps := by omega
    by_cases hu : K.Pairwise (· < ·)
    · have BG := fun w' (h : ArgU w' A K) => build_good eps (by omega) (by omega) A c K hK hn hc hu w' h
      have CK := build_chk (eps := eps) (by omega) (by omega) hK hn hu
      have AK := Lib.hid (fun (w' : World) B (h : ArgU w' A K) (h' : ArgSS w' B (buildL eps K)) => build_ask (eps := eps) (by omega) (by omega) hK hn hu hc h h')
      have SG := build_segs (eps := eps) (by omega) (by omega) hK hn hu
      have C2 := fun B d w' h => rcheck_lv A c K eps B d (buildL eps K) w' h
      have NE := Lib.hid (fun q (hq : u64ok q) B d (w' : World) (h : ArgU w' A K) (h' : ArgSS w' B (buildL eps K)) => near8_any A c K (by omega) eps B d (buildL eps K) q (near_chk CK hq hK (fun l hl => (SG.1 l hl).1)) (by omega) (by omega) hq (fun l hl => by have := (SG.1 l hl).2; omega) (by omega) w' h h')
      rw [CK] at C2
      have HA2 := Lib.hid hA2
      have HQ := Lib.hid hQ
      have HM := Lib.hid hm
      generalize buildL eps K = ll at *
      clear hA hA2 hb hu CK hc hn hK SG hQ hm
      go_enter Try.func9, Try.ntmps9
      go_wp2_with fail
      refine SH.mono ?_
      rintro e w1 ⟨rfl, b1⟩
      have B1 := Lib.hid b1
      clear b1
      go_wp2_with fail
      refine (BG _ (HA.out.below B1.out)).mono ?_
      rintro e w2 ⟨v, gs, rfl, L⟩
      obtain ⟨B, d, rfl, hB⟩ := L.arg
      have S2 := Lib.hid (And.intro hB (below_next B1.out L.bel))
      clear L hB BG
      go_wp2_with fail
      refine (C2 _ _ _ (AK.out _ _ (HA.out.below S2.out.2) S2.out.1)).mono ?_
      rintro e w3 ⟨rfl, b3⟩
      have S3 := Lib.hid (And.intro (S2.out.1.below b3) (below_next S2.out.2 b3))
      clear b3 S2 C2 AK
      go_wp2_with fail
      go_loopw [10] (fun x wr => ∃ i : Nat, i ≤ Q.length ∧ x = .int .i64 i ∧ Hid (ArgSS wr B ll ∧ Below w.heap.size w wr)) (fun x _ => Q.length - (intOf x).toNat)
      case atStart => exact ⟨0, Nat.zero_le _, rfl, S3⟩
      case round =>
        obtain ⟨i, hi', rfl, I⟩ := hrel
        clear S3
        by_cases hlt : i < Q.length
        · have i0 : (0 : Int) ≤ (i : Int) := by omega
          have i1 : (i : Int) < (Q.length : Int) := by omega
          obtain ⟨b, o, rfl, _, hc⟩ := (HA2.out.below I.out.2).at hlt
          have qo := HQ.out.at hlt
          obtain ⟨q, hq⟩ : ∃ q, Q[i] = q := ⟨_, rfl⟩
          rw [hq] at hc qo
          have v1 := wrap_next hlt (by have := HM.out; omega)
          have NE' := NE.out q qo B d wr (HA.out.below I.out.2) I.out.1
          clear hq qo
          go_wp2_with fail
          refine NE'.mono ?_
          rintro e w5 ⟨rfl, b5⟩
          have I5 := Lib.hid (And.intro (I.out.1.below b5) (below_next I.out.2 b5))
          clear b5
          go_wp2_with fail
          go_roundw
          case rel => exact ⟨i + 1, Nat.succ_le_of_lt hlt, (by first | (rw [v1]; rfl) | rfl), I5⟩
          case measure => first | (rw [v1]; exact meas_next hlt) | exact meas_next hlt
        · obtain rfl : i = Q.length := by omega
          have i1 : ¬ (Q.length : Int) < (Q.length : Int) := by omega
          go_wp2_with fail
          go_ret
          exact ⟨rfl, I.out.2⟩
    · have BU := fun w' (h : ArgU w' A K) => build_unsorted eps (by omega) (by omega) A c K (by omega) hu w' h
      have RR := fun w' (h : ArgU w' A K) => ref_Rising A c K (by omega) w' h
      rw [decide_eq_false hu] at RR
      clear hA hb hu hA2
      go_enter Try.func9, Try.ntmps9
      go_wp2_with fail
      refine SH.mono ?_
      rintro e w1 ⟨rfl, b1⟩
      have B1 := Lib.hid b1
      clear b1
      go_wp2_with fail
      refine (BU _ (HA.out.below B1.out)).mono ?_
      rintro e w2 ⟨rfl, b2⟩
      have B2 := Lib.hid (below_next B1.out b2)
      clear b2
      go_wp2_with fail
      refine (RR _ (HA.out.below B2.out)).mono ?_
      rintro e w3 ⟨rfl, b3⟩
      have B3 := Lib.hid (below_next B2.out b3)
      clear b3
      go_wp2_with fail
      go_ret
      exact ⟨rfl, B3.out⟩
end Go.Proofs.Ytnccgpdniigekaa
