/-
  The law: one more behind a key, else the same; all slots alike.
-/
import Derived.Test.YtnccgpdniigekaaQG40
namespace Go.Proofs.Ytnccgpdniigekaa
open Go.RowKit
set_option linter.unusedVariables false
set_option linter.unusedSimpArgs false
attribute [local go_sem high] run_store_float

theorem fnd_is {eps : Int} {K : List Int} {ll : List (List Sg)} (h : 0 < ll.length ↔ 0 < K.length) (q : Int) : fndN K ll q = (belowN K q K.length : Nat) ∧ fndT K ll q = hasN K q K.length := by
  unfold fndN fndT rankI hasI
  by_cases h0 : 0 < ll.length
  · rw [if_pos h0, if_pos h0, keysAt_zero]; exact ⟨rfl, rfl⟩
  · rw [if_neg h0, if_neg h0]
    have : K = [] := List.eq_nil_of_length_eq_zero (by omega)
    subst this
    exact ⟨rfl, rfl⟩
theorem below_suc {K : List Int} (hu : K.Pairwise (· < ·)) (q : Int) : belowN K (q + 1) K.length = belowN K q K.length + (if hasN K q K.length = true then 1 else 0) := by
  obtain ⟨g1, g2⟩ := belowN_split hu q (Nat.le_refl K.length)
  have hle := belowN_le K q K.length
  by_cases h : hasN K q K.length = true
  · obtain ⟨a, b⟩ := has_at hu h
    rw [if_pos h]
    generalize belowN K q K.length = c at *
    refine belowN_is hu (by omega) (fun i hi => ?_) (fun i h1 h2 => ?_)
    · rcases Nat.lt_or_ge i c with hc | hc
      · have := g1 i hc; omega
      · obtain rfl : i = c := by omega
        omega
    · have := getD_lt hu (i := c) (j := i) (by omega) h2
      omega
  · have hn := fun i h1 h2 => has_not hu h (i := i) h1 h2
    rw [if_neg h, Nat.add_zero]
    generalize belowN K q K.length = c at *
    refine belowN_is hu hle (fun i hi => by have := g1 i hi; omega) (fun i h1 h2 => by have := hn i h1 h2; omega)
theorem below_mono {K : List Int} (hu : K.Pairwise (· < ·)) {q r : Int} (h : q ≤ r) : belowN K q K.length ≤ belowN K r K.length := by
  obtain ⟨g1, g2⟩ := belowN_split hu q (Nat.le_refl K.length)
  obtain ⟨k1, k2⟩ := belowN_split hu r (Nat.le_refl K.length)
  have hle := belowN_le K q K.length
  apply Classical.byContradiction
  intro hn
  have a := g1 (belowN K r K.length) (by omega)
  have b := k2 (belowN K r K.length) (Nat.le_refl _) (by omega)
  omega
theorem step_num {n : Nat} {q : Int} (hn : n ≤ 1048576) (hq : u64ok q) (h : q < 18446744073709551615) : wrap64 ((n : Int) + 1) = (n : Int) + 1 ∧ u64ok (q + 1) ∧ (q + 1) % 18446744073709551616 = q + 1 := by
  unfold u64ok at *
  exact ⟨by unfold wrap64; omega, by omega, by omega⟩
set_option maxHeartbeats 16000000 in
set_option maxRecDepth 100000 in
theorem prSteps_walk {AK : Option Addr} {cK : Nat} {K : List Int} {eps : Int} {own : Bool} {AM : Option Addr} {cM : Nat} {M : List (List Sg)} {AQ : Option Addr} {cQ : Nat} {Q : List Int} (w : World) (h : MadeArg w AK cK K own AM cM M) (hU : U64s Q) (hQ : ArgU w AQ Q) (hn : Q.length ≤ 1048576) :
    Calls Try.prog 15 #[.agg #[.slice AK K.length cK, .int .i64 eps, .bool own, .slice AM M.length cM], .slice AQ Q.length cQ] w fun e w' => e = .returned (.bool true) ∧ Below w.heap.size w w' := by
  have HM := Lib.hid h
  have HQ := Lib.hid hQ
  have HU := Lib.hid hU
  have HN := Lib.hid hn
  have hb := below_new (Below.refl w.heap.size w) (.cells #[.slice AK K.length cK, .int .i64 eps, .bool own, .slice AM M.length cM] 47)
  have HB := Lib.hid hb
  have G := Lib.hid (Blk.new w 47 #[.slice AK K.length cK, .int .i64 eps, .bool own, .slice AM M.length cM])
  obtain ⟨w1, hw1⟩ : ∃ w1, w.alloc (.cells #[.slice AK K.length cK, .int .i64 eps, .bool own, .slice AM M.length cM] 47) = w1 := ⟨_, rfl⟩
  obtain ⟨g, hg⟩ : ∃ g, w.heap.size = g := ⟨_, rfl⟩
  rw [hw1] at HB G
  rw [hg] at G
  have MR := Lib.hid (fun ht => made_right (eps := eps) h ht)
  clear h hQ hU hn hb
  go_enter Try.func15, Try.ntmps15
  go_upto_region 1 with fail
  (try rw [hw1]); (try rw [hg])
  clear hw1 hg
  have SH := shown9 w1
  go_upto_region 2 with (go_at_call 29; refine SH.mono ?_; rintro e w2 ⟨rfl, b2⟩)
  have HB2 := Lib.hid (below_next HB.out b2)
  have G2 := Lib.hid (G.out.below b2)
  clear b2 SH HB G
  have x0 := G2.out.cell 0; have x1 := G2.out.cell 1; have x2 := G2.out.cell 2; have x3 := G2.out.cell 3
  have MA := made_any (eps := eps) (HM.out.below HB2.out)
  go_upto_region 3 with (go_at_call 30; refine MA.mono ?_; rintro e w3 ⟨A, c, rfl, hA, b3⟩)
  have HB3 := Lib.hid (below_next HB2.out b3)
  have G3 := Lib.hid (G2.out.below b3)
  have HA := Lib.hid hA
  clear b3 hA MA HB2 G2 x0 x1 x2 x3
  obtain ⟨T, hT⟩ : ∃ T, madeT eps K own M = T := ⟨_, rfl⟩
  obtain ⟨ll, hll⟩ : ∃ ll, madeL eps K own M = ll := ⟨_, rfl⟩
  rw [hT, hll] at MR
  (try rw [hT]); (try rw [hll])
  rw [hll] at HA
  clear hT hll
  cases T
  · go_wp2_with fail
    go_ret
    exact ⟨rfl, HB3.out⟩
  · obtain ⟨m1, m2⟩ := MR.out rfl
    obtain ⟨r1, r2, r3⟩ := right_of m1 HM.out.ok (fun l hl => (m2 l hl).1) (Nat.le_trans HM.out.len (by decide)) (fun l hl => Nat.le_trans (m2 l hl).2 (by decide))
    have HR := Lib.hid r1
    have HP := Lib.hid r2
    have HF := Lib.hid (fun q => fnd_is (eps := eps) r3 q)
    have x0 := G3.out.cell 0; have x1 := G3.out.cell 1
    have OF := of_good AK cK K eps A c ll w3 ⟨HM.out.ok, Nat.le_trans HM.out.len (by decide), HM.out.cap, HM.out.arg.below HB3.out, fun l hl => (m2 l hl).1, fun l hl => Nat.le_trans (m2 l hl).2 (by decide), Nat.le_trans r1.nl (by decide), HA.out⟩ m1 (Nat.le_trans HM.out.len (by decide)) r1.nl (fun l hl => Nat.le_trans (m2 l hl).2 (by decide))
    clear m1 m2 r1 r2 r3 MR
    go_upto_region 6 with (go_at_call 37; refine OF.mono ?_; rintro e w4 ⟨p, AK2, cK2, AL2, cL2, rfl, hp, b4⟩)
    have HPL := Lib.hid hp
    have HB4 := Lib.hid (below_next HB3.out b4)
    have G4 := Lib.hid (G3.out.below b4)
    have HA4 := Lib.hid (HA.out.below b4)
    clear OF hp b4 x0 x1 HB3 G3 HA
    go_wp2_with fail
    go_loopw [10] (fun x wr => ∃ i : Nat, i ≤ Q.length ∧ x = .int .i64 i ∧ Hid (Below w4.heap.size w4 wr)) (fun x _ => Q.length - (intOf x).toNat)
    case atStart => exact ⟨0, Nat.zero_le _, rfl, Lib.hid (Below.refl _ _)⟩
    case round =>
      obtain ⟨i, hi', rfl, B⟩ := hrel
      by_cases hlt : i < Q.length
      · obtain ⟨n1, n2, n3⟩ := q_num hlt HN.out
        obtain ⟨bq, oq, rfl, hbq, hcq⟩ := (HQ.out.below HB4.out) (Nat.lt_of_le_of_lt (Nat.zero_le _) hlt)
        have CQ : Hid (∀ wx, Below w4.heap.size w4 wx → ∀ j, j < Q.length → wx.cell? ⟨bq, oq + j, none⟩ = some (.int .u64 (Q.getD j 0))) := Lib.hid fun wx k j hj => by
          have e : Q[j]'hj = Q.getD j 0 := by rw [List.getD_eq_getElem?_getD, List.getElem?_eq_getElem hj]; rfl
          rw [← e]
          exact (k.cell (p := ⟨bq, oq + j, none⟩) hbq).trans (hcq j hj)
        have UQ : Hid (∀ j, j < Q.length → u64ok (Q.getD j 0)) := Lib.hid fun j hj => by
          have e : Q[j]'hj = Q.getD j 0 := by rw [List.getD_eq_getElem?_getD, List.getElem?_eq_getElem hj]; rfl
          rw [← e]; exact HU.out _ (List.getElem_mem hj)
        have HQ9 : Hid (u64ok (Q.getD i 0)) := Lib.hid (UQ.out i hlt)
        obtain ⟨q, hqq⟩ : ∃ q, Q.getD i 0 = q := ⟨_, rfl⟩
        rw [hqq] at HQ9
        have HLT := Lib.hid hlt
        have CELL : Hid (∀ wx, Below w4.heap.size w4 wx → wx.cell? ⟨g, 0, none⟩ = some (.slice AK K.length cK) ∧ wx.cell? ⟨g, 1, none⟩ = some (.int .i64 eps) ∧ wx.cell? ⟨bq, oq + i, none⟩ = some (.int .u64 q)) := Lib.hid fun wx k =>
          ⟨(k.cell (p := ⟨g, 0, none⟩) G4.out.lt).trans (G4.out.cell 0), (k.cell (p := ⟨g, 1, none⟩) G4.out.lt).trans (G4.out.cell 1), by rw [← hqq]; exact CQ.out wx k i hlt⟩
        clear hcq hbq hqq
        obtain ⟨bn, hbn⟩ : ∃ bn, belowN K q K.length = bn := ⟨_, rfl⟩
        obtain ⟨hs, hhs⟩ : ∃ hs, hasN K q K.length = hs := ⟨_, rfl⟩
        have FQ : Hid (fndN K ll q = (bn : Int) ∧ fndT K ll q = hs) := Lib.hid (by rw [(HF.out q).1, (HF.out q).2, hbn, hhs]; exact ⟨rfl, rfl⟩)
        have BSU : Hid (belowN K (q + 1) K.length = bn + (if hs = true then 1 else 0)) := Lib.hid (by rw [below_suc HP.out, hbn, hhs])
        have BMO : Hid (∀ r, r ≤ q → belowN K r K.length ≤ bn) := Lib.hid (fun r hr => by rw [← hbn]; exact below_mono HP.out hr)
        have BLE : Hid (bn ≤ 1048576) := Lib.hid (by rw [← hbn]; exact Nat.le_trans (belowN_le _ _ _) HM.out.len)
        clear hbn hhs
        obtain ⟨x0, x1, x2⟩ := CELL.out _ B.out
        have P1 := pile_find HR.out HQ9.out (HPL.out.below B.out)
        rw [FQ.out.1, FQ.out.2] at P1
        go_upto_region 12 with (go_at_call 38; refine P1.mono ?_; rintro e w5 ⟨rfl, b5⟩)
        have B5 := Lib.hid (below_next B.out b5)
        clear P1 b5 x0 x1 x2
        obtain ⟨x0, x1, x2⟩ := CELL.out _ B5.out
        have KR := Lib.hid (HM.out.arg.below (below_next HB4.out B5.out))
        have SR := Lib.hid (HA4.out.below B5.out)
        have S0 := Lib.hid (slots_new (AK := AK) (cK := cK) (AL := A) (cL := c) HR.out KR.out SR.out)
        have B1 := Lib.hid (below_new B5.out (.cells #[.slice AK K.length cK, .int .i64 eps, .slice A ll.length c, .slice none 0 0, .slice none 0 0, .bool false] 53))
        go_upto_region 13 with fail
        generalize (w5.alloc (.cells #[.slice AK K.length cK, .int .i64 eps, .slice A ll.length c, .slice none 0 0, .slice none 0 0, .bool false] 53)) = ws at *
        clear x0 x1 x2
        obtain ⟨x0, x1, x2⟩ := CELL.out _ B1.out
        have P1 := slots_find HR.out HQ9.out (by simp) (by simp) S0.out
        rw [FQ.out.1, FQ.out.2] at P1
        go_upto_region 14 with (go_at_call 34; refine P1.mono ?_; rintro e w6 ⟨rfl, _, b6, a6, ha6, hS6⟩)
        have B6 := Lib.hid (below_next B5.out b6)
        have S6 := Lib.hid hS6
        have AL6 := Lib.hid (ha6.le HR.out)
        clear P1 b6 hS6 ha6 x0 x1 x2 S0 B1 KR SR
        obtain ⟨x0, x1, x2⟩ := CELL.out _ B6.out
        have P1 := pile_path HR.out HQ9.out (HPL.out.below B6.out)
        go_upto_region 15 with (go_at_call 39; refine P1.mono ?_; rintro e w7 ⟨A7, c7, rfl, hV7, b7, hn7⟩)
        have B7 := Lib.hid (below_next B6.out b7)
        have S7 := Lib.hid (S6.out.below b7)
        have V7 := Lib.hid (And.intro hV7 hn7)
        clear P1 b7 hV7 hn7 x0 x1 x2 S6 B6
        obtain ⟨x0, x1, x2⟩ := CELL.out _ B7.out
        have P1 := slots_path HR.out HQ9.out (by simpa using AL6.out) (by simpa using segs_short (K := K) (q := q) HR.out.nl) S7.out
        go_upto_region 16 with (go_at_call 31; refine P1.mono ?_; rintro e w8 ⟨A8, c8, rfl, hV8, k8, b8, _, a8, _, _⟩)
        have B8 := Lib.hid (below_next B5.out b8)
        have V8 := Lib.hid (And.intro (V7.out.1.keepT k8 V7.out.2).1 hV8)
        clear P1 b8 hV8 k8 x0 x1 x2 S7 B7 V7
        have SV := sameVisits_any HR.out.nl A7 A8 c7 c8 w8 V8.out.1 V8.out.2
        go_upto_region 17 with (go_at_call 33; refine SV.mono ?_; rintro e w9 ⟨rfl, b9⟩)
        have B9 := Lib.hid (below_next B8.out b9)
        clear SV b9 V8 B8
        obtain ⟨x0, x1, x2⟩ := CELL.out _ B9.out
        have hsn : (hs != hs) = false := by simp
        clear hlt
        by_cases hq : q < 18446744073709551615
        · obtain ⟨w5n, uq1, uq2⟩ := step_num BLE.out HQ9.out hq
          have P1 := pile_find HR.out uq1 (HPL.out.below B9.out)
          rw [(HF.out (q + 1)).1, BSU.out] at P1
          obtain ⟨ft, hft⟩ : ∃ ft, fndT K ll (q + 1) = ft := ⟨_, rfl⟩
          rw [hft] at P1
          clear hft uq1
          cases hs
          · simp only [Bool.false_eq_true, if_false, Nat.add_zero] at P1
            go_upto_region 23 with (go_at_call 38; refine P1.mono ?_; rintro e w10 ⟨rfl, b10⟩)
            have BX := Lib.hid (below_next B9.out b10)
            clear P1 b10 x0 x1 x2 B9 w5n uq2 hq
            go_upto_region 24 with fail
            go_loopw [21] (fun x wx => ∃ j : Nat, j ≤ i ∧ x = .int .i64 j ∧ Hid (Below w4.heap.size w4 wx)) (fun x _ => i - (intOf x).toNat)
            case atStart => exact ⟨0, Nat.zero_le _, rfl, BX⟩
            case round =>
              obtain ⟨wi, rfl⟩ : ∃ wi : World, wi = wr := ⟨_, rfl⟩
              obtain ⟨j, hj', rfl, J⟩ := hrel
              clear BX
              by_cases hji : j < i
              · have j0 : (j : Int) < (i : Int) := Int.ofNat_lt.2 hji
                by_cases hj3 : j < 30
                · have j1 : (j : Int) < 30 := by omega
                  have hjq : j < Q.length := Nat.lt_trans hji HLT.out
                  obtain ⟨k1, k2, k3⟩ := q_num hjq HN.out
                  have HQJ := UQ.out j hjq
                  have CJ := Lib.hid (fun wx k => CQ.out wx k j hjq)
                  obtain ⟨r, hr⟩ : ∃ r, Q.getD j 0 = r := ⟨_, rfl⟩
                  rw [hr] at HQJ CJ
                  have P1 := pile_find HR.out HQJ (HPL.out.below J.out)
                  rw [(HF.out r).1] at P1
                  have BM := BMO.out r
                  have BL : belowN K r K.length ≤ 1048576 := Nat.le_trans (belowN_le _ _ _) HM.out.len
                  obtain ⟨br, hbr⟩ : ∃ br, belowN K r K.length = br := ⟨_, rfl⟩
                  rw [hbr] at P1 BM
                  obtain ⟨fr, hfr⟩ : ∃ fr, fndT K ll r = fr := ⟨_, rfl⟩
                  rw [hfr] at P1
                  have y0 := CJ.out _ J.out
                  clear hr hbr hfr HQJ BL hji hj3
                  go_upto_region 27 with (go_at_call 38; refine P1.mono ?_; rintro e w11 ⟨rfl, b11⟩)
                  have J2 := Lib.hid (below_next J.out b11)
                  clear P1 b11 y0
                  have y0 := CJ.out _ J2.out
                  have y1 := (CELL.out _ J2.out).2.2
                  by_cases hrq : r ≤ q
                  · have z1 : decide ((bn : Int) < (br : Int)) = false := decide_eq_false (by have := BM hrq; omega)
                    have z2 : decide (bn < br) = false := decide_eq_false (by have := BM hrq; omega)
                    have z3 : decide (r ≤ q) = true := decide_eq_true hrq
                    clear BM
                    go_quiet (fail)
                    go_wp2_with fail
                    go_roundw
                    case rel => exact ⟨j + 1, by omega, (by first | rfl | (rw [k3]; rfl)), Lib.hid (drewN_below J2.out nq)⟩
                    case measure => first | (rw [k3]; exact meas_next (Int.ofNat_lt.1 j0)) | exact meas_next (Int.ofNat_lt.1 j0)
                  · have z3 : decide (r ≤ q) = false := decide_eq_false hrq
                    clear BM
                    go_quiet (fail)
                    go_wp2_with fail
                    go_roundw
                    case rel => exact ⟨j + 1, by omega, (by first | rfl | (rw [k3]; rfl)), Lib.hid (drewN_below J2.out nq)⟩
                    case measure => first | (rw [k3]; exact meas_next (Int.ofNat_lt.1 j0)) | exact meas_next (Int.ofNat_lt.1 j0)
                · have j1 : ¬ (j : Int) < 30 := by omega
                  clear hji hj3
                  go_wp2_with fail
                  go_roundw
                  case rel => exact ⟨i + 1, Nat.succ_le_of_lt HLT.out, (by first | rfl | (rw [n3]; rfl)), J⟩
                  case measure => first | (rw [n3]; exact meas_next HLT.out) | exact meas_next HLT.out
              · have j0 : ¬ (j : Int) < (i : Int) := fun hh => hji (Int.ofNat_lt.1 hh)
                clear hji
                go_wp2_with fail
                go_roundw
                case rel => exact ⟨i + 1, Nat.succ_le_of_lt HLT.out, (by first | rfl | (rw [n3]; rfl)), J⟩
                case measure => first | (rw [n3]; exact meas_next HLT.out) | exact meas_next HLT.out
          · simp only [if_true] at P1
            have e1 : (((bn + 1 : Nat) : Int)) = (bn : Int) + 1 := by omega
            rw [e1] at P1
            go_upto_region 23 with (go_at_call 38; refine P1.mono ?_; rintro e w10 ⟨rfl, b10⟩)
            have BX := Lib.hid (below_next B9.out b10)
            clear P1 b10 x0 x1 x2 B9 w5n uq2 hq e1
            go_upto_region 24 with fail
            go_loopw [21] (fun x wx => ∃ j : Nat, j ≤ i ∧ x = .int .i64 j ∧ Hid (Below w4.heap.size w4 wx)) (fun x _ => i - (intOf x).toNat)
            case atStart => exact ⟨0, Nat.zero_le _, rfl, BX⟩
            case round =>
              obtain ⟨wi, rfl⟩ : ∃ wi : World, wi = wr := ⟨_, rfl⟩
              obtain ⟨j, hj', rfl, J⟩ := hrel
              clear BX
              by_cases hji : j < i
              · have j0 : (j : Int) < (i : Int) := Int.ofNat_lt.2 hji
                by_cases hj3 : j < 30
                · have j1 : (j : Int) < 30 := by omega
                  have hjq : j < Q.length := Nat.lt_trans hji HLT.out
                  obtain ⟨k1, k2, k3⟩ := q_num hjq HN.out
                  have HQJ := UQ.out j hjq
                  have CJ := Lib.hid (fun wx k => CQ.out wx k j hjq)
                  obtain ⟨r, hr⟩ : ∃ r, Q.getD j 0 = r := ⟨_, rfl⟩
                  rw [hr] at HQJ CJ
                  have P1 := pile_find HR.out HQJ (HPL.out.below J.out)
                  rw [(HF.out r).1] at P1
                  have BM := BMO.out r
                  have BL : belowN K r K.length ≤ 1048576 := Nat.le_trans (belowN_le _ _ _) HM.out.len
                  obtain ⟨br, hbr⟩ : ∃ br, belowN K r K.length = br := ⟨_, rfl⟩
                  rw [hbr] at P1 BM
                  obtain ⟨fr, hfr⟩ : ∃ fr, fndT K ll r = fr := ⟨_, rfl⟩
                  rw [hfr] at P1
                  have y0 := CJ.out _ J.out
                  clear hr hbr hfr HQJ BL hji hj3
                  go_upto_region 27 with (go_at_call 38; refine P1.mono ?_; rintro e w11 ⟨rfl, b11⟩)
                  have J2 := Lib.hid (below_next J.out b11)
                  clear P1 b11 y0
                  have y0 := CJ.out _ J2.out
                  have y1 := (CELL.out _ J2.out).2.2
                  by_cases hrq : r ≤ q
                  · have z1 : decide ((bn : Int) < (br : Int)) = false := decide_eq_false (by have := BM hrq; omega)
                    have z2 : decide (bn < br) = false := decide_eq_false (by have := BM hrq; omega)
                    have z3 : decide (r ≤ q) = true := decide_eq_true hrq
                    clear BM
                    go_quiet (fail)
                    go_wp2_with fail
                    go_roundw
                    case rel => exact ⟨j + 1, by omega, (by first | rfl | (rw [k3]; rfl)), Lib.hid (drewN_below J2.out nq)⟩
                    case measure => first | (rw [k3]; exact meas_next (Int.ofNat_lt.1 j0)) | exact meas_next (Int.ofNat_lt.1 j0)
                  · have z3 : decide (r ≤ q) = false := decide_eq_false hrq
                    clear BM
                    go_quiet (fail)
                    go_wp2_with fail
                    go_roundw
                    case rel => exact ⟨j + 1, by omega, (by first | rfl | (rw [k3]; rfl)), Lib.hid (drewN_below J2.out nq)⟩
                    case measure => first | (rw [k3]; exact meas_next (Int.ofNat_lt.1 j0)) | exact meas_next (Int.ofNat_lt.1 j0)
                · have j1 : ¬ (j : Int) < 30 := by omega
                  clear hji hj3
                  go_wp2_with fail
                  go_roundw
                  case rel => exact ⟨i + 1, Nat.succ_le_of_lt HLT.out, (by first | rfl | (rw [n3]; rfl)), J⟩
                  case measure => first | (rw [n3]; exact meas_next HLT.out) | exact meas_next HLT.out
              · have j0 : ¬ (j : Int) < (i : Int) := fun hh => hji (Int.ofNat_lt.1 hh)
                clear hji
                go_wp2_with fail
                go_roundw
                case rel => exact ⟨i + 1, Nat.succ_le_of_lt HLT.out, (by first | rfl | (rw [n3]; rfl)), J⟩
                case measure => first | (rw [n3]; exact meas_next HLT.out) | exact meas_next HLT.out
        · go_upto_region 23 with fail
          have BX := B9
          clear x0 x1 x2 B9 hq
          go_upto_region 24 with fail
          go_loopw [21] (fun x wx => ∃ j : Nat, j ≤ i ∧ x = .int .i64 j ∧ Hid (Below w4.heap.size w4 wx)) (fun x _ => i - (intOf x).toNat)
          case atStart => exact ⟨0, Nat.zero_le _, rfl, BX⟩
          case round =>
            obtain ⟨wi, rfl⟩ : ∃ wi : World, wi = wr := ⟨_, rfl⟩
            obtain ⟨j, hj', rfl, J⟩ := hrel
            clear BX
            by_cases hji : j < i
            · have j0 : (j : Int) < (i : Int) := Int.ofNat_lt.2 hji
              by_cases hj3 : j < 30
              · have j1 : (j : Int) < 30 := by omega
                have hjq : j < Q.length := Nat.lt_trans hji HLT.out
                obtain ⟨k1, k2, k3⟩ := q_num hjq HN.out
                have HQJ := UQ.out j hjq
                have CJ := Lib.hid (fun wx k => CQ.out wx k j hjq)
                obtain ⟨r, hr⟩ : ∃ r, Q.getD j 0 = r := ⟨_, rfl⟩
                rw [hr] at HQJ CJ
                have P1 := pile_find HR.out HQJ (HPL.out.below J.out)
                rw [(HF.out r).1] at P1
                have BM := BMO.out r
                have BL : belowN K r K.length ≤ 1048576 := Nat.le_trans (belowN_le _ _ _) HM.out.len
                obtain ⟨br, hbr⟩ : ∃ br, belowN K r K.length = br := ⟨_, rfl⟩
                rw [hbr] at P1 BM
                obtain ⟨fr, hfr⟩ : ∃ fr, fndT K ll r = fr := ⟨_, rfl⟩
                rw [hfr] at P1
                have y0 := CJ.out _ J.out
                clear hr hbr hfr HQJ BL hji hj3
                go_upto_region 27 with (go_at_call 38; refine P1.mono ?_; rintro e w11 ⟨rfl, b11⟩)
                have J2 := Lib.hid (below_next J.out b11)
                clear P1 b11 y0
                have y0 := CJ.out _ J2.out
                have y1 := (CELL.out _ J2.out).2.2
                by_cases hrq : r ≤ q
                · have z1 : decide ((bn : Int) < (br : Int)) = false := decide_eq_false (by have := BM hrq; omega)
                  have z2 : decide (bn < br) = false := decide_eq_false (by have := BM hrq; omega)
                  have z3 : decide (r ≤ q) = true := decide_eq_true hrq
                  clear BM
                  go_quiet (fail)
                  go_wp2_with fail
                  go_roundw
                  case rel => exact ⟨j + 1, by omega, (by first | rfl | (rw [k3]; rfl)), Lib.hid (drewN_below J2.out nq)⟩
                  case measure => first | (rw [k3]; exact meas_next (Int.ofNat_lt.1 j0)) | exact meas_next (Int.ofNat_lt.1 j0)
                · have z3 : decide (r ≤ q) = false := decide_eq_false hrq
                  clear BM
                  go_quiet (fail)
                  go_wp2_with fail
                  go_roundw
                  case rel => exact ⟨j + 1, by omega, (by first | rfl | (rw [k3]; rfl)), Lib.hid (drewN_below J2.out nq)⟩
                  case measure => first | (rw [k3]; exact meas_next (Int.ofNat_lt.1 j0)) | exact meas_next (Int.ofNat_lt.1 j0)
              · have j1 : ¬ (j : Int) < 30 := by omega
                clear hji hj3
                go_wp2_with fail
                go_roundw
                case rel => exact ⟨i + 1, Nat.succ_le_of_lt HLT.out, (by first | rfl | (rw [n3]; rfl)), J⟩
                case measure => first | (rw [n3]; exact meas_next HLT.out) | exact meas_next HLT.out
            · have j0 : ¬ (j : Int) < (i : Int) := fun hh => hji (Int.ofNat_lt.1 hh)
              clear hji
              go_wp2_with fail
              go_roundw
              case rel => exact ⟨i + 1, Nat.succ_le_of_lt HLT.out, (by first | rfl | (rw [n3]; rfl)), J⟩
              case measure => first | (rw [n3]; exact meas_next HLT.out) | exact meas_next HLT.out
      · obtain rfl : i = Q.length := Nat.le_antisymm hi' (Nat.le_of_not_lt hlt)
        have i1 : ¬ (Q.length : Int) < (Q.length : Int) := Int.lt_irrefl _
        go_wp2_with fail
        go_ret
        exact ⟨rfl, below_next HB4.out B.out⟩
end Go.Proofs.Ytnccgpdniigekaa
