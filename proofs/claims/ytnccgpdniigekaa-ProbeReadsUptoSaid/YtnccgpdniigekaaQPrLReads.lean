/-
  The law: nothing is read beside the windows, no slot twice.
-/
import Derived.Test.YtnccgpdniigekaaQG40
import Derived.Test.YtnccgpdniigekaaQG41
namespace Go.Proofs.Ytnccgpdniigekaa
open Go.RowKit
set_option linter.unusedVariables false
set_option linter.unusedSimpArgs false
attribute [local go_sem high] run_store_float

theorem StS.lens {w0 w : World} {p : Nat} {AK : Option Addr} {cK : Nat} {AL : Option Addr} {cL : Nat} {eps : Int} {K : List Int} {ll : List (List Sg)} {a s : List (Nat × Nat)} (h : StS w0 p AK cK AL cL eps K ll a s w) : ∃ Aa ca As cs, w.cell? ⟨p, 3, none⟩ = some (.slice Aa a.length ca) ∧ w.cell? ⟨p, 4, none⟩ = some (.slice As s.length cs) := by
  obtain ⟨av, sv, h⟩ := h
  obtain ⟨Aa, ca, rfl, _⟩ := pr_own h.ra
  obtain ⟨As, cs, rfl, _⟩ := pr_own h.rs
  exact ⟨Aa, ca, As, cs, h.cells.2.2.2.1, h.cells.2.2.2.2.1⟩
theorem read_num {eps : Int} {n m : Nat} (h1 : 2 ≤ eps) (h2 : eps ≤ 64) (h3 : n ≤ 4294967296) (h4 : (m : Int) ≤ ((n - 0 : Nat) : Int) * (2 * eps + 3)) : IntKind.i64.wrap (2 * eps) = 2 * eps ∧ IntKind.i64.wrap (2 * eps + 3) = 2 * eps + 3 ∧ IntKind.i64.wrap ((n : Int) * (2 * eps + 3)) = (n : Int) * (2 * eps + 3) ∧ decide ((n : Int) * (2 * eps + 3) < (m : Int)) = false := by
  rw [Nat.sub_zero] at h4
  have h5 : (n : Int) * (2 * eps + 3) ≤ 4294967296 * 131 := by
    have a1 : (n : Int) * (2 * eps + 3) ≤ 4294967296 * (2 * eps + 3) := Int.mul_le_mul_of_nonneg_right (by omega) (by omega)
    have a2 : (4294967296 : Int) * (2 * eps + 3) ≤ 4294967296 * 131 := Int.mul_le_mul_of_nonneg_left (by omega) (by omega)
    omega
  have h6 : 0 ≤ (n : Int) * (2 * eps + 3) := Int.mul_nonneg (by omega) (by omega)
  generalize (n : Int) * (2 * eps + 3) = c at *
  exact ⟨IntWalk.i64_in _ (by omega), IntWalk.i64_in _ (by omega), IntWalk.i64_in _ (by omega), decide_eq_false (by omega)⟩
set_option maxHeartbeats 16000000 in
set_option maxRecDepth 100000 in
theorem prReads_walk {AK : Option Addr} {cK : Nat} {K : List Int} {eps : Int} {own : Bool} {AM : Option Addr} {cM : Nat} {M : List (List Sg)} {AQ : Option Addr} {cQ : Nat} {Q : List Int} (w : World) (h : MadeArg w AK cK K own AM cM M) (hU : U64s Q) (hQ : ArgU w AQ Q) (hn : Q.length ≤ 1048576) :
    Calls Try.prog 13 #[.agg #[.slice AK K.length cK, .int .i64 eps, .bool own, .slice AM M.length cM], .slice AQ Q.length cQ] w fun e w' => e = .returned (.bool true) ∧ Below w.heap.size w w' := by
  have HM := Lib.hid h
  have HQ := Lib.hid hQ
  have HU := Lib.hid hU
  have HN := Lib.hid hn
  have hb := below_new (Below.refl w.heap.size w) (.cells #[.slice AK K.length cK, .int .i64 eps, .bool own, .slice AM M.length cM] 47)
  have HB := Lib.hid hb
  have G := Lib.hid (Blk.new w 47 #[.slice AK K.length cK, .int .i64 eps, .bool own, .slice AM M.length cM])
  obtain ⟨w1, hw1⟩ : ∃ w1, w.alloc (.cells #[.slice AK K.length cK, .int .i64 eps, .bool own, .slice AM M.length cM] 47) = w1 := ⟨_, rfl⟩
  obtain ⟨g, hg⟩ : ∃ g, w.heap.size = g := ⟨_, rfl⟩
  rw [hw1] at HB G
  rw [hg] at G
  have MR := Lib.hid (fun ht => made_right (eps := eps) h ht)
  clear h hQ hU hn hb
  go_enter Try.func13, Try.ntmps13
  go_upto_region 1 with fail
  (try rw [hw1]); (try rw [hg])
  clear hw1 hg
  have SH := shown9 w1
  go_upto_region 2 with (go_at_call 29; refine SH.mono ?_; rintro e w2 ⟨rfl, b2⟩)
  have HB2 := Lib.hid (below_next HB.out b2)
  have G2 := Lib.hid (G.out.below b2)
  clear b2 SH HB G
  have x0 := G2.out.cell 0; have x1 := G2.out.cell 1; have x2 := G2.out.cell 2; have x3 := G2.out.cell 3
  have MA := made_any (eps := eps) (HM.out.below HB2.out)
  go_upto_region 3 with (go_at_call 30; refine MA.mono ?_; rintro e w3 ⟨A, c, rfl, hA, b3⟩)
  have HB3 := Lib.hid (below_next HB2.out b3)
  have G3 := Lib.hid (G2.out.below b3)
  have HA := Lib.hid hA
  clear b3 hA MA HB2 G2 x0 x1 x2 x3
  obtain ⟨T, hT⟩ : ∃ T, madeT eps K own M = T := ⟨_, rfl⟩
  obtain ⟨ll, hll⟩ : ∃ ll, madeL eps K own M = ll := ⟨_, rfl⟩
  rw [hT, hll] at MR
  (try rw [hT]); (try rw [hll])
  rw [hll] at HA
  clear hT hll
  cases T
  · go_wp2_with fail
    go_ret
    exact ⟨rfl, HB3.out⟩
  · obtain ⟨m1, m2⟩ := MR.out rfl
    obtain ⟨r1, r2, r3⟩ := right_of m1 HM.out.ok (fun l hl => (m2 l hl).1) (Nat.le_trans HM.out.len (by decide)) (fun l hl => Nat.le_trans (m2 l hl).2 (by decide))
    have HR := Lib.hid r1
    have HP := Lib.hid r2
    clear m1 m2 r1 r2 r3 MR
    go_wp2_with fail
    go_loopw [8] (fun x wr => ∃ i : Nat, i ≤ Q.length ∧ x = .int .i64 i ∧ Hid (Below w3.heap.size w3 wr)) (fun x _ => Q.length - (intOf x).toNat)
    case atStart => exact ⟨0, Nat.zero_le _, rfl, Lib.hid (Below.refl _ _)⟩
    case round =>
      obtain ⟨i, hi', rfl, B⟩ := hrel
      by_cases hlt : i < Q.length
      · obtain ⟨n1, n2, n3⟩ := q_num hlt HN.out
        obtain ⟨bq, oq, rfl, hbq, hcq⟩ := (HQ.out.below HB3.out) (Nat.lt_of_le_of_lt (Nat.zero_le _) hlt)
        have hq9 : u64ok Q[i] := HU.out _ (List.getElem_mem hlt)
        have hcq' := hcq i hlt
        obtain ⟨q, hqq⟩ : ∃ q, Q[i] = q := ⟨_, rfl⟩
        rw [hqq] at hq9 hcq'
        have CELL : Hid (∀ wx, Below w3.heap.size w3 wx → wx.cell? ⟨g, 0, none⟩ = some (.slice AK K.length cK) ∧ wx.cell? ⟨g, 1, none⟩ = some (.int .i64 eps) ∧ wx.cell? ⟨bq, oq + i, none⟩ = some (.int .u64 q)) := Lib.hid fun wx k =>
          ⟨(k.cell (p := ⟨g, 0, none⟩) G3.out.lt).trans (G3.out.cell 0), (k.cell (p := ⟨g, 1, none⟩) G3.out.lt).trans (G3.out.cell 1), (k.cell (p := ⟨bq, oq + i, none⟩) hbq).trans hcq'⟩
        have HQ9 := Lib.hid hq9
        clear hcq hcq' hbq hqq hq9
        have BD := Lib.hid B.out.drew
        have KR := Lib.hid (HM.out.arg.below (below_next HB3.out BD.out))
        have SR := Lib.hid (HA.out.below BD.out)
        have y0 := (CELL.out _ B.out).1; have y1 := (CELL.out _ B.out).2.1; have y2 := (CELL.out _ B.out).2.2
        obtain ⟨x0, x1, x2⟩ := CELL.out _ BD.out
        clear hlt
        have HLT : Hid (i < Q.length) := Lib.hid (Int.ofNat_lt.1 n2)
        go_upto_region 8 with fail
        go_still_tail 9, (by kernel_rfl)
        change wpList _ _ _ _ _ wr.drew
        clear y0 y1 y2 B
        generalize wr.drew = wd at *
        have R1 := refPath_any HR.out HQ9.out AK cK A c wd KR.out SR.out
        go_upto_region 9 with (go_at_call 32; refine R1.mono ?_; rintro e w4 ⟨v, rfl, hv⟩)
        obtain ⟨A1, c1, rfl, hA1⟩ := hv.argv
        have V4 := Lib.hid hA1
        have B4 := Lib.hid (below_next BD.out hv.bel)
        have K4 := Lib.hid (KR.out.below hv.bel)
        have R4 := Lib.hid (SR.out.below hv.bel)
        clear R1 hv hA1 x0 x1 x2 KR SR BD
        obtain ⟨x0, x1, x2⟩ := CELL.out _ B4.out
        have S0 := Lib.hid (slots_new (AK := AK) (cK := cK) (AL := A) (cL := c) HR.out K4.out R4.out)
        have B4a := Lib.hid (below_new B4.out (.cells #[.slice AK K.length cK, .int .i64 eps, .slice A ll.length c, .slice none 0 0, .slice none 0 0, .bool false] 53))
        go_upto_region 10 with fail
        generalize (w4.alloc (.cells #[.slice AK K.length cK, .int .i64 eps, .slice A ll.length c, .slice none 0 0, .slice none 0 0, .bool false] 53)) = ws at *
        generalize w4.heap.size = ps at *
        clear x0 x1 x2
        obtain ⟨x0, x1, x2⟩ := CELL.out _ B4a.out
        have F5 := slots_find HR.out HQ9.out (by simp) (by simp) S0.out
        go_upto_region 11 with (go_at_call 34; refine F5.mono ?_; rintro e w5 ⟨rfl, _, b5, a5, ha5, hS5⟩)
        have B5 := Lib.hid (below_next B4.out b5)
        have V5 := Lib.hid (V4.out.below b5)
        have K5 := Lib.hid (K4.out.below b5)
        have R5 := Lib.hid (R4.out.below b5)
        have S5 : Hid (StS w4 ps AK cK A c eps K ll a5 (segsL K ll q 0) w5) := Lib.hid (by simpa using hS5)
        have A5 := Lib.hid ha5
        clear F5 b5 hS5 ha5 x0 x1 x2 V4 K4 R4 S0 B4a
        obtain ⟨x0, x1, x2⟩ := CELL.out _ B5.out
        have T0 := Lib.hid (slots_new (AK := AK) (cK := cK) (AL := A) (cL := c) HR.out K5.out R5.out)
        have B5a := Lib.hid (below_new B5.out (.cells #[.slice AK K.length cK, .int .i64 eps, .slice A ll.length c, .slice none 0 0, .slice none 0 0, .bool false] 53))
        go_upto_region 12 with fail
        generalize (w5.alloc (.cells #[.slice AK K.length cK, .int .i64 eps, .slice A ll.length c, .slice none 0 0, .slice none 0 0, .bool false] 53)) = wt at *
        generalize w5.heap.size = pt at *
        clear x0 x1 x2
        obtain ⟨x0, x1, x2⟩ := CELL.out _ B5a.out
        have F6 := slots_path HR.out HQ9.out (by simp) (by simp) T0.out
        go_upto_region 13 with (go_at_call 31; refine F6.mono ?_; rintro e w6 ⟨A6, c6, rfl, _, _, b6, _, a6, ha6, hT6⟩)
        have B6 := Lib.hid (below_next B5.out b6)
        have V6 := Lib.hid (V5.out.below b6)
        have S6 := Lib.hid (S5.out.below b6)
        have T6 : Hid (StS w5 pt AK cK A c eps K ll a6 (segsL K ll q 0) w6) := Lib.hid (by simpa using hT6)
        have A6' := Lib.hid ha6
        clear F6 b6 hT6 ha6 x0 x1 x2 V5 K5 R5 S5 T0 B5a
        have W7 := within_any HR.out A5.out S6.out (cv := c1) V6.out
        go_upto_region 14 with (go_at_call 36; refine W7.mono ?_; rintro e w7 ⟨rfl, b7⟩)
        have B7 := Lib.hid (below_next B6.out b7)
        have V7 := Lib.hid (V6.out.below b7)
        have S7 := Lib.hid (S6.out.below b7)
        have T7 := Lib.hid (T6.out.below b7)
        clear W7 b7 V6 S6 T6
        have W8 := within_any HR.out A6'.out T7.out (cv := c1) V7.out
        go_upto_region 15 with (go_at_call 36; refine W8.mono ?_; rintro e w8 ⟨rfl, b8⟩)
        have B8 := Lib.hid (below_next B7.out b8)
        have S8 := Lib.hid (S7.out.below b8)
        clear W8 b8 V7 S7 T7
        obtain ⟨x0, x1, x2⟩ := CELL.out _ B8.out
        obtain ⟨Aa, ca, As, cs, x3, x4⟩ := S8.out.lens
        rw [segsL_len, Nat.sub_zero] at x4
        obtain ⟨u1, u2, u3, z1⟩ := read_num HR.out.e1 HR.out.e2 HR.out.nl A5.out.cnt
        have z2 : ((ll.length : Int) != (ll.length : Int)) = false := by simp
        go_quiet (fail)
        go_wp2_with fail
        go_roundw
        case rel => exact ⟨i + 1, Nat.succ_le_of_lt HLT.out, (by first | rfl | (rw [n3]; rfl)), Lib.hid (drewN_below B8.out nq)⟩
        case measure => first | (rw [n3]; exact meas_next HLT.out) | exact meas_next HLT.out
      · obtain rfl : i = Q.length := Nat.le_antisymm hi' (Nat.le_of_not_lt hlt)
        have i1 : ¬ (Q.length : Int) < (Q.length : Int) := Int.lt_irrefl _
        go_wp2_with fail
        go_ret
        exact ⟨rfl, below_next HB3.out B.out⟩
end Go.Proofs.Ytnccgpdniigekaa
