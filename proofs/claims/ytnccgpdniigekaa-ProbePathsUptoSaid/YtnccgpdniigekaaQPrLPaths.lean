/-
  The law: the descent for any numbers, over built and other levels.
-/
import Derived.Test.YtnccgpdniigekaaQG40
import Derived.StillTailTactics
namespace Go.Proofs.Ytnccgpdniigekaa
open Go.RowKit
set_option linter.unusedVariables false
set_option linter.unusedSimpArgs false
attribute [local go_sem high] run_store_float

theorem StS.wrong {w0 w : World} {p : Nat} {AK : Option Addr} {cK : Nat} {AL : Option Addr} {cL : Nat} {eps : Int} {K : List Int} {ll : List (List Sg)} {a s : List (Nat × Nat)} (h : StS w0 p AK cK AL cL eps K ll a s w) : w.cell? ⟨p, 5, none⟩ = some (.bool false) := by
  obtain ⟨av, sv, h⟩ := h
  exact h.cells.2.2.2.2.2
theorem segs_short {K : List Int} {ll : List (List Sg)} {q : Int} (h : ll.length ≤ 4294967296) : (segsL K ll q 0).length ≤ 1000000000000 := by rw [segsL_len]; omega
theorem AskOk.le {eps : Int} {K : List Int} {ll : List (List Sg)} {q : Int} {m : Nat} {a : List (Nat × Nat)} (h : AskOk eps K ll q m a) (hR : RightL eps K ll) : a.length ≤ 1000000000000 := by
  have := h.short hR.e1 hR.e2 hR.nl; omega
theorem RP.argv {w w' : World} {eps : Int} {K : List Int} {ll : List (List Sg)} {q : Int} {v : Value} (h : RP w eps K ll q v 0 w') : ∃ A c, v = .slice A ll.length c ∧ ArgV w' A eps K ll q := by
  have h1 := h.own
  rw [Nat.sub_zero] at h1
  obtain ⟨A, c, e, hA, _⟩ := own_argv h1
  exact ⟨A, c, e, hA⟩
theorem q_num {i n : Nat} (h : i < n) (hn : n ≤ 1048576) : (0 : Int) ≤ (i : Int) ∧ (i : Int) < (n : Int) ∧ wrap64 ((i : Int) + 1) = (i : Int) + 1 := by
  refine ⟨by omega, by omega, by unfold wrap64; omega⟩
set_option maxHeartbeats 16000000 in
set_option maxRecDepth 100000 in
theorem prPaths_walk {AK : Option Addr} {cK : Nat} {K : List Int} {eps : Int} {own : Bool} {AM : Option Addr} {cM : Nat} {M : List (List Sg)} {AQ : Option Addr} {cQ : Nat} {Q : List Int} (w : World) (h : MadeArg w AK cK K own AM cM M) (hU : U64s Q) (hQ : ArgU w AQ Q) (hn : Q.length ≤ 1048576) :
    Calls Try.prog 12 #[.agg #[.slice AK K.length cK, .int .i64 eps, .bool own, .slice AM M.length cM], .slice AQ Q.length cQ] w fun e w' => e = .returned (.bool true) ∧ Below w.heap.size w w' := by
  have HM := Lib.hid h
  have HQ := Lib.hid hQ
  have HU := Lib.hid hU
  have HN := Lib.hid hn
  have hb := below_new (Below.refl w.heap.size w) (.cells #[.slice AK K.length cK, .int .i64 eps, .bool own, .slice AM M.length cM] 47)
  have HB := Lib.hid hb
  have G := Lib.hid (Blk.new w 47 #[.slice AK K.length cK, .int .i64 eps, .bool own, .slice AM M.length cM])
  obtain ⟨w1, hw1⟩ : ∃ w1, w.alloc (.cells #[.slice AK K.length cK, .int .i64 eps, .bool own, .slice AM M.length cM] 47) = w1 := ⟨_, rfl⟩
  obtain ⟨g, hg⟩ : ∃ g, w.heap.size = g := ⟨_, rfl⟩
  rw [hw1] at HB G
  rw [hg] at G
  have MR := Lib.hid (fun ht => made_right (eps := eps) h ht)
  clear h hQ hU hn hb
  go_enter Try.func12, Try.ntmps12
  go_upto_region 1 with fail
  (try rw [hw1]); (try rw [hg])
  clear hw1 hg
  have SH := shown9 w1
  go_upto_region 2 with (go_at_call 29; refine SH.mono ?_; rintro e w2 ⟨rfl, b2⟩)
  have HB2 := Lib.hid (below_next HB.out b2)
  have G2 := Lib.hid (G.out.below b2)
  clear b2 SH HB G
  have x0 := G2.out.cell 0; have x1 := G2.out.cell 1; have x2 := G2.out.cell 2; have x3 := G2.out.cell 3
  have MA := made_any (eps := eps) (HM.out.below HB2.out)
  go_upto_region 3 with (go_at_call 30; refine MA.mono ?_; rintro e w3 ⟨A, c, rfl, hA, b3⟩)
  have HB3 := Lib.hid (below_next HB2.out b3)
  have G3 := Lib.hid (G2.out.below b3)
  have HA := Lib.hid hA
  clear b3 hA MA HB2 G2 x0 x1 x2 x3
  obtain ⟨T, hT⟩ : ∃ T, madeT eps K own M = T := ⟨_, rfl⟩
  obtain ⟨ll, hll⟩ : ∃ ll, madeL eps K own M = ll := ⟨_, rfl⟩
  rw [hT, hll] at MR
  (try rw [hT]); (try rw [hll])
  rw [hll] at HA
  clear hT hll
  cases T
  · go_wp2_with fail
    go_ret
    exact ⟨rfl, HB3.out⟩
  · obtain ⟨m1, m2⟩ := MR.out rfl
    obtain ⟨r1, r2, r3⟩ := right_of m1 HM.out.ok (fun l hl => (m2 l hl).1) (Nat.le_trans HM.out.len (by decide)) (fun l hl => Nat.le_trans (m2 l hl).2 (by decide))
    have HR := Lib.hid r1
    have HP := Lib.hid r2
    clear m1 m2 r1 r2 r3 MR
    go_wp2_with fail
    go_loopw [8] (fun x wr => ∃ i : Nat, i ≤ Q.length ∧ x = .int .i64 i ∧ Hid (Below w3.heap.size w3 wr)) (fun x _ => Q.length - (intOf x).toNat)
    case atStart => exact ⟨0, Nat.zero_le _, rfl, Lib.hid (Below.refl _ _)⟩
    case round =>
      obtain ⟨i, hi', rfl, B⟩ := hrel
      by_cases hlt : i < Q.length
      · obtain ⟨n1, n2, n3⟩ := q_num hlt HN.out
        obtain ⟨bq, oq, rfl, hbq, hcq⟩ := (HQ.out.below HB3.out) (Nat.lt_of_le_of_lt (Nat.zero_le _) hlt)
        have hq9 : u64ok Q[i] := HU.out _ (List.getElem_mem hlt)
        have hcq' := hcq i hlt
        obtain ⟨q, hqq⟩ : ∃ q, Q[i] = q := ⟨_, rfl⟩
        rw [hqq] at hq9 hcq'
        have CELL : Hid (∀ wx, Below w3.heap.size w3 wx → wx.cell? ⟨g, 0, none⟩ = some (.slice AK K.length cK) ∧ wx.cell? ⟨g, 1, none⟩ = some (.int .i64 eps) ∧ wx.cell? ⟨bq, oq + i, none⟩ = some (.int .u64 q)) := Lib.hid fun wx k =>
          ⟨(k.cell (p := ⟨g, 0, none⟩) G3.out.lt).trans (G3.out.cell 0), (k.cell (p := ⟨g, 1, none⟩) G3.out.lt).trans (G3.out.cell 1), (k.cell (p := ⟨bq, oq + i, none⟩) hbq).trans hcq'⟩
        have HQ9 := Lib.hid hq9
        clear hcq hcq' hbq hqq hq9
        obtain ⟨x0, x1, x2⟩ := CELL.out _ B.out
        have KR := Lib.hid (HM.out.arg.below (below_next HB3.out B.out))
        have SR := Lib.hid (HA.out.below B.out)
        have S0 := Lib.hid (slots_new (AK := AK) (cK := cK) (AL := A) (cL := c) HR.out KR.out SR.out)
        have B1 := Lib.hid (below_new B.out (.cells #[.slice AK K.length cK, .int .i64 eps, .slice A ll.length c, .slice none 0 0, .slice none 0 0, .bool false] 53))
        go_upto_region 9 with fail
        generalize (wr.alloc (.cells #[.slice AK K.length cK, .int .i64 eps, .slice A ll.length c, .slice none 0 0, .slice none 0 0, .bool false] 53)) = ws at *
        clear x0 x1 x2
        obtain ⟨x0, x1, x2⟩ := CELL.out _ B1.out
        have P1 := slots_path HR.out HQ9.out (by simp) (by simp) S0.out
        go_upto_region 10 with (go_at_call 31; refine P1.mono ?_; rintro e w4 ⟨A1, c1, rfl, hV, k4, b4, _, a, ha, hS⟩)
        have V1 := Lib.hid hV
        have B4 := Lib.hid (below_next B.out b4)
        have BR4 := Lib.hid b4
        have S4 := Lib.hid hS
        have AL4 := Lib.hid (ha.le HR.out)
        clear P1 hV k4 b4 hS ha x0 x1 x2 S0 B1
        obtain ⟨x0, x1, x2⟩ := CELL.out _ B4.out
        have BD := Lib.hid B4.out.drew
        have BRD := Lib.hid BR4.out.drew
        have VD := Lib.hid (V1.out.below (Below.refl _ _).drew)
        have SD := Lib.hid (S4.out.below (Below.refl _ _).drew)
        clear x0 x1 x2 V1 S4 BR4
        obtain ⟨x0, x1, x2⟩ := CELL.out _ BD.out
        have y0 := (CELL.out _ B4.out).1; have y1 := (CELL.out _ B4.out).2.1; have y2 := (CELL.out _ B4.out).2.2
        go_still_tail 9, (by kernel_rfl)
        change wpList _ _ _ _ _ w4.drew
        clear y0 y1 y2 B4
        generalize w4.drew = wd at *
        have R1 := refPath_any HR.out HQ9.out AK cK A c wd (KR.out.below BRD.out) (SR.out.below BRD.out)
        go_upto_region 11 with (go_at_call 32; refine R1.mono ?_; rintro e w5 ⟨v, rfl, hv⟩)
        obtain ⟨A2, c2, rfl, hA2⟩ := hv.argv
        have V5 := Lib.hid (VD.out.below hv.bel)
        have V52 := Lib.hid hA2
        have S5 := Lib.hid (SD.out.below hv.bel)
        have B5 := Lib.hid (below_next BD.out hv.bel)
        have BR5 := Lib.hid (below_next BRD.out hv.bel)
        clear R1 hv hA2 x0 x1 x2 VD SD BD BRD
        have SV := sameVisits_any HR.out.nl A1 A2 c1 c2 w5 V5.out V52.out
        go_upto_region 12 with (go_at_call 33; refine SV.mono ?_; rintro e w6 ⟨rfl, b6⟩)
        have S6 := Lib.hid (S5.out.below b6)
        have B6 := Lib.hid (below_next B5.out b6)
        clear SV b6 V5 V52 S5 B5 BR5
        obtain ⟨x0, x1, x2⟩ := CELL.out _ B6.out
        have F6 := slots_find HR.out HQ9.out (by simpa using AL4.out) (by simpa using segs_short (K := K) (q := q) HR.out.nl) S6.out
        obtain ⟨fn, hfn⟩ : ∃ x, fndN K ll q = x := ⟨_, rfl⟩
        obtain ⟨ft, hft⟩ : ∃ x, fndT K ll q = x := ⟨_, rfl⟩
        rw [hfn, hft] at F6
        have HFN := Lib.hid (And.intro hfn hft)
        clear hfn hft
        go_upto_region 13 with (go_at_call 34; refine F6.mono ?_; rintro e w7 ⟨rfl, _, b7, a7, ha7, hS7⟩)
        have BR7 := Lib.hid b7
        have B7 := Lib.hid (below_next B.out b7)
        have S7 := Lib.hid hS7
        clear F6 b7 hS7 ha7 x0 x1 x2 S6 B6
        have R7 := refFind_any HR.out HP.out HQ9.out AK cK A c w7.drew ((KR.out.below BR7.out).below (Below.refl _ _).drew) ((SR.out.below BR7.out).below (Below.refl _ _).drew)
        rw [HFN.out.1, HFN.out.2] at R7
        have S8 := Lib.hid (S7.out.below (Below.refl _ _).drew)
        have B8 := Lib.hid B7.out.drew
        have HC8 := Lib.hid (CELL.out _ B8.out)
        clear S7 BR7
        obtain ⟨z0, z1, z2⟩ := HC8.out
        go_region_with (go_at_call 35; refine R7.mono ?_; rintro e w8 ⟨rfl, b8⟩; have B9 := Lib.hid (below_next B8.out b8); have S9 := Lib.hid (S8.out.below b8); clear b8)
        all_goals
          have xw := S9.out.wrong
          clear R7 S8 B8 S9 B7 z0 z1 z2 HC8
          go_wp2_with fail
          go_roundw
          case rel => exact ⟨i + 1, Nat.succ_le_of_lt hlt, (by first | rfl | (rw [n3]; rfl)), B9⟩
          case measure => first | (rw [n3]; exact meas_next hlt) | exact meas_next hlt
      · obtain rfl : i = Q.length := Nat.le_antisymm hi' (Nat.le_of_not_lt hlt)
        have i1 : ¬ (Q.length : Int) < (Q.length : Int) := Int.lt_irrefl _
        go_wp2_with fail
        go_ret
        exact ⟨rfl, below_next HB3.out B.out⟩
end Go.Proofs.Ytnccgpdniigekaa
