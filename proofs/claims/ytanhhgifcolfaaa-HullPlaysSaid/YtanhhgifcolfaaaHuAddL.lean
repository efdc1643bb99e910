/-
  (*hull.Fit).Add: the least slope.
-/
import Derived.Test.YtanhhgifcolfaaaHuAddP
namespace Go.Proofs.Ytanhhgifcolfaaa
open Go.RowKit
set_option linter.unusedVariables false
set_option linter.unusedSimpArgs false

set_option maxHeartbeats 4000000 in
set_option maxRecDepth 10000 in
theorem add_low {W : World} {b : Nat} {e : Int} {F : Fit} {n : Nat} {last : Int} {v0 v1 : Value} {c0 c1 : List Pt} {key : Int} {g7 g8 : Nat} (C : Hid (AC W b e F n last v0 v1 c0 c1 key)) (hz : 0 < n) {wc : World} (HA : Hid (A1 W b e n last F.low F.top v0 v1 c0 c1 key g7 g8 F.low F.top wc)) (u2 u3 u9 u10 u11 u12 u13 u14 u15 u16 u17 u18 u19 u20 u21 u22 u23 u24 u25 u26 u27 u28 u29 u30 u31 u32 u33 u34 u35 u36 u37 u38 u39 u40 u41 u42 u43 u44 u45 u46 u47 u48 u49 u50 u51 u52 u53 u54 u55 u56 u57 u58 u59 u60 u61 u62 u63 u64 u65 u66 u67 u68 u69 u70 u71 u72 u73 u74 u75 u76 u77 u78 u79 u80 u81 u82 u83 u84 u85 u86 u87 u88 u89 u90 u91 u92 u93 u94 u95 u96 u97 u98 u99 u100 u101 u102 u103 u104 u105 u106 u107 u108 u109 u110 u111 u112 u113 u114 u115 u116 u117 u118 u119 u120 u121 u122 u123 u124 u125 u126 u127 u128 u129 u130 u131 u132 : Value) {K : Act → World → Prop} {Q : Exit → Act → World → Prop}
    (hK : ∀ (x9 x10 x62 x63 x64 x65 x66 x67 x68 x69 x70 x71 x72 x73 x74 x75 x76 x77 x78 x79 : Value) (wx : World), Hid (A1 W b e n last F.low F.top v0 v1 c0 c1 key g7 g8 (F.lowWith e key) F.top wx) → K ⟨#[.pointer (some ⟨b, 0, none⟩), .int .u64 key, u2, u3, .bool false, .int .i64 0, .pointer (some ⟨W.heap.size, 0, none⟩), .pointer (some ⟨g7, 0, none⟩), .pointer (some ⟨g8, 0, none⟩), x9, x10, u11, u12, u13, u14, u15, u16, u17, u18, u19, u20, u21, u22, u23, u24, u25, u26, u27, u28, u29, u30, u31, u32, u33, u34, u35, u36, u37, u38, u39, u40, u41, u42, u43, u44, u45, u46, u47, u48, u49, u50, u51, u52, u53, u54, u55, u56, u57, u58, u59, u60, u61, x62, x63, x64, x65, x66, x67, x68, x69, x70, x71, x72, x73, x74, x75, x76, x77, x78, x79, u80, u81, u82, u83, u84, u85, u86, u87, u88, u89, u90, u91, u92, u93, u94, u95, u96, u97, u98, u99, u100, u101, u102, u103, u104, u105, u106, u107, u108, u109, u110, u111, u112, u113, u114, u115, u116, u117, u118, u119, u120, u121, u122, u123, u124, u125, u126, u127, u128, u129, u130, u131, u132], []⟩ wx) :
    Code.wp Try.prog addLow (Exit.then K Q) ⟨#[.pointer (some ⟨b, 0, none⟩), .int .u64 key, u2, u3, .bool false, .int .i64 0, .pointer (some ⟨W.heap.size, 0, none⟩), .pointer (some ⟨g7, 0, none⟩), .pointer (some ⟨g8, 0, none⟩), u9, u10, u11, u12, u13, u14, u15, u16, u17, u18, u19, u20, u21, u22, u23, u24, u25, u26, u27, u28, u29, u30, u31, u32, u33, u34, u35, u36, u37, u38, u39, u40, u41, u42, u43, u44, u45, u46, u47, u48, u49, u50, u51, u52, u53, u54, u55, u56, u57, u58, u59, u60, u61, u62, u63, u64, u65, u66, u67, u68, u69, u70, u71, u72, u73, u74, u75, u76, u77, u78, u79, u80, u81, u82, u83, u84, u85, u86, u87, u88, u89, u90, u91, u92, u93, u94, u95, u96, u97, u98, u99, u100, u101, u102, u103, u104, u105, u106, u107, u108, u109, u110, u111, u112, u113, u114, u115, u116, u117, u118, u119, u120, u121, u122, u123, u124, u125, u126, u127, u128, u129, u130, u131, u132], []⟩ wc := by
  conv => arg 2; whnf
  have HKK := Lib.hid hK
  have kp0 : wc.cell? ⟨W.heap.size, 0, none⟩ = some (.int .u64 key) := HA.out.p.cell 0
  have kp1 : wc.cell? ⟨W.heap.size, 1, none⟩ = some (.int .i64 (n - e)) := HA.out.p.cell 1
  have TU := C.out.up wc HA.out.m hz
  have HH := Lib.hid C.out.H
  clear hK
  go_wp2_with fail
  refine TU.mono ?_
  rintro e5 w5 ⟨⟨i, hi, rfl, A⟩, hb5⟩
  obtain ⟨hmem, hlow'⟩ := C.out.low_at hi A
  have A5 : A1 W b e n last F.low F.top v0 v1 c0 c1 key g7 g8 F.low F.top (w5.alloc (.cells #[.int .u64 c1[i].1, .int .i64 c1[i].2] 70)) := (HA.out.below hb5).alloc _
  have kf0 : (w5.alloc (.cells #[.int .u64 c1[i].1, .int .i64 c1[i].2] 70)).cell? ⟨w5.heap.size, 1, none⟩ = some (.int .i64 c1[i].2) := (Blk.new _ _ _).cell 1
  have kp3 : (w5.alloc (.cells #[.int .u64 c1[i].1, .int .i64 c1[i].2] 70)).cell? ⟨W.heap.size, 1, none⟩ = some (.int .i64 (n - e)) := A5.p.cell 1
  clear TU A
  by_cases hy : c1[i].2 < (n : Int) - e
  · have hyd : decide (c1[i].2 < (n : Int) - e) = true := by simpa using hy
    have kf1 : (w5.alloc (.cells #[.int .u64 c1[i].1, .int .i64 c1[i].2] 70)).cell? ⟨w5.heap.size, 0, none⟩ = some (.int .u64 c1[i].1) := (Blk.new _ _ _).cell 0
    have kp4 : (w5.alloc (.cells #[.int .u64 c1[i].1, .int .i64 c1[i].2] 70)).cell? ⟨W.heap.size, 0, none⟩ = some (.int .u64 key) := A5.p.cell 0
    obtain ⟨BT, L1, L2, L3⟩ := C.out.low_between hi hmem hy (w5.alloc (.cells #[.int .u64 c1[i].1, .int .i64 c1[i].2] 70))
    unfold lowBy at hlow'
    rw [if_pos hy] at hlow'
    simp only [] at L1 L2 L3 hlow'
    obtain ⟨s, hs⟩ : ∃ s, lowest ((n : Int) - e - c1[i].2) (key - c1[i].1) = s := ⟨_, rfl⟩
    unfold slopeF at BT
    simp only [] at BT
    rw [hs] at BT L1 L2 L3 hlow'
    have HLo := Lib.hid hlow'
    have HA5 := Lib.hid A5
    clear hlow' hs A5
    go_wp2_with fail
    refine BT.mono ?_
    rintro e6 w6 ⟨rfl, hb6⟩
    unfold frV
    have A6 := Lib.hid ((HA5.out.below hb6).alloc (.cells #[.int .u64 s.1, .int .u64 s.2] 39))
    have B10 : Hid (Blk (w6.alloc (.cells #[.int .u64 s.1, .int .u64 s.2] 39)) w6.heap.size 39 #[.int .u64 s.1, .int .u64 s.2]) := Lib.hid (Blk.new _ _ _)
    have BL := below_any F.low s C.out.S.fl L1 (.inr L3) C.out.S.ok.low.ok L2 (w6.alloc (.cells #[.int .u64 s.1, .int .u64 s.2] 39))
    have q0 := A6.out.l.cell 0
    have q1 := A6.out.l.cell 1
    simp only [List.getElem?_toArray, List.getElem?_cons_zero, List.getElem?_cons_succ] at q0 q1
    clear BT L1 L2 L3 kf0 kf1 kp3 kp4
    go_wp2_with fail
    by_cases hlt : ltF F.low s
    · rw [decide_eq_true hlt] at BL
      have HL2 : Hid (s = F.lowWith e key) := Lib.hid (by have := HLo.out; rwa [if_pos hlt] at this)
      refine BL.mono ?_
      rintro e7 w7 ⟨rfl, hb7⟩
      have A7 := Lib.hid (A6.out.below hb7)
      have B7 := B10.out.below hb7
      obtain ⟨z0, z1, z2, z3⟩ := B7.cells2
      obtain ⟨y0, y1, y2, y3⟩ := A7.out.l.cells2
      clear hlt BL q0 q1 B7
      go_wp2_with fail
      exact HKK.out _ _ _ _ _ _ _ _ _ _ _ _ _ _ _ _ _ _ _ _ _ (by rw [← HL2.out]; exact Lib.hid (A7.out.setL HH.out _))
    · rw [decide_eq_false hlt] at BL
      have HL2 : Hid (F.low = F.lowWith e key) := Lib.hid (by have := HLo.out; rwa [if_neg hlt] at this)
      refine BL.mono ?_
      rintro e7 w7 ⟨rfl, hb7⟩
      have A7 := Lib.hid (A6.out.below hb7)
      clear hlt BL q0 q1
      go_wp2_with fail
      exact HKK.out _ _ _ _ _ _ _ _ _ _ _ _ _ _ _ _ _ _ _ _ _ (by rw [← HL2.out]; exact A7)
  · have hyd : decide (c1[i].2 < (n : Int) - e) = false := by simpa using hy
    have HL2 : Hid (F.low = F.lowWith e key) := Lib.hid (by rw [← hlow', lowBy, if_neg hy])
    have A6 := Lib.hid A5
    clear hlow'
    go_wp2_with fail
    exact HKK.out _ _ _ _ _ _ _ _ _ _ _ _ _ _ _ _ _ _ _ _ _ (by rw [← HL2.out]; exact A6)
end Go.Proofs.Ytanhhgifcolfaaa
