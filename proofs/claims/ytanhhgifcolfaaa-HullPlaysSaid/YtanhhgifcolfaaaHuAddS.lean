/-
  (*hull.Fit).Add: the chains, all of them.
-/
import Derived.Test.YtanhhgifcolfaaaHuAddR
namespace Go.Proofs.Ytanhhgifcolfaaa
open Go.RowKit
set_option linter.unusedVariables false
set_option linter.unusedSimpArgs false

set_option maxHeartbeats 4000000 in
set_option maxRecDepth 10000 in
theorem add_loop {W : World} {b : Nat} {e : Int} {F : Fit} {n : Nat} {last : Int} {v0 v1 : Value} {c0 c1 : List Pt} {key : Int} {g7 g8 : Nat} (C : Hid (AC W b e F n last v0 v1 c0 c1 key)) {l t : Fr} {wc : World} (HA : Hid (A1 W b e n last F.low F.top v0 v1 c0 c1 key g7 g8 l t wc)) (u2 u3 u9 u10 u11 u12 u13 u14 u15 u16 u17 u18 u19 u20 u21 u22 u23 u24 u25 u26 u27 u28 u29 u30 u31 u32 u33 u34 u35 u36 u37 u38 u39 u40 u41 u42 u43 u44 u45 u46 u47 u48 u49 u50 u51 u52 u53 u54 u55 u56 u57 u58 u59 u60 u61 u62 u63 u64 u65 u66 u67 u68 u69 u70 u71 u72 u73 u74 u75 u76 u77 u78 u79 u80 u81 u82 u83 u84 u85 u86 u87 u88 u89 u90 u91 u92 u93 u94 u95 u96 u97 u98 u99 u100 u101 u102 u103 u104 u105 u106 u107 u108 u109 u110 u111 u112 u113 u114 u115 u116 u117 u118 u119 u120 u121 u122 u123 u124 u125 u126 u127 u128 u129 u130 u131 u132 : Value) {K : Act → World → Prop} {Q : Exit → Act → World → Prop}
    (hK : ∀ (v0' v1' : Value) (x12 x94 x95 x96 x97 x98 x99 x100 x101 x102 x103 x104 x105 x106 x107 x108 x109 x110 x111 x112 x113 : Value) (wx : World), Hid (A2 W b e n last F.low F.top v0 v1 v0' v1' (layL (-1) (key, (n : Int) - e) c0) (layL 1 (key, (n : Int) + e) c1) g7 g8 l t wx) → K ⟨#[.pointer (some ⟨b, 0, none⟩), .int .u64 key, u2, u3, .bool false, .int .i64 0, .pointer (some ⟨W.heap.size, 0, none⟩), .pointer (some ⟨g7, 0, none⟩), .pointer (some ⟨g8, 0, none⟩), u9, u10, u11, x12, u13, u14, u15, u16, u17, u18, u19, u20, u21, u22, u23, u24, u25, u26, u27, u28, u29, u30, u31, u32, u33, u34, u35, u36, u37, u38, u39, u40, u41, u42, u43, u44, u45, u46, u47, u48, u49, u50, u51, u52, u53, u54, u55, u56, u57, u58, u59, u60, u61, u62, u63, u64, u65, u66, u67, u68, u69, u70, u71, u72, u73, u74, u75, u76, u77, u78, u79, u80, u81, u82, u83, u84, u85, u86, u87, u88, u89, u90, u91, u92, u93, x94, x95, x96, x97, x98, x99, x100, x101, x102, x103, x104, x105, x106, x107, x108, x109, x110, x111, x112, x113, u114, u115, u116, u117, u118, u119, u120, u121, u122, u123, u124, u125, u126, u127, u128, u129, u130, u131, u132], []⟩ wx) :
    Code.wp Try.prog addLoop (Exit.then K Q) ⟨#[.pointer (some ⟨b, 0, none⟩), .int .u64 key, u2, u3, .bool false, .int .i64 0, .pointer (some ⟨W.heap.size, 0, none⟩), .pointer (some ⟨g7, 0, none⟩), .pointer (some ⟨g8, 0, none⟩), u9, u10, u11, u12, u13, u14, u15, u16, u17, u18, u19, u20, u21, u22, u23, u24, u25, u26, u27, u28, u29, u30, u31, u32, u33, u34, u35, u36, u37, u38, u39, u40, u41, u42, u43, u44, u45, u46, u47, u48, u49, u50, u51, u52, u53, u54, u55, u56, u57, u58, u59, u60, u61, u62, u63, u64, u65, u66, u67, u68, u69, u70, u71, u72, u73, u74, u75, u76, u77, u78, u79, u80, u81, u82, u83, u84, u85, u86, u87, u88, u89, u90, u91, u92, u93, u94, u95, u96, u97, u98, u99, u100, u101, u102, u103, u104, u105, u106, u107, u108, u109, u110, u111, u112, u113, u114, u115, u116, u117, u118, u119, u120, u121, u122, u123, u124, u125, u126, u127, u128, u129, u130, u131, u132], []⟩ wc := by
  conv => arg 2; whnf
  have HKK := Lib.hid hK
  clear hK
  go_wp2_with fail
  refine wp_loop_rounds 3 ?_
  rw [rounds_succ]
  go_wp2_with fail
  refine add_round0 (p := (key, (n : Int) - e)) (d := c0) (v := v0) ?_ ?_ ?_ ?_ ?_ HA.out.m.r0 HA.out.m.ne0 HA.out.m.blk (HA.out.m.blk.cell 7) (HA.out.p.cell 0) (HA.out.p.cell 1) _ _ _ _ _ _ _ _ _ _ _ _ _ _ _ _ _ _ _ _ _ _ _ _ _ _ _ _ _ _ _ _ _ _ _ _ _ _ _ _ _ _ _ _ _ _ _ _ _ _ _ _ _ _ _ _ _ _ _ _ _ _ _ _ _ _ _ _ _ _ _ _ _ _ _ _ _ _ _ _ _ _ _ _ _ _ _ _ _ _ _ _ _ _ _ _ _ _ _ _ _ _ _ _ _ _ _ _ _ _ _ _ _ _ _ _ _ _ _ _ _ _ _ _ _ _ _ _ _ _ ?_
  · exact C.out.pt (d := -e) (.inr rfl)
  · exact fun u hu => C.out.S.pt_ok (.inr rfl) (C.out.S.lo.sub u (List.mem_reverse.2 hu))
  · have := C.out.S.lo.xs; rw [List.pairwise_reverse] at this; exact this
  · exact fun u hu => C.out.S.lt C.out.hl u (C.out.S.lo.sub u (List.mem_reverse.2 hu))
  · have := C.out.S.n0; omega
  intro v0' x97 x98 x99 x100 x101 x102 x103 x104 x105 x106 x107 x108 x109 x110 x111 x112 w5 L5
  have HB := Lib.hid (HA.out.round0 C.out.H C.out.off L5)
  clear L5 HA
  generalize w5.setCell _ _ = w1 at *
  go_wp2_with fail
  rw [rounds_succ]
  go_wp2_with fail
  refine add_round1 (p := (key, (n : Int) + e)) (d := c1) (v := v1) ?_ ?_ ?_ ?_ ?_ HB.out.m.r1 HB.out.m.ne1 HB.out.m.blk (HB.out.m.blk.cell 8) (HB.out.p.cell 2) (HB.out.p.cell 3) _ _ _ _ _ _ _ _ _ _ _ _ _ _ _ _ _ _ _ _ _ _ _ _ _ _ _ _ _ _ _ _ _ _ _ _ _ _ _ _ _ _ _ _ _ _ _ _ _ _ _ _ _ _ _ _ _ _ _ _ _ _ _ _ _ _ _ _ _ _ _ _ _ _ _ _ _ _ _ _ _ _ _ _ _ _ _ _ _ _ _ _ _ _ _ _ _ _ _ _ _ _ _ _ _ _ _ _ _ _ _ _ _ _ _ _ _ _ _ _ _ _ _ _ _ _ _ _ _ _ ?_
  · exact C.out.pt (d := e) (.inl rfl)
  · exact fun u hu => C.out.S.pt_ok (.inl rfl) (C.out.S.up.sub u (List.mem_reverse.2 hu))
  · have := C.out.S.up.xs; rw [List.pairwise_reverse] at this; exact this
  · exact fun u hu => C.out.S.lt C.out.hl u (C.out.S.up.sub u (List.mem_reverse.2 hu))
  · have := C.out.S.n1; omega
  intro v1' y97 y98 y99 y100 y101 y102 y103 y104 y105 y106 y107 y108 y109 y110 y111 y112 w6 L6
  have HD := Lib.hid (HB.out.round1 C.out.H L6)
  clear L6 HB
  generalize w6.setCell _ _ = w2 at *
  go_wp2_with fail
  rw [rounds_succ]
  go_wp2_with fail
  exact HKK.out v0' v1' _ _ _ _ _ _ _ _ _ _ _ _ _ _ _ _ _ _ _ _ _ _ HD
end Go.Proofs.Ytanhhgifcolfaaa
