/-
  (*hull.Fit).Add: whole.
-/
import Derived.Test.YtanhhgifcolfaaaHuAddL
import Derived.Test.YtanhhgifcolfaaaHuAddT
import Derived.Test.YtanhhgifcolfaaaHuAddS
import Derived.Test.YtanhhgifcolfaaaHuAddU
namespace Go.Proofs.Ytanhhgifcolfaaa
open Go.RowKit
set_option linter.unusedVariables false
set_option linter.unusedSimpArgs false

noncomputable def addB : Code := Try.f17.body.getD .skip
noncomputable def addA1 : Code := cFst (cSnd addB)
noncomputable def addA3 : Code := cFst (cSnd (cSnd addB))
noncomputable def addA4 : Code := cFst (cSnd (cSnd (cSnd addB)))
noncomputable def addA5 : Code := cFst addRest
set_option maxHeartbeats 4000000 in
set_option maxRecDepth 10000 in
theorem add_a1 {W : World} {b : Nat} {e : Int} {F : Fit} {n : Nat} {last : Int} {v0 v1 : Value} {c0 c1 : List Pt} {key : Int} (C : Hid (AC W b e F n last v0 v1 c0 c1 key)) (u2 u3 u6 u7 u8 u9 u10 u11 u12 u13 u14 u15 u16 u17 u18 u19 u20 u21 u22 u23 u24 u25 u26 u27 u28 u29 u30 u31 u32 u33 u34 u35 u36 u37 u38 u39 u40 u41 u42 u43 u44 u45 u46 u47 u48 u49 u50 u51 u52 u53 u54 u55 u56 u57 u58 u59 u60 u61 u62 u63 u64 u65 u66 u67 u68 u69 u70 u71 u72 u73 u74 u75 u76 u77 u78 u79 u80 u81 u82 u83 u84 u85 u86 u87 u88 u89 u90 u91 u92 u93 u94 u95 u96 u97 u98 u99 u100 u101 u102 u103 u104 u105 u106 u107 u108 u109 u110 u111 u112 u113 u114 u115 u116 u117 u118 u119 u120 u121 u122 u123 u124 u125 u126 u127 u128 u129 u130 u131 u132 : Value) {K : Act → World → Prop} {Q : Exit → Act → World → Prop}
    (hK : ∀ (x13 x14 x15 x16 x17 x18 x19 x20 x21 x22 x23 x24 x25 : Value), K ⟨#[.pointer (some ⟨b, 0, none⟩), .int .u64 key, u2, u3, .bool false, .int .i64 0, u6, u7, u8, u9, u10, u11, u12, x13, x14, x15, x16, x17, x18, x19, x20, x21, x22, x23, x24, x25, u26, u27, u28, u29, u30, u31, u32, u33, u34, u35, u36, u37, u38, u39, u40, u41, u42, u43, u44, u45, u46, u47, u48, u49, u50, u51, u52, u53, u54, u55, u56, u57, u58, u59, u60, u61, u62, u63, u64, u65, u66, u67, u68, u69, u70, u71, u72, u73, u74, u75, u76, u77, u78, u79, u80, u81, u82, u83, u84, u85, u86, u87, u88, u89, u90, u91, u92, u93, u94, u95, u96, u97, u98, u99, u100, u101, u102, u103, u104, u105, u106, u107, u108, u109, u110, u111, u112, u113, u114, u115, u116, u117, u118, u119, u120, u121, u122, u123, u124, u125, u126, u127, u128, u129, u130, u131, u132], []⟩ W) :
    Code.wp Try.prog addA1 (Exit.then K Q) ⟨#[.pointer (some ⟨b, 0, none⟩), .int .u64 key, u2, u3, .bool false, .int .i64 0, u6, u7, u8, u9, u10, u11, u12, u13, u14, u15, u16, u17, u18, u19, u20, u21, u22, u23, u24, u25, u26, u27, u28, u29, u30, u31, u32, u33, u34, u35, u36, u37, u38, u39, u40, u41, u42, u43, u44, u45, u46, u47, u48, u49, u50, u51, u52, u53, u54, u55, u56, u57, u58, u59, u60, u61, u62, u63, u64, u65, u66, u67, u68, u69, u70, u71, u72, u73, u74, u75, u76, u77, u78, u79, u80, u81, u82, u83, u84, u85, u86, u87, u88, u89, u90, u91, u92, u93, u94, u95, u96, u97, u98, u99, u100, u101, u102, u103, u104, u105, u106, u107, u108, u109, u110, u111, u112, u113, u114, u115, u116, u117, u118, u119, u120, u121, u122, u123, u124, u125, u126, u127, u128, u129, u130, u131, u132], []⟩ W := by
  conv => arg 2; whnf
  have HKK := Lib.hid hK
  have x1 : W.cell? ⟨b, 1, none⟩ = some (.int .i64 n) := C.out.H.blk.cell 1
  have x2 : W.cell? ⟨b, 2, none⟩ = some (.int .u64 last) := C.out.H.blk.cell 2
  clear hK
  by_cases hz : 0 < n
  · have hg : decide (0 < (n : Int)) = true := by simpa using hz
    have hg2 : decide (key ≤ last) = false := by have := C.out.lt hz; simp; omega
    go_wp2_with fail
    exact HKK.out _ _ _ _ _ _ _ _ _ _ _ _ _
  · have hg : decide (0 < (n : Int)) = false := by simpa using hz
    go_wp2_with fail
    exact HKK.out _ _ _ _ _ _ _ _ _ _ _ _ _
set_option maxHeartbeats 4000000 in
set_option maxRecDepth 10000 in
theorem add_a3 {W : World} {b : Nat} {e : Int} {F : Fit} {n : Nat} {last : Int} {v0 v1 : Value} {c0 c1 : List Pt} {key : Int} (C : Hid (AC W b e F n last v0 v1 c0 c1 key)) (u2 u3 u6 u7 u8 u9 u10 u11 u12 u13 u14 u15 u16 u17 u18 u19 u20 u21 u22 u23 u24 u25 u26 u27 u28 u29 u30 u31 u32 u33 u34 u35 u36 u37 u38 u39 u40 u41 u42 u43 u44 u45 u46 u47 u48 u49 u50 u51 u52 u53 u54 u55 u56 u57 u58 u59 u60 u61 u62 u63 u64 u65 u66 u67 u68 u69 u70 u71 u72 u73 u74 u75 u76 u77 u78 u79 u80 u81 u82 u83 u84 u85 u86 u87 u88 u89 u90 u91 u92 u93 u94 u95 u96 u97 u98 u99 u100 u101 u102 u103 u104 u105 u106 u107 u108 u109 u110 u111 u112 u113 u114 u115 u116 u117 u118 u119 u120 u121 u122 u123 u124 u125 u126 u127 u128 u129 u130 u131 u132 : Value) {K : Act → World → Prop} {Q : Exit → Act → World → Prop}
    (hK : ∀ (x26 x27 x28 x29 x30 x31 x32 x33 x34 x35 x36 x37 x38 x39 x40 x41 x42 x43 x44 x45 x46 x47 x48 : Value) (wx : World), Hid (P4 W b e n last F.low F.top v0 v1 c0 c1 key wx) → K ⟨#[.pointer (some ⟨b, 0, none⟩), .int .u64 key, u2, u3, .bool false, .int .i64 0, .pointer (some ⟨W.heap.size, 0, none⟩), u7, u8, u9, u10, u11, u12, u13, u14, u15, u16, u17, u18, u19, u20, u21, u22, u23, u24, u25, x26, x27, x28, x29, x30, x31, x32, x33, x34, x35, x36, x37, x38, x39, x40, x41, x42, x43, x44, x45, x46, x47, x48, u49, u50, u51, u52, u53, u54, u55, u56, u57, u58, u59, u60, u61, u62, u63, u64, u65, u66, u67, u68, u69, u70, u71, u72, u73, u74, u75, u76, u77, u78, u79, u80, u81, u82, u83, u84, u85, u86, u87, u88, u89, u90, u91, u92, u93, u94, u95, u96, u97, u98, u99, u100, u101, u102, u103, u104, u105, u106, u107, u108, u109, u110, u111, u112, u113, u114, u115, u116, u117, u118, u119, u120, u121, u122, u123, u124, u125, u126, u127, u128, u129, u130, u131, u132], []⟩ wx) :
    Code.wp Try.prog addA3 (Exit.then K Q) ⟨#[.pointer (some ⟨b, 0, none⟩), .int .u64 key, u2, u3, .bool false, .int .i64 0, u6, u7, u8, u9, u10, u11, u12, u13, u14, u15, u16, u17, u18, u19, u20, u21, u22, u23, u24, u25, u26, u27, u28, u29, u30, u31, u32, u33, u34, u35, u36, u37, u38, u39, u40, u41, u42, u43, u44, u45, u46, u47, u48, u49, u50, u51, u52, u53, u54, u55, u56, u57, u58, u59, u60, u61, u62, u63, u64, u65, u66, u67, u68, u69, u70, u71, u72, u73, u74, u75, u76, u77, u78, u79, u80, u81, u82, u83, u84, u85, u86, u87, u88, u89, u90, u91, u92, u93, u94, u95, u96, u97, u98, u99, u100, u101, u102, u103, u104, u105, u106, u107, u108, u109, u110, u111, u112, u113, u114, u115, u116, u117, u118, u119, u120, u121, u122, u123, u124, u125, u126, u127, u128, u129, u130, u131, u132], []⟩ W := by
  conv => arg 2; whnf
  have HKK := Lib.hid hK
  have he0 := C.out.S.e0
  have he1 := C.out.S.e1
  have hb := C.out.big
  have a1 : IntKind.i64.wrap ((n : Int) - e) = (n : Int) - e := IntWalk.i64_in _ (by omega)
  have a2 : IntKind.i64.wrap ((n : Int) + e) = (n : Int) + e := IntWalk.i64_in _ (by omega)
  have H0 : Hid (FitM W.drew b e n last F.low F.top v0 v1 c0 c1) := Lib.hid (C.out.H.below (Below.refl _ _).drew)
  have H1 : ∀ cs, Hid (FitM (W.alloc (.cells cs 71)).drew b e n last F.low F.top v0 v1 c0 c1) := fun cs => Lib.hid (C.out.H.below (below_new (Below.refl _ _) _).drew)
  clear hK
  go_region_held3 (fun w' => FitM w' b e n last F.low F.top v0 v1 c0 c1 ∧ w'.cell? ⟨b, 0, none⟩ = some (.int .i64 e) ∧ w'.cell? ⟨b, 1, none⟩ = some (.int .i64 n))
    (first | exact ⟨H0.out, H0.out.blk.cell 0, H0.out.blk.cell 1⟩ | exact ⟨(H1 _).out, (H1 _).out.blk.cell 0, (H1 _).out.blk.cell 1⟩) (fail)
  all_goals go_wp2_with fail
  have M := C.out.H.below (below_new (Below.refl _ _) (.cells #[.int .u64 key, .int .i64 (n - e), .int .u64 key, .int .i64 (n + e)] 71))
  exact HKK.out _ _ _ _ _ _ _ _ _ _ _ _ _ _ _ _ _ _ _ _ _ _ _ _ (Lib.hid ⟨⟨M.blk.drew, M.r0.drew, M.r1.drew⟩, (Blk.new _ _ _).drew, (below_new (Below.refl _ _) _).drew⟩)
set_option maxHeartbeats 4000000 in
set_option maxRecDepth 10000 in
theorem add_a4 {W : World} {b : Nat} {e : Int} {F : Fit} {n : Nat} {last : Int} {v0 v1 : Value} {c0 c1 : List Pt} {key : Int} (C : Hid (AC W b e F n last v0 v1 c0 c1 key)) {wc : World} (C1 : Hid (P4 W b e n last F.low F.top v0 v1 c0 c1 key wc)) (u2 u3 u7 u8 u9 u10 u11 u12 u13 u14 u15 u16 u17 u18 u19 u20 u21 u22 u23 u24 u25 u26 u27 u28 u29 u30 u31 u32 u33 u34 u35 u36 u37 u38 u39 u40 u41 u42 u43 u44 u45 u46 u47 u48 u49 u50 u51 u52 u53 u54 u55 u56 u57 u58 u59 u60 u61 u62 u63 u64 u65 u66 u67 u68 u69 u70 u71 u72 u73 u74 u75 u76 u77 u78 u79 u80 u81 u82 u83 u84 u85 u86 u87 u88 u89 u90 u91 u92 u93 u94 u95 u96 u97 u98 u99 u100 u101 u102 u103 u104 u105 u106 u107 u108 u109 u110 u111 u112 u113 u114 u115 u116 u117 u118 u119 u120 u121 u122 u123 u124 u125 u126 u127 u128 u129 u130 u131 u132 : Value) {K : Act → World → Prop} {Q : Exit → Act → World → Prop}
    (hK : ∀ (g7 g8 : Nat) (x49 x50 x51 x52 x53 x54 x55 x56 : Value) (wx : World), Hid (A1 W b e n last F.low F.top v0 v1 c0 c1 key g7 g8 F.low F.top wx) → K ⟨#[.pointer (some ⟨b, 0, none⟩), .int .u64 key, u2, u3, .bool false, .int .i64 0, .pointer (some ⟨W.heap.size, 0, none⟩), .pointer (some ⟨g7, 0, none⟩), .pointer (some ⟨g8, 0, none⟩), u9, u10, u11, u12, u13, u14, u15, u16, u17, u18, u19, u20, u21, u22, u23, u24, u25, u26, u27, u28, u29, u30, u31, u32, u33, u34, u35, u36, u37, u38, u39, u40, u41, u42, u43, u44, u45, u46, u47, u48, x49, x50, x51, x52, x53, x54, x55, x56, u57, u58, u59, u60, u61, u62, u63, u64, u65, u66, u67, u68, u69, u70, u71, u72, u73, u74, u75, u76, u77, u78, u79, u80, u81, u82, u83, u84, u85, u86, u87, u88, u89, u90, u91, u92, u93, u94, u95, u96, u97, u98, u99, u100, u101, u102, u103, u104, u105, u106, u107, u108, u109, u110, u111, u112, u113, u114, u115, u116, u117, u118, u119, u120, u121, u122, u123, u124, u125, u126, u127, u128, u129, u130, u131, u132], []⟩ wx) :
    Code.wp Try.prog addA4 (Exit.then K Q) ⟨#[.pointer (some ⟨b, 0, none⟩), .int .u64 key, u2, u3, .bool false, .int .i64 0, .pointer (some ⟨W.heap.size, 0, none⟩), u7, u8, u9, u10, u11, u12, u13, u14, u15, u16, u17, u18, u19, u20, u21, u22, u23, u24, u25, u26, u27, u28, u29, u30, u31, u32, u33, u34, u35, u36, u37, u38, u39, u40, u41, u42, u43, u44, u45, u46, u47, u48, u49, u50, u51, u52, u53, u54, u55, u56, u57, u58, u59, u60, u61, u62, u63, u64, u65, u66, u67, u68, u69, u70, u71, u72, u73, u74, u75, u76, u77, u78, u79, u80, u81, u82, u83, u84, u85, u86, u87, u88, u89, u90, u91, u92, u93, u94, u95, u96, u97, u98, u99, u100, u101, u102, u103, u104, u105, u106, u107, u108, u109, u110, u111, u112, u113, u114, u115, u116, u117, u118, u119, u120, u121, u122, u123, u124, u125, u126, u127, u128, u129, u130, u131, u132], []⟩ wc := by
  conv => arg 2; whnf
  have HKK := Lib.hid hK
  have hbs := C1.out.bel.size
  have hpl := C1.out.p.lt
  clear hK
  go_region_held3 (fun w' => P4 W b e n last F.low F.top v0 v1 c0 c1 key w' ∧ w'.cell? ⟨b, 3, none⟩ = some (.int .u64 F.low.1) ∧ w'.cell? ⟨b, 4, none⟩ = some (.int .u64 F.low.2) ∧ w'.cell? ⟨b, 5, none⟩ = some (.int .u64 F.top.1) ∧ w'.cell? ⟨b, 6, none⟩ = some (.int .u64 F.top.2))
    (first | exact P4.all C1.out.drew | exact P4.all (C1.out.alloc _).drew | exact P4.all ((C1.out.alloc _).alloc _).drew) (fail)
  all_goals go_wp2_with fail
  all_goals first
    | exact HKK.out _ _ _ _ _ _ _ _ _ _ _ (Lib.hid ⟨(((C1.out.alloc _).alloc _).drew).m, (((C1.out.alloc _).alloc _).drew).p, by omega, by omega, by omega, ((Blk.new' _ _ (by simp)).alloc _).drew, (Blk.new' _ _ (by simp)).drew, (((C1.out.alloc _).alloc _).drew).bel⟩)
    | exact HKK.out _ _ _ _ _ _ _ _ _ _ _ (Lib.hid ⟨(((C1.out.alloc _).alloc _).drew).m, (((C1.out.alloc _).alloc _).drew).p, by omega, by omega, by omega, (Blk.new' _ _ (by simp)).drew, ((Blk.new' _ _ (by simp)).alloc _).drew, (((C1.out.alloc _).alloc _).drew).bel⟩)
set_option maxHeartbeats 4000000 in
set_option maxRecDepth 10000 in
theorem add_a5 {W : World} {b : Nat} {e : Int} {F : Fit} {n : Nat} {last : Int} {v0 v1 : Value} {c0 c1 : List Pt} {key : Int} {g7 g8 : Nat} (C : Hid (AC W b e F n last v0 v1 c0 c1 key)) {wc : World} (HA : Hid (A1 W b e n last F.low F.top v0 v1 c0 c1 key g7 g8 F.low F.top wc)) (u2 u3 u9 u10 u11 u12 u13 u14 u15 u16 u17 u18 u19 u20 u21 u22 u23 u24 u25 u26 u27 u28 u29 u30 u31 u32 u33 u34 u35 u36 u37 u38 u39 u40 u41 u42 u43 u44 u45 u46 u47 u48 u49 u50 u51 u52 u53 u54 u55 u56 u57 u58 u59 u60 u61 u62 u63 u64 u65 u66 u67 u68 u69 u70 u71 u72 u73 u74 u75 u76 u77 u78 u79 u80 u81 u82 u83 u84 u85 u86 u87 u88 u89 u90 u91 u92 u93 u94 u95 u96 u97 u98 u99 u100 u101 u102 u103 u104 u105 u106 u107 u108 u109 u110 u111 u112 u113 u114 u115 u116 u117 u118 u119 u120 u121 u122 u123 u124 u125 u126 u127 u128 u129 u130 u131 u132 : Value) {K : Act → World → Prop}
    (hK : ¬ ltF (F.topWith e key) (F.lowWith e key) → ∀ (x9 x10 x11 x57 x58 x59 x60 x61 x62 x63 x64 x65 x66 x67 x68 x69 x70 x71 x72 x73 x74 x75 x76 x77 x78 x79 x80 x81 x82 x83 x84 x85 x86 x87 x88 x89 x90 x91 x92 x93 : Value) (wx : World), Hid (A1 W b e n last F.low F.top v0 v1 c0 c1 key g7 g8 (F.lowWith e key) (F.topWith e key) wx) → K ⟨#[.pointer (some ⟨b, 0, none⟩), .int .u64 key, u2, u3, .bool false, .int .i64 0, .pointer (some ⟨W.heap.size, 0, none⟩), .pointer (some ⟨g7, 0, none⟩), .pointer (some ⟨g8, 0, none⟩), x9, x10, x11, u12, u13, u14, u15, u16, u17, u18, u19, u20, u21, u22, u23, u24, u25, u26, u27, u28, u29, u30, u31, u32, u33, u34, u35, u36, u37, u38, u39, u40, u41, u42, u43, u44, u45, u46, u47, u48, u49, u50, u51, u52, u53, u54, u55, u56, x57, x58, x59, x60, x61, x62, x63, x64, x65, x66, x67, x68, x69, x70, x71, x72, x73, x74, x75, x76, x77, x78, x79, x80, x81, x82, x83, x84, x85, x86, x87, x88, x89, x90, x91, x92, x93, u94, u95, u96, u97, u98, u99, u100, u101, u102, u103, u104, u105, u106, u107, u108, u109, u110, u111, u112, u113, u114, u115, u116, u117, u118, u119, u120, u121, u122, u123, u124, u125, u126, u127, u128, u129, u130, u131, u132], []⟩ wx) :
    Code.wp Try.prog addA5 (Exit.then K (bodyPost Try.prog Try.f17 (AddPost W b e F v0 v1 key))) ⟨#[.pointer (some ⟨b, 0, none⟩), .int .u64 key, u2, u3, .bool false, .int .i64 0, .pointer (some ⟨W.heap.size, 0, none⟩), .pointer (some ⟨g7, 0, none⟩), .pointer (some ⟨g8, 0, none⟩), u9, u10, u11, u12, u13, u14, u15, u16, u17, u18, u19, u20, u21, u22, u23, u24, u25, u26, u27, u28, u29, u30, u31, u32, u33, u34, u35, u36, u37, u38, u39, u40, u41, u42, u43, u44, u45, u46, u47, u48, u49, u50, u51, u52, u53, u54, u55, u56, u57, u58, u59, u60, u61, u62, u63, u64, u65, u66, u67, u68, u69, u70, u71, u72, u73, u74, u75, u76, u77, u78, u79, u80, u81, u82, u83, u84, u85, u86, u87, u88, u89, u90, u91, u92, u93, u94, u95, u96, u97, u98, u99, u100, u101, u102, u103, u104, u105, u106, u107, u108, u109, u110, u111, u112, u113, u114, u115, u116, u117, u118, u119, u120, u121, u122, u123, u124, u125, u126, u127, u128, u129, u130, u131, u132], []⟩ wc := by
  conv => arg 2; whnf
  have HKK := Lib.hid hK
  have k1 : wc.cell? ⟨b, 1, none⟩ = some (.int .i64 n) := HA.out.m.blk.cell 1
  clear hK
  by_cases hz : 0 < n
  · have hg : decide (0 < (n : Int)) = true := by simpa using hz
    refine wp_seq_k fun K1 h1 => ?_
    have H1 := Lib.hid h1
    clear h1
    go_wp2_with fail
    refine H1.out _ _ ?_
    refine wp_cond_true (by rfl) ?_
    refine wp_seq_k fun K2 h2 => ?_
    refine add_low C hz HA _ _ _ _ _ _ _ _ _ _ _ _ _ _ _ _ _ _ _ _ _ _ _ _ _ _ _ _ _ _ _ _ _ _ _ _ _ _ _ _ _ _ _ _ _ _ _ _ _ _ _ _ _ _ _ _ _ _ _ _ _ _ _ _ _ _ _ _ _ _ _ _ _ _ _ _ _ _ _ _ _ _ _ _ _ _ _ _ _ _ _ _ _ _ _ _ _ _ _ _ _ _ _ _ _ _ _ _ _ _ _ _ _ _ _ _ _ _ _ _ _ _ _ _ _ _ ?_
    intro x9 x10 x62 x63 x64 x65 x66 x67 x68 x69 x70 x71 x72 x73 x74 x75 x76 x77 x78 x79 w2 H2
    refine h2 _ _ ?_
    refine wp_seq_k fun K3 h3 => ?_
    refine wp_seq_k fun K4 h4 => ?_
    refine add_top1 C hz H2 _ _ _ _ _ _ _ _ _ _ _ _ _ _ _ _ _ _ _ _ _ _ _ _ _ _ _ _ _ _ _ _ _ _ _ _ _ _ _ _ _ _ _ _ _ _ _ _ _ _ _ _ _ _ _ _ _ _ _ _ _ _ _ _ _ _ _ _ _ _ _ _ _ _ _ _ _ _ _ _ _ _ _ _ _ _ _ _ _ _ _ _ _ _ _ _ _ _ _ _ _ _ _ _ _ _ _ _ _ _ _ _ _ _ _ _ _ _ _ _ _ _ _ _ _ _ ?_
    intro g11 sl x11 x80 x81 x82 x83 x84 x85 x86 w3 e11 H3
    subst e11
    refine h4 _ _ ?_
    refine add_top2 C H3 _ _ _ _ _ _ _ _ _ _ _ _ _ _ _ _ _ _ _ _ _ _ _ _ _ _ _ _ _ _ _ _ _ _ _ _ _ _ _ _ _ _ _ _ _ _ _ _ _ _ _ _ _ _ _ _ _ _ _ _ _ _ _ _ _ _ _ _ _ _ _ _ _ _ _ _ _ _ _ _ _ _ _ _ _ _ _ _ _ _ _ _ _ _ _ _ _ _ _ _ _ _ _ _ _ _ _ _ _ _ _ _ _ _ _ _ _ _ _ _ _ _ _ _ _ ?_
    intro x87 x88 x89 x90 w4 H4
    refine h3 _ _ ?_
    refine add_end C H4 _ _ _ _ _ _ _ _ _ _ _ _ _ _ _ _ _ _ _ _ _ _ _ _ _ _ _ _ _ _ _ _ _ _ _ _ _ _ _ _ _ _ _ _ _ _ _ _ _ _ _ _ _ _ _ _ _ _ _ _ _ _ _ _ _ _ _ _ _ _ _ _ _ _ _ _ _ _ _ _ _ _ _ _ _ _ _ _ _ _ _ _ _ _ _ _ _ _ _ _ _ _ _ _ _ _ _ _ _ _ _ _ _ _ _ _ _ _ _ _ _ _ _ _ _ _ ?_
    intro hlt x91 x92 x93 w5 H5
    exact HKK.out hlt _ _ _ _ _ _ _ _ _ _ _ _ _ _ _ _ _ _ _ _ _ _ _ _ _ _ _ _ _ _ _ _ _ _ _ _ _ _ _ _ w5 H5
  · have hg : decide (0 < (n : Int)) = false := by simpa using hz
    have HZ : Hid (F.low = F.lowWith e key ∧ F.top = F.topWith e key) := by
      have h0 : F.keys.length = 0 := by have := C.out.hn; omega
      exact Lib.hid ⟨by rw [Fit.lowWith, h0]; rfl, by rw [Fit.topWith, h0]; rfl⟩
    have HW : Hid (¬ ltF (F.topWith e key) (F.lowWith e key)) := Lib.hid (by rw [← HZ.out.1, ← HZ.out.2]; exact C.out.S.wide)
    have HB : Hid (A1 W b e n last F.low F.top v0 v1 c0 c1 key g7 g8 (F.lowWith e key) (F.topWith e key) wc) := Lib.hid (by rw [← HZ.out.1, ← HZ.out.2]; exact HA.out)
    go_wp2_with fail
    exact HKK.out HW.out _ _ _ _ _ _ _ _ _ _ _ _ _ _ _ _ _ _ _ _ _ _ _ _ _ _ _ _ _ _ _ _ _ _ _ _ _ _ _ _ wc HB
set_option maxHeartbeats 4000000 in
set_option maxRecDepth 10000 in
theorem add_ac {W : World} {b : Nat} {e : Int} {F : Fit} {n : Nat} {last : Int} {v0 v1 : Value} {c0 c1 : List Pt} {key : Int} (C : AC W b e F n last v0 v1 c0 c1 key) : Calls Try.prog 17 #[.pointer (some ⟨b, 0, none⟩), .int .u64 key] W (AddPost W b e F v0 v1 key) := by
  have HC := Lib.hid C
  clear C
  go_enter Try.func17, Try.ntmps17
  refine wp_seq_k fun K0 h0 => ?_
  have H0 := Lib.hid h0
  clear h0
  go_wp2_with fail
  refine H0.out _ _ ?_
  refine wp_seq_k fun K1 h1 => ?_
  refine add_a1 HC _ _ _ _ _ _ _ _ _ _ _ _ _ _ _ _ _ _ _ _ _ _ _ _ _ _ _ _ _ _ _ _ _ _ _ _ _ _ _ _ _ _ _ _ _ _ _ _ _ _ _ _ _ _ _ _ _ _ _ _ _ _ _ _ _ _ _ _ _ _ _ _ _ _ _ _ _ _ _ _ _ _ _ _ _ _ _ _ _ _ _ _ _ _ _ _ _ _ _ _ _ _ _ _ _ _ _ _ _ _ _ _ _ _ _ _ _ _ _ _ _ _ _ _ _ _ _ _ _ ?_
  intro x13 x14 x15 x16 x17 x18 x19 x20 x21 x22 x23 x24 x25
  refine h1 _ _ ?_
  refine wp_seq_k fun K3 h3 => ?_
  refine add_a3 HC _ _ _ _ _ _ _ _ _ _ _ _ _ _ _ _ _ _ _ _ _ _ _ _ _ _ _ _ _ _ _ _ _ _ _ _ _ _ _ _ _ _ _ _ _ _ _ _ _ _ _ _ _ _ _ _ _ _ _ _ _ _ _ _ _ _ _ _ _ _ _ _ _ _ _ _ _ _ _ _ _ _ _ _ _ _ _ _ _ _ _ _ _ _ _ _ _ _ _ _ _ _ _ _ _ _ _ _ _ _ _ _ _ _ _ _ _ _ _ _ _ _ _ _ _ _ _ _ _ ?_
  intro x26 x27 x28 x29 x30 x31 x32 x33 x34 x35 x36 x37 x38 x39 x40 x41 x42 x43 x44 x45 x46 x47 x48 w3 H3
  refine h3 _ _ ?_
  refine wp_seq_k fun K4 h4 => ?_
  refine add_a4 HC H3 _ _ _ _ _ _ _ _ _ _ _ _ _ _ _ _ _ _ _ _ _ _ _ _ _ _ _ _ _ _ _ _ _ _ _ _ _ _ _ _ _ _ _ _ _ _ _ _ _ _ _ _ _ _ _ _ _ _ _ _ _ _ _ _ _ _ _ _ _ _ _ _ _ _ _ _ _ _ _ _ _ _ _ _ _ _ _ _ _ _ _ _ _ _ _ _ _ _ _ _ _ _ _ _ _ _ _ _ _ _ _ _ _ _ _ _ _ _ _ _ _ _ _ _ _ _ _ _ ?_
  intro g7 g8 x49 x50 x51 x52 x53 x54 x55 x56 w4 H4
  refine h4 _ _ ?_
  refine wp_seq_k fun K5 h5 => ?_
  refine add_a5 HC H4 _ _ _ _ _ _ _ _ _ _ _ _ _ _ _ _ _ _ _ _ _ _ _ _ _ _ _ _ _ _ _ _ _ _ _ _ _ _ _ _ _ _ _ _ _ _ _ _ _ _ _ _ _ _ _ _ _ _ _ _ _ _ _ _ _ _ _ _ _ _ _ _ _ _ _ _ _ _ _ _ _ _ _ _ _ _ _ _ _ _ _ _ _ _ _ _ _ _ _ _ _ _ _ _ _ _ _ _ _ _ _ _ _ _ _ _ _ _ _ _ _ _ _ _ _ _ ?_
  intro hlt x9 x10 x11 x57 x58 x59 x60 x61 x62 x63 x64 x65 x66 x67 x68 x69 x70 x71 x72 x73 x74 x75 x76 x77 x78 x79 x80 x81 x82 x83 x84 x85 x86 x87 x88 x89 x90 x91 x92 x93 w5 H5
  refine h5 _ _ ?_
  refine wp_seq_k fun K6 h6 => ?_
  refine add_loop HC H5 _ _ _ _ _ _ _ _ _ _ _ _ _ _ _ _ _ _ _ _ _ _ _ _ _ _ _ _ _ _ _ _ _ _ _ _ _ _ _ _ _ _ _ _ _ _ _ _ _ _ _ _ _ _ _ _ _ _ _ _ _ _ _ _ _ _ _ _ _ _ _ _ _ _ _ _ _ _ _ _ _ _ _ _ _ _ _ _ _ _ _ _ _ _ _ _ _ _ _ _ _ _ _ _ _ _ _ _ _ _ _ _ _ _ _ _ _ _ _ _ _ _ _ _ _ _ ?_
  intro v0' v1' y12 y94 y95 y96 y97 y98 y99 y100 y101 y102 y103 y104 y105 y106 y107 y108 y109 y110 y111 y112 y113 w6 H6
  refine h6 _ _ ?_
  exact add_last HC H6 hlt _ _ _ _ _ _ _ _ _ _ _ _ _ _ _ _ _ _ _ _ _ _ _ _ _ _ _ _ _ _ _ _ _ _ _ _ _ _ _ _ _ _ _ _ _ _ _ _ _ _ _ _ _ _ _ _ _ _ _ _ _ _ _ _ _ _ _ _ _ _ _ _ _ _ _ _ _ _ _ _ _ _ _ _ _ _ _ _ _ _ _ _ _ _ _ _ _ _ _ _ _ _ _ _ _ _ _ _ _ _ _ _ _ _ _ _ _ _ _ _ _ _ _ _ _ _
/-- (*Fit).Add, whole. -/
theorem hull_Add (b : Nat) (e : Int) (F : Fit) (v0 v1 : Value) (key : Int) (hk : u64ok key) (big : F.keys.length < 17592186044416) (W : World) (H : FitV W b e F v0 v1) :
    Calls Try.prog 17 #[.pointer (some ⟨b, 0, none⟩), .int .u64 key] W (AddPost W b e F v0 v1 key) := by
  obtain ⟨last, c0, c1, M, S, hl, off⟩ := H
  by_cases ht : F.late key = true
  · have e1 : F.add e key = ((false, 40), F) := by rw [Fit.add, if_pos ht]
    unfold Fit.late at ht
    cases hg : F.keys.getLast? with
    | none => rw [hg] at ht; simp at ht
    | some l =>
      rw [hg] at ht
      have h1 : key ≤ l := by simpa using ht
      have h2 := hl l hg
      have h3 : 0 < F.keys.length := by
        cases hK : F.keys with
        | nil => rw [hK] at hg; simp at hg
        | cons a r => simp
      refine (add_late b e F.keys.length last F.low F.top v0 v1 c0 c1 key (by omega) (by omega) W M).mono ?_
      rintro e' w' ⟨rfl, rfl⟩
      refine ⟨by rw [e1], v0, v1, ?_, Chg.refl _ _, fun g hg => .inl hg, fun g hg => .inl hg⟩
      rw [e1]; exact ⟨last, c0, c1, M, S, hl, off⟩
  · exact add_ac (n := F.keys.length) ⟨hk, S, rfl, by simpa using ht, big, M, off, hl⟩
end Go.Proofs.Ytanhhgifcolfaaa
