/-
  (*hull.Fit).Add: the greatest slope's candidate.
-/
import Derived.Test.YtanhhgifcolfaaaHuAddP
namespace Go.Proofs.Ytanhhgifcolfaaa
open Go.RowKit
set_option linter.unusedVariables false
set_option linter.unusedSimpArgs false

/-- What the search on the lower chain gives for the greatest slope. -/
structure Tp (F : Fit) (e : Int) (key : Int) (s : Fr) : Prop where
  fr : Fr64 s
  ok : OkF s
  pos : s.2 ≠ 0
  top : (if ltF s F.top then s else F.top) = F.topWith e key
theorem AC.downH {W : World} {b : Nat} {e : Int} {F : Fit} {n : Nat} {last : Int} {v0 v1 : Value} {c0 c1 : List Pt} {key : Int} (C : AC W b e F n last v0 v1 c0 c1 key) (hz : 0 < n) (w : World) (M : FitM w b e n last F.low F.top v0 v1 c0 c1) :
    Calls Try.prog 35 #[.pointer (some ⟨b, 0, none⟩), .int .i64 0, .agg #[.int .u64 key, .int .i64 (n + e)]] w fun e' w' =>
      ∃ (x y : Int) (s : Fr), e' = .returned (.agg #[.int .u64 x, .int .i64 y]) ∧ Below w.heap.size w w' ∧ (∀ w, Calls Try.prog 36 #[.agg #[.int .u64 x, .int .i64 y], .agg #[.int .u64 key, .int .i64 (n + e)]] w fun e' w' => e' = .returned (.agg #[.int .u64 s.1, .int .u64 s.2]) ∧ Below w.heap.size w w') ∧ Hid (Tp F e key s) :=
  (C.down w M hz).mono fun e' w' ⟨⟨i, hi, he, A⟩, hb⟩ => by
    obtain ⟨hm, ht⟩ := C.top_at hi A
    obtain ⟨_, L1, L2, L3⟩ := C.top_between hi hm w
    exact ⟨_, _, _, he, hb, fun w => (C.top_between hi hm w).1, Lib.hid ⟨L1, L2, L3, ht⟩⟩
theorem A1.farNew {W w wc : World} {b : Nat} {e n last : Int} {low top : Fr} {v0 v1 : Value} {c0 c1 : List Pt} {key : Int} {g7 g8 : Nat} {l t l' t' : Fr} (h : A1 W b e n last low top v0 v1 c0 c1 key g7 g8 l t w) (HW : FitM W b e n last low top v0 v1 c0 c1)
    (h0 : A1 W b e n last low top v0 v1 c0 c1 key g7 g8 l' t' wc) {g : Nat} (hg : wc.heap.size ≤ g) (x y : Value) : A1 W b e n last low top v0 v1 c0 c1 key g7 g8 l t ((w.setCell ⟨g, 0, none⟩ x).setCell ⟨g, 1, none⟩ y) := by
  have k1 := h0.bel.size
  have k2 := h0.l.lt
  have k3 := h0.t.lt
  have k4 := h0.p.lt
  exact ⟨h.m.chg (((Chg.refl (fun k => k = g) _).setCell (fun _ => rfl) _).setCell (fun _ => rfl) _) (by have := HW.blk.lt; omega) (fun g hg => by have := HW.r0.lt hg; omega) (fun g hg => by have := HW.r1.lt hg; omega),
    h.p.far2 (by omega), h.ne, h.lo7, h.lo8, h.l.far2 (by omega), h.t.far2 (by omega), below_set2 h.bel (by omega)⟩
theorem A1.topAll {W w : World} {b : Nat} {e n last : Int} {low top : Fr} {v0 v1 : Value} {c0 c1 : List Pt} {key : Int} {g7 g8 : Nat} {l t : Fr} (h : A1 W b e n last low top v0 v1 c0 c1 key g7 g8 l t w) :
    A1 W b e n last low top v0 v1 c0 c1 key g7 g8 l t w ∧ w.cell? ⟨W.heap.size, 2, none⟩ = some (.int .u64 key) ∧ w.cell? ⟨W.heap.size, 3, none⟩ = some (.int .i64 (n + e)) := ⟨h, h.p.cell 2, h.p.cell 3⟩
set_option maxHeartbeats 4000000 in
set_option maxRecDepth 10000 in
theorem add_top1 {W : World} {b : Nat} {e : Int} {F : Fit} {n : Nat} {last : Int} {v0 v1 : Value} {c0 c1 : List Pt} {key : Int} {g7 g8 : Nat} (C : Hid (AC W b e F n last v0 v1 c0 c1 key)) (hz : 0 < n) {l : Fr} {wc : World} (HA : Hid (A1 W b e n last F.low F.top v0 v1 c0 c1 key g7 g8 l F.top wc)) (u2 u3 u9 u10 u11 u12 u13 u14 u15 u16 u17 u18 u19 u20 u21 u22 u23 u24 u25 u26 u27 u28 u29 u30 u31 u32 u33 u34 u35 u36 u37 u38 u39 u40 u41 u42 u43 u44 u45 u46 u47 u48 u49 u50 u51 u52 u53 u54 u55 u56 u57 u58 u59 u60 u61 u62 u63 u64 u65 u66 u67 u68 u69 u70 u71 u72 u73 u74 u75 u76 u77 u78 u79 u80 u81 u82 u83 u84 u85 u86 u87 u88 u89 u90 u91 u92 u93 u94 u95 u96 u97 u98 u99 u100 u101 u102 u103 u104 u105 u106 u107 u108 u109 u110 u111 u112 u113 u114 u115 u116 u117 u118 u119 u120 u121 u122 u123 u124 u125 u126 u127 u128 u129 u130 u131 u132 : Value) {K : Act → World → Prop} {Q : Exit → Act → World → Prop}
    (hK : ∀ (g11 : Nat) (s : Fr) (x11 x80 x81 x82 x83 x84 x85 x86 : Value) (wx : World), x11 = .pointer (some ⟨g11, 0, none⟩) → Hid (A1 W b e n last F.low F.top v0 v1 c0 c1 key g7 g8 l F.top wx ∧ Blk wx g11 39 #[.int .u64 s.1, .int .u64 s.2] ∧ Tp F e key s) → K ⟨#[.pointer (some ⟨b, 0, none⟩), .int .u64 key, u2, u3, .bool false, .int .i64 0, .pointer (some ⟨W.heap.size, 0, none⟩), .pointer (some ⟨g7, 0, none⟩), .pointer (some ⟨g8, 0, none⟩), u9, u10, x11, u12, u13, u14, u15, u16, u17, u18, u19, u20, u21, u22, u23, u24, u25, u26, u27, u28, u29, u30, u31, u32, u33, u34, u35, u36, u37, u38, u39, u40, u41, u42, u43, u44, u45, u46, u47, u48, u49, u50, u51, u52, u53, u54, u55, u56, u57, u58, u59, u60, u61, u62, u63, u64, u65, u66, u67, u68, u69, u70, u71, u72, u73, u74, u75, u76, u77, u78, u79, x80, x81, x82, x83, x84, x85, x86, u87, u88, u89, u90, u91, u92, u93, u94, u95, u96, u97, u98, u99, u100, u101, u102, u103, u104, u105, u106, u107, u108, u109, u110, u111, u112, u113, u114, u115, u116, u117, u118, u119, u120, u121, u122, u123, u124, u125, u126, u127, u128, u129, u130, u131, u132], []⟩ wx) :
    Code.wp Try.prog addTop1 (Exit.then K Q) ⟨#[.pointer (some ⟨b, 0, none⟩), .int .u64 key, u2, u3, .bool false, .int .i64 0, .pointer (some ⟨W.heap.size, 0, none⟩), .pointer (some ⟨g7, 0, none⟩), .pointer (some ⟨g8, 0, none⟩), u9, u10, u11, u12, u13, u14, u15, u16, u17, u18, u19, u20, u21, u22, u23, u24, u25, u26, u27, u28, u29, u30, u31, u32, u33, u34, u35, u36, u37, u38, u39, u40, u41, u42, u43, u44, u45, u46, u47, u48, u49, u50, u51, u52, u53, u54, u55, u56, u57, u58, u59, u60, u61, u62, u63, u64, u65, u66, u67, u68, u69, u70, u71, u72, u73, u74, u75, u76, u77, u78, u79, u80, u81, u82, u83, u84, u85, u86, u87, u88, u89, u90, u91, u92, u93, u94, u95, u96, u97, u98, u99, u100, u101, u102, u103, u104, u105, u106, u107, u108, u109, u110, u111, u112, u113, u114, u115, u116, u117, u118, u119, u120, u121, u122, u123, u124, u125, u126, u127, u128, u129, u130, u131, u132], []⟩ wc := by
  conv => arg 2; whnf
  have HKK := Lib.hid hK
  have HA0 : Hid (A1 W b e n last F.low F.top v0 v1 c0 c1 key g7 g8 l F.top wc.drew) := Lib.hid HA.out.drew
  have BN := (Blk.new wc 39 #[.int .u64 0, .int .u64 0]).drew
  clear hK
  go_region_held3 (fun w' => A1 W b e n last F.low F.top v0 v1 c0 c1 key g7 g8 l F.top w' ∧ w'.cell? ⟨W.heap.size, 2, none⟩ = some (.int .u64 key) ∧ w'.cell? ⟨W.heap.size, 3, none⟩ = some (.int .i64 (n + e)))
    (first | exact HA0.out.topAll | exact ((‹A1 _ _ _ _ _ _ _ _ _ _ _ _ _ _ _ _ _ ∧ _›).1.below hb).topAll | exact A1.topAll (A1.alloc (And.left (by assumption)) _) | exact A1.topAll (A1.alloc A6.out _) | exact A1.topAll (A1.farNew (And.left (by assumption)) C.out.H HA.out (by omega) _ _) | exact A1.topAll (A1.farNew (And.left (by assumption)) C.out.H HA.out (show wc.heap.size ≤ _ from hb0.size) _ _))
    (first | (go_at_call 35; refine (C.out.downH hz _ ?_).mono ?_; (exact HA0.out.m); rintro e5 w5 ⟨px, py, s, rfl, hb, BT, HT⟩; have hb0 := hb) | (go_at_call 35; refine (C.out.downH hz _ ?_).mono ?_; (exact (HA0.out.alloc _).m); rintro e5 w5 ⟨px, py, s, rfl, hb, BT, HT⟩; have hb0 := hb; have YB := BN.below hb; obtain ⟨z0, z1, z2, z3⟩ := YB.cells2) | (go_at_call 36; have YC := YB; (with_reducible refine (BT w5).mono ?_); rintro e6 w6 ⟨rfl, hb⟩; have A6 := Lib.hid ((‹A1 _ _ _ _ _ _ _ _ _ _ _ _ _ _ _ _ _ ∧ _›).1.below hb); have Y6 := YC.below hb; obtain ⟨z4, z5, z6, z7⟩ := Y6.cells2) | (go_at_call 36; (with_reducible refine (BT w5).mono ?_); rintro e6 w6 ⟨rfl, hb⟩; have A6 := Lib.hid ((‹A1 _ _ _ _ _ _ _ _ _ _ _ _ _ _ _ _ _ ∧ _›).1.below hb)) | (go_at_call 36; (with_reducible refine (BT (w5.alloc _)).mono ?_); rintro e6 w6 ⟨rfl, hb⟩; have A6 := Lib.hid ((‹A1 _ _ _ _ _ _ _ _ _ _ _ _ _ _ _ _ _ ∧ _›).1.below hb); have Y6 := (Blk.new w5 _ _).below hb; obtain ⟨z4, z5, z6, z7⟩ := Y6.cells2))
  all_goals exact HKK.out _ s _ _ _ _ _ _ _ _ _ rfl (Lib.hid ⟨And.left (by assumption), by first | exact Blk.new _ _ _ | exact Y6.set2, HT.out⟩)
set_option maxHeartbeats 4000000 in
set_option maxRecDepth 10000 in
theorem add_top2 {W : World} {b : Nat} {e : Int} {F : Fit} {n : Nat} {last : Int} {v0 v1 : Value} {c0 c1 : List Pt} {key : Int} {g7 g8 : Nat} (C : Hid (AC W b e F n last v0 v1 c0 c1 key)) {l s : Fr} {g11 : Nat} {wc : World} (HA : Hid (A1 W b e n last F.low F.top v0 v1 c0 c1 key g7 g8 l F.top wc ∧ Blk wc g11 39 #[.int .u64 s.1, .int .u64 s.2] ∧ Tp F e key s)) (u2 u3 u9 u10 u12 u13 u14 u15 u16 u17 u18 u19 u20 u21 u22 u23 u24 u25 u26 u27 u28 u29 u30 u31 u32 u33 u34 u35 u36 u37 u38 u39 u40 u41 u42 u43 u44 u45 u46 u47 u48 u49 u50 u51 u52 u53 u54 u55 u56 u57 u58 u59 u60 u61 u62 u63 u64 u65 u66 u67 u68 u69 u70 u71 u72 u73 u74 u75 u76 u77 u78 u79 u80 u81 u82 u83 u84 u85 u86 u87 u88 u89 u90 u91 u92 u93 u94 u95 u96 u97 u98 u99 u100 u101 u102 u103 u104 u105 u106 u107 u108 u109 u110 u111 u112 u113 u114 u115 u116 u117 u118 u119 u120 u121 u122 u123 u124 u125 u126 u127 u128 u129 u130 u131 u132 : Value) {K : Act → World → Prop} {Q : Exit → Act → World → Prop}
    (hK : ∀ (x87 x88 x89 x90 : Value) (wx : World), Hid (A1 W b e n last F.low F.top v0 v1 c0 c1 key g7 g8 l (F.topWith e key) wx) → K ⟨#[.pointer (some ⟨b, 0, none⟩), .int .u64 key, u2, u3, .bool false, .int .i64 0, .pointer (some ⟨W.heap.size, 0, none⟩), .pointer (some ⟨g7, 0, none⟩), .pointer (some ⟨g8, 0, none⟩), u9, u10, .pointer (some ⟨g11, 0, none⟩), u12, u13, u14, u15, u16, u17, u18, u19, u20, u21, u22, u23, u24, u25, u26, u27, u28, u29, u30, u31, u32, u33, u34, u35, u36, u37, u38, u39, u40, u41, u42, u43, u44, u45, u46, u47, u48, u49, u50, u51, u52, u53, u54, u55, u56, u57, u58, u59, u60, u61, u62, u63, u64, u65, u66, u67, u68, u69, u70, u71, u72, u73, u74, u75, u76, u77, u78, u79, u80, u81, u82, u83, u84, u85, u86, x87, x88, x89, x90, u91, u92, u93, u94, u95, u96, u97, u98, u99, u100, u101, u102, u103, u104, u105, u106, u107, u108, u109, u110, u111, u112, u113, u114, u115, u116, u117, u118, u119, u120, u121, u122, u123, u124, u125, u126, u127, u128, u129, u130, u131, u132], []⟩ wx) :
    Code.wp Try.prog addTop2 (Exit.then K Q) ⟨#[.pointer (some ⟨b, 0, none⟩), .int .u64 key, u2, u3, .bool false, .int .i64 0, .pointer (some ⟨W.heap.size, 0, none⟩), .pointer (some ⟨g7, 0, none⟩), .pointer (some ⟨g8, 0, none⟩), u9, u10, .pointer (some ⟨g11, 0, none⟩), u12, u13, u14, u15, u16, u17, u18, u19, u20, u21, u22, u23, u24, u25, u26, u27, u28, u29, u30, u31, u32, u33, u34, u35, u36, u37, u38, u39, u40, u41, u42, u43, u44, u45, u46, u47, u48, u49, u50, u51, u52, u53, u54, u55, u56, u57, u58, u59, u60, u61, u62, u63, u64, u65, u66, u67, u68, u69, u70, u71, u72, u73, u74, u75, u76, u77, u78, u79, u80, u81, u82, u83, u84, u85, u86, u87, u88, u89, u90, u91, u92, u93, u94, u95, u96, u97, u98, u99, u100, u101, u102, u103, u104, u105, u106, u107, u108, u109, u110, u111, u112, u113, u114, u115, u116, u117, u118, u119, u120, u121, u122, u123, u124, u125, u126, u127, u128, u129, u130, u131, u132], []⟩ wc := by
  conv => arg 2; whnf
  have HKK := Lib.hid hK
  have HH := Lib.hid C.out.H
  obtain ⟨k0, k1, _, _⟩ := HA.out.2.1.cells2
  obtain ⟨k2, k3, _, _⟩ := HA.out.1.t.cells2
  have BL := below_any s F.top HA.out.2.2.fr C.out.S.ft (.inl HA.out.2.2.pos) HA.out.2.2.ok C.out.S.ok.top.ok wc
  clear hK
  go_wp2_with fail
  by_cases hlt : ltF s F.top
  · rw [decide_eq_true hlt] at BL
    have HL2 : Hid (s = F.topWith e key) := Lib.hid (by have := HA.out.2.2.top; rwa [if_pos hlt] at this)
    refine BL.mono ?_
    rintro e7 w7 ⟨rfl, hb7⟩
    have A7 := Lib.hid (HA.out.1.below hb7)
    obtain ⟨z0, z1, z2, z3⟩ := (HA.out.2.1.below hb7).cells2
    obtain ⟨y0, y1, y2, y3⟩ := A7.out.t.cells2
    clear hlt BL k0 k1 k2 k3
    go_wp2_with fail
    exact HKK.out _ _ _ _ _ (by rw [← HL2.out]; exact Lib.hid (A7.out.setT HH.out _))
  · rw [decide_eq_false hlt] at BL
    have HL2 : Hid (F.top = F.topWith e key) := Lib.hid (by have := HA.out.2.2.top; rwa [if_neg hlt] at this)
    refine BL.mono ?_
    rintro e7 w7 ⟨rfl, hb7⟩
    have A7 := Lib.hid (HA.out.1.below hb7)
    clear hlt BL k0 k1 k2 k3
    go_wp2_with fail
    exact HKK.out _ _ _ _ _ (by rw [← HL2.out]; exact A7)
set_option maxHeartbeats 4000000 in
set_option maxRecDepth 10000 in
theorem add_end {W : World} {b : Nat} {e : Int} {F : Fit} {n : Nat} {last : Int} {v0 v1 : Value} {c0 c1 : List Pt} {key : Int} {g7 g8 : Nat} (C : Hid (AC W b e F n last v0 v1 c0 c1 key)) {wc : World} (HA : Hid (A1 W b e n last F.low F.top v0 v1 c0 c1 key g7 g8 (F.lowWith e key) (F.topWith e key) wc)) (u2 u3 u9 u10 u11 u12 u13 u14 u15 u16 u17 u18 u19 u20 u21 u22 u23 u24 u25 u26 u27 u28 u29 u30 u31 u32 u33 u34 u35 u36 u37 u38 u39 u40 u41 u42 u43 u44 u45 u46 u47 u48 u49 u50 u51 u52 u53 u54 u55 u56 u57 u58 u59 u60 u61 u62 u63 u64 u65 u66 u67 u68 u69 u70 u71 u72 u73 u74 u75 u76 u77 u78 u79 u80 u81 u82 u83 u84 u85 u86 u87 u88 u89 u90 u91 u92 u93 u94 u95 u96 u97 u98 u99 u100 u101 u102 u103 u104 u105 u106 u107 u108 u109 u110 u111 u112 u113 u114 u115 u116 u117 u118 u119 u120 u121 u122 u123 u124 u125 u126 u127 u128 u129 u130 u131 u132 : Value) {K : Act → World → Prop}
    (hK : ¬ ltF (F.topWith e key) (F.lowWith e key) → ∀ (x91 x92 x93 : Value) (wx : World), Hid (A1 W b e n last F.low F.top v0 v1 c0 c1 key g7 g8 (F.lowWith e key) (F.topWith e key) wx) → K ⟨#[.pointer (some ⟨b, 0, none⟩), .int .u64 key, u2, u3, .bool false, .int .i64 0, .pointer (some ⟨W.heap.size, 0, none⟩), .pointer (some ⟨g7, 0, none⟩), .pointer (some ⟨g8, 0, none⟩), u9, u10, u11, u12, u13, u14, u15, u16, u17, u18, u19, u20, u21, u22, u23, u24, u25, u26, u27, u28, u29, u30, u31, u32, u33, u34, u35, u36, u37, u38, u39, u40, u41, u42, u43, u44, u45, u46, u47, u48, u49, u50, u51, u52, u53, u54, u55, u56, u57, u58, u59, u60, u61, u62, u63, u64, u65, u66, u67, u68, u69, u70, u71, u72, u73, u74, u75, u76, u77, u78, u79, u80, u81, u82, u83, u84, u85, u86, u87, u88, u89, u90, x91, x92, x93, u94, u95, u96, u97, u98, u99, u100, u101, u102, u103, u104, u105, u106, u107, u108, u109, u110, u111, u112, u113, u114, u115, u116, u117, u118, u119, u120, u121, u122, u123, u124, u125, u126, u127, u128, u129, u130, u131, u132], []⟩ wx) :
    Code.wp Try.prog addEnd (Exit.then K (bodyPost Try.prog Try.f17 (AddPost W b e F v0 v1 key))) ⟨#[.pointer (some ⟨b, 0, none⟩), .int .u64 key, u2, u3, .bool false, .int .i64 0, .pointer (some ⟨W.heap.size, 0, none⟩), .pointer (some ⟨g7, 0, none⟩), .pointer (some ⟨g8, 0, none⟩), u9, u10, u11, u12, u13, u14, u15, u16, u17, u18, u19, u20, u21, u22, u23, u24, u25, u26, u27, u28, u29, u30, u31, u32, u33, u34, u35, u36, u37, u38, u39, u40, u41, u42, u43, u44, u45, u46, u47, u48, u49, u50, u51, u52, u53, u54, u55, u56, u57, u58, u59, u60, u61, u62, u63, u64, u65, u66, u67, u68, u69, u70, u71, u72, u73, u74, u75, u76, u77, u78, u79, u80, u81, u82, u83, u84, u85, u86, u87, u88, u89, u90, u91, u92, u93, u94, u95, u96, u97, u98, u99, u100, u101, u102, u103, u104, u105, u106, u107, u108, u109, u110, u111, u112, u113, u114, u115, u116, u117, u118, u119, u120, u121, u122, u123, u124, u125, u126, u127, u128, u129, u130, u131, u132], []⟩ wc := by
  conv => arg 2; whnf
  have HKK := Lib.hid hK
  obtain ⟨k0, k1, _, _⟩ := HA.out.l.cells2
  obtain ⟨k2, k3, _, _⟩ := HA.out.t.cells2
  have LO := C.out.S.lowOk (key := key) C.out.hl
  have BL := below_any (F.topWith e key) (F.lowWith e key) (C.out.S.top64 C.out.hk C.out.hl) (C.out.S.low64 C.out.hk C.out.hl) (.inr LO.2) (C.out.S.topOk C.out.hl).ok LO.1.ok wc
  clear hK LO
  go_wp2_with fail
  by_cases hlt : ltF (F.topWith e key) (F.lowWith e key)
  · rw [decide_eq_true hlt] at BL
    refine BL.mono ?_
    rintro e7 w7 ⟨rfl, hb7⟩
    have A7 := Lib.hid (C.out.refused (HA.out.below hb7) hlt)
    clear hlt BL k0 k1 k2 k3
    go_wp2_with fail
    go_ret2
    exact A7.out
  · rw [decide_eq_false hlt] at BL
    refine BL.mono ?_
    rintro e7 w7 ⟨rfl, hb7⟩
    have A7 := Lib.hid (HA.out.below hb7)
    have HLT := Lib.hid hlt
    clear hlt BL k0 k1 k2 k3
    go_wp2_with fail
    exact HKK.out HLT.out _ _ _ _ A7
end Go.Proofs.Ytanhhgifcolfaaa
