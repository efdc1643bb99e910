/-
  (*hull.Fit).Add: the chains.
-/
import Derived.Test.YtanhhgifcolfaaaHuAddP
namespace Go.Proofs.Ytanhhgifcolfaaa
open Go.RowKit
set_option linter.unusedVariables false
set_option linter.unusedSimpArgs false

/-- The region of that number. -/
def regAt (i : Nat) : Code → Code
  | .region id ops d => if id = i then .region id ops d else .skip
  | .seq a b => match regAt i a with
    | .skip => regAt i b
    | c => c
  | .cond _ a b => match regAt i a with
    | .skip => regAt i b
    | c => c
  | .block _ c => regAt i c
  | .loop c => regAt i c
  | .scope c => regAt i c
  | _ => .skip
noncomputable def addReg : Code := regAt 19 addLoop
/-- What 'laid' leaves of a chain. -/
structure LP (w w5 : World) (v v' : Value) (d : List Pt) : Prop where
  row : Row w5 v' d
  chg : Chg (fun k => v.ownBlock = some k) w w5
  own : ∀ g, v'.ownBlock = some g → v.ownBlock = some g ∨ w.heap.size ≤ g
theorem chain_cells {w w5 : World} {v : Value} {b i : Nat} {t : TypeId} {cs : Array Value} (hb : Blk w b t cs) (c5 : Chg (fun k => v.ownBlock = some k) w.drew w5) (hne : v.ownBlock ≠ some b) (hv : w.cell? ⟨b, i, none⟩ = some v) :
    w5.cell? ⟨b, i, none⟩ = some v ∧ w5.frozen? ⟨b, i, none⟩ = false := by
  have k : Blk w5 b t cs := hb.drew.chg c5 hne
  exact ⟨by rw [k.cell, ← hb.cell]; exact hv, k.free i⟩
set_option maxHeartbeats 4000000 in
set_option maxRecDepth 10000 in
theorem add_round0 {b gp : Nat} {v : Value} {d : List Pt} {p : Pt} (hp : PtOk p) (hc : ∀ u ∈ d, PtOk u) (hx : d.Pairwise (fun u v => u.1 < v.1)) (hxp : ∀ u ∈ d, u.1 < p.1) (hlen : (d.length + 1) * 16 ≤ 140737488355328) {w : World} (R : Row w v d)
    (hne : v.ownBlock ≠ some b) {t : TypeId} {cs : Array Value} (hb : Blk w b t cs) (hv : w.cell? ⟨b, 7, none⟩ = some v) (h0 : w.cell? ⟨gp, 0, none⟩ = some (.int .u64 p.1)) (h1 : w.cell? ⟨gp, 1, none⟩ = some (.int .i64 p.2)) (u1 u2 u3 u4 u5 u7 u8 u9 u10 u11 u13 u14 u15 u16 u17 u18 u19 u20 u21 u22 u23 u24 u25 u26 u27 u28 u29 u30 u31 u32 u33 u34 u35 u36 u37 u38 u39 u40 u41 u42 u43 u44 u45 u46 u47 u48 u49 u50 u51 u52 u53 u54 u55 u56 u57 u58 u59 u60 u61 u62 u63 u64 u65 u66 u67 u68 u69 u70 u71 u72 u73 u74 u75 u76 u77 u78 u79 u80 u81 u82 u83 u84 u85 u86 u87 u88 u89 u90 u91 u92 u93 u94 u95 u96 u97 u98 u99 u100 u101 u102 u103 u104 u105 u106 u107 u108 u109 u110 u111 u112 u113 u114 u115 u116 u117 u118 u119 u120 u121 u122 u123 u124 u125 u126 u127 u128 u129 u130 u131 u132 : Value) {Q : Exit → Act → World → Prop}
    (hQ : ∀ (v' : Value) (x97 x98 x99 x100 x101 x102 x103 x104 x105 x106 x107 x108 x109 x110 x111 x112 : Value) (w5 : World), LP w w5 v v' (layL (sgn 0) p d) → Q .normal ⟨#[.pointer (some ⟨b, 0, none⟩), u1, u2, u3, u4, u5, .pointer (some ⟨gp, 0, none⟩), u7, u8, u9, u10, u11, .int .i64 0, u13, u14, u15, u16, u17, u18, u19, u20, u21, u22, u23, u24, u25, u26, u27, u28, u29, u30, u31, u32, u33, u34, u35, u36, u37, u38, u39, u40, u41, u42, u43, u44, u45, u46, u47, u48, u49, u50, u51, u52, u53, u54, u55, u56, u57, u58, u59, u60, u61, u62, u63, u64, u65, u66, u67, u68, u69, u70, u71, u72, u73, u74, u75, u76, u77, u78, u79, u80, u81, u82, u83, u84, u85, u86, u87, u88, u89, u90, u91, u92, u93, u94, u95, u96, x97, x98, x99, x100, x101, x102, x103, x104, x105, x106, x107, x108, x109, x110, x111, x112, u113, u114, u115, u116, u117, u118, u119, u120, u121, u122, u123, u124, u125, u126, u127, u128, u129, u130, u131, u132], []⟩ (w5.setCell ⟨b, 7, none⟩ v')) :
    Code.wp Try.prog addReg Q ⟨#[.pointer (some ⟨b, 0, none⟩), u1, u2, u3, u4, u5, .pointer (some ⟨gp, 0, none⟩), u7, u8, u9, u10, u11, .int .i64 0, u13, u14, u15, u16, u17, u18, u19, u20, u21, u22, u23, u24, u25, u26, u27, u28, u29, u30, u31, u32, u33, u34, u35, u36, u37, u38, u39, u40, u41, u42, u43, u44, u45, u46, u47, u48, u49, u50, u51, u52, u53, u54, u55, u56, u57, u58, u59, u60, u61, u62, u63, u64, u65, u66, u67, u68, u69, u70, u71, u72, u73, u74, u75, u76, u77, u78, u79, u80, u81, u82, u83, u84, u85, u86, u87, u88, u89, u90, u91, u92, u93, u94, u95, u96, u97, u98, u99, u100, u101, u102, u103, u104, u105, u106, u107, u108, u109, u110, u111, u112, u113, u114, u115, u116, u117, u118, u119, u120, u121, u122, u123, u124, u125, u126, u127, u128, u129, u130, u131, u132], []⟩ w := by
  conv => arg 2; whnf
  have HQ := Lib.hid hQ
  have LC := laid_row v d p 0 (by omega) hp hc hx hxp hlen w.drew R
  have H0 := Lib.hid hne
  have HB := Lib.hid hb
  have HV := Lib.hid hv
  have y0 : w.drew.cell? ⟨b, 7, none⟩ = some v := hv
  have y1 : w.drew.cell? ⟨gp, 0, none⟩ = some (.int .u64 p.1) := h0
  have y2 : w.drew.cell? ⟨gp, 1, none⟩ = some (.int .i64 p.2) := h1
  clear hp hc hx hxp hlen R hne hQ hb hv h0 h1
  refine wp_region_noPanic ?_
  go_region_with (go_at_call 38; refine LC.mono ?_; rintro e5 w5 ⟨v', rfl, r5, c5, o5⟩; obtain ⟨z0, z1⟩ := chain_cells HB.out c5 H0.out HV.out; obtain ⟨Av, cv, rfl⟩ := r5.val)
  all_goals exact HQ.out _ _ _ _ _ _ _ _ _ _ _ _ _ _ _ _ _ w5 ⟨r5, c5.of_drew, o5⟩
set_option maxHeartbeats 4000000 in
set_option maxRecDepth 10000 in
theorem add_round1 {b gp : Nat} {v : Value} {d : List Pt} {p : Pt} (hp : PtOk p) (hc : ∀ u ∈ d, PtOk u) (hx : d.Pairwise (fun u v => u.1 < v.1)) (hxp : ∀ u ∈ d, u.1 < p.1) (hlen : (d.length + 1) * 16 ≤ 140737488355328) {w : World} (R : Row w v d)
    (hne : v.ownBlock ≠ some b) {t : TypeId} {cs : Array Value} (hb : Blk w b t cs) (hv : w.cell? ⟨b, 8, none⟩ = some v) (h0 : w.cell? ⟨gp, 2, none⟩ = some (.int .u64 p.1)) (h1 : w.cell? ⟨gp, 3, none⟩ = some (.int .i64 p.2)) (u1 u2 u3 u4 u5 u7 u8 u9 u10 u11 u13 u14 u15 u16 u17 u18 u19 u20 u21 u22 u23 u24 u25 u26 u27 u28 u29 u30 u31 u32 u33 u34 u35 u36 u37 u38 u39 u40 u41 u42 u43 u44 u45 u46 u47 u48 u49 u50 u51 u52 u53 u54 u55 u56 u57 u58 u59 u60 u61 u62 u63 u64 u65 u66 u67 u68 u69 u70 u71 u72 u73 u74 u75 u76 u77 u78 u79 u80 u81 u82 u83 u84 u85 u86 u87 u88 u89 u90 u91 u92 u93 u94 u95 u96 u97 u98 u99 u100 u101 u102 u103 u104 u105 u106 u107 u108 u109 u110 u111 u112 u113 u114 u115 u116 u117 u118 u119 u120 u121 u122 u123 u124 u125 u126 u127 u128 u129 u130 u131 u132 : Value) {Q : Exit → Act → World → Prop}
    (hQ : ∀ (v' : Value) (x97 x98 x99 x100 x101 x102 x103 x104 x105 x106 x107 x108 x109 x110 x111 x112 : Value) (w5 : World), LP w w5 v v' (layL (sgn 1) p d) → Q .normal ⟨#[.pointer (some ⟨b, 0, none⟩), u1, u2, u3, u4, u5, .pointer (some ⟨gp, 0, none⟩), u7, u8, u9, u10, u11, .int .i64 1, u13, u14, u15, u16, u17, u18, u19, u20, u21, u22, u23, u24, u25, u26, u27, u28, u29, u30, u31, u32, u33, u34, u35, u36, u37, u38, u39, u40, u41, u42, u43, u44, u45, u46, u47, u48, u49, u50, u51, u52, u53, u54, u55, u56, u57, u58, u59, u60, u61, u62, u63, u64, u65, u66, u67, u68, u69, u70, u71, u72, u73, u74, u75, u76, u77, u78, u79, u80, u81, u82, u83, u84, u85, u86, u87, u88, u89, u90, u91, u92, u93, u94, u95, u96, x97, x98, x99, x100, x101, x102, x103, x104, x105, x106, x107, x108, x109, x110, x111, x112, u113, u114, u115, u116, u117, u118, u119, u120, u121, u122, u123, u124, u125, u126, u127, u128, u129, u130, u131, u132], []⟩ (w5.setCell ⟨b, 8, none⟩ v')) :
    Code.wp Try.prog addReg Q ⟨#[.pointer (some ⟨b, 0, none⟩), u1, u2, u3, u4, u5, .pointer (some ⟨gp, 0, none⟩), u7, u8, u9, u10, u11, .int .i64 1, u13, u14, u15, u16, u17, u18, u19, u20, u21, u22, u23, u24, u25, u26, u27, u28, u29, u30, u31, u32, u33, u34, u35, u36, u37, u38, u39, u40, u41, u42, u43, u44, u45, u46, u47, u48, u49, u50, u51, u52, u53, u54, u55, u56, u57, u58, u59, u60, u61, u62, u63, u64, u65, u66, u67, u68, u69, u70, u71, u72, u73, u74, u75, u76, u77, u78, u79, u80, u81, u82, u83, u84, u85, u86, u87, u88, u89, u90, u91, u92, u93, u94, u95, u96, u97, u98, u99, u100, u101, u102, u103, u104, u105, u106, u107, u108, u109, u110, u111, u112, u113, u114, u115, u116, u117, u118, u119, u120, u121, u122, u123, u124, u125, u126, u127, u128, u129, u130, u131, u132], []⟩ w := by
  conv => arg 2; whnf
  have HQ := Lib.hid hQ
  have LC := laid_row v d p 1 (by omega) hp hc hx hxp hlen w.drew R
  have H0 := Lib.hid hne
  have HB := Lib.hid hb
  have HV := Lib.hid hv
  have y0 : w.drew.cell? ⟨b, 8, none⟩ = some v := hv
  have y1 : w.drew.cell? ⟨gp, 2, none⟩ = some (.int .u64 p.1) := h0
  have y2 : w.drew.cell? ⟨gp, 3, none⟩ = some (.int .i64 p.2) := h1
  clear hp hc hx hxp hlen R hne hQ hb hv h0 h1
  refine wp_region_noPanic ?_
  go_region_with (go_at_call 38; refine LC.mono ?_; rintro e5 w5 ⟨v', rfl, r5, c5, o5⟩; obtain ⟨z0, z1⟩ := chain_cells HB.out c5 H0.out HV.out; obtain ⟨Av, cv, rfl⟩ := r5.val)
  all_goals exact HQ.out _ _ _ _ _ _ _ _ _ _ _ _ _ _ _ _ _ w5 ⟨r5, c5.of_drew, o5⟩
/-- Between the two rounds. -/
structure A15 (W : World) (b : Nat) (e n last : Int) (low top : Fr) (v0 v1 v0' : Value) (d0 c1 : List Pt) (key : Int) (g7 g8 : Nat) (l t : Fr) (w : World) : Prop where
  m : FitM w b e n last low top v0' v1 d0 c1
  p : Blk w W.heap.size 71 #[.int .u64 key, .int .i64 (n - e), .int .u64 key, .int .i64 (n + e)]
  ne : g7 ≠ g8
  lo7 : W.heap.size < g7
  lo8 : W.heap.size < g8
  l : Blk w g7 39 #[.int .u64 l.1, .int .u64 l.2]
  t : Blk w g8 39 #[.int .u64 t.1, .int .u64 t.2]
  chg : Chg (fun k => k = b ∨ v0.ownBlock = some k ∨ v1.ownBlock = some k) W w
  o0 : ∀ g, v0'.ownBlock = some g → v0.ownBlock = some g ∨ W.heap.size ≤ g
  off : ∀ g, v0'.ownBlock = some g → v1.ownBlock ≠ some g
section
variable {W wc w w5 w6 : World} {b : Nat} {e n last : Int} {low top : Fr} {v0 v1 v0' v1' : Value} {c0 c1 d0 d1 : List Pt} {key : Int} {g7 g8 : Nat} {l t : Fr}
theorem set_blk7 {x0 x1 x2 x3 x4 x5 x6 x7 x8 y : Value} (h : Blk w b 68 #[x0, x1, x2, x3, x4, x5, x6, x7, x8]) : Blk (w.setCell ⟨b, 7, none⟩ y) b 68 #[x0, x1, x2, x3, x4, x5, x6, y, x8] := h.set 7 y
theorem set_blk8 {x0 x1 x2 x3 x4 x5 x6 x7 x8 y : Value} (h : Blk w b 68 #[x0, x1, x2, x3, x4, x5, x6, x7, x8]) : Blk (w.setCell ⟨b, 8, none⟩ y) b 68 #[x0, x1, x2, x3, x4, x5, x6, x7, y] := h.set 8 y
theorem A1.round0 (h : A1 W b e n last low top v0 v1 c0 c1 key g7 g8 l t wc) (HW : FitM W b e n last low top v0 v1 c0 c1) (off : ∀ g, v0.ownBlock = some g → v1.ownBlock ≠ some g) (L : LP wc w5 v0 v0' d0) :
    A15 W b e n last low top v0 v1 v0' d0 c1 key g7 g8 l t (w5.setCell ⟨b, 7, none⟩ v0') := by
  have hs := h.bel.size
  have hbl := HW.blk.lt
  have nb : v0'.ownBlock ≠ some b := by
    intro hq
    rcases L.own b hq with k | k
    · exact HW.ne0 k
    · omega
  have lt0 : ∀ g, v0.ownBlock = some g → g < W.heap.size := fun g hg => HW.r0.lt hg
  have lt1 : ∀ g, v1.ownBlock = some g → g < W.heap.size := fun g hg => HW.r1.lt hg
  have ne1 := HW.ne1
  have far : ∀ {g : Nat} {t : TypeId} {cs : Array Value}, Blk wc g t cs → W.heap.size ≤ g → Blk (w5.setCell ⟨b, 7, none⟩ v0') g t cs := by
    intro g t cs hb hg
    exact (hb.chg L.chg (fun k => by have := lt0 g k; omega)).far _ (by simp; omega)
  have h7 := h.lo7
  have h8 := h.lo8
  refine ⟨⟨set_blk7 (h.m.blk.chg L.chg HW.ne0), ?_, ?_⟩, far h.p (Nat.le_refl _), h.ne, h.lo7, h.lo8, far h.l (by omega), far h.t (by omega), ?_, ?_, ?_⟩
  · exact own_far L.row nb _
  · exact own_far (h.m.r1.chg L.chg (fun g hg k => off g k hg)) ne1 _
  · refine Chg.setCell ?_ (fun _ => .inl rfl) _
    exact ((Chg.of_below h.bel).mono (fun _ _ h => h.elim)).trans L.chg (fun i hi k => .inr (.inl k))
  · intro g hg
    rcases L.own g hg with k | k
    · exact .inl k
    · exact .inr (by omega)
  · intro g hg k
    rcases L.own g hg with m | m
    · exact off g m k
    · have := lt1 g k; omega
theorem A15.round1 (h : A15 W b e n last low top v0 v1 v0' d0 c1 key g7 g8 l t w) (HW : FitM W b e n last low top v0 v1 c0 c1) (L : LP w w6 v1 v1' d1) :
    A2 W b e n last low top v0 v1 v0' v1' d0 d1 g7 g8 l t (w6.setCell ⟨b, 8, none⟩ v1') := by
  have hs := h.chg.size
  have hbl := HW.blk.lt
  have nb : v1'.ownBlock ≠ some b := by
    intro hq
    rcases L.own b hq with k | k
    · exact HW.ne1 k
    · omega
  have lt1 : ∀ g, v1.ownBlock = some g → g < W.heap.size := fun g hg => HW.r1.lt hg
  have ltq : ∀ g, v0'.ownBlock = some g → g < w.heap.size := fun g hg => h.m.r0.lt hg
  have far : ∀ {g : Nat} {t : TypeId} {cs : Array Value}, Blk w g t cs → W.heap.size ≤ g → Blk (w6.setCell ⟨b, 8, none⟩ v1') g t cs := by
    intro g t cs hb hg
    exact (hb.chg L.chg (fun k => by have := lt1 g k; omega)).far _ (by simp; omega)
  have h7 := h.lo7
  have h8 := h.lo8
  refine ⟨⟨set_blk8 (h.m.blk.chg L.chg HW.ne1), ?_, ?_⟩, h.ne, h.lo7, h.lo8, far h.l (by omega), far h.t (by omega), ?_, h.o0, ?_, ?_⟩
  · exact own_far (h.m.r0.chg L.chg (fun g hg k => h.off g hg k)) h.m.ne0 _
  · exact own_far L.row nb _
  · refine Chg.setCell ?_ (fun _ => .inl rfl) _
    exact h.chg.trans L.chg (fun i hi k => .inr (.inr k))
  · intro g hg
    rcases L.own g hg with k | k
    · exact .inl k
    · exact .inr (by omega)
  · intro g hg k
    rcases L.own g k with m | m
    · exact h.off g hg m
    · have := ltq g hg; omega
end
end Go.Proofs.Ytanhhgifcolfaaa
