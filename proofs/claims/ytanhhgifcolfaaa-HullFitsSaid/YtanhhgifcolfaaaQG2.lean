/-
  The reference's Near answers whether some line with a slope is near.
-/
import Derived.Test.YtanhhgifcolfaaaQG0
import Derived.Test.YtanhhgifcolfaaaQHuArg
import Derived.Test.YtanhhgifcolfaaaQG1
import Derived.Test.YtanhhgifcolfaaaQHuRef
import Derived.Test.YtanhhgifcolfaaaQG3
import Derived.Deep.CutBlock
import Derived.Deep.DeepCutAuto
import Derived.Test.YtanhhgifcolfaaaQCode
namespace Go.Proofs.Ytanhhgifcolfaaa
open Go.RowKit
set_option linter.unusedVariables false
set_option linter.unusedSimpArgs false

set_option maxHeartbeats 1000000 in
theorem ref_product (a b : Int) (ha : u64ok a) (hb : u64ok b) (w : World) :
    Calls Try.prog 43 #[.int .u64 a, .int .u64 b] w fun e w' => e = .returned (.agg #[.int .i64 (I128.enc (a * b)).1, .int .u64 (I128.enc (a * b)).2]) ∧ Below w.heap.size w w' := by
  have T := fun w => ref_whole a b ha hb w
  have h1 := ha; have h2 := hb
  unfold u64ok at h1 h2
  have e1 : (I128.enc (a * b)).1 = wrap64 (a * b / 18446744073709551616) := by unfold I128.enc; rfl
  have e2 : (I128.enc (a * b)).2 = a * b % 18446744073709551616 := by unfold I128.enc; rfl
  have HE := Lib.hid (And.intro e1 e2)
  clear e1 e2 ha hb h1 h2
  generalize a * b / 18446744073709551616 = x at *
  generalize a * b % 18446744073709551616 = y at *
  go_enter Try.func43, Try.ntmps43
  go_wp2_with (go_at_call 42; refine (T _).mono ?_; rintro e w' ⟨rfl, rfl⟩)
  rw [HE.out.1, HE.out.2]
  refine bodyPost_ret (v := .agg #[.int .i64 (wrap64 x), .int .u64 y]) (results_cl (p := 4) (ty := 79) (t := 79) rfl _ rfl (Blk.new _ _ _) Try.underlying79 rfl (by kernel_rfl)) rfl ?_
  exact ⟨rfl, below_new (Below.refl _ _) _⟩
end Go.Proofs.Ytanhhgifcolfaaa
/-
  The reference's Near: its round, piece by piece.
-/
namespace Go.Proofs.Ytanhhgifcolfaaa
open Go.RowKit
set_option linter.unusedVariables false
set_option linter.unusedSimpArgs false

noncomputable def neB : Code := Try.f25.body.getD .skip
noncomputable def neR (n : Nat) : Code := regAt n neB
/-- The slope, the least of the heights above, the greatest of those below. -/
structure NM (w : World) (gs : Nat) (s : Fr) (lo hi : Int) (wr : World) : Prop where
  s : Blk wr gs 39 #[.int .u64 s.1, .int .u64 s.2]
  t : Blk wr (gs + 1) 79 #[.int .i64 (I128.enc (hi)).1, .int .u64 (I128.enc (hi)).2]
  l : Blk wr (gs + 1 + 1) 79 #[.int .i64 (I128.enc (lo)).1, .int .u64 (I128.enc (lo)).2]
  ge : w.heap.size ≤ gs
  bel : Below w.heap.size w wr
section
variable {w wr w' : World} {gs : Nat} {s : Fr} {lo hi : Int}
theorem NM.below (h : NM w gs s lo hi wr) (k : Below wr.heap.size wr w') : NM w gs s lo hi w' := ⟨h.s.below k, h.t.below k, h.l.below k, h.ge, below_next h.bel k⟩
theorem NM.alloc (h : NM w gs s lo hi wr) (o : Obj) : NM w gs s lo hi (wr.alloc o) := h.below (below_new (Below.refl _ _) o)
theorem NM.drew (h : NM w gs s lo hi wr) : NM w gs s lo hi wr.drew := h.below (Below.refl _ _).drew
theorem NM.cells (h : NM w gs s lo hi wr) : wr.cell? ⟨gs, 0, none⟩ = some (.int .u64 s.1) ∧ wr.cell? ⟨gs, 1, none⟩ = some (.int .u64 s.2) := ⟨h.s.cell 0, h.s.cell 1⟩
end
/-- What a key's round knows of its arguments. -/
structure NA (w : World) (s : Fr) (b o i : Nat) (ki k0 e : Int) : Prop where
  hb : b < w.heap.size
  ci : w.cell? ⟨b, o + i, none⟩ = some (.int .u64 ki)
  c0 : w.cell? ⟨b, o, none⟩ = some (.int .u64 k0)
  ok : u64ok ki
  ok0 : u64ok k0
  le : k0 ≤ ki
  i1 : (i : Int) ≤ 17592186044416
  e0 : 0 ≤ e
  e1 : e ≤ 64
  s0 : 0 ≤ s.1
  s1 : s.1 ≤ 4611686018427387904
  s2 : u64ok s.2
theorem NA.cells {w wr : World} {gs : Nat} {s : Fr} {lo hi : Int} {b o i : Nat} {ki k0 e : Int} (h : NA w s b o i ki k0 e) (k : NM w gs s lo hi wr) : wr.cell? ⟨b, o + i, none⟩ = some (.int .u64 ki) ∧ wr.cell? ⟨b, o, none⟩ = some (.int .u64 k0) :=
  ⟨(k.bel.cell (p := ⟨b, _, none⟩) h.hb).trans h.ci, (k.bel.cell (p := ⟨b, _, none⟩) h.hb).trans h.c0⟩
theorem NM.set2 {w wr : World} {gs g : Nat} {s : Fr} {lo hi : Int} {x y : Value} (h : NM w gs s lo hi wr) (hg : gs + 1 + 1 < g) : NM w gs s lo hi ((wr.setCell ⟨g, 0, none⟩ x).setCell ⟨g, 1, none⟩ y) :=
  ⟨h.s.far2 (by omega), h.t.far2 (by omega), h.l.far2 (by omega), h.ge, below_set2 h.bel (by have := h.ge; omega)⟩
theorem NM.keep {w wr : World} {gs : Nat} {s : Fr} {lo hi : Int} {b o i : Nat} {ki k0 e : Int} (h : Hid (NA w s b o i ki k0 e)) (k : NM w gs s lo hi wr) : NM w gs s lo hi wr ∧ wr.cell? ⟨gs, 0, none⟩ = some (.int .u64 s.1) ∧ wr.cell? ⟨b, o + i, none⟩ = some (.int .u64 ki) ∧ wr.cell? ⟨b, o, none⟩ = some (.int .u64 k0) := ⟨k, k.cells.1, h.out.cells k⟩
set_option maxHeartbeats 4000000 in
set_option maxRecDepth 100000 in
theorem near_far {w wr : World} {gs : Nat} {s : Fr} {lo hi : Int} {b o i n c : Nat} {ki k0 e : Int} (H : Hid (NM w gs s lo hi wr)) (HA : Hid (NA w s b o i ki k0 e)) (hlt : i < n) (hn : n ≤ 17592186044416) (u0 u4 u5 u6 u10 u11 u12 u13 u14 u15 u16 u17 u18 u19 u20 u21 u22 u23 u24 u25 u26 u27 u28 u29 u30 u31 u32 u33 u34 u35 u36 u37 u38 u39 u40 u41 u42 u43 u44 u45 u46 u47 u48 u49 u50 u51 u52 u53 u54 u55 u56 u57 u58 u59 u60 u61 u62 u63 u64 u65 u66 u67 u68 u69 u70 u71 u72 u73 : Value) {Q : Exit → Act → World → Prop}
    (hK : ∀ (x25 x26 x27 x28 x29 x30 x31 x32 x33 x34 x35 : Value) (g10 : Nat) (wx : World), Hid (NM w gs s lo hi wx ∧ Blk wx g10 79 #[.int .i64 (I128.enc (s.1 * (ki - k0))).1, .int .u64 (I128.enc (s.1 * (ki - k0))).2] ∧ gs + 1 + 1 < g10) → Q .normal ⟨#[u0, .slice (some ⟨b, o, none⟩) n c, .int .i64 e, .pointer (some ⟨gs, 0, none⟩), u4, u5, u6, .pointer (some ⟨gs + 1, 0, none⟩), .pointer (some ⟨gs + 1 + 1, 0, none⟩), .int .i64 (i : Int), .pointer (some ⟨g10, 0, none⟩), u11, u12, u13, u14, u15, u16, u17, u18, u19, u20, u21, u22, u23, u24, x25, x26, x27, x28, x29, x30, x31, x32, x33, x34, x35, u36, u37, u38, u39, u40, u41, u42, u43, u44, u45, u46, u47, u48, u49, u50, u51, u52, u53, u54, u55, u56, u57, u58, u59, u60, u61, u62, u63, u64, u65, u66, u67, u68, u69, u70, u71, u72, u73], []⟩ wx) :
    Code.wp Try.prog (neR 7) Q ⟨#[u0, .slice (some ⟨b, o, none⟩) n c, .int .i64 e, .pointer (some ⟨gs, 0, none⟩), u4, u5, u6, .pointer (some ⟨gs + 1, 0, none⟩), .pointer (some ⟨gs + 1 + 1, 0, none⟩), .int .i64 (i : Int), u10, u11, u12, u13, u14, u15, u16, u17, u18, u19, u20, u21, u22, u23, u24, u25, u26, u27, u28, u29, u30, u31, u32, u33, u34, u35, u36, u37, u38, u39, u40, u41, u42, u43, u44, u45, u46, u47, u48, u49, u50, u51, u52, u53, u54, u55, u56, u57, u58, u59, u60, u61, u62, u63, u64, u65, u66, u67, u68, u69, u70, u71, u72, u73], []⟩ wr := by
  conv => arg 2; whnf
  have HKK := Lib.hid hK
  clear hK
  have P1 := fun w => ref_product s.1 (ki - k0) (by have := HA.out.s0; have := HA.out.s1; unfold u64ok; omega) (by have := HA.out.ok; have := HA.out.ok0; have := HA.out.le; unfold u64ok at *; omega) w
  have v1 : IntKind.u64.wrap (ki - k0) = ki - k0 := by have := HA.out.ok; have := HA.out.ok0; have := HA.out.le; unfold u64ok at *; rw [IntKind.wrap_u64]; omega
  have hi0 : (0 : Int) ≤ (i : Int) := by omega
  have hi1 : (i : Int) < (n : Int) := by omega
  have hn0 : 0 < n := by omega
  have hgs := Lib.hid H.out.l.lt
  go_region_held3 (fun w' => NM w gs s lo hi w' ∧ w'.cell? ⟨gs, 0, none⟩ = some (.int .u64 s.1) ∧ w'.cell? ⟨b, o + i, none⟩ = some (.int .u64 ki) ∧ w'.cell? ⟨b, o, none⟩ = some (.int .u64 k0))
    (first | exact ⟨H.out.drew, H.out.drew.cells.1, HA.out.cells H.out.drew⟩ | exact ⟨HB.out, HB.out.cells.1, HA.out.cells HB.out⟩ | exact NM.keep HA (HB.out.alloc _) | exact NM.keep HA (HB.out.set2 hgs.out) | exact NM.keep HA ((‹NM _ _ _ _ _ _ ∧ _›).1.alloc _) | exact NM.keep HA ((‹NM _ _ _ _ _ _ ∧ _›).1.drew) | go_keep)
    (first | (go_at_call 43; refine (P1 _).mono ?_; rintro e5 w5 ⟨rfl, b5⟩; have HB := Lib.hid ((‹NM _ _ _ _ _ _ ∧ _›).1.below b5); have HN := Lib.hid (Blk.below (Blk.new wr 79 #[.int .i64 0, .int .u64 0]).drew b5); obtain ⟨z0, z1, z2, z3⟩ := Blk.cells2 HN.out) | (go_at_call 43; refine (P1 _).mono ?_; rintro e5 w5 ⟨rfl, b5⟩; have HB := Lib.hid ((‹NM _ _ _ _ _ _ ∧ _›).1.below b5)))
  all_goals first
    | (have hz := HB.out.l.lt; exact HKK.out _ _ _ _ _ _ _ _ _ _ _ w5.heap.size _ (Lib.hid ⟨HB.out.alloc _, Blk.new _ _ _, hz⟩))
    | exact HKK.out _ _ _ _ _ _ _ _ _ _ _ wr.heap.size _ (Lib.hid ⟨HB.out.set2 hgs.out, HN.out.set2, hgs.out⟩)
end Go.Proofs.Ytanhhgifcolfaaa
/-
  The reference's Near: its round, piece by piece.
-/
namespace Go.Proofs.Ytanhhgifcolfaaa
open Go.RowKit
set_option linter.unusedVariables false
set_option linter.unusedSimpArgs false

/-- Numbers of 128 bits besides, each in a block of its own. -/
structure NL (w : World) (gs : Nat) (s : Fr) (lo hi : Int) (L : List (Nat × Int)) (wr : World) : Prop where
  m : NM w gs s lo hi wr
  bl : ∀ p ∈ L, gs + 1 + 1 < p.1 ∧ Blk wr p.1 79 #[.int .i64 (I128.enc (p.2)).1, .int .u64 (I128.enc (p.2)).2]
section
variable {w wr w' : World} {gs : Nat} {s : Fr} {lo hi : Int} {L : List (Nat × Int)}
theorem NL.below (h : NL w gs s lo hi L wr) (k : Below wr.heap.size wr w') : NL w gs s lo hi L w' := ⟨h.m.below k, fun p hp => ⟨(h.bl p hp).1, (h.bl p hp).2.below k⟩⟩
theorem NL.alloc (h : NL w gs s lo hi L wr) (o : Obj) : NL w gs s lo hi L (wr.alloc o) := h.below (below_new (Below.refl _ _) o)
theorem NL.drew (h : NL w gs s lo hi L wr) : NL w gs s lo hi L wr.drew := h.below (Below.refl _ _).drew
theorem NL.set2 {g : Nat} {x y : Value} (h : NL w gs s lo hi L wr) (hg : gs + 1 + 1 < g) (hL : ∀ p ∈ L, p.1 ≠ g) : NL w gs s lo hi L ((wr.setCell ⟨g, 0, none⟩ x).setCell ⟨g, 1, none⟩ y) :=
  ⟨h.m.set2 hg, fun p hp => ⟨(h.bl p hp).1, (h.bl p hp).2.far2 (hL p hp)⟩⟩
theorem NL.cells (h : NL w gs s lo hi L wr) {g : Nat} {x : Int} (hp : (g, x) ∈ L) : wr.cell? ⟨g, 0, none⟩ = some (.int .i64 (I128.enc x).1) ∧ wr.cell? ⟨g, 1, none⟩ = some (.int .u64 (I128.enc x).2) := ⟨(h.bl _ hp).2.cell 0, (h.bl _ hp).2.cell 1⟩
theorem NL.keep {g : Nat} {x : Int} (hp : Hid ((g, x) ∈ L)) (h : NL w gs s lo hi L wr) : NL w gs s lo hi L wr ∧ wr.cell? ⟨gs, 1, none⟩ = some (.int .u64 s.2) ∧ wr.cell? ⟨g, 0, none⟩ = some (.int .i64 (I128.enc x).1) ∧ wr.cell? ⟨g, 1, none⟩ = some (.int .u64 (I128.enc x).2) := ⟨h, h.m.cells.2, h.cells hp.out⟩
theorem NL.push (h : NL w gs s lo hi L wr) {g : Nat} {x : Int} (hg : gs + 1 + 1 < g) (hb : Blk wr g 79 #[.int .i64 (I128.enc (x)).1, .int .u64 (I128.enc (x)).2]) : NL w gs s lo hi ((g, x) :: L) wr := ⟨h.m, fun p hp => by
  rcases List.mem_cons.1 hp with rfl | hp
  · exact ⟨hg, hb⟩
  · exact h.bl p hp⟩
theorem NL.setLo (h : NL w gs s lo hi L wr) (x : Int) : NL w gs s x hi L ((wr.setCell ⟨gs + 1 + 1, 0, none⟩ (.int .i64 (I128.enc x).1)).setCell ⟨gs + 1 + 1, 1, none⟩ (.int .u64 (I128.enc x).2)) :=
  ⟨⟨h.m.s.far2 (by omega), h.m.t.far2 (by omega), h.m.l.set2, h.m.ge, below_set2 h.m.bel (by have := h.m.ge; omega)⟩, fun p hp => ⟨(h.bl p hp).1, (h.bl p hp).2.far2 (by have := (h.bl p hp).1; omega)⟩⟩
theorem NL.setHi (h : NL w gs s lo hi L wr) (x : Int) : NL w gs s lo x L ((wr.setCell ⟨gs + 1, 0, none⟩ (.int .i64 (I128.enc x).1)).setCell ⟨gs + 1, 1, none⟩ (.int .u64 (I128.enc x).2)) :=
  ⟨⟨h.m.s.far2 (by omega), h.m.t.set2, h.m.l.far2 (by omega), h.m.ge, below_set2 h.m.bel (by have := h.m.ge; omega)⟩, fun p hp => ⟨(h.bl p hp).1, (h.bl p hp).2.far2 (by have := (h.bl p hp).1; omega)⟩⟩
end
set_option maxHeartbeats 4000000 in
set_option maxRecDepth 100000 in
theorem near_a {w wr : World} {gs g10 : Nat} {s : Fr} {lo hi x : Int} {L : List (Nat × Int)} {b o i : Nat} {ki k0 e : Int} (H : Hid (NL w gs s lo hi L wr)) (HA : Hid (NA w s b o i ki k0 e)) (HX : Hid ((g10, x) ∈ L)) (u0 u1 u4 u5 u6 u7 u8 u11 u12 u13 u14 u15 u16 u17 u18 u19 u20 u21 u22 u23 u24 u25 u26 u27 u28 u29 u30 u31 u32 u33 u34 u35 u36 u37 u38 u39 u40 u41 u42 u43 u44 u45 u46 u47 u48 u49 u50 u51 u52 u53 u54 u55 u56 u57 u58 u59 u60 u61 u62 u63 u64 u65 u66 u67 u68 u69 u70 u71 u72 u73 : Value) {Q : Exit → Act → World → Prop}
    (hK : ∀ (x36 x37 x38 x39 x40 x41 x42 x43 : Value) (g : Nat) (wx : World), Hid (NL w gs s lo hi ((g, ((i : Int) - e) * s.2 - x) :: L) wx) → Q .normal ⟨#[u0, u1, .int .i64 e, .pointer (some ⟨gs, 0, none⟩), u4, u5, u6, u7, u8, .int .i64 (i : Int), .pointer (some ⟨g10, 0, none⟩), .pointer (some ⟨g, 0, none⟩), u12, u13, u14, u15, u16, u17, u18, u19, u20, u21, u22, u23, u24, u25, u26, u27, u28, u29, u30, u31, u32, u33, u34, u35, x36, x37, x38, x39, x40, x41, x42, x43, u44, u45, u46, u47, u48, u49, u50, u51, u52, u53, u54, u55, u56, u57, u58, u59, u60, u61, u62, u63, u64, u65, u66, u67, u68, u69, u70, u71, u72, u73], []⟩ wx) :
    Code.wp Try.prog (neR 8) Q ⟨#[u0, u1, .int .i64 e, .pointer (some ⟨gs, 0, none⟩), u4, u5, u6, u7, u8, .int .i64 (i : Int), .pointer (some ⟨g10, 0, none⟩), u11, u12, u13, u14, u15, u16, u17, u18, u19, u20, u21, u22, u23, u24, u25, u26, u27, u28, u29, u30, u31, u32, u33, u34, u35, u36, u37, u38, u39, u40, u41, u42, u43, u44, u45, u46, u47, u48, u49, u50, u51, u52, u53, u54, u55, u56, u57, u58, u59, u60, u61, u62, u63, u64, u65, u66, u67, u68, u69, u70, u71, u72, u73], []⟩ wr := by
  conv => arg 2; whnf
  have HKK := Lib.hid hK
  clear hK
  have he0 := HA.out.e0
  have he1 := HA.out.e1
  have hi1 := HA.out.i1
  have v1 : IntKind.i64.wrap ((i : Int) - e) = (i : Int) - e := by rw [IntKind.wrap_i64]; omega
  have T := fun w => cRefTimes (a := (i : Int) - e) (b := s.2) (by unfold i64ok; omega) HA.out.s2 w
  have U := fun w => cRefSub (((i : Int) - e) * s.2) x w
  have hgs := Lib.hid H.out.m.l.lt
  have hLs : Hid (∀ p ∈ L, p.1 < wr.heap.size) := Lib.hid (fun p hp => (H.out.bl p hp).2.lt)
  clear he0 he1 hi1
  go_region_held3 (fun w' => NL w gs s lo hi L w' ∧ w'.cell? ⟨gs, 1, none⟩ = some (.int .u64 s.2) ∧ w'.cell? ⟨g10, 0, none⟩ = some (.int .i64 (I128.enc x).1) ∧ w'.cell? ⟨g10, 1, none⟩ = some (.int .u64 (I128.enc x).2))
    (first | exact NL.keep HX H.out.drew | exact NL.keep HX HC.out | exact NL.keep HX HB.out | exact NL.keep HX (HC.out.alloc _) | exact NL.keep HX (HC.out.set2 (by have := hgs.out; have := HB.out.m.l.lt; omega) (fun p hp => by have := hLs.out p hp; have := (HB.out.bl p hp).2.lt; omega)) | exact NL.keep HX ((‹NL _ _ _ _ _ _ _ ∧ _›).1.alloc _) | exact NL.keep HX ((‹NL _ _ _ _ _ _ _ ∧ _›).1.drew) | go_keep)
    (first | (go_at_call 45; refine (T _).mono ?_; rintro e5 w5 ⟨rfl, b5⟩; have HB := Lib.hid ((‹NL _ _ _ _ _ _ _ ∧ _›).1.below b5); have HN := Lib.hid (Blk.below (Blk.new wr 79 #[.int .i64 0, .int .u64 0]).drew b5)) | (go_at_call 45; refine (T _).mono ?_; rintro e5 w5 ⟨rfl, b5⟩; have HB := Lib.hid ((‹NL _ _ _ _ _ _ _ ∧ _›).1.below b5)) | (go_at_call 44; refine (U _).mono ?_; rintro e6 w6 ⟨rfl, b6⟩; have HC := Lib.hid ((‹NL _ _ _ _ _ _ _ ∧ _›).1.below b6); have HN := Lib.hid (Blk.below HN.out b6); obtain ⟨z0, z1, z2, z3⟩ := Blk.cells2 HN.out) | (go_at_call 44; refine (U _).mono ?_; rintro e6 w6 ⟨rfl, b6⟩; have HC := Lib.hid ((‹NL _ _ _ _ _ _ _ ∧ _›).1.below b6); have HN := Lib.hid (Blk.below (Blk.new w5 79 #[.int .i64 0, .int .u64 0]) b6); obtain ⟨z0, z1, z2, z3⟩ := Blk.cells2 HN.out) | (go_at_call 44; refine (U _).mono ?_; rintro e6 w6 ⟨rfl, b6⟩; have HC := Lib.hid ((‹NL _ _ _ _ _ _ _ ∧ _›).1.below b6)))
  all_goals first
    | (have hz := HC.out.m.l.lt; exact HKK.out _ _ _ _ _ _ _ _ w6.heap.size _ (Lib.hid ((HC.out.alloc _).push hz (Blk.new _ _ _))))
    | exact HKK.out _ _ _ _ _ _ _ _ wr.heap.size _ (Lib.hid ((HC.out.set2 hgs.out (fun p hp => by have := hLs.out p hp; omega)).push hgs.out HN.out.set2))
    | exact HKK.out _ _ _ _ _ _ _ _ w5.heap.size _ (Lib.hid ((HC.out.set2 HB.out.m.l.lt (fun p hp => by have := (HB.out.bl p hp).2.lt; omega)).push HB.out.m.l.lt HN.out.set2))
set_option maxHeartbeats 4000000 in
set_option maxRecDepth 100000 in
theorem near_b {w wr : World} {gs g10 : Nat} {s : Fr} {lo hi x : Int} {L : List (Nat × Int)} {b o i : Nat} {ki k0 e : Int} (H : Hid (NL w gs s lo hi L wr)) (HA : Hid (NA w s b o i ki k0 e)) (HX : Hid ((g10, x) ∈ L)) (u0 u1 u4 u5 u6 u7 u8 u11 u12 u13 u14 u15 u16 u17 u18 u19 u20 u21 u22 u23 u24 u25 u26 u27 u28 u29 u30 u31 u32 u33 u34 u35 u36 u37 u38 u39 u40 u41 u42 u43 u44 u45 u46 u47 u48 u49 u50 u51 u52 u53 u54 u55 u56 u57 u58 u59 u60 u61 u62 u63 u64 u65 u66 u67 u68 u69 u70 u71 u72 u73 : Value) {Q : Exit → Act → World → Prop}
    (hK : ∀ (x44 x45 x46 x47 x48 x49 x50 x51 : Value) (g : Nat) (wx : World), Hid (NL w gs s lo hi ((g, ((i : Int) + e) * s.2 - x) :: L) wx) → Q .normal ⟨#[u0, u1, .int .i64 e, .pointer (some ⟨gs, 0, none⟩), u4, u5, u6, u7, u8, .int .i64 (i : Int), .pointer (some ⟨g10, 0, none⟩), u11, .pointer (some ⟨g, 0, none⟩), u13, u14, u15, u16, u17, u18, u19, u20, u21, u22, u23, u24, u25, u26, u27, u28, u29, u30, u31, u32, u33, u34, u35, u36, u37, u38, u39, u40, u41, u42, u43, x44, x45, x46, x47, x48, x49, x50, x51, u52, u53, u54, u55, u56, u57, u58, u59, u60, u61, u62, u63, u64, u65, u66, u67, u68, u69, u70, u71, u72, u73], []⟩ wx) :
    Code.wp Try.prog (neR 9) Q ⟨#[u0, u1, .int .i64 e, .pointer (some ⟨gs, 0, none⟩), u4, u5, u6, u7, u8, .int .i64 (i : Int), .pointer (some ⟨g10, 0, none⟩), u11, u12, u13, u14, u15, u16, u17, u18, u19, u20, u21, u22, u23, u24, u25, u26, u27, u28, u29, u30, u31, u32, u33, u34, u35, u36, u37, u38, u39, u40, u41, u42, u43, u44, u45, u46, u47, u48, u49, u50, u51, u52, u53, u54, u55, u56, u57, u58, u59, u60, u61, u62, u63, u64, u65, u66, u67, u68, u69, u70, u71, u72, u73], []⟩ wr := by
  conv => arg 2; whnf
  have HKK := Lib.hid hK
  clear hK
  have he0 := HA.out.e0
  have he1 := HA.out.e1
  have hi1 := HA.out.i1
  have v1 : IntKind.i64.wrap ((i : Int) + e) = (i : Int) + e := by rw [IntKind.wrap_i64]; omega
  have T := fun w => cRefTimes (a := (i : Int) + e) (b := s.2) (by unfold i64ok; omega) HA.out.s2 w
  have U := fun w => cRefSub (((i : Int) + e) * s.2) x w
  have hgs := Lib.hid H.out.m.l.lt
  have hLs : Hid (∀ p ∈ L, p.1 < wr.heap.size) := Lib.hid (fun p hp => (H.out.bl p hp).2.lt)
  clear he0 he1 hi1
  go_region_held3 (fun w' => NL w gs s lo hi L w' ∧ w'.cell? ⟨gs, 1, none⟩ = some (.int .u64 s.2) ∧ w'.cell? ⟨g10, 0, none⟩ = some (.int .i64 (I128.enc x).1) ∧ w'.cell? ⟨g10, 1, none⟩ = some (.int .u64 (I128.enc x).2))
    (first | exact NL.keep HX H.out.drew | exact NL.keep HX HC.out | exact NL.keep HX HB.out | exact NL.keep HX (HC.out.alloc _) | exact NL.keep HX (HC.out.set2 (by have := hgs.out; have := HB.out.m.l.lt; omega) (fun p hp => by have := hLs.out p hp; have := (HB.out.bl p hp).2.lt; omega)) | exact NL.keep HX ((‹NL _ _ _ _ _ _ _ ∧ _›).1.alloc _) | exact NL.keep HX ((‹NL _ _ _ _ _ _ _ ∧ _›).1.drew) | go_keep)
    (first | (go_at_call 45; refine (T _).mono ?_; rintro e5 w5 ⟨rfl, b5⟩; have HB := Lib.hid ((‹NL _ _ _ _ _ _ _ ∧ _›).1.below b5); have HN := Lib.hid (Blk.below (Blk.new wr 79 #[.int .i64 0, .int .u64 0]).drew b5)) | (go_at_call 45; refine (T _).mono ?_; rintro e5 w5 ⟨rfl, b5⟩; have HB := Lib.hid ((‹NL _ _ _ _ _ _ _ ∧ _›).1.below b5)) | (go_at_call 44; refine (U _).mono ?_; rintro e6 w6 ⟨rfl, b6⟩; have HC := Lib.hid ((‹NL _ _ _ _ _ _ _ ∧ _›).1.below b6); have HN := Lib.hid (Blk.below HN.out b6); obtain ⟨z0, z1, z2, z3⟩ := Blk.cells2 HN.out) | (go_at_call 44; refine (U _).mono ?_; rintro e6 w6 ⟨rfl, b6⟩; have HC := Lib.hid ((‹NL _ _ _ _ _ _ _ ∧ _›).1.below b6); have HN := Lib.hid (Blk.below (Blk.new w5 79 #[.int .i64 0, .int .u64 0]) b6); obtain ⟨z0, z1, z2, z3⟩ := Blk.cells2 HN.out) | (go_at_call 44; refine (U _).mono ?_; rintro e6 w6 ⟨rfl, b6⟩; have HC := Lib.hid ((‹NL _ _ _ _ _ _ _ ∧ _›).1.below b6)))
  all_goals first
    | (have hz := HC.out.m.l.lt; exact HKK.out _ _ _ _ _ _ _ _ w6.heap.size _ (Lib.hid ((HC.out.alloc _).push hz (Blk.new _ _ _))))
    | exact HKK.out _ _ _ _ _ _ _ _ wr.heap.size _ (Lib.hid ((HC.out.set2 hgs.out (fun p hp => by have := hLs.out p hp; omega)).push hgs.out HN.out.set2))
    | exact HKK.out _ _ _ _ _ _ _ _ w5.heap.size _ (Lib.hid ((HC.out.set2 HB.out.m.l.lt (fun p hp => by have := (HB.out.bl p hp).2.lt; omega)).push HB.out.m.l.lt HN.out.set2))
set_option maxHeartbeats 4000000 in
set_option maxRecDepth 100000 in
theorem near_lo {w wr : World} {gs g : Nat} {s : Fr} {lo hi a : Int} {L : List (Nat × Int)} {i : Nat} (H : Hid (NL w gs s lo hi L wr)) (HX : Hid ((g, a) ∈ L)) (ha : i128ok a) (hv : i128ok lo) (u0 u1 u2 u3 u4 u5 u6 u7 u10 u12 u13 u14 u15 u16 u17 u18 u19 u20 u21 u22 u23 u24 u25 u26 u27 u28 u29 u30 u31 u32 u33 u34 u35 u36 u37 u38 u39 u40 u41 u42 u43 u44 u45 u46 u47 u48 u49 u50 u51 u52 u53 u54 u55 u56 u57 u58 u59 u60 u61 u62 u63 u64 u65 u66 u67 u68 u69 u70 u71 u72 u73 : Value) {Q : Exit → Act → World → Prop}
    (hK : ∀ (x52 x53 x54 x55 x56 x57 x58 x59 x60 : Value) (wx : World), Hid (NL w gs s (if i = 0 ∨ lo < a then a else lo) hi L wx) → Q .normal ⟨#[u0, u1, u2, u3, u4, u5, u6, u7, .pointer (some ⟨gs + 1 + 1, 0, none⟩), .int .i64 (i : Int), u10, .pointer (some ⟨g, 0, none⟩), u12, u13, u14, u15, u16, u17, u18, u19, u20, u21, u22, u23, u24, u25, u26, u27, u28, u29, u30, u31, u32, u33, u34, u35, u36, u37, u38, u39, u40, u41, u42, u43, u44, u45, u46, u47, u48, u49, u50, u51, x52, x53, x54, x55, x56, x57, x58, x59, x60, u61, u62, u63, u64, u65, u66, u67, u68, u69, u70, u71, u72, u73], []⟩ wx) :
    Code.wp Try.prog (seqAt 10 neB) Q ⟨#[u0, u1, u2, u3, u4, u5, u6, u7, .pointer (some ⟨gs + 1 + 1, 0, none⟩), .int .i64 (i : Int), u10, .pointer (some ⟨g, 0, none⟩), u12, u13, u14, u15, u16, u17, u18, u19, u20, u21, u22, u23, u24, u25, u26, u27, u28, u29, u30, u31, u32, u33, u34, u35, u36, u37, u38, u39, u40, u41, u42, u43, u44, u45, u46, u47, u48, u49, u50, u51, u52, u53, u54, u55, u56, u57, u58, u59, u60, u61, u62, u63, u64, u65, u66, u67, u68, u69, u70, u71, u72, u73], []⟩ wr := by
  conv => arg 2; whnf
  have HKK := Lib.hid hK
  clear hK
  have C := fun w => cRefCmp ha hv w
  obtain ⟨p0, p1⟩ := H.out.cells HX.out
  obtain ⟨q0, q1, q2, q3⟩ := H.out.m.l.cells2
  clear ha hv
  by_cases h0 : i = 0
  · subst h0
    rw [if_pos (.inl rfl)] at HKK
    have HKK := HKK
    go_wp2_with fail
    exact HKK.out _ _ _ _ _ _ _ _ _ _ (Lib.hid (H.out.setLo a))
  · have g0 : ((i : Int) == 0) = false := beq_eq_false_iff_ne.2 (by omega)
    by_cases h1 : lo < a
    · rw [if_pos (.inr h1)] at HKK
      have hc : cmpI a lo = 1 := cmpI_gt h1
      rw [hc] at C
      clear hc h0 h1
      go_wp2_with fail
      refine (C _).mono ?_
      rintro e5 w5 ⟨rfl, b5⟩
      have HB := Lib.hid (H.out.below b5)
      obtain ⟨y0, y1⟩ := HB.out.cells HX.out
      obtain ⟨x0, x1, x2, x3⟩ := HB.out.m.l.cells2
      clear C p0 p1 q0 q1 q2 q3
      go_wp2_with fail
      exact HKK.out _ _ _ _ _ _ _ _ _ _ (Lib.hid (HB.out.setLo a))
    · rw [if_neg (by rintro (h | h); exact h0 h; exact h1 h)] at HKK
      have hc : decide (0 < cmpI a lo) = false := by unfold cmpI; split <;> (try split) <;> first | rfl | (exfalso; omega)
      generalize cmpI a lo = t at *
      clear h0 h1
      go_wp2_with fail
      refine (C _).mono ?_
      rintro e5 w5 ⟨rfl, b5⟩
      have HB := Lib.hid (H.out.below b5)
      clear C p0 p1 q0 q1 q2 q3
      go_wp2_with fail
      exact HKK.out _ _ _ _ _ _ _ _ _ _ HB
set_option maxHeartbeats 4000000 in
set_option maxRecDepth 100000 in
theorem near_hi {w wr : World} {gs g : Nat} {s : Fr} {lo hi a : Int} {L : List (Nat × Int)} {i : Nat} (H : Hid (NL w gs s lo hi L wr)) (HX : Hid ((g, a) ∈ L)) (ha : i128ok a) (hv : i128ok hi) (u0 u1 u2 u3 u4 u5 u6 u8 u10 u11 u13 u14 u15 u16 u17 u18 u19 u20 u21 u22 u23 u24 u25 u26 u27 u28 u29 u30 u31 u32 u33 u34 u35 u36 u37 u38 u39 u40 u41 u42 u43 u44 u45 u46 u47 u48 u49 u50 u51 u52 u53 u54 u55 u56 u57 u58 u59 u60 u61 u62 u63 u64 u65 u66 u67 u68 u69 u70 u71 u72 u73 : Value) {Q : Exit → Act → World → Prop}
    (hK : ∀ (x61 x62 x63 x64 x65 x66 x67 x68 x69 : Value) (wx : World), Hid (NL w gs s lo (if i = 0 ∨ a < hi then a else hi) L wx) → Q .normal ⟨#[u0, u1, u2, u3, u4, u5, u6, .pointer (some ⟨gs + 1, 0, none⟩), u8, .int .i64 (i : Int), u10, u11, .pointer (some ⟨g, 0, none⟩), u13, u14, u15, u16, u17, u18, u19, u20, u21, u22, u23, u24, u25, u26, u27, u28, u29, u30, u31, u32, u33, u34, u35, u36, u37, u38, u39, u40, u41, u42, u43, u44, u45, u46, u47, u48, u49, u50, u51, u52, u53, u54, u55, u56, u57, u58, u59, u60, x61, x62, x63, x64, x65, x66, x67, x68, x69, u70, u71, u72, u73], []⟩ wx) :
    Code.wp Try.prog (seqAt 12 neB) Q ⟨#[u0, u1, u2, u3, u4, u5, u6, .pointer (some ⟨gs + 1, 0, none⟩), u8, .int .i64 (i : Int), u10, u11, .pointer (some ⟨g, 0, none⟩), u13, u14, u15, u16, u17, u18, u19, u20, u21, u22, u23, u24, u25, u26, u27, u28, u29, u30, u31, u32, u33, u34, u35, u36, u37, u38, u39, u40, u41, u42, u43, u44, u45, u46, u47, u48, u49, u50, u51, u52, u53, u54, u55, u56, u57, u58, u59, u60, u61, u62, u63, u64, u65, u66, u67, u68, u69, u70, u71, u72, u73], []⟩ wr := by
  conv => arg 2; whnf
  have HKK := Lib.hid hK
  clear hK
  have C := fun w => cRefCmp ha hv w
  obtain ⟨p0, p1⟩ := H.out.cells HX.out
  obtain ⟨q0, q1, q2, q3⟩ := H.out.m.t.cells2
  clear ha hv
  by_cases h0 : i = 0
  · subst h0
    rw [if_pos (.inl rfl)] at HKK
    have HKK := HKK
    go_wp2_with fail
    exact HKK.out _ _ _ _ _ _ _ _ _ _ (Lib.hid (H.out.setHi a))
  · have g0 : ((i : Int) == 0) = false := beq_eq_false_iff_ne.2 (by omega)
    by_cases h1 : a < hi
    · rw [if_pos (.inr h1)] at HKK
      have hc : cmpI a hi = -1 := cmpI_lt h1
      rw [hc] at C
      clear hc h0 h1
      go_wp2_with fail
      refine (C _).mono ?_
      rintro e5 w5 ⟨rfl, b5⟩
      have HB := Lib.hid (H.out.below b5)
      obtain ⟨y0, y1⟩ := HB.out.cells HX.out
      obtain ⟨x0, x1, x2, x3⟩ := HB.out.m.t.cells2
      clear C p0 p1 q0 q1 q2 q3
      go_wp2_with fail
      exact HKK.out _ _ _ _ _ _ _ _ _ _ (Lib.hid (HB.out.setHi a))
    · rw [if_neg (by rintro (h | h); exact h0 h; exact h1 h)] at HKK
      have hc : decide (cmpI a hi < 0) = false := by unfold cmpI; split <;> (try split) <;> first | rfl | (exfalso; omega)
      generalize cmpI a hi = t at *
      clear h0 h1
      go_wp2_with fail
      refine (C _).mono ?_
      rintro e5 w5 ⟨rfl, b5⟩
      have HB := Lib.hid (H.out.below b5)
      clear C p0 p1 q0 q1 q2 q3
      go_wp2_with fail
      exact HKK.out _ _ _ _ _ _ _ _ _ _ HB
end Go.Proofs.Ytanhhgifcolfaaa
/-
  The reference's Near: whole.
-/
namespace Go.Proofs.Ytanhhgifcolfaaa
open Go.RowKit
set_option linter.unusedVariables false
set_option linter.unusedSimpArgs false

theorem nAt_ok {s : Fr} {K : List Int} {d : Int} {i : Nat} (h0 : 0 ≤ s.1) (h1 : s.1 ≤ 4611686018427387904) (h2 : u64ok s.2) (hK : U64s K) (hi : i < K.length) (hi1 : (i : Int) ≤ 17592186044416) (hd : -64 ≤ d ∧ d ≤ 64) : i128ok (nAt s K d i) := by
  have k1 : u64ok (K.getD i 0) := by rw [List.getD_eq_getElem?_getD, List.getElem?_eq_getElem hi]; exact hK.at hi
  have k0 : u64ok (K.getD 0 0) := by rw [List.getD_eq_getElem?_getD, List.getElem?_eq_getElem (by omega : 0 < K.length)]; exact hK.at (by omega)
  unfold u64ok at h2 k1 k0
  unfold nAt i128ok
  generalize K.getD i 0 = x at *
  generalize K.getD 0 0 = y at *
  have a1 : ((i : Int) + d) * s.2 ≤ 17592186044480 * 18446744073709551615 := Int.le_trans (Int.mul_le_mul_of_nonneg_right (by omega : (i : Int) + d ≤ 17592186044480) h2.1) (Int.mul_le_mul_of_nonneg_left h2.2 (by omega))
  have a2 : -64 * 18446744073709551615 ≤ ((i : Int) + d) * s.2 := Int.le_trans (by omega : -64 * 18446744073709551615 ≤ -64 * s.2) (Int.mul_le_mul_of_nonneg_right (by omega : -64 ≤ (i : Int) + d) h2.1)
  have b1 : s.1 * (x - y) ≤ 4611686018427387904 * 18446744073709551615 := by
    rcases Int.le_total 0 (x - y) with h | h
    · exact Int.le_trans (Int.mul_le_mul_of_nonneg_right h1 h) (Int.mul_le_mul_of_nonneg_left (by omega) (by omega))
    · have : 0 ≤ s.1 * (y - x) := Int.mul_nonneg h0 (by omega)
      have e : s.1 * (x - y) = -(s.1 * (y - x)) := by rw [← Int.mul_neg]; congr 1; omega
      omega
  have b2 : -(4611686018427387904 * 18446744073709551615) ≤ s.1 * (x - y) := by
    rcases Int.le_total 0 (x - y) with h | h
    · have := Int.mul_nonneg h0 h; omega
    · have : s.1 * (y - x) ≤ 4611686018427387904 * 18446744073709551615 := Int.le_trans (Int.mul_le_mul_of_nonneg_right h1 (by omega)) (Int.mul_le_mul_of_nonneg_left (by omega) (by omega))
      have e : s.1 * (x - y) = -(s.1 * (y - x)) := by rw [← Int.mul_neg]; congr 1; omega
      omega
  omega
theorem nLow_ok {s : Fr} {K : List Int} {e : Int} (h : ∀ i, i < K.length → i128ok (nAt s K (-e) i)) {n : Nat} (hn : n ≤ K.length) : i128ok (nLow s K e n) := by
  by_cases h0 : n = 0
  · subst h0; unfold nLow i128ok; omega
  · obtain ⟨⟨i, hi, he⟩, _⟩ := nLow_max s K e n (by omega)
    rw [he]; exact h i (by omega)
theorem nTop_ok {s : Fr} {K : List Int} {e : Int} (h : ∀ i, i < K.length → i128ok (nAt s K e i)) {n : Nat} (hn : n ≤ K.length) : i128ok (nTop s K e n) := by
  by_cases h0 : n = 0
  · subst h0; unfold nTop i128ok; omega
  · obtain ⟨⟨i, hi, he⟩, _⟩ := nTop_min s K e n (by omega)
    rw [he]; exact h i (by omega)
/-- What Near is asked. -/
structure NQ (w : World) (s : Fr) (K : List Int) (e : Int) (A : Option Addr) : Prop where
  arg : ArgU w A K
  ok : U64s K
  up : K.Pairwise (· < ·)
  len : K.length ≤ 17592186044416
  e0 : 0 ≤ e
  e1 : e ≤ 64
  s0 : 0 ≤ s.1
  s1 : s.1 ≤ 4611686018427387904
  s2 : u64ok s.2
theorem NQ.na {w : World} {s : Fr} {K : List Int} {e : Int} {b o i : Nat} (h : NQ w s K e (some ⟨b, o, none⟩)) (hi : i < K.length) : NA w s b o i (K.getD i 0) (K.getD 0 0) e := by
  obtain ⟨b', o', hA, hb, hc⟩ := h.arg (by omega)
  obtain ⟨rfl, rfl⟩ : b = b' ∧ o = o' := by simpa using hA
  have q : ∀ j, j < K.length → w.cell? ⟨b, o + j, none⟩ = some (.int .u64 (K.getD j 0)) ∧ u64ok (K.getD j 0) := fun j hj => by
    rw [List.getD_eq_getElem?_getD, List.getElem?_eq_getElem hj]; exact ⟨hc j hj, h.ok.at hj⟩
  have hn := h.len
  refine ⟨hb, (q i hi).1, (q 0 (by omega)).1, (q i hi).2, (q 0 (by omega)).2, ?_, by omega, h.e0, h.e1, h.s0, h.s1, h.s2⟩
  by_cases h0 : i = 0
  · subst h0; exact Int.le_refl _
  · exact Int.le_of_lt (getD_lt h.up (by omega) hi)
theorem NQ.low {w : World} {s : Fr} {K : List Int} {e : Int} {A : Option Addr} (h : NQ w s K e A) : (∀ i, i < K.length → i128ok (nAt s K (-e) i)) ∧ ∀ i, i < K.length → i128ok (nAt s K e i) := by
  have := h.e0; have := h.e1; have := h.len
  exact ⟨fun i hi => nAt_ok h.s0 h.s1 h.s2 h.ok hi (by omega) (by omega), fun i hi => nAt_ok h.s0 h.s1 h.s2 h.ok hi (by omega) (by omega)⟩
set_option maxHeartbeats 4000000 in
set_option maxRecDepth 100000 in
theorem near_round {w wr : World} {gs : Nat} {s : Fr} {b o i c : Nat} {K : List Int} {e : Int} (HM : Hid (NL w gs s (nLow s K e i) (nTop s K e i) [] wr)) (HA : Hid (NA w s b o i (K.getD i 0) (K.getD 0 0) e)) (hlt : i < K.length) (hn : K.length ≤ 17592186044416) (hv : Hid (i128ok (nAt s K (-e) i) ∧ i128ok (nAt s K e i))) (hu : Hid (i128ok (nLow s K e i) ∧ i128ok (nTop s K e i))) (u0 u4 u5 u6 u10 u11 u12 u13 u14 u15 u16 u17 u18 u19 u20 u21 u22 u23 u24 u25 u26 u27 u28 u29 u30 u31 u32 u33 u34 u35 u36 u37 u38 u39 u40 u41 u42 u43 u44 u45 u46 u47 u48 u49 u50 u51 u52 u53 u54 u55 u56 u57 u58 u59 u60 u61 u62 u63 u64 u65 u66 u67 u68 u69 u70 u71 u72 u73 : Value) {Q : Exit → Act → World → Prop}
    (hK : ∀ (x10 x11 x12 x25 x26 x27 x28 x29 x30 x31 x32 x33 x34 x35 x36 x37 x38 x39 x40 x41 x42 x43 x44 x45 x46 x47 x48 x49 x50 x51 x52 x53 x54 x55 x56 x57 x58 x59 x60 x61 x62 x63 x64 x65 x66 x67 x68 x69 : Value) (wx : World), Hid (NL w gs s (nLow s K e (i + 1)) (nTop s K e (i + 1)) [] wx) → Q .normal ⟨#[u0, .slice (some ⟨b, o, none⟩) K.length c, .int .i64 e, .pointer (some ⟨gs, 0, none⟩), u4, u5, u6, .pointer (some ⟨gs + 1, 0, none⟩), .pointer (some ⟨gs + 1 + 1, 0, none⟩), .int .i64 (i : Int), x10, x11, x12, u13, u14, u15, u16, u17, u18, u19, u20, u21, u22, u23, u24, x25, x26, x27, x28, x29, x30, x31, x32, x33, x34, x35, x36, x37, x38, x39, x40, x41, x42, x43, x44, x45, x46, x47, x48, x49, x50, x51, x52, x53, x54, x55, x56, x57, x58, x59, x60, x61, x62, x63, x64, x65, x66, x67, x68, x69, u70, u71, u72, u73], []⟩ wx) :
    Code.wp Try.prog (blkAt 1 neB) Q ⟨#[u0, .slice (some ⟨b, o, none⟩) K.length c, .int .i64 e, .pointer (some ⟨gs, 0, none⟩), u4, u5, u6, .pointer (some ⟨gs + 1, 0, none⟩), .pointer (some ⟨gs + 1 + 1, 0, none⟩), .int .i64 (i : Int), u10, u11, u12, u13, u14, u15, u16, u17, u18, u19, u20, u21, u22, u23, u24, u25, u26, u27, u28, u29, u30, u31, u32, u33, u34, u35, u36, u37, u38, u39, u40, u41, u42, u43, u44, u45, u46, u47, u48, u49, u50, u51, u52, u53, u54, u55, u56, u57, u58, u59, u60, u61, u62, u63, u64, u65, u66, u67, u68, u69, u70, u71, u72, u73], []⟩ wr := by
  conv => arg 2; whnf
  have HKK := Lib.hid hK
  clear hK
  refine wp_block ?_
  refine wp_seq ?_
  refine near_far (Lib.hid HM.out.m) HA hlt hn _ _ _ _ _ _ _ _ _ _ _ _ _ _ _ _ _ _ _ _ _ _ _ _ _ _ _ _ _ _ _ _ _ _ _ _ _ _ _ _ _ _ _ _ _ _ _ _ _ _ _ _ _ _ _ _ _ _ _ _ _ _ _ _ _ _ _ _ ?_
  intro _ _ _ _ _ _ _ _ _ _ _ g10 w1 H1
  have M1 : Hid (NL w gs s (nLow s K e i) (nTop s K e i) [(g10, s.1 * (K.getD i 0 - K.getD 0 0))] w1) := Lib.hid ((show NL w gs s (nLow s K e i) (nTop s K e i) [] w1 from ⟨H1.out.1, fun p hp => by simp at hp⟩).push H1.out.2.2 H1.out.2.1)
  clear H1 HM
  show Code.wp _ _ _ _ _
  refine wp_seq ?_
  refine near_a M1 HA (Lib.hid List.mem_cons_self) _ _ _ _ _ _ _ _ _ _ _ _ _ _ _ _ _ _ _ _ _ _ _ _ _ _ _ _ _ _ _ _ _ _ _ _ _ _ _ _ _ _ _ _ _ _ _ _ _ _ _ _ _ _ _ _ _ _ _ _ _ _ _ _ _ _ _ _ _ _ ?_
  intro _ _ _ _ _ _ _ _ g11 w2 M2
  clear M1
  show Code.wp _ _ _ _ _
  refine wp_seq ?_
  refine near_b M2 HA (Lib.hid (List.mem_cons_of_mem _ List.mem_cons_self)) _ _ _ _ _ _ _ _ _ _ _ _ _ _ _ _ _ _ _ _ _ _ _ _ _ _ _ _ _ _ _ _ _ _ _ _ _ _ _ _ _ _ _ _ _ _ _ _ _ _ _ _ _ _ _ _ _ _ _ _ _ _ _ _ _ _ _ _ _ _ ?_
  intro _ _ _ _ _ _ _ _ g12 w3 M3
  clear M2
  have e1 : ((i : Int) - e) * s.2 - s.1 * (K.getD i 0 - K.getD 0 0) = nAt s K (-e) i := rfl
  have e2 : ((i : Int) + e) * s.2 - s.1 * (K.getD i 0 - K.getD 0 0) = nAt s K e i := rfl
  rw [e1, e2] at M3
  clear e1 e2
  have c12 : (g12, nAt s K e i) ∈ [(g12, nAt s K e i), (g11, nAt s K (-e) i), (g10, s.1 * (K.getD i 0 - K.getD 0 0))] := List.mem_cons_self
  have c11 : (g11, nAt s K (-e) i) ∈ [(g12, nAt s K e i), (g11, nAt s K (-e) i), (g10, s.1 * (K.getD i 0 - K.getD 0 0))] := List.mem_cons_of_mem _ List.mem_cons_self
  show Code.wp _ _ _ _ _
  refine wp_seq ?_
  refine near_lo M3 (Lib.hid c11) hv.out.1 hu.out.1 _ _ _ _ _ _ _ _ _ _ _ _ _ _ _ _ _ _ _ _ _ _ _ _ _ _ _ _ _ _ _ _ _ _ _ _ _ _ _ _ _ _ _ _ _ _ _ _ _ _ _ _ _ _ _ _ _ _ _ _ _ _ _ _ _ _ _ _ _ _ _ ?_
  intro _ _ _ _ _ _ _ _ _ w4 M4
  clear M3
  show Code.wp _ _ _ _ _
  refine near_hi M4 (Lib.hid c12) hv.out.2 hu.out.2 _ _ _ _ _ _ _ _ _ _ _ _ _ _ _ _ _ _ _ _ _ _ _ _ _ _ _ _ _ _ _ _ _ _ _ _ _ _ _ _ _ _ _ _ _ _ _ _ _ _ _ _ _ _ _ _ _ _ _ _ _ _ _ _ _ _ _ _ _ _ _ ?_
  intro _ _ _ _ _ _ _ _ _ w5 M5
  exact HKK.out _ _ _ _ _ _ _ _ _ _ _ _ _ _ _ _ _ _ _ _ _ _ _ _ _ _ _ _ _ _ _ _ _ _ _ _ _ _ _ _ _ _ _ _ _ _ _ _ w5 (Lib.hid (by
    unfold nLow nTop
    exact ⟨M5.out.m, fun p hp => by simp at hp⟩))
set_option maxHeartbeats 4000000 in
set_option maxRecDepth 100000 in
theorem ref_Near {w : World} {s : Fr} {K : List Int} {e : Int} {A : Option Addr} {c : Nat} (Q : NQ w s K e A) :
    Calls Try.prog 25 #[.agg #[.int .u64 s.1, .int .u64 s.2], .slice A K.length c, .int .i64 e] w fun e' w' => e' = .returned (.bool (nearB s K e)) ∧ Below w.heap.size w w' := by
  have HQ := Lib.hid Q
  clear Q
  by_cases hz : s.2 = 0
  · have HB : Hid (nearB s K e = decide (K.length < 2)) := Lib.hid (by unfold nearB; rw [if_pos hz])
    obtain ⟨p, q⟩ := s
    simp only [] at hz
    subst hz
    by_cases h2 : K.length < 2
    · have g2 : decide ((K.length : Int) < 2) = true := by simpa using (by omega : (K.length : Int) < 2)
      have HD : Hid (decide (K.length < 2) = true) := Lib.hid (by simpa using h2)
      clear h2
      go_enter Try.func25, Try.ntmps25
      go_wp2_with fail
      go_ret
      exact ⟨by rw [HB.out, HD.out]; rfl, below_new (Below.refl _ _) _⟩
    · have g2 : decide ((K.length : Int) < 2) = false := by simpa using (by omega : 2 ≤ (K.length : Int))
      have HD : Hid (decide (K.length < 2) = false) := Lib.hid (by simpa using (by omega : 2 ≤ K.length))
      clear h2
      go_enter Try.func25, Try.ntmps25
      go_wp2_with fail
      go_ret
      exact ⟨by rw [HB.out, HD.out]; rfl, below_new (Below.refl _ _) _⟩
  · have hz0 : (s.2 == 0) = false := by simpa using hz
    have HN : Hid (nearB s K e = decide (nLow s K e K.length ≤ nTop s K e K.length)) := Lib.hid (by unfold nearB; rw [if_neg hz])
    have N0 : Hid (NL w w.heap.size s (nLow s K e 0) (nTop s K e 0) [] (((w.alloc (.cells #[.int .u64 s.1, .int .u64 s.2] 39)).alloc (.cells #[.int .i64 0, .int .u64 0] 79)).alloc (.cells #[.int .i64 0, .int .u64 0] 79))) := Lib.hid (by
      have e0 : I128.enc 0 = (0, 0) := by decide +kernel
      refine ⟨⟨((Blk.new _ _ _).alloc _).alloc _, ?_, ?_, Nat.le_refl _, below_new (below_new (below_new (Below.refl _ _) _) _) _⟩, fun p hp => by simp at hp⟩
      · unfold nTop; rw [e0]; exact (Blk.new' _ _ (by simp)).alloc _
      · unfold nLow; rw [e0]; exact Blk.new' _ _ (by simp))
    clear hz
    go_enter Try.func25, Try.ntmps25
    go_wp2_with fail
    go_loopw [9] (fun x wr => ∃ i : Nat, i ≤ K.length ∧ x = .int .i64 i ∧ Hid (NL w w.heap.size s (nLow s K e i) (nTop s K e i) [] wr)) (fun x _ => K.length - (intOf x).toNat)
    case atStart => exact ⟨0, Nat.zero_le _, rfl, N0⟩
    case round =>
      obtain ⟨i, hi, rfl, HM⟩ := hrel
      clear N0
      have hn := HQ.out.len
      by_cases hlt : i < K.length
      · obtain ⟨b, o, rfl, _⟩ := HQ.out.arg (by omega)
        have HA := Lib.hid (HQ.out.na hlt)
        have hv := Lib.hid (And.intro (HQ.out.low.1 i hlt) (HQ.out.low.2 i hlt))
        have hu := Lib.hid (And.intro (nLow_ok HQ.out.low.1 hi) (nTop_ok HQ.out.low.2 hi))
        go_upto_block 1 with fail
        refine near_round HM HA hlt hn hv hu _ _ _ _ _ _ _ _ _ _ _ _ _ _ _ _ _ _ _ _ _ _ _ _ _ _ _ _ _ _ _ _ _ _ _ _ _ _ _ _ _ _ _ _ _ _ _ _ _ _ _ _ _ _ _ _ _ _ _ _ _ _ _ _ _ _ _ _ ?_
        intro _ _ _ _ _ _ _ _ _ _ _ _ _ _ _ _ _ _ _ _ _ _ _ _ _ _ _ _ _ _ _ _ _ _ _ _ _ _ _ _ _ _ _ _ _ _ _ _ w5 M6
        clear HM hv hu HA
        go_wp2_with fail
        go_roundw
        case rel => exact ⟨i + 1, by omega, by go_num, M6⟩
        case measure => simp [intOf]; omega
      · have g2 : decide (i < K.length) = false := by simpa using hlt
        obtain rfl : i = K.length := by omega
        have hu := And.intro (nLow_ok HQ.out.low.1 hi) (nTop_ok HQ.out.low.2 hi)
        have CC := fun w => cRefCmp hu.1 hu.2 w
        clear hu
        obtain ⟨p0, p1, _, _⟩ := HM.out.m.l.cells2
        obtain ⟨q0, q1, _, _⟩ := HM.out.m.t.cells2
        go_wp2_with fail
        refine (CC _).mono ?_
        rintro e5 w5 ⟨rfl, b5⟩
        have HF : Hid (decide (cmpI (nLow s K e K.length) (nTop s K e K.length) ≤ 0) = nearB s K e ∧ Below w.heap.size w w5) := Lib.hid ⟨by
          rw [HN.out]
          unfold cmpI
          rw [Bool.eq_iff_iff]
          split <;> (try split) <;> simp <;> omega, below_next HM.out.m.bel b5⟩
        clear CC p0 p1 q0 q1
        go_wp2_with fail
        go_ret
        exact ⟨by rw [← HF.out.1]; rfl, HF.out.2⟩
end Go.Proofs.Ytanhhgifcolfaaa
