/-
  Of of the program and of the reference.
-/
import Derived.Test.YtnccgpdniigekaaQG15
import Derived.Test.YtnccgpdniigekaaQG10
import Derived.Test.YtnccgpdniigekaaQG6
namespace Go.Proofs.Ytnccgpdniigekaa
open Go.RowKit
set_option linter.unusedVariables false
set_option linter.unusedSimpArgs false
attribute [local go_sem high] binOp_lss64 binOp_gtr64 binOp_geq64 binOp_leq64 binOp_eql64 binOp_neq64 f64bits frombits

theorem run_store_float {P : Program} {w : World} {a : Addr} {m : Mode} (k : FloatKind) (n : Nat) : (store a (.float k n) m).run P w = stored P w a (.float k n) m := run_store P w a _ m rfl
attribute [local go_sem high] run_store_float
theorem Blk.set5 {w : World} {g : Nat} {t : TypeId} {a b c d e u v x y z : Value} (h : Blk w g t #[a, b, c, d, e]) : Blk (((((w.setCell ⟨g, 0, none⟩ u).setCell ⟨g, 1, none⟩ v).setCell ⟨g, 2, none⟩ x).setCell ⟨g, 3, none⟩ y).setCell ⟨g, 4, none⟩ z) g t #[u, v, x, y, z] := ((((h.set 0 u).set 1 v).set 2 x).set 3 y).set 4 z
theorem below_set5 {w a : World} {B g : Nat} {u v x y z : Value} (h : Below B a w) (hB : B ≤ g) : Below B a (((((w.setCell ⟨g, 0, none⟩ u).setCell ⟨g, 1, none⟩ v).setCell ⟨g, 2, none⟩ x).setCell ⟨g, 3, none⟩ y).setCell ⟨g, 4, none⟩ z) := ((((h.setCell hB _).setCell hB _).setCell hB _).setCell hB _).setCell hB _
theorem keep5 {w : World} {g b o : Nat} {u v x y z c : Value} (hp : b ≠ g) (h : w.cell? ⟨b, o, none⟩ = some c) : (((((w.setCell ⟨g, 0, none⟩ u).setCell ⟨g, 1, none⟩ v).setCell ⟨g, 2, none⟩ x).setCell ⟨g, 3, none⟩ y).setCell ⟨g, 4, none⟩ z).drew.cell? ⟨b, o, none⟩ = some c := by
  have q : ∀ k, (⟨b, o, none⟩ : Addr) ≠ ⟨g, k, none⟩ := fun k h => hp (congrArg Addr.block h)
  rw [World.cell?_drew, World.cell?_setCell_other _ _ _ _ (q 4).symm, World.cell?_setCell_other _ _ _ _ (q 3).symm, World.cell?_setCell_other _ _ _ _ (q 2).symm, World.cell?_setCell_other _ _ _ _ (q 1).symm, World.cell?_setCell_other _ _ _ _ (q 0).symm]
  exact h
theorem Blk.cells5 {w : World} {g : Nat} {t : TypeId} {a b c d e : Value} (h : Blk w g t #[a, b, c, d, e]) : w.cell? ⟨g, 0, none⟩ = some a ∧ w.cell? ⟨g, 1, none⟩ = some b ∧ w.cell? ⟨g, 2, none⟩ = some c ∧ w.cell? ⟨g, 3, none⟩ = some d ∧ w.cell? ⟨g, 4, none⟩ = some e ∧
    w.frozen? ⟨g, 0, none⟩ = false ∧ w.frozen? ⟨g, 1, none⟩ = false ∧ w.frozen? ⟨g, 2, none⟩ = false ∧ w.frozen? ⟨g, 3, none⟩ = false ∧ w.frozen? ⟨g, 4, none⟩ = false := ⟨h.cell 0, h.cell 1, h.cell 2, h.cell 3, h.cell 4, h.free 0, h.free 1, h.free 2, h.free 3, h.free 4⟩

/-- What a line that there is has for parts. -/
theorem lineOf_parts {L : List Int} {eps : Int} (hL : U64s L) (hn : L.length ≤ 17592186044416) (h : (lineOf L eps).2 = 0) :
    ∃ (p q : Nat) (bs : Int), lineOf L eps = (((p : Int), (q : Int), bs), 0) ∧ p < 18446744073709551616 ∧ q < 18446744073709551616 ∧ 0 < q ∧ -64 ≤ bs ∧ bs ≤ 17592186044416 ∧ 0 < L.length := by
  obtain ⟨F, hF⟩ := lineOf_is h
  obtain ⟨hok, n0, n1⟩ := hF.lnOk hL hn (d := 0) (.inl rfl)
  have hb := (hF.fits hn).2.2
  have hq := hok.q
  have hd := hF.den
  unfold u64ok at hq
  simp only [] at hq
  refine ⟨F.low.1.toNat, F.low.2.toNat, baseOf F.low L (eps - 1) L.length, ?_, by omega, by omega, by omega, hb.1, hb.2, hF.pos⟩
  rw [Int.toNat_of_nonneg n0, Int.toNat_of_nonneg (by omega)]
  exact hF.is
def OfP (w : World) (L : List Int) (eps fr : Int) (e : Ending) (w' : World) : Prop := e = .returned (.tuple #[(ofS L eps fr).1.v, .int .i64 (ofS L eps fr).2]) ∧ Below w.heap.size w w'
theorem ofP_zero {w w' : World} {L : List Int} {eps fr c : Int} (h : ofS L eps fr = (⟨0, 0, 0, 0, 0⟩, c)) (hb : Below w.heap.size w w') : OfP w L eps fr (.returned (.tuple #[.agg #[.int .u64 0, .float .f64 0, .float .f64 0, .int .i64 0, .int .i64 0], .int .i64 c])) w' := by
  unfold OfP; rw [h]; exact ⟨rfl, hb⟩
theorem ofP_seg {w w' : World} {L : List Int} {eps fr : Int} {s : Sg} (h : ofS L eps fr = (s, 0)) (hb : Below w.heap.size w w') : OfP w L eps fr (.returned (.tuple #[.agg #[.int .u64 s.first, .float .f64 s.sl, .float .f64 s.ic, .int .i64 s.fr, .int .i64 s.up], .int .i64 0])) w' := by
  unfold OfP; rw [h]; exact ⟨rfl, hb⟩


set_option maxRecDepth 100000 in
set_option maxHeartbeats 4000000 in
theorem refOfS_any (A : Option Addr) (c : Nat) (L : List Int) (eps fr : Int) (hfr : i64ok fr) (hL : U64s L) (hn : L.length ≤ 17592186044416) (w : World) (hA : ArgU w A L) :
    Calls Try.prog 44 #[.slice A L.length c, .int .i64 eps, .int .i64 fr] w (OfP w L eps fr) := by
  have O1 := fun w' h => refOf_any A c L eps hL hn w' h
  unfold OfPost at O1
  have B0 : Hid (Blk (w.alloc (.cells #[.int .u64 0, .float .f64 0, .float .f64 0, .int .i64 0, .int .i64 0] 33)) w.heap.size 33 #[.int .u64 0, .float .f64 0, .float .f64 0, .int .i64 0, .int .i64 0] ∧ Below w.heap.size w (w.alloc (.cells #[.int .u64 0, .float .f64 0, .float .f64 0, .int .i64 0, .int .i64 0] 33))) := Lib.hid ⟨Blk.new _ _ _, below_new (Below.refl _ _) _⟩
  have O2 := O1 _ (hA.below B0.out.2)
  clear O1
  by_cases he : (lineOf L eps).2 = 0
  · obtain ⟨p, q, bs, hl, hp, hq, hq0, hb1, hb2, hl0⟩ := lineOf_parts hL hn he
    rw [hl] at O2
    simp only [] at O2
    have g3 : ((0 : Int) == 0) = true := rfl
    unfold i64ok at hfr
    have v1 : wrap64 (4294967296 - (L.length : Int)) = 4294967296 - (L.length : Int) := by unfold wrap64; omega
    by_cases hbad : fr < 0 ∨ 4294967296 - (L.length : Int) < fr
    · have HV : Hid (ofS L eps fr = (⟨0, 0, 0, 0, 0⟩, 1)) := Lib.hid (by unfold ofS; rw [hl]; simp only []; rw [if_neg (by simp), if_pos hbad])
      clear hL hA he hl
      by_cases h1 : fr < 0
      · clear hbad
        go_enter Try.func44, Try.ntmps44
        go_wp2_with fail
        refine O2.mono ?_
        rintro e w1 ⟨rfl, k1⟩
        have K1 := Lib.hid (And.intro ((B0.out.1.below k1).alloc (.cells #[.int .u64 p, .int .u64 q, .int .i64 bs] 106)) (And.intro (below_new (below_next B0.out.2 k1) (.cells #[.int .u64 p, .int .u64 q, .int .i64 bs] 106)) (Blk.new w1 106 #[.int .u64 p, .int .u64 q, .int .i64 bs])))
        obtain ⟨d0, d1, d2, d3, d4, f0, f1, f2, f3, f4⟩ := K1.out.1.cells5
        obtain ⟨p0, p1, p2, _⟩ := K1.out.2.2.cells3
        have HZ : Hid (w.heap.size < w1.heap.size) := Lib.hid (Nat.lt_of_lt_of_le (by simp) k1.size)
        clear k1 B0 O2
        go_wp2_with fail
        refine bodyPost_ret (v := .tuple #[.agg #[.int .u64 0, .float .f64 0, .float .f64 0, .int .i64 0, .int .i64 0], .int .i64 1]) (results_ct (p := 6) (u := 7) (ty := 33) (t := 33) rfl _ rfl rfl ?_ Try.underlying33 rfl (by kernel_rfl)) rfl (ofP_zero HV.out ?_)
        · exact (K1.out.1.set5)
        · exact below_set5 K1.out.2.1 (Nat.le_refl _)
      · have h2 : 4294967296 - (L.length : Int) < fr := by omega
        clear hbad
        go_enter Try.func44, Try.ntmps44
        go_wp2_with fail
        refine O2.mono ?_
        rintro e w1 ⟨rfl, k1⟩
        have K1 := Lib.hid (And.intro ((B0.out.1.below k1).alloc (.cells #[.int .u64 p, .int .u64 q, .int .i64 bs] 106)) (And.intro (below_new (below_next B0.out.2 k1) (.cells #[.int .u64 p, .int .u64 q, .int .i64 bs] 106)) (Blk.new w1 106 #[.int .u64 p, .int .u64 q, .int .i64 bs])))
        obtain ⟨d0, d1, d2, d3, d4, f0, f1, f2, f3, f4⟩ := K1.out.1.cells5
        obtain ⟨p0, p1, p2, _⟩ := K1.out.2.2.cells3
        have HZ : Hid (w.heap.size < w1.heap.size) := Lib.hid (Nat.lt_of_lt_of_le (by simp) k1.size)
        clear k1 B0 O2
        go_wp2_with fail
        refine bodyPost_ret (v := .tuple #[.agg #[.int .u64 0, .float .f64 0, .float .f64 0, .int .i64 0, .int .i64 0], .int .i64 1]) (results_ct (p := 6) (u := 7) (ty := 33) (t := 33) rfl _ rfl rfl ?_ Try.underlying33 rfl (by kernel_rfl)) rfl (ofP_zero HV.out ?_)
        · exact (K1.out.1.set5)
        · exact below_set5 K1.out.2.1 (Nat.le_refl _)
    · have h1 : ¬ fr < 0 := by omega
      have h2 : ¬ 4294967296 - (L.length : Int) < fr := by omega
      obtain ⟨b, o, rfl, hb, hc0, hc⟩ := hA.first hl0
      have HV : Hid (ofS L eps fr = (⟨L.getD 0 0, nearF p q, floatOfInt .f64 (wrap64 (fr + bs)), fr, fr + L.length⟩, 0)) := Lib.hid (by unfold ofS; rw [hl]; simp only []; rw [if_neg (by simp), if_neg hbad, Int.toNat_natCast, Int.toNat_natCast])
      have HC := Lib.hid (And.intro hb hc0)
      have NN := refNear_any p q hp hq
      have v2 : IntKind.i64.wrap (fr + bs) = wrap64 (fr + bs) := by
        rw [IntWalk.i64_in _ (by omega)]; unfold wrap64; omega
      have v3 : IntKind.i64.wrap (fr + (L.length : Int)) = fr + L.length := IntWalk.i64_in _ (by omega)
      have i00 : (0 : Int) < (L.length : Int) := by omega
      obtain ⟨k0, hk0⟩ : ∃ k0, L.getD 0 0 = k0 := ⟨_, rfl⟩
      rw [hk0] at HV HC
      obtain ⟨fl, hfl⟩ : ∃ fl, nearF p q = fl := ⟨_, rfl⟩
      rw [hfl] at HV NN
      obtain ⟨m, hm⟩ : ∃ m, wrap64 (fr + bs) = m := ⟨_, rfl⟩
      rw [hm] at HV v2
      generalize nearE q = ne at NN
      clear hbad hL hA he hl hb hc0 hc hk0 hfl hm hfr hb1 hb2 hp hq
      go_enter Try.func44, Try.ntmps44
      go_wp2_with fail
      refine O2.mono ?_
      rintro e w1 ⟨rfl, k1⟩
      have K1 := Lib.hid (And.intro ((B0.out.1.below k1).alloc (.cells #[.int .u64 p, .int .u64 q, .int .i64 bs] 106)) (And.intro (below_new (below_next B0.out.2 k1) (.cells #[.int .u64 p, .int .u64 q, .int .i64 bs] 106)) (Blk.new w1 106 #[.int .u64 p, .int .u64 q, .int .i64 bs])))
      obtain ⟨d0, d1, d2, d3, d4, f0, f1, f2, f3, f4⟩ := K1.out.1.cells5
      obtain ⟨p0, p1, p2, _⟩ := K1.out.2.2.cells3
      have HZ : Hid (w.heap.size < w1.heap.size) := Lib.hid (Nat.lt_of_lt_of_le (by simp) k1.size)
      clear k1 B0 O2
      go_wp2_with fail
      refine (NN _).mono ?_
      rintro e w4 ⟨rfl, h4⟩; have b4 : Below (w1.alloc (.cells #[.int .u64 p, .int .u64 q, .int .i64 bs] 106)).heap.size (w1.alloc (.cells #[.int .u64 p, .int .u64 q, .int .i64 bs] 106)) w4 := h4 ▸ Below.refl _ _; clear h4
      have K2 := Lib.hid (And.intro (K1.out.1.below b4) (And.intro (below_next K1.out.2.1 b4) (K1.out.2.2.below b4)))
      clear b4 K1
      obtain ⟨d0, d1, d2, d3, d4, f0, f1, f2, f3, f4⟩ := K2.out.1.cells5
      obtain ⟨p0, p1, p2, _⟩ := K2.out.2.2.cells3
      have ck := (K2.out.2.1.cell (p := ⟨b, o, none⟩) HC.out.1).trans HC.out.2
      have ckd : w4.drew.cell? ⟨b, o, none⟩ = some (.int .u64 k0) := by simpa using ck
      have p2d : w4.drew.cell? ⟨w1.heap.size, 2, none⟩ = some (.int .i64 bs) := by simpa using p2
      have hb1 : b ≠ w.heap.size := Nat.ne_of_lt HC.out.1
      have hb2 : w1.heap.size ≠ w.heap.size := Nat.ne_of_gt HZ.out
      go_upto_region 7 with fail
      go_region_held3 (fun w' => w'.cell? ⟨b, o, none⟩ = some (.int .u64 k0) ∧ w'.cell? ⟨w1.heap.size, 2, none⟩ = some (.int .i64 bs)) (first | (with_reducible exact ⟨ckd, p2d⟩) | (with_reducible exact ⟨keep5 hb1 ck, keep5 hb2 p2⟩) | go_keep) (fail)
      have END := Lib.hid (And.intro (K2.out.1.set5 (u := .int .u64 k0) (v := .float .f64 fl) (x := .float .f64 (floatOfInt .f64 m)) (y := .int .i64 fr) (z := .int .i64 (fr + L.length))).drew (below_set5 (g := w.heap.size) (u := .int .u64 k0) (v := .float .f64 fl) (x := .float .f64 (floatOfInt .f64 m)) (y := .int .i64 fr) (z := .int .i64 (fr + L.length)) K2.out.2.1 (Nat.le_refl _)).drew)
      go_wp2_with fail
      refine bodyPost_ret (v := .tuple #[.agg #[.int .u64 k0, .float .f64 fl, .float .f64 (floatOfInt .f64 m), .int .i64 fr, .int .i64 (fr + L.length)], .int .i64 0]) (results_ct (p := 6) (u := 7) (ty := 33) (t := 33) rfl _ rfl rfl ?_ Try.underlying33 rfl (by kernel_rfl)) rfl (ofP_seg HV.out ?_)
      · exact END.out.1
      · exact END.out.2
  · have HV : Hid (ofS L eps fr = (⟨0, 0, 0, 0, 0⟩, (lineOf L eps).2)) := Lib.hid (by unfold ofS; rw [if_pos he])
    have hz : ((lineOf L eps).2 == 0) = false := by simpa using he
    obtain ⟨⟨⟨p, q, bs⟩, k⟩, hl⟩ : ∃ r, lineOf L eps = r := ⟨_, rfl⟩
    rw [hl] at O2 HV hz
    simp only [] at O2 HV hz
    clear hL hA he hl
    go_enter Try.func44, Try.ntmps44
    go_wp2_with fail
    refine O2.mono ?_
    rintro e w1 ⟨rfl, k1⟩
    have K1 := Lib.hid (And.intro ((B0.out.1.below k1).alloc (.cells #[.int .u64 p, .int .u64 q, .int .i64 bs] 106)) (And.intro (below_new (below_next B0.out.2 k1) (.cells #[.int .u64 p, .int .u64 q, .int .i64 bs] 106)) (Blk.new w1 106 #[.int .u64 p, .int .u64 q, .int .i64 bs])))
    obtain ⟨d0, d1, d2, d3, d4, f0, f1, f2, f3, f4⟩ := K1.out.1.cells5
    obtain ⟨p0, p1, p2, _⟩ := K1.out.2.2.cells3
    have HZ : Hid (w.heap.size < w1.heap.size) := Lib.hid (Nat.lt_of_lt_of_le (by simp) k1.size)
    clear k1 B0 O2
    go_wp2_with fail
    refine bodyPost_ret (v := .tuple #[.agg #[.int .u64 0, .float .f64 0, .float .f64 0, .int .i64 0, .int .i64 0], .int .i64 k]) (results_ct (p := 6) (u := 7) (ty := 33) (t := 33) rfl _ rfl rfl ?_ Try.underlying33 rfl (by kernel_rfl)) rfl (ofP_zero HV.out ?_)
    · exact (K1.out.1.set5)
    · exact below_set5 K1.out.2.1 (Nat.le_refl _)
end Go.Proofs.Ytnccgpdniigekaa
