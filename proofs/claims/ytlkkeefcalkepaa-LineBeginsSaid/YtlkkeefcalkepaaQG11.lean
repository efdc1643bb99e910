/-
  above: whether a line's slope is above another one's.
-/
import Derived.Test.YtlkkeefcalkepaaQHuRef
import Derived.Test.YtlkkeefcalkepaaQG5
import Derived.Test.YtlkkeefcalkepaaQG10
namespace Go.Proofs.Ytlkkeefcalkepaa
open Go.RowKit
set_option linter.unusedVariables false
set_option linter.unusedSimpArgs false

theorem times_plain (p11 p10 p01 p00 P : Int) (hP : P = p11 * 18446744073709551616 + (p10 + p01) * 4294967296 + p00) (h00 : 0 ≤ p00) (h10 : 0 ≤ p10) (h01 : 0 ≤ p01) (h11 : 0 ≤ p11)
    (k00 : p00 ≤ 18446744065119617025) (k10 : p10 ≤ 18446744065119617025) (k01 : p01 ≤ 18446744065119617025) (k11 : p11 ≤ 18446744065119617025) :
    p11 + (p10 + p00 / 4294967296) / 4294967296 + (p01 + (p10 + p00 / 4294967296) % 4294967296) / 4294967296 = P / 18446744073709551616 ∧
    ((p01 + (p10 + p00 / 4294967296)) % 4294967296) * 4294967296 + p00 % 4294967296 = P % 18446744073709551616 := by
  subst hP
  omega
set_option maxHeartbeats 2000000 in
theorem times5_any (a b : Int) (ha : u64ok a) (hb : u64ok b) (w : World) :
    Calls Try.prog 34 #[.int .u64 a, .int .u64 b] w fun e w' => e = .returned (.tuple #[.int .u64 (a * b / 18446744073709551616), .int .u64 (a * b % 18446744073709551616)]) ∧ w = w' := by
  unfold u64ok at ha hb
  have W0 := whole_prod a b
  rw [← Int.tmod_eq_emod_of_nonneg ha.1, ← Int.tmod_eq_emod_of_nonneg hb.1, ← Int.tdiv_eq_ediv_of_nonneg (b := 4294967296) ha.1, ← Int.tdiv_eq_ediv_of_nonneg (b := 4294967296) hb.1] at W0
  obtain ⟨a0, ea0, ha0, ka0⟩ : ∃ x, a.tmod 4294967296 = x ∧ 0 ≤ x ∧ x ≤ 4294967295 := ⟨_, rfl, by rw [Int.tmod_eq_emod_of_nonneg ha.1]; omega, by rw [Int.tmod_eq_emod_of_nonneg ha.1]; omega⟩
  obtain ⟨b0, eb0, hb0, kb0⟩ : ∃ x, b.tmod 4294967296 = x ∧ 0 ≤ x ∧ x ≤ 4294967295 := ⟨_, rfl, by rw [Int.tmod_eq_emod_of_nonneg hb.1]; omega, by rw [Int.tmod_eq_emod_of_nonneg hb.1]; omega⟩
  obtain ⟨a1, ea1, ha1, ka1⟩ : ∃ x, a.tdiv 4294967296 = x ∧ 0 ≤ x ∧ x ≤ 4294967295 := ⟨_, rfl, by rw [Int.tdiv_eq_ediv_of_nonneg ha.1]; omega, by rw [Int.tdiv_eq_ediv_of_nonneg ha.1]; omega⟩
  obtain ⟨b1, eb1, hb1, kb1⟩ : ∃ x, b.tdiv 4294967296 = x ∧ 0 ≤ x ∧ x ≤ 4294967295 := ⟨_, rfl, by rw [Int.tdiv_eq_ediv_of_nonneg hb.1]; omega, by rw [Int.tdiv_eq_ediv_of_nonneg hb.1]; omega⟩
  rw [ea0, eb0, ea1, eb1] at W0
  obtain ⟨q00, k00⟩ := half_prod ha0 ka0 hb0 kb0
  obtain ⟨q10, k10⟩ := half_prod ha1 ka1 hb0 kb0
  obtain ⟨q01, k01⟩ := half_prod ha0 ka0 hb1 kb1
  obtain ⟨q11, k11⟩ := half_prod ha1 ka1 hb1 kb1
  obtain ⟨p00, e00⟩ : ∃ x, a0 * b0 = x := ⟨_, rfl⟩
  obtain ⟨p10, e10⟩ : ∃ x, a1 * b0 = x := ⟨_, rfl⟩
  obtain ⟨p01, e01⟩ : ∃ x, a0 * b1 = x := ⟨_, rfl⟩
  obtain ⟨p11, e11⟩ : ∃ x, a1 * b1 = x := ⟨_, rfl⟩
  rw [e00] at q00 k00 W0
  rw [e10] at q10 k10 W0
  rw [e01] at q01 k01 W0
  rw [e11] at q11 k11 W0
  have W := Lib.hid (times_plain _ _ _ _ _ W0 q00 q10 q01 q11 k00 k10 k01 k11)
  have R := Lib.hid (show p11 + (p10 + p00 / 4294967296) / 4294967296 + (p01 + (p10 + p00 / 4294967296) % 4294967296) / 4294967296 ≤ 18446744073709551615 by omega)
  clear W0 ha hb
  go_enter Try.func34, Try.ntmps34
  go_wp2
  go_ret2
  refine ⟨?_, rfl⟩
  show Ending.returned (.tuple #[.int .u64 (p11 + (p10 + p00 / 4294967296) / 4294967296 + (p01 + (p10 + p00 / 4294967296) % 4294967296) / 4294967296), .int .u64 (((p01 + (p10 + p00 / 4294967296)) % 4294967296) * 4294967296 + p00 % 4294967296)]) = _
  rw [W.out.1, W.out.2]
theorem above_eq {P Q : Int} (hP : 0 ≤ P) (hQ : 0 ≤ Q) : (decide (Q / 18446744073709551616 < P / 18446744073709551616) || (P / 18446744073709551616 == Q / 18446744073709551616 && decide (Q % 18446744073709551616 < P % 18446744073709551616))) = decide (Q < P) := by
  rw [Bool.eq_iff_iff]; simp; omega
set_option maxHeartbeats 2000000 in
theorem above_any (x y : Ln) (hx : LnOk x) (hy : LnOk y) (w : World) :
    Calls Try.prog 20 #[.agg #[.int .u64 x.1, .int .u64 x.2.1, .int .i64 x.2.2], .agg #[.int .u64 y.1, .int .u64 y.2.1, .int .i64 y.2.2]] w fun e w' => e = .returned (.bool (decide (y.1 * x.2.1 < x.1 * y.2.1))) ∧ Below w.heap.size w w' := by
  have T1 := fun w => times5_any x.1 y.2.1 hx.p hy.q w
  have T2 := fun w => times5_any y.1 x.2.1 hy.p hx.q w
  have EW := Lib.hid (above_eq (Int.mul_nonneg hx.p.1 hy.q.1) (Int.mul_nonneg hy.p.1 hx.q.1))
  clear hx hy
  generalize x.1 * y.2.1 = P at *
  generalize y.1 * x.2.1 = Q at *
  generalize P / 18446744073709551616 = p1 at *
  generalize P % 18446744073709551616 = p2 at *
  generalize Q / 18446744073709551616 = q1 at *
  generalize Q % 18446744073709551616 = q2 at *
  by_cases a1 : q1 < p1
  · have g1 : decide (q1 < p1) = true := by simpa using a1
    clear a1
    go_enter Try.func20, Try.ntmps20
    go_wp2_with fail
    refine (T1 _).mono ?_
    rintro e w1 ⟨rfl, rfl⟩
    clear T1
    go_wp2_with fail
    refine (T2 _).mono ?_
    rintro e w1 ⟨rfl, rfl⟩
    clear T2
    go_wp2_with fail
    go_ret
    exact ⟨by rw [← EW.out, g1]; rfl, below_new (below_new (Below.refl _ _) _) _⟩
  · have g1 : decide (q1 < p1) = false := by simpa using a1
    cases hc : (p1 == q1) with
    | true =>
      clear a1
      go_enter Try.func20, Try.ntmps20
      go_wp2_with fail
      refine (T1 _).mono ?_
      rintro e w1 ⟨rfl, rfl⟩
      clear T1
      go_wp2_with fail
      refine (T2 _).mono ?_
      rintro e w1 ⟨rfl, rfl⟩
      clear T2
      go_wp2_with fail
      go_ret
      exact ⟨by rw [← EW.out, g1, hc]; rfl, below_new (below_new (Below.refl _ _) _) _⟩
    | false =>
      clear a1
      go_enter Try.func20, Try.ntmps20
      go_wp2_with fail
      refine (T1 _).mono ?_
      rintro e w1 ⟨rfl, rfl⟩
      clear T1
      go_wp2_with fail
      refine (T2 _).mono ?_
      rintro e w1 ⟨rfl, rfl⟩
      clear T2
      go_wp2_with fail
      go_ret
      exact ⟨by rw [← EW.out, g1, hc]; rfl, below_new (below_new (Below.refl _ _) _) _⟩
end Go.Proofs.Ytlkkeefcalkepaa
/-
  The laws LineBegins and LineWider: their walks.
-/
namespace Go.Proofs.Ytlkkeefcalkepaa
open Go.RowKit
set_option linter.unusedVariables false
set_option linter.unusedSimpArgs false

theorem ArgU.take {w : World} {A : Option Addr} {L : List Int} (h : ArgU w A L) (n : Nat) : ArgU w A (L.take n) := by
  intro hn
  rw [List.length_take] at hn
  obtain ⟨b, o, hA, hb, hc⟩ := h (by omega)
  refine ⟨b, o, hA, hb, fun i hi => ?_⟩
  rw [List.length_take] at hi
  rw [List.getElem_take]
  exact hc i (by omega)
theorem U64s.take {L : List Int} (h : U64s L) (n : Nat) : U64s (L.take n) := fun k hk => h k (List.mem_of_mem_take hk)
/-- What the law asks for by a number: not below 0. -/
def absN (n : Int) : Int := if n < 0 then -(n + 1) else n
theorem absN_ok {n : Int} (h : -9223372036854775808 ≤ n ∧ n ≤ 9223372036854775807) : 0 ≤ absN n ∧ absN n ≤ 9223372036854775807 := by unfold absN; split <;> omega
theorem begins_n {n : Int} {k : Nat} (h : -9223372036854775808 ≤ n ∧ n ≤ 9223372036854775807) (hk : 0 < k) : ∃ m : Nat, 0 < m ∧ m ≤ k ∧ 1 + absN n % (k : Int) = (m : Int) := by
  have h1 := Int.emod_nonneg (absN n) (show (k : Int) ≠ 0 by omega)
  have h2 := Int.emod_lt_of_pos (absN n) (show (0 : Int) < k by omega)
  exact ⟨(1 + absN n % (k : Int)).toNat, by omega, by omega, by omega⟩
theorem L2keep {w w' : World} {g h : Nat} {x y : Ln} (hy : LB w g y w') (hx : LB w h x w') : LB w g y w' ∧ LB w h x w' ∧ w'.cell? ⟨g, 0, none⟩ = some (.int .u64 y.1) ∧ w'.cell? ⟨g, 1, none⟩ = some (.int .u64 y.2.1) ∧ w'.cell? ⟨g, 2, none⟩ = some (.int .i64 y.2.2) := ⟨hy, hx, hy.cells.1, hy.cells.2.1, hy.cells.2.2.1⟩
set_option maxHeartbeats 8000000 in
set_option maxRecDepth 100000 in
theorem lineBegins_walk (A : Option Addr) (c : Nat) (L : List Int) (hL : U64s L) (hn : L.length ≤ 17592186044416) (hC : L.length ≤ c) (eps : Int) (n : Int) (hni : -9223372036854775808 ≤ n ∧ n ≤ 9223372036854775807) (w : World) (hA : ArgU w A L) :
    Calls Try.prog 8 #[.slice A L.length c, .int .i64 eps, .int .i64 n] w fun e w' => e = .returned (.bool true) ∧ Below w.heap.size w w' := by
  have SH := shown5 w
  have HA := Lib.hid hA
  have HU := Lib.hid hL
  clear hA hL
  by_cases he : (lineOf L eps).2 = 0
  · obtain ⟨F, LI⟩ := lineOf_is he
    have HI := Lib.hid LI
    have hl : 0 < L.length := LI.pos
    obtain ⟨m, hm0, hm1, hmm⟩ := begins_n (k := L.length) hni hl
    obtain ⟨G, LG, hflat⟩ := LI.begins hm0 hm1
    have hKl : (L.take m).length = m := by rw [List.length_take]; omega
    obtain ⟨K, hK⟩ : ∃ K, L.take m = K := ⟨_, rfl⟩
    rw [hK] at LG hKl
    have HKU : Hid (U64s K ∧ ArgU w A K) := Lib.hid (by rw [← hK]; exact ⟨HU.out.take m, HA.out.take m⟩)
    have hfitsG := (LG.fits (by omega)).1
    have okF := (LI.lnOk HU.out hn (d := 0) (.inl rfl)).1
    have okG := (LG.lnOk HKU.out.1 (by omega) (d := 0) (.inl rfl)).1
    rw [Int.sub_zero] at okF okG
    have isF := LI.is
    have isG := LG.is
    obtain ⟨x, hx⟩ : ∃ x : Ln, (F.low.1, F.low.2, baseOf F.low L (eps - 1) L.length) = x := ⟨_, rfl⟩
    obtain ⟨y, hy⟩ : ∃ y : Ln, (G.low.1, G.low.2, baseOf G.low K (eps - 1) K.length) = y := ⟨_, rfl⟩
    have hab : decide (x.1 * y.2.1 < y.1 * x.2.1) = false := by
      rw [← hx, ← hy]
      simpa [ltF] using hflat
    rw [hx] at okF isF
    rw [hy] at okG isG hfitsG
    have HX := Lib.hid (And.intro okF (And.intro isF (And.intro okG (And.intro isG (And.intro hfitsG (And.intro hab hKl))))))
    have nn := absN_ok hni
    clear okF isF okG isG hfitsG hab hflat LI LG he hx hy hK hKl
    obtain ⟨b, o, rfl, _⟩ := HA.out.first hl
    have hmc : (m : Int) ≤ (c : Int) := by omega
    have hmc0 : (0 : Int) ≤ (m : Int) := by omega
    by_cases hneg : n < 0
    all_goals
      first
        | (have ha : -(n + 1) = absN n := (if_pos hneg).symm
           have v1 : IntKind.i64.wrap (n + 1) = n + 1 := IntWalk.i64_in _ (by omega)
           have v2 : IntKind.i64.wrap (-(n + 1)) = absN n := by rw [ha]; exact IntWalk.i64_in _ (by omega)
           have g1 : decide (n < 0) = true := by simpa using hneg)
        | (have ha : n = absN n := (if_neg hneg).symm
           rw [← ha] at hmm nn
           have g1 : decide (n < 0) = false := by simpa using hneg
           have v1 : True := trivial
           have v2 : True := trivial)
      have HAB := Lib.hid ha
      clear ha
      go_enter Try.func8, Try.ntmps8
      go_wp2_with fail
      refine SH.mono ?_
      rintro e w1 ⟨rfl, b1⟩
      have H1 := Lib.hid b1
      have O1 := of_post (c := c) HU.out hn (HA.out.below b1) HX.out.2.1
      clear SH b1
      go_wp2_with fail
      refine O1.mono ?_
      rintro e w2 ⟨rfl, b2⟩
      have H2 := Lib.hid (LB.new (below_next H1.out b2) x)
      have O2 := refOf_post (c := c) HU.out hn (HA.out.below H2.out.bel) HX.out.2.1
      clear O1 b2 H1
      go_wp2_with fail
      refine O2.mono ?_
      rintro e w3 ⟨rfl, b3⟩
      have H3 := Lib.hid (H2.out.below (below_new b3 (.cells #[.int .u64 x.1, .int .u64 x.2.1, .int .i64 x.2.2] 27)))
      clear O2 b3 H2
      have O3 := of_post (A := some ⟨b, o, none⟩) (c := c) HKU.out.1 (by have := HX.out.2.2.2.2.2.2; omega) (HKU.out.2.below H3.out.bel) HX.out.2.2.2.1
      rw [HX.out.2.2.2.2.2.2] at O3
      go_wp2_with fail
      refine O3.mono ?_
      rintro e w4 ⟨rfl, b4⟩
      have k4 := below_new b4 (.cells #[.int .u64 y.1, .int .u64 y.2.1, .int .i64 y.2.2] 27)
      have H4 := Lib.hid (And.intro (H3.out.below k4) (LB.new (below_next H3.out.bel b4) y))
      have F3 := fun w' (k : Below w.heap.size w w') => Fits_any y HX.out.2.2.1 (some ⟨b, o, none⟩) c K eps HKU.out.1 (by have := HX.out.2.2.2.2.2.2; omega) w' (HKU.out.2.below k)
      rw [HX.out.2.2.2.2.2.2, HX.out.2.2.2.2.1] at F3
      have HF3 := Lib.hid F3
      clear O3 b4 k4 H3 F3
      go_upto_region 12 with fail
      go_region_held3 (fun w' => LB w w4.heap.size y w' ∧ LB w w2.heap.size x w' ∧ w'.cell? ⟨w4.heap.size, 0, none⟩ = some (.int .u64 y.1) ∧ w'.cell? ⟨w4.heap.size, 1, none⟩ = some (.int .u64 y.2.1) ∧ w'.cell? ⟨w4.heap.size, 2, none⟩ = some (.int .i64 y.2.2))
        (first | exact L2keep (H4.out.2.below (Below.refl _ _).drew) (H4.out.1.below (Below.refl _ _).drew) | exact L2keep HB.out.1 HB.out.2 | go_keep)
        (first | (go_at_call 17; (with_reducible refine (HF3.out _ ((‹LB _ _ _ _ ∧ _›).1.bel)).mono ?_); rintro e9 w9 ⟨rfl, b9⟩; have HB := Lib.hid (And.intro ((‹LB _ _ _ _ ∧ LB _ _ _ _ ∧ _›).1.below b9) ((‹LB _ _ _ _ ∧ LB _ _ _ _ ∧ _›).2.1.below b9))))
      obtain ⟨c0, c1, c2, _⟩ := HB.out.1.cells
      obtain ⟨d0, d1, d2, _⟩ := HB.out.2.cells
      have AB := fun w => above_any y x HX.out.2.2.1 HX.out.1 w
      rw [HX.out.2.2.2.2.2.1] at AB
      clear HF3 H4
      go_wp2_with fail
      refine (AB _).mono ?_
      rintro e w10 ⟨rfl, b10⟩
      have HE := Lib.hid (HB.out.1.below b10)
      clear AB b10
      go_wp2_with fail
      go_ret
      exact ⟨rfl, HE.out.bel⟩
  · obtain ⟨cc, hcc, hc0⟩ := err_zero he
    have HR := Lib.hid hcc
    have g0 : (cc == 0) = false := beq_eq_false_iff_ne.2 hc0
    have g1 : (cc != 0) = true := bne_iff_ne.2 hc0
    clear he hcc hc0
    go_enter Try.func8, Try.ntmps8
    go_wp2_with fail
    refine SH.mono ?_
    rintro e w1 ⟨rfl, b1⟩
    have H1 := Lib.hid b1
    have O1 := of_post (c := c) HU.out hn (HA.out.below b1) HR.out
    clear SH b1
    go_wp2_with fail
    refine O1.mono ?_
    rintro e w2 ⟨rfl, b2⟩
    have H2 := Lib.hid (LB.new (below_next H1.out b2) (0, 0, 0))
    have O2 := refOf_post (c := c) HU.out hn (HA.out.below H2.out.bel) HR.out
    clear O1 b2 H1
    go_wp2_with fail
    refine O2.mono ?_
    rintro e w3 ⟨rfl, b3⟩
    have H3 := Lib.hid (H2.out.below (below_new b3 (.cells #[.int .u64 0, .int .u64 0, .int .i64 0] 27)))
    clear O2 b3 H2
    go_wp2_with fail
    go_ret
    exact ⟨rfl, H3.out.bel⟩
end Go.Proofs.Ytlkkeefcalkepaa
/-
  The law LineWider: its walk.
-/
namespace Go.Proofs.Ytlkkeefcalkepaa
open Go.RowKit
set_option linter.unusedVariables false
set_option linter.unusedSimpArgs false

theorem wider_n {n eps : Int} (h : -9223372036854775808 ≤ n ∧ n ≤ 9223372036854775807) (h2 : eps ≤ 64) : ∃ e' : Int, eps ≤ e' ∧ e' ≤ 64 ∧ eps + absN n % (64 - eps + 1) = e' := by
  have h1 := Int.emod_nonneg (absN n) (show 64 - eps + 1 ≠ 0 by omega)
  have h3 := Int.emod_lt_of_pos (absN n) (show (0 : Int) < 64 - eps + 1 by omega)
  exact ⟨_, by omega, by omega, rfl⟩
set_option maxHeartbeats 8000000 in
set_option maxRecDepth 100000 in
theorem lineWider_walk (A : Option Addr) (c : Nat) (L : List Int) (hL : U64s L) (hn : L.length ≤ 17592186044416) (eps : Int) (n : Int) (hni : -9223372036854775808 ≤ n ∧ n ≤ 9223372036854775807) (w : World) (hA : ArgU w A L) :
    Calls Try.prog 9 #[.slice A L.length c, .int .i64 eps, .int .i64 n] w fun e w' => e = .returned (.bool true) ∧ Below w.heap.size w w' := by
  have SH := shown5 w
  have HA := Lib.hid hA
  have HU := Lib.hid hL
  clear hA hL
  by_cases he : (lineOf L eps).2 = 0
  · obtain ⟨F, LI⟩ := lineOf_is he
    have HI := Lib.hid LI
    have hl : 0 < L.length := LI.pos
    have hg1 := LI.g1
    have hg2 := LI.g2
    obtain ⟨e', hr0, hr1, hmm⟩ := wider_n hni hg2
    obtain ⟨G, LG, hflat, hstill⟩ := LI.wider hn hr0 hr1
    have okF := (LI.lnOk HU.out hn (d := 0) (.inl rfl)).1
    have okG := (LG.lnOk HU.out hn (d := 0) (.inl rfl)).1
    rw [Int.sub_zero] at okF okG
    have isF := LI.is
    have isG := LG.is
    obtain ⟨x, hx⟩ : ∃ x : Ln, (F.low.1, F.low.2, baseOf F.low L (eps - 1) L.length) = x := ⟨_, rfl⟩
    obtain ⟨y, hy⟩ : ∃ y : Ln, (G.low.1, G.low.2, baseOf G.low L (e' - 1) L.length) = y := ⟨_, rfl⟩
    have hab : decide (x.1 * y.2.1 < y.1 * x.2.1) = false := by
      rw [← hx, ← hy]
      simpa [ltF] using hflat
    rw [hx] at okF isF hstill
    rw [hy] at okG isG
    have HX := Lib.hid (And.intro okF (And.intro isF (And.intro okG (And.intro isG (And.intro hstill hab)))))
    have nn := absN_ok hni
    have u1 : IntKind.i64.wrap (64 - eps) = 64 - eps := IntWalk.i64_in _ (by omega)
    have u2 : IntKind.i64.wrap (64 - eps + 1) = 64 - eps + 1 := IntWalk.i64_in _ (by omega)
    have u3 : (0 : Int) < 64 - eps + 1 := by omega
    clear okF isF okG isG hstill hab hflat LI LG he hx hy
    by_cases hneg : n < 0
    all_goals
      first
        | (have ha : -(n + 1) = absN n := (if_pos hneg).symm
           have v1 : IntKind.i64.wrap (n + 1) = n + 1 := IntWalk.i64_in _ (by omega)
           have v2 : IntKind.i64.wrap (-(n + 1)) = absN n := by rw [ha]; exact IntWalk.i64_in _ (by omega)
           have g1 : decide (n < 0) = true := by simpa using hneg)
        | (have ha : n = absN n := (if_neg hneg).symm
           rw [← ha] at hmm nn
           have g1 : decide (n < 0) = false := by simpa using hneg
           have v1 : True := trivial
           have v2 : True := trivial)
      have HAB := Lib.hid ha
      clear ha
      go_enter Try.func9, Try.ntmps9
      go_wp2_with fail
      refine SH.mono ?_
      rintro e w1 ⟨rfl, b1⟩
      have H1 := Lib.hid b1
      have O1 := of_post (c := c) HU.out hn (HA.out.below b1) HX.out.2.1
      clear SH b1
      go_wp2_with fail
      refine O1.mono ?_
      rintro e w2 ⟨rfl, b2⟩
      have H2 := Lib.hid (LB.new (below_next H1.out b2) x)
      have O2 := refOf_post (c := c) HU.out hn (HA.out.below H2.out.bel) HX.out.2.1
      clear O1 b2 H1
      go_wp2_with fail
      refine O2.mono ?_
      rintro e w3 ⟨rfl, b3⟩
      have H3 := Lib.hid (H2.out.below (below_new b3 (.cells #[.int .u64 x.1, .int .u64 x.2.1, .int .i64 x.2.2] 27)))
      clear O2 b3 H2
      have O3 := of_post (c := c) HU.out hn (HA.out.below H3.out.bel) HX.out.2.2.2.1
      go_wp2_with fail
      refine O3.mono ?_
      rintro e w4 ⟨rfl, b4⟩
      have k4 := below_new b4 (.cells #[.int .u64 y.1, .int .u64 y.2.1, .int .i64 y.2.2] 27)
      have H4 := Lib.hid (And.intro (H3.out.below k4) (LB.new (below_next H3.out.bel b4) y))
      obtain ⟨c0, c1, c2, _⟩ := H4.out.1.cells
      have F3 := Fits_any x HX.out.1 A c L e' HU.out hn _ (HA.out.below H4.out.1.bel)
      rw [HX.out.2.2.2.2.1] at F3
      clear O3 b4 k4 H3
      go_wp2_with fail
      refine F3.mono ?_
      rintro e w9 ⟨rfl, b9⟩
      have HB := Lib.hid (And.intro (H4.out.2.below b9) (H4.out.1.below b9))
      obtain ⟨d0, d1, d2, _⟩ := HB.out.1.cells
      obtain ⟨f0, f1, f2, _⟩ := HB.out.2.cells
      have AB := fun w => above_any y x HX.out.2.2.1 HX.out.1 w
      rw [HX.out.2.2.2.2.2] at AB
      clear F3 b9 H4 c0 c1 c2
      go_wp2_with fail
      refine (AB _).mono ?_
      rintro e w10 ⟨rfl, b10⟩
      have HE := Lib.hid (HB.out.1.below b10)
      clear AB b10
      go_wp2_with fail
      go_ret
      exact ⟨rfl, HE.out.bel⟩
  · obtain ⟨cc, hcc, hc0⟩ := err_zero he
    have HR := Lib.hid hcc
    have g0 : (cc == 0) = false := beq_eq_false_iff_ne.2 hc0
    have g1 : (cc != 0) = true := bne_iff_ne.2 hc0
    clear he hcc hc0
    go_enter Try.func9, Try.ntmps9
    go_wp2_with fail
    refine SH.mono ?_
    rintro e w1 ⟨rfl, b1⟩
    have H1 := Lib.hid b1
    have O1 := of_post (c := c) HU.out hn (HA.out.below b1) HR.out
    clear SH b1
    go_wp2_with fail
    refine O1.mono ?_
    rintro e w2 ⟨rfl, b2⟩
    have H2 := Lib.hid (LB.new (below_next H1.out b2) (0, 0, 0))
    have O2 := refOf_post (c := c) HU.out hn (HA.out.below H2.out.bel) HR.out
    clear O1 b2 H1
    go_wp2_with fail
    refine O2.mono ?_
    rintro e w3 ⟨rfl, b3⟩
    have H3 := Lib.hid (H2.out.below (below_new b3 (.cells #[.int .u64 0, .int .u64 0, .int .i64 0] 27)))
    clear O2 b3 H2
    go_wp2_with fail
    go_ret
    exact ⟨rfl, H3.out.bel⟩
end Go.Proofs.Ytlkkeefcalkepaa
