/-
  Fractions: ratio.Lowest, hull.below, hull.between.
-/
import Derived.Test.YtnccgpdniigekaaQHuSmall
import Derived.BigQuiet
namespace Go.Proofs.Ytnccgpdniigekaa
open Go.RowKit
set_option linter.unusedVariables false
set_option linter.unusedSimpArgs false

/-- What Euclid's loop keeps. -/
def GcdTo (n d : Int) (x y : Value) : Prop := ∃ a b : Int, x = .int .u64 a ∧ y = .int .u64 b ∧ 0 ≤ a ∧ 0 ≤ b ∧ (0 < a ∨ 0 < b) ∧ b < 18446744073709551616 ∧ a < 18446744073709551616 ∧ Int.gcd a b = Int.gcd n d
theorem gcd_emod (a b : Int) (ha : 0 ≤ a) (hb : 0 ≤ b) : Int.gcd (b % a) a = Int.gcd a b := by
  obtain ⟨a, rfl⟩ := Int.eq_ofNat_of_zero_le ha
  obtain ⟨b, rfl⟩ := Int.eq_ofNat_of_zero_le hb
  rw [← Int.natCast_emod, Int.gcd_natCast_natCast, Int.gcd_natCast_natCast]
  exact (Nat.gcd_rec a b).symm
theorem gcd_at_zero (b : Int) (hb : 0 ≤ b) : ((Int.gcd 0 b : Nat) : Int) = b := by
  rw [Int.gcd_zero_left]; omega
theorem ratio_Lowest (n d : Int) (hn : u64ok n) (hd : u64ok d) (h0 : 0 < d) (w : World) :
    Calls Try.prog 112 #[.int .u64 n, .int .u64 d] w fun e w' => e = .returned (.tuple #[.agg #[.int .u64 (lowest n d).1, .int .u64 (lowest n d).2], .int .i64 0]) ∧ Below w.heap.size w w' := by
  unfold u64ok at hn hd
  have HL : Hid (lowest n d = (n / (Int.gcd n d : Nat), d / (Int.gcd n d : Nat))) := Lib.hid rfl
  have HG : Hid (0 < ((Int.gcd n d : Nat) : Int) ∧ 0 ≤ n / ((Int.gcd n d : Nat) : Int) ∧ n / ((Int.gcd n d : Nat) : Int) ≤ n ∧ 0 ≤ d / ((Int.gcd n d : Nat) : Int) ∧ d / ((Int.gcd n d : Nat) : Int) ≤ d) := by
    have h : 0 < Int.gcd n d := Int.gcd_pos_of_ne_zero_right _ (by omega)
    exact Lib.hid ⟨by omega, Int.ediv_nonneg hn.1 (by omega), Int.ediv_le_self _ hn.1, Int.ediv_nonneg hd.1 (by omega), Int.ediv_le_self _ hd.1⟩
  go_enter Try.func112, Try.ntmps112
  go_wp2
  go_loop [6, 7] (fun x y => GcdTo n d x y) (fun x _ => (intOf x).toNat)
  case atStart => exact ⟨n, d, rfl, rfl, hn.1, hd.1, .inr h0, by omega, by omega, rfl⟩
  case round =>
    obtain ⟨a, b, rfl, rfl, ha, hb, hab, hb2, ha2, hg⟩ := hrel
    by_cases hp : 0 < a
    · have G := Lib.hid (gcd_emod a b ha hb)
      have m1 := Int.emod_nonneg b (show a ≠ 0 by omega)
      have m2 := Int.emod_lt_of_pos b hp
      go_wp2
      go_round
      case rel => exact ⟨_, _, rfl, rfl, by omega, by omega, .inr hp, by omega, by omega, by rw [G.out, hg]⟩
      case measure => simp only [intOf]; omega
    · obtain rfl : a = 0 := by omega
      have hgb : ((Int.gcd n d : Nat) : Int) = b := by rw [← hg]; exact gcd_at_zero b hb
      rw [hgb] at HL HG
      obtain ⟨g0, g1, g2, g3, g4⟩ := HG.out
      have b0 : (b == 0) = false := by
        have : b ≠ 0 := by omega
        simpa using this
      have b1 : b ≠ 0 := by omega
      have hdv : ∀ x y : Int, 0 ≤ x → 0 < y → x.tdiv y = x / y := fun x y h _ => Int.tdiv_eq_ediv_of_nonneg h
      go_wp2_with fail
      go_big_region
      all_goals go_wp2_with fail
      all_goals refine bodyPost_ret (v := .tuple #[.agg #[.int .u64 (lowest n d).1, .int .u64 (lowest n d).2], .int .i64 0]) (results_ct (p := 4) (u := 5) (ty := 122) (t := 122) rfl _ rfl rfl ?_ Try.underlying122 rfl (by kernel_rfl)) rfl ?_
      · rw [HL.out]; exact (Blk.new _ _ _).drew
      · exact ⟨rfl, (below_new (Below.refl _ _) _).drew⟩
/-- A fraction, coded. -/
def frV (a : Fr) : Value := .agg #[.int .u64 a.1, .int .u64 a.2]
/-- A fraction of 64 bits whose numerator is an int64. -/
structure Fr64 (a : Fr) : Prop where
  num : 0 ≤ a.1 ∧ a.1 ≤ 9223372036854775807
  den : 0 ≤ a.2 ∧ a.2 ≤ 18446744073709551615
theorem Fr64.prod {a b : Fr} (ha : Fr64 a) (hb : Fr64 b) : i128ok (a.1 * b.2) := by
  have h1 := ha.num; have h2 := hb.den
  unfold i128ok
  have k1 : 0 ≤ a.1 * b.2 := Int.mul_nonneg h1.1 h2.1
  have k2 : a.1 * b.2 ≤ 9223372036854775807 * 18446744073709551615 := Int.mul_le_mul h1.2 h2.2 h2.1 (by omega)
  omega
/-- Two fractions boxed, one behind the other. -/
structure R2 (w : World) (a b : Fr) (w' : World) : Prop where
  p : Blk w' w.heap.size 122 #[.int .u64 a.1, .int .u64 a.2]
  q : Blk w' (w.heap.size + 1) 122 #[.int .u64 b.1, .int .u64 b.2]
  bel : Below w.heap.size w w'
section
variable {w w' w2 : World} {a b : Fr}
theorem R2.start : R2 w a b (((w.alloc (.cells #[.int .u64 a.1, .int .u64 a.2] 122)).alloc (.cells #[.int .u64 b.1, .int .u64 b.2] 122))).drew :=
  ⟨((Blk.new w _ _).alloc _).drew, (Blk.new' _ _ (by simp)).drew, (below_new (below_new (Below.refl _ _) _) _).drew⟩
theorem R2.below (h : R2 w a b w') (k : Below w'.heap.size w' w2) : R2 w a b w2 := ⟨h.p.below k, h.q.below k, below_next h.bel k⟩
theorem R2.all (h : R2 w a b w') : R2 w a b w' ∧ w'.cell? ⟨w.heap.size, 0, none⟩ = some (.int .u64 a.1) ∧ w'.cell? ⟨w.heap.size, 1, none⟩ = some (.int .u64 a.2) ∧ w'.cell? ⟨w.heap.size + 1, 0, none⟩ = some (.int .u64 b.1) ∧ w'.cell? ⟨w.heap.size + 1, 1, none⟩ = some (.int .u64 b.2) :=
  ⟨h, h.p.cell 0, h.p.cell 1, h.q.cell 0, h.q.cell 1⟩
end
set_option maxHeartbeats 2000000 in
theorem below_any (a b : Fr) (ha : Fr64 a) (hb0 : Fr64 b) (h0 : a.2 ≠ 0 ∨ b.2 ≠ 0) (oa : OkF a) (ob : OkF b) (w : World) :
    Calls Try.prog 94 #[.agg #[.int .u64 a.1, .int .u64 a.2], .agg #[.int .u64 b.1, .int .u64 b.2]] w fun e w' => e = .returned (.bool (decide (ltF a b))) ∧ Below w.heap.size w w' := by
  have p1 := Fr64.prod ha hb0
  have p2 := Fr64.prod hb0 ha
  have n1 := ha.num; have n2 := ha.den; have n3 := hb0.num; have n4 := hb0.den
  have s1 := oa.some; have s2 := ob.some
  have a1 : IntKind.i64.wrap a.1 = a.1 := IntWalk.i64_in _ (by omega)
  have a2 : IntKind.i64.wrap b.1 = b.1 := IntWalk.i64_in _ (by omega)
  have T1 := fun w => cTimes (a := a.1) (b := b.2) (by unfold i64ok; omega) (by unfold u64ok; omega) w
  have T2 := fun w => cTimes (a := b.1) (b := a.2) (by unfold i64ok; omega) (by unfold u64ok; omega) w
  have CC := fun w => cCmp p1 p2 w
  clear p1 p2 ha hb0 oa ob
  obtain ⟨an, ad⟩ := a
  obtain ⟨bn, bd⟩ := b
  simp only [] at *
  by_cases hb2 : bd = 0
  · subst hb2
    have E : Hid (decide (ltF (an, ad) (bn, 0)) = (ad != 0)) := Lib.hid (by
      unfold ltF
      have : 0 < bn := by omega
      have h3 : 0 < bn * ad ↔ ad ≠ 0 := ⟨fun h => by rintro rfl; simp at h, fun h => Int.mul_pos this (by omega)⟩
      rw [Bool.eq_iff_iff]; simp; exact h3)
    go_enter Try.func94, Try.ntmps94
    go_wp2
    go_ret
    exact ⟨by rw [E.out]; rfl, below_new (below_new (Below.refl _ _) _) _⟩
  · by_cases ha2 : ad = 0
    · subst ha2
      have E : Hid (decide (ltF (an, 0) (bn, bd)) = false) := Lib.hid (by
        unfold ltF
        have k1 : 0 ≤ an * bd := Int.mul_nonneg n1.1 n4.1
        simp; omega)
      have C0 : Hid (R2 w (an, 0) (bn, bd) (((w.alloc (.cells #[.int .u64 an, .int .u64 0] 122)).alloc (.cells #[.int .u64 bn, .int .u64 bd] 122))).drew) := Lib.hid (R2.start (a := (an, 0)) (b := (bn, bd)))
      have c := R2.all C0.out
      go_enter Try.func94, Try.ntmps94
      go_wp2_with fail
      go_quiet (fail)
      go_wp2
      go_ret
      exact ⟨by rw [E.out]; rfl, drewN_below (below_new (below_new (Below.refl _ _) _) _) _⟩
    · have g1 : (ad != 0) = true := by simpa using ha2
      have g2 : (bd == 0) = false := by simpa using hb2
      have E : Hid (decide (cmpI (an * bd) (bn * ad) < 0) = decide (ltF (an, ad) (bn, bd))) := Lib.hid (by
        unfold ltF
        rcases Int.lt_trichotomy (an * bd) (bn * ad) with h | h | h
        · rw [cmpI_lt h]; simp [h]
        · rw [cmpI_eq h]; simp [h]
        · have h' : ¬ an * bd < bn * ad := Int.not_lt.2 (Int.le_of_lt h)
          rw [cmpI_gt h]; simp [h'])
      have C0 : Hid (R2 w (an, ad) (bn, bd) (((w.alloc (.cells #[.int .u64 an, .int .u64 ad] 122)).alloc (.cells #[.int .u64 bn, .int .u64 bd] 122))).drew) := Lib.hid (R2.start (a := (an, ad)) (b := (bn, bd)))
      go_enter Try.func94, Try.ntmps94
      go_wp2
      go_region_held3 (fun w' => R2 w (an, ad) (bn, bd) w' ∧ w'.cell? ⟨w.heap.size, 0, none⟩ = some (.int .u64 an) ∧ w'.cell? ⟨w.heap.size, 1, none⟩ = some (.int .u64 ad) ∧ w'.cell? ⟨w.heap.size + 1, 0, none⟩ = some (.int .u64 bn) ∧ w'.cell? ⟨w.heap.size + 1, 1, none⟩ = some (.int .u64 bd))
        (first | exact R2.all C0.out | exact R2.all (R2.below (‹R2 _ _ _ _ ∧ _›).1 hb))
        (first | (go_at_call 114; (with_reducible refine (T1 _).mono ?_); rintro e w' ⟨rfl, hb⟩) | (go_at_call 114; (with_reducible refine (T2 _).mono ?_); rintro e w' ⟨rfl, hb⟩) | (go_at_call 113; (with_reducible refine (CC _).mono ?_); rintro e w' ⟨rfl, hb⟩))
      all_goals
        go_wp2
        have K := (‹R2 _ _ _ _ ∧ _›).1
        go_ret
        exact ⟨by rw [E.out]; rfl, K.bel⟩
/-- A struct alone. -/
theorem results_cl {P : Program} {fn : Func} {p : Tmp} {ty : TypeId} (h : fn.results = #[.cell p ty]) (tmps : Array Value) {w : World} {g : Nat} {t : TypeId} {cs : Array Value} {d : TypeDesc}
    (hp : tmps.getD p undef = .pointer (some ⟨g, 0, none⟩)) (hg : Blk w g t cs)
    (hu : P.underlying ty = some d) (hd : (match d with | .struct _ | .array _ _ => true | _ => false) = true) (hi : (P.info? ty).map (·.size) = some cs.size) :
    (results fn tmps).run P w = .ok (.agg cs) w := by
  have hp' : tmps[p]?.getD undef = .pointer (some ⟨g, 0, none⟩) := by simpa using hp
  simp [results, h, hp', asAddr, run_loadVar_row (P := P) w g t ty cs (0, 0) d hg hu hd hi]
/-- The slope between two points. -/
def slopeF (p q : Int × Int) : Fr := lowest (q.2 - p.2) (q.1 - p.1)
set_option maxHeartbeats 1000000 in
theorem between_any (px py qx qy : Int) (hp : u64ok px) (hq : u64ok qx) (yp : smallY py) (yq : smallY qy) (hx : px < qx) (hy : py ≤ qy) (w : World) :
    Calls Try.prog 93 #[.agg #[.int .u64 px, .int .i64 py], .agg #[.int .u64 qx, .int .i64 qy]] w fun e w' => e = .returned (frV (slopeF (px, py) (qx, qy))) ∧ Below w.heap.size w w' := by
  unfold smallY at yp yq
  unfold u64ok at hp hq
  have a1 : IntKind.i64.wrap (qy - py) = qy - py := IntWalk.i64_in _ (by omega)
  have a3 : IntKind.u64.wrap (qy - py) = qy - py := by rw [IntKind.wrap_u64]; omega
  have a2 : IntKind.u64.wrap (qx - px) = qx - px := by rw [IntKind.wrap_u64]; omega
  have L := fun w => ratio_Lowest (qy - py) (qx - px) (by unfold u64ok; omega) (by unfold u64ok; omega) (by omega) w
  clear hp hq yp yq hx hy
  unfold frV slopeF
  simp only []
  generalize lowest (qy - py) (qx - px) = l at *
  go_enter Try.func93, Try.ntmps93
  go_wp2_with fail
  refine (L _).mono ?_
  rintro e w2 ⟨rfl, b2⟩
  have A0 := (Blk.new' (w := (w.alloc (.cells #[.int .u64 px, .int .i64 py] 139)).alloc (.cells #[.int .u64 qx, .int .i64 qy] 139)) (g := w.heap.size + 1 + 1) 122 #[.int .u64 0, .int .u64 0] (by simp)).below b2
  obtain ⟨x0, x1, x2, x3⟩ := A0.cells2
  have l0 := A0.lt
  have B2 := below_next (below_new (below_new (below_new (Below.refl w.heap.size w) (.cells #[.int .u64 px, .int .i64 py] 139)) (.cells #[.int .u64 qx, .int .i64 qy] 139)) (.cells #[.int .u64 0, .int .u64 0] 122)) b2
  go_wp2_with fail
  refine bodyPost_ret (v := .agg #[.int .u64 l.1, .int .u64 l.2]) (results_cl (p := 4) (ty := 122) (t := 122) rfl _ rfl (A0.set2.alloc _) Try.underlying122 rfl (by kernel_rfl)) rfl ?_
  exact ⟨rfl, below_new (below_set2 B2 (by omega)) _⟩
end Go.Proofs.Ytnccgpdniigekaa
