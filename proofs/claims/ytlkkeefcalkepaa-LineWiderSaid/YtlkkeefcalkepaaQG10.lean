/-
  steeper: whether two keys want a slope above another one.
-/
import Derived.Test.YtlkkeefcalkepaaQG5
import Derived.Test.YtlkkeefcalkepaaQG2
import Derived.Test.YtlkkeefcalkepaaQKp
import Derived.Test.YtlkkeefcalkepaaQCode
import Derived.Test.YtlkkeefcalkepaaQG1
import Derived.Test.YtlkkeefcalkepaaQLnFits
import Derived.Test.YtlkkeefcalkepaaQHuMvP
import Derived.Test.YtlkkeefcalkepaaQLnL1
namespace Go.Proofs.Ytlkkeefcalkepaa
open Go.RowKit
set_option linter.unusedVariables false
set_option linter.unusedSimpArgs false

noncomputable def steB : Code := Try.f19.body.getD .skip
/-- Two keys want more. -/
def SteepAt (L : List Int) (e p q : Int) (i j : Nat) : Prop := p * (L.getD j 0 - L.getD i 0) < ((j : Int) - i - 2 * e) * q
def Steep (L : List Int) (e p q : Int) : Prop := ∃ i j : Nat, i < j ∧ j < L.length ∧ SteepAt L e p q i j
theorem stkeep {w w' : World} {b o i j : Nat} {ki kj : Int} {L : List KB} (HC : Hid (b < w.heap.size ∧ w.cell? ⟨b, o + j, none⟩ = some (.int .u64 kj) ∧ w.cell? ⟨b, o + i, none⟩ = some (.int .u64 ki))) (h : Kp w L w') :
    Kp w L w' ∧ w'.cell? ⟨b, o + j, none⟩ = some (.int .u64 kj) ∧ w'.cell? ⟨b, o + i, none⟩ = some (.int .u64 ki) := ⟨h, (h.bel.cell (p := ⟨b, _, none⟩) HC.out.1).trans HC.out.2.1, (h.bel.cell (p := ⟨b, _, none⟩) HC.out.1).trans HC.out.2.2⟩
set_option maxHeartbeats 4000000 in
set_option maxRecDepth 100000 in
theorem st_two {w wr : World} {b o i j n c : Nat} {ki kj p : Int} {L : List KB} (H : Hid (Kp w L wr)) (HC : Hid (b < w.heap.size ∧ w.cell? ⟨b, o + j, none⟩ = some (.int .u64 kj) ∧ w.cell? ⟨b, o + i, none⟩ = some (.int .u64 ki))) (hp : 0 ≤ p ∧ p ≤ 4611686018427387904) (hk : 0 ≤ ki ∧ ki ≤ kj ∧ kj ≤ 18446744073709551615) (hi : i < n) (hj : j < n) (hn : n ≤ 17592186044416) (u1 u3 u4 u5 u6 u7 u8 u11 u12 u13 u14 u15 u16 u17 u18 u19 u20 u21 u22 u23 u24 u25 u26 u27 u28 u29 u30 u31 u32 u33 u34 u35 u36 u37 u38 u39 u40 u41 u42 u43 u44 u45 u46 u47 u48 u49 u50 u51 u52 u53 : Value) {Q : Exit → Act → World → Prop}
    (hK : ∀ (x37 x38 x39 x40 x41 x42 x43 x44 x45 x46 x47 x48 : Value) (g : Nat) (wx : World), Hid (Kp w ((g, 59, #[.int .i64 (I128.enc (p * (kj - ki))).1, .int .u64 (I128.enc (p * (kj - ki))).2]) :: L) wx) → Q .normal ⟨#[.slice (some ⟨b, o, none⟩) n c, u1, .int .u64 p, u3, u4, u5, u6, u7, u8, .int .i64 (i : Int), .int .i64 (j : Int), u11, .pointer (some ⟨g, 0, none⟩), u13, u14, u15, u16, u17, u18, u19, u20, u21, u22, u23, u24, u25, u26, u27, u28, u29, u30, u31, u32, u33, u34, u35, u36, x37, x38, x39, x40, x41, x42, x43, x44, x45, x46, x47, x48, u49, u50, u51, u52, u53], []⟩ wx) :
    Code.wp Try.prog (regAt 8 steB) Q ⟨#[.slice (some ⟨b, o, none⟩) n c, u1, .int .u64 p, u3, u4, u5, u6, u7, u8, .int .i64 (i : Int), .int .i64 (j : Int), u11, u12, u13, u14, u15, u16, u17, u18, u19, u20, u21, u22, u23, u24, u25, u26, u27, u28, u29, u30, u31, u32, u33, u34, u35, u36, u37, u38, u39, u40, u41, u42, u43, u44, u45, u46, u47, u48, u49, u50, u51, u52, u53], []⟩ wr := by
  conv => arg 2; whnf
  have HKK := Lib.hid hK
  clear hK
  have v1 : IntKind.u64.wrap (kj - ki) = kj - ki := by rw [IntKind.wrap_u64]; omega
  have v2 : IntKind.i64.wrap p = p := IntWalk.i64_in _ (by omega)
  have T := fun w => cRefTimes (a := p) (b := kj - ki) (by unfold i64ok; omega) (by unfold u64ok; omega) w
  have hgs := Lib.hid H.out.size
  have hLs := Lib.hid H.out.lt
  have i0 : (0 : Int) ≤ (i : Int) := by omega
  have i1 : (i : Int) < (n : Int) := by omega
  have j0 : (0 : Int) ≤ (j : Int) := by omega
  have j1 : (j : Int) < (n : Int) := by omega
  go_region_held3 (fun w' => Kp w L w' ∧ w'.cell? ⟨b, o + j, none⟩ = some (.int .u64 kj) ∧ w'.cell? ⟨b, o + i, none⟩ = some (.int .u64 ki))
    (first | exact stkeep HC H.out.drew | exact stkeep HC HB0.out | exact stkeep HC (HB0.out.alloc _) | exact stkeep HC (HB0.out.set (a := ⟨wr.heap.size, 0, none⟩) hgs.out (fun p hp => by have := hLs.out p hp; simp only []; omega) _ |>.set (a := ⟨wr.heap.size, 1, none⟩) hgs.out (fun p hp => by have := hLs.out p hp; simp only []; omega) _) | exact stkeep HC ((‹Kp _ _ _ ∧ _›).1.alloc _) | exact stkeep HC (‹Kp _ _ _ ∧ _›).1.drew | go_keep)
    (first | (go_at_call 32; (with_reducible refine (T _).mono ?_); rintro e0 w5 ⟨rfl, b5⟩; have HB0 := Lib.hid ((‹Kp _ _ _ ∧ _›).1.below b5); have HN := Lib.hid (Blk.below (Blk.new wr 59 #[.int .i64 0, .int .u64 0]).drew b5); obtain ⟨z0, z1, z2, z3⟩ := Blk.cells2 HN.out) | (go_at_call 32; (with_reducible refine (T _).mono ?_); rintro e0 w5 ⟨rfl, b5⟩; have HB0 := Lib.hid ((‹Kp _ _ _ ∧ _›).1.below b5)))
  all_goals first
    | (have hz := HB0.out.size; exact HKK.out _ _ _ _ _ _ _ _ _ _ _ _ w5.heap.size _ (Lib.hid ((HB0.out.alloc _).push hz (Blk.new _ _ _))))
    | exact HKK.out _ _ _ _ _ _ _ _ _ _ _ _ wr.heap.size _ (Lib.hid ((HB0.out.set (a := ⟨wr.heap.size, 0, none⟩) hgs.out (fun p hp => by have := hLs.out p hp; simp only []; omega) _ |>.set (a := ⟨wr.heap.size, 1, none⟩) hgs.out (fun p hp => by have := hLs.out p hp; simp only []; omega) _).push hgs.out HN.out.set2))
set_option maxHeartbeats 4000000 in
set_option maxRecDepth 100000 in
theorem steeper5_any (A : Option Addr) (c : Nat) (L : List Int) (eps p q : Int) (hL : U64s L) (hn : L.length ≤ 17592186044416) (hU : L.Pairwise (· < ·)) (he0 : 2 ≤ eps) (he1 : eps ≤ 64) (hp : 0 ≤ p ∧ p ≤ 4611686018427387904) (hq : u64ok q) (w : World) (hA : ArgU w A L) :
    Calls Try.prog 19 #[.slice A L.length c, .int .i64 eps, .int .u64 p, .int .u64 q] w fun e w' => (∃ t : Bool, e = .returned (.bool t) ∧ (t = true ↔ Steep L (eps - 1) p q)) ∧ Below w.heap.size w w' := by
  have HA := Lib.hid hA
  have HL := Lib.hid (And.intro hL hU)
  have HQ := Lib.hid (And.intro hp hq)
  have v0 : IntKind.i64.wrap (eps - 1) = eps - 1 := IntWalk.i64_in _ (by omega)
  have v1 : IntKind.i64.wrap (2 * (eps - 1)) = 2 * (eps - 1) := IntWalk.i64_in _ (by omega)
  clear hA hL hU hp hq
  go_enter Try.func19, Try.ntmps19
  go_wp2_with fail
  go_loopw [9] (fun x wr => ∃ i : Nat, i ≤ L.length ∧ x = .int .i64 i ∧ Hid ((∀ a d : Nat, a < i → a < d → d < L.length → ¬ SteepAt L (eps - 1) p q a d) ∧ Kp w [] wr)) (fun x _ => L.length - (intOf x).toNat)
  case atStart => exact ⟨0, Nat.zero_le _, rfl, Lib.hid ⟨fun a d h => by omega, Kp.nil _⟩⟩
  case round =>
    obtain ⟨i, hi, rfl, HI⟩ := hrel
    by_cases hlt : i < L.length
    · obtain ⟨b, o, rfl, hb, _, hc⟩ := HA.out.first (by omega)
      have HC := Lib.hid (And.intro hb hc)
      clear hb hc
      obtain ⟨wo, rfl⟩ : ∃ wo : World, wo = wr := ⟨_, rfl⟩
      go_wp2_with fail
      go_loopw [10] (fun x wr => ∃ j : Nat, i < j ∧ j ≤ L.length ∧ x = .int .i64 j ∧ Hid ((∀ d : Nat, i < d → d < j → ¬ SteepAt L (eps - 1) p q i d) ∧ Kp w [] wr)) (fun x _ => L.length - (intOf x).toNat)
      case atStart => exact ⟨i + 1, by omega, by omega, by go_num, Lib.hid ⟨fun d h1 h2 => by omega, HI.out.2⟩⟩
      case round =>
        obtain ⟨j, hij, hj, rfl, HJ⟩ := hrel
        by_cases hlt2 : j < L.length
        · have HCC : Hid (b < w.heap.size ∧ w.cell? ⟨b, o + j, none⟩ = some (.int .u64 (L.getD j 0)) ∧ w.cell? ⟨b, o + i, none⟩ = some (.int .u64 (L.getD i 0))) := Lib.hid ⟨HC.out.1, HC.out.2 j hlt2, HC.out.2 i hlt⟩
          have u1 := HL.out.1.getD hlt2
          have u0 := HL.out.1.getD hlt
          have hle := getD_lt HL.out.2 hij hlt2
          have hst : Hid (SteepAt L (eps - 1) p q i j ↔ p * (L.getD j 0 - L.getD i 0) < ((j : Int) - i - 2 * (eps - 1)) * q) := Lib.hid Iff.rfl
          generalize L.getD j 0 = kj at *
          generalize L.getD i 0 = ki at *
          have hk : Hid (0 ≤ ki ∧ ki ≤ kj ∧ kj ≤ 18446744073709551615) := Lib.hid (by unfold u64ok at *; omega)
          clear u1 u0 hle
          have v2 : IntKind.i64.wrap ((j : Int) - i) = (j : Int) - i := IntWalk.i64_in _ (by omega)
          have v3 : IntKind.i64.wrap ((j : Int) - i - 2 * (eps - 1)) = (j : Int) - i - 2 * (eps - 1) := IntWalk.i64_in _ (by omega)
          have T1 := fun w => cRefTimes (a := (j : Int) - i - 2 * (eps - 1)) (b := q) (by unfold i64ok; omega) HQ.out.2 w
          have hb1 : i128ok (((j : Int) - i - 2 * (eps - 1)) * q) ∧ i128ok (p * (kj - ki)) := by
            have hq := HQ.out.2
            have hp := HQ.out.1
            have hkk := hk.out
            unfold u64ok at hq
            constructor
            · have a1 : ((j : Int) - i - 2 * (eps - 1)) * q ≤ 17592186044416 * 18446744073709551615 := Int.le_trans (Int.mul_le_mul_of_nonneg_right (by omega : (j : Int) - i - 2 * (eps - 1) ≤ 17592186044416) hq.1) (Int.mul_le_mul_of_nonneg_left hq.2 (by omega))
              have a2 : -200 * 18446744073709551615 ≤ ((j : Int) - i - 2 * (eps - 1)) * q := Int.le_trans (by omega : -200 * 18446744073709551615 ≤ -200 * q) (Int.mul_le_mul_of_nonneg_right (by omega : -200 ≤ (j : Int) - i - 2 * (eps - 1)) hq.1)
              unfold i128ok; omega
            · have a1 : p * (kj - ki) ≤ 4611686018427387904 * 18446744073709551615 := Int.le_trans (Int.mul_le_mul_of_nonneg_right hp.2 (by omega)) (Int.mul_le_mul_of_nonneg_left (by omega) (by omega))
              have a2 : 0 ≤ p * (kj - ki) := Int.mul_nonneg hp.1 (by omega)
              unfold i128ok; omega
          have CM := fun w => cRefCmp hb1.1 hb1.2 w
          clear hb1
          go_wp2_with fail
          refine (T1 _).mono ?_
          rintro e w1 ⟨rfl, b1⟩
          clear T1
          have K1 := Lib.hid (((HJ.out.2.below b1).box 59 #[.int .i64 (I128.enc (((j : Int) - i - 2 * (eps - 1)) * q)).1, .int .u64 (I128.enc (((j : Int) - i - 2 * (eps - 1)) * q)).2] (g := w1.heap.size) rfl))
          clear b1
          go_upto_region 8 with fail
          refine st_two K1 HCC HQ.out.1 hk.out hlt hlt2 hn _ _ _ _ _ _ _ _ _ _ _ _ _ _ _ _ _ _ _ _ _ _ _ _ _ _ _ _ _ _ _ _ _ _ _ _ _ _ _ _ _ _ _ _ _ _ _ _ _ _ ?_
          intro _ _ _ _ _ _ _ _ _ _ _ _ g12 w2 K2
          obtain ⟨p0, p1, _, _⟩ := (K2.out.at_ (List.mem_cons_of_mem _ List.mem_cons_self)).cells2
          obtain ⟨q0, q1, _, _⟩ := (K2.out.at_ List.mem_cons_self).cells2
          generalize ((j : Int) - i - 2 * (eps - 1)) * q = y at *
          generalize p * (kj - ki) = x at *
          by_cases hs : x < y
          · have hcc : cmpI y x = 1 := cmpI_gt hs
            rw [hcc] at CM
            have HS : Hid (Steep L (eps - 1) p q) := Lib.hid ⟨i, j, hij, hlt2, hst.out.2 hs⟩
            clear hcc hs hst K1
            go_wp2_with fail
            refine (CM _).mono ?_
            rintro e w3 ⟨rfl, b3⟩
            have K3 := Lib.hid (K2.out.below b3)
            clear CM b3 p0 p1 q0 q1
            go_wp2_with fail
            go_ret
            exact ⟨⟨true, rfl, fun _ => HS.out, fun _ => rfl⟩, K3.out.bel⟩
          · have hcc : decide (0 < cmpI y x) = false := by unfold cmpI; split <;> (try split) <;> first | rfl | (exfalso; omega)
            have HN : Hid (∀ d : Nat, i < d → d < j + 1 → ¬ SteepAt L (eps - 1) p q i d) := Lib.hid (fun d h1 h2 => by
              by_cases hd : d = j
              · subst hd; exact fun h => hs (hst.out.1 h)
              · exact HJ.out.1 d h1 (by omega))
            generalize cmpI y x = t at *
            clear hs hst K1
            go_wp2_with fail
            refine (CM _).mono ?_
            rintro e w3 ⟨rfl, b3⟩
            have K3 : Hid (Kp w [] w3) := Lib.hid (K2.out.below b3).tail.tail
            clear CM b3 p0 p1 q0 q1
            go_wp2_with fail
            go_roundw
            case rel => exact ⟨j + 1, by omega, by omega, by go_num, Lib.hid ⟨HN.out, K3.out⟩⟩
            case measure => simp [intOf]; omega
        · have g2 : decide (j < L.length) = false := by simpa using hlt2
          have HN : Hid (∀ a d : Nat, a < i + 1 → a < d → d < L.length → ¬ SteepAt L (eps - 1) p q a d) := Lib.hid (fun a d h1 h2 h3 => by
            by_cases ha : a = i
            · subst ha; exact HJ.out.1 d h2 (by omega)
            · exact HI.out.1 a d (by omega) h2 h3)
          go_wp2_with fail
          go_roundw
          case rel => exact ⟨i + 1, by omega, by go_num, Lib.hid ⟨HN.out, HJ.out.2⟩⟩
          case measure => simp [intOf]; omega
    · have g2 : decide (i < L.length) = false := by simpa using hlt
      go_wp2_with fail
      go_ret
      exact ⟨⟨false, rfl, fun h => by simp at h, fun ⟨a, d, h1, h2, h3⟩ => absurd h3 (HI.out.1 a d (by omega) h1 h2)⟩, HI.out.2.bel⟩
end Go.Proofs.Ytlkkeefcalkepaa
/-
  Plain: what the laws without the reference say of lines.
-/
namespace Go.Proofs.Ytlkkeefcalkepaa
open Go.RowKit
set_option linter.unusedVariables false
set_option linter.unusedSimpArgs false

section
variable {L : List Int} {eps : Int} {F : Fit}
theorem LineIs.zero (h : LineIs L eps F) (h0 : F.low.1 = 0) : F.low.2 = 1 := by
  have hc := h.full.ok.low.cop
  have hd := h.den
  rw [h0, Int.gcd_zero_left] at hc
  omega
theorem LineIs.not_steep (h : LineIs L eps F) : ¬ Steep L (eps - 1) F.low.1 F.low.2 := by
  rintro ⟨i, j, hij, hj, hs⟩
  have := (h.bears i j hij hj).1
  unfold SteepAt at hs
  omega
theorem LineIs.steep (h : LineIs L eps F) {p : Int} (hp : p < F.low.1) (h0 : F.low.1 ≠ 0) : Steep L (eps - 1) p F.low.2 := by
  rcases h.full.low.is with q | ⟨i, j, hij, hj, hpos, q⟩
  · rw [q] at h0; simp at h0
  · rw [h.keys] at hj q
    have hd : 0 < L.getD j 0 - L.getD i 0 := by have := getD_lt h.up hij hj; omega
    obtain ⟨_, e, _⟩ := lowest_low (n := (j : Int) - i - 2 * (eps - 1)) (d := L.getD j 0 - L.getD i 0) (by omega) hd
    rw [← q] at e
    refine ⟨i, j, hij, hj, ?_⟩
    unfold SteepAt
    rw [← e]
    exact Int.mul_lt_mul_of_pos_right hp hd
end
theorem LineIs.lnOk {L : List Int} {eps : Int} {F : Fit} (h : LineIs L eps F) (hL : U64s L) (hl : L.length ≤ 17592186044416) {d : Int} (hd : d = 0 ∨ d = 1) : LnOk (F.low.1, F.low.2, baseOf F.low L (eps - 1) L.length - d) ∧ 0 ≤ F.low.1 ∧ F.low.1 ≤ 4611686018427387904 := by
  have n0 := h.full.ok.low.ok.num
  have n1 := h.full.num_low h.e0
  rw [h.keys] at n1
  have hb := (h.fits hl).2.2
  have hq : u64ok F.low.2 := by
    rcases h.full.low.is with q | ⟨i, j, hij, hj, hpos, q⟩
    · rw [q]; unfold u64ok; simp
    · rw [h.keys] at hj q
      have hd : 0 < L.getD j 0 - L.getD i 0 := by have := getD_lt h.up hij hj; omega
      have := (lowest_low (n := (j : Int) - i - 2 * (eps - 1)) (d := L.getD j 0 - L.getD i 0) (by omega) hd).2.2.2.2.1
      rw [← q] at this
      have u1 := hL.getD hj
      have u0 := hL.getD (show i < L.length by omega)
      have := h.den
      unfold u64ok at *; omega
  exact ⟨⟨⟨n0, by simp only []; omega⟩, hq, by unfold i64ok; simp only []; omega⟩, n0, by omega⟩
/-- Keys moved by a number. -/
theorem fitAll_mv {e far : Int} : ∀ {L : List Int} {F : Fit}, fitAll e (F.mv far) (L.map (· + far)) = (fitAll e F L).map (Fit.mv far)
  | [], F => rfl
  | a :: r, F => by
    simp only [List.map_cons, fitAll, Fit.add_mv]
    split
    · exact fitAll_mv
    · rfl
theorem baseOf_mv {s : Fr} {L : List Int} {e far : Int} : ∀ {n : Nat}, n ≤ L.length → baseOf s (L.map (· + far)) e n = baseOf s L e n
  | 0, _ => rfl
  | n + 1, h => by
    rw [baseOf, baseOf, baseOf_mv (by omega)]
    unfold baseAt
    rw [getD_mv (by omega), getD_mv (by omega), show L.getD n 0 + far - (L.getD 0 0 + far) = L.getD n 0 - L.getD 0 0 from by omega]
theorem lineOf_mv {L : List Int} {eps far : Int} : lineOf (L.map (· + far)) eps = lineOf L eps := by
  have hp : (L.map (· + far)).Pairwise (· < ·) ↔ L.Pairwise (· < ·) := by
    rw [List.pairwise_map]
    exact ⟨fun h => h.imp (by intro a b h; omega), fun h => h.imp (by intro a b h; omega)⟩
  unfold lineOf
  split
  · rfl
  · have hc : (L.map (· + far) = [] ∨ ¬ (L.map (· + far)).Pairwise (· < ·)) ↔ (L = [] ∨ ¬ L.Pairwise (· < ·)) := by rw [hp, List.map_eq_nil_iff]
    by_cases h : L = [] ∨ ¬ L.Pairwise (· < ·)
    · rw [if_pos h, if_pos (hc.2 h)]
    · rw [if_neg h, if_neg (fun k => h (hc.1 k))]
      have hf := fitAll_mv (e := eps - 1) (far := far) (L := L) (F := Fit.zero)
      rw [zero_mv] at hf
      rw [hf]
      cases fitAll (eps - 1) Fit.zero L with
      | none => rfl
      | some F =>
        simp only [Option.map_some]
        rw [List.length_map]
        simp only [Fit.mv]
        rw [baseOf_mv (Nat.le_refl _)]
/-- A beginning of keys that have a line. -/
theorem LineIs.begins {L : List Int} {eps : Int} {F : Fit} (h : LineIs L eps F) {n : Nat} (hn : 0 < n) (hn2 : n ≤ L.length) : ∃ G, LineIs (L.take n) eps G ∧ ¬ ltF F.low G.low := by
  have hne : L.take n ≠ [] := by intro e; have := congrArg List.length e; rw [List.length_take, List.length_nil] at this; omega
  have hup : (L.take n).Pairwise (· < ·) := h.up.sublist (List.take_sublist n L)
  obtain ⟨G, hG⟩ := lineOf_is (lineOf_ok h.g1 h.g2 hne hup h.full.ok.low.ok h.full.den_low (h.bears.take n))
  refine ⟨G, hG, ?_⟩
  rcases hG.full.low.is with q | ⟨i, j, hij, hj, hpos, q⟩
  · rw [q]; have := h.full.ok.low.ok.num; unfold ltF; simp only []; omega
  · rw [hG.keys] at hj q
    have g : ∀ m, m < n → (L.take n).getD m 0 = L.getD m 0 := fun m hm => by rw [List.getD_eq_getElem?_getD, List.getD_eq_getElem?_getD, List.getElem?_take, if_pos hm]
    rw [List.length_take] at hj
    rw [g i (by omega), g j (by omega)] at q
    have hd : 0 < L.getD j 0 - L.getD i 0 := by have := getD_lt h.up hij (show j < L.length by omega); omega
    have hb := (h.bears i j hij (by omega)).1
    rw [q, ltF_lowest (by omega) hd]
    omega
theorem nearAt_wider {x : Ln} {e e' : Int} (hee : e ≤ e') {L : List Int} {i : Nat} (h : nearAt x e L i = true) : nearAt x e' L i = true := by
  unfold nearAt at *
  simp only [Bool.and_eq_true, decide_eq_true_eq] at *
  exact ⟨⟨h.1.1, by omega⟩, by omega⟩
theorem LineIs.wider {L : List Int} {eps eps' : Int} {F : Fit} (h : LineIs L eps F) (hl : L.length ≤ 17592186044416) (h1 : eps ≤ eps') (h2 : eps' ≤ 64) :
    ∃ G, LineIs L eps' G ∧ ¬ ltF F.low G.low ∧ fitsB (F.low.1, F.low.2, baseOf F.low L (eps - 1) L.length) L eps' = true := by
  have hb' : Bears (eps' - 1) F.low L := h.bears.wider (by omega) (by have := h.den; omega)
  obtain ⟨G, hG⟩ := lineOf_is (lineOf_ok (eps := eps') (by have := h.g1; omega) h2 h.ne h.up h.full.ok.low.ok h.full.den_low hb')
  refine ⟨G, hG, ?_, ?_⟩
  · rcases hG.full.low.is with q | ⟨i, j, hij, hj, hpos, q⟩
    · rw [q]; have := h.full.ok.low.ok.num; unfold ltF; simp only []; omega
    · rw [hG.keys] at hj q
      have hd : 0 < L.getD j 0 - L.getD i 0 := by have := getD_lt h.up hij hj; omega
      have hb := (hb' i j hij hj).1
      rw [q, ltF_lowest (by omega) hd]
      omega
  · have hf := (h.fits hl).1
    have g1 := h.g1
    unfold fitsB at hf ⊢
    have hg : ¬ (eps < 2 ∨ 64 < eps ∨ L = [] ∨ ¬ L.Pairwise (· < ·)) := by rintro (g | g | g | g); omega; omega; exact h.ne g; exact g h.up
    have hg' : ¬ (eps' < 2 ∨ 64 < eps' ∨ L = [] ∨ ¬ L.Pairwise (· < ·)) := by rintro (g | g | g | g); omega; omega; exact h.ne g; exact g h.up
    rw [if_neg hg] at hf
    rw [if_neg hg']
    unfold nearTo at *
    rw [decide_eq_true_eq] at *
    exact fun i hi => nearAt_wider (by omega) (hf i hi)
end Go.Proofs.Ytlkkeefcalkepaa
/-
  The law LineStays: its walk.
-/
namespace Go.Proofs.Ytlkkeefcalkepaa
open Go.RowKit
set_option linter.unusedVariables false
set_option linter.unusedSimpArgs false

attribute [local go_sem high] eqLine
/-- A line's block, and what was there. -/
structure LB (w : World) (g : Nat) (x : Ln) (wr : World) : Prop where
  b : Blk wr g 27 #[.int .u64 x.1, .int .u64 x.2.1, .int .i64 x.2.2]
  ge : w.heap.size ≤ g
  bel : Below w.heap.size w wr
section
variable {w wr w' : World} {g : Nat} {x : Ln}
theorem LB.below (h : LB w g x wr) (k : Below wr.heap.size wr w') : LB w g x w' := ⟨h.b.below k, h.ge, below_next h.bel k⟩
theorem LB.new (h : Below w.heap.size w wr) (x : Ln) : LB w wr.heap.size x (wr.alloc (.cells #[.int .u64 x.1, .int .u64 x.2.1, .int .i64 x.2.2] 27)) := ⟨Blk.new _ _ _, h.size, below_new h _⟩
theorem LB.cells (h : LB w g x wr) : wr.cell? ⟨g, 0, none⟩ = some (.int .u64 x.1) ∧ wr.cell? ⟨g, 1, none⟩ = some (.int .u64 x.2.1) ∧ wr.cell? ⟨g, 2, none⟩ = some (.int .i64 x.2.2) ∧ wr.frozen? ⟨g, 2, none⟩ = false := ⟨h.b.cell 0, h.b.cell 1, h.b.cell 2, h.b.free 2⟩
theorem LB.set (h : LB w g x wr) (b2 : Int) : LB w g (x.1, x.2.1, b2) (wr.setCell ⟨g, 2, none⟩ (.int .i64 b2)) := ⟨h.b.set 2 _, h.ge, h.bel.setCell h.ge _⟩
theorem LB.all (h : LB w g x wr) : LB w g x wr ∧ wr.cell? ⟨g, 0, none⟩ = some (.int .u64 x.1) ∧ wr.cell? ⟨g, 1, none⟩ = some (.int .u64 x.2.1) := ⟨h, h.b.cell 0, h.b.cell 1⟩
end
theorem err_zero {L : List Int} {eps : Int} (h : (lineOf L eps).2 ≠ 0) : ∃ c, lineOf L eps = ((0, 0, 0), c) ∧ c ≠ 0 := ⟨(lineOf L eps).2, Prod.ext (lineOf_err h) rfl, h⟩
set_option maxHeartbeats 8000000 in
set_option maxRecDepth 100000 in
theorem lineStays_walk (A : Option Addr) (c : Nat) (L : List Int) (hL : U64s L) (hn : L.length ≤ 17592186044416) (eps : Int) (less : Int) (hless : u64ok less) (w : World) (hA : ArgU w A L) :
    Calls Try.prog 6 #[.slice A L.length c, .int .i64 eps, .int .u64 less] w fun e w' => e = .returned (.bool true) ∧ Below w.heap.size w w' := by
  have SH := shown5 w
  have HA := Lib.hid hA
  have HU := Lib.hid hL
  clear hA hL
  by_cases he : (lineOf L eps).2 = 0
  · obtain ⟨F, LI⟩ := lineOf_is he
    have HI := Lib.hid LI
    obtain ⟨ok0, p0, p1⟩ := LI.lnOk HU.out hn (d := 0) (.inl rfl)
    have ok1 := (LI.lnOk HU.out hn (d := 1) (.inr rfl)).1
    have hf := LI.fits hn
    have hz := LI.zero
    have hns := LI.not_steep
    have hst := fun p hp h0 => LI.steep (p := p) hp h0
    have his := LI.is
    have hup := LI.up
    have hg1 := LI.g1
    have hg2 := LI.g2
    obtain ⟨p, hp⟩ : ∃ p, F.low.1 = p := ⟨_, rfl⟩
    obtain ⟨q, hq⟩ : ∃ q, F.low.2 = q := ⟨_, rfl⟩
    obtain ⟨bs, hbs⟩ : ∃ bs, baseOf F.low L (eps - 1) L.length = bs := ⟨_, rfl⟩
    have hden := LI.den
    rw [hp, hq, hbs] at ok0 ok1 hf his
    rw [hp] at p0 p1 hz hns hst
    rw [hq] at hz hns hst hden
    rw [Int.sub_zero] at ok0
    have HF := Lib.hid hf
    have HP := Lib.hid (And.intro ok0 (And.intro ok1 (And.intro hz (And.intro hns hst))))
    have HIS := Lib.hid his
    have HUP := Lib.hid hup
    have hb1 : -64 ≤ bs := hf.2.2.1
    have hb2 : bs ≤ 17592186044416 := hf.2.2.2
    clear ok0 ok1 hf hz hns hst his hup LI he hp hq hbs
    go_enter Try.func6, Try.ntmps6
    go_wp2_with fail
    refine SH.mono ?_
    rintro e w1 ⟨rfl, b1⟩
    have H1 := Lib.hid b1
    have O1 := of_post (c := c) HU.out hn (HA.out.below b1) HIS.out
    clear SH b1
    go_wp2_with fail
    refine O1.mono ?_
    rintro e w2 ⟨rfl, b2⟩
    have H2 := Lib.hid (LB.new (below_next H1.out b2) (p, q, bs))
    have O2 := refOf_post (c := c) HU.out hn (HA.out.below H2.out.bel) HIS.out
    clear O1 b2 H1
    go_wp2_with fail
    refine O2.mono ?_
    rintro e w3 ⟨rfl, b3⟩
    have H3 := Lib.hid (H2.out.below (below_new b3 (.cells #[.int .u64 p, .int .u64 q, .int .i64 bs] 27)))
    obtain ⟨c0, c1, c2, _⟩ := H3.out.cells
    have F1 := Fits_any (p, q, bs) HP.out.1 A c L eps HU.out hn _ (HA.out.below H3.out.bel)
    rw [HF.out.1] at F1
    clear O2 b3 H2
    go_wp2_with fail
    refine F1.mono ?_
    rintro e w4 ⟨rfl, b4⟩
    have H4 := Lib.hid (H3.out.below b4)
    obtain ⟨d0, d1, d2, _⟩ := H4.out.cells
    have F2 := refFits_any (p, q, bs) HP.out.1 A c L eps HU.out hn _ (HA.out.below H4.out.bel)
    rw [HF.out.1] at F2
    clear F1 b4 H3 c0 c1 c2
    go_wp2_with fail
    refine F2.mono ?_
    rintro e w5 ⟨rfl, b5⟩
    have H5 := Lib.hid (H4.out.below b5)
    obtain ⟨c0, c1, c2, cf⟩ := H5.out.cells
    have v1 : IntKind.i64.wrap (bs - 1) = bs - 1 := IntWalk.i64_in _ (by omega)
    have H6 := Lib.hid (H5.out.set (bs - 1))
    have F3 := Fits_any (p, q, bs - 1) HP.out.2.1 A c L eps HU.out hn _ (HA.out.below H6.out.bel)
    rw [HF.out.2.1] at F3
    clear F2 b5 H4 d0 d1 d2
    go_wp2_with fail
    refine F3.mono ?_
    rintro e w7 ⟨rfl, b7⟩
    have H7 := Lib.hid (H6.out.below b7)
    obtain ⟨d0, d1, d2, _⟩ := H7.out.cells
    have F4 := refFits_any (p, q, bs - 1) HP.out.2.1 A c L eps HU.out hn _ (HA.out.below H7.out.bel)
    rw [HF.out.2.1] at F4
    clear F3 b7 H6 H5 c0 c1 c2 cf
    go_wp2_with fail
    refine F4.mono ?_
    rintro e w8 ⟨rfl, b8⟩
    have H8 := Lib.hid (H7.out.below b8)
    obtain ⟨c0, c1, c2, _⟩ := H8.out.cells
    clear F4 b8 H7 d0 d1 d2
    by_cases hp0 : p = 0
    · have hq1 := HP.out.2.2.1 hp0
      subst hp0 hq1
      go_wp2_with fail
      go_ret
      exact ⟨rfl, H8.out.bel⟩
    · have g0 : (p == 0) = false := beq_eq_false_iff_ne.2 hp0
      have hpp : 0 < p := by omega
      have hl0 : 0 ≤ less := hless.1
      have hl1 : less ≤ 18446744073709551615 := hless.2
      have hm0 : 0 ≤ less % p := Int.emod_nonneg _ hp0
      have hm1 : less % p < p := Int.emod_lt_of_pos _ hpp
      have S1 := fun w' (k : Below w.heap.size w w') => steeper5_any A c L eps (less % p) q HU.out hn HUP.out hg1 hg2 ⟨by omega, by omega⟩ HP.out.1.q w' (HA.out.below k)
      have S2 := fun w' (k : Below w.heap.size w w') => steeper5_any A c L eps p q HU.out hn HUP.out hg1 hg2 ⟨by omega, by omega⟩ HP.out.1.q w' (HA.out.below k)
      have HS1 := Lib.hid S1
      have HS2 := Lib.hid S2
      have HT := Lib.hid (HP.out.2.2.2.2 (less % p) hm1 hp0)
      clear S1 S2
      have vm : less.tmod p = less % p := Int.tmod_eq_emod_of_nonneg hl0
      go_upto_region 19 with fail
      go_region_held3 (fun w' => LB w w2.heap.size (p, q, bs - 1) w' ∧ w'.cell? ⟨w2.heap.size, 0, none⟩ = some (.int .u64 p) ∧ w'.cell? ⟨w2.heap.size, 1, none⟩ = some (.int .u64 q))
        (first | exact (H8.out.below (Below.refl _ _).drew).all | exact HB.out.all | go_keep)
        (first | (go_at_call 19; (with_reducible refine (HS1.out _ ((‹LB _ _ _ _ ∧ _›).1.bel)).mono ?_); rintro e9 w9 ⟨⟨t, rfl, ht⟩, b9⟩; have HB := Lib.hid ((‹LB _ _ _ _ ∧ _›).1.below b9)))
      obtain rfl : t = true := ht.2 HT.out
      obtain ⟨d0, d1, d2, _⟩ := HB.out.cells
      have S2 := HS2.out _ HB.out.bel
      clear HS1 HS2 ht c0 c1 c2
      go_wp2_with fail
      refine S2.mono ?_
      rintro e w10 ⟨⟨u, rfl, hu⟩, b10⟩
      have HX := Lib.hid (HB.out.below b10)
      obtain rfl : u = false := by
        cases u with
        | false => rfl
        | true => exact absurd (hu.1 rfl) HP.out.2.2.2.1
      clear S2 hu b10
      go_wp2_with fail
      go_ret
      exact ⟨rfl, HX.out.bel⟩
  · obtain ⟨cc, hcc, hc0⟩ := err_zero he
    have HR := Lib.hid hcc
    have g0 : (cc == 0) = false := beq_eq_false_iff_ne.2 hc0
    have g1 : (cc != 0) = true := bne_iff_ne.2 hc0
    clear he hcc hc0
    go_enter Try.func6, Try.ntmps6
    go_wp2_with fail
    refine SH.mono ?_
    rintro e w1 ⟨rfl, b1⟩
    have H1 := Lib.hid b1
    have O1 := of_post (c := c) HU.out hn (HA.out.below b1) HR.out
    clear SH b1
    go_wp2_with fail
    refine O1.mono ?_
    rintro e w2 ⟨rfl, b2⟩
    have H2 := Lib.hid (LB.new (below_next H1.out b2) (0, 0, 0))
    have O2 := refOf_post (c := c) HU.out hn (HA.out.below H2.out.bel) HR.out
    clear O1 b2 H1
    go_wp2_with fail
    refine O2.mono ?_
    rintro e w3 ⟨rfl, b3⟩
    have H3 := Lib.hid (H2.out.below (below_new b3 (.cells #[.int .u64 0, .int .u64 0, .int .i64 0] 27)))
    obtain ⟨c0, c1, c2, _⟩ := H3.out.cells
    clear O2 b3 H2
    go_wp2_with fail
    go_ret
    exact ⟨by simp, H3.out.bel⟩
end Go.Proofs.Ytlkkeefcalkepaa
