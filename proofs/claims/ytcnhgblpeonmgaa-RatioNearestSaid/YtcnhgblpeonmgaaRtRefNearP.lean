/-
  inclineref02.Near from its rounding on.
-/
import Derived.Test.YtcnhgblpeonmgaaRtRefNear
import Derived.Test.YtcnhgblpeonmgaaRtTwo
import Derived.Test.YtcnhgblpeonmgaaCode
namespace Go.Proofs.Ytcnhgblpeonmgaa
open Go.RowKit
set_option linter.unusedVariables false
set_option linter.unusedSimpArgs false
attribute [local go_sem high] binOp_lss64 binOp_gtr64 binOp_geq64 binOp_leq64 binOp_eql64 binOp_neq64 f64bits frombits

def cFst : Code → Code
  | .seq a _ => a
  | c => c
def cSnd : Code → Code
  | .seq _ b => b
  | c => c
noncomputable def rnB : Code := Try.f13.body.getD .skip

set_option maxRecDepth 100000 in
set_option maxHeartbeats 4000000 in
theorem rn_after (f0 R : Nat) (x : Int) (w : World) (hx : -200 ≤ x ∧ x ≤ 20) (HR : Hid ((f0 : Int) + x * 4503599627370496 = (R : Int))) (RB : Hid (800 * 4503599627370496 ≤ R ∧ R ≤ 1097 * 4503599627370496)) (u0 u1 u2 u3 u4 u5 u6 u7 u9 u10 u11 u12 u14 u15 u16 u17 u18 u19 u20 u21 u22 u23 u24 u25 u26 u27 u28 u29 u30 u31 u32 u33 u34 u35 u36 u37 u38 u39 u40 u41 u42 u43 u44 u45 u46 u47 u48 u49 u50 u51 u52 u53 u54 u55 u56 u57 u58 u59 u60 u61 u62 u63 u64 u65 u66 u67 u68 u69 u70 u71 u72 u73 u74 u75 u76 u77 u78 u79 u80 u81 u82 u83 u84 u85 u86 u87 u88 u89 : Value) :
    Code.wp Try.prog (cSnd (seqAt 26 rnB)) (bodyPost Try.prog Try.f13 fun e w' => e = .returned (.tuple #[.float .f64 R, .int .i64 0]) ∧ w = w') ⟨#[u0, u1, u2, u3, u4, u5, u6, u7, .int .i64 x, u9, u10, u11, u12, .float .f64 f0, u14, u15, u16, u17, u18, u19, u20, u21, u22, u23, u24, u25, u26, u27, u28, u29, u30, u31, u32, u33, u34, u35, u36, u37, u38, u39, u40, u41, u42, u43, u44, u45, u46, u47, u48, u49, u50, u51, u52, u53, u54, u55, u56, u57, u58, u59, u60, u61, u62, u63, u64, u65, u66, u67, u68, u69, u70, u71, u72, u73, u74, u75, u76, u77, u78, u79, u80, u81, u82, u83, u84, u85, u86, u87, u88, u89], []⟩ w := by
  conv => arg 2; whnf
  have hl := INF_lit
  go_wp2_with fail
  go_loopw [8, 13] (fun s8 s13 wr => ∃ (y : Int) (f : Nat), w = wr ∧ s8 = .int .i64 y ∧ s13 = .float .f64 f ∧ Hid ((f : Int) + y * 4503599627370496 = (R : Int) ∧ -200 ≤ y ∧ y ≤ 20)) (fun s8 _ _ => (intOf s8).toNat)
  case atStart => exact ⟨x, f0, rfl, rfl, rfl, Lib.hid ⟨HR.out, hx⟩⟩
  case round =>
    obtain ⟨y, f, rfl, rfl, rfl, H⟩ := hrel
    have hy := H.out.2
    by_cases hp : 0 < y
    · have E := RB.out
      have e1 := H.out.1
      have MT : ∀ t W, (binOp .mul t (.float .f64 f) (.float .f64 4611686018427387904)).run Try.prog W = .ok (.float .f64 (f + 4503599627370496)) W := fun t W => run_float_arith W .mul t .f64 _ _ _ (mul_two (by omega) (by omega))
      clear e1 E
      have w1 : wrap64 (y - 1) = y - 1 := by unfold wrap64; omega
      go_wp2_with fail
      go_roundw
      case rel => exact ⟨y - 1, f + 4503599627370496, trivial, rfl, rfl, Lib.hid ⟨by have := H.out.1; omega, by omega, by omega⟩⟩
      case measure => simp only [intOf]; omega
    · go_wp2_with fail
      go_loopw [8, 13] (fun s8 s13 wr => ∃ (y : Int) (f : Nat), w = wr ∧ s8 = .int .i64 y ∧ s13 = .float .f64 f ∧ Hid ((f : Int) + y * 4503599627370496 = (R : Int) ∧ -200 ≤ y ∧ y ≤ 0)) (fun s8 _ _ => (-intOf s8).toNat)
      case atStart => exact ⟨y, f, rfl, rfl, rfl, Lib.hid ⟨H.out.1, hy.1, by omega⟩⟩
      case round =>
        clear H hp hy
        obtain ⟨y, f, rfl, rfl, rfl, H⟩ := hrel
        have hy := H.out.2
        by_cases hp : y < 0
        · have E := RB.out
          have e1 := H.out.1
          have MT : ∀ t W, (binOp .quo t (.float .f64 f) (.float .f64 4611686018427387904)).run Try.prog W = .ok (.float .f64 (f - 4503599627370496)) W := fun t W => run_float_arith W .quo t .f64 _ _ _ (div_two (by omega) (by omega))
          have hsub : ((f - 4503599627370496 : Nat) : Int) = (f : Int) - 4503599627370496 := by omega
          have HS := Lib.hid hsub
          clear e1 E hsub
          have w1 : wrap64 (y + 1) = y + 1 := by unfold wrap64; omega
          go_wp2_with fail
          go_roundw
          case rel => exact ⟨y + 1, f - 4503599627370496, trivial, rfl, rfl, Lib.hid ⟨by have := H.out.1; have := HS.out; omega, by omega, by omega⟩⟩
          case measure => simp only [intOf]; omega
        · have e1 : f = R := by have := H.out.1; have : y = 0 := by omega
                                subst this; omega
          subst e1
          go_wp2_with fail
          simp [bodyPost, results, Try.results13, go_sem]
set_option maxHeartbeats 4000000 in
set_option maxRecDepth 100000 in
theorem rn_26 {w : World} {M : Nat} (h1 : 4503599627370496 ≤ M) (h2 : M ≤ 9007199254740992) (u0 u1 u2 u3 u4 u5 u7 u8 u9 u10 u11 u12 u13 u14 u15 u16 u17 u18 u19 u20 u21 u22 u23 u24 u25 u26 u27 u28 u29 u30 u31 u32 u33 u34 u35 u36 u37 u38 u39 u40 u41 u42 u43 u44 u45 u46 u47 u48 u49 u50 u51 u52 u53 u54 u55 u56 u57 u58 u59 u60 u61 u62 u63 u64 u65 u66 u67 u68 u69 u70 u71 u72 u73 u74 u75 u76 u77 u78 u79 u80 u81 u82 u83 u84 u85 u86 u87 u88 u89 : Value) {K : Act → World → Prop} {Q : Exit → Act → World → Prop}
    (hK : ∀ (x75 x76 : Value) , K ⟨#[u0, u1, u2, u3, u4, u5, .int .u64 (M : Int), u7, u8, u9, u10, u11, u12, .float .f64 (1074 * 4503599627370496 + M), u14, u15, u16, u17, u18, u19, u20, u21, u22, u23, u24, u25, u26, u27, u28, u29, u30, u31, u32, u33, u34, u35, u36, u37, u38, u39, u40, u41, u42, u43, u44, u45, u46, u47, u48, u49, u50, u51, u52, u53, u54, u55, u56, u57, u58, u59, u60, u61, u62, u63, u64, u65, u66, u67, u68, u69, u70, u71, u72, u73, u74, x75, x76, u77, u78, u79, u80, u81, u82, u83, u84, u85, u86, u87, u88, u89], []⟩ w) :
    Code.wp Try.prog (cFst (seqAt 26 rnB)) (Exit.then K Q) ⟨#[u0, u1, u2, u3, u4, u5, .int .u64 (M : Int), u7, u8, u9, u10, u11, u12, u13, u14, u15, u16, u17, u18, u19, u20, u21, u22, u23, u24, u25, u26, u27, u28, u29, u30, u31, u32, u33, u34, u35, u36, u37, u38, u39, u40, u41, u42, u43, u44, u45, u46, u47, u48, u49, u50, u51, u52, u53, u54, u55, u56, u57, u58, u59, u60, u61, u62, u63, u64, u65, u66, u67, u68, u69, u70, u71, u72, u73, u74, u75, u76, u77, u78, u79, u80, u81, u82, u83, u84, u85, u86, u87, u88, u89], []⟩ w := by
  conv => arg 2; whnf
  have HKK := Lib.hid hK
  clear hK
  have hf := ofInt_53 M h1 h2
  obtain ⟨f0, hf0⟩ : ∃ f0, f0 = 1074 * 4503599627370496 + M := ⟨_, rfl⟩
  rw [← hf0] at hf HKK
  clear hf0
  go_wp2_with fail
  exact HKK.out _ _

set_option maxRecDepth 100000 in
set_option maxHeartbeats 4000000 in
theorem rn_tail (m s r R : Nat) (x : Int) (w : World) (h1 : 9007199254740992 ≤ m) (h2 : m < 18014398509481984) (hr64 : r < 18446744073709551616) (hx : -199 ≤ x ∧ x ≤ 19) (hR : (R : Int) = (1075 + x) * 4503599627370496 + ((m / 2 + (if m % 2 = 1 ∧ (0 < s ∨ 0 < r ∨ m / 2 % 2 = 1) then 1 else 0) : Nat) : Int)) (u0 u1 u2 u3 u4 u5 u10 u11 u12 u13 u14 u15 u16 u17 u18 u19 u20 u21 u22 u23 u24 u25 u26 u27 u28 u29 u30 u31 u32 u33 u34 u35 u36 u37 u38 u39 u40 u41 u42 u43 u44 u45 u46 u47 u48 u49 u50 u51 u52 u53 u54 u55 u56 u57 u58 u59 u60 u61 u62 u63 u64 u65 u66 u67 u68 u69 u70 u71 u72 u73 u74 u75 u76 u77 u78 u79 u80 u81 u82 u83 u84 u85 u86 u87 u88 u89 : Value) :
    Code.wp Try.prog (seqAt 20 rnB) (bodyPost Try.prog Try.f13 fun e w' => e = .returned (.tuple #[.float .f64 R, .int .i64 0]) ∧ w = w') ⟨#[u0, u1, u2, u3, u4, u5, .int .u64 (m : Int), .int .u64 (r : Int), .int .i64 x, .bool (decide (0 < s)), u10, u11, u12, u13, u14, u15, u16, u17, u18, u19, u20, u21, u22, u23, u24, u25, u26, u27, u28, u29, u30, u31, u32, u33, u34, u35, u36, u37, u38, u39, u40, u41, u42, u43, u44, u45, u46, u47, u48, u49, u50, u51, u52, u53, u54, u55, u56, u57, u58, u59, u60, u61, u62, u63, u64, u65, u66, u67, u68, u69, u70, u71, u72, u73, u74, u75, u76, u77, u78, u79, u80, u81, u82, u83, u84, u85, u86, u87, u88, u89], []⟩ w := by
  obtain ⟨m2, hm2⟩ : ∃ m2, m2 = m / 2 := ⟨_, rfl⟩
  obtain ⟨p, hp⟩ : ∃ p, p = m % 2 := ⟨_, rfl⟩
  obtain ⟨p2, hp2⟩ : ∃ p2, p2 = m2 % 2 := ⟨_, rfl⟩
  have d1 : (m : Int) / 2 = (m2 : Int) := by omega
  have d2 : (m : Int) % 2 = (p : Int) := by omega
  have d3 : (m2 : Int) % 2 = (p2 : Int) := by omega
  have hp01 : p = 0 ∨ p = 1 := by omega
  have hp201 : p2 = 0 ∨ p2 = 1 := by omega
  rw [← hm2, ← hp, ← hp2] at hR
  have b1 : 4503599627370496 ≤ m2 := by omega
  have b2 : m2 < 9007199254740992 := by omega
  have w1 : wrap64 (x + 1) = x + 1 := by unfold wrap64; omega
  have w2 : IntKind.u64.wrap ((m2 : Int) + 1) = (m2 : Int) + 1 := by rw [IntKind.wrap_u64]; omega
  have E0 : (R : Int) = (1075 + x) * 4503599627370496 + (m2 : Int) → Hid (∀ (M : Nat) (y : Int), M = m2 → y = x + 1 → (R : Int) = 1074 * 4503599627370496 + M + y * 4503599627370496 ∧ 4503599627370496 ≤ M ∧ M ≤ 9007199254740992 ∧ -200 ≤ y ∧ y ≤ 20) := fun h => Lib.hid (fun M y e1 e2 => by subst e1; subst e2; omega)
  have E1 : (R : Int) = (1075 + x) * 4503599627370496 + ((m2 + 1 : Nat) : Int) → Hid (∀ (M : Nat) (y : Int), M = m2 + 1 → y = x + 1 → (R : Int) = 1074 * 4503599627370496 + M + y * 4503599627370496 ∧ 4503599627370496 ≤ M ∧ M ≤ 9007199254740992 ∧ -200 ≤ y ∧ y ≤ 20) := fun h => Lib.hid (fun M y e1 e2 => by subst e1; subst e2; omega)
  clear hm2 hp hp2 h1 h2
  conv => arg 2; whnf
  by_cases hs : 0 < s
  · rw [decide_eq_true hs]
    rcases hp01 with rfl | rfl
    · skip
      replace E0 := E0 (by rw [hR, if_neg (by simp)]; simp)
      clear E1 hR
      go_upto_region 26 with fail
      obtain ⟨q1, q2, q3, q4⟩ := E0.out m2 (x + 1) rfl rfl
      rename_i K HK
      refine rn_26 (M := m2) q2 q3 _ _ _ _ _ _ _ _ _ _ _ _ _ _ _ _ _ _ _ _ _ _ _ _ _ _ _ _ _ _ _ _ _ _ _ _ _ _ _ _ _ _ _ _ _ _ _ _ _ _ _ _ _ _ _ _ _ _ _ _ _ _ _ _ _ _ _ _ _ _ _ _ _ _ _ _ _ _ _ _ _ _ _ _ _ _ _ _ _ (fun _ _ => HK _ _ ?_)
      exact rn_after (1074 * 4503599627370496 + m2) R (x + 1) _ q4 (Lib.hid (by omega)) (Lib.hid (by omega)) _ _ _ _ _ _ _ _ _ _ _ _ _ _ _ _ _ _ _ _ _ _ _ _ _ _ _ _ _ _ _ _ _ _ _ _ _ _ _ _ _ _ _ _ _ _ _ _ _ _ _ _ _ _ _ _ _ _ _ _ _ _ _ _ _ _ _ _ _ _ _ _ _ _ _ _ _ _ _ _ _ _ _ _ _ _ _ _
    · skip
      replace E1 := E1 (by rw [hR, if_pos ⟨rfl, .inl hs⟩])
      clear E0 hR
      go_upto_region 26 with fail
      obtain ⟨q1, q2, q3, q4⟩ := E1.out (m2 + 1) (x + 1) rfl rfl
      rename_i K HK
      refine rn_26 (M := (m2 + 1)) q2 q3 _ _ _ _ _ _ _ _ _ _ _ _ _ _ _ _ _ _ _ _ _ _ _ _ _ _ _ _ _ _ _ _ _ _ _ _ _ _ _ _ _ _ _ _ _ _ _ _ _ _ _ _ _ _ _ _ _ _ _ _ _ _ _ _ _ _ _ _ _ _ _ _ _ _ _ _ _ _ _ _ _ _ _ _ _ _ _ _ _ (fun _ _ => HK _ _ ?_)
      exact rn_after (1074 * 4503599627370496 + (m2 + 1)) R (x + 1) _ q4 (Lib.hid (by omega)) (Lib.hid (by omega)) _ _ _ _ _ _ _ _ _ _ _ _ _ _ _ _ _ _ _ _ _ _ _ _ _ _ _ _ _ _ _ _ _ _ _ _ _ _ _ _ _ _ _ _ _ _ _ _ _ _ _ _ _ _ _ _ _ _ _ _ _ _ _ _ _ _ _ _ _ _ _ _ _ _ _ _ _ _ _ _ _ _ _ _ _ _ _ _
  · rw [decide_eq_false hs]
    by_cases hr : 0 < r
    · have hr' : (0 : Int) < (r : Int) := by omega
      rcases hp01 with rfl | rfl
      · skip
        replace E0 := E0 (by rw [hR, if_neg (by simp)]; simp)
        clear E1 hR
        go_upto_region 26 with fail
        obtain ⟨q1, q2, q3, q4⟩ := E0.out m2 (x + 1) rfl rfl
        rename_i K HK
        refine rn_26 (M := m2) q2 q3 _ _ _ _ _ _ _ _ _ _ _ _ _ _ _ _ _ _ _ _ _ _ _ _ _ _ _ _ _ _ _ _ _ _ _ _ _ _ _ _ _ _ _ _ _ _ _ _ _ _ _ _ _ _ _ _ _ _ _ _ _ _ _ _ _ _ _ _ _ _ _ _ _ _ _ _ _ _ _ _ _ _ _ _ _ _ _ _ _ (fun _ _ => HK _ _ ?_)
        exact rn_after (1074 * 4503599627370496 + m2) R (x + 1) _ q4 (Lib.hid (by omega)) (Lib.hid (by omega)) _ _ _ _ _ _ _ _ _ _ _ _ _ _ _ _ _ _ _ _ _ _ _ _ _ _ _ _ _ _ _ _ _ _ _ _ _ _ _ _ _ _ _ _ _ _ _ _ _ _ _ _ _ _ _ _ _ _ _ _ _ _ _ _ _ _ _ _ _ _ _ _ _ _ _ _ _ _ _ _ _ _ _ _ _ _ _ _
      · skip
        replace E1 := E1 (by rw [hR, if_pos ⟨rfl, .inr (.inl hr)⟩])
        clear E0 hR
        go_upto_region 26 with fail
        obtain ⟨q1, q2, q3, q4⟩ := E1.out (m2 + 1) (x + 1) rfl rfl
        rename_i K HK
        refine rn_26 (M := (m2 + 1)) q2 q3 _ _ _ _ _ _ _ _ _ _ _ _ _ _ _ _ _ _ _ _ _ _ _ _ _ _ _ _ _ _ _ _ _ _ _ _ _ _ _ _ _ _ _ _ _ _ _ _ _ _ _ _ _ _ _ _ _ _ _ _ _ _ _ _ _ _ _ _ _ _ _ _ _ _ _ _ _ _ _ _ _ _ _ _ _ _ _ _ _ (fun _ _ => HK _ _ ?_)
        exact rn_after (1074 * 4503599627370496 + (m2 + 1)) R (x + 1) _ q4 (Lib.hid (by omega)) (Lib.hid (by omega)) _ _ _ _ _ _ _ _ _ _ _ _ _ _ _ _ _ _ _ _ _ _ _ _ _ _ _ _ _ _ _ _ _ _ _ _ _ _ _ _ _ _ _ _ _ _ _ _ _ _ _ _ _ _ _ _ _ _ _ _ _ _ _ _ _ _ _ _ _ _ _ _ _ _ _ _ _ _ _ _ _ _ _ _ _ _ _ _
    · have hr' : ¬ ((0 : Int) < (r : Int)) := by omega
      rcases hp01 with rfl | rfl
      · skip
        replace E0 := E0 (by rw [hR, if_neg (by simp)]; simp)
        clear E1 hR
        go_upto_region 26 with fail
        obtain ⟨q1, q2, q3, q4⟩ := E0.out m2 (x + 1) rfl rfl
        rename_i K HK
        refine rn_26 (M := m2) q2 q3 _ _ _ _ _ _ _ _ _ _ _ _ _ _ _ _ _ _ _ _ _ _ _ _ _ _ _ _ _ _ _ _ _ _ _ _ _ _ _ _ _ _ _ _ _ _ _ _ _ _ _ _ _ _ _ _ _ _ _ _ _ _ _ _ _ _ _ _ _ _ _ _ _ _ _ _ _ _ _ _ _ _ _ _ _ _ _ _ _ (fun _ _ => HK _ _ ?_)
        exact rn_after (1074 * 4503599627370496 + m2) R (x + 1) _ q4 (Lib.hid (by omega)) (Lib.hid (by omega)) _ _ _ _ _ _ _ _ _ _ _ _ _ _ _ _ _ _ _ _ _ _ _ _ _ _ _ _ _ _ _ _ _ _ _ _ _ _ _ _ _ _ _ _ _ _ _ _ _ _ _ _ _ _ _ _ _ _ _ _ _ _ _ _ _ _ _ _ _ _ _ _ _ _ _ _ _ _ _ _ _ _ _ _ _ _ _ _
      · rcases hp201 with rfl | rfl
        · skip
          replace E0 := E0 (by rw [hR, if_neg (by simp; omega)]; simp)
          clear E1 hR
          go_upto_region 26 with fail
          obtain ⟨q1, q2, q3, q4⟩ := E0.out m2 (x + 1) rfl rfl
          rename_i K HK
          refine rn_26 (M := m2) q2 q3 _ _ _ _ _ _ _ _ _ _ _ _ _ _ _ _ _ _ _ _ _ _ _ _ _ _ _ _ _ _ _ _ _ _ _ _ _ _ _ _ _ _ _ _ _ _ _ _ _ _ _ _ _ _ _ _ _ _ _ _ _ _ _ _ _ _ _ _ _ _ _ _ _ _ _ _ _ _ _ _ _ _ _ _ _ _ _ _ _ (fun _ _ => HK _ _ ?_)
          exact rn_after (1074 * 4503599627370496 + m2) R (x + 1) _ q4 (Lib.hid (by omega)) (Lib.hid (by omega)) _ _ _ _ _ _ _ _ _ _ _ _ _ _ _ _ _ _ _ _ _ _ _ _ _ _ _ _ _ _ _ _ _ _ _ _ _ _ _ _ _ _ _ _ _ _ _ _ _ _ _ _ _ _ _ _ _ _ _ _ _ _ _ _ _ _ _ _ _ _ _ _ _ _ _ _ _ _ _ _ _ _ _ _ _ _ _ _
        · skip
          replace E1 := E1 (by rw [hR, if_pos ⟨rfl, .inr (.inr rfl)⟩])
          clear E0 hR
          go_upto_region 26 with fail
          obtain ⟨q1, q2, q3, q4⟩ := E1.out (m2 + 1) (x + 1) rfl rfl
          rename_i K HK
          refine rn_26 (M := (m2 + 1)) q2 q3 _ _ _ _ _ _ _ _ _ _ _ _ _ _ _ _ _ _ _ _ _ _ _ _ _ _ _ _ _ _ _ _ _ _ _ _ _ _ _ _ _ _ _ _ _ _ _ _ _ _ _ _ _ _ _ _ _ _ _ _ _ _ _ _ _ _ _ _ _ _ _ _ _ _ _ _ _ _ _ _ _ _ _ _ _ _ _ _ _ (fun _ _ => HK _ _ ?_)
          exact rn_after (1074 * 4503599627370496 + (m2 + 1)) R (x + 1) _ q4 (Lib.hid (by omega)) (Lib.hid (by omega)) _ _ _ _ _ _ _ _ _ _ _ _ _ _ _ _ _ _ _ _ _ _ _ _ _ _ _ _ _ _ _ _ _ _ _ _ _ _ _ _ _ _ _ _ _ _ _ _ _ _ _ _ _ _ _ _ _ _ _ _ _ _ _ _ _ _ _ _ _ _ _ _ _ _ _ _ _ _ _ _ _ _ _ _ _ _ _ _

end Go.Proofs.Ytcnhgblpeonmgaa
