/-
  line.along and line.At.
-/
import Derived.Test.YtnccgpdniigekaaQG32
import Derived.Test.YtnccgpdniigekaaQG30
import Derived.Test.YtnccgpdniigekaaQG18
import Derived.Test.YtnccgpdniigekaaQG2
import Derived.Test.YtnccgpdniigekaaQG28
import Derived.Test.YtnccgpdniigekaaQG1
namespace Go.Proofs.Ytnccgpdniigekaa
open Go.RowKit
set_option linter.unusedVariables false
set_option linter.unusedSimpArgs false

end Go.Proofs.Ytnccgpdniigekaa
/-
  The reference's down: its two quotients.
-/
namespace Go.Proofs.Ytnccgpdniigekaa
open Go.RowKit
set_option linter.unusedVariables false
set_option linter.unusedSimpArgs false

noncomputable def doB : Code := Try.f87.body.getD .skip
theorem and_one (x : Int) (h0 : 0 ≤ x) (h1 : x ≤ 18446744073709551615) : bits .and .u64 x 1 = x % 2 := by
  have := bits_mask .u64 64 (by decide) (fun n h0 h1 => by rw [IntKind.wrap_u64]; omega) 1 (by decide) x h0 (by omega)
  simpa using this
theorem dkeep {w w' : World} {gx : Nat} {L : List KB} {p q b : Int} (HX : Hid ((gx, 106, #[.int .u64 p, .int .u64 q, .int .i64 b]) ∈ L)) (h : Kp w L w') : Kp w L w' ∧ w'.cell? ⟨gx, 1, none⟩ = some (.int .u64 q) := ⟨h, (h.at_ HX.out).cell 1⟩
theorem mul_low {x y : Int} (hx : 0 ≤ x ∧ x ≤ 9223372036854775807) (hy : 0 ≤ y ∧ y ≤ 18446744073709551615) : 0 ≤ x * y ∧ x * y ≤ 9223372036854775807 * 18446744073709551615 := ⟨Int.mul_nonneg hx.1 hy.1, Int.le_trans (Int.mul_le_mul_of_nonneg_right hx.2 hy.1) (Int.mul_le_mul_of_nonneg_left hy.2 (by omega))⟩
set_option maxHeartbeats 4000000 in
set_option maxRecDepth 100000 in
theorem down_one {w wr : World} {gx : Nat} {p q b d r : Int} {L : List KB} (H : Hid (Kp w L wr)) (HX : Hid ((gx, 106, #[.int .u64 p, .int .u64 q, .int .i64 b]) ∈ L)) (hq : 0 < q ∧ q ≤ 18446744073709551615) (hr : 0 ≤ r ∧ r < q) (hd : 0 ≤ d ∧ d ≤ 18446744073709551615) (u0 u3 u4 u5 u6 u8 u9 u10 u11 u12 u13 u14 u15 u16 u17 u18 u19 u20 u21 u22 u23 u24 u25 u26 u27 u28 u29 u30 u31 u32 u33 u34 u35 u36 u37 u38 u39 u40 u41 u42 u43 u44 u45 u46 u47 u48 u49 u50 u51 u52 u53 u54 u55 u56 u57 u58 u59 u60 u61 u62 u63 u64 u65 u66 u67 u68 u69 u70 u71 u72 u73 u74 u75 u76 u77 u78 u79 u80 u81 u82 u83 u84 u85 u86 u87 u88 u89 u90 u91 : Value) {Q : Exit → Act → World → Prop}
    (hK : ∀ (x37 x38 x39 x40 x41 x42 x43 x44 x45 x46 x47 x48 : Value) (g : Nat) (wx : World), Hid (Kp w ((g, 152, #[.int .i64 (I128.enc (r / 2 * d / q)).1, .int .u64 (I128.enc (r / 2 * d / q)).2]) :: L) wx) → Q .normal ⟨#[u0, .int .u64 d, .pointer (some ⟨gx, 0, none⟩), u3, u4, u5, u6, .int .u64 r, u8, .pointer (some ⟨g, 0, none⟩), .int .u64 (r / 2 * d % q), .int .i64 0, u12, u13, u14, u15, u16, u17, u18, u19, u20, u21, u22, u23, u24, u25, u26, u27, u28, u29, u30, u31, u32, u33, u34, u35, u36, x37, x38, x39, x40, x41, x42, x43, x44, x45, x46, x47, x48, u49, u50, u51, u52, u53, u54, u55, u56, u57, u58, u59, u60, u61, u62, u63, u64, u65, u66, u67, u68, u69, u70, u71, u72, u73, u74, u75, u76, u77, u78, u79, u80, u81, u82, u83, u84, u85, u86, u87, u88, u89, u90, u91], []⟩ wx) :
    Code.wp Try.prog (regAt 6 doB) Q ⟨#[u0, .int .u64 d, .pointer (some ⟨gx, 0, none⟩), u3, u4, u5, u6, .int .u64 r, u8, u9, u10, u11, u12, u13, u14, u15, u16, u17, u18, u19, u20, u21, u22, u23, u24, u25, u26, u27, u28, u29, u30, u31, u32, u33, u34, u35, u36, u37, u38, u39, u40, u41, u42, u43, u44, u45, u46, u47, u48, u49, u50, u51, u52, u53, u54, u55, u56, u57, u58, u59, u60, u61, u62, u63, u64, u65, u66, u67, u68, u69, u70, u71, u72, u73, u74, u75, u76, u77, u78, u79, u80, u81, u82, u83, u84, u85, u86, u87, u88, u89, u90, u91], []⟩ wr := by
  conv => arg 2; whnf
  have HKK := Lib.hid hK
  clear hK
  have hr0 := hr.1
  have hr1 : r ≤ 18446744073709551615 := by omega
  have v1 : IntKind.i64.wrap (r / 2) = r / 2 := by rw [IntKind.wrap_i64]; omega
  have T := fun w => cRefTimes (a := r / 2) (b := d) (by unfold i64ok; omega) hd w
  have hm := mul_low (x := r / 2) (y := d) ⟨by omega, by omega⟩ hd
  have hgs := Lib.hid H.out.size
  have hLs := Lib.hid H.out.lt
  have D := fun w => cRefDiv (x := r / 2 * d) (d := q) (by unfold i128ok; omega) ⟨by omega, hq.2⟩ (by omega) w
  clear hm
  generalize r / 2 * d / q = y1 at *
  generalize r / 2 * d % q = y2 at *
  go_region_held3 (fun w' => Kp w L w' ∧ w'.cell? ⟨gx, 1, none⟩ = some (.int .u64 q))
    (first | exact dkeep HX H.out.drew | exact dkeep HX HB0.out | exact dkeep HX HB1.out | exact dkeep HX (HB1.out.alloc _) | exact dkeep HX (HB1.out.set (a := ⟨wr.heap.size, 0, none⟩) hgs.out (fun p hp => by have := hLs.out p hp; simp only []; omega) _ |>.set (a := ⟨wr.heap.size, 1, none⟩) hgs.out (fun p hp => by have := hLs.out p hp; simp only []; omega) _) | exact dkeep HX (HB1.out.set (a := ⟨w5.heap.size, 0, none⟩) HB0.out.size (fun p hp => by have := HB0.out.lt p hp; simp only []; omega) _ |>.set (a := ⟨w5.heap.size, 1, none⟩) HB0.out.size (fun p hp => by have := HB0.out.lt p hp; simp only []; omega) _) | exact dkeep HX ((‹Kp _ _ _ ∧ _›).1.alloc _) | exact dkeep HX (‹Kp _ _ _ ∧ _›).1.drew | go_keep)
    (first | (go_at_call 103; (with_reducible refine (T _).mono ?_); rintro e0 w5 ⟨rfl, b5⟩; have HB0 := Lib.hid ((‹Kp _ _ _ ∧ _›).1.below b5); have HN := Lib.hid (Blk.below (Blk.new wr 152 #[.int .i64 0, .int .u64 0]).drew b5)) | (go_at_call 103; (with_reducible refine (T _).mono ?_); rintro e0 w5 ⟨rfl, b5⟩; have HB0 := Lib.hid ((‹Kp _ _ _ ∧ _›).1.below b5)) | (go_at_call 102; (with_reducible refine (D _).mono ?_); rintro e1 w6 ⟨rfl, b6⟩; have HB1 := Lib.hid ((‹Kp _ _ _ ∧ _›).1.below b6); have HN := Lib.hid (Blk.below HN.out b6); obtain ⟨z0, z1, z2, z3⟩ := Blk.cells2 HN.out) | (go_at_call 102; (with_reducible refine (D _).mono ?_); rintro e1 w6 ⟨rfl, b6⟩; have HB1 := Lib.hid ((‹Kp _ _ _ ∧ _›).1.below b6); have HN := Lib.hid (Blk.below (Blk.new w5 152 #[.int .i64 0, .int .u64 0]) b6); obtain ⟨z0, z1, z2, z3⟩ := Blk.cells2 HN.out) | (go_at_call 102; (with_reducible refine (D _).mono ?_); rintro e1 w6 ⟨rfl, b6⟩; have HB1 := Lib.hid ((‹Kp _ _ _ ∧ _›).1.below b6)))
  all_goals first
    | (have hz := HB1.out.size; exact HKK.out _ _ _ _ _ _ _ _ _ _ _ _ w6.heap.size _ (Lib.hid ((HB1.out.alloc _).push hz (Blk.new _ _ _))))
    | exact HKK.out _ _ _ _ _ _ _ _ _ _ _ _ wr.heap.size _ (Lib.hid ((HB1.out.set (a := ⟨wr.heap.size, 0, none⟩) hgs.out (fun p hp => by have := hLs.out p hp; simp only []; omega) _ |>.set (a := ⟨wr.heap.size, 1, none⟩) hgs.out (fun p hp => by have := hLs.out p hp; simp only []; omega) _).push hgs.out HN.out.set2))
    | exact HKK.out _ _ _ _ _ _ _ _ _ _ _ _ w5.heap.size _ (Lib.hid ((HB1.out.set (a := ⟨w5.heap.size, 0, none⟩) HB0.out.size (fun p hp => by have := HB0.out.lt p hp; simp only []; omega) _ |>.set (a := ⟨w5.heap.size, 1, none⟩) HB0.out.size (fun p hp => by have := HB0.out.lt p hp; simp only []; omega) _).push HB0.out.size HN.out.set2))
set_option maxHeartbeats 4000000 in
set_option maxRecDepth 100000 in
theorem down_two {w wr : World} {gx : Nat} {p q b d r : Int} {L : List KB} (H : Hid (Kp w L wr)) (HX : Hid ((gx, 106, #[.int .u64 p, .int .u64 q, .int .i64 b]) ∈ L)) (hq : 0 < q ∧ q ≤ 18446744073709551615) (hr : 0 ≤ r ∧ r < q) (hd : 0 ≤ d ∧ d ≤ 18446744073709551615) (u0 u3 u4 u5 u6 u8 u9 u10 u11 u12 u13 u14 u15 u16 u17 u18 u19 u20 u21 u22 u23 u24 u25 u26 u27 u28 u29 u30 u31 u32 u33 u34 u35 u36 u37 u38 u39 u40 u41 u42 u43 u44 u45 u46 u47 u48 u49 u50 u51 u52 u53 u54 u55 u56 u57 u58 u59 u60 u61 u62 u63 u64 u65 u66 u67 u68 u69 u70 u71 u72 u73 u74 u75 u76 u77 u78 u79 u80 u81 u82 u83 u84 u85 u86 u87 u88 u89 u90 u91 : Value) {Q : Exit → Act → World → Prop}
    (hK : ∀ (x49 x50 x51 x52 x53 x54 x55 x56 x57 x58 x59 x60 x61 x62 x63 x64 x65 x66 : Value) (g : Nat) (wx : World), Hid (Kp w ((g, 152, #[.int .i64 (I128.enc ((r / 2 * d + r % 2 * d) / q)).1, .int .u64 (I128.enc ((r / 2 * d + r % 2 * d) / q)).2]) :: L) wx) → Q .normal ⟨#[u0, .int .u64 d, .pointer (some ⟨gx, 0, none⟩), u3, u4, u5, u6, .int .u64 r, u8, u9, u10, u11, .pointer (some ⟨g, 0, none⟩), .int .u64 ((r / 2 * d + r % 2 * d) % q), .int .i64 0, u15, u16, u17, u18, u19, u20, u21, u22, u23, u24, u25, u26, u27, u28, u29, u30, u31, u32, u33, u34, u35, u36, u37, u38, u39, u40, u41, u42, u43, u44, u45, u46, u47, u48, x49, x50, x51, x52, x53, x54, x55, x56, x57, x58, x59, x60, x61, x62, x63, x64, x65, x66, u67, u68, u69, u70, u71, u72, u73, u74, u75, u76, u77, u78, u79, u80, u81, u82, u83, u84, u85, u86, u87, u88, u89, u90, u91], []⟩ wx) :
    Code.wp Try.prog (regAt 7 doB) Q ⟨#[u0, .int .u64 d, .pointer (some ⟨gx, 0, none⟩), u3, u4, u5, u6, .int .u64 r, u8, u9, u10, u11, u12, u13, u14, u15, u16, u17, u18, u19, u20, u21, u22, u23, u24, u25, u26, u27, u28, u29, u30, u31, u32, u33, u34, u35, u36, u37, u38, u39, u40, u41, u42, u43, u44, u45, u46, u47, u48, u49, u50, u51, u52, u53, u54, u55, u56, u57, u58, u59, u60, u61, u62, u63, u64, u65, u66, u67, u68, u69, u70, u71, u72, u73, u74, u75, u76, u77, u78, u79, u80, u81, u82, u83, u84, u85, u86, u87, u88, u89, u90, u91], []⟩ wr := by
  conv => arg 2; whnf
  have HKK := Lib.hid hK
  clear hK
  have hr0 := hr.1
  have hr1 : r ≤ 18446744073709551615 := by omega
  have v1 : IntKind.i64.wrap (r / 2) = r / 2 := by rw [IntKind.wrap_i64]; omega
  have T := fun w => cRefTimes (a := r / 2) (b := d) (by unfold i64ok; omega) hd w
  have hm := mul_low (x := r / 2) (y := d) ⟨by omega, by omega⟩ hd
  have hgs := Lib.hid H.out.size
  have hLs := Lib.hid H.out.lt
  have v2 : bits .and .u64 r 1 = r % 2 := and_one r hr0 hr1
  have v3 : IntKind.i64.wrap (r % 2) = r % 2 := by rw [IntKind.wrap_i64]; omega
  have hm2 := mul_low (x := r % 2) (y := d) ⟨by omega, by omega⟩ hd
  have hm3 : r % 2 * d ≤ 18446744073709551615 := Int.le_trans (Int.mul_le_mul_of_nonneg_right (by omega : r % 2 ≤ 1) hd.1) (by omega)
  have T2 := fun w => cRefTimes (a := r % 2) (b := d) (by unfold i64ok; omega) hd w
  have U := fun w => cRefAdd (r / 2 * d) (r % 2 * d) w
  have D := fun w => cRefDiv (x := r / 2 * d + r % 2 * d) (d := q) (by unfold i128ok; omega) ⟨by omega, hq.2⟩ (by omega) w
  clear hm hm2 hm3
  generalize (r / 2 * d + r % 2 * d) / q = y1 at *
  generalize (r / 2 * d + r % 2 * d) % q = y2 at *
  go_region_held3 (fun w' => Kp w L w' ∧ w'.cell? ⟨gx, 1, none⟩ = some (.int .u64 q))
    (first | exact dkeep HX H.out.drew | exact dkeep HX HB0.out | exact dkeep HX HB1.out | exact dkeep HX HB2.out | exact dkeep HX HB3.out | exact dkeep HX (HB3.out.alloc _) | exact dkeep HX (HB3.out.set (a := ⟨wr.heap.size, 0, none⟩) hgs.out (fun p hp => by have := hLs.out p hp; simp only []; omega) _ |>.set (a := ⟨wr.heap.size, 1, none⟩) hgs.out (fun p hp => by have := hLs.out p hp; simp only []; omega) _) | exact dkeep HX (HB3.out.set (a := ⟨w5.heap.size, 0, none⟩) HB0.out.size (fun p hp => by have := HB0.out.lt p hp; simp only []; omega) _ |>.set (a := ⟨w5.heap.size, 1, none⟩) HB0.out.size (fun p hp => by have := HB0.out.lt p hp; simp only []; omega) _) | exact dkeep HX (HB3.out.set (a := ⟨w6.heap.size, 0, none⟩) HB1.out.size (fun p hp => by have := HB1.out.lt p hp; simp only []; omega) _ |>.set (a := ⟨w6.heap.size, 1, none⟩) HB1.out.size (fun p hp => by have := HB1.out.lt p hp; simp only []; omega) _) | exact dkeep HX (HB3.out.set (a := ⟨w7.heap.size, 0, none⟩) HB2.out.size (fun p hp => by have := HB2.out.lt p hp; simp only []; omega) _ |>.set (a := ⟨w7.heap.size, 1, none⟩) HB2.out.size (fun p hp => by have := HB2.out.lt p hp; simp only []; omega) _) | exact dkeep HX ((‹Kp _ _ _ ∧ _›).1.alloc _) | exact dkeep HX (‹Kp _ _ _ ∧ _›).1.drew | go_keep)
    (first | (go_at_call 103; (with_reducible refine (T _).mono ?_); rintro e0 w5 ⟨rfl, b5⟩; have HB0 := Lib.hid ((‹Kp _ _ _ ∧ _›).1.below b5); have HN := Lib.hid (Blk.below (Blk.new wr 152 #[.int .i64 0, .int .u64 0]).drew b5)) | (go_at_call 103; (with_reducible refine (T _).mono ?_); rintro e0 w5 ⟨rfl, b5⟩; have HB0 := Lib.hid ((‹Kp _ _ _ ∧ _›).1.below b5)) | (go_at_call 103; (with_reducible refine (T2 _).mono ?_); rintro e1 w6 ⟨rfl, b6⟩; have HB1 := Lib.hid ((‹Kp _ _ _ ∧ _›).1.below b6); have HN := Lib.hid (Blk.below HN.out b6)) | (go_at_call 103; (with_reducible refine (T2 _).mono ?_); rintro e1 w6 ⟨rfl, b6⟩; have HB1 := Lib.hid ((‹Kp _ _ _ ∧ _›).1.below b6); have HN := Lib.hid (Blk.below (Blk.new w5 152 #[.int .i64 0, .int .u64 0]) b6)) | (go_at_call 103; (with_reducible refine (T2 _).mono ?_); rintro e1 w6 ⟨rfl, b6⟩; have HB1 := Lib.hid ((‹Kp _ _ _ ∧ _›).1.below b6)) | (go_at_call 104; (with_reducible refine (U _).mono ?_); rintro e2 w7 ⟨rfl, b7⟩; have HB2 := Lib.hid ((‹Kp _ _ _ ∧ _›).1.below b7); have HN := Lib.hid (Blk.below HN.out b7)) | (go_at_call 104; (with_reducible refine (U _).mono ?_); rintro e2 w7 ⟨rfl, b7⟩; have HB2 := Lib.hid ((‹Kp _ _ _ ∧ _›).1.below b7); have HN := Lib.hid (Blk.below (Blk.new w6 152 #[.int .i64 0, .int .u64 0]) b7)) | (go_at_call 104; (with_reducible refine (U _).mono ?_); rintro e2 w7 ⟨rfl, b7⟩; have HB2 := Lib.hid ((‹Kp _ _ _ ∧ _›).1.below b7)) | (go_at_call 102; (with_reducible refine (D _).mono ?_); rintro e3 w8 ⟨rfl, b8⟩; have HB3 := Lib.hid ((‹Kp _ _ _ ∧ _›).1.below b8); have HN := Lib.hid (Blk.below HN.out b8); obtain ⟨z0, z1, z2, z3⟩ := Blk.cells2 HN.out) | (go_at_call 102; (with_reducible refine (D _).mono ?_); rintro e3 w8 ⟨rfl, b8⟩; have HB3 := Lib.hid ((‹Kp _ _ _ ∧ _›).1.below b8); have HN := Lib.hid (Blk.below (Blk.new w7 152 #[.int .i64 0, .int .u64 0]) b8); obtain ⟨z0, z1, z2, z3⟩ := Blk.cells2 HN.out) | (go_at_call 102; (with_reducible refine (D _).mono ?_); rintro e3 w8 ⟨rfl, b8⟩; have HB3 := Lib.hid ((‹Kp _ _ _ ∧ _›).1.below b8)))
  all_goals first
    | (have hz := HB3.out.size; exact HKK.out _ _ _ _ _ _ _ _ _ _ _ _ _ _ _ _ _ _ w8.heap.size _ (Lib.hid ((HB3.out.alloc _).push hz (Blk.new _ _ _))))
    | exact HKK.out _ _ _ _ _ _ _ _ _ _ _ _ _ _ _ _ _ _ wr.heap.size _ (Lib.hid ((HB3.out.set (a := ⟨wr.heap.size, 0, none⟩) hgs.out (fun p hp => by have := hLs.out p hp; simp only []; omega) _ |>.set (a := ⟨wr.heap.size, 1, none⟩) hgs.out (fun p hp => by have := hLs.out p hp; simp only []; omega) _).push hgs.out HN.out.set2))
    | exact HKK.out _ _ _ _ _ _ _ _ _ _ _ _ _ _ _ _ _ _ w5.heap.size _ (Lib.hid ((HB3.out.set (a := ⟨w5.heap.size, 0, none⟩) HB0.out.size (fun p hp => by have := HB0.out.lt p hp; simp only []; omega) _ |>.set (a := ⟨w5.heap.size, 1, none⟩) HB0.out.size (fun p hp => by have := HB0.out.lt p hp; simp only []; omega) _).push HB0.out.size HN.out.set2))
    | exact HKK.out _ _ _ _ _ _ _ _ _ _ _ _ _ _ _ _ _ _ w6.heap.size _ (Lib.hid ((HB3.out.set (a := ⟨w6.heap.size, 0, none⟩) HB1.out.size (fun p hp => by have := HB1.out.lt p hp; simp only []; omega) _ |>.set (a := ⟨w6.heap.size, 1, none⟩) HB1.out.size (fun p hp => by have := HB1.out.lt p hp; simp only []; omega) _).push HB1.out.size HN.out.set2))
    | exact HKK.out _ _ _ _ _ _ _ _ _ _ _ _ _ _ _ _ _ _ w7.heap.size _ (Lib.hid ((HB3.out.set (a := ⟨w7.heap.size, 0, none⟩) HB2.out.size (fun p hp => by have := HB2.out.lt p hp; simp only []; omega) _ |>.set (a := ⟨w7.heap.size, 1, none⟩) HB2.out.size (fun p hp => by have := HB2.out.lt p hp; simp only []; omega) _).push HB2.out.size HN.out.set2))
end Go.Proofs.Ytnccgpdniigekaa
/-
  The reference's down and At.
-/
namespace Go.Proofs.Ytnccgpdniigekaa
open Go.RowKit
set_option linter.unusedVariables false
set_option linter.unusedSimpArgs false

theorem down_sum {p q d : Int} (hq : 0 < q) : p * d / q = p / q * d + p % q * d / q := by
  have e : p * d = p % q * d + q * (p / q * d) := by
    have h := Int.emod_add_mul_ediv p q
    conv => lhs; rw [← h]
    rw [Int.add_mul, Int.mul_assoc]
  rw [e, Int.add_mul_ediv_left _ _ (by omega), Int.add_comm]
theorem down_half {r q d : Int} (hq : 0 < q) : r * d / q = r / 2 * d / q + (r / 2 * d + r % 2 * d) / q + (if q ≤ r / 2 * d % q + (r / 2 * d + r % 2 * d) % q then 1 else 0) := by
  have e : r * d = r / 2 * d + (r / 2 * d + r % 2 * d) := by
    have h := Int.emod_add_mul_ediv r 2
    conv => lhs; rw [← h]
    rw [Int.add_mul, Int.mul_assoc]; omega
  rw [e]
  generalize r / 2 * d = A
  generalize A + r % 2 * d = B
  have ha := Int.emod_nonneg A (by omega : q ≠ 0)
  have hb := Int.emod_nonneg B (by omega : q ≠ 0)
  have ha2 := Int.emod_lt_of_pos A hq
  have hb2 := Int.emod_lt_of_pos B hq
  have e2 : A + B = (A % q + B % q) + q * (A / q + B / q) := by
    have h1 := Int.emod_add_mul_ediv A q
    have h2 := Int.emod_add_mul_ediv B q
    rw [Int.mul_add]; omega
  rw [e2, Int.add_mul_ediv_left _ _ (by omega)]
  split
  · rename_i h
    have : (A % q + B % q) / q = 1 := by
      have h1 : A % q + B % q = (A % q + B % q - q) + q * 1 := by omega
      rw [h1, Int.add_mul_ediv_left _ _ (by omega), Int.ediv_eq_zero_of_lt (by omega) (by omega)]; omega
    omega
  · rename_i h
    rw [Int.ediv_eq_zero_of_lt (by omega) (by omega)]; omega
/-- What down answers. -/
def downV (p q d : Int) : Int × Bool := if p * d / q ≤ 2305843009213693952 then (p * d / q, true) else (0, false)
theorem enc_lo {x : Int} (h0 : 0 ≤ x) (h1 : x ≤ 18446744073709551615) : (I128.enc x).2 = x := by unfold I128.enc; simp only []; omega
set_option maxHeartbeats 4000000 in
set_option maxRecDepth 100000 in
theorem down_any (p q b d : Int) (h1 : u64ok p) (h2 : u64ok q) (hd : u64ok d) (hz : 0 < q) (w : World) :
    Calls Try.prog 87 #[.agg #[.int .u64 p, .int .u64 q, .int .i64 b], .int .u64 d] w fun e w' => e = .returned (.tuple #[.int .i64 (downV p q d).1, .bool (downV p q d).2]) ∧ Below w.heap.size w w' := by
  have z0 : 0 ≤ p := h1.1
  have z1 : p ≤ 18446744073709551615 := h1.2
  have z2 : q ≤ 18446744073709551615 := h2.2
  have d0 : 0 ≤ d := hd.1
  have d1 : d ≤ 18446744073709551615 := hd.2
  have hs := down_sum (p := p) (d := d) hz
  have W0 : 0 ≤ p / q := Int.ediv_nonneg z0 (by omega)
  have r0 : 0 ≤ p % q := Int.emod_nonneg _ (by omega)
  have r1 : p % q < q := Int.emod_lt_of_pos _ hz
  have hM0 : 0 ≤ p % q * d / q := Int.ediv_nonneg (Int.mul_nonneg r0 d0) (by omega)
  have hM1 : p % q * d / q ≤ d := by
    have : p % q * d ≤ q * d := Int.mul_le_mul_of_nonneg_right (by omega) d0
    have := Int.ediv_le_ediv hz this
    rwa [Int.mul_ediv_cancel_left _ (by omega)] at this
  by_cases hw : 0 < p / q ∧ 2305843009213693952 / (p / q) < d
  · have HV : Hid (downV p q d = (0, false)) := Lib.hid (by
      unfold downV
      have k1 : 2305843009213693952 < p / q * d := by
        have := Int.lt_mul_of_ediv_lt hw.1 hw.2
        rwa [Int.mul_comm] at this
      rw [if_neg (by omega)])
    have g1 : decide (0 < p / q) = true := by simpa using hw.1
    have g2 : decide (2305843009213693952 / (p / q) < d) = true := by simpa using hw.2
    have w3 := hw.1
    clear hs hM0 hM1 hw
    go_enter Try.func87, Try.ntmps87
    go_wp2_with fail
    go_ret2
    exact ⟨by rw [HV.out]; rfl, below_new (Below.refl _ _) _⟩
  · have hn : 0 ≤ p / q * d ∧ p / q * d ≤ 2305843009213693952 := by
      refine ⟨Int.mul_nonneg W0 d0, ?_⟩
      by_cases h0 : p / q = 0
      · rw [h0]; omega
      · have h3 : d ≤ 2305843009213693952 / (p / q) := by
          rcases Int.lt_or_le (2305843009213693952 / (p / q)) d with h | h
          · exact absurd ⟨by omega, h⟩ hw
          · exact h
        have := Int.mul_le_mul_of_nonneg_left h3 W0
        have h4 := Int.mul_ediv_self_le (x := 2305843009213693952) (k := p / q) h0
        omega
    have v1 : IntKind.u64.wrap (p / q * d) = p / q * d := by rw [IntKind.wrap_u64]; omega
    have hh := down_half (r := p % q) (d := d) hz
    have y10 : 0 ≤ p % q / 2 * d / q := Int.ediv_nonneg (Int.mul_nonneg (by omega) d0) (by omega)
    have y20 : 0 ≤ (p % q / 2 * d + p % q % 2 * d) / q := Int.ediv_nonneg (Int.add_nonneg (Int.mul_nonneg (by omega) d0) (Int.mul_nonneg (by omega) d0)) (by omega)
    have a0 : 0 ≤ p % q / 2 * d % q := Int.emod_nonneg _ (by omega)
    have b0 : 0 ≤ (p % q / 2 * d + p % q % 2 * d) % q := Int.emod_nonneg _ (by omega)
    have a1 : p % q / 2 * d % q < q := Int.emod_lt_of_pos _ hz
    have b1 : (p % q / 2 * d + p % q % 2 * d) % q < q := Int.emod_lt_of_pos _ hz
    have HV : Hid (downV p q d = if p / q * d + p % q * d / q ≤ 2305843009213693952 then (p / q * d + p % q * d / q, true) else (0, false)) := Lib.hid (by unfold downV; rw [hs])
    have K0 : Hid (Kp w [(w.heap.size, 106, #[.int .u64 p, .int .u64 q, .int .i64 b])] (w.alloc (.cells #[.int .u64 p, .int .u64 q, .int .i64 b] 106))) := Lib.hid ((Kp.nil w).box _ _ rfl)
    have hG : Hid (0 < q ∧ q ≤ 18446744073709551615) := Lib.hid ⟨hz, z2⟩
    have hgr : Hid (0 ≤ p % q ∧ p % q < q) := Lib.hid ⟨r0, r1⟩
    have gw : (0 < p / q ∧ decide (0 < p / q) = true ∧ decide (2305843009213693952 / (p / q) < d) = false) ∨ decide (0 < p / q) = false := by
      by_cases h : 0 < p / q
      · refine .inl ⟨h, by simpa using h, ?_⟩
        simp only [decide_eq_false_iff_not]
        exact fun h' => hw ⟨h, h'⟩
      · exact .inr (by simpa using h)
    have HH := Lib.hid (And.intro hh (And.intro hM0 hM1))
    clear hs hw hh hM0 hM1
    obtain ⟨y1, hy1⟩ : ∃ y1, p % q / 2 * d / q = y1 := ⟨_, rfl⟩
    obtain ⟨y2, hy2⟩ : ∃ y2, (p % q / 2 * d + p % q % 2 * d) / q = y2 := ⟨_, rfl⟩
    obtain ⟨a, ha⟩ : ∃ a, p % q / 2 * d % q = a := ⟨_, rfl⟩
    obtain ⟨c, hc⟩ : ∃ c, (p % q / 2 * d + p % q % 2 * d) % q = c := ⟨_, rfl⟩
    have D1 := fun {wr : World} {L : List KB} {gx : Nat} => @down_one w wr gx p q b d (p % q) L
    have D2 := fun {wr : World} {L : List KB} {gx : Nat} => @down_two w wr gx p q b d (p % q) L
    rw [hy1, ha] at D1
    rw [hy2, hc] at D2
    rw [hy1, hy2, ha, hc] at HH
    rw [hy1] at y10
    rw [hy2] at y20
    rw [ha] at a0 a1
    rw [hc] at b0 b1
    clear hy1 hy2 ha hc
    have HD := Lib.hid (And.intro @D1 @D2)
    clear D1 D2
    obtain ⟨n, hn'⟩ : ∃ n, p / q * d = n := ⟨_, rfl⟩
    have v2 : IntKind.u64.wrap (p / q * d) = n := v1.trans hn'
    rw [hn'] at hn HV
    clear hn' v1
    generalize p % q * d / q = M at *
    rcases gw with ⟨g0, g1, g2⟩ | g1
    all_goals
      go_enter Try.func87, Try.ntmps87
      go_upto_region 6 with fail
      refine HD.out.1 K0 (Lib.hid List.mem_cons_self) hG.out hgr.out ⟨d0, d1⟩ _ _ _ _ _ _ _ _ _ _ _ _ _ _ _ _ _ _ _ _ _ _ _ _ _ _ _ _ _ _ _ _ _ _ _ _ _ _ _ _ _ _ _ _ _ _ _ _ _ _ _ _ _ _ _ _ _ _ _ _ _ _ _ _ _ _ _ _ _ _ _ _ _ _ _ _ _ _ _ _ _ _ _ _ _ _ _ _ _ ?_
      intro _ _ _ _ _ _ _ _ _ _ _ _ g9 wx H6
      go_upto_region 7 with fail
      refine HD.out.2 H6 (Lib.hid (List.mem_cons_of_mem _ List.mem_cons_self)) hG.out hgr.out ⟨d0, d1⟩ _ _ _ _ _ _ _ _ _ _ _ _ _ _ _ _ _ _ _ _ _ _ _ _ _ _ _ _ _ _ _ _ _ _ _ _ _ _ _ _ _ _ _ _ _ _ _ _ _ _ _ _ _ _ _ _ _ _ _ _ _ _ _ _ _ _ _ _ _ _ _ _ _ _ _ _ _ _ _ _ _ _ _ _ _ _ _ _ _ ?_
      intro _ _ _ _ _ _ _ _ _ _ _ _ _ _ _ _ _ _ g12 wy H7
      have hm := HH.out
      have e1 := enc_lo (x := y1) y10 (by have := hm.1; split at this <;> omega)
      have e2 := enc_lo (x := y2) y20 (by have := hm.1; split at this <;> omega)
      have s1 : y1 + y2 + 1 ≤ 18446744073709551615 ∨ ¬ q ≤ a + c := by
        by_cases h : q ≤ a + c
        · rw [if_pos h] at hm; left; omega
        · exact .inr h
      have s2 : y1 + y2 ≤ 18446744073709551615 := by have := hm.1; split at this <;> omega
      have x1 : wy.cell? ⟨g9, 1, none⟩ = some (.int .u64 y1) := by have := (H7.out.at_ (List.mem_cons_of_mem _ List.mem_cons_self)).cell 1; rw [e1] at this; exact this
      have x2 : wy.cell? ⟨g12, 1, none⟩ = some (.int .u64 y2) := by have := (H7.out.at_ List.mem_cons_self).cell 1; rw [e2] at this; exact this
      have x3 : wy.cell? ⟨w.heap.size, 1, none⟩ = some (.int .u64 q) := (H7.out.at_ (List.mem_cons_of_mem _ (List.mem_cons_of_mem _ List.mem_cons_self))).cell 1
      have u1 : IntKind.u64.wrap (y1 + y2) = y1 + y2 := by rw [IntKind.wrap_u64]; omega
      have u2 : IntKind.u64.wrap (q - c) = q - c := by rw [IntKind.wrap_u64]; omega
      have HB := Lib.hid H7.out.bel
      clear H6 H7 e1 e2 hm HD K0 hG hgr
      by_cases hc : q - c ≤ a
      · have g3 : decide (q - c ≤ a) = true := by simpa using hc
        have hM : Hid (M = y1 + y2 + 1) := Lib.hid (by have := HH.out.1; rw [if_pos (by omega)] at this; exact this)
        have u3 : IntKind.u64.wrap (y1 + y2 + 1) = y1 + y2 + 1 := by rw [IntKind.wrap_u64]; omega
        rw [hM.out] at HV
        by_cases h5 : n + (y1 + y2 + 1) ≤ 2305843009213693952
        · have hv := HV.out
          rw [if_pos h5] at hv
          have HV2 := Lib.hid hv
          have g4 : decide (2305843009213693952 < y1 + y2 + 1) = false := by simp; omega
          have u4 : IntKind.u64.wrap (2305843009213693952 - (y1 + y2 + 1)) = 2305843009213693952 - (y1 + y2 + 1) := by rw [IntKind.wrap_u64]; omega
          have g5 : decide (2305843009213693952 - (y1 + y2 + 1) < n) = false := by simp; omega
          have u5 : IntKind.u64.wrap (n + (y1 + y2 + 1)) = n + (y1 + y2 + 1) := by rw [IntKind.wrap_u64]; omega
          have u6 : IntKind.i64.wrap (n + (y1 + y2 + 1)) = n + (y1 + y2 + 1) := by rw [IntKind.wrap_i64]; omega
          clear hv HV s1 s2
          go_wp2_with fail
          go_ret2
          exact ⟨by rw [HV2.out]; rfl, HB.out⟩
        · have hv := HV.out
          rw [if_neg h5] at hv
          have HV2 := Lib.hid hv
          by_cases h6 : 2305843009213693952 < y1 + y2 + 1
          · have g4 : decide (2305843009213693952 < y1 + y2 + 1) = true := by simpa using h6
            clear hv HV s1 s2
            go_wp2_with fail
            go_ret2
            exact ⟨by rw [HV2.out]; rfl, HB.out⟩
          · have g4 : decide (2305843009213693952 < y1 + y2 + 1) = false := by simpa using h6
            have u4 : IntKind.u64.wrap (2305843009213693952 - (y1 + y2 + 1)) = 2305843009213693952 - (y1 + y2 + 1) := by rw [IntKind.wrap_u64]; omega
            have g5 : decide (2305843009213693952 - (y1 + y2 + 1) < n) = true := by simp; omega
            clear hv HV s1 s2
            go_wp2_with fail
            go_ret2
            exact ⟨by rw [HV2.out]; rfl, HB.out⟩
      · have g3 : decide (q - c ≤ a) = false := by simpa using hc
        have hM : Hid (M = y1 + y2) := Lib.hid (by have := HH.out.1; rw [if_neg (by omega)] at this; omega)
        rw [hM.out] at HV
        by_cases h5 : n + (y1 + y2) ≤ 2305843009213693952
        · have hv := HV.out
          rw [if_pos h5] at hv
          have HV2 := Lib.hid hv
          have g4 : decide (2305843009213693952 < y1 + y2) = false := by simp; omega
          have u4 : IntKind.u64.wrap (2305843009213693952 - (y1 + y2)) = 2305843009213693952 - (y1 + y2) := by rw [IntKind.wrap_u64]; omega
          have g5 : decide (2305843009213693952 - (y1 + y2) < n) = false := by simp; omega
          have u5 : IntKind.u64.wrap (n + (y1 + y2)) = n + (y1 + y2) := by rw [IntKind.wrap_u64]; omega
          have u6 : IntKind.i64.wrap (n + (y1 + y2)) = n + (y1 + y2) := by rw [IntKind.wrap_i64]; omega
          clear hv HV s1 s2
          go_wp2_with fail
          go_ret2
          exact ⟨by rw [HV2.out]; rfl, HB.out⟩
        · have hv := HV.out
          rw [if_neg h5] at hv
          have HV2 := Lib.hid hv
          by_cases h6 : 2305843009213693952 < y1 + y2
          · have g4 : decide (2305843009213693952 < y1 + y2) = true := by simpa using h6
            clear hv HV s1 s2
            go_wp2_with fail
            go_ret2
            exact ⟨by rw [HV2.out]; rfl, HB.out⟩
          · have g4 : decide (2305843009213693952 < y1 + y2) = false := by simpa using h6
            have u4 : IntKind.u64.wrap (2305843009213693952 - (y1 + y2)) = 2305843009213693952 - (y1 + y2) := by rw [IntKind.wrap_u64]; omega
            have g5 : decide (2305843009213693952 - (y1 + y2) < n) = true := by simp; omega
            clear hv HV s1 s2
            go_wp2_with fail
            go_ret2
            exact ⟨by rw [HV2.out]; rfl, HB.out⟩
end Go.Proofs.Ytnccgpdniigekaa
/-
  The reference's At.
-/
namespace Go.Proofs.Ytnccgpdniigekaa
open Go.RowKit
set_option linter.unusedVariables false
set_option linter.unusedSimpArgs false

end Go.Proofs.Ytnccgpdniigekaa
