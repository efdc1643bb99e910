/-
  Whole numbers of 128 bits as pairs (Hi, Lo): plain arithmetic, no program in sight.
-/
import Derived.RowKit
import Derived.Laws.BitsLemmas
import Derived.Laws.Bits64
namespace Go.Proofs.Ytcnhgblpeonmgaa
open Go.RowKit
set_option linter.unusedVariables false
set_option linter.unusedSimpArgs false

/-- The number that a pair tells; the pair of a number, modulo 2^128. -/
def I128.val (hi lo : Int) : Int := hi * 18446744073709551616 + lo
def I128.enc (z : Int) : Int × Int := (wrap64 (z / 18446744073709551616), z % 18446744073709551616)
def i64ok (x : Int) : Prop := -9223372036854775808 ≤ x ∧ x ≤ 9223372036854775807
def u64ok (x : Int) : Prop := 0 ≤ x ∧ x ≤ 18446744073709551615
instance (x : Int) : Decidable (i64ok x) := by unfold i64ok; infer_instance
instance (x : Int) : Decidable (u64ok x) := by unfold u64ok; infer_instance
/-- The numbers of 128 bits with a sign. -/
def i128ok (z : Int) : Prop := -170141183460469231731687303715884105728 ≤ z ∧ z < 170141183460469231731687303715884105728

theorem I128.enc_i64 (z : Int) : i64ok (I128.enc z).1 := by unfold I128.enc i64ok wrap64; simp only []; omega
theorem I128.enc_u64 (z : Int) : u64ok (I128.enc z).2 := by unfold I128.enc u64ok; simp only []; omega
theorem I128.val_ok {hi lo : Int} (h1 : i64ok hi) (h2 : u64ok lo) : i128ok (I128.val hi lo) := by
  unfold i64ok at h1; unfold u64ok at h2; unfold i128ok I128.val; omega
theorem I128.enc_val {hi lo : Int} (h1 : i64ok hi) (h2 : u64ok lo) : I128.enc (I128.val hi lo) = (hi, lo) := by
  unfold i64ok at h1; unfold u64ok at h2; unfold I128.enc I128.val wrap64
  refine Prod.ext ?_ ?_ <;> simp only [] <;> omega
theorem I128.val_enc (z : Int) : ∃ m : Int, I128.val (I128.enc z).1 (I128.enc z).2 = z + m * 340282366920938463463374607431768211456 := by
  refine ⟨- ((z / 18446744073709551616 + 9223372036854775808) / 18446744073709551616), ?_⟩
  unfold I128.enc I128.val wrap64; simp only []; omega
theorem I128.val_enc_of {z : Int} (h : i128ok z) : I128.val (I128.enc z).1 (I128.enc z).2 = z := by
  unfold i128ok at h; unfold I128.enc I128.val wrap64; simp only []; omega
/-- Numbers that part by a multiple of 2^128 have one pair. -/
theorem I128.enc_add_mul (z m : Int) : I128.enc (z + m * 340282366920938463463374607431768211456) = I128.enc z := by
  unfold I128.enc wrap64
  refine Prod.ext ?_ ?_ <;> simp only [] <;> omega
theorem I128.enc_congr {a b : Int} (h : (a - b) % 340282366920938463463374607431768211456 = 0) : I128.enc a = I128.enc b := by
  have : a = b + ((a - b) / 340282366920938463463374607431768211456) * 340282366920938463463374607431768211456 := by omega
  rw [this, I128.enc_add_mul]
theorem I128.enc_inj {a b : Int} (ha : i128ok a) (hb : i128ok b) (h : I128.enc a = I128.enc b) : a = b := by
  rw [← I128.val_enc_of ha, ← I128.val_enc_of hb, h]
/-- What stands in a pair, may be put in the place of it: modulo. -/
theorem I128.enc_add_enc (a b : Int) : I128.enc (I128.val (I128.enc a).1 (I128.enc a).2 + I128.val (I128.enc b).1 (I128.enc b).2) = I128.enc (a + b) := by
  obtain ⟨m, hm⟩ := I128.val_enc a; obtain ⟨n, hn⟩ := I128.val_enc b
  rw [hm, hn]; apply I128.enc_congr; omega
theorem I128.enc_add_left (a b : Int) : I128.enc (I128.val (I128.enc a).1 (I128.enc a).2 + b) = I128.enc (a + b) := by
  obtain ⟨m, hm⟩ := I128.val_enc a
  rw [hm]; apply I128.enc_congr; omega
theorem I128.enc_add_right (a b : Int) : I128.enc (a + I128.val (I128.enc b).1 (I128.enc b).2) = I128.enc (a + b) := by
  obtain ⟨m, hm⟩ := I128.val_enc b
  rw [hm]; apply I128.enc_congr; omega
theorem I128.enc_sub_left (a b : Int) : I128.enc (I128.val (I128.enc a).1 (I128.enc a).2 - b) = I128.enc (a - b) := by
  obtain ⟨m, hm⟩ := I128.val_enc a
  rw [hm]; apply I128.enc_congr; omega
theorem I128.enc_sub_right (a b : Int) : I128.enc (a - I128.val (I128.enc b).1 (I128.enc b).2) = I128.enc (a - b) := by
  obtain ⟨m, hm⟩ := I128.val_enc b
  rw [hm]; apply I128.enc_congr; omega
theorem I128.enc_neg (a : Int) : I128.enc (- I128.val (I128.enc a).1 (I128.enc a).2) = I128.enc (-a) := by
  obtain ⟨m, hm⟩ := I128.val_enc a
  rw [hm]; apply I128.enc_congr; omega
theorem I128.sum_fst (ah al bh bl : Int) (h2 : u64ok al) (h4 : u64ok bl) : (I128.enc (I128.val ah al + I128.val bh bl)).1 =
    wrap64 ((IntKind.u64.wrap ah + IntKind.u64.wrap bh + (al + bl) / 18446744073709551616) % 18446744073709551616) := by
  unfold u64ok at h2 h4; unfold I128.enc I128.val wrap64; simp only [IntKind.wrap_u64]; omega
theorem I128.sum_snd (ah al bh bl : Int) : (I128.enc (I128.val ah al + I128.val bh bl)).2 = (al + bl) % 18446744073709551616 := by
  unfold I128.enc I128.val; simp only []; omega
/-- The borrow of a difference. -/
def bor (x y : Int) : Int := if x < y then 1 else 0
theorem I128.dif_fst (ah al bh bl : Int) (h2 : u64ok al) (h4 : u64ok bl) : (I128.enc (I128.val ah al - I128.val bh bl)).1 =
    wrap64 ((IntKind.u64.wrap ah - IntKind.u64.wrap bh - bor al bl) % 18446744073709551616) := by
  unfold u64ok at h2 h4; unfold I128.enc I128.val wrap64 bor; simp only [IntKind.wrap_u64]; split <;> omega
theorem I128.dif_snd (ah al bh bl : Int) : (I128.enc (I128.val ah al - I128.val bh bl)).2 = (al - bl) % 18446744073709551616 := by
  unfold I128.enc I128.val; simp only []; omega
theorem bor_range (x y : Int) : 0 ≤ bor x y ∧ bor x y ≤ 1 := by unfold bor; split <;> omega
theorem u64_range (x : Int) : 0 ≤ IntKind.u64.wrap x ∧ IntKind.u64.wrap x ≤ 18446744073709551615 := by simp only [IntKind.wrap_u64]; omega

end Go.Proofs.Ytcnhgblpeonmgaa
