/-
  What stands ahead of each law of segments: of, same, below.
-/
import Derived.Test.YtnccgpdniigekaaQMdOf
import Derived.Test.YtnccgpdniigekaaQG7
namespace Go.Proofs.Ytnccgpdniigekaa
open Go.RowKit
set_option linter.unusedVariables false
set_option linter.unusedSimpArgs false
attribute [local go_sem high] binOp_lss64 binOp_gtr64 binOp_geq64 binOp_leq64 binOp_eql64 binOp_neq64 f64bits frombits run_store_float

/-- How many are below. -/
def belowN (L : List Int) (q : Int) : Nat → Nat
  | 0 => 0
  | n + 1 => belowN L q n + (if L.getD n 0 < q then 1 else 0)
theorem belowN_le (L : List Int) (q : Int) (n : Nat) : belowN L q n ≤ n := by
  induction n with
  | zero => exact Nat.le_refl _
  | succ n ih => unfold belowN; split <;> omega

/-- A segment told by bits. -/
structure Sb where
  first : Int
  sl : Int
  ic : Int
  fr : Int
  up : Int
def Sb.v (s : Sb) : Value := .agg #[.int .u64 s.first, .int .u64 s.sl, .int .u64 s.ic, .int .i64 s.fr, .int .i64 s.up]
def Sb.sg (s : Sb) : Sg := ⟨s.first, s.sl.toNat, s.ic.toNat, s.fr, s.up⟩
structure SbOk (s : Sb) : Prop where
  hf : u64ok s.first
  hs : u64ok s.sl
  hi : u64ok s.ic
  ha : i64ok s.fr
  hb : i64ok s.up
theorem SbOk.sg {s : Sb} (h : SbOk s) : SgOk s.sg := by
  have h1 := h.hs; have h2 := h.hi
  unfold u64ok at h1 h2
  exact ⟨h.hf, by unfold Sb.sg; simp only []; omega, by unfold Sb.sg; simp only []; omega, h.ha, h.hb⟩

end Go.Proofs.Ytnccgpdniigekaa
