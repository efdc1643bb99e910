/-
  The contracts once more, each number of 128 bits written as the code of a whole number.
-/
import Derived.Test.YtglhfknlemaidaaWdShown
import Derived.Test.YtglhfknlemaidaaWdRefDiv
import Derived.Test.YtglhfknlemaidaaWdRefCmp
import Derived.Test.YtglhfknlemaidaaWdRefSums
import Derived.Test.YtglhfknlemaidaaWdRefTimes
namespace Go.Proofs.Ytglhfknlemaidaa
open Go.RowKit
set_option linter.unusedVariables false
set_option linter.unusedSimpArgs false

theorem enc_pair (p : Int × Int) : some p = some (p.1, p.2) := rfl
theorem encAdd (x y : Int) : wide_Add.f (I128.enc x).1 (I128.enc x).2 (I128.enc y).1 (I128.enc y).2 = some ((I128.enc (x + y)).1, (I128.enc (x + y)).2) := by
  unfold wide_Add.f; rw [if_pos ⟨I128.enc_i64 x, I128.enc_u64 x, I128.enc_i64 y, I128.enc_u64 y⟩, I128.enc_add_enc]
theorem encSub (x y : Int) : wide_Sub.f (I128.enc x).1 (I128.enc x).2 (I128.enc y).1 (I128.enc y).2 = some ((I128.enc (x - y)).1, (I128.enc (x - y)).2) := by
  unfold wide_Sub.f; rw [if_pos ⟨I128.enc_i64 x, I128.enc_u64 x, I128.enc_i64 y, I128.enc_u64 y⟩, I128.enc_sub_left, I128.enc_sub_right]
theorem encNeg (x : Int) : wide_Neg.f (I128.enc x).1 (I128.enc x).2 = some ((I128.enc (-x)).1, (I128.enc (-x)).2) := by
  unfold wide_Neg.f; rw [if_pos ⟨I128.enc_i64 x, I128.enc_u64 x⟩, I128.enc_neg]

theorem cOf {a : Int} (h : i64ok a) (w : World) : Calls Try.prog 11 #[.int .i64 a] w fun e w' => e = .returned (.agg #[.int .i64 (I128.enc a).1, .int .u64 (I128.enc a).2]) ∧ Below w.heap.size w w' :=
  wide_Of.calls a _ _ w (by unfold wide_Of.f; rw [if_pos h])
theorem cRefOf {a : Int} (h : i64ok a) (w : World) : Calls Try.prog 12 #[.int .i64 a] w fun e w' => e = .returned (.agg #[.int .i64 (I128.enc a).1, .int .u64 (I128.enc a).2]) ∧ Below w.heap.size w w' := by
  have e := I128.enc_val (refhi_ok a) (u64wrap_ok a)
  rw [refhi_val h] at e
  rw [e]
  exact ref_of_any a w
theorem cTimes {a b : Int} (h : i64ok a) (k : u64ok b) (w : World) : Calls Try.prog 13 #[.int .i64 a, .int .u64 b] w fun e w' => e = .returned (.agg #[.int .i64 (I128.enc (a * b)).1, .int .u64 (I128.enc (a * b)).2]) ∧ Below w.heap.size w w' :=
  wide_Times.calls a b _ _ w (by unfold wide_Times.f; rw [if_pos ⟨h, k⟩])
theorem cRefTimes {a b : Int} (h : i64ok a) (k : u64ok b) (w : World) : Calls Try.prog 14 #[.int .i64 a, .int .u64 b] w fun e w' => e = .returned (.agg #[.int .i64 (I128.enc (a * b)).1, .int .u64 (I128.enc (a * b)).2]) ∧ Below w.heap.size w w' :=
  inclineref01_Times.calls a b _ _ w (by unfold inclineref01_Times.f; rw [if_pos ⟨h, k⟩])
theorem cAdd (x y : Int) (w : World) : Calls Try.prog 15 #[.agg #[.int .i64 (I128.enc x).1, .int .u64 (I128.enc x).2], .agg #[.int .i64 (I128.enc y).1, .int .u64 (I128.enc y).2]] w fun e w' => e = .returned (.agg #[.int .i64 (I128.enc (x + y)).1, .int .u64 (I128.enc (x + y)).2]) ∧ Below w.heap.size w w' :=
  wide_Add.calls _ _ _ _ _ _ w (encAdd x y)
theorem cSub (x y : Int) (w : World) : Calls Try.prog 17 #[.agg #[.int .i64 (I128.enc x).1, .int .u64 (I128.enc x).2], .agg #[.int .i64 (I128.enc y).1, .int .u64 (I128.enc y).2]] w fun e w' => e = .returned (.agg #[.int .i64 (I128.enc (x - y)).1, .int .u64 (I128.enc (x - y)).2]) ∧ Below w.heap.size w w' :=
  wide_Sub.calls _ _ _ _ _ _ w (encSub x y)
theorem cNeg (x : Int) (w : World) : Calls Try.prog 19 #[.agg #[.int .i64 (I128.enc x).1, .int .u64 (I128.enc x).2]] w fun e w' => e = .returned (.agg #[.int .i64 (I128.enc (-x)).1, .int .u64 (I128.enc (-x)).2]) ∧ Below w.heap.size w w' :=
  wide_Neg.calls _ _ _ _ w (encNeg x)
theorem cRefAdd (x y : Int) (w : World) : Calls Try.prog 16 #[.agg #[.int .i64 (I128.enc x).1, .int .u64 (I128.enc x).2], .agg #[.int .i64 (I128.enc y).1, .int .u64 (I128.enc y).2]] w fun e w' => e = .returned (.agg #[.int .i64 (I128.enc (x + y)).1, .int .u64 (I128.enc (x + y)).2]) ∧ Below w.heap.size w w' :=
  inclineref01_Add.calls _ _ _ _ _ _ w (encAdd x y)
theorem cRefSub (x y : Int) (w : World) : Calls Try.prog 18 #[.agg #[.int .i64 (I128.enc x).1, .int .u64 (I128.enc x).2], .agg #[.int .i64 (I128.enc y).1, .int .u64 (I128.enc y).2]] w fun e w' => e = .returned (.agg #[.int .i64 (I128.enc (x - y)).1, .int .u64 (I128.enc (x - y)).2]) ∧ Below w.heap.size w w' :=
  inclineref01_Sub.calls _ _ _ _ _ _ w (encSub x y)
theorem cRefNeg (x : Int) (w : World) : Calls Try.prog 20 #[.agg #[.int .i64 (I128.enc x).1, .int .u64 (I128.enc x).2]] w fun e w' => e = .returned (.agg #[.int .i64 (I128.enc (-x)).1, .int .u64 (I128.enc (-x)).2]) ∧ Below w.heap.size w w' :=
  inclineref01_Neg.calls _ _ _ _ w (encNeg x)
theorem cCmp {x y : Int} (hx : i128ok x) (hy : i128ok y) (w : World) : Calls Try.prog 21 #[.agg #[.int .i64 (I128.enc x).1, .int .u64 (I128.enc x).2], .agg #[.int .i64 (I128.enc y).1, .int .u64 (I128.enc y).2]] w fun e w' => e = .returned (.int .i64 (cmpI x y)) ∧ Below w.heap.size w w' :=
  wide_Cmp.calls _ _ _ _ _ w (by unfold wide_Cmp.f; rw [if_pos ⟨I128.enc_i64 x, I128.enc_u64 x, I128.enc_i64 y, I128.enc_u64 y⟩, I128.val_enc_of hx, I128.val_enc_of hy])
theorem cRefCmp {x y : Int} (hx : i128ok x) (hy : i128ok y) (w : World) : Calls Try.prog 22 #[.agg #[.int .i64 (I128.enc x).1, .int .u64 (I128.enc x).2], .agg #[.int .i64 (I128.enc y).1, .int .u64 (I128.enc y).2]] w fun e w' => e = .returned (.int .i64 (cmpI x y)) ∧ Below w.heap.size w w' :=
  inclineref01_Cmp.calls _ _ _ _ _ w (by unfold inclineref01_Cmp.f; rw [if_pos ⟨I128.enc_i64 x, I128.enc_u64 x, I128.enc_i64 y, I128.enc_u64 y⟩, I128.val_enc_of hx, I128.val_enc_of hy])
theorem cDiv0 (x : Int) (w : World) : Calls Try.prog 23 #[.agg #[.int .i64 (I128.enc x).1, .int .u64 (I128.enc x).2], .int .u64 0] w fun e w' => e = .returned (.tuple #[.agg #[.int .i64 0, .int .u64 0], .int .u64 0, .int .i64 10]) ∧ Below w.heap.size w w' :=
  wide_Div.calls _ _ _ _ _ _ _ w (by unfold wide_Div.f; rw [if_pos ⟨I128.enc_i64 x, I128.enc_u64 x, by unfold u64ok; omega⟩, if_pos rfl])
theorem cRefDiv0 (x : Int) (w : World) : Calls Try.prog 24 #[.agg #[.int .i64 (I128.enc x).1, .int .u64 (I128.enc x).2], .int .u64 0] w fun e w' => e = .returned (.tuple #[.agg #[.int .i64 0, .int .u64 0], .int .u64 0, .int .i64 10]) ∧ Below w.heap.size w w' :=
  inclineref01_Div.calls _ _ _ _ _ _ _ w (by unfold inclineref01_Div.f; rw [if_pos ⟨I128.enc_i64 x, I128.enc_u64 x, by unfold u64ok; omega⟩, if_pos rfl])
theorem cDiv {x d : Int} (hx : i128ok x) (hd : u64ok d) (hz : d ≠ 0) (w : World) : Calls Try.prog 23 #[.agg #[.int .i64 (I128.enc x).1, .int .u64 (I128.enc x).2], .int .u64 d] w fun e w' => e = .returned (.tuple #[.agg #[.int .i64 (I128.enc (x / d)).1, .int .u64 (I128.enc (x / d)).2], .int .u64 (x % d), .int .i64 0]) ∧ Below w.heap.size w w' :=
  wide_Div.calls _ _ _ _ _ _ _ w (by unfold wide_Div.f; rw [if_pos ⟨I128.enc_i64 x, I128.enc_u64 x, hd⟩, if_neg hz, I128.val_enc_of hx])
theorem cRefDiv {x d : Int} (hx : i128ok x) (hd : u64ok d) (hz : d ≠ 0) (w : World) : Calls Try.prog 24 #[.agg #[.int .i64 (I128.enc x).1, .int .u64 (I128.enc x).2], .int .u64 d] w fun e w' => e = .returned (.tuple #[.agg #[.int .i64 (I128.enc (x / d)).1, .int .u64 (I128.enc (x / d)).2], .int .u64 (x % d), .int .i64 0]) ∧ Below w.heap.size w w' :=
  inclineref01_Div.calls _ _ _ _ _ _ _ w (by unfold inclineref01_Div.f; rw [if_pos ⟨I128.enc_i64 x, I128.enc_u64 x, hd⟩, if_neg hz, I128.val_enc_of hx])
end Go.Proofs.Ytglhfknlemaidaa
