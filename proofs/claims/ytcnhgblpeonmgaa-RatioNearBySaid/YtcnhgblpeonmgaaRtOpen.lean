/-
  Words for the rows of ratio.
-/
import Derived.Test.YtcnhgblpeonmgaaRowW
import Derived.Test.YtcnhgblpeonmgaaWdPlain
namespace Go.Proofs.Ytcnhgblpeonmgaa
open Go.RowKit
theorem wf_u64 {n : Int} (h : (Lit.int .u64 n).wf = true) : u64ok n := by
  have : 0 ≤ n ∧ n ≤ 18446744073709551615 := by simpa [Lit.wf, IntKind.min, IntKind.max, IntKind.signed, IntKind.bits] using h
  unfold u64ok; omega
end Go.Proofs.Ytcnhgblpeonmgaa
