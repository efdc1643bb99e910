/-
  lent: a copy of a list with marks behind its length.
-/
import Derived.Test.YtnccgpdniigekaaQG31
import Derived.Deep.OwnRows
import Derived.Laws.OwnMore
import Derived.Laws.CopyOwn
import Derived.Test.YtnccgpdniigekaaQG28
import Derived.Test.YtnccgpdniigekaaQG5
namespace Go.Proofs.Ytnccgpdniigekaa
open Go.RowKit
set_option linter.unusedVariables false
set_option linter.unusedSimpArgs false

theorem infoU : (Try.prog.info? 24).map (fun i => (i.zero, i.size, i.bytes)) = some (some (.int .u64 0), 1, 8) := by kernel_rfl
/-- The copy's cells, behind so many marks. -/
def lentC (L : List Int) (a b c : Int) : List Value := L.map (Value.int .u64) ++ [.int .u64 a, .int .u64 b, .int .u64 c]
theorem made_list (n : Nat) : madeCells #[Value.int .u64 0] n = (List.replicate n (Value.int .u64 0)).toArray := by
  rw [← toList_madeCells_one]
end Go.Proofs.Ytnccgpdniigekaa
/-
  kept: the copy is as it was.
-/
namespace Go.Proofs.Ytnccgpdniigekaa
open Go.RowKit
set_option linter.unusedVariables false
set_option linter.unusedSimpArgs false

structure KE (w : World) (g : Nat) (L : List Int) (wr : World) : Prop where
  b : Blk wr g 24 (lentC L 77 77 77).toArray
  bel : Below w.heap.size w wr
theorem KE.drewN {w wr : World} {g : Nat} {L : List Int} (h : KE w g L wr) (n : Nat) : KE w g L (wr.drewN n) := ⟨h.b.drewN n, drewN_below h.bel n⟩
end Go.Proofs.Ytnccgpdniigekaa
