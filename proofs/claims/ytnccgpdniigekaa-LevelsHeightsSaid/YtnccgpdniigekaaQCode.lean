/-
  Pieces of a function's code, by the numbers of their blocks and regions.
-/
import Derived.Test.YtnccgpdniigekaaQHw
namespace Go.Proofs.Ytnccgpdniigekaa
/-- The block of number n in a code. -/
def blkAt (n : Nat) : Code → Code
  | .block k c => if k = n then .block k c else blkAt n c
  | .seq a b => match blkAt n a with
    | .skip => blkAt n b
    | c => c
  | .cond _ a b => match blkAt n a with
    | .skip => blkAt n b
    | c => c
  | .loop c => blkAt n c
  | .scope c => blkAt n c
  | _ => .skip
/-- The region n and what follows it in its row. -/
def seqAt (n : Nat) : Code → Code
  | .seq (.region k ops d) b => if k = n then .seq (.region k ops d) b else seqAt n b
  | .seq a b => match seqAt n a with
    | .skip => seqAt n b
    | c => c
  | .cond _ a b => match seqAt n a with
    | .skip => seqAt n b
    | c => c
  | .block _ c => seqAt n c
  | .loop c => seqAt n c
  | .scope c => seqAt n c
  | _ => .skip
end Go.Proofs.Ytnccgpdniigekaa
