/-
  lent: a copy of a list with marks behind its length.
-/
import Derived.Test.YtnccgpdniigekaaQG31
import Derived.Deep.OwnRows
import Derived.Laws.OwnMore
import Derived.Laws.CopyOwn
import Derived.Test.YtnccgpdniigekaaQG28
import Derived.Test.YtnccgpdniigekaaQG5
namespace Go.Proofs.Ytnccgpdniigekaa
open Go.RowKit
set_option linter.unusedVariables false
set_option linter.unusedSimpArgs false

theorem infoU : (Try.prog.info? 24).map (fun i => (i.zero, i.size, i.bytes)) = some (some (.int .u64 0), 1, 8) := by kernel_rfl
/-- The copy's cells, behind so many marks. -/
def lentC (L : List Int) (a b c : Int) : List Value := L.map (Value.int .u64) ++ [.int .u64 a, .int .u64 b, .int .u64 c]
theorem lentC_get {L : List Int} {a b c : Int} {i : Nat} (h : i < L.length) : (lentC L a b c)[i]? = some (.int .u64 (L.getD i 0)) := by
  unfold lentC
  rw [List.getElem?_append_left (by simpa using h), List.getElem?_map, List.getElem?_eq_getElem h, List.getD_eq_getElem?_getD, List.getElem?_eq_getElem h]
  rfl
theorem lentC_0 {L : List Int} {a b c : Int} : (lentC L a b c)[L.length]? = some (.int .u64 a) := by
  unfold lentC; rw [List.getElem?_append_right (by simp)]; simp
theorem lentC_1 {L : List Int} {a b c : Int} : (lentC L a b c)[L.length + 1]? = some (.int .u64 b) := by
  unfold lentC; rw [List.getElem?_append_right (by simp)]; simp
theorem lentC_2 {L : List Int} {a b c : Int} : (lentC L a b c)[L.length + 2]? = some (.int .u64 c) := by
  unfold lentC; rw [List.getElem?_append_right (by simp)]; simp
theorem lentC_s0 {L : List Int} {a b c x : Int} : (lentC L a b c).toArray.setIfInBounds L.length (.int .u64 x) = (lentC L x b c).toArray := by
  rw [List.setIfInBounds_toArray]; unfold lentC; rw [List.set_append_right _ _ (by simp)]; simp
theorem lentC_s1 {L : List Int} {a b c x : Int} : (lentC L a b c).toArray.setIfInBounds (L.length + 1) (.int .u64 x) = (lentC L a x c).toArray := by
  rw [List.setIfInBounds_toArray]; unfold lentC; rw [List.set_append_right _ _ (by simp)]; simp
theorem lentC_s2 {L : List Int} {a b c x : Int} : (lentC L a b c).toArray.setIfInBounds (L.length + 2) (.int .u64 x) = (lentC L a b x).toArray := by
  rw [List.setIfInBounds_toArray]; unfold lentC; rw [List.set_append_right _ _ (by simp)]; simp
theorem made_list (n : Nat) : madeCells #[Value.int .u64 0] n = (List.replicate n (Value.int .u64 0)).toArray := by
  rw [← toList_madeCells_one]
theorem lent_splice (L : List Int) : splice (List.replicate (L.length + 3) (Value.int .u64 0)) 0 (L.map (Value.int .u64)) = lentC L 0 0 0 := by
  unfold splice lentC
  simp only [List.take_zero, List.nil_append, Nat.zero_add, List.length_map, List.drop_replicate]
  rw [show L.length + 3 - L.length = 3 from by omega]; rfl
theorem lent_arg {w : World} {g : Nat} {L : List Int} {a b c : Int} (h : Blk w g 24 (lentC L a b c).toArray) : ArgU w (some ⟨g, 0, none⟩) L := by
  intro hn
  refine ⟨g, 0, rfl, h.lt, fun i hi => ?_⟩
  rw [Nat.zero_add, h.cell]
  have := lentC_get (L := L) (a := a) (b := b) (c := c) hi
  rw [List.getD_eq_getElem?_getD, List.getElem?_eq_getElem hi] at this
  simpa using this
end Go.Proofs.Ytnccgpdniigekaa
/-
  kept: the copy is as it was.
-/
namespace Go.Proofs.Ytnccgpdniigekaa
open Go.RowKit
set_option linter.unusedVariables false
set_option linter.unusedSimpArgs false

structure KE (w : World) (g : Nat) (L : List Int) (wr : World) : Prop where
  b : Blk wr g 24 (lentC L 77 77 77).toArray
  bel : Below w.heap.size w wr
theorem KE.drewN {w wr : World} {g : Nat} {L : List Int} (h : KE w g L wr) (n : Nat) : KE w g L (wr.drewN n) := ⟨h.b.drewN n, drewN_below h.bel n⟩
theorem lentC_77 {L : List Int} {i : Nat} (h : L.length ≤ i) (h2 : i < L.length + 3) : (lentC L 77 77 77)[i]? = some (.int .u64 77) := by
  have : i = L.length ∨ i = L.length + 1 ∨ i = L.length + 2 := by omega
  rcases this with rfl | rfl | rfl
  · exact lentC_0
  · exact lentC_1
  · exact lentC_2
end Go.Proofs.Ytnccgpdniigekaa
