/-
  Words for walks over memory: a block that is known whole ('Blk'), carried over new blocks, draws, stores elsewhere and calls.
-/
import Derived.WalkKit
import Derived.WalkSpells
import Derived.KernelRfl
import Derived.RowKit3
import Derived.Below
import Derived.OneCell
import Derived.Laws.Rows
import Derived.Laws.CopyOwn
import Derived.Deep.WholeRow
import Derived.Deep.QuietTactic
import Derived.BigQuiet
import Derived.Deep.LoopGhost
import Derived.Deep.RegionHeld3
import Derived.Deep.RegionWith
import Derived.Lib.Hide
import Derived.Outline
namespace Go.Proofs.Ytnccgpdniigekaa
open Go.RowKit
set_option linter.unusedVariables false
set_option linter.unusedSimpArgs false

/-- Block g holds just these cells, none of them frozen. -/
def Blk (w : World) (g : Nat) (t : TypeId) (cs : Array Value) : Prop := w.heap[g]? = some (.cells cs t (0, 0))
section
variable {w w1 : World} {g : Nat} {t : TypeId} {cs : Array Value}
theorem Blk.out (h : Blk w g t cs) : w.heap[g]? = some (.cells cs t (0, 0)) := h
theorem Blk.lt (h : Blk w g t cs) : g < w.heap.size := (Array.getElem?_eq_some_iff.1 h).1
theorem Blk.cell (h : Blk w g t cs) (k : Nat) : w.cell? ⟨g, k, none⟩ = cs[k]? := cell_of_row w g k _ _ _ h
theorem Blk.free (h : Blk w g t cs) (k : Nat) : w.frozen? ⟨g, k, none⟩ = false := frozen_of_row w g k _ _ h
theorem Blk.set (h : Blk w g t cs) (k : Nat) (v : Value) : Blk (w.setCell ⟨g, k, none⟩ v) g t (cs.setIfInBounds k v) := heap_setCell_same w g k _ _ _ h
theorem Blk.far (h : Blk w g t cs) {a : Addr} (v : Value) (hne : g ≠ a.block) : Blk (w.setCell a v) g t cs := (heap_setCell_other w a g v hne).trans h
theorem Blk.drewN (h : Blk w g t cs) (n : Nat) : Blk (w.drewN n) g t cs := h
theorem Blk.drew (h : Blk w g t cs) : Blk w.drew g t cs := h
theorem Blk.alloc (h : Blk w g t cs) (o : Obj) : Blk (w.alloc o) g t cs := (Below.heap_alloc w o g h.lt).trans h
theorem Blk.row (h : Blk w g t cs) (cs' : Array Value) : Blk (w.setRow g cs') g t cs' := setRow_heap w g _ _ _ _ h
theorem Blk.rowFar (h : Blk w g t cs) {g' : Nat} (cs' : Array Value) (hne : g ≠ g') : Blk (w.setRow g' cs') g t cs := (setRow_other w g' g cs' hne).trans h
theorem Blk.below (h : Blk w g t cs) (hb : Below w.heap.size w w1) : Blk w1 g t cs := (hb.block g h.lt).trans h
theorem Blk.congr {cs' : Array Value} (h : Blk w g t cs) (e : cs = cs') : Blk w g t cs' := e ▸ h
theorem Blk.new (w : World) (t : TypeId) (cs : Array Value) : Blk (w.alloc (.cells cs t)) w.heap.size t cs := heap_alloc_new w _
theorem Blk.new' {w : World} {g : Nat} (t : TypeId) (cs : Array Value) (hg : g = w.heap.size) : Blk (w.alloc (.cells cs t)) g t cs := hg ▸ heap_alloc_new w _
theorem Blk.uniq {t' : TypeId} {cs' : Array Value} (h : Blk w g t cs) (h' : Blk w g t' cs') : t = t' ∧ cs = cs' := by
  have := h.out.symm.trans h'.out; simp at this; exact ⟨this.2, this.1⟩
/-- The run of a whole variable's store. -/
theorem Blk.storeAll {P : Program} (h : Blk w g t cs) (cs' : Array Value) (hs : cs'.size = cs.size) (h1 : ∀ v ∈ cs'.toList, v.oneCell' = true) :
    (storeCells ⟨g, 0, none⟩ cs'.toList).run P w = .ok () (w.setRow g cs') := by
  have := run_storeCells_at P g 0 t cs'.toList 0 cs w h (by simp [hs]) h1
  simp only [Nat.zero_add, Nat.add_zero, List.take_zero, List.nil_append, Array.length_toList, hs] at this
  rw [this, List.drop_of_length_le (by simp)]
  simp
theorem Blk.set2 {a b x y : Value} (h : Blk w g t #[a, b]) : Blk ((w.setCell ⟨g, 0, none⟩ x).setCell ⟨g, 1, none⟩ y) g t #[x, y] := (h.set 0 x).set 1 y
theorem Blk.far2 {g' : Nat} {x y : Value} (h : Blk w g t cs) (hne : g ≠ g') : Blk ((w.setCell ⟨g', 0, none⟩ x).setCell ⟨g', 1, none⟩ y) g t cs := (h.far _ hne).far _ hne
theorem below_set2 {B : Nat} {a : World} {g' : Nat} {x y : Value} (h : Below B a w) (hB : B ≤ g') : Below B a ((w.setCell ⟨g', 0, none⟩ x).setCell ⟨g', 1, none⟩ y) := (h.setCell hB _).setCell hB _
theorem Blk.cells2 {x y : Value} (h : Blk w g t #[x, y]) : w.cell? ⟨g, 0, none⟩ = some x ∧ w.cell? ⟨g, 1, none⟩ = some y ∧ w.frozen? ⟨g, 0, none⟩ = false ∧ w.frozen? ⟨g, 1, none⟩ = false :=
  ⟨h.cell 0, h.cell 1, h.free 0, h.free 1⟩
end
theorem drewN_below {B : Nat} {w W : World} (h : Below B w W) (n : Nat) : Below B w (W.drewN n) := ⟨h.os, h.tape, h.output, h.size, h.block⟩
theorem bcell {W w1 : World} (hb : Below W.heap.size W w1) : (∀ b o, b < W.heap.size → w1.cell? ⟨b, o, none⟩ = W.cell? ⟨b, o, none⟩) ∧ (∀ b o, b < W.heap.size → w1.frozen? ⟨b, o, none⟩ = W.frozen? ⟨b, o, none⟩) :=
  ⟨fun b o h => hb.cell (p := ⟨b, o, none⟩) h, fun b o h => hb.frozen (p := ⟨b, o, none⟩) h⟩
/-- What a callee leaves, behind what was known. -/
theorem below_then {B : Nat} {a b c : World} (h : Below B a b) (k : Below b.heap.size b c) (hB : B ≤ b.heap.size) : Below B a c := h.trans (k.mono hB)
theorem below_next {a b c : World} (h : Below a.heap.size a b) (k : Below b.heap.size b c) : Below a.heap.size a c := h.trans (k.mono h.size)
theorem below_new {a b : World} (h : Below a.heap.size a b) (o : Obj) : Below a.heap.size a (b.alloc o) := h.alloc h.size o
theorem cell_drew {w : World} {a : Addr} : w.drew.cell? a = w.cell? a := rfl
theorem below_drew_iff {n : Nat} {w w' : World} : Below n w w'.drew = Below n w w' := propext ⟨fun h => ⟨h.os, h.tape, h.output, h.size, h.block⟩, fun h => drewN_below h 1⟩
theorem cell_below {w w1 : World} (hb : Below w.heap.size w w1) {a : Addr} {v : Value} (h : w.cell? a = some v) : w1.cell? a = some v := (hb.cell (World.block_lt_of_cell? w a h)).trans h
/-- A whole variable (a struct, an array) loaded. -/
theorem load_blk {P : Program} {ops : Array Oper} {rest : List Oper} {o : Oper} {a : Act} {w : World} {Q : Exit → Act → World → Prop} (hgd : o.guard = none) (ty : TypeId) (x : Operand) (ho : o.op = .load ty x)
    (g : Nat) (hx : a.eval x = .pointer (some ⟨g, 0, none⟩)) {cs : Array Value} {d : TypeDesc} {t : TypeId} (hg : Blk w g t cs)
    (hu : P.underlying ty = some d) (hd : (match d with | .struct _ | .array _ _ => true | _ => false) = true) (hi : (P.info? ty).map (·.size) = some cs.size)
    (h : wpList P ops Q rest (a.put o.dst (.agg cs)) w) : wpList P ops Q (o :: rest) a w :=
  wpList_load_row hgd ty x ho g hx t cs (0, 0) d hg hu hd hi h
/-- In a region that draws: a whole variable's load yields its value in every world in which the block is known. -/
theorem yields_load_blk {P : Program} {ops : Array Oper} {S : World → Prop} {o : Oper} {a : Act} (hw : Region.wanted o (yielded ops a.tmps) = true) (ty : TypeId) (x : Operand) (ho : o.op = .load ty x)
    (g : Nat) (hx : a.eval x = .pointer (some ⟨g, 0, none⟩)) {cs : Array Value} {d : TypeDesc} {t : TypeId} (hS : ∀ w, S w → Blk w g t cs)
    (hu : P.underlying ty = some d) (hd : (match d with | .struct _ | .array _ _ => true | _ => false) = true) (hi : (P.info? ty).map (·.size) = some cs.size) :
    YieldsIf P ops S o (.agg cs) a := by
  refine .inl ⟨hw, fun w hs => ?_⟩
  have hl := run_loadVar_row (P := P) w g t ty cs (0, 0) d (hS w hs) hu hd hi
  unfold execOp
  simp only [ho, hx, Instr.loadAt, Instr.sureAddr, Sem.run_bind, Sem.run_pure, Result.andThen_ok, hl]
/-- The same of one cell. -/
theorem yields_load_cell {P : Program} {ops : Array Oper} {S : World → Prop} {o : Oper} {a : Act} (v : Value) (hw : Region.wanted o (yielded ops a.tmps) = true) (h : ∀ w, S w → (execOp a.eval o).run P w = .ok (.value v) w) :
    YieldsIf P ops S o v a := .inl ⟨hw, h⟩
/-- A struct and two plain results. -/
theorem results_ctt {P : Program} {fn : Func} {p u v : Tmp} {ty : TypeId} (h : fn.results = #[.cell p ty, .tmp u, .tmp v]) (tmps : Array Value) {w : World} {g : Nat} {t : TypeId} {cs : Array Value} {d : TypeDesc}
    {x y : Value} (hp : tmps.getD p undef = .pointer (some ⟨g, 0, none⟩)) (hx : tmps.getD u undef = x) (hy : tmps.getD v undef = y) (hg : Blk w g t cs)
    (hu : P.underlying ty = some d) (hd : (match d with | .struct _ | .array _ _ => true | _ => false) = true) (hi : (P.info? ty).map (·.size) = some cs.size) :
    (results fn tmps).run P w = .ok (.tuple #[.agg cs, x, y]) w := by
  have hp' : tmps[p]?.getD undef = .pointer (some ⟨g, 0, none⟩) := by simpa using hp
  subst hx hy
  simp [results, h, hp', asAddr, run_loadVar_row (P := P) w g t ty cs (0, 0) d hg hu hd hi]

end Go.Proofs.Ytnccgpdniigekaa
