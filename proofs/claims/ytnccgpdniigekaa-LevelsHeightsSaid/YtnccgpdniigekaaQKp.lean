/-
  Words: some blocks of one's own, each known whole, and what was there is as it was.
-/
import Derived.Test.YtnccgpdniigekaaQHw
import Derived.Test.YtnccgpdniigekaaQChg
namespace Go.Proofs.Ytnccgpdniigekaa
open Go.RowKit
set_option linter.unusedVariables false
set_option linter.unusedSimpArgs false

abbrev KB := Nat × TypeId × Array Value
structure Kp (w0 : World) (L : List KB) (w : World) : Prop where
  bl : ∀ p ∈ L, w0.heap.size ≤ p.1 ∧ Blk w p.1 p.2.1 p.2.2
  bel : Below w0.heap.size w0 w
section
variable {w0 w w' : World} {L : List KB} {g : Nat} {t : TypeId} {cs : Array Value}
theorem Kp.nil (w : World) : Kp w [] w := ⟨fun p hp => by simp at hp, Below.refl _ _⟩
theorem Kp.below (h : Kp w0 L w) (k : Below w.heap.size w w') : Kp w0 L w' := ⟨fun p hp => ⟨(h.bl p hp).1, (h.bl p hp).2.below k⟩, below_next h.bel k⟩
theorem Kp.alloc (h : Kp w0 L w) (o : Obj) : Kp w0 L (w.alloc o) := h.below (below_new (Below.refl _ _) o)
theorem Kp.drew (h : Kp w0 L w) : Kp w0 L w.drew := h.below (Below.refl _ _).drew
theorem Kp.drewN (h : Kp w0 L w) (n : Nat) : Kp w0 L (w.drewN n) := h.below (drewN_below (Below.refl _ _) n)
theorem Kp.at_ (h : Kp w0 L w) (hp : (g, t, cs) ∈ L) : Blk w g t cs := (h.bl _ hp).2
theorem Kp.lt (h : Kp w0 L w) : ∀ p ∈ L, p.1 < w.heap.size := fun p hp => (h.bl p hp).2.lt
theorem Kp.size (h : Kp w0 L w) : w0.heap.size ≤ w.heap.size := h.bel.size
theorem Kp.push (h : Kp w0 L w) (hg : w0.heap.size ≤ g) (hb : Blk w g t cs) : Kp w0 ((g, t, cs) :: L) w := ⟨fun p hp => by
  rcases List.mem_cons.1 hp with rfl | hp
  · exact ⟨hg, hb⟩
  · exact h.bl p hp, h.bel⟩
theorem Kp.box (h : Kp w0 L w) (t : TypeId) (cs : Array Value) (hg : g = w.heap.size) : Kp w0 ((g, t, cs) :: L) (w.alloc (.cells cs t)) := (h.alloc _).push (by have := h.size; omega) (Blk.new' t cs hg)
theorem Kp.tail {p : KB} (h : Kp w0 (p :: L) w) : Kp w0 L w := ⟨fun q hq => h.bl q (List.mem_cons_of_mem _ hq), h.bel⟩
/-- A cell of another block. -/
theorem Kp.set {a : Addr} (h : Kp w0 L w) (hg : w0.heap.size ≤ a.block) (hL : ∀ p ∈ L, p.1 ≠ a.block) (u : Value) : Kp w0 L (w.setCell a u) :=
  ⟨fun p hp => ⟨(h.bl p hp).1, (h.bl p hp).2.far u (hL p hp)⟩, h.bel.setCell hg u⟩
/-- A cell of the block at the head. -/
theorem Kp.set0 (h : Kp w0 ((g, t, cs) :: L) w) (hL : ∀ p ∈ L, p.1 ≠ g) (k : Nat) (u : Value) : Kp w0 ((g, t, cs.setIfInBounds k u) :: L) (w.setCell ⟨g, k, none⟩ u) :=
  (h.tail.set (a := ⟨g, k, none⟩) (h.bl _ List.mem_cons_self).1 hL u).push (h.bl _ List.mem_cons_self).1 ((h.at_ List.mem_cons_self).set k u)
theorem Kp.ne (h : Kp w0 L w) {p q : KB} (hp : p ∈ L) (hq : q ∈ L) (ht : p.2.1 ≠ q.2.1) : p.1 ≠ q.1 := fun e => by
  obtain ⟨a, b, c⟩ := p; obtain ⟨a', b', c'⟩ := q
  simp only [] at e ht
  subst e
  exact ht (Blk.uniq (h.at_ hp) (h.at_ hq)).1
end
end Go.Proofs.Ytnccgpdniigekaa
