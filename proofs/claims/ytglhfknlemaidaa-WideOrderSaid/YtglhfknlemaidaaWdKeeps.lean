/-
  What a law's walk keeps: the variables of 128 bits and what else the memory held.
-/
import Derived.Test.YtglhfknlemaidaaWdUni
namespace Go.Proofs.Ytglhfknlemaidaa
open Go.RowKit
set_option linter.unusedVariables false
set_option linter.unusedSimpArgs false

structure Keeps (w : World) (l : List (Nat × Array Value)) (w' : World) : Prop where
  blk : ∀ p ∈ l, Blk w' p.1 25 p.2
  bel : Below w.heap.size w w'
section
variable {w w' w1 : World} {l : List (Nat × Array Value)} {p p1 p2 p3 p4 p5 : Nat × Array Value}
theorem Keeps.nil (w : World) : Keeps w [] w := ⟨fun p h => absurd h (by simp), Below.refl _ _⟩
theorem Keeps.next (h : Keeps w l w') (b : Below w'.heap.size w' w1) : Keeps w l w1 := ⟨fun p hp => (h.blk p hp).below b, below_next h.bel b⟩
theorem Keeps.drew (h : Keeps w l w') : Keeps w l w'.drew := ⟨fun p hp => (h.blk p hp).drewN 1, drewN_below h.bel 1⟩
theorem Keeps.alloc (h : Keeps w l w') (o : Obj) : Keeps w l (w'.alloc o) := ⟨fun p hp => (h.blk p hp).alloc o, below_new h.bel o⟩
theorem Keeps.box (h : Keeps w l w') {g : Nat} (hg : g = w'.heap.size) (cs : Array Value) : Keeps w ((g, cs) :: l) (w'.alloc (.cells cs 25)) :=
  ⟨fun p hp => by
    rcases List.mem_cons.mp hp with rfl | hp
    · exact Blk.new' _ _ hg
    · exact (h.blk p hp).alloc _, below_new h.bel _⟩
theorem Keeps.apart (k : Keeps w l w') {g : Nat} (hg : g = w'.heap.size) : (∀ p ∈ l, p.1 ≠ g) ∧ w.heap.size ≤ g :=
  ⟨fun p hp => by subst hg; exact Nat.ne_of_lt (k.blk p hp).lt, by subst hg; exact k.bel.size⟩
theorem Keeps.store {g : Nat} {z u : Value} (h : Keeps w ((g, #[z, u]) :: l) w') (k : (∀ p ∈ l, p.1 ≠ g) ∧ w.heap.size ≤ g) (x y : Value) :
    Keeps w ((g, #[x, y]) :: l) ((w'.setCell ⟨g, 0, none⟩ x).setCell ⟨g, 1, none⟩ y) :=
  ⟨fun p hp => by
    rcases List.mem_cons.mp hp with rfl | hp
    · exact Blk.set2 (h.blk (g, #[z, u]) (by simp))
    · exact (h.blk p (List.mem_cons_of_mem _ hp)).far2 (k.1 p hp), below_set2 h.bel k.2⟩
theorem Keeps.at0 (h : Keeps w (p :: l) w') : Blk w' p.1 25 p.2 := h.blk p (by simp)
theorem Keeps.at1 (h : Keeps w (p1 :: p :: l) w') : Blk w' p.1 25 p.2 := h.blk p (by simp)
theorem Keeps.at2 (h : Keeps w (p2 :: p1 :: p :: l) w') : Blk w' p.1 25 p.2 := h.blk p (by simp)
theorem Keeps.at3 (h : Keeps w (p3 :: p2 :: p1 :: p :: l) w') : Blk w' p.1 25 p.2 := h.blk p (by simp)
theorem Keeps.at4 (h : Keeps w (p4 :: p3 :: p2 :: p1 :: p :: l) w') : Blk w' p.1 25 p.2 := h.blk p (by simp)
theorem Keeps.at5 (h : Keeps w (p5 :: p4 :: p3 :: p2 :: p1 :: p :: l) w') : Blk w' p.1 25 p.2 := h.blk p (by simp)
theorem Keeps.tail (h : Keeps w (p :: l) w') : Keeps w l w' := ⟨fun q hq => h.blk q (List.mem_cons_of_mem _ hq), h.bel⟩
end
end Go.Proofs.Ytglhfknlemaidaa
