/-
  An argument that is a slice of entries, opened.
-/
import Derived.Test.YtalhfjcopkmmlaaRowW
import Derived.Test.YtalhfjcopkmmlaaBfArg
namespace Go.Proofs.Ytalhfjcopkmmlaa
open Go.ChangeShapes Go.WideShapes Go.RowKit Go.Deep
set_option linter.unusedVariables false
set_option linter.unusedSimpArgs false
theorem open_entries {H : Type} {enc : TypeId × Value → H} {w : World} {base : Nat} {spare : Nat → Bool} {held : Bool} {fuel : Nat} {cs : List Value} {x : DataW H × List MemPlace} (h : DataW.trod enc Try.prog w base spare held fuel 22 cs = some x) :
    ∃ (A : Option Addr) (c : Nat) (L : List Ent), cs = [.slice A L.length c] ∧ Arg w A L ∧ L.length ≤ maxLen ∧ ((x.1 = .nil ∧ L = []) ∨ ∃ elems sp, x.1 = .slice elems sp ∧ elems.length = L.length) := by
  rcases open_structs Try.underlying22 Try.underlying27 (by kernel_rfl) (by kernel_rfl) h with ⟨rfl, rfl⟩ | ⟨a, len, cap, m, D, pl, rfl, hl, hm, hlm, rfl, hf⟩
  · exact ⟨none, 0, [], rfl, fun h => absurd h (by simp), Nat.zero_le _, .inl ⟨rfl, rfl⟩⟩
  · have key : ∀ i, i < len → ∃ e : Ent, w.cell? (a.add (i * 3)) = some (.int .u64 e.1) ∧ w.cell? (a.add (i * 3 + 1)) = some (.int .u64 e.2.1) ∧ w.cell? (a.add (i * 3 + 2)) = some (.bool e.2.2) := by
      intro i hi
      obtain ⟨v0, y0, n0, c0, t0⟩ := hf i (by omega) 0 _ rfl
      obtain ⟨v1, y1, n1, c1, t1⟩ := hf i (by omega) 1 _ rfl
      obtain ⟨v2, y2, n2, c2, t2⟩ := hf i (by omega) 2 _ rfl
      obtain ⟨k0, e0, _, _⟩ := DataW.trod_int Try.underlying25 t0
      obtain ⟨k1, e1, _, _⟩ := DataW.trod_int Try.underlying25 t1
      obtain ⟨k2, e2, _⟩ := DataW.trod_bool Try.underlying4 t2
      simp only [List.cons.injEq, and_true] at e0 e1 e2
      subst e0 e1 e2
      exact ⟨(k0, k1, k2), c0, c1, c2⟩
    obtain ⟨E, hE⟩ := choose_lt key
    refine ⟨some a, cap, (List.range len).map E, by simp, fun hn => ?_, by simp; omega, .inr ⟨_, _, rfl, by simp⟩⟩
    have h0 := (hE 0 (by simpa using hn)).1
    obtain ⟨b, o, r⟩ := a
    have hr : r = none := by simpa [Addr.add] using World.cell?_spot h0
    subst hr
    refine ⟨b, o, rfl, World.block_lt_of_cell? w _ (by rw [Addr.add_mid] at h0; exact h0), fun i hi => ?_⟩
    obtain ⟨c0, c1, c2⟩ := hE i (by simpa using hi)
    rw [Addr.add_mid] at c0 c1 c2
    simp only [List.getElem_map, List.getElem_range]
    exact ⟨c0, c1, c2⟩
end Go.Proofs.Ytalhfjcopkmmlaa
