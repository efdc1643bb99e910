/-
  The law CutComes: its words.
-/
import Derived.Test.YtanhhgifcolfaaaCuComeP
namespace Go.Proofs.Ytanhhgifcolfaaa
open Go.RowKit
set_option linter.unusedVariables false
set_option linter.unusedSimpArgs false

/-- Whole numbers that the call itself gathers. -/
def Ns (w0 : World) (v : Value) (l : List Nat) (w : World) : Prop := Ints w v l ∧ (∀ g, v.ownBlock = some g → w0.heap.size ≤ g) ∧ Below w0.heap.size w0 w
section
variable {w0 w w' : World} {v : Value} {l : List Nat}
theorem Ns.below (h : Ns w0 v l w) (k : Below w.heap.size w w') : Ns w0 v l w' := ⟨own_chg h.1 (Chg.of_below k) (fun _ _ h => h), h.2.1, below_next h.2.2 k⟩
theorem Ns.empty {w0 w : World} (k : Below w0.heap.size w0 w) : Ns w0 (.slice (some ⟨w.heap.size, 0, none⟩) 0 0) [] (w.alloc (.cells #[] 3)) :=
  ⟨⟨rfl, .inr ⟨w.heap.size, 0, #[], rfl, Nat.zero_le _, Blk.new _ _ _, Nat.le_refl _, Nat.zero_le _, rfl, rfl⟩⟩, fun g hg => by simp [Value.ownBlock] at hg; have := k.size; omega, below_next k (below_new (Below.refl _ _) _)⟩
theorem Ns.grown' (h : Ns w0 v l w) {n : Nat} (hn : l.length = n) {wa w1 : World} (ha : Chg (fun _ => False) w wa) {g cap H : Nat} {x : Nat} (hown : w1.ownsRow 0 3 1 (.slice (some ⟨g, 0, none⟩) (n + 1) cap) (n + 1) (l.map (fun (n : Nat) => Value.int .i64 (n : Int)) ++ [.int .i64 (x : Int)])) (hgr : wa.grownBy w1 v.ownBlock) (hat : v.ownBlock = some g ∨ g = H) (hH : w.heap.size ≤ H) :
    Ns w0 (.slice (some ⟨g, 0, none⟩) (n + 1) cap) (l ++ [x]) w1 := by
  subst hn
  have C : Chg (fun k => v.ownBlock = some k) w w1 := (ha.mono (fun _ _ h => h.elim)).grown hgr (fun k hk _ => hk)
  refine ⟨by unfold Ints; simpa using hown, fun g' hg' => ?_, below_chg h.2.2 C (fun k _ hk => h.2.1 k hk) h.2.2.size⟩
  simp only [Value.ownBlock, Option.some.injEq] at hg'
  subst hg'
  rcases hat with m | m
  · exact h.2.1 _ m
  · have := h.2.2.size; omega
theorem Ns.arg (h : Ns w0 v l w) : ∃ A c, v = .slice A l.length c ∧ ArgN w A l := by
  rcases h.1.2 with ⟨hv, h0⟩ | ⟨g, cap, cur, hv, hr⟩
  · exact ⟨none, 0, by rw [hv, h0], fun h => by omega⟩
  · have hlt : g < w.heap.size := Blk.lt (t := 3) hr.2.1
    refine ⟨_, _, hv, fun _ => ⟨g, 0, rfl, hlt, fun i hi => ?_⟩⟩
    have hc := World.ownsRow.cells h.1 (g := g) (by rw [hv]; rfl) i (.int .i64 (l[i] : Int)) (by simp [List.getElem?_eq_getElem hi])
    rw [Addr.add_mid] at hc
    exact hc
end
theorem Ns.arg' {w0 w : World} {l : List Nat} {g n cap : Nat} (h : Ns w0 (.slice (some ⟨g, 0, none⟩) n cap) l w) : ArgN w (some ⟨g, 0, none⟩) l := by
  obtain ⟨A, c, hv, ha⟩ := h.arg
  injection hv with h1 h2 h3
  rw [h1]; exact ha
theorem ArgU.take {w : World} {A : Option Addr} {L : List Int} (h : ArgU w A L) (k : Nat) : ArgU w A (L.take k) := fun hn => by
  obtain ⟨b, o, hA, hb, hc⟩ := h (by rw [List.length_take] at hn; omega)
  exact ⟨b, o, hA, hb, fun i hi => by rw [List.getElem_take]; exact hc i (by rw [List.length_take] at hi; omega)⟩
theorem ArgU.drop {w : World} {b o a : Nat} {L : List Int} (h : ArgU w (some ⟨b, o, none⟩) L) : ArgU w (some ⟨b, o + a, none⟩) (L.drop a) := fun hn => by
  rw [List.length_drop] at hn
  obtain ⟨b', o', hA, hb, hc⟩ := h (by omega)
  injection hA with hA
  injection hA with e1 e2
  subst e1 e2
  exact ⟨b, o + a, rfl, hb, fun i hi => by rw [List.getElem_drop, Nat.add_assoc]; exact hc (a + i) (by rw [List.length_drop] at hi; omega)⟩
theorem U64s.take {L : List Int} (h : U64s L) (k : Nat) : U64s (L.take k) := fun x hx => h x (List.mem_of_mem_take hx)
theorem U64s.drop {L : List Int} (h : U64s L) (k : Nat) : U64s (L.drop k) := fun x hx => h x (List.mem_of_mem_drop hx)
/-- A number that is at, or -(at + 1). -/
def atIn (x : Int) : Int := if x < 0 then -(x + 1) else x
theorem atIn_ok {x : Int} (h : -9223372036854775808 ≤ x ∧ x ≤ 9223372036854775807) : 0 ≤ atIn x ∧ atIn x ≤ 9223372036854775807 := by unfold atIn; split <;> omega
/-- Behind the first loop. -/
structure Want (L : List Int) (e : Int) (k : Nat) (l want : List Nat) : Prop where
  is : endsL e (L.take k) = want ++ [k]
end Go.Proofs.Ytanhhgifcolfaaa
