/-
  The law CutEnds: its words.
-/
import Derived.Test.YtanhhgifcolfaaaCuRefEnds
import Derived.Test.YtanhhgifcolfaaaReads
namespace Go.Proofs.Ytanhhgifcolfaaa
open Go.RowKit
set_option linter.unusedVariables false
set_option linter.unusedSimpArgs false

/-- What both programs answer. -/
instance (eps : Int) (L : List Int) : Decidable (Good eps L) := by unfold Good; exact inferInstance
def ansL (eps : Int) (L : List Int) : List Nat := if Good eps L then endsL (eps - 1) L else []
def ansC (eps : Int) (L : List Int) : Int := if eps < 2 ∨ 64 < eps then 1 else if L.Pairwise (· < ·) then 0 else 60
theorem ansL_len (eps : Int) (L : List Int) : (ansL eps L).length ≤ L.length := by
  unfold ansL
  split
  · rename_i h; exact endsL_len (by have := h.1; omega) L
  · simp
theorem ends_all (eps : Int) (A : Option Addr) (c : Nat) (L : List Int) (hL : U64s L) (hn : L.length ≤ 17592186044416) (w : World) (hA : ArgU w A L) :
    Calls Try.prog 30 #[.slice A L.length c, .int .i64 eps] w fun e w' => ∃ v, e = .returned (.tuple #[v, .int .i64 (ansC eps L)]) ∧ Ints w' v (ansL eps L) ∧ (∀ g, v.ownBlock = some g → w.heap.size ≤ g) ∧ Below w.heap.size w w' := by
  by_cases hb : eps < 2 ∨ 64 < eps
  · have h1 : ansC eps L = 1 := by unfold ansC; rw [if_pos hb]
    have h2 : ansL eps L = [] := by unfold ansL; rw [if_neg (fun h => by have h1 := h.1; have h2 := h.2.1; omega)]
    refine (ends_bad eps hb A L.length c w).mono ?_
    rintro e w' ⟨rfl, rfl⟩
    rw [h1, h2]
    exact ⟨_, rfl, World.ownsRow_nil _ _ _ _, fun g hg => by simp [Value.ownBlock] at hg, Below.refl _ _⟩
  · by_cases hu : L.Pairwise (· < ·)
    · have h1 : ansC eps L = 0 := by unfold ansC; rw [if_neg hb, if_pos hu]
      have h2 : ansL eps L = endsL (eps - 1) L := by unfold ansL; rw [if_pos ⟨by omega, by omega, hu⟩]
      rw [h1, h2]
      exact ends_good eps (by omega) (by omega) A c L hL hn hu w hA
    · have h1 : ansC eps L = 60 := by unfold ansC; rw [if_neg hb, if_neg hu]
      have h2 : ansL eps L = [] := by unfold ansL; rw [if_neg (fun h => hu h.2.2)]
      refine (ends_unsorted eps (by omega) (by omega) A c L hn hu w hA).mono ?_
      rintro e w' ⟨rfl, hb⟩
      rw [h1, h2]
      exact ⟨_, rfl, World.ownsRow_nil _ _ _ _, fun g hg => by simp [Value.ownBlock] at hg, hb⟩
theorem rends_all (eps : Int) (A : Option Addr) (c : Nat) (L : List Int) (hL : U64s L) (hn : L.length ≤ 17592186044416) (w : World) (hA : ArgU w A L) :
    Calls Try.prog 31 #[.slice A L.length c, .int .i64 eps] w fun e w' => ∃ A' c', e = .returned (.tuple #[.slice A' (ansL eps L).length c', .int .i64 (ansC eps L)]) ∧ ArgN w' A' (ansL eps L) ∧ (∀ g o, A' = some ⟨g, o, none⟩ → w.heap.size ≤ g) ∧ Below w.heap.size w w' := by
  by_cases hb : eps < 2 ∨ 64 < eps
  · have h1 : ansC eps L = 1 := by unfold ansC; rw [if_pos hb]
    have h2 : ansL eps L = [] := by unfold ansL; rw [if_neg (fun h => by have h1 := h.1; have h2 := h.2.1; omega)]
    refine (rends_bad eps hb A L.length c w).mono ?_
    rintro e w' ⟨rfl, rfl⟩
    rw [h1, h2]
    exact ⟨none, 0, rfl, fun h => by simp at h, fun g o h => by simp at h, Below.refl _ _⟩
  · by_cases hu : L.Pairwise (· < ·)
    · have h1 : ansC eps L = 0 := by unfold ansC; rw [if_neg hb, if_pos hu]
      have h2 : ansL eps L = endsL (eps - 1) L := by unfold ansL; rw [if_pos ⟨by omega, by omega, hu⟩]
      rw [h1, h2]
      exact rends_good eps (by omega) (by omega) A c L hL hn hu w hA
    · have h1 : ansC eps L = 60 := by unfold ansC; rw [if_neg hb, if_neg hu]
      have h2 : ansL eps L = [] := by unfold ansL; rw [if_neg (fun h => hu h.2.2)]
      refine (rends_unsorted eps (by omega) (by omega) A c L hn hu w hA).mono ?_
      rintro e w' ⟨rfl, hb⟩
      rw [h1, h2]
      exact ⟨none, 0, rfl, fun h => by simp at h, fun g o h => by simp at h, hb⟩
theorem ArgN.chg {w w' : World} {A : Option Addr} {l : List Nat} {S : Nat → Prop} (h : ArgN w A l) (k : Chg S w w') (hS : ∀ g o, A = some ⟨g, o, none⟩ → ¬ S g) : ArgN w' A l := fun hn => by
  obtain ⟨b, o, hA, hb, hc⟩ := h hn
  refine ⟨b, o, hA, Nat.lt_of_lt_of_le hb k.size, fun i hi => ?_⟩
  exact (World.cell?_of_block (k.block b hb (hS b o hA))).trans (hc i hi)
theorem ArgU.chg {w w' : World} {A : Option Addr} {l : List Int} {S : Nat → Prop} (h : ArgU w A l) (k : Chg S w w') (hS : ∀ g o, A = some ⟨g, o, none⟩ → ¬ S g) : ArgU w' A l := fun hn => by
  obtain ⟨b, o, hA, hb, hc⟩ := h hn
  refine ⟨b, o, hA, Nat.lt_of_lt_of_le hb k.size, fun i hi => ?_⟩
  exact (World.cell?_of_block (k.block b hb (hS b o hA))).trans (hc i hi)
/-- A row whose i-th cell is set. -/
theorem own_set {w : World} {e : TypeId} {v : Value} {n : Nat} {xs : List Value} {g i : Nat} (h : w.ownsRow 0 e 1 v n xs) (hg : v.ownBlock = some g) (u : Value) : (w.setCell ⟨g, i, none⟩ u).ownsRow 0 e 1 v n (xs.set i u) := by
  obtain ⟨h1, h2⟩ := h
  refine ⟨by rw [List.length_set]; exact h1, ?_⟩
  rcases h2 with ⟨rfl, h0⟩ | ⟨g', cap, cur, rfl, hb, hc, q1, q2, q3, q4⟩
  · simp [Value.ownBlock] at hg
  · simp only [Value.ownBlock, Option.some.injEq] at hg
    subst hg
    refine .inr ⟨_, cap, cur.setIfInBounds i u, rfl, hb, Blk.set (t := e) hc i u, q1, q2, by simpa using q3, ?_⟩
    rw [Array.toList_setIfInBounds, ← q4, List.take_set]
end Go.Proofs.Ytanhhgifcolfaaa
