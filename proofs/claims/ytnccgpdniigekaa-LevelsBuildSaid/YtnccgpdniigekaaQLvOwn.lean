/-
  Keys of one's own, with a mark behind.
-/
import Derived.Test.YtnccgpdniigekaaQG22
import Derived.Test.YtnccgpdniigekaaQG21
import Derived.Test.YtnccgpdniigekaaQG28
namespace Go.Proofs.Ytnccgpdniigekaa
open Go.RowKit
set_option linter.unusedVariables false
set_option linter.unusedSimpArgs false

theorem Us.arg' {w0 w : World} {l : List Int} {g n cap : Nat} (h : Us w0 (.slice (some ⟨g, 0, none⟩) n cap) l w) : ArgU w (some ⟨g, 0, none⟩) l := by
  obtain ⟨A, c, hv, ha⟩ := h.arg
  injection hv with h1 h2 h3
  rw [h1]; exact ha
theorem Us.cap {w0 w : World} {l : List Int} {g n cap : Nat} (h : Us w0 (.slice (some ⟨g, 0, none⟩) n cap) l w) : l.length ≤ cap := by
  rcases h.1.2 with ⟨hv, _⟩ | ⟨g', cap', cur, hv, _, _, hn, _⟩
  · cases hv
  · injection hv with h1 h2 h3
    omega
theorem ArgU.left {w : World} {A : Option Addr} {l m : List Int} (h : ArgU w A (l ++ m)) : ArgU w A l := by
  intro hn
  obtain ⟨b, o, hA, hb, hc⟩ := h (by rw [List.length_append]; omega)
  exact ⟨b, o, hA, hb, fun i hi => by have := hc i (by rw [List.length_append]; omega); rwa [List.getElem_append_left hi] at this⟩
theorem Us.first {w0 w w1 : World} {v v' : Value} {L : List Int} (h : Us w0 v [] w) (hown : w1.ownsRow 0 24 1 v' (0 + L.length) ([] ++ L.map (Value.int .u64))) (hgr : w.grownBy w1 v.ownBlock) (hat : v'.ownBlock = v.ownBlock ∨ v'.ownBlock = some w.heap.size) : Us w0 v' L w1 := by
  have C : Chg (fun k => v.ownBlock = some k) w w1 := (Chg.refl _ w).grown hgr (fun k hk _ => hk)
  refine ⟨by simpa using hown, fun g hg => ?_, below_chg h.2.2 C (fun k _ hk => h.2.1 k hk) h.2.2.size⟩
  rcases hat with m | m
  · exact h.2.1 g (m ▸ hg)
  · rw [m] at hg
    simp only [Option.some.injEq] at hg
    have := h.2.2.size; omega
theorem Us.second {w0 w : World} {v : Value} {L : List Int} (h : Us w0 v L w) (o : Obj) : (w.alloc o).ownsRow 0 24 1 v L.length (L.map (Value.int .u64)) := own_chg h.1 ((Chg.refl (fun _ => False) w).alloc o) (fun _ _ h => h)
/-- Keys with a mark behind them, all made since w. -/
structure OwnK (w : World) (g : Nat) (L : List Int) (w' : World) : Prop where
  arg : ArgU w' (some ⟨g, 0, none⟩) (L ++ [77])
  bel : Below w.heap.size w w'
theorem OwnK.below {w w' wx : World} {g : Nat} {L : List Int} (h : OwnK w g L w') (k : Below w'.heap.size w' wx) : OwnK w g L wx := ⟨h.arg.below k, below_next h.bel k⟩
theorem OwnK.mark {w w' : World} {g : Nat} {L : List Int} (h : OwnK w g L w') : w'.cell? ⟨g, L.length, none⟩ = some (.int .u64 77) := by
  obtain ⟨b, o, h1, h2, h3⟩ := h.arg (by simp)
  injection h1 with h1
  injection h1 with h1 h4
  subst h1 h4
  have := h3 L.length (by simp)
  simpa using this
theorem OwnK.at_ {w w' : World} {g : Nat} {L : List Int} (h : OwnK w g L w') {i : Nat} (hi : i < L.length) : w'.cell? ⟨g, i, none⟩ = some (.int .u64 L[i]) := by
  obtain ⟨b, o, h1, h2, h3⟩ := h.arg.left (by omega)
  injection h1 with h1
  injection h1 with h1 h4
  subst h1 h4
  have := h3 i hi
  rwa [Nat.zero_add] at this
theorem reads_u {w : World} {A : Option Addr} {L : List Int} {c : Nat} (h : ArgU w A L) : Reads w w.heap.size 1 A L.length (L.map (Value.int .u64)) := ⟨by simp, fun h0 => by
  obtain ⟨b, o, hA, hb, hc⟩ := h h0
  refine ⟨_, hA, hb, fun j u hu => ?_⟩
  rw [List.getElem?_map] at hu
  by_cases hj : j < L.length
  · rw [List.getElem?_eq_getElem hj] at hu
    simp only [Option.map_some, Option.some.injEq] at hu
    subst hu
    rw [Addr.add_mid]; exact hc j hj
  · rw [List.getElem?_eq_none (by omega)] at hu; simp at hu⟩
theorem Us.new {w w1 : World} (h : Below w.heap.size w w1) : Us w (.slice (some ⟨w1.heap.size, 0, none⟩) 0 0) [] (w1.alloc (.cells #[] 24)) :=
  ⟨⟨rfl, .inr ⟨w1.heap.size, 0, #[], rfl, Nat.zero_le _, Blk.new _ _ _, Nat.le_refl _, Nat.zero_le _, rfl, rfl⟩⟩, fun g hg => by simp [Value.ownBlock] at hg; have := h.size; omega, below_next h (below_new (Below.refl _ _) _)⟩
theorem ones_u (L : List Int) : ∀ u ∈ L.map (Value.int .u64), u.oneCell' = true := by intro u hu; obtain ⟨k, _, rfl⟩ := List.mem_map.1 hu; rfl
theorem ones_77 : ∀ u ∈ ([.int .u64 77] : List Value), u.oneCell' = true := by intro u hu; simp at hu; rcases hu with rfl; rfl
end Go.Proofs.Ytnccgpdniigekaa
