/-
  A slice of uint64 that came in; what a fit's last key is.
-/
import Derived.Test.YtnccgpdniigekaaQHuShown
namespace Go.Proofs.Ytnccgpdniigekaa
open Go.RowKit
set_option linter.unusedVariables false
set_option linter.unusedSimpArgs false

/-- The slice reads as these numbers; they lie in a block that was there. -/
def ArgU (w : World) (A : Option Addr) (L : List Int) : Prop := 0 < L.length → ∃ b o, A = some ⟨b, o, none⟩ ∧ b < w.heap.size ∧ ∀ i (h : i < L.length), w.cell? ⟨b, o + i, none⟩ = some (.int .u64 L[i])
theorem ArgU.below {w w' : World} {A : Option Addr} {L : List Int} (h : ArgU w A L) (k : Below w.heap.size w w') : ArgU w' A L := fun hn => by
  obtain ⟨b, o, hA, hb, hc⟩ := h hn
  exact ⟨b, o, hA, Nat.lt_of_lt_of_le hb k.size, fun i hi => (k.cell (p := ⟨b, _, none⟩) hb).trans (hc i hi)⟩
theorem ArgU.at {w : World} {A : Option Addr} {L : List Int} (h : ArgU w A L) {i : Nat} (hi : i < L.length) : ∃ b o, A = some ⟨b, o, none⟩ ∧ b < w.heap.size ∧ w.cell? ⟨b, o + i, none⟩ = some (.int .u64 L[i]) := by
  obtain ⟨b, o, hA, hb, hc⟩ := h (by omega)
  exact ⟨b, o, hA, hb, hc i hi⟩
def U64s (L : List Int) : Prop := ∀ k ∈ L, u64ok k
theorem U64s.at {L : List Int} (h : U64s L) {i : Nat} (hi : i < L.length) : u64ok L[i] := h _ (List.getElem_mem hi)
/-- A fit's last key, or 0. -/
def Fit.lst (F : Fit) : Int := F.keys.getLast?.getD 0
theorem Fit.late_eq (F : Fit) (key : Int) : F.late key = (decide (0 < (F.keys.length : Int)) && decide (key ≤ F.lst)) := by
  unfold Fit.late Fit.lst
  cases h : F.keys.getLast? with
  | none => rw [List.getLast?_eq_none_iff] at h; simp [h]
  | some l =>
    have : F.keys ≠ [] := by intro e; rw [e] at h; simp at h
    have : 0 < F.keys.length := List.length_pos_iff.2 this
    simp [this]
theorem FitOk.topL {F : Fit} (h : FitOk F) {e : Int} (he : 0 ≤ e) {key : Int} (hl : F.late key = false) : LowF (F.topWith e key) :=
  (topUp_min (n := F.keys.length) he (fun i hi => by omega) (h.lt hl) h.top F.keys.length (Nat.le_refl _)).is.elim (fun q => by rw [Fit.topWith, q]; exact h.top) (sTop_low he (fun i hi => by omega) (h.lt hl) (Nat.le_refl _) _)
theorem FitOk.lowL {F : Fit} (h : FitOk F) {e : Int} {key : Int} (hl : F.late key = false) : LowF (F.lowWith e key) :=
  (lowUp_max (n := F.keys.length) (h.lt hl) h.low F.keys.length (Nat.le_refl _)).is.elim (fun q => by rw [Fit.lowWith, q]; exact h.low) (sLow_low (h.lt hl) (Nat.le_refl _) _)
theorem Fit.add_late {F : Fit} {e key : Int} (h : F.late key = true) : F.add e key = ((false, 40), F) := by rw [Fit.add, if_pos h]
theorem Fit.add_take {F : Fit} {e key : Int} (h : F.late key = false) (k : ¬ ltF (F.topWith e key) (F.lowWith e key)) : F.add e key = ((true, 0), ⟨F.keys ++ [key], F.lowWith e key, F.topWith e key⟩) := by rw [Fit.add, if_neg (by simp [h]), if_neg k]
theorem Fit.add_refuse {F : Fit} {e key : Int} (h : F.late key = false) (k : ltF (F.topWith e key) (F.lowWith e key)) : F.add e key = ((false, 0), F) := by rw [Fit.add, if_neg (by simp [h]), if_pos k]
/-- The first keys are taken. -/
theorem Fit.add_first {F : Fit} (h : FitOk F) {e : Int} (he : 0 ≤ e) {key : Int} (h0 : F.low = (0, 1)) (hn : (F.keys.length : Int) ≤ 2 * e) (hl : F.late key = false) : ∃ t, F.add e key = ((true, 0), ⟨F.keys ++ [key], (0, 1), t⟩) := by
  have e1 : F.lowWith e key = (0, 1) := by
    rcases (lowUp_max (e := e) (n := F.keys.length) (h.lt hl) h.low F.keys.length (Nat.le_refl _)).is with q | ⟨i, hi, hp, _⟩
    · rw [Fit.lowWith, q, h0]
    · omega
  have k : ¬ ltF (F.topWith e key) (F.lowWith e key) := by
    have := (h.topL he hl).ok.num
    rw [e1]; unfold ltF; simp only []; omega
  exact ⟨_, by rw [Fit.add_take hl k, e1]⟩
end Go.Proofs.Ytnccgpdniigekaa
