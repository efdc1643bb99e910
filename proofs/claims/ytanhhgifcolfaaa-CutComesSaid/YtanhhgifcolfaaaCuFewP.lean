/-
  Plain: each stretch but the last has many keys.
-/
import Derived.Test.YtanhhgifcolfaaaCuShown
namespace Go.Proofs.Ytanhhgifcolfaaa
open Go.RowKit
set_option linter.unusedVariables false
set_option linter.unusedSimpArgs false

/-- Each number is m or more beyond the one ahead. -/
def Spc (m : Int) : Int → List Nat → Prop
  | _, [] => True
  | p, a :: r => p + m ≤ a ∧ Spc m a r
def lastN : Nat → List Nat → Nat
  | p, [] => p
  | _, a :: r => lastN a r
theorem lastN_snoc : ∀ (l : List Nat) (p a : Nat), lastN p (l ++ [a]) = a
  | [], p, a => rfl
  | b :: r, p, a => lastN_snoc r b a
theorem Spc.snoc {m : Int} : ∀ {l : List Nat} {p a : Nat}, Spc m p l → (lastN p l : Int) + m ≤ a → Spc m p (l ++ [a])
  | [], p, a, _, h => ⟨h, trivial⟩
  | b :: r, p, a, hs, h => ⟨hs.1, Spc.snoc hs.2 h⟩
theorem Spc.len {m : Int} : ∀ {l : List Nat} {p : Nat}, Spc m p l → (p : Int) + l.length * m ≤ lastN p l
  | [], p, _ => by simp [lastN]
  | b :: r, p, h => by
    have ih := Spc.len h.2
    have h1 := h.1
    simp only [lastN, List.length_cons]
    have e : (((r.length + 1 : Nat) : Int)) * m = r.length * m + m := by rw [Int.natCast_add, Int.add_mul]; omega
    omega
/-- The number ahead of the i-th. -/
def prevN (p : Nat) (l : List Nat) (i : Nat) : Nat := if i = 0 then p else l.getD (i - 1) 0
theorem Spc.at {m : Int} : ∀ {l : List Nat} {p : Nat}, Spc m p l → ∀ i (h : i < l.length), (prevN p l i : Int) + m ≤ l[i]
  | [], p, _, i, h => absurd h (by simp)
  | b :: r, p, hs, 0, h => by simpa [prevN] using hs.1
  | b :: r, p, hs, i + 1, h => by
    have ih := Spc.at hs.2 i (by simpa using h)
    cases i with
    | zero => simpa [prevN] using ih
    | succ i => simpa [prevN] using ih
theorem lastN_prev : ∀ (l : List Nat) (p : Nat), prevN p l l.length = lastN p l
  | [], p => by simp [prevN, lastN]
  | [b], p => by simp [prevN, lastN]
  | b :: c :: r, p => by
    have := lastN_prev (c :: r) b
    simp [prevN, lastN] at this ⊢
    exact this
/-- What holds of the ends and of the fit, i keys in. -/
structure CI (e : Int) (L : List Int) (i : Nat) (outs : List Nat) (F : Fit) : Prop where
  frm : lastN 0 outs < i
  len : F.keys.length = i - lastN 0 outs
  ok : FitOk F
  low : (F.keys.length : Int) ≤ 2 * e + 1 → F.low = (0, 1)
  lst : F.keys.getLast? = some (L.getD (i - 1) 0)
  spc : Spc (2 * e + 1) ((0 : Nat) : Int) outs
theorem zero_late (k : Int) : Fit.zero.late k = false := rfl
theorem CI.first {e : Int} (he : 0 ≤ e) (k : Int) : (Fit.zero.add e k).2.keys = [k] ∧ (Fit.zero.add e k).2.low = (0, 1) := by
  obtain ⟨t, h⟩ := Fit.add_first FitOk.zero he (key := k) rfl (by simp [Fit.zero]; omega) rfl
  rw [h]; simp [Fit.zero]
theorem CI.mk1 {e : Int} (he : 0 ≤ e) (L : List Int) : CI e L 1 (cutS e L 1).1 (cutS e L 1).2 := by
  rw [cutS_one he]
  obtain ⟨h1, h2⟩ := CI.first he (L.getD 0 0)
  refine ⟨by simp [lastN], by simp only []; rw [h1]; simp [lastN], FitOk.zero.add he _, fun _ => h2, ?_, trivial⟩
  simp only []; rw [h1]; simp
theorem CI.step {e : Int} (he : 0 ≤ e) {L : List Int} (hu : L.Pairwise (· < ·)) {i : Nat} (h0 : 0 < i) (hi : i < L.length) (h : CI e L i (cutS e L i).1 (cutS e L i).2) : CI e L (i + 1) (cutS e L (i + 1)).1 (cutS e L (i + 1)).2 := by
  obtain ⟨outs, F, hq⟩ : ∃ outs F, cutS e L i = (outs, F) := ⟨_, _, rfl⟩
  rw [hq] at h
  replace h : CI e L i outs F := h
  have hlt : L.getD (i - 1) 0 < L.getD i 0 := by
    have := List.pairwise_iff_getElem.1 hu (i - 1) i (by omega) hi (by omega)
    simpa [List.getD_eq_getElem?_getD, List.getElem?_eq_getElem hi, List.getElem?_eq_getElem (show i - 1 < L.length by omega)] using this
  have hl : F.late (L.getD i 0) = false := by
    unfold Fit.late; rw [h.lst]; simp only [decide_eq_false_iff_not]; omega
  rw [cutS, hq]
  simp only []
  have hf := h.frm
  have hn := h.len
  by_cases ht : (F.add e (L.getD i 0)).1.1 = true
  · rw [if_pos ht]
    have hno : ¬ ltF (F.topWith e (L.getD i 0)) (F.lowWith e (L.getD i 0)) := by
      intro k; rw [Fit.add_refuse hl k] at ht; simp at ht
    have ha := Fit.add_take hl hno
    have hok := h.ok.add he (L.getD i 0)
    rw [ha] at hok ⊢
    show CI e L (i + 1) outs ⟨F.keys ++ [L.getD i 0], F.lowWith e (L.getD i 0), F.topWith e (L.getD i 0)⟩
    refine ⟨by omega, by simp only [List.length_append, List.length_cons, List.length_nil]; omega, hok, fun hk => ?_, by simp, h.spc⟩
    have hk' : (F.keys.length : Int) ≤ 2 * e := by simp only [List.length_append, List.length_cons, List.length_nil] at hk; omega
    obtain ⟨t, hf⟩ := Fit.add_first h.ok he (h.low (by omega)) hk' hl
    rw [ha] at hf
    have := (Prod.mk.inj hf).2
    injection this
  · rw [if_neg ht]
    have hbig : ¬ (F.keys.length : Int) ≤ 2 * e := by
      intro k
      obtain ⟨t, hf⟩ := Fit.add_first h.ok he (h.low (by omega)) k hl
      rw [hf] at ht; simp at ht
    obtain ⟨h1, h2⟩ := CI.first he (L.getD i 0)
    have hla := lastN_snoc outs 0 i
    show CI e L (i + 1) (outs ++ [i]) (Fit.zero.add e (L.getD i 0)).2
    refine ⟨by rw [hla]; omega, by rw [hla, h1]; simp, FitOk.zero.add he _, fun _ => h2, by rw [h1]; simp, h.spc.snoc (p := 0) (a := i) ?_⟩
    omega
theorem CI.all {e : Int} (he : 0 ≤ e) {L : List Int} (hu : L.Pairwise (· < ·)) : ∀ i, i < L.length → CI e L (i + 1) (cutS e L (i + 1)).1 (cutS e L (i + 1)).2
  | 0, _ => CI.mk1 he L
  | i + 1, h => CI.step he hu (by omega) h (CI.all he hu i (by omega))
/-- Where the stretches end, when there are keys. -/
theorem few {e : Int} (he : 0 ≤ e) {L : List Int} (hu : L.Pairwise (· < ·)) (h0 : 0 < L.length) :
    ∃ outs, endsL e L = outs ++ [L.length] ∧ Spc (2 * e + 1) ((0 : Nat) : Int) outs ∧ lastN 0 outs < L.length ∧ (outs.length : Int) * (2 * e + 1) ≤ L.length - 1 := by
  have h := CI.all he hu (L.length - 1) (by omega)
  rw [show L.length - 1 + 1 = L.length from by omega] at h
  refine ⟨_, by rw [endsL, if_neg (by omega)], h.spc, h.frm, ?_⟩
  have h1 := h.spc.len
  have h2 := h.frm
  have e0 : ((0 : Nat) : Int) = 0 := rfl
  rw [e0] at h1
  omega
end Go.Proofs.Ytanhhgifcolfaaa
