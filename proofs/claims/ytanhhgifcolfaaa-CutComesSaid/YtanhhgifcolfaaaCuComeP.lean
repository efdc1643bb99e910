/-
  Plain: the ends of a beginning, and those from an end on.
-/
import Derived.Test.YtanhhgifcolfaaaCuFew
import Derived.Test.YtanhhgifcolfaaaCuMovP
namespace Go.Proofs.Ytanhhgifcolfaaa
open Go.RowKit
set_option linter.unusedVariables false
set_option linter.unusedSimpArgs false

theorem getD_take {L : List Int} {k i : Nat} (h : i < k) : (L.take k).getD i 0 = L.getD i 0 := by
  simp only [List.getD_eq_getElem?_getD, List.getElem?_take_of_lt h]
theorem getD_drop {L : List Int} {k i : Nat} : (L.drop k).getD i 0 = L.getD (k + i) 0 := by
  simp only [List.getD_eq_getElem?_getD, List.getElem?_drop]
theorem cutS_take {e : Int} {L : List Int} {k : Nat} : ∀ i, i ≤ k → cutS e (L.take k) i = cutS e L i
  | 0, _ => rfl
  | i + 1, h => by rw [cutS, cutS, cutS_take i (by omega), getD_take (by omega)]
theorem cutS_lt {e : Int} {L : List Int} : ∀ i, ∀ o ∈ (cutS e L i).1, o < i
  | 0, o, h => by simp [cutS] at h
  | i + 1, o, h => by
    have ih := cutS_lt (e := e) (L := L) i
    rw [cutS] at h
    split at h
    · have := ih o h; omega
    · rcases List.mem_append.1 h with m | m
      · have := ih o m; omega
      · have : o = i := by simpa using m
        omega
theorem cutS_more {e : Int} {L : List Int} (k : Nat) : ∀ d, ∃ R, (cutS e L (k + d)).1 = (cutS e L k).1 ++ R ∧ ∀ r ∈ R, k ≤ r
  | 0 => ⟨[], by simp, by simp⟩
  | d + 1 => by
    obtain ⟨R, h1, h2⟩ := cutS_more (e := e) (L := L) k d
    rw [show k + (d + 1) = (k + d) + 1 from by omega, cutS]
    split
    · exact ⟨R, h1, h2⟩
    · refine ⟨R ++ [k + d], by simp only []; rw [h1, List.append_assoc], fun r hr => ?_⟩
      rcases List.mem_append.1 hr with m | m
      · exact h2 r m
      · have : r = k + d := by simpa using m
        omega
theorem come1 {e : Int} {L : List Int} {k : Nat} (h0 : 0 < k) (hk : k ≤ L.length) : ∃ O R, endsL e L = O ++ R ∧ (∀ o ∈ O, o < k) ∧ (∀ r ∈ R, k ≤ r) ∧ endsL e (L.take k) = O ++ [k] := by
  obtain ⟨R, h1, h2⟩ := cutS_more (e := e) (L := L) k (L.length - k)
  rw [show k + (L.length - k) = L.length from by omega] at h1
  have hl : (L.take k).length = k := by rw [List.length_take]; omega
  refine ⟨(cutS e L k).1, R ++ [L.length], by rw [endsL, if_neg (by omega), h1, List.append_assoc], cutS_lt k, fun r hr => ?_, by rw [endsL, if_neg (by omega), hl, cutS_take k (Nat.le_refl _)]⟩
  rcases List.mem_append.1 hr with m | m
  · exact h2 r m
  · have : r = L.length := by simpa using m
    omega
theorem want_is {l O R : List Nat} {k i : Nat} (hl : l = O ++ R) (hO : ∀ o ∈ O, o < k) (hR : ∀ r ∈ R, k ≤ r) (hi : i ≤ l.length) (h1 : ∀ j (h : j < i), l[j]'(by omega) < k) (h2 : ∀ h : i < l.length, ¬ l[i] < k) : l.take i = O := by
  subst hl
  have hlen : (O ++ R).length = O.length + R.length := List.length_append
  rcases Nat.lt_trichotomy i O.length with h | h | h
  · exfalso
    have := h2 (by omega)
    rw [List.getElem_append_left h] at this
    exact this (hO _ (List.getElem_mem h))
  · rw [h, List.take_left]
  · exfalso
    have := h1 O.length h
    rw [List.getElem_append_right (Nat.le_refl _)] at this
    have := hR _ (List.getElem_mem (show O.length - O.length < R.length by omega))
    omega
theorem cutS_at {e : Int} {L : List Int} : ∀ i, ∀ idx (h : idx < (cutS e L i).1.length), cutS e L ((cutS e L i).1[idx] + 1) = ((cutS e L i).1.take (idx + 1), (Fit.zero.add e (L.getD (cutS e L i).1[idx] 0)).2)
  | 0, idx, h => absurd h (by simp [cutS])
  | i + 1, idx, h => by
    have ih := cutS_at (e := e) (L := L) i
    by_cases ht : ((cutS e L i).2.add e (L.getD i 0)).1.1 = true
    · have hs : cutS e L (i + 1) = ((cutS e L i).1, ((cutS e L i).2.add e (L.getD i 0)).2) := by rw [cutS, if_pos ht]
      have hs1 : (cutS e L (i + 1)).1 = (cutS e L i).1 := by rw [hs]
      simp only [hs1] at h ⊢
      exact ih idx h
    · have hs : cutS e L (i + 1) = ((cutS e L i).1 ++ [i], (Fit.zero.add e (L.getD i 0)).2) := by rw [cutS, if_neg ht]
      have hs1 : (cutS e L (i + 1)).1 = (cutS e L i).1 ++ [i] := by rw [hs]
      simp only [hs1] at h ⊢
      by_cases hlt : idx < (cutS e L i).1.length
      · rw [List.getElem_append_left hlt, List.take_append_of_le_length (by omega)]
        exact ih idx hlt
      · have he : idx = (cutS e L i).1.length := by simp at h; omega
        subst he
        have e1 : ((cutS e L i).1 ++ [i])[(cutS e L i).1.length] = i := by simp
        rw [e1, hs, List.take_of_length_le (by simp)]
theorem cutS_drop {e : Int} (he : 0 ≤ e) {L : List Int} {a : Nat} {P : List Nat} (h : cutS e L (a + 1) = (P, (Fit.zero.add e (L.getD a 0)).2)) : ∀ d, cutS e L (a + 1 + d) = (P ++ (cutS e (L.drop a) (1 + d)).1.map (· + a), (cutS e (L.drop a) (1 + d)).2)
  | 0 => by rw [Nat.add_zero, Nat.add_zero, h, cutS_one he, getD_drop, Nat.add_zero]; simp
  | d + 1 => by
    have ih := cutS_drop he h d
    rw [show a + 1 + (d + 1) = (a + 1 + d) + 1 from by omega, show 1 + (d + 1) = (1 + d) + 1 from by omega, cutS, cutS, ih, getD_drop, show a + (1 + d) = a + 1 + d from by omega]
    simp only []
    split
    · rfl
    · simp only [List.map_append, List.map_cons, List.map_nil, List.append_assoc]
      rw [show 1 + d + a = a + 1 + d from by omega]
theorem come2 {e : Int} (he : 0 ≤ e) {L : List Int} (h0 : 0 < L.length) {idx : Nat} (hi : idx < (endsL e L).length) : endsL e (L.drop (endsL e L)[idx]) = ((endsL e L).drop (idx + 1)).map (· - (endsL e L)[idx]) := by
  have hl : endsL e L = (cutS e L L.length).1 ++ [L.length] := by rw [endsL, if_neg (by omega)]
  obtain ⟨outs, ho⟩ : ∃ outs, (cutS e L L.length).1 = outs := ⟨_, rfl⟩
  have hlt := cutS_lt (e := e) (L := L) L.length
  have hat := cutS_at (e := e) (L := L) L.length
  simp only [ho] at hl hlt hat
  simp only [hl] at hi ⊢
  by_cases h : idx < outs.length
  · rw [List.getElem_append_left h]
    have ha := hlt _ (List.getElem_mem h)
    have hc := hat idx h
    obtain ⟨a, haa⟩ : ∃ a, outs[idx] = a := ⟨_, rfl⟩
    rw [haa] at ha hc ⊢
    have hd := cutS_drop he hc (L.length - a - 1)
    rw [show a + 1 + (L.length - a - 1) = L.length from by omega, show 1 + (L.length - a - 1) = L.length - a from by omega] at hd
    have hX := congrArg Prod.fst hd
    rw [ho] at hX
    simp only [] at hX
    have hdl : (L.drop a).length = L.length - a := List.length_drop
    rw [endsL, if_neg (by omega), hdl]
    have hpl : (outs.take (idx + 1)).length = idx + 1 := by rw [List.length_take]; omega
    have e1 : (outs ++ [L.length]).drop (idx + 1) = (cutS e (L.drop a) (L.length - a)).1.map (· + a) ++ [L.length] := by
      rw [List.drop_append_of_le_length (by omega)]
      congr 1
      rw [hX, List.drop_append_of_le_length (by omega), List.drop_of_length_le (by omega), List.nil_append]
    rw [e1]
    simp [Function.comp_def]
  · have hil : idx = outs.length := by simp at hi; omega
    subst hil
    have e1 : (outs ++ [L.length])[outs.length] = L.length := by simp
    rw [e1, List.drop_length, List.drop_of_length_le (by simp), endsL]
    simp
end Go.Proofs.Ytanhhgifcolfaaa
