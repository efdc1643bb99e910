/-
  Plain: a fit whose keys are moved by a number.
-/
import Derived.Test.YtlkkeefcalkepaaQHuArg
import Derived.Test.YtlkkeefcalkepaaQG8
namespace Go.Proofs.Ytlkkeefcalkepaa
open Go.RowKit
set_option linter.unusedVariables false
set_option linter.unusedSimpArgs false

/-- A fit moved. -/
def Fit.mv (far : Int) (F : Fit) : Fit := ⟨F.keys.map (· + far), F.low, F.top⟩
theorem getD_mv {K : List Int} {far : Int} {i : Nat} (h : i < K.length) : (K.map (· + far)).getD i 0 = K.getD i 0 + far := by
  simp [List.getD_eq_getElem?_getD, List.getElem?_eq_getElem h]
theorem lowUp_mv (e n key far : Int) (K : List Int) (low : Fr) : ∀ m, m ≤ K.length → lowUp e n (key + far) (K.map (· + far)) low m = lowUp e n key K low m
  | 0, _ => rfl
  | m + 1, h => by
    rw [lowUp_succ, lowUp_succ, lowUp_mv e n key far K low m (by omega)]
    unfold stepLow
    rw [getD_mv (by omega), show key + far - (K.getD m 0 + far) = key - K.getD m 0 from by omega]
theorem topUp_mv (e n key far : Int) (K : List Int) (top : Fr) : ∀ m, m ≤ K.length → topUp e n (key + far) (K.map (· + far)) top m = topUp e n key K top m
  | 0, _ => rfl
  | m + 1, h => by
    rw [topUp_succ, topUp_succ, topUp_mv e n key far K top m (by omega)]
    unfold stepTop
    rw [getD_mv (by omega), show key + far - (K.getD m 0 + far) = key - K.getD m 0 from by omega]
theorem Fit.late_mv (F : Fit) (far key : Int) : (F.mv far).late (key + far) = F.late key := by
  unfold Fit.late Fit.mv
  simp only [List.getLast?_map]
  cases F.keys.getLast? with
  | none => rfl
  | some l => simp
theorem Fit.add_mv (F : Fit) (e far key : Int) : (F.mv far).add e (key + far) = ((F.add e key).1, (F.add e key).2.mv far) := by
  have h1 : (F.mv far).lowWith e (key + far) = F.lowWith e key := by
    unfold Fit.lowWith Fit.mv
    simp only [List.length_map]
    exact lowUp_mv e _ key far F.keys F.low F.keys.length (Nat.le_refl _)
  have h2 : (F.mv far).topWith e (key + far) = F.topWith e key := by
    unfold Fit.topWith Fit.mv
    simp only [List.length_map]
    exact topUp_mv e _ key far F.keys F.top F.keys.length (Nat.le_refl _)
  unfold Fit.add
  rw [Fit.late_mv, h1, h2]
  split
  · rfl
  · split
    · rfl
    · simp [Fit.mv]
theorem zero_mv (far : Int) : Fit.zero.mv far = Fit.zero := rfl
end Go.Proofs.Ytlkkeefcalkepaa
