/-
  Plain: keys moved by a number. A list of numbers that grows in memory.
-/
import Derived.Test.YtanhhgifcolfaaaQCuShown
namespace Go.Proofs.Ytanhhgifcolfaaa
open Go.RowKit
set_option linter.unusedVariables false
set_option linter.unusedSimpArgs false

/-- A fit moved. -/
def Fit.mv (far : Int) (F : Fit) : Fit := ⟨F.keys.map (· + far), F.low, F.top⟩
theorem getD_mv {K : List Int} {far : Int} {i : Nat} (h : i < K.length) : (K.map (· + far)).getD i 0 = K.getD i 0 + far := by
  simp [List.getD_eq_getElem?_getD, List.getElem?_eq_getElem h]
theorem lowUp_mv (e n key far : Int) (K : List Int) (low : Fr) : ∀ m, m ≤ K.length → lowUp e n (key + far) (K.map (· + far)) low m = lowUp e n key K low m
  | 0, _ => rfl
  | m + 1, h => by
    rw [lowUp_succ, lowUp_succ, lowUp_mv e n key far K low m (by omega)]
    unfold stepLow
    rw [getD_mv (by omega), show key + far - (K.getD m 0 + far) = key - K.getD m 0 from by omega]
theorem topUp_mv (e n key far : Int) (K : List Int) (top : Fr) : ∀ m, m ≤ K.length → topUp e n (key + far) (K.map (· + far)) top m = topUp e n key K top m
  | 0, _ => rfl
  | m + 1, h => by
    rw [topUp_succ, topUp_succ, topUp_mv e n key far K top m (by omega)]
    unfold stepTop
    rw [getD_mv (by omega), show key + far - (K.getD m 0 + far) = key - K.getD m 0 from by omega]
theorem Fit.late_mv (F : Fit) (far key : Int) : (F.mv far).late (key + far) = F.late key := by
  unfold Fit.late Fit.mv
  simp only [List.getLast?_map]
  cases F.keys.getLast? with
  | none => rfl
  | some l => simp
theorem Fit.add_mv (F : Fit) (e far key : Int) : (F.mv far).add e (key + far) = ((F.add e key).1, (F.add e key).2.mv far) := by
  have h1 : (F.mv far).lowWith e (key + far) = F.lowWith e key := by
    unfold Fit.lowWith Fit.mv
    simp only [List.length_map]
    exact lowUp_mv e _ key far F.keys F.low F.keys.length (Nat.le_refl _)
  have h2 : (F.mv far).topWith e (key + far) = F.topWith e key := by
    unfold Fit.topWith Fit.mv
    simp only [List.length_map]
    exact topUp_mv e _ key far F.keys F.top F.keys.length (Nat.le_refl _)
  unfold Fit.add
  rw [Fit.late_mv, h1, h2]
  split
  · rfl
  · split
    · rfl
    · simp [Fit.mv]
theorem zero_mv (far : Int) : Fit.zero.mv far = Fit.zero := rfl
theorem cutS_mv (e far : Int) (L : List Int) : ∀ i, i ≤ L.length → cutS e (L.map (· + far)) i = ((cutS e L i).1, (cutS e L i).2.mv far)
  | 0, _ => rfl
  | i + 1, h => by
    rw [cutS, cutS, cutS_mv e far L i (by omega), getD_mv (by omega)]
    simp only [Fit.add_mv]
    have hz := Fit.add_mv Fit.zero e far (L.getD i 0)
    rw [zero_mv] at hz
    rw [hz]
    split <;> rfl
theorem endsL_mv (e far : Int) (L : List Int) : endsL e (L.map (· + far)) = endsL e L := by
  unfold endsL
  rw [List.length_map, cutS_mv e far L L.length (Nat.le_refl _)]
/-- Numbers of 64 bits that the call itself gathers. -/
def Us (w0 : World) (v : Value) (l : List Int) (w : World) : Prop := w.ownsRow 0 34 1 v l.length (l.map (Value.int .u64)) ∧ (∀ g, v.ownBlock = some g → w0.heap.size ≤ g) ∧ Below w0.heap.size w0 w
section
variable {w0 w w' : World} {v : Value} {l : List Int}
theorem Us.below (h : Us w0 v l w) (k : Below w.heap.size w w') : Us w0 v l w' := ⟨own_chg h.1 (Chg.of_below k) (fun _ _ h => h), h.2.1, below_next h.2.2 k⟩
theorem Us.grown (h : Us w0 v l w) {o : Obj} {w1 : World} {g cap : Nat} {x : Int} (hown : w1.ownsRow 0 34 1 (.slice (some ⟨g, 0, none⟩) (l.length + 1) cap) (l.length + 1) (l.map (Value.int .u64) ++ [.int .u64 x])) (hgr : (w.alloc o).grownBy w1 v.ownBlock) (hat : v.ownBlock = some g ∨ g = w.heap.size + 1) :
    Us w0 (.slice (some ⟨g, 0, none⟩) (l.length + 1) cap) (l ++ [x]) w1 := by
  have C : Chg (fun k => v.ownBlock = some k) w w1 := ((Chg.refl _ w).alloc o).grown hgr (fun k hk _ => hk)
  refine ⟨by simpa using hown, fun g' hg' => ?_, below_chg h.2.2 C (fun k _ hk => h.2.1 k hk) h.2.2.size⟩
  simp only [Value.ownBlock, Option.some.injEq] at hg'
  subst hg'
  rcases hat with m | m
  · exact h.2.1 _ m
  · have := h.2.2.size; omega
theorem Us.grown' (h : Us w0 v l w) {n : Nat} (hn : l.length = n) {o : Obj} {w1 : World} {g cap : Nat} {x : Int} (hown : w1.ownsRow 0 34 1 (.slice (some ⟨g, 0, none⟩) (n + 1) cap) (n + 1) (l.map (Value.int .u64) ++ [.int .u64 x])) (hgr : (w.alloc o).grownBy w1 v.ownBlock) (hat : v.ownBlock = some g ∨ g = w.heap.size + 1) :
    Us w0 (.slice (some ⟨g, 0, none⟩) (n + 1) cap) (l ++ [x]) w1 := by subst hn; exact h.grown hown hgr hat
theorem Us.arg (h : Us w0 v l w) : ∃ A c, v = .slice A l.length c ∧ ArgU w A l := by
  rcases h.1.2 with ⟨hv, h0⟩ | ⟨g, cap, cur, hv, hr⟩
  · exact ⟨none, 0, by rw [hv, h0], fun h => by omega⟩
  · have hlt : g < w.heap.size := Blk.lt (t := 34) hr.2.1
    refine ⟨_, _, hv, fun _ => ⟨g, 0, rfl, hlt, fun i hi => ?_⟩⟩
    have hc := World.ownsRow.cells h.1 (g := g) (by rw [hv]; rfl) i (.int .u64 l[i]) (by simp [List.getElem?_eq_getElem hi])
    rw [Addr.add_mid] at hc
    exact hc
end
/-- By how much keys may be moved, taken to what there is room for. -/
def farIn (last far : Int) : Int := if 18446744073709551615 - last < 18446744073709551615 then far % (18446744073709551615 - last + 1) else far
theorem farIn_ok {last far : Int} (hl : u64ok last) (hf : u64ok far) : 0 ≤ farIn last far ∧ farIn last far + last ≤ 18446744073709551615 := by
  unfold u64ok at hl hf
  unfold farIn
  split
  · have h1 := Int.emod_nonneg far (show 18446744073709551615 - last + 1 ≠ 0 by omega)
    have h2 := Int.emod_lt_of_pos far (show 0 < 18446744073709551615 - last + 1 by omega)
    omega
  · omega
theorem up_last {L : List Int} (hu : L.Pairwise (· < ·)) {i : Nat} (hi : i < L.length) : L[i] ≤ L[L.length - 1]'(by omega) := by
  by_cases h : i = L.length - 1
  · subst h; exact Int.le_refl _
  · exact Int.le_of_lt (List.pairwise_iff_getElem.1 hu i (L.length - 1) hi (by omega) (by omega))
theorem up_mv {L : List Int} (hu : L.Pairwise (· < ·)) (far : Int) : (L.map (· + far)).Pairwise (· < ·) := by
  rw [List.pairwise_map]; exact hu.imp (fun h => by omega)
end Go.Proofs.Ytanhhgifcolfaaa
