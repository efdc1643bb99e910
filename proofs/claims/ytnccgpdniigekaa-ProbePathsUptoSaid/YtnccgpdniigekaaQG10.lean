/-
  steeper: whether two keys want a slope above another one.
-/
import Derived.Test.YtnccgpdniigekaaQG5
import Derived.Test.YtnccgpdniigekaaQG2
import Derived.Test.YtnccgpdniigekaaQG28
import Derived.Test.YtnccgpdniigekaaQG1
import Derived.Test.YtnccgpdniigekaaQG31
import Derived.Test.YtnccgpdniigekaaQG8
import Derived.Test.YtnccgpdniigekaaQG32
namespace Go.Proofs.Ytnccgpdniigekaa
open Go.RowKit
set_option linter.unusedVariables false
set_option linter.unusedSimpArgs false

/-- Two keys want more. -/
def SteepAt (L : List Int) (e p q : Int) (i j : Nat) : Prop := p * (L.getD j 0 - L.getD i 0) < ((j : Int) - i - 2 * e) * q
def Steep (L : List Int) (e p q : Int) : Prop := ∃ i j : Nat, i < j ∧ j < L.length ∧ SteepAt L e p q i j
theorem stkeep {w w' : World} {b o i j : Nat} {ki kj : Int} {L : List KB} (HC : Hid (b < w.heap.size ∧ w.cell? ⟨b, o + j, none⟩ = some (.int .u64 kj) ∧ w.cell? ⟨b, o + i, none⟩ = some (.int .u64 ki))) (h : Kp w L w') :
    Kp w L w' ∧ w'.cell? ⟨b, o + j, none⟩ = some (.int .u64 kj) ∧ w'.cell? ⟨b, o + i, none⟩ = some (.int .u64 ki) := ⟨h, (h.bel.cell (p := ⟨b, _, none⟩) HC.out.1).trans HC.out.2.1, (h.bel.cell (p := ⟨b, _, none⟩) HC.out.1).trans HC.out.2.2⟩
end Go.Proofs.Ytnccgpdniigekaa
/-
  Plain: a fit whose keys are moved by a number.
-/
namespace Go.Proofs.Ytnccgpdniigekaa
open Go.RowKit
set_option linter.unusedVariables false
set_option linter.unusedSimpArgs false

/-- A fit moved. -/
def Fit.mv (far : Int) (F : Fit) : Fit := ⟨F.keys.map (· + far), F.low, F.top⟩
theorem getD_mv {K : List Int} {far : Int} {i : Nat} (h : i < K.length) : (K.map (· + far)).getD i 0 = K.getD i 0 + far := by
  simp [List.getD_eq_getElem?_getD, List.getElem?_eq_getElem h]
theorem lowUp_mv (e n key far : Int) (K : List Int) (low : Fr) : ∀ m, m ≤ K.length → lowUp e n (key + far) (K.map (· + far)) low m = lowUp e n key K low m
  | 0, _ => rfl
  | m + 1, h => by
    rw [lowUp_succ, lowUp_succ, lowUp_mv e n key far K low m (by omega)]
    unfold stepLow
    rw [getD_mv (by omega), show key + far - (K.getD m 0 + far) = key - K.getD m 0 from by omega]
theorem topUp_mv (e n key far : Int) (K : List Int) (top : Fr) : ∀ m, m ≤ K.length → topUp e n (key + far) (K.map (· + far)) top m = topUp e n key K top m
  | 0, _ => rfl
  | m + 1, h => by
    rw [topUp_succ, topUp_succ, topUp_mv e n key far K top m (by omega)]
    unfold stepTop
    rw [getD_mv (by omega), show key + far - (K.getD m 0 + far) = key - K.getD m 0 from by omega]
theorem Fit.late_mv (F : Fit) (far key : Int) : (F.mv far).late (key + far) = F.late key := by
  unfold Fit.late Fit.mv
  simp only [List.getLast?_map]
  cases F.keys.getLast? with
  | none => rfl
  | some l => simp
theorem Fit.add_mv (F : Fit) (e far key : Int) : (F.mv far).add e (key + far) = ((F.add e key).1, (F.add e key).2.mv far) := by
  have h1 : (F.mv far).lowWith e (key + far) = F.lowWith e key := by
    unfold Fit.lowWith Fit.mv
    simp only [List.length_map]
    exact lowUp_mv e _ key far F.keys F.low F.keys.length (Nat.le_refl _)
  have h2 : (F.mv far).topWith e (key + far) = F.topWith e key := by
    unfold Fit.topWith Fit.mv
    simp only [List.length_map]
    exact topUp_mv e _ key far F.keys F.top F.keys.length (Nat.le_refl _)
  unfold Fit.add
  rw [Fit.late_mv, h1, h2]
  split
  · rfl
  · split
    · rfl
    · simp [Fit.mv]
theorem zero_mv (far : Int) : Fit.zero.mv far = Fit.zero := rfl
end Go.Proofs.Ytnccgpdniigekaa
/-
  Plain: what the laws without the reference say of lines.
-/
namespace Go.Proofs.Ytnccgpdniigekaa
open Go.RowKit
set_option linter.unusedVariables false
set_option linter.unusedSimpArgs false

section
variable {L : List Int} {eps : Int} {F : Fit}
theorem LineIs.zero (h : LineIs L eps F) (h0 : F.low.1 = 0) : F.low.2 = 1 := by
  have hc := h.full.ok.low.cop
  have hd := h.den
  rw [h0, Int.gcd_zero_left] at hc
  omega
theorem LineIs.not_steep (h : LineIs L eps F) : ¬ Steep L (eps - 1) F.low.1 F.low.2 := by
  rintro ⟨i, j, hij, hj, hs⟩
  have := (h.bears i j hij hj).1
  unfold SteepAt at hs
  omega
theorem LineIs.steep (h : LineIs L eps F) {p : Int} (hp : p < F.low.1) (h0 : F.low.1 ≠ 0) : Steep L (eps - 1) p F.low.2 := by
  rcases h.full.low.is with q | ⟨i, j, hij, hj, hpos, q⟩
  · rw [q] at h0; simp at h0
  · rw [h.keys] at hj q
    have hd : 0 < L.getD j 0 - L.getD i 0 := by have := getD_lt h.up hij hj; omega
    obtain ⟨_, e, _⟩ := lowest_low (n := (j : Int) - i - 2 * (eps - 1)) (d := L.getD j 0 - L.getD i 0) (by omega) hd
    rw [← q] at e
    refine ⟨i, j, hij, hj, ?_⟩
    unfold SteepAt
    rw [← e]
    exact Int.mul_lt_mul_of_pos_right hp hd
end
theorem LineIs.lnOk {L : List Int} {eps : Int} {F : Fit} (h : LineIs L eps F) (hL : U64s L) (hl : L.length ≤ 17592186044416) {d : Int} (hd : d = 0 ∨ d = 1) : LnOk (F.low.1, F.low.2, baseOf F.low L (eps - 1) L.length - d) ∧ 0 ≤ F.low.1 ∧ F.low.1 ≤ 4611686018427387904 := by
  have n0 := h.full.ok.low.ok.num
  have n1 := h.full.num_low h.e0
  rw [h.keys] at n1
  have hb := (h.fits hl).2.2
  have hq : u64ok F.low.2 := by
    rcases h.full.low.is with q | ⟨i, j, hij, hj, hpos, q⟩
    · rw [q]; unfold u64ok; simp
    · rw [h.keys] at hj q
      have hd : 0 < L.getD j 0 - L.getD i 0 := by have := getD_lt h.up hij hj; omega
      have := (lowest_low (n := (j : Int) - i - 2 * (eps - 1)) (d := L.getD j 0 - L.getD i 0) (by omega) hd).2.2.2.2.1
      rw [← q] at this
      have u1 := hL.getD hj
      have u0 := hL.getD (show i < L.length by omega)
      have := h.den
      unfold u64ok at *; omega
  exact ⟨⟨⟨n0, by simp only []; omega⟩, hq, by unfold i64ok; simp only []; omega⟩, n0, by omega⟩
/-- Keys moved by a number. -/
theorem fitAll_mv {e far : Int} : ∀ {L : List Int} {F : Fit}, fitAll e (F.mv far) (L.map (· + far)) = (fitAll e F L).map (Fit.mv far)
  | [], F => rfl
  | a :: r, F => by
    simp only [List.map_cons, fitAll, Fit.add_mv]
    split
    · exact fitAll_mv
    · rfl
theorem baseOf_mv {s : Fr} {L : List Int} {e far : Int} : ∀ {n : Nat}, n ≤ L.length → baseOf s (L.map (· + far)) e n = baseOf s L e n
  | 0, _ => rfl
  | n + 1, h => by
    rw [baseOf, baseOf, baseOf_mv (by omega)]
    unfold baseAt
    rw [getD_mv (by omega), getD_mv (by omega), show L.getD n 0 + far - (L.getD 0 0 + far) = L.getD n 0 - L.getD 0 0 from by omega]
theorem lineOf_mv {L : List Int} {eps far : Int} : lineOf (L.map (· + far)) eps = lineOf L eps := by
  have hp : (L.map (· + far)).Pairwise (· < ·) ↔ L.Pairwise (· < ·) := by
    rw [List.pairwise_map]
    exact ⟨fun h => h.imp (by intro a b h; omega), fun h => h.imp (by intro a b h; omega)⟩
  unfold lineOf
  split
  · rfl
  · have hc : (L.map (· + far) = [] ∨ ¬ (L.map (· + far)).Pairwise (· < ·)) ↔ (L = [] ∨ ¬ L.Pairwise (· < ·)) := by rw [hp, List.map_eq_nil_iff]
    by_cases h : L = [] ∨ ¬ L.Pairwise (· < ·)
    · rw [if_pos h, if_pos (hc.2 h)]
    · rw [if_neg h, if_neg (fun k => h (hc.1 k))]
      have hf := fitAll_mv (e := eps - 1) (far := far) (L := L) (F := Fit.zero)
      rw [zero_mv] at hf
      rw [hf]
      cases fitAll (eps - 1) Fit.zero L with
      | none => rfl
      | some F =>
        simp only [Option.map_some]
        rw [List.length_map]
        simp only [Fit.mv]
        rw [baseOf_mv (Nat.le_refl _)]
/-- A beginning of keys that have a line. -/
theorem LineIs.begins {L : List Int} {eps : Int} {F : Fit} (h : LineIs L eps F) {n : Nat} (hn : 0 < n) (hn2 : n ≤ L.length) : ∃ G, LineIs (L.take n) eps G ∧ ¬ ltF F.low G.low := by
  have hne : L.take n ≠ [] := by intro e; have := congrArg List.length e; rw [List.length_take, List.length_nil] at this; omega
  have hup : (L.take n).Pairwise (· < ·) := h.up.sublist (List.take_sublist n L)
  obtain ⟨G, hG⟩ := lineOf_is (lineOf_ok h.g1 h.g2 hne hup h.full.ok.low.ok h.full.den_low (h.bears.take n))
  refine ⟨G, hG, ?_⟩
  rcases hG.full.low.is with q | ⟨i, j, hij, hj, hpos, q⟩
  · rw [q]; have := h.full.ok.low.ok.num; unfold ltF; simp only []; omega
  · rw [hG.keys] at hj q
    have g : ∀ m, m < n → (L.take n).getD m 0 = L.getD m 0 := fun m hm => by rw [List.getD_eq_getElem?_getD, List.getD_eq_getElem?_getD, List.getElem?_take, if_pos hm]
    rw [List.length_take] at hj
    rw [g i (by omega), g j (by omega)] at q
    have hd : 0 < L.getD j 0 - L.getD i 0 := by have := getD_lt h.up hij (show j < L.length by omega); omega
    have hb := (h.bears i j hij (by omega)).1
    rw [q, ltF_lowest (by omega) hd]
    omega
theorem nearAt_wider {x : Ln} {e e' : Int} (hee : e ≤ e') {L : List Int} {i : Nat} (h : nearAt x e L i = true) : nearAt x e' L i = true := by
  unfold nearAt at *
  simp only [Bool.and_eq_true, decide_eq_true_eq] at *
  exact ⟨⟨h.1.1, by omega⟩, by omega⟩
theorem LineIs.wider {L : List Int} {eps eps' : Int} {F : Fit} (h : LineIs L eps F) (hl : L.length ≤ 17592186044416) (h1 : eps ≤ eps') (h2 : eps' ≤ 64) :
    ∃ G, LineIs L eps' G ∧ ¬ ltF F.low G.low ∧ fitsB (F.low.1, F.low.2, baseOf F.low L (eps - 1) L.length) L eps' = true := by
  have hb' : Bears (eps' - 1) F.low L := h.bears.wider (by omega) (by have := h.den; omega)
  obtain ⟨G, hG⟩ := lineOf_is (lineOf_ok (eps := eps') (by have := h.g1; omega) h2 h.ne h.up h.full.ok.low.ok h.full.den_low hb')
  refine ⟨G, hG, ?_, ?_⟩
  · rcases hG.full.low.is with q | ⟨i, j, hij, hj, hpos, q⟩
    · rw [q]; have := h.full.ok.low.ok.num; unfold ltF; simp only []; omega
    · rw [hG.keys] at hj q
      have hd : 0 < L.getD j 0 - L.getD i 0 := by have := getD_lt h.up hij hj; omega
      have hb := (hb' i j hij hj).1
      rw [q, ltF_lowest (by omega) hd]
      omega
  · have hf := (h.fits hl).1
    have g1 := h.g1
    unfold fitsB at hf ⊢
    have hg : ¬ (eps < 2 ∨ 64 < eps ∨ L = [] ∨ ¬ L.Pairwise (· < ·)) := by rintro (g | g | g | g); omega; omega; exact h.ne g; exact g h.up
    have hg' : ¬ (eps' < 2 ∨ 64 < eps' ∨ L = [] ∨ ¬ L.Pairwise (· < ·)) := by rintro (g | g | g | g); omega; omega; exact h.ne g; exact g h.up
    rw [if_neg hg] at hf
    rw [if_neg hg']
    unfold nearTo at *
    rw [decide_eq_true_eq] at *
    exact fun i hi => nearAt_wider (by omega) (hf i hi)
end Go.Proofs.Ytnccgpdniigekaa
