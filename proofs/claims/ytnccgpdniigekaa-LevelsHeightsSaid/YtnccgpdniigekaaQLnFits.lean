/-
  Plain: the line of keys fits them, with the least base; its slope is the least.
-/
import Derived.Test.YtnccgpdniigekaaQLnPlain
namespace Go.Proofs.Ytnccgpdniigekaa
set_option linter.unusedVariables false
set_option linter.unusedSimpArgs false

theorem baseOf_max {s : Fr} {L : List Int} {e : Int} : ∀ {n : Nat}, 0 < n → (∃ j, j < n ∧ baseOf s L e n = baseAt s L e j) ∧ ∀ i, i < n → baseAt s L e i ≤ baseOf s L e n
  | 0, h => absurd h (by omega)
  | n + 1, _ => by
    have h0 : baseAt s L e 0 = -e := by unfold baseAt; rw [Int.sub_self, Int.mul_zero, Int.zero_ediv]; omega
    by_cases hn : n = 0
    · subst hn
      refine ⟨⟨0, by omega, by simp only [baseOf]; omega⟩, fun i hi => ?_⟩
      obtain rfl : i = 0 := by omega
      simp only [baseOf]; omega
    · obtain ⟨⟨j, hj, he⟩, ha⟩ := baseOf_max (s := s) (L := L) (e := e) (n := n) (by omega)
      rw [baseOf]
      constructor
      · rcases Int.le_total (baseOf s L e n) (baseAt s L e n) with h | h
        · exact ⟨n, by omega, by omega⟩
        · exact ⟨j, by omega, by omega⟩
      · intro i hi
        by_cases hin : i = n
        · subst hin; omega
        · have := ha i (by omega); omega
section
variable {L : List Int} {e : Int} {F : Fit}
/-- The slope's part at a key, rounded down. -/
def nAtF (s : Fr) (L : List Int) (i : Nat) : Int := s.1 * (L.getD i 0 - L.getD 0 0) / s.2
theorem floor_step {p q a b M : Int} (hq : 0 < q) (h : p * a ≤ p * b + M * q) : p * a / q ≤ p * b / q + M := by
  have := Int.ediv_le_ediv hq h
  rwa [Int.add_mul_ediv_right _ _ (by omega)] at this
theorem bears_floor {s : Fr} (hq : 0 < s.2) (hb : Bears e s L) {i j : Nat} (hij : i < j) (hj : j < L.length) :
    nAtF s L i + ((j : Int) - i - 2 * e) ≤ nAtF s L j ∧ nAtF s L j ≤ nAtF s L i + ((j : Int) - i + 2 * e) := by
  obtain ⟨h1, h2⟩ := hb i j hij hj
  unfold nAtF
  have e1 : s.1 * (L.getD j 0 - L.getD i 0) = s.1 * (L.getD j 0 - L.getD 0 0) - s.1 * (L.getD i 0 - L.getD 0 0) := by rw [← Int.mul_sub]; congr 1; omega
  constructor
  · have := floor_step (p := 1) (q := s.2) (a := s.1 * (L.getD i 0 - L.getD 0 0)) (b := s.1 * (L.getD j 0 - L.getD 0 0)) (M := -((j : Int) - i - 2 * e)) hq (by rw [Int.neg_mul]; omega)
    simp only [Int.one_mul] at this
    omega
  · have := floor_step (p := 1) (q := s.2) (a := s.1 * (L.getD j 0 - L.getD 0 0)) (b := s.1 * (L.getD i 0 - L.getD 0 0)) (M := (j : Int) - i + 2 * e) hq (by omega)
    simp only [Int.one_mul] at this
    omega
theorem nAtF_range {s : Fr} (he : 0 ≤ e) (h0 : 0 ≤ s.1) (hq : 0 < s.2) (hK : L.Pairwise (· < ·)) (hb : Bears e s L) {i : Nat} (hi : i < L.length) : 0 ≤ nAtF s L i ∧ nAtF s L i ≤ (i : Int) + 2 * e := by
  by_cases h : i = 0
  · subst h
    unfold nAtF
    rw [Int.sub_self, Int.mul_zero, Int.zero_ediv]; omega
  · have hd := getD_lt hK (i := 0) (j := i) (by omega) hi
    constructor
    · exact Int.ediv_nonneg (Int.mul_nonneg h0 (by omega)) (by omega)
    · have := (bears_floor hq hb (i := 0) (j := i) (by omega) hi).2
      have z : nAtF s L 0 = 0 := by unfold nAtF; rw [Int.sub_self, Int.mul_zero, Int.zero_ediv]
      omega
theorem lineAt_near {s : Fr} {b : Int} {i : Nat} (hq : s.2 ≠ 0) (h1 : -2305843009213693952 ≤ b) (h2 : b ≤ 2305843009213693952) (hn : nAtF s L i ≤ 2305843009213693952) : lineAt (s.1, s.2, b) (L.getD i 0 - L.getD 0 0) = (nAtF s L i + b, 0) := by
  unfold lineAt
  rw [if_neg (by simp only []; omega), if_pos (by simpa [nAtF] using hn)]
  rfl
theorem nearAt_iff {s : Fr} {b : Int} {i : Nat} (hq : s.2 ≠ 0) (h1 : -2305843009213693952 ≤ b) (h2 : b ≤ 2305843009213693952) (hn : nAtF s L i ≤ 2305843009213693952) : nearAt (s.1, s.2, b) e L i = true ↔ (i : Int) - e ≤ nAtF s L i + b ∧ nAtF s L i + b ≤ i + e := by
  unfold nearAt
  rw [lineAt_near hq h1 h2 hn]
  simp
/-- A line with a slope that all pairs bear and the base that it asks for fits; with one less it does not. -/
theorem base_fits {s : Fr} (he : 0 ≤ e) (he1 : e ≤ 64) (h0 : 0 ≤ s.1) (hq : 0 < s.2) (hK : L.Pairwise (· < ·)) (hb : Bears e s L) (hn : 0 < L.length) (hl : L.length ≤ 17592186044416) :
    nearTo (s.1, s.2, baseOf s L e L.length) e L L.length = true ∧ nearTo (s.1, s.2, baseOf s L e L.length - 1) e L L.length = false ∧ -64 ≤ baseOf s L e L.length ∧ baseOf s L e L.length ≤ 17592186044416 := by
  obtain ⟨⟨j, hj, hbj⟩, ha⟩ := baseOf_max (s := s) (L := L) (e := e) hn
  have hr := fun i (hi : i < L.length) => nAtF_range he h0 hq hK hb hi
  have hba : ∀ i, baseAt s L e i = i - e - nAtF s L i := fun _ => rfl
  have hz := ha 0 hn
  have z0 : nAtF s L 0 = 0 := by unfold nAtF; rw [Int.sub_self, Int.mul_zero, Int.zero_ediv]
  rw [hba, z0] at hz
  have hrj := hr j hj
  have hj2 := hba j
  have b1 : -64 ≤ baseOf s L e L.length := by omega
  have b2 : baseOf s L e L.length ≤ 17592186044416 := by omega
  refine ⟨?_, ?_, b1, b2⟩
  · unfold nearTo
    rw [decide_eq_true_eq]
    intro i hi
    have hri := hr i hi
    rw [nearAt_iff (by omega) (by omega) (by omega) (by omega)]
    have h1 := ha i hi
    rw [hba] at h1
    refine ⟨by omega, ?_⟩
    rcases Nat.lt_trichotomy i j with h | h | h
    · have := (bears_floor hq hb h hj).1; omega
    · subst h; omega
    · have := (bears_floor hq hb h hi).2; omega
  · unfold nearTo
    rw [decide_eq_false_iff_not]
    intro h
    have := h j hj
    rw [nearAt_iff (by omega) (by omega) (by omega) (by omega)] at this
    omega
end

/-- What the line of keys is, where they have one. -/
structure LineIs (L : List Int) (eps : Int) (F : Fit) : Prop where
  g1 : 2 ≤ eps
  g2 : eps ≤ 64
  ne : L ≠ []
  up : L.Pairwise (· < ·)
  full : Full (eps - 1) F
  keys : F.keys = L
  is : lineOf L eps = ((F.low.1, F.low.2, baseOf F.low L (eps - 1) L.length), 0)
theorem lineOf_is {L : List Int} {eps : Int} (h : (lineOf L eps).2 = 0) : ∃ F, LineIs L eps F := by
  have h' := h
  unfold lineOf at h
  split at h
  · simp at h
  · rename_i h1
    split at h
    · simp at h
    · rename_i h2
      cases hf : fitAll (eps - 1) Fit.zero L with
      | none => rw [hf] at h; simp at h
      | some F =>
        obtain ⟨hF, hk⟩ := fitAll_zero (by omega) hf
        exact ⟨F, by omega, by omega, fun h => h2 (.inl h), Decidable.byContradiction fun h => h2 (.inr h), hF, hk, by unfold lineOf; rw [if_neg h1, if_neg h2, hf]⟩
theorem lineOf_ok {L : List Int} {eps : Int} (h1 : 2 ≤ eps) (h2 : eps ≤ 64) (hne : L ≠ []) (hup : L.Pairwise (· < ·)) {s : Fr} (hs : OkF s) (hs2 : s.2 ≠ 0) (hb : Bears (eps - 1) s L) : (lineOf L eps).2 = 0 := by
  obtain ⟨G, hG⟩ := fitAll_bears (e := eps - 1) (by omega) hs hs2 (L := L) (Full.zero _) (by simpa [Fit.zero] using hup) (by simpa [Fit.zero] using hb)
  unfold lineOf
  rw [if_neg (by omega), if_neg (by intro h; rcases h with h | h; exact hne h; exact h hup), hG]
theorem lineOf_err {L : List Int} {eps : Int} (h : (lineOf L eps).2 ≠ 0) : (lineOf L eps).1 = (0, 0, 0) := by
  unfold lineOf at h ⊢
  split
  · rfl
  · split
    · rfl
    · cases hf : fitAll (eps - 1) Fit.zero L with
      | none => rfl
      | some F => rename_i h1 h2; rw [if_neg h1, if_neg h2, hf] at h; simp at h
section
variable {L : List Int} {eps : Int} {F : Fit}
theorem LineIs.e0 (h : LineIs L eps F) : 0 ≤ eps - 1 := by have := h.g1; omega
theorem LineIs.e1 (h : LineIs L eps F) : eps - 1 ≤ 64 := by have := h.g2; omega
theorem LineIs.bears (h : LineIs L eps F) : Bears (eps - 1) F.low L := by have := h.full.bears h.e0; rwa [h.keys] at this
theorem LineIs.den (h : LineIs L eps F) : 0 < F.low.2 := by have := h.full.den_low; have := h.full.ok.low.ok.den; omega
theorem LineIs.pos (h : LineIs L eps F) : 0 < L.length := List.length_pos_iff.2 h.ne
theorem LineIs.fits (h : LineIs L eps F) (hl : L.length ≤ 17592186044416) :
    fitsB (F.low.1, F.low.2, baseOf F.low L (eps - 1) L.length) L eps = true ∧ fitsB (F.low.1, F.low.2, baseOf F.low L (eps - 1) L.length - 1) L eps = false ∧ -64 ≤ baseOf F.low L (eps - 1) L.length ∧ baseOf F.low L (eps - 1) L.length ≤ 17592186044416 := by
  have he := h.e0
  obtain ⟨h1, h2, h3⟩ := base_fits (e := eps - 1) (s := F.low) h.e0 h.e1 h.full.ok.low.ok.num h.den h.up h.bears h.pos hl
  unfold fitsB
  have hg : ¬ (eps < 2 ∨ 64 < eps ∨ L = [] ∨ ¬ L.Pairwise (· < ·)) := by
    have := h.g1; have := h.g2
    rintro (g | g | g | g)
    · omega
    · omega
    · exact h.ne g
    · exact g h.up
  rw [if_neg hg, if_neg hg]; exact ⟨h1, h2, h3⟩
end
end Go.Proofs.Ytnccgpdniigekaa
