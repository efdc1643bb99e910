/-
  Plain: what line.Of, line.At and line.Fits come to.
-/
import Derived.Test.YtnccgpdniigekaaQG0
import Derived.Test.YtnccgpdniigekaaQG31
namespace Go.Proofs.Ytnccgpdniigekaa
set_option linter.unusedVariables false
set_option linter.unusedSimpArgs false

/-- A line: numerator, denominator, base. -/
abbrev Ln := Int × Int × Int
/-- Where a line is, so far behind, and the error. -/
def lineAt (x : Ln) (d : Int) : Int × Int :=
  if x.2.1 = 0 ∨ x.2.2 < -2305843009213693952 ∨ 2305843009213693952 < x.2.2 then (0, 1)
  else if x.1 * d / x.2.1 ≤ 2305843009213693952 then (x.1 * d / x.2.1 + x.2.2, 0) else (0, 1)
/-- Whether a line is near to a key's rank. -/
def nearAt (x : Ln) (e : Int) (L : List Int) (i : Nat) : Bool :=
  (lineAt x (L.getD i 0 - L.getD 0 0)).2 == 0 && decide ((i : Int) - e ≤ (lineAt x (L.getD i 0 - L.getD 0 0)).1) && decide ((lineAt x (L.getD i 0 - L.getD 0 0)).1 ≤ i + e)
def nearTo (x : Ln) (e : Int) (L : List Int) (n : Nat) : Bool := decide (∀ i, i < n → nearAt x e L i = true)
def fitsB (x : Ln) (L : List Int) (eps : Int) : Bool :=
  if eps < 2 ∨ 64 < eps ∨ L = [] ∨ ¬ L.Pairwise (· < ·) then false else nearTo x (eps - 1) L L.length
/-- A fit that takes all keys. -/
def fitAll (e : Int) : Fit → List Int → Option Fit
  | F, [] => some F
  | F, k :: r => if (F.add e k).1.1 then fitAll e (F.add e k).2 r else none
/-- What of a key's rank a slope leaves to the base. -/
def baseAt (s : Fr) (L : List Int) (e : Int) (i : Nat) : Int := i - e - s.1 * (L.getD i 0 - L.getD 0 0) / s.2
def baseOf (s : Fr) (L : List Int) (e : Int) : Nat → Int
  | 0 => -e
  | n + 1 => max (baseOf s L e n) (baseAt s L e n)
def lineOf (L : List Int) (eps : Int) : Ln × Int :=
  if eps < 2 ∨ 64 < eps then ((0, 0, 0), 1)
  else if L = [] ∨ ¬ L.Pairwise (· < ·) then ((0, 0, 0), 50)
  else match fitAll (eps - 1) Fit.zero L with
    | none => ((0, 0, 0), 51)
    | some F => ((F.low.1, F.low.2, baseOf F.low L (eps - 1) L.length), 0)

theorem fitAll_snoc {e : Int} : ∀ {L : List Int} {F : Fit} {k : Int}, fitAll e F (L ++ [k]) = (fitAll e F L).bind fun G => if (G.add e k).1.1 then some (G.add e k).2 else none
  | [], F, k => by simp [fitAll]
  | a :: r, F, k => by
    simp only [List.cons_append, fitAll]
    split
    · exact fitAll_snoc
    · rfl
theorem fitAll_app {e : Int} : ∀ {L K : List Int} {F : Fit}, fitAll e F (L ++ K) = (fitAll e F L).bind fun G => fitAll e G K
  | [], K, F => by simp [fitAll]
  | a :: r, K, F => by
    simp only [List.cons_append, fitAll]
    split
    · exact fitAll_app
    · rfl
theorem fitAll_take {e : Int} {L : List Int} {F G : Fit} {i : Nat} (h : fitAll e F (L.take i) = some G) (hi : i < L.length) :
    fitAll e F (L.take (i + 1)) = if (G.add e L[i]).1.1 then some (G.add e L[i]).2 else none := by
  rw [List.take_succ_eq_append_getElem hi, fitAll_snoc, h]; rfl
theorem fitAll_none {e : Int} {L : List Int} {F : Fit} {i : Nat} (h : fitAll e F (L.take i) = none) : fitAll e F L = none := by
  have := List.take_append_drop i L
  rw [← this, fitAll_app, h]; rfl
/-- What is taken is in, and all pairs have their say. -/
theorem fitAll_full {e : Int} (he : 0 ≤ e) : ∀ {L : List Int} {F G : Fit}, Full e F → fitAll e F L = some G → Full e G ∧ G.keys = F.keys ++ L
  | [], F, G, h, hg => by
    simp only [fitAll, Option.some.injEq] at hg
    subst hg; exact ⟨h, by simp⟩
  | a :: r, F, G, h, hg => by
    rw [fitAll] at hg
    split at hg
    · rename_i ht
      have hadd : ∃ c, F.add e a = ((true, c), (F.add e a).2) := ⟨(F.add e a).1.2, by rw [← ht]⟩
      obtain ⟨c, hadd⟩ := hadd
      have hf := h.add he hadd
      obtain ⟨h1, h2⟩ := fitAll_full he hf hg
      refine ⟨h1, ?_⟩
      have hk : (F.add e a).2.keys = F.keys ++ [a] := by
        unfold Fit.add at ht ⊢
        split at ht
        · simp at ht
        · rename_i hl
          split at ht
          · simp at ht
          · rename_i hlt
            rw [if_neg hl, if_neg hlt]
      rw [h2, hk]; simp
    · simp at hg
theorem fitAll_zero {e : Int} (he : 0 ≤ e) {L : List Int} {G : Fit} (h : fitAll e Fit.zero L = some G) : Full e G ∧ G.keys = L := by
  have := fitAll_full he (Full.zero e) h
  simpa [Fit.zero] using this
/-- A key more that rises is taken where the slopes meet. -/
theorem Fit.add_yes {F : Fit} {e key : Int} (hl : F.late key = false) (h : ¬ ltF (F.topWith e key) (F.lowWith e key)) : F.add e key = ((true, 0), ⟨F.keys ++ [key], F.lowWith e key, F.topWith e key⟩) := by
  rw [Fit.add, if_neg (by simp [hl]), if_neg h]

/-- Over keys whose pairs all bear one slope, a fit takes all. -/
def Bears (e : Int) (s : Fr) (K : List Int) : Prop := ∀ i j : Nat, i < j → j < K.length → ((j : Int) - i - 2 * e) * s.2 ≤ s.1 * (K.getD j 0 - K.getD i 0) ∧ s.1 * (K.getD j 0 - K.getD i 0) ≤ ((j : Int) - i + 2 * e) * s.2
theorem Full.bears {e : Int} (he : 0 ≤ e) {F : Fit} (h : Full e F) : Bears e F.low F.keys := by
  intro i j hij hj
  have hd : 0 < F.keys.getD j 0 - F.keys.getD i 0 := by have := getD_lt h.ok.up hij hj; omega
  have h0 := h.ok.low.ok.num
  have h2 : 0 < F.low.2 := by have := h.den_low; have := h.ok.low.ok.den; omega
  constructor
  · by_cases hp : 0 < (j : Int) - i - 2 * e
    · have := h.low.all _ ⟨i, j, hij, hj, hp, rfl⟩
      rw [ltF_lowest (by omega) hd] at this
      omega
    · have k1 : 0 ≤ F.low.1 * (F.keys.getD j 0 - F.keys.getD i 0) := Int.mul_nonneg h0 (by omega)
      have k2 : 0 ≤ (-((j : Int) - i - 2 * e)) * F.low.2 := Int.mul_nonneg (by omega) (by omega)
      rw [Int.neg_mul] at k2
      omega
  · have ho := (allTop_low he h.ok.up _ ⟨i, j, hij, hj, rfl⟩).ok
    have := ltF_trans' h.ok.low.ok h.ok.top.ok ho h.fit (h.top.all _ ⟨i, j, hij, hj, rfl⟩)
    rw [lowest_ltF (by omega) hd] at this
    omega
theorem bears_fit {e : Int} (he : 0 ≤ e) {s : Fr} (hs : OkF s) (hs2 : s.2 ≠ 0) {K : List Int} (hK : K.Pairwise (· < ·)) (hb : Bears e s K) {lo hi : Fr} (ml : MaxOf (0, 1) (allLow e K) lo) (mh : MinOf (1, 0) (allTop e K) hi) : ¬ ltF s lo ∧ ¬ ltF hi s := by
  have s1 := hs.num
  have s2 : 0 < s.2 := by have := hs.den; omega
  constructor
  · rcases ml.is with q | ⟨i, j, hij, hj, hp, q⟩
    · rw [q]; unfold ltF; simp only []; omega
    · have hd : 0 < K.getD j 0 - K.getD i 0 := by have := getD_lt hK hij hj; omega
      rw [q, ltF_lowest (by omega) hd]
      have := (hb i j hij hj).1
      omega
  · rcases mh.is with q | ⟨i, j, hij, hj, q⟩
    · rw [q]; unfold ltF; simp only []; omega
    · have hd : 0 < K.getD j 0 - K.getD i 0 := by have := getD_lt hK hij hj; omega
      rw [q, lowest_ltF (by omega) hd]
      have := (hb i j hij hj).2
      omega
theorem Bears.take {e : Int} {s : Fr} {K : List Int} (h : Bears e s K) (n : Nat) : Bears e s (K.take n) := by
  intro i j hij hj
  rw [List.length_take] at hj
  have q : ∀ m, m < n → (K.take n).getD m 0 = K.getD m 0 := fun m hm => by rw [List.getD_eq_getElem?_getD, List.getD_eq_getElem?_getD, List.getElem?_take, if_pos hm]
  rw [q i (by omega), q j (by omega)]
  exact h i j hij (by omega)
theorem late_false {F : Fit} {key : Int} (h : (F.keys ++ [key]).Pairwise (· < ·)) : F.late key = false := by
  unfold Fit.late
  cases hl : F.keys.getLast? with
  | none => rfl
  | some l =>
    simp only [decide_eq_false_iff_not, Int.not_le]
    exact (List.pairwise_append.1 h).2.2 l (List.mem_of_getLast? hl) key (by simp)
theorem fitAll_bears {e : Int} (he : 0 ≤ e) {s : Fr} (hs : OkF s) (hs2 : s.2 ≠ 0) : ∀ {L : List Int} {F : Fit}, Full e F → (F.keys ++ L).Pairwise (· < ·) → Bears e s (F.keys ++ L) → ∃ G, fitAll e F L = some G
  | [], F, _, _, _ => ⟨F, rfl⟩
  | a :: r, F, hF, hK, hb => by
    have eq : F.keys ++ a :: r = (F.keys ++ [a]) ++ r := by simp
    have h1 : (F.keys ++ [a]).Pairwise (· < ·) := by rw [eq] at hK; exact (List.pairwise_append.1 hK).1
    have hl := late_false h1
    have hb1 : Bears e s (F.keys ++ [a]) := by
      have := hb.take (F.keys.length + 1)
      rwa [eq, List.take_append_of_le_length (by simp), List.take_of_length_le (by simp)] at this
    obtain ⟨k1, k2⟩ := bears_fit he hs hs2 h1 hb1 (hF.lowWith hl) (hF.topWith he hl)
    have hlo : LowF (F.lowWith e a) := (hF.lowWith hl).is.elim (fun q => q ▸ FitOk.zero.low) (allLow_low h1 _)
    have hhi : LowF (F.topWith e a) := (hF.topWith he hl).is.elim (fun q => q ▸ FitOk.zero.top) (allTop_low he h1 _)
    have hn : ¬ ltF (F.topWith e a) (F.lowWith e a) := ltF_trans' hlo.ok hs hhi.ok k1 k2
    have hadd := Fit.add_yes hl hn
    have hfull := hF.add he hadd
    obtain ⟨G, hG⟩ := fitAll_bears he hs hs2 (L := r) hfull (by rw [← eq]; exact hK) (by rw [← eq]; exact hb)
    exact ⟨G, by rw [fitAll, hadd]; exact hG⟩
end Go.Proofs.Ytnccgpdniigekaa
/-
  Plain: the line of keys fits them, with the least base; its slope is the least.
-/
namespace Go.Proofs.Ytnccgpdniigekaa
set_option linter.unusedVariables false
set_option linter.unusedSimpArgs false

theorem baseOf_max {s : Fr} {L : List Int} {e : Int} : ∀ {n : Nat}, 0 < n → (∃ j, j < n ∧ baseOf s L e n = baseAt s L e j) ∧ ∀ i, i < n → baseAt s L e i ≤ baseOf s L e n
  | 0, h => absurd h (by omega)
  | n + 1, _ => by
    have h0 : baseAt s L e 0 = -e := by unfold baseAt; rw [Int.sub_self, Int.mul_zero, Int.zero_ediv]; omega
    by_cases hn : n = 0
    · subst hn
      refine ⟨⟨0, by omega, by simp only [baseOf]; omega⟩, fun i hi => ?_⟩
      obtain rfl : i = 0 := by omega
      simp only [baseOf]; omega
    · obtain ⟨⟨j, hj, he⟩, ha⟩ := baseOf_max (s := s) (L := L) (e := e) (n := n) (by omega)
      rw [baseOf]
      constructor
      · rcases Int.le_total (baseOf s L e n) (baseAt s L e n) with h | h
        · exact ⟨n, by omega, by omega⟩
        · exact ⟨j, by omega, by omega⟩
      · intro i hi
        by_cases hin : i = n
        · subst hin; omega
        · have := ha i (by omega); omega
section
variable {L : List Int} {e : Int} {F : Fit}
/-- The slope's part at a key, rounded down. -/
def nAtF (s : Fr) (L : List Int) (i : Nat) : Int := s.1 * (L.getD i 0 - L.getD 0 0) / s.2
theorem floor_step {p q a b M : Int} (hq : 0 < q) (h : p * a ≤ p * b + M * q) : p * a / q ≤ p * b / q + M := by
  have := Int.ediv_le_ediv hq h
  rwa [Int.add_mul_ediv_right _ _ (by omega)] at this
theorem bears_floor {s : Fr} (hq : 0 < s.2) (hb : Bears e s L) {i j : Nat} (hij : i < j) (hj : j < L.length) :
    nAtF s L i + ((j : Int) - i - 2 * e) ≤ nAtF s L j ∧ nAtF s L j ≤ nAtF s L i + ((j : Int) - i + 2 * e) := by
  obtain ⟨h1, h2⟩ := hb i j hij hj
  unfold nAtF
  have e1 : s.1 * (L.getD j 0 - L.getD i 0) = s.1 * (L.getD j 0 - L.getD 0 0) - s.1 * (L.getD i 0 - L.getD 0 0) := by rw [← Int.mul_sub]; congr 1; omega
  constructor
  · have := floor_step (p := 1) (q := s.2) (a := s.1 * (L.getD i 0 - L.getD 0 0)) (b := s.1 * (L.getD j 0 - L.getD 0 0)) (M := -((j : Int) - i - 2 * e)) hq (by rw [Int.neg_mul]; omega)
    simp only [Int.one_mul] at this
    omega
  · have := floor_step (p := 1) (q := s.2) (a := s.1 * (L.getD j 0 - L.getD 0 0)) (b := s.1 * (L.getD i 0 - L.getD 0 0)) (M := (j : Int) - i + 2 * e) hq (by omega)
    simp only [Int.one_mul] at this
    omega
theorem nAtF_range {s : Fr} (he : 0 ≤ e) (h0 : 0 ≤ s.1) (hq : 0 < s.2) (hK : L.Pairwise (· < ·)) (hb : Bears e s L) {i : Nat} (hi : i < L.length) : 0 ≤ nAtF s L i ∧ nAtF s L i ≤ (i : Int) + 2 * e := by
  by_cases h : i = 0
  · subst h
    unfold nAtF
    rw [Int.sub_self, Int.mul_zero, Int.zero_ediv]; omega
  · have hd := getD_lt hK (i := 0) (j := i) (by omega) hi
    constructor
    · exact Int.ediv_nonneg (Int.mul_nonneg h0 (by omega)) (by omega)
    · have := (bears_floor hq hb (i := 0) (j := i) (by omega) hi).2
      have z : nAtF s L 0 = 0 := by unfold nAtF; rw [Int.sub_self, Int.mul_zero, Int.zero_ediv]
      omega
theorem lineAt_near {s : Fr} {b : Int} {i : Nat} (hq : s.2 ≠ 0) (h1 : -2305843009213693952 ≤ b) (h2 : b ≤ 2305843009213693952) (hn : nAtF s L i ≤ 2305843009213693952) : lineAt (s.1, s.2, b) (L.getD i 0 - L.getD 0 0) = (nAtF s L i + b, 0) := by
  unfold lineAt
  rw [if_neg (by simp only []; omega), if_pos (by simpa [nAtF] using hn)]
  rfl
theorem nearAt_iff {s : Fr} {b : Int} {i : Nat} (hq : s.2 ≠ 0) (h1 : -2305843009213693952 ≤ b) (h2 : b ≤ 2305843009213693952) (hn : nAtF s L i ≤ 2305843009213693952) : nearAt (s.1, s.2, b) e L i = true ↔ (i : Int) - e ≤ nAtF s L i + b ∧ nAtF s L i + b ≤ i + e := by
  unfold nearAt
  rw [lineAt_near hq h1 h2 hn]
  simp
/-- A line with a slope that all pairs bear and the base that it asks for fits; with one less it does not. -/
theorem base_fits {s : Fr} (he : 0 ≤ e) (he1 : e ≤ 64) (h0 : 0 ≤ s.1) (hq : 0 < s.2) (hK : L.Pairwise (· < ·)) (hb : Bears e s L) (hn : 0 < L.length) (hl : L.length ≤ 17592186044416) :
    nearTo (s.1, s.2, baseOf s L e L.length) e L L.length = true ∧ nearTo (s.1, s.2, baseOf s L e L.length - 1) e L L.length = false ∧ -64 ≤ baseOf s L e L.length ∧ baseOf s L e L.length ≤ 17592186044416 := by
  obtain ⟨⟨j, hj, hbj⟩, ha⟩ := baseOf_max (s := s) (L := L) (e := e) hn
  have hr := fun i (hi : i < L.length) => nAtF_range he h0 hq hK hb hi
  have hba : ∀ i, baseAt s L e i = i - e - nAtF s L i := fun _ => rfl
  have hz := ha 0 hn
  have z0 : nAtF s L 0 = 0 := by unfold nAtF; rw [Int.sub_self, Int.mul_zero, Int.zero_ediv]
  rw [hba, z0] at hz
  have hrj := hr j hj
  have hj2 := hba j
  have b1 : -64 ≤ baseOf s L e L.length := by omega
  have b2 : baseOf s L e L.length ≤ 17592186044416 := by omega
  refine ⟨?_, ?_, b1, b2⟩
  · unfold nearTo
    rw [decide_eq_true_eq]
    intro i hi
    have hri := hr i hi
    rw [nearAt_iff (by omega) (by omega) (by omega) (by omega)]
    have h1 := ha i hi
    rw [hba] at h1
    refine ⟨by omega, ?_⟩
    rcases Nat.lt_trichotomy i j with h | h | h
    · have := (bears_floor hq hb h hj).1; omega
    · subst h; omega
    · have := (bears_floor hq hb h hi).2; omega
  · unfold nearTo
    rw [decide_eq_false_iff_not]
    intro h
    have := h j hj
    rw [nearAt_iff (by omega) (by omega) (by omega) (by omega)] at this
    omega
end

/-- What the line of keys is, where they have one. -/
structure LineIs (L : List Int) (eps : Int) (F : Fit) : Prop where
  g1 : 2 ≤ eps
  g2 : eps ≤ 64
  ne : L ≠ []
  up : L.Pairwise (· < ·)
  full : Full (eps - 1) F
  keys : F.keys = L
  is : lineOf L eps = ((F.low.1, F.low.2, baseOf F.low L (eps - 1) L.length), 0)
theorem lineOf_is {L : List Int} {eps : Int} (h : (lineOf L eps).2 = 0) : ∃ F, LineIs L eps F := by
  have h' := h
  unfold lineOf at h
  split at h
  · simp at h
  · rename_i h1
    split at h
    · simp at h
    · rename_i h2
      cases hf : fitAll (eps - 1) Fit.zero L with
      | none => rw [hf] at h; simp at h
      | some F =>
        obtain ⟨hF, hk⟩ := fitAll_zero (by omega) hf
        exact ⟨F, by omega, by omega, fun h => h2 (.inl h), Decidable.byContradiction fun h => h2 (.inr h), hF, hk, by unfold lineOf; rw [if_neg h1, if_neg h2, hf]⟩
theorem lineOf_ok {L : List Int} {eps : Int} (h1 : 2 ≤ eps) (h2 : eps ≤ 64) (hne : L ≠ []) (hup : L.Pairwise (· < ·)) {s : Fr} (hs : OkF s) (hs2 : s.2 ≠ 0) (hb : Bears (eps - 1) s L) : (lineOf L eps).2 = 0 := by
  obtain ⟨G, hG⟩ := fitAll_bears (e := eps - 1) (by omega) hs hs2 (L := L) (Full.zero _) (by simpa [Fit.zero] using hup) (by simpa [Fit.zero] using hb)
  unfold lineOf
  rw [if_neg (by omega), if_neg (by intro h; rcases h with h | h; exact hne h; exact h hup), hG]
section
variable {L : List Int} {eps : Int} {F : Fit}
theorem LineIs.e0 (h : LineIs L eps F) : 0 ≤ eps - 1 := by have := h.g1; omega
theorem LineIs.e1 (h : LineIs L eps F) : eps - 1 ≤ 64 := by have := h.g2; omega
theorem LineIs.bears (h : LineIs L eps F) : Bears (eps - 1) F.low L := by have := h.full.bears h.e0; rwa [h.keys] at this
theorem LineIs.den (h : LineIs L eps F) : 0 < F.low.2 := by have := h.full.den_low; have := h.full.ok.low.ok.den; omega
theorem LineIs.pos (h : LineIs L eps F) : 0 < L.length := List.length_pos_iff.2 h.ne
theorem LineIs.fits (h : LineIs L eps F) (hl : L.length ≤ 17592186044416) :
    fitsB (F.low.1, F.low.2, baseOf F.low L (eps - 1) L.length) L eps = true ∧ fitsB (F.low.1, F.low.2, baseOf F.low L (eps - 1) L.length - 1) L eps = false ∧ -64 ≤ baseOf F.low L (eps - 1) L.length ∧ baseOf F.low L (eps - 1) L.length ≤ 17592186044416 := by
  have he := h.e0
  obtain ⟨h1, h2, h3⟩ := base_fits (e := eps - 1) (s := F.low) h.e0 h.e1 h.full.ok.low.ok.num h.den h.up h.bears h.pos hl
  unfold fitsB
  have hg : ¬ (eps < 2 ∨ 64 < eps ∨ L = [] ∨ ¬ L.Pairwise (· < ·)) := by
    have := h.g1; have := h.g2
    rintro (g | g | g | g)
    · omega
    · omega
    · exact h.ne g
    · exact g h.up
  rw [if_neg hg, if_neg hg]; exact ⟨h1, h2, h3⟩
end
end Go.Proofs.Ytnccgpdniigekaa
