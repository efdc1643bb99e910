/-
  Plain: what a fit takes and what it answers; the chains give the same slopes as all pairs.
-/
import Derived.Test.YtanhhgifcolfaaaHuChain
import Derived.Test.YtanhhgifcolfaaaHuFrac
namespace Go.Proofs.Ytanhhgifcolfaaa
set_option linter.unusedVariables false
set_option linter.unusedSimpArgs false

/-- One key's say on the least slope, on the greatest one. -/
def stepLow (e n key : Int) (K : List Int) (r : Fr) (i : Nat) : Fr :=
  if 0 < n - i - 2 * e then (if ltF r (lowest (n - i - 2 * e) (key - K.getD i 0)) then lowest (n - i - 2 * e) (key - K.getD i 0) else r) else r
def stepTop (e n key : Int) (K : List Int) (r : Fr) (i : Nat) : Fr :=
  if ltF (lowest (n - i + 2 * e) (key - K.getD i 0)) r then lowest (n - i + 2 * e) (key - K.getD i 0) else r
def lowUp (e n key : Int) (K : List Int) (low : Fr) : Nat → Fr
  | 0 => low
  | i + 1 => stepLow e n key K (lowUp e n key K low i) i
def topUp (e n key : Int) (K : List Int) (top : Fr) : Nat → Fr
  | 0 => top
  | i + 1 => stepTop e n key K (topUp e n key K top i) i
def sLow (e n key : Int) (K : List Int) (m : Nat) (s : Fr) : Prop := ∃ i : Nat, i < m ∧ 0 < n - i - 2 * e ∧ s = lowest (n - i - 2 * e) (key - K.getD i 0)
def sTop (e n key : Int) (K : List Int) (m : Nat) (s : Fr) : Prop := ∃ i : Nat, i < m ∧ s = lowest (n - i + 2 * e) (key - K.getD i 0)
theorem MaxOf.congr {low0 r : Fr} {S T : Fr → Prop} (h : MaxOf low0 S r) (e : ∀ x, T x ↔ S x) : MaxOf low0 T r := ⟨h.is.imp id (e r).2, h.ge, fun x hx => h.all x ((e x).1 hx)⟩
theorem MinOf.congr {low0 r : Fr} {S T : Fr → Prop} (h : MinOf low0 S r) (e : ∀ x, T x ↔ S x) : MinOf low0 T r := ⟨h.is.imp id (e r).2, h.le, fun x hx => h.all x ((e x).1 hx)⟩

section
variable {e n key : Int} {K : List Int}
theorem sLow_low (hk : ∀ i : Nat, i < K.length → K.getD i 0 < key) {m : Nat} (hm : m ≤ K.length) : ∀ s, sLow e n key K m s → LowF s := by
  rintro s ⟨i, hi, hp, rfl⟩
  exact (lowest_low (by omega) (by have := hk i (by omega); omega)).1
theorem sTop_low (he : 0 ≤ e) (hn : ∀ i : Nat, i < K.length → (i : Int) ≤ n) (hk : ∀ i : Nat, i < K.length → K.getD i 0 < key) {m : Nat} (hm : m ≤ K.length) : ∀ s, sTop e n key K m s → LowF s := by
  rintro s ⟨i, hi, rfl⟩
  exact (lowest_low (by have := hn i (by omega); omega) (by have := hk i (by omega); omega)).1
theorem lowUp_max (hk : ∀ i : Nat, i < K.length → K.getD i 0 < key) {low : Fr} (h0 : LowF low) : ∀ m, m ≤ K.length → MaxOf low (sLow e n key K m) (lowUp e n key K low m)
  | 0, _ => MaxOf.none.congr (fun x => ⟨fun ⟨i, hi, _⟩ => by omega, fun h => h.elim⟩)
  | m + 1, hm => by
    have ih := lowUp_max hk h0 m (by omega)
    unfold lowUp stepLow
    by_cases hp : 0 < n - (m : Int) - 2 * e
    · rw [if_pos hp]
      refine (ih.step h0 (sLow_low hk (by omega)) (lowest_low (by omega) (by have := hk m (by omega); omega)).1).congr fun x => ?_
      constructor
      · rintro ⟨i, hi, hpi, rfl⟩
        by_cases him : i = m
        · subst him; exact .inr rfl
        · exact .inl ⟨i, by omega, hpi, rfl⟩
      · rintro (⟨i, hi, hpi, rfl⟩ | rfl)
        · exact ⟨i, by omega, hpi, rfl⟩
        · exact ⟨m, by omega, hp, rfl⟩
    · rw [if_neg hp]
      refine ih.congr fun x => ?_
      constructor
      · rintro ⟨i, hi, hpi, rfl⟩
        by_cases him : i = m
        · subst him; exact absurd hpi hp
        · exact ⟨i, by omega, hpi, rfl⟩
      · rintro ⟨i, hi, hpi, rfl⟩
        exact ⟨i, by omega, hpi, rfl⟩
theorem topUp_min (he : 0 ≤ e) (hn : ∀ i : Nat, i < K.length → (i : Int) ≤ n) (hk : ∀ i : Nat, i < K.length → K.getD i 0 < key) {top : Fr} (h0 : LowF top) : ∀ m, m ≤ K.length → MinOf top (sTop e n key K m) (topUp e n key K top m)
  | 0, _ => MinOf.none.congr (fun x => ⟨fun ⟨i, hi, _⟩ => by omega, fun h => h.elim⟩)
  | m + 1, hm => by
    have ih := topUp_min he hn hk h0 m (by omega)
    unfold topUp stepTop
    refine (ih.step h0 (sTop_low he hn hk (by omega)) (lowest_low (by have := hn m (by omega); omega) (by have := hk m (by omega); omega)).1).congr fun x => ?_
    constructor
    · rintro ⟨i, hi, rfl⟩
      by_cases him : i = m
      · subst him; exact .inr rfl
      · exact .inl ⟨i, by omega, rfl⟩
    · rintro (⟨i, hi, rfl⟩ | rfl)
      · exact ⟨i, by omega, rfl⟩
      · exact ⟨m, by omega, rfl⟩
end

/-- A fit: the keys that were taken, the least slope, the greatest one. -/
structure Fit where
  keys : List Int
  low : Fr
  top : Fr
def Fit.zero : Fit := ⟨[], (0, 1), (1, 0)⟩
def Fit.lowWith (F : Fit) (e key : Int) : Fr := lowUp e F.keys.length key F.keys F.low F.keys.length
def Fit.topWith (F : Fit) (e key : Int) : Fr := topUp e F.keys.length key F.keys F.top F.keys.length
/-- Whether a key is not above the last one. -/
def Fit.late (F : Fit) (key : Int) : Bool := match F.keys.getLast? with
  | some l => decide (key ≤ l)
  | none => false
/-- A key more: was it taken, the error, the fit then. -/
def Fit.add (F : Fit) (e key : Int) : (Bool × Int) × Fit :=
  if F.late key then ((false, 40), F)
  else if ltF (F.topWith e key) (F.lowWith e key) then ((false, 0), F)
  else ((true, 0), ⟨F.keys ++ [key], F.lowWith e key, F.topWith e key⟩)
structure FitOk (F : Fit) : Prop where
  up : F.keys.Pairwise (· < ·)
  low : LowF F.low
  top : LowF F.top
theorem FitOk.zero : FitOk Fit.zero := ⟨List.Pairwise.nil, ⟨⟨by decide, by decide, by decide⟩, by decide⟩, ⟨⟨by decide, by decide, by decide⟩, by decide⟩⟩
theorem FitOk.lt {F : Fit} (h : FitOk F) {key : Int} (hl : F.late key = false) : ∀ i : Nat, i < F.keys.length → F.keys.getD i 0 < key := by
  intro i hi
  unfold Fit.late at hl
  have hne : F.keys ≠ [] := by intro e; rw [e] at hi; simp at hi
  rw [List.getLast?_eq_some_getLast hne] at hl
  simp only [decide_eq_false_iff_not, Int.not_le] at hl
  rw [List.getD_eq_getElem?_getD, List.getElem?_eq_getElem hi, Option.getD_some]
  rw [List.getLast_eq_getElem] at hl
  by_cases hil : i = F.keys.length - 1
  · subst hil; exact hl
  · have := List.pairwise_iff_getElem.1 h.up i (F.keys.length - 1) hi (by omega) (by omega); omega
theorem FitOk.add {F : Fit} (h : FitOk F) {e : Int} (he : 0 ≤ e) (key : Int) : FitOk (F.add e key).2 := by
  unfold Fit.add
  split
  · exact h
  · rename_i hl
    have hl : F.late key = false := by simpa using hl
    have hk := h.lt hl
    split
    · exact h
    · have m1 := lowUp_max (e := e) (n := F.keys.length) hk h.low F.keys.length (Nat.le_refl _)
      have m2 := topUp_min (n := F.keys.length) he (fun i hi => by omega) hk h.top F.keys.length (Nat.le_refl _)
      refine ⟨List.pairwise_append.2 ⟨h.up, List.pairwise_singleton _ _, fun a ha b hb => ?_⟩, m1.is.elim (fun q => by rw [Fit.lowWith, q]; exact h.low) (sLow_low hk (Nat.le_refl _) _), m2.is.elim (fun q => by rw [Fit.topWith, q]; exact h.top) (sTop_low he (fun i hi => by omega) hk (Nat.le_refl _) _)⟩
      obtain rfl : b = key := by simpa using hb
      obtain ⟨i, hi, rfl⟩ := List.mem_iff_getElem.1 ha
      have := hk i hi
      rwa [List.getD_eq_getElem?_getD, List.getElem?_eq_getElem hi, Option.getD_some] at this

/-- The points of a side, newest first: each key with its rank and so much more (d: e, or -e). -/
def pts (d : Int) : Nat → List Int → List Pt
  | _, [] => []
  | i, k :: r => pts d (i + 1) r ++ [(k, i + d)]
theorem pts_mem {d : Int} : ∀ {K : List Int} {i : Nat} {u : Pt}, u ∈ pts d i K ↔ ∃ j : Nat, j < K.length ∧ u = (K.getD j 0, ((i + j : Nat) : Int) + d)
  | [], i, u => by simp [pts]
  | k :: r, i, u => by
    rw [pts, List.mem_append, pts_mem]
    constructor
    · rintro (⟨j, hj, rfl⟩ | h)
      · exact ⟨j + 1, by simpa using hj, by simp; omega⟩
      · exact ⟨0, by simp, by simpa using h⟩
    · rintro ⟨j, hj, rfl⟩
      cases j with
      | zero => exact .inr (by simp)
      | succ j => exact .inl ⟨j, by simpa using hj, by simp; omega⟩
theorem pts_snoc {d : Int} : ∀ {K : List Int} {i : Nat} {k : Int}, pts d i (K ++ [k]) = (k, ((i + K.length : Nat) : Int) + d) :: pts d i K
  | [], i, k => by simp [pts]
  | a :: r, i, k => by
    rw [List.cons_append, pts, pts_snoc, pts]
    simp only [List.cons_append, List.length_cons, List.cons.injEq, Prod.mk.injEq, true_and, and_true]
    omega

/-- The best point of a chain is the best of all points. -/
theorem Chain.best {b : Int} {P c : List Pt} (h : Chain b P c) {p : Pt} (hp : ∀ q ∈ P, q.1 < p.1) {i : Nat} (hi : i < c.reverse.length)
    (h0 : i = 0 ∨ ∃ h : i - 1 + 1 < c.reverse.length, ¬ 0 ≤ b * steepV c.reverse[i - 1] c.reverse[i - 1 + 1] p) (h1 : i + 1 = c.reverse.length ∨ ∃ h : i + 1 < c.reverse.length, 0 ≤ b * steepV c.reverse[i] c.reverse[i + 1] p) :
    c.reverse[i] ∈ P ∧ ∀ q ∈ P, b * steepV q c.reverse[i] p ≤ 0 := by
  have hpc : ∀ u ∈ c, u.1 < p.1 := fun u hu => hp u (h.sub u hu)
  have hm : c.reverse[i] ∈ c := List.mem_reverse.1 (List.getElem_mem hi)
  have hbest := search_best (b := b) (d := c.reverse) (p := p) (List.pairwise_reverse.2 h.xs) (fun u hu => hpc u (List.mem_reverse.1 hu))
    (fun j hj => by
      have hl : c.reverse.length = c.length := List.length_reverse
      simp only [List.getElem_reverse]
      have := h.bent.at (c.length - 1 - (j + 2)) (by omega)
      have e1 : c.length - 1 - (j + 2) + 2 = c.length - 1 - j := by omega
      have e2 : c.length - 1 - (j + 2) + 1 = c.length - 1 - (j + 1) := by omega
      simpa only [e1, e2] using this) hi h0 h1
  refine ⟨h.sub _ hm, fun q hq => ?_⟩
  obtain ⟨t, r, hc⟩ := List.exists_cons_of_ne_nil (h.ne (List.ne_nil_of_mem hq))
  obtain ⟨u, hu, hs⟩ := h.dom q hq t (by rw [hc]; rfl) p (hpc t (by rw [hc]; simp))
  exact steep_trans (hp q hq) (hpc u hu) (hpc _ hm) hs (hbest u (List.mem_reverse.2 hu))

/-- What the program makes of the steepest way from an upper point. -/
def lowBy (low : Fr) (u p : Pt) : Fr := if u.2 < p.2 then (if ltF low (lowest (p.2 - u.2) (p.1 - u.1)) then lowest (p.2 - u.2) (p.1 - u.1) else low) else low
def topBy (top : Fr) (u p : Pt) : Fr := if ltF (lowest (p.2 - u.2) (p.1 - u.1)) top then lowest (p.2 - u.2) (p.1 - u.1) else top
theorem lowBy_eq {F : Fit} (h : FitOk F) {e key : Int} (hl : F.late key = false) {u : Pt} (hu : u ∈ pts e 0 F.keys) (hb : ∀ q ∈ pts e 0 F.keys, steepV q u (key, F.keys.length - e) ≤ 0) :
    lowBy F.low u (key, F.keys.length - e) = F.lowWith e key := by
  have hk := h.lt hl
  have m1 := lowUp_max (e := e) (n := F.keys.length) hk h.low F.keys.length (Nat.le_refl _)
  refine MaxOf.uniq h.low (sLow_low hk (Nat.le_refl _)) ?_ m1
  obtain ⟨j, hj, rfl⟩ := pts_mem.1 hu
  have hkj := hk j hj
  unfold lowBy
  simp only [Nat.zero_add] at hb ⊢
  by_cases hp : (j : Int) + e < F.keys.length - e
  · rw [if_pos hp]
    have e1 : (F.keys.length : Int) - e - (j + e) = F.keys.length - j - 2 * e := by omega
    rw [e1]
    refine MaxOf.best h.low (sLow_low hk (Nat.le_refl _)) ⟨j, hj, by omega, rfl⟩ ?_
    rintro x ⟨i, hi, hpi, rfl⟩
    rw [lowest_lt (by omega) (by omega) (by omega) (by have := hk i hi; omega)]
    have := hb _ (pts_mem.2 ⟨i, hi, rfl⟩)
    simp only [steepV, Nat.zero_add] at this
    grind
  · rw [if_neg hp]
    refine ⟨.inl rfl, ltF_irrefl _, ?_⟩
    rintro x ⟨i, hi, hpi, rfl⟩
    exfalso
    have := hb _ (pts_mem.2 ⟨i, hi, rfl⟩)
    simp only [steepV, Nat.zero_add] at this
    have hki := hk i hi
    have k1 : 0 < ((F.keys.length : Int) - e - (i + e)) * (key - F.keys.getD j 0) := Int.mul_pos (by omega) (by omega)
    have k2 : 0 ≤ (-((F.keys.length : Int) - e - (j + e))) * (key - F.keys.getD i 0) := Int.mul_nonneg (by omega) (by omega)
    grind
theorem topBy_eq {F : Fit} (h : FitOk F) {e key : Int} (he : 0 ≤ e) (hl : F.late key = false) {u : Pt} (hu : u ∈ pts (-e) 0 F.keys) (hb : ∀ q ∈ pts (-e) 0 F.keys, -1 * steepV q u (key, F.keys.length + e) ≤ 0) :
    topBy F.top u (key, F.keys.length + e) = F.topWith e key := by
  have hk := h.lt hl
  have m1 := topUp_min (n := F.keys.length) he (fun i hi => by omega) hk h.top F.keys.length (Nat.le_refl _)
  refine MinOf.uniq h.top (sTop_low he (fun i hi => by omega) hk (Nat.le_refl _)) ?_ m1
  obtain ⟨j, hj, rfl⟩ := pts_mem.1 hu
  have hkj := hk j hj
  unfold topBy
  simp only [Nat.zero_add] at hb ⊢
  have e1 : (F.keys.length : Int) + e - (j + -e) = F.keys.length - j + 2 * e := by omega
  rw [e1]
  refine MinOf.best h.top (sTop_low he (fun i hi => by omega) hk (Nat.le_refl _)) ⟨j, hj, rfl⟩ ?_
  rintro x ⟨i, hi, rfl⟩
  rw [lowest_lt (by omega) (by have := hk i hi; omega) (by omega) (by omega)]
  have := hb _ (pts_mem.2 ⟨i, hi, rfl⟩)
  simp only [steepV, Nat.zero_add] at this
  grind
end Go.Proofs.Ytanhhgifcolfaaa
