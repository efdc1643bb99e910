/-
  Plain: what a right segment predicts does not fall; how far off it is between its keys.
-/
import Derived.Test.YtakegkdmpcakdaaQG16
namespace Go.Proofs.Ytakegkdmpcakdaa
set_option linter.unusedVariables false
set_option linter.unusedSimpArgs false

theorem sg_sum' {s t : Bool} {x : Int} {q : Nat} (h : Near x.natAbs 1 q) : (0 ≤ x → sv (wd (sumNeg s t x) (min q INF)) = (val (min q INF) : Int)) ∧ (x < 0 → sv (wd (sumNeg s t x) (min q INF)) = -(val (min q INF) : Int)) := by
  have hm : min q INF ≤ INF := Nat.min_le_right ..
  constructor
  · intro hx
    rw [sv_of hm]
    rcases Int.lt_or_eq_of_le hx with h0 | h0
    · unfold sumNeg
      rw [if_neg (by omega), decide_eq_false (by omega)]; rfl
    · have hq : q = 0 := near_unique h (by rw [← h0]; exact near_zero 1) (by decide) (by decide) rfl
      rw [hq, Nat.zero_min, val_zero]
      cases sumNeg s t x <;> rfl
  · intro hx
    rw [sv_of hm]
    unfold sumNeg
    rw [if_neg (by omega), decide_eq_true hx]; rfl
theorem min_le_min_inf {q q' : Nat} (h : q ≤ q') : min q INF ≤ min q' INF := by omega
theorem sum_mono' {s t s' t' : Bool} {x y : Int} {q q' : Nat} (h : Near x.natAbs 1 q) (h' : Near y.natAbs 1 q') (hxy : x ≤ y) : sv (wd (sumNeg s t x) (min q INF)) ≤ sv (wd (sumNeg s' t' y) (min q' INF)) := by
  have a := sg_sum' (s := s) (t := t) h
  have b := sg_sum' (s := s') (t := t') h'
  by_cases hx : 0 ≤ x
  · rw [a.1 hx, b.1 (by omega)]
    have := val_le (min_le_min_inf (near_mono h h' (by decide) (by decide) (by omega)))
    omega
  · rw [a.2 (by omega)]
    by_cases hy : 0 ≤ y
    · rw [b.1 hy]; omega
    · rw [b.2 (by omega)]
      have := val_le (min_le_min_inf (near_mono h' h (by decide) (by decide) (by omega)))
      omega

/-- What is reckoned does not fall. -/
theorem alongF_rises {s t : Nat} (hs : s ≤ 4895412794951729152) (ht : Fin64 t) {n n' : Nat} (hnn : n ≤ n') (hn : n' ≤ 18446744073709551616) {a b : Nat} (ha : alongF s n t = some a) (hb : alongF s n' t = some b) : sv a ≤ sv b := by
  obtain ⟨m, o, m1, m2, m3, m4⟩ := mul_near s n hs (by omega)
  obtain ⟨m', o', m1', m2', m3', m4'⟩ := mul_near s n' hs hn
  have hl := INF_lit
  have ho : o ≤ o' := near_mono m2 m2' (by decide) (by decide) (by rw [Nat.mul_one, Nat.mul_one]; exact Nat.mul_le_mul_right _ hnn)
  have hm : m ≤ m' := near_mono m3 m3' S_pos S_pos (Nat.mul_le_mul_right _ (Nat.mul_le_mul_left _ (val_le ho)))
  obtain ⟨q, a1, a2⟩ := add_fin (fin_small (r := m) (by omega)) ht
  obtain ⟨q', a1', a2'⟩ := add_fin (fin_small (r := m') (by omega)) ht
  unfold alongF at ha hb
  rw [m1] at ha
  rw [m1'] at hb
  have e1 : Ieee.double.add m t = some a := ha
  have e2 : Ieee.double.add m' t = some b := hb
  rw [a1] at e1
  rw [a1'] at e2
  rw [← Option.some.inj e1, ← Option.some.inj e2]
  refine sum_mono' a2 a2' ?_
  rw [sv_small (r := m) (by omega), sv_small (r := m') (by omega)]
  have := val_le hm
  omega
/-- A greater number comes to no less. -/
theorem clampI_le {a b : Nat} {lo hi : Int} (ha : Num64 a) (hb : Num64 b) (h : sv a ≤ sv b) : clampI a lo hi ≤ clampI b lo hi := by
  unfold Num64 at ha hb
  have hS := S_pos
  have hd : sv a / (S : Int) ≤ sv b / (S : Int) := Int.ediv_le_ediv (by omega) (by omega)
  unfold clampI
  by_cases c1 : hi < lo
  · rw [if_pos (.inl c1), if_pos (.inl c1)]; exact Int.le_refl _
  have na : ¬ INF < rg a := by omega
  have nb : ¬ INF < rg b := by omega
  by_cases c2 : sv a < -(9223372036854775808 * (S : Int))
  · rw [if_pos (.inr (.inr c2))]
    by_cases c3 : sv b < -(9223372036854775808 * (S : Int))
    · rw [if_pos (.inr (.inr c3))]; exact Int.le_refl _
    · have Nb : ¬ (hi < lo ∨ INF < rg b ∨ sv b < -(9223372036854775808 * (S : Int))) := by intro h; rcases h with h | h | h; exact c1 h; exact nb h; exact c3 h
      rw [if_neg Nb]
      split <;> omega
  · have c3 : ¬ sv b < -(9223372036854775808 * (S : Int)) := by omega
    have Na : ¬ (hi < lo ∨ INF < rg a ∨ sv a < -(9223372036854775808 * (S : Int))) := by intro h; rcases h with h | h | h; exact c1 h; exact na h; exact c2 h
    have Nb : ¬ (hi < lo ∨ INF < rg b ∨ sv b < -(9223372036854775808 * (S : Int))) := by intro h; rcases h with h | h | h; exact c1 h; exact nb h; exact c3 h
    rw [if_neg Na, if_neg Nb]
    by_cases c4 : 9223372036854775808 * (S : Int) ≤ sv a
    · have c5 : 9223372036854775808 * (S : Int) ≤ sv b := by omega
      rw [if_pos c4, if_pos c5]; exact Int.le_refl _
    · rw [if_neg c4]
      split <;> omega

theorem guess_mono {s : Sg} (h : Right s) (hf : u64ok s.first) {q q' : Int} (hq : u64ok q) (hq' : u64ok q') (hle : q ≤ q') : guess s q ≤ guess s q' := by
  obtain ⟨r, r1, r2, r3⟩ := gF_some h hq hf
  obtain ⟨r', r1', r2', r3'⟩ := gF_some h hq' hf
  unfold guess
  rw [if_pos (chk_right.2 h), if_pos (chk_right.2 h), r3, r3']
  refine clampI_le r2 r2' ?_
  have h4 := h.sl
  unfold u64ok at hq hq' hf
  obtain ⟨n, hn⟩ : ∃ n : Nat, max q s.first - s.first = (n : Int) := ⟨(max q s.first - s.first).toNat, by omega⟩
  obtain ⟨n', hn'⟩ : ∃ n' : Nat, max q' s.first - s.first = (n' : Int) := ⟨(max q' s.first - s.first).toNat, by omega⟩
  rw [hn] at r1
  rw [hn'] at r1'
  exact alongF_rises (by omega) h.ic (n := n) (n' := n') (by omega) (by omega) r1 r1'

/-- Of rising keys those below are the first. -/
theorem belowN_split {L : List Int} (hL : L.Pairwise (· < ·)) (q : Int) {n : Nat} (hn : n ≤ L.length) : (∀ i, i < belowN L q n → L.getD i 0 < q) ∧ (∀ i, belowN L q n ≤ i → i < n → q ≤ L.getD i 0) := by
  induction n with
  | zero => exact ⟨fun i h => by have := belowN_le L q 0; omega, fun i _ h => by omega⟩
  | succ n ih =>
    obtain ⟨h1, h2⟩ := ih (by omega)
    have hle := belowN_le L q n
    unfold belowN
    by_cases c : L.getD n 0 < q
    · rw [if_pos c]
      have hb : belowN L q n = n := by
        rcases Nat.lt_or_ge (belowN L q n) n with h | h
        · have h3 := h2 _ (Nat.le_refl _) h
          have h4 := getD_lt hL h (show n < L.length by omega)
          omega
        · omega
      rw [hb]
      refine ⟨fun i hi => ?_, fun i h3 h4 => by omega⟩
      rcases Nat.lt_or_ge i n with h | h
      · exact h1 i (by omega)
      · obtain rfl : i = n := by omega
        exact c
    · rw [if_neg c, Nat.add_zero]
      refine ⟨h1, fun i h3 h4 => ?_⟩
      rcases Nat.lt_or_ge i n with h | h
      · exact h2 i h3 h
      · obtain rfl : i = n := by omega
        omega

/-- Beside its keys it is off by one more at most. -/
theorem off_beside {s : Sg} (h : Right s) (hf : u64ok s.first) {L : List Int} (hU : U64s L) (hL : L.Pairwise (· < ·)) (hn : (L.length : Int) = s.up - s.fr) {W : Int} (hW0 : 0 ≤ W) (hW : worst s L L.length ≤ W) {q : Int} (hq : u64ok q) :
    guess s q - (s.fr + belowN L q L.length) ≤ W ∧ -(guess s q - (s.fr + belowN L q L.length)) ≤ W + 1 := by
  obtain ⟨h1, h2⟩ := belowN_split hL q (Nat.le_refl L.length)
  have hle := belowN_le L q L.length
  have hw := worst_of hW
  have gi := guess_in h q
  generalize belowN L q L.length = j at *
  constructor
  · rcases Nat.lt_or_ge j L.length with hj | hj
    · have a := guess_mono h hf hq (hU.getD hj) (h2 j (Nat.le_refl _) hj)
      have b := (hw j hj).1
      omega
    · omega
  · rcases Nat.eq_zero_or_pos j with hj | hj
    · omega
    · have a := guess_mono h hf (hU.getD (show j - 1 < L.length by omega)) hq (Int.le_of_lt (h1 (j - 1) (by omega)))
      have b := (hw (j - 1) (by omega)).2
      omega
/-- Of a key it is off by the worst at most, and its rank is its place. -/
theorem off_there {s : Sg} {L : List Int} (hL : L.Pairwise (· < ·)) {W : Int} (hW : worst s L L.length ≤ W) {i : Nat} (hi : i < L.length) :
    belowN L (L.getD i 0) L.length = i ∧ guess s (L.getD i 0) - (s.fr + i) ≤ W ∧ -(guess s (L.getD i 0) - (s.fr + i)) ≤ W := by
  obtain ⟨h1, h2⟩ := belowN_split hL (L.getD i 0) (Nat.le_refl L.length)
  have hle := belowN_le L (L.getD i 0) L.length
  refine ⟨?_, worst_of hW i hi⟩
  rcases Nat.lt_trichotomy (belowN L (L.getD i 0) L.length) i with h | h | h
  · have a := h2 _ (Nat.le_refl _) (by omega)
    have b := getD_lt hL h hi
    omega
  · exact h
  · have := h1 i h; omega
end Go.Proofs.Ytakegkdmpcakdaa
