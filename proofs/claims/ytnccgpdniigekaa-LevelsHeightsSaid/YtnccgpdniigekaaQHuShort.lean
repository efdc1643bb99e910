/-
  Plain: a chain over keys of 64 bits is short: no more than 2^42 points, however many keys there are.
-/
import Derived.Test.YtnccgpdniigekaaQG0
namespace Go.Proofs.Ytnccgpdniigekaa
set_option linter.unusedVariables false
set_option linter.unusedSimpArgs false

def smI : List Int → Int
  | [] => 0
  | a :: r => a + smI r
theorem smI_append : ∀ (a b : List Int), smI (a ++ b) = smI a + smI b
  | [], b => by simp [smI]
  | x :: a, b => by simp only [List.cons_append, smI, smI_append a b]; omega
theorem smI_reverse : ∀ (a : List Int), smI a.reverse = smI a
  | [] => rfl
  | x :: a => by simp only [List.reverse_cons, smI_append, smI, smI_reverse a]; omega
/-- Rising numbers have a great sum. -/
theorem smI_up : ∀ (L : List Int) (m : Int), L.Pairwise (· < ·) → (∀ a ∈ L, m ≤ a) → (L.length : Int) * (2 * m + L.length - 1) ≤ 2 * smI L
  | [], m, _, _ => by simp [smI]
  | a :: r, m, hp, hm => by
    rw [List.pairwise_cons] at hp
    have ih := smI_up r (a + 1) hp.2 (fun x hx => by have := hp.1 x hx; omega)
    have ha := hm a (by simp)
    simp only [smI, List.length_cons]
    generalize smI r = S at *
    have e : ((r.length : Nat) : Int) = r.length := rfl
    generalize hk : (r.length : Int) = k at *
    have hk0 : 0 ≤ k := by omega
    have h1 : (k + 1) * (2 * m + (k + 1) - 1) ≤ (k + 1) * (2 * a + (k + 1) - 1) := Int.mul_le_mul_of_nonneg_left (by omega) (by omega)
    have h2 : (k + 1) * (2 * a + (k + 1) - 1) = 2 * a + k * (2 * (a + 1) + k - 1) := by grind
    have h3 : ((r.length + 1 : Nat) : Int) = k + 1 := by omega
    rw [h3]
    omega
theorem up_few {L : List Int} (hp : L.Pairwise (· < ·)) (h1 : ∀ a ∈ L, 1 ≤ a) (hs : smI L ≤ 18446744073709551616) : L.length ≤ 8589934592 := by
  have h := smI_up L 1 hp h1
  rcases Nat.lt_or_ge 8589934592 L.length with hl | hl
  · exfalso
    generalize L.length = k at *
    have h2 : (8589934592 : Int) * 8589934592 ≤ (k : Int) * (2 * 1 + k - 1) := Int.mul_le_mul (by omega) (by omega) (by omega) (by omega)
    omega
  · exact hl
theorem down_few {L : List Int} (hp : L.Pairwise (fun a b => b < a)) (h1 : ∀ a ∈ L, 1 ≤ a) (hs : smI L ≤ 18446744073709551616) : L.length ≤ 8589934592 := by
  have := up_few (L := L.reverse) (List.pairwise_reverse.2 hp) (fun a ha => h1 a (List.mem_reverse.1 ha)) (by rw [smI_reverse]; exact hs)
  simpa using this

/-- From each point of a chain to the next newer one. -/
def stepsR : List Pt → List (Int × Int)
  | q :: a :: r => (q.1 - a.1, q.2 - a.2) :: stepsR (a :: r)
  | _ => []
theorem stepsR_length : ∀ c : List Pt, (stepsR c).length = c.length - 1
  | [] => rfl
  | [_] => rfl
  | q :: a :: r => by simp only [stepsR, List.length_cons, stepsR_length (a :: r)]; omega
theorem stepsR_sum : ∀ (c : List Pt) (t l : Pt), c.head? = some t → c.getLast? = some l → smI ((stepsR c).map (·.1)) = t.1 - l.1 ∧ smI ((stepsR c).map (·.2)) = t.2 - l.2
  | [], t, l, h, _ => by simp at h
  | [q], t, l, h, k => by simp at h k; subst h; subst k; simp [stepsR, smI]
  | q :: a :: r, t, l, h, k => by
    simp at h; subst h
    have := stepsR_sum (a :: r) a l rfl (by simpa [List.getLast?_cons_cons] using k)
    simp only [stepsR, List.map_cons, smI, this.1, this.2]; omega
/-- Steps whose slopes go one way. -/
def Sl (b : Int) (u v : Int × Int) : Prop := b * (v.2 * u.1 - u.2 * v.1) < 0
theorem Sl.trans {b : Int} (hb : b = 1 ∨ b = -1) {u v w : Int × Int} (hu : 1 ≤ u.1) (hv : 1 ≤ v.1) (hw : 1 ≤ w.1) (h : Sl b u v) (k : Sl b v w) : Sl b u w := by
  obtain ⟨u1, u2⟩ := u; obtain ⟨v1, v2⟩ := v; obtain ⟨w1, w2⟩ := w
  unfold Sl at *
  simp only [] at *
  have key : v1 * (w2 * u1 - u2 * w1) = u1 * (w2 * v1 - v2 * w1) + w1 * (v2 * u1 - u2 * v1) := by grind
  rcases hb with rfl | rfl
  · have a1 : u1 * (w2 * v1 - v2 * w1) < 0 := Int.mul_neg_of_pos_of_neg (by omega) (by omega)
    have a2 : w1 * (v2 * u1 - u2 * v1) < 0 := Int.mul_neg_of_pos_of_neg (by omega) (by omega)
    have a3 : v1 * (w2 * u1 - u2 * w1) < 0 := by omega
    have : w2 * u1 - u2 * w1 < 0 := by
      rcases Int.lt_or_le (w2 * u1 - u2 * w1) 0 with h | h
      · exact h
      · have := Int.mul_nonneg (show 0 ≤ v1 by omega) h; omega
    omega
  · have a1 : 0 < u1 * (w2 * v1 - v2 * w1) := Int.mul_pos (by omega) (by omega)
    have a2 : 0 < w1 * (v2 * u1 - u2 * v1) := Int.mul_pos (by omega) (by omega)
    have a3 : 0 < v1 * (w2 * u1 - u2 * w1) := by omega
    have : 0 < w2 * u1 - u2 * w1 := by
      rcases Int.lt_or_le 0 (w2 * u1 - u2 * w1) with h | h
      · exact h
      · have := Int.mul_nonneg (show 0 ≤ v1 by omega) (show 0 ≤ -(w2 * u1 - u2 * w1) by omega)
        rw [Int.mul_neg] at this; omega
    omega
theorem stepsR_sl {b : Int} (hb : b = 1 ∨ b = -1) : ∀ (c : List Pt), BentR b c → (∀ s ∈ stepsR c, 1 ≤ s.1) → (stepsR c).Pairwise (Sl b)
  | [], _, _ => List.Pairwise.nil
  | [_], _, _ => List.Pairwise.nil
  | [q, a], _, _ => by simp [stepsR]
  | q :: a :: d :: r, h, h1 => by
    have hh : (stepsR (a :: d :: r)).Pairwise (Sl b) := stepsR_sl hb (a :: d :: r) h.2 (fun s hs => h1 s (by simp only [stepsR] at hs ⊢; exact List.mem_cons_of_mem _ hs))
    rw [stepsR, List.pairwise_cons]
    refine ⟨?_, hh⟩
    have h0 : Sl b (q.1 - a.1, q.2 - a.2) (a.1 - d.1, a.2 - d.2) := by
      have := h.1
      unfold turnV at this
      unfold Sl
      simp only []
      have e : (a.2 - d.2) * (q.1 - a.1) - (q.2 - a.2) * (a.1 - d.1) = (a.2 - d.2) * (q.1 - d.1) - (q.2 - d.2) * (a.1 - d.1) := by grind
      rw [e]; exact this
    rw [stepsR] at hh ⊢
    rw [List.pairwise_cons] at hh
    intro s hs
    rcases List.mem_cons.1 hs with rfl | hs
    · exact h0
    · have m1 := h1 (q.1 - a.1, q.2 - a.2) (by simp [stepsR])
      have m2 := h1 (a.1 - d.1, a.2 - d.2) (by simp [stepsR])
      have m3 := h1 s (by simp only [stepsR]; exact List.mem_cons_of_mem _ (List.mem_cons_of_mem _ hs))
      exact h0.trans hb m1 m2 m3 (hh.1 s hs)

theorem filter_sum (p : Int × Int → Bool) : ∀ L : List (Int × Int), (∀ s ∈ L, 1 ≤ s.1) → smI ((L.filter p).map (·.1)) ≤ smI (L.map (·.1))
  | [], _ => by simp
  | a :: r, h => by
    have ih := filter_sum p r (fun s hs => h s (List.mem_cons_of_mem _ hs))
    have := h a (by simp)
    rw [List.filter_cons]
    split <;> simp only [List.map_cons, smI] <;> omega
theorem filter_step (Y : Nat) : ∀ L : List (Int × Int), (L.filter (fun s => decide (s.2 ≤ ((Y + 1 : Nat) : Int)))).length ≤ (L.filter (fun s => decide (s.2 ≤ (Y : Int)))).length + (L.filter (fun s => decide (s.2 = ((Y + 1 : Nat) : Int)))).length
  | [] => by simp
  | a :: r => by
    have ih := filter_step Y r
    rw [List.filter_cons, List.filter_cons, List.filter_cons]
    by_cases h1 : a.2 ≤ (Y : Int)
    · rw [if_pos (by simp; omega), if_pos (by simpa using h1)]
      split <;> simp only [List.length_cons] <;> omega
    · by_cases h2 : a.2 = ((Y + 1 : Nat) : Int)
      · rw [if_pos (by simp [h2]), if_neg (by simpa using h1), if_pos (by simp [h2])]; simp only [List.length_cons]; omega
      · rw [if_neg (by simp; omega), if_neg (by simpa using h1), if_neg (by simpa using h2)]; exact ih
theorem filter_split (Y : Nat) : ∀ L : List (Int × Int), L.length = (L.filter (fun s => decide (s.2 ≤ (Y : Int)))).length + (L.filter (fun s => decide ((Y : Int) < s.2))).length
  | [] => by simp
  | a :: r => by
    have ih := filter_split Y r
    rw [List.filter_cons, List.filter_cons]
    by_cases h1 : a.2 ≤ (Y : Int)
    · rw [if_pos (by simpa using h1), if_neg (by simp; omega)]; simp only [List.length_cons]; omega
    · rw [if_neg (by simpa using h1), if_pos (by simp; omega)]; simp only [List.length_cons]; omega
theorem filter_big (Y : Nat) : ∀ L : List (Int × Int), (∀ s ∈ L, 1 ≤ s.2) → ((L.filter (fun s => decide ((Y : Int) < s.2))).length : Int) * Y ≤ smI (L.map (·.2))
  | [], _ => by simp [smI]
  | a :: r, h => by
    have ih := filter_big Y r (fun s hs => h s (List.mem_cons_of_mem _ hs))
    have := h a (by simp)
    rw [List.filter_cons]
    by_cases h1 : (Y : Int) < a.2
    · rw [if_pos (by simpa using h1)]; simp only [List.length_cons, List.map_cons, smI]
      have e : (((r.filter (fun s => decide ((Y : Int) < s.2))).length + 1 : Nat) : Int) * Y = ((r.filter (fun s => decide ((Y : Int) < s.2))).length : Int) * Y + Y := by rw [Int.natCast_add, Int.add_mul]; omega
      omega
    · rw [if_neg (by simpa using h1)]; simp only [List.map_cons, smI]; omega
theorem same_few {b : Int} (hb : b = 1 ∨ b = -1) {L : List (Int × Int)} (hp : L.Pairwise (Sl b)) (h1 : ∀ s ∈ L, 1 ≤ s.1) (h2 : ∀ s ∈ L, 1 ≤ s.2) (hs : smI (L.map (·.1)) ≤ 18446744073709551616) (y : Int) :
    (L.filter (fun s => decide (s.2 = y))).length ≤ 8589934592 := by
  have hf := hp.sublist (List.filter_sublist (p := fun s => decide (s.2 = y)))
  have hsum := filter_sum (fun s => decide (s.2 = y)) L h1
  have hm : ∀ s ∈ L.filter (fun s => decide (s.2 = y)), s.2 = y ∧ 1 ≤ s.1 ∧ 1 ≤ s.2 := by
    intro s hs
    rw [List.mem_filter] at hs
    exact ⟨by simpa using hs.2, h1 s hs.1, h2 s hs.1⟩
  generalize L.filter (fun s => decide (s.2 = y)) = M at *
  have hlen : M.length = (M.map (·.1)).length := by simp
  rw [hlen]
  have h1' : ∀ a ∈ M.map (·.1), (1 : Int) ≤ a := by
    intro a ha
    obtain ⟨s, hs, rfl⟩ := List.mem_map.1 ha
    exact (hm s hs).2.1
  rcases hb with rfl | rfl
  · refine up_few ?_ h1' (by omega)
    rw [List.pairwise_map]
    refine hf.imp_of_mem ?_
    intro u v hu hv h
    have a := hm u hu; have b := hm v hv
    unfold Sl at h
    rw [a.1, b.1, ← Int.mul_sub, Int.one_mul] at h
    have hy : 0 < y := by omega
    rcases Int.lt_or_le u.1 v.1 with k | k
    · exact k
    · have := Int.mul_nonneg (Int.le_of_lt hy) (show 0 ≤ u.1 - v.1 by omega); omega
  · refine down_few ?_ h1' (by omega)
    rw [List.pairwise_map]
    refine hf.imp_of_mem ?_
    intro u v hu hv h
    have a := hm u hu; have b := hm v hv
    unfold Sl at h
    rw [a.1, b.1, ← Int.mul_sub] at h
    have hy : 0 < y := by omega
    rcases Int.lt_or_le v.1 u.1 with k | k
    · exact k
    · have := Int.mul_nonneg (Int.le_of_lt hy) (show 0 ≤ v.1 - u.1 by omega)
      have e : y * (v.1 - u.1) = -1 * (y * (u.1 - v.1)) := by grind
      omega
theorem all_few {b : Int} (hb : b = 1 ∨ b = -1) {L : List (Int × Int)} (hp : L.Pairwise (Sl b)) (h1 : ∀ s ∈ L, 1 ≤ s.1) (h2 : ∀ s ∈ L, 1 ≤ s.2) (hs : smI (L.map (·.1)) ≤ 18446744073709551616) :
    ∀ Y : Nat, (L.filter (fun s => decide (s.2 ≤ (Y : Int)))).length ≤ Y * 8589934592
  | 0 => by
    have : L.filter (fun s => decide (s.2 ≤ ((0 : Nat) : Int))) = [] := by
      rw [List.filter_eq_nil_iff]
      intro s hs'
      have := h2 s hs'
      simp; omega
    rw [this]; simp
  | Y + 1 => by
    have ih := all_few hb hp h1 h2 hs Y
    have := filter_step Y L
    have := same_few hb hp h1 h2 hs ((Y + 1 : Nat) : Int)
    omega
/-- A chain over keys of 64 bits, however many of them there are. -/
theorem Chain.short {b d : Int} (hb : b = 1 ∨ b = -1) {K : List Int} {c : List Pt} (h : Chain b (pts d 0 K) c) (hk : ∀ k ∈ K, 0 ≤ k ∧ k ≤ 18446744073709551615) (hup : K.Pairwise (· < ·)) (hn : K.length ≤ 17592186044416) : c.length ≤ 4398046511104 := by
  cases hc : c with
  | nil => simp
  | cons t r =>
    rw [← hc]
    obtain ⟨l, hl⟩ : ∃ l, c.getLast? = some l := ⟨_, List.getLast?_eq_some_getLast (by rw [hc]; simp)⟩
    have hpt : ∀ u ∈ c, ∃ j : Nat, j < K.length ∧ u = (K.getD j 0, (j : Int) + d) := by
      intro u hu
      obtain ⟨j, hj, e⟩ := pts_mem.1 (h.sub u hu)
      exact ⟨j, hj, by rw [e]; simp⟩
    have hK : ∀ j : Nat, j < K.length → 0 ≤ K.getD j 0 ∧ K.getD j 0 ≤ 18446744073709551615 := by
      intro j hj
      rw [List.getD_eq_getElem?_getD, List.getElem?_eq_getElem hj, Option.getD_some]; exact hk _ (List.getElem_mem hj)
    have hst : ∀ (c : List Pt), c.Pairwise (fun u v => v.1 < u.1) → (∀ u ∈ c, ∃ j : Nat, j < K.length ∧ u = (K.getD j 0, (j : Int) + d)) → ∀ s ∈ stepsR c, 1 ≤ s.1 ∧ 1 ≤ s.2 := by
      intro c
      induction c with
      | nil => intro _ _ s hs; simp [stepsR] at hs
      | cons q c ih =>
        cases c with
        | nil => intro _ _ s hs; simp [stepsR] at hs
        | cons a c =>
          intro hx hp s hs
          rw [List.pairwise_cons] at hx
          rw [stepsR] at hs
          rcases List.mem_cons.1 hs with rfl | hs
          · obtain ⟨i, hi, e1⟩ := hp q (by simp)
            obtain ⟨j, hj, e2⟩ := hp a (by simp)
            have hlt := hx.1 a (by simp)
            rw [e1, e2] at hlt ⊢
            simp only [] at hlt ⊢
            have hij : j < i := by
              rcases Nat.lt_or_ge j i with k | k
              · exact k
              · exfalso
                rcases Nat.lt_or_ge i j with m | m
                · have := List.pairwise_iff_getElem.1 hup i j hi hj m
                  simp only [List.getD_eq_getElem?_getD, List.getElem?_eq_getElem hi, List.getElem?_eq_getElem hj, Option.getD_some] at hlt
                  omega
                · obtain rfl : i = j := by omega
                  omega
            omega
          · exact ih hx.2 (fun u hu => hp u (List.mem_cons_of_mem _ hu)) s hs
    have h12 := hst c h.xs hpt
    obtain ⟨s1, s2⟩ := stepsR_sum c t l (by rw [hc]; rfl) hl
    obtain ⟨i, hi, et⟩ := hpt t (by rw [hc]; simp)
    obtain ⟨j, hj, el⟩ := hpt l (List.mem_of_getLast? hl)
    have k1 := hK i hi
    have k2 := hK j hj
    rw [et, el] at s1 s2
    simp only [] at s1 s2
    have hp := stepsR_sl hb c h.bent (fun s hs => (h12 s hs).1)
    have f1 := all_few hb hp (fun s hs => (h12 s hs).1) (fun s hs => (h12 s hs).2) (by omega) 256
    have f2 := filter_big 256 (stepsR c) (fun s hs => (h12 s hs).2)
    have f3 := filter_split 256 (stepsR c)
    have f4 := stepsR_length c
    generalize ((stepsR c).filter (fun s => decide (s.2 ≤ ((256 : Nat) : Int)))).length = A at *
    generalize ((stepsR c).filter (fun s => decide (((256 : Nat) : Int) < s.2))).length = B at *
    omega
end Go.Proofs.Ytnccgpdniigekaa
