/-
  Plain lists of entries by rising keys: where a key stands, what putting an entry does. No program.
-/
namespace Go.Proofs.Ytalhfjcopkmmlaa
set_option linter.unusedVariables false
set_option linter.unusedSimpArgs false

/-- An entry: its key, its value, whether it is a tombstone. -/
abbrev Ent := Int × Int × Bool

/-- How many entries stand ahead of a key's place. -/
def rk (k : Int) : List Ent → Nat
  | [] => 0
  | x :: r => if x.1 < k then rk k r + 1 else 0

theorem rk_le (k : Int) : ∀ es : List Ent, rk k es ≤ es.length
  | [] => Nat.le_refl _
  | x :: r => by unfold rk; split <;> simp; exact rk_le k r

theorem rk_below (k : Int) : ∀ (es : List Ent) (t : Nat) (h : t < es.length), t < rk k es → es[t].1 < k
  | [], t, h, _ => absurd h (by simp)
  | x :: r, t, h, ht => by
    unfold rk at ht
    split at ht
    case isTrue hx =>
      cases t with
      | zero => simpa using hx
      | succ t => simpa using rk_below k r t (by simpa using h) (by omega)
    case isFalse => omega

theorem rk_at (k : Int) : ∀ (es : List Ent) (h : rk k es < es.length), ¬ es[rk k es].1 < k
  | [], h => absurd h (by simp)
  | x :: r, h => by
    unfold rk at h ⊢
    split
    case isTrue hx =>
      rw [if_pos hx] at h
      simpa using rk_at k r (by simpa using h)
    case isFalse hx => simpa using hx

theorem rk_eq (k : Int) : ∀ (es : List Ent) (i : Nat), i ≤ es.length → (∀ t (h : t < es.length), t < i → es[t].1 < k) → (∀ h : i < es.length, ¬ es[i].1 < k) → i = rk k es
  | [], i, hi, _, _ => by simpa [rk] using hi
  | x :: r, 0, _, _, h => by
    have := h (by simp)
    unfold rk; rw [if_neg (by simpa using this)]
  | x :: r, i + 1, hi, hb, h => by
    have h0 := hb 0 (by simp) (by omega)
    unfold rk; rw [if_pos (by simpa using h0)]
    have := rk_eq k r i (by simpa using hi) (fun t ht hti => hb (t + 1) (by simpa using ht) (by omega)) (fun ht => h (by simpa using ht))
    omega

/-- Rising keys. -/
def Rises (es : List Ent) : Prop := es.Pairwise (fun a b => a.1 < b.1)

theorem Rises.lt {es : List Ent} (h : Rises es) {i j : Nat} (hij : i < j) (hj : j < es.length) : es[i].1 < es[j].1 :=
  List.pairwise_iff_getElem.1 h i j (by omega) hj hij

/-- Whether a key is there. -/
def there (k : Int) (es : List Ent) : Bool := match es[rk k es]? with
  | some x => x.1 == k
  | none => false

theorem there_of_lt {k : Int} {es : List Ent} (h : rk k es < es.length) : there k es = (es[rk k es].1 == k) := by
  unfold there; rw [List.getElem?_eq_getElem h]
theorem there_end {k : Int} {es : List Ent} (h : ¬ rk k es < es.length) : there k es = false := by
  unfold there; rw [List.getElem?_eq_none (by omega)]
theorem there_lt {k : Int} {es : List Ent} (h : there k es = true) : rk k es < es.length := by
  by_cases h' : rk k es < es.length
  · exact h'
  · rw [there_end h'] at h; cases h
theorem there_key {k : Int} {es : List Ent} (h : there k es = true) : (es[rk k es]'(there_lt h)).1 = k := by
  have := there_of_lt (there_lt h); rw [h] at this; simpa using this.symm

/-- A tombstone with a value. -/
def bad (e : Ent) : Bool := e.2.2 && e.2.1 != 0

/-- What putting an entry does to a list, and what it answers. -/
def putL (most : Nat) (es : List Ent) (e : Ent) : List Ent × Int :=
  if bad e then (es, 31)
  else if there e.1 es then (es.set (rk e.1 es) e, 0)
  else if es.length = most then (es, 140)
  else (es.take (rk e.1 es) ++ e :: es.drop (rk e.1 es), 0)

theorem putL_bad {most : Nat} {es : List Ent} {e : Ent} (h : bad e = true) : putL most es e = (es, 31) := by unfold putL; rw [if_pos h]
theorem putL_there {most : Nat} {es : List Ent} {e : Ent} (h : bad e = false) (h1 : there e.1 es = true) : putL most es e = (es.set (rk e.1 es) e, 0) := by
  unfold putL; rw [if_neg (by simp [h]), if_pos h1]
theorem putL_full {most : Nat} {es : List Ent} {e : Ent} (h : bad e = false) (h1 : there e.1 es = false) (h2 : es.length = most) : putL most es e = (es, 140) := by
  unfold putL; rw [if_neg (by simp [h]), if_neg (by simp [h1]), if_pos h2]
theorem putL_new {most : Nat} {es : List Ent} {e : Ent} (h : bad e = false) (h1 : there e.1 es = false) (h2 : es.length ≠ most) : putL most es e = (es.take (rk e.1 es) ++ e :: es.drop (rk e.1 es), 0) := by
  unfold putL; rw [if_neg (by simp [h]), if_neg (by simp [h1]), if_neg h2]

theorem key_eq_of_there {k : Int} {es : List Ent} (hr : Rises es) {t : Nat} (ht : t < es.length) (hk : es[t].1 = k) : t = rk k es := by
  refine rk_eq k es t (by omega) (fun s hs hst => ?_) (fun _ => by omega)
  have := hr.lt hst ht; omega

theorem there_iff {k : Int} {es : List Ent} (hr : Rises es) : there k es = true ↔ ∃ x ∈ es, x.1 = k := by
  constructor
  · intro h
    exact ⟨_, List.getElem_mem (there_lt h), there_key h⟩
  · rintro ⟨x, hx, hk⟩
    obtain ⟨t, ht, rfl⟩ := List.mem_iff_getElem.1 hx
    have e := key_eq_of_there hr ht hk
    rw [there_of_lt (by omega)]
    simp only [← e, hk, beq_self_eq_true]

theorem above {k : Int} {es : List Ent} (hr : Rises es) (h : there k es = false) : ∀ x ∈ es.drop (rk k es), k < x.1 := by
  intro x hx
  obtain ⟨t, ht, rfl⟩ := List.mem_iff_getElem.1 hx
  rw [List.length_drop] at ht
  rw [List.getElem_drop]
  have h1 := rk_at k es (by omega)
  have h2 : es[rk k es + t].1 ≠ k := fun e => by
    have : there k es = true := (there_iff hr).2 ⟨_, List.getElem_mem (by omega), e⟩
    rw [h] at this; cases this
  rcases Nat.eq_zero_or_pos t with rfl | ht0
  · simp only [Nat.add_zero] at h2 ⊢; omega
  · have := hr.lt (i := rk k es) (j := rk k es + t) (by omega) (by omega); omega
theorem under {k : Int} {es : List Ent} : ∀ x ∈ es.take (rk k es), x.1 < k := by
  intro x hx
  obtain ⟨t, ht, rfl⟩ := List.mem_iff_getElem.1 hx
  rw [List.length_take] at ht
  rw [List.getElem_take]
  exact rk_below k es t (by omega) (by omega)

theorem putL_rises {most : Nat} {es : List Ent} (e : Ent) (hr : Rises es) : Rises (putL most es e).1 := by
  unfold putL
  split
  · exact hr
  · split
    case isTrue h =>
      have hk := there_key h
      have hl := there_lt h
      refine List.pairwise_iff_getElem.2 fun i j hi hj hij => ?_
      simp only [List.length_set] at hi hj
      have := hr.lt hij hj
      simp only [List.getElem_set]
      split <;> split <;> rename_i a b <;> try omega
      · subst a; omega
      · subst b; omega
    case isFalse h =>
      split
      · exact hr
      · have h : there e.1 es = false := by simpa using h
        have hs : Rises (es.take (rk e.1 es) ++ es.drop (rk e.1 es)) := by rw [List.take_append_drop]; exact hr
        obtain ⟨h1, h2, h3⟩ := List.pairwise_append.1 hs
        refine List.pairwise_append.2 ⟨h1, List.pairwise_cons.2 ⟨above hr h, h2⟩, fun a ha b hb => ?_⟩
        rcases List.mem_cons.1 hb with rfl | hb
        · exact under a ha
        · exact h3 a ha b hb

/-- Behind a put that was taken the entry is there, and of the others those of other keys. -/
theorem mem_putL {most : Nat} {es : List Ent} {e : Ent} (hr : Rises es) (h0 : (putL most es e).2 = 0) (x : Ent) :
    x ∈ (putL most es e).1 ↔ x = e ∨ x ∈ es ∧ x.1 ≠ e.1 := by
  by_cases hb : bad e = true
  · rw [putL_bad hb] at h0; cases h0
  have hb : bad e = false := by simpa using hb
  by_cases ht : there e.1 es = true
  · rw [putL_there hb ht]
    have hl := there_lt ht
    have hk := there_key ht
    constructor
    · intro hx
      obtain ⟨t, htl, rfl⟩ := List.mem_iff_getElem.1 hx
      simp only [List.length_set] at htl
      simp only [List.getElem_set]
      split
      · exact .inl rfl
      · rename_i hne
        exact .inr ⟨List.getElem_mem _, fun hk' => hne (key_eq_of_there hr htl hk').symm⟩
    · rintro (rfl | ⟨hx, hne⟩)
      · exact List.mem_iff_getElem.2 ⟨rk x.1 es, by simpa using hl, by simp⟩
      · obtain ⟨t, htl, rfl⟩ := List.mem_iff_getElem.1 hx
        refine List.mem_iff_getElem.2 ⟨t, by simpa using htl, ?_⟩
        simp only [List.getElem_set]
        rw [if_neg]
        intro e'
        apply hne
        simp only [← e']; exact hk
  have ht : there e.1 es = false := by simpa using ht
  by_cases hf : es.length = most
  · rw [putL_full hb ht hf] at h0; cases h0
  rw [putL_new hb ht hf]
  have hsplit : ∀ y, y ∈ es ↔ y ∈ es.take (rk e.1 es) ∨ y ∈ es.drop (rk e.1 es) := fun y => by
    rw [← List.mem_append, List.take_append_drop]
  simp only [List.mem_append, List.mem_cons]
  constructor
  · rintro (h | h | h)
    · exact .inr ⟨(hsplit x).2 (.inl h), by have := under x h; omega⟩
    · exact .inl h
    · exact .inr ⟨(hsplit x).2 (.inr h), by have := above hr ht x h; omega⟩
  · rintro (h | ⟨h, _⟩)
    · exact .inr (.inl h)
    · rcases (hsplit x).1 h with h | h
      · exact .inl h
      · exact .inr (.inr h)

theorem length_putL {most : Nat} {es : List Ent} {e : Ent} (hm : es.length ≤ most) :
    (putL most es e).1.length ≤ most ∧ es.length ≤ (putL most es e).1.length ∧ (putL most es e).1.length ≤ es.length + 1 := by
  unfold putL
  split
  · simp [hm]
  · split
    · simp [hm]
    · split
      · simp [hm]
      · rename_i h; have := rk_le e.1 es
        simp only [List.length_append, List.length_cons, List.length_take, List.length_drop]; omega

/-- Two lists of rising keys with the same entries are the same. -/
theorem rises_ext : ∀ {a b : List Ent}, Rises a → Rises b → (∀ x, x ∈ a ↔ x ∈ b) → a = b
  | [], [], _, _, _ => rfl
  | [], y :: b, _, _, h => absurd ((h y).2 (by simp)) (by simp)
  | x :: a, [], _, _, h => absurd ((h x).1 (by simp)) (by simp)
  | x :: a, y :: b, ha, hb, h => by
    obtain ⟨ha1, ha2⟩ := List.pairwise_cons.1 ha
    obtain ⟨hb1, hb2⟩ := List.pairwise_cons.1 hb
    have hxy : x = y := by
      rcases List.mem_cons.1 ((h x).1 (by simp)) with e | hx
      · exact e
      · rcases List.mem_cons.1 ((h y).2 (by simp)) with e | hy
        · exact e.symm
        · have h1 := hb1 x hx; have h2 := ha1 y hy; omega
    subst hxy
    rw [rises_ext ha2 hb2]
    intro z
    constructor
    · intro hz
      rcases List.mem_cons.1 ((h z).1 (List.mem_cons_of_mem _ hz)) with e | hz'
      · subst e; have := ha1 z hz; omega
      · exact hz'
    · intro hz
      rcases List.mem_cons.1 ((h z).2 (List.mem_cons_of_mem _ hz)) with e | hz'
      · subst e; have := hb1 z hz; omega
      · exact hz'

/-- What getting a key answers. -/
def getL (es : List Ent) (k : Int) : Ent × Bool := if there k es then ((es[rk k es]?).getD (0, 0, false), true) else ((0, 0, false), false)

end Go.Proofs.Ytalhfjcopkmmlaa
