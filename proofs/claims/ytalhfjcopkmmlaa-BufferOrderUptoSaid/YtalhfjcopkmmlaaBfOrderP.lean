/-
  The plain law behind BufferOrder: entries of unlike keys, in whatever order.
-/
import Derived.Test.YtalhfjcopkmmlaaBfLastP
namespace Go.Proofs.Ytalhfjcopkmmlaa
set_option linter.unusedVariables false
set_option linter.unusedSimpArgs false

/-- Entries of unlike keys, all of which may be. -/
structure Unlike (l : List Ent) : Prop where
  keys : l.Pairwise (fun a b => a.1 ≠ b.1)
  good : ∀ x ∈ l, bad x = false
theorem Unlike.nil : Unlike [] := ⟨List.Pairwise.nil, fun x h => absurd h (by simp)⟩
/-- Whether a key is among these. -/
def anyKey (k : Int) (l : List Ent) : Bool := l.any (fun x => x.1 == k)
theorem anyKey_take (k : Int) (l : List Ent) {i : Nat} (h : i < l.length) : anyKey k (l.take (i + 1)) = (anyKey k (l.take i) || l[i].1 == k) := by
  unfold anyKey; rw [List.take_succ_eq_append_getElem h, List.any_append]; simp
theorem Unlike.snoc {l : List Ent} (h : Unlike l) {e : Ent} (hb : bad e = false) (hk : anyKey e.1 l = false) : Unlike (l ++ [e]) := by
  refine ⟨List.pairwise_append.2 ⟨h.keys, by simp, fun a ha b hb' => ?_⟩, fun x hx => ?_⟩
  · obtain rfl : b = e := by simpa using hb'
    intro he
    have : anyKey b.1 l = true := List.any_eq_true.2 ⟨a, ha, by simp [he]⟩
    rw [hk] at this; cases this
  · rcases List.mem_append.1 hx with hx | hx
    · exact h.good x hx
    · obtain rfl : x = e := by simpa using hx
      exact hb
theorem Unlike.perm {a b : List Ent} (h : Unlike a) (p : b.Perm a) : Unlike b :=
  ⟨(List.Perm.pairwise_iff (fun hxy => Ne.symm hxy) p).2 h.keys, fun x hx => h.good x (p.mem_iff.1 hx)⟩
theorem Unlike.take {l : List Ent} (h : Unlike l) (i : Nat) : Unlike (l.take i) := ⟨h.keys.sublist (List.take_sublist _ _), fun x hx => h.good x (List.mem_of_mem_take hx)⟩

theorem lastOf_none {k : Int} : ∀ {l : List Ent}, (∀ x ∈ l, x.1 ≠ k) → lastOf k l = none := by
  intro l
  have : ∀ (l : List Ent) (acc : Option Ent), (∀ x ∈ l, x.1 ≠ k) → l.foldl (lastStep k) acc = acc := by
    intro l
    induction l with
    | nil => intro acc _; rfl
    | cons e l ih =>
      intro acc h
      rw [List.foldl_cons, lastStep, if_neg (fun hh => h e (by simp) hh.1)]
      exact ih acc (fun x hx => h x (List.mem_cons_of_mem _ hx))
  exact this l none
/-- Among unlike keys the last of a key is the one that there is. -/
theorem Unlike.last {l : List Ent} (h : Unlike l) (x : Ent) : lastOf x.1 l = some x ↔ x ∈ l := by
  have : ∀ (i : Nat), i ≤ l.length → (lastOf x.1 (l.take i) = some x ↔ x ∈ l.take i) := by
    intro i
    induction i with
    | zero => intro _; simp [lastOf_nil]
    | succ i ih =>
      intro hi
      rw [lastOf_take x.1 l hi, lastStep, List.take_succ_eq_append_getElem hi, List.mem_append]
      have hg := h.good l[i] (List.getElem_mem _)
      by_cases hk : l[i].1 = x.1
      · rw [if_pos ⟨hk, hg⟩]
        constructor
        · intro he; exact .inr (by simp [Option.some.inj he])
        · rintro (hx | hx)
          · obtain ⟨t, ht, rfl⟩ := List.mem_iff_getElem.1 hx
            rw [List.length_take] at ht
            rw [List.getElem_take] at hk
            exact absurd hk.symm (List.pairwise_iff_getElem.1 h.keys t i (by omega) hi (by omega))
          · rw [show x = l[i] by simpa using hx]
      · rw [if_neg (fun hh => hk hh.1), ih (by omega)]
        constructor
        · intro hx; exact .inl hx
        · rintro (hx | hx)
          · exact hx
          · exact absurd (by rw [show x = l[i] by simpa using hx]) hk
  have h' := this l.length (Nat.le_refl _)
  rwa [List.take_of_length_le (Nat.le_refl _)] at h'
theorem Unlike.new {l : List Ent} (h : Unlike l) {i : Nat} (hi : i < l.length) : lastOf l[i].1 (l.take i) = none := by
  refine lastOf_none fun x hx => ?_
  obtain ⟨t, ht, rfl⟩ := List.mem_iff_getElem.1 hx
  rw [List.length_take] at ht
  rw [List.getElem_take]
  exact List.pairwise_iff_getElem.1 h.keys t i (by omega) hi (by omega)
theorem Unlike.newer {l : List Ent} (h : Unlike l) {i j : Nat} (hj : j ≤ i) (hi : i < l.length) : lastOf l[i].1 (l.take j) = none := by
  refine lastOf_none fun x hx => ?_
  obtain ⟨t, ht, rfl⟩ := List.mem_iff_getElem.1 hx
  rw [List.length_take] at ht
  rw [List.getElem_take]
  exact List.pairwise_iff_getElem.1 h.keys t i (by omega) hi (by omega)

/-- Behind so many puts, as long as there is room. -/
theorem Unlike.fill {most : Nat} {l : List Ent} (h : Unlike l) : ∀ i, i ≤ l.length → i ≤ most → LInv (bufOf most (l.take i)) (l.take i) ∧ (bufOf most (l.take i)).length = i
  | 0, _, _ => by simpa [bufOf] using LInv.nil
  | i + 1, hi, hm => by
    obtain ⟨li, hl⟩ := Unlike.fill (most := most) h i (by omega) (by omega)
    have hb := h.good l[i] (List.getElem_mem _)
    have ht : there l[i].1 (bufOf most (l.take i)) = false := by rw [li.there, h.new hi]; rfl
    rw [bufOf_take most l hi, List.take_succ_eq_append_getElem hi]
    refine ⟨li.step (by rw [List.length_take]; omega) _, ?_⟩
    rw [putL_new hb ht (by omega)]
    have := rk_le l[i].1 (bufOf most (l.take i))
    simp only [List.length_append, List.length_cons, List.length_take, List.length_drop]; omega
theorem Unlike.code {most : Nat} {l : List Ent} (h : Unlike l) {i : Nat} (hi : i < l.length) (hm : i < most) : (putL most (bufOf most (l.take i)) l[i]).2 = 0 := by
  obtain ⟨li, hl⟩ := h.fill (most := most) i (by omega) (by omega)
  rw [putL_code (most := most) (es := bufOf most (l.take i)) (by omega), h.good l[i] (List.getElem_mem _)]; rfl
theorem Unlike.stay {most : Nat} {l : List Ent} (h : Unlike l) : ∀ i, i ≤ l.length → most ≤ i → bufOf most (l.take i) = bufOf most (l.take most)
  | 0, _, hm => by rw [show most = 0 from by omega]
  | i + 1, hi, hm => by
    by_cases he : most = i + 1
    · rw [he]
    · have ih := Unlike.stay (most := most) h i (by omega) (by omega)
      obtain ⟨li, hl⟩ := h.fill (most := most) most (by omega) (Nat.le_refl _)
      have ht : there l[i].1 (bufOf most (l.take most)) = false := by rw [li.there, h.newer (show most ≤ i by omega) hi]; rfl
      rw [bufOf_take most l hi, ih, putL_full (h.good l[i] (List.getElem_mem _)) ht hl]
theorem Unlike.refuse {most : Nat} {l : List Ent} (h : Unlike l) {i : Nat} (hi : i < l.length) (hm : most ≤ i) : (putL most (bufOf most (l.take i)) l[i]).2 = 140 := by
  obtain ⟨li, hl⟩ := h.fill (most := most) most (by omega) (Nat.le_refl _)
  have ht : there l[i].1 (bufOf most (l.take most)) = false := by rw [li.there, h.newer hm hi]; rfl
  rw [h.stay (most := most) i (by omega) hm, putL_full (h.good l[i] (List.getElem_mem _)) ht hl]
theorem Unlike.rises {most : Nat} {l : List Ent} (h : Unlike l) {i : Nat} (hi : i ≤ l.length) : Rises (bufOf most (l.take i)) ∧ (bufOf most (l.take i)).length ≤ most ∧ (bufOf most (l.take i)).length ≤ i := by
  by_cases hm : i ≤ most
  · obtain ⟨li, hl⟩ := h.fill (most := most) i hi hm; exact ⟨li.up, by omega, by omega⟩
  · obtain ⟨li, hl⟩ := h.fill (most := most) most (by omega) (Nat.le_refl _)
    rw [h.stay i hi (by omega)]; exact ⟨li.up, by omega, by omega⟩
theorem Unlike.same {most : Nat} {a b : List Ent} (h : Unlike a) (p : b.Perm a) (hm : a.length ≤ most) : bufOf most a = bufOf most b := by
  obtain ⟨la, _⟩ := h.fill (most := most) a.length (Nat.le_refl _) hm
  obtain ⟨lb, _⟩ := (h.perm p).fill (most := most) b.length (Nat.le_refl _) (by rw [p.length_eq]; exact hm)
  rw [List.take_of_length_le (Nat.le_refl _)] at la lb
  exact rises_ext la.up lb.up fun x => by rw [la.mem, lb.mem, h.last, (h.perm p).last, p.mem_iff]
end Go.Proofs.Ytalhfjcopkmmlaa
