/-
  The plain law behind BufferLast: of each key the last entry that may be is there.
-/
import Derived.Test.YtalhfjcopkmmlaaBfPlain
namespace Go.Proofs.Ytalhfjcopkmmlaa
set_option linter.unusedVariables false
set_option linter.unusedSimpArgs false

/-- Of a key the last entry that may be, so far as one looks. -/
def lastStep (k : Int) (acc : Option Ent) (e : Ent) : Option Ent := if e.1 = k ∧ bad e = false then some e else acc
def lastOf (k : Int) (l : List Ent) : Option Ent := l.foldl (lastStep k) none
theorem lastOf_snoc (k : Int) (l : List Ent) (e : Ent) : lastOf k (l ++ [e]) = lastStep k (lastOf k l) e := by simp [lastOf, List.foldl_append]
theorem lastOf_take (k : Int) (l : List Ent) {i : Nat} (h : i < l.length) : lastOf k (l.take (i + 1)) = lastStep k (lastOf k (l.take i)) l[i] := by
  rw [List.take_succ_eq_append_getElem h, lastOf_snoc]
theorem lastOf_nil (k : Int) : lastOf k [] = none := rfl
/-- What a buffer with room holds behind these puts. -/
def bufOf (most : Nat) (l : List Ent) : List Ent := l.foldl (fun es e => (putL most es e).1) []
theorem bufOf_take (most : Nat) (l : List Ent) {i : Nat} (h : i < l.length) : bufOf most (l.take (i + 1)) = (putL most (bufOf most (l.take i)) l[i]).1 := by
  rw [List.take_succ_eq_append_getElem h, bufOf, List.foldl_append]; rfl

structure LInv (es l : List Ent) : Prop where
  up : Rises es
  mem : ∀ x, x ∈ es ↔ lastOf x.1 l = some x
  le : es.length ≤ l.length
theorem LInv.nil : LInv [] [] := ⟨List.Pairwise.nil, fun x => by simp [lastOf_nil], Nat.le_refl _⟩
theorem putL_code {most : Nat} {es : List Ent} {e : Ent} (h : es.length < most) : (putL most es e).2 = if bad e then 31 else 0 := by
  unfold putL
  by_cases hb : bad e = true
  · rw [if_pos hb, if_pos hb]
  · rw [if_neg hb, if_neg hb]
    split
    · rfl
    · rw [if_neg (by omega)]
theorem LInv.step {es l : List Ent} (h : LInv es l) {most : Nat} (hm : l.length < most) (e : Ent) : LInv (putL most es e).1 (l ++ [e]) := by
  have hl := length_putL (e := e) (show es.length ≤ most by have := h.le; omega)
  refine ⟨putL_rises e h.up, fun x => ?_, by have := h.le; simp only [List.length_append, List.length_cons, List.length_nil]; omega⟩
  rw [lastOf_snoc]
  by_cases hb : bad e = true
  · rw [putL_bad hb, lastStep, if_neg (by simp [hb])]
    exact h.mem x
  · have hb : bad e = false := by simpa using hb
    have hc : (putL most es e).2 = 0 := by rw [putL_code (by have := h.le; omega), hb]; rfl
    rw [mem_putL h.up hc, lastStep]
    by_cases hk : e.1 = x.1
    · rw [if_pos ⟨hk, hb⟩]
      constructor
      · rintro (rfl | ⟨_, hne⟩)
        · rfl
        · exact absurd hk.symm hne
      · intro he; exact .inl (Option.some.inj he).symm
    · rw [if_neg (fun h => hk h.1), ← h.mem x]
      constructor
      · rintro (rfl | ⟨hx, _⟩)
        · exact absurd rfl hk
        · exact hx
      · intro hx; exact .inr ⟨hx, fun e' => hk e'.symm⟩
theorem LInv.take {most : Nat} (l : List Ent) (hm : l.length < most) : ∀ i, i ≤ l.length → LInv (bufOf most (l.take i)) (l.take i)
  | 0, _ => by simpa [bufOf] using LInv.nil
  | i + 1, hi => by
    rw [bufOf_take most l (by omega), List.take_succ_eq_append_getElem (by omega)]
    exact (LInv.take l hm i (by omega)).step (by rw [List.length_take]; omega) _
theorem LInv.there {es l : List Ent} (h : LInv es l) (k : Int) : there k es = (lastOf k l).isSome := by
  rw [Bool.eq_iff_iff, there_iff h.up]
  constructor
  · rintro ⟨x, hx, rfl⟩
    rw [(h.mem x).1 hx]; rfl
  · intro hs
    obtain ⟨x, hx⟩ := Option.isSome_iff_exists.1 hs
    have hk : x.1 = k := by
      clear hs h
      have : ∀ (l : List Ent) (acc : Option Ent), (∀ y, acc = some y → y.1 = k) → ∀ y, l.foldl (lastStep k) acc = some y → y.1 = k := by
        intro l
        induction l with
        | nil => intro acc ha y hy; exact ha y hy
        | cons e l ih =>
          intro acc ha y hy
          refine ih (lastStep k acc e) (fun z hz => ?_) y hy
          unfold lastStep at hz
          split at hz
          · rename_i hh; rw [← Option.some.inj hz]; exact hh.1
          · exact ha z hz
      exact this l none (fun y hy => by cases hy) x hx
    subst hk
    exact ⟨x, (h.mem x).2 hx, rfl⟩
theorem LInv.last {es l : List Ent} (h : LInv es l) {i : Nat} (hi : i < es.length) : lastOf es[i].1 l = some es[i] := (h.mem _).1 (List.getElem_mem hi)
/-- Whether a key was put so far. -/
def putSo (k : Int) (l : List Ent) : Bool := (lastOf k l).isSome
theorem putSo_take (k : Int) (l : List Ent) {i : Nat} (h : i < l.length) : putSo k (l.take (i + 1)) = (putSo k (l.take i) || (l[i].1 == k && !bad l[i])) := by
  unfold putSo
  rw [lastOf_take k l h, lastStep]
  by_cases hk : l[i].1 = k <;> cases hb : bad l[i] <;> simp [hk]
end Go.Proofs.Ytalhfjcopkmmlaa
