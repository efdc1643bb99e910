/-
  Plain: where the stretches end; a fit and a list of ends in memory.
-/
import Derived.Test.YtanhhgifcolfaaaQCuRise2
namespace Go.Proofs.Ytanhhgifcolfaaa
open Go.RowKit
set_option linter.unusedVariables false
set_option linter.unusedSimpArgs false

/-- The first key is always taken. -/
theorem Fit.add_zero {e : Int} (he : 0 ≤ e) (k : Int) : (Fit.zero.add e k).1 = (true, 0) := by
  obtain ⟨t, h⟩ := Fit.add_first FitOk.zero he (key := k) rfl (by simp [Fit.zero]; omega) (by rfl)
  rw [h]
/-- The ends so far, and the fit that is under way. -/
def cutS (e : Int) (L : List Int) : Nat → List Nat × Fit
  | 0 => ([], Fit.zero)
  | i + 1 => if ((cutS e L i).2.add e (L.getD i 0)).1.1 = true then ((cutS e L i).1, ((cutS e L i).2.add e (L.getD i 0)).2) else ((cutS e L i).1 ++ [i], (Fit.zero.add e (L.getD i 0)).2)
/-- Where the stretches end. -/
def endsL (e : Int) (L : List Int) : List Nat := if L.length = 0 then [] else (cutS e L L.length).1 ++ [L.length]
theorem cutS_one {e : Int} (he : 0 ≤ e) (L : List Int) : cutS e L 1 = ([], (Fit.zero.add e (L.getD 0 0)).2) := by
  rw [cutS, cutS]
  simp only []
  rw [if_pos (by rw [Fit.add_zero he])]
theorem cutS_len {e : Int} (he : 0 ≤ e) (L : List Int) : ∀ i, (cutS e L (i + 1)).1.length ≤ i
  | 0 => by rw [cutS_one he]; simp
  | i + 1 => by
    have ih := cutS_len he L i
    rw [cutS]
    split
    · simp only []; omega
    · simp only [List.length_append, List.length_cons, List.length_nil]; omega
theorem cutS_keys {e : Int} (L : List Int) : ∀ i, (cutS e L i).2.keys.length ≤ i
  | 0 => by simp [cutS, Fit.zero]
  | i + 1 => by
    have ih := cutS_keys (e := e) L i
    rw [cutS]
    split
    · have := Fit.add_len (F := (cutS e L i).2) (e := e) (key := L.getD i 0); simp only []; omega
    · have h := Fit.add_len (F := Fit.zero) (e := e) (key := L.getD i 0); have h0 : Fit.zero.keys.length = 0 := rfl; rw [h0] at h; simp only []; omega
/-- A stretch begins at j. -/
def Start (e : Int) (L : List Int) (j : Nat) (outs : List Nat) : Prop := cutS e L (j + 1) = (outs, (Fit.zero.add e (L.getD j 0)).2)
theorem Start.zero {e : Int} (he : 0 ≤ e) (L : List Int) : Start e L 0 [] := cutS_one he L
theorem Start.next {e : Int} {L : List Int} {i : Nat} {outs : List Nat} {F : Fit} (h : cutS e L i = (outs, F)) (hr : (F.add e (L.getD i 0)).1.1 = false) : Start e L i (outs ++ [i]) := by
  rw [Start, cutS, h]
  simp only []
  rw [if_neg (by rw [hr]; simp)]
theorem cutS_go {e : Int} {L : List Int} {i : Nat} {outs : List Nat} {F : Fit} (h : cutS e L i = (outs, F)) (hr : (F.add e (L.getD i 0)).1.1 = true) : cutS e L (i + 1) = (outs, (F.add e (L.getD i 0)).2) := by
  rw [cutS, h]
  simp only []
  rw [if_pos hr]
theorem endsL_of {e : Int} {L : List Int} {outs : List Nat} {F : Fit} (h0 : 0 < L.length) (h : cutS e L L.length = (outs, F)) : endsL e L = outs ++ [L.length] := by
  rw [endsL, if_neg (by omega), h]
/-- Numbers in memory. -/
def Ints (w : World) (v : Value) (l : List Nat) : Prop := w.ownsRow 0 3 1 v l.length (l.map fun (n : Nat) => Value.int .i64 (n : Int))
theorem infoI : (Try.prog.info? 3).map (fun i => (i.zero, i.size, i.bytes)) = some (some (.int .i64 0), 1, 8) := by kernel_rfl
/-- A fit and the ends so far, all made since w0. -/
def EM (w0 : World) (b : Nat) (e : Int) (F : Fit) (v : Value) (l : List Nat) (w : World) : Prop :=
  ∃ S, FitO w b e F S ∧ Ints w v l ∧ (∀ g, v.ownBlock = some g → ¬ S g ∧ w0.heap.size ≤ g) ∧ (∀ k, S k → w0.heap.size ≤ k) ∧ Below w0.heap.size w0 w
section
variable {w0 w w' : World} {b : Nat} {e : Int} {F F' : Fit} {v : Value} {l : List Nat}
theorem EM.bel (h : EM w0 b e F v l w) : Below w0.heap.size w0 w := by obtain ⟨_, _, _, _, _, h⟩ := h; exact h
theorem EM.ints (h : EM w0 b e F v l w) : Ints w v l ∧ (∀ g, v.ownBlock = some g → w0.heap.size ≤ g) := by obtain ⟨_, _, h1, h2, _⟩ := h; exact ⟨h1, fun g hg => (h2 g hg).2⟩
theorem EM.below (h : EM w0 b e F v l w) (k : Below w.heap.size w w') : EM w0 b e F v l w' := by
  obtain ⟨S, h1, h2, h3, h4, h5⟩ := h
  exact ⟨S, h1.below k, own_chg h2 (Chg.of_below k) (fun _ _ h => h), h3, h4, below_next h5 k⟩
theorem EM.add (h : EM w0 b e F v l w) {key c : Int} {t : Bool} (hp : F.add e key = ((t, c), F')) (hk : u64ok key) (big : F.keys.length < 17592186044416) :
    Calls Try.prog 17 #[.pointer (some ⟨b, 0, none⟩), .int .u64 key] w fun e' w' => e' = .returned (.tuple #[.bool t, .int .i64 c]) ∧ EM w0 b e F' v l w' := by
  obtain ⟨S, h1, h2, h3, h4, h5⟩ := h
  refine (hull_AddO key hk big h1).mono ?_
  rintro e' w' ⟨rfl, S', f1, f2, f3⟩
  rw [hp] at f1 ⊢
  refine ⟨rfl, S', f1, own_chg h2 f2 (fun g hg => (h3 g hg).1), fun g hg => ⟨fun hs => ?_, (h3 g hg).2⟩, fun k hk => ?_, below_chg h5 f2 (fun k _ hk => h4 k hk) h5.size⟩
  · rcases f3 g hs with m | m
    · exact (h3 g hg).1 m
    · have := own_lt h2 hg; omega
  · rcases f3 k hk with m | m
    · exact h4 k m
    · have := h5.size; omega
/-- Another fit in its place. -/
theorem EM.fresh (h : EM w0 b e F v l w) {b' : Nat} {S' : Nat → Prop} (k : Below w.heap.size w w') (H : FitO w' b' e F' S') (hS : ∀ i, S' i → w.heap.size ≤ i) : EM w0 b' e F' v l w' := by
  obtain ⟨S, h1, h2, h3, h4, h5⟩ := h
  exact ⟨S', H, own_chg h2 (Chg.of_below k) (fun _ _ h => h), fun g hg => ⟨fun hs => by have := own_lt h2 hg; have := hS g hs; omega, (h3 g hg).2⟩, fun i hi => Nat.le_trans h5.size (hS i hi), below_next h5 k⟩
/-- The ends with one more. -/
theorem EM.grown (h : EM w0 b e F v l w) {o : Obj} {w1 : World} {g cap i : Nat} (hown : w1.ownsRow 0 3 1 (.slice (some ⟨g, 0, none⟩) (l.length + 1) cap) (l.length + 1) (l.map (fun (n : Nat) => Value.int .i64 (n : Int)) ++ [.int .i64 (i : Int)])) (hgr : (w.alloc o).grownBy w1 v.ownBlock) (hat : v.ownBlock = some g ∨ g = w.heap.size + 1) :
    EM w0 b e F (.slice (some ⟨g, 0, none⟩) (l.length + 1) cap) (l ++ [i]) w1 := by
  obtain ⟨S, h1, h2, h3, h4, h5⟩ := h
  have C : Chg (fun k => v.ownBlock = some k) w w1 := ((Chg.refl _ w).alloc o).grown hgr (fun k hk _ => hk)
  have hlt := h1.lt
  refine ⟨S, h1.chg C (fun j hj hv => (h3 j hv).1 hj), ?_, fun g' hg' => ?_, h4, below_chg h5 C (fun k _ hk => (h3 k hk).2) h5.size⟩
  · unfold Ints
    simpa using hown
  · simp only [Value.ownBlock, Option.some.injEq] at hg'
    subst hg'
    rcases hat with m | m
    · exact h3 _ m
    · exact ⟨fun hs => by have := hlt _ hs; omega, by have := h5.size; omega⟩
end
end Go.Proofs.Ytanhhgifcolfaaa
