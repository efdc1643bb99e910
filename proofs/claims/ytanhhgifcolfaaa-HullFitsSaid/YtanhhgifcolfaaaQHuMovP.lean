/-
  Three fits side by side; the law HullMoved's words.
-/
import Derived.Test.YtanhhgifcolfaaaQCuMovP
import Derived.Test.YtanhhgifcolfaaaQG0
namespace Go.Proofs.Ytanhhgifcolfaaa
open Go.RowKit
set_option linter.unusedVariables false
set_option linter.unusedSimpArgs false

/-- Three of the program's fits, all blocks made since w0, none shared. -/
def Three (w0 : World) (p1 p2 p3 : Nat) (e : Int) (F G H : Fit) (w : World) : Prop :=
  ∃ S T U, FitO w p1 e F S ∧ FitO w p2 e G T ∧ FitO w p3 e H U ∧ (∀ k, S k → ¬ T k) ∧ (∀ k, S k → ¬ U k) ∧ (∀ k, T k → ¬ U k) ∧ (∀ k, S k → w0.heap.size ≤ k) ∧ (∀ k, T k → w0.heap.size ≤ k) ∧ (∀ k, U k → w0.heap.size ≤ k) ∧ Below w0.heap.size w0 w
section
variable {w0 w w' : World} {p1 p2 p3 : Nat} {e : Int} {F G H F' G' H' : Fit}
theorem Three.bel (h : Three w0 p1 p2 p3 e F G H w) : Below w0.heap.size w0 w := by obtain ⟨_, _, _, _, _, _, _, _, _, _, _, _, h⟩ := h; exact h
theorem Three.below (h : Three w0 p1 p2 p3 e F G H w) (k : Below w.heap.size w w') : Three w0 p1 p2 p3 e F G H w' := by
  obtain ⟨S, T, U, h1, h2, h3, h4, h5, h6, h7, h8, h9, hb⟩ := h
  exact ⟨S, T, U, h1.below k, h2.below k, h3.below k, h4, h5, h6, h7, h8, h9, below_next hb k⟩
theorem Three.one (h : Three w0 p1 p2 p3 e F G H w) : Mine w0 p1 e F w := by obtain ⟨S, T, U, h1, h2, h3, h4, h5, h6, h7, h8, h9, hb⟩ := h; exact ⟨S, h1, h7, hb⟩
theorem Three.two (h : Three w0 p1 p2 p3 e F G H w) : Mine w0 p2 e G w := by obtain ⟨S, T, U, h1, h2, h3, h4, h5, h6, h7, h8, h9, hb⟩ := h; exact ⟨T, h2, h8, hb⟩
theorem Three.three (h : Three w0 p1 p2 p3 e F G H w) : Mine w0 p3 e H w := by obtain ⟨S, T, U, h1, h2, h3, h4, h5, h6, h7, h8, h9, hb⟩ := h; exact ⟨U, h3, h9, hb⟩
theorem three_made {w1 w2 w3 w4 : World} (b1 : Below w0.heap.size w0 w1) (M2 : Mine w1 p1 e F w2) (M3 : Mine w2 p2 e G w3) (M4 : Mine w3 p3 e H w4) : Three w0 p1 p2 p3 e F G H w4 := by
  obtain ⟨S, s1, s2, s3⟩ := M2
  obtain ⟨T, t1, t2, t3⟩ := M3
  obtain ⟨U, u1, u2, u3⟩ := M4
  have ls := s1.lt
  have lt := t1.lt
  have z1 := b1.size
  have z2 := s3.size
  have z3 := t3.size
  refine ⟨S, T, U, (s1.below t3).below u3, t1.below u3, u1, fun k h1 h2 => ?_, fun k h1 h2 => ?_, fun k h1 h2 => ?_, fun k h => ?_, fun k h => ?_, fun k h => ?_, below_next (below_next (below_next b1 s3) t3) u3⟩
  · have := ls k h1; have := t2 k h2; omega
  · have := ls k h1; have := u2 k h2; omega
  · have := lt k h1; have := u2 k h2; omega
  · have := s2 k h; omega
  · have := t2 k h; omega
  · have := u2 k h; omega
theorem Three.add1 (h : Three w0 p1 p2 p3 e F G H w) {key c : Int} {t : Bool} (hp : F.add e key = ((t, c), F')) (hk : u64ok key) (big : F.keys.length < 17592186044416) :
    Calls Try.prog 17 #[.pointer (some ⟨p1, 0, none⟩), .int .u64 key] w fun e' w' => e' = .returned (.tuple #[.bool t, .int .i64 c]) ∧ Three w0 p1 p2 p3 e F' G H w' := by
  obtain ⟨S, T, U, h1, h2, h3, h4, h5, h6, h7, h8, h9, hb⟩ := h
  have l2 := h2.lt
  have l3 := h3.lt
  have hz := hb.size
  refine (hull_AddO key hk big h1).mono ?_
  rintro e' w' ⟨rfl, S', f1, f2, f3⟩
  rw [hp] at f1 ⊢
  refine ⟨rfl, S', T, U, f1, h2.chg f2 (fun i hi hs => h4 i hs hi), h3.chg f2 (fun i hi hs => h5 i hs hi), fun k hs ht => ?_, fun k hs ht => ?_, h6, fun k hs => ?_, h8, h9, below_chg hb f2 (fun k _ hk => h7 k hk) hz⟩
  · rcases f3 k hs with m | m
    · exact h4 k m ht
    · have := l2 k ht; omega
  · rcases f3 k hs with m | m
    · exact h5 k m ht
    · have := l3 k ht; omega
  · rcases f3 k hs with m | m
    · exact h7 k m
    · omega
theorem Three.turn (h : Three w0 p1 p2 p3 e F G H w) : Three w0 p2 p1 p3 e G F H w := by
  obtain ⟨S, T, U, h1, h2, h3, h4, h5, h6, h7, h8, h9, hb⟩ := h
  exact ⟨T, S, U, h2, h1, h3, fun k a b => h4 k b a, h6, h5, h8, h7, h9, hb⟩
theorem Three.turn3 (h : Three w0 p1 p2 p3 e F G H w) : Three w0 p3 p2 p1 e H G F w := by
  obtain ⟨S, T, U, h1, h2, h3, h4, h5, h6, h7, h8, h9, hb⟩ := h
  exact ⟨U, T, S, h3, h2, h1, fun k a b => h6 k b a, fun k a b => h5 k b a, fun k a b => h4 k b a, h9, h8, h7, hb⟩
theorem Three.add2 (h : Three w0 p1 p2 p3 e F G H w) {key c : Int} {t : Bool} (hp : G.add e key = ((t, c), G')) (hk : u64ok key) (big : G.keys.length < 17592186044416) :
    Calls Try.prog 17 #[.pointer (some ⟨p2, 0, none⟩), .int .u64 key] w fun e' w' => e' = .returned (.tuple #[.bool t, .int .i64 c]) ∧ Three w0 p1 p2 p3 e F G' H w' :=
  (h.turn.add1 hp hk big).mono fun e' w' ⟨a, b⟩ => ⟨a, b.turn⟩
theorem Three.add3 (h : Three w0 p1 p2 p3 e F G H w) {key c : Int} {t : Bool} (hp : H.add e key = ((t, c), H')) (hk : u64ok key) (big : H.keys.length < 17592186044416) :
    Calls Try.prog 17 #[.pointer (some ⟨p3, 0, none⟩), .int .u64 key] w fun e' w' => e' = .returned (.tuple #[.bool t, .int .i64 c]) ∧ Three w0 p1 p2 p3 e F G H' w' :=
  (h.turn3.add1 hp hk big).mono fun e' w' ⟨a, b⟩ => ⟨a, b.turn3⟩
theorem Three.mvCount {fr : Int} (h : Three w0 p1 p2 p3 e F (F.mv fr) H w) : Calls Try.prog 21 #[.pointer (some ⟨p2, 0, none⟩)] w fun e' w' => e' = .returned (.int .i64 F.keys.length) ∧ w = w' := by
  have := count_mine h.two
  rwa [show (F.mv fr).keys.length = F.keys.length from by simp [Fit.mv]] at this
theorem Three.mvLeast {fr : Int} (h : Three w0 p1 p2 p3 e F (F.mv fr) H w) : Calls Try.prog 22 #[.pointer (some ⟨p2, 0, none⟩)] w fun e' w' => e' = .returned (.agg #[.int .u64 F.low.1, .int .u64 F.low.2]) ∧ Below w.heap.size w w' := by
  have k := least_mine h.two
  exact k
theorem Three.mvMost {fr : Int} (h : Three w0 p1 p2 p3 e F (F.mv fr) H w) : Calls Try.prog 23 #[.pointer (some ⟨p2, 0, none⟩)] w fun e' w' => e' = .returned (.agg #[.int .u64 F.top.1, .int .u64 F.top.2]) ∧ Below w.heap.size w w' := by
  have k := most_mine h.two
  exact k
end
theorem Fit.mv_add {F F' : Fit} {e key fr c : Int} {t : Bool} (h : F.add e key = ((t, c), F')) : (F.mv fr).add e (key + fr) = ((t, c), F'.mv fr) := by rw [Fit.add_mv, h]
theorem Fit.add_keys {F F' : Fit} {e key c : Int} (h : F.add e key = ((true, c), F')) : F'.keys = F.keys ++ [key] := by
  unfold Fit.add at h
  split at h
  · simp at h
  · split at h
    · simp at h
    · simp only [Prod.mk.injEq] at h
      obtain ⟨_, rfl⟩ := h
      rfl
theorem up_at {L : List Int} {n : Nat} (h : (L.take n).Pairwise (· < ·)) (hn : n ≤ L.length) {i : Nat} (hi : i < n) : L[i] ≤ L[n - 1] := by
  by_cases hin : i = n - 1
  · subst hin; exact Int.le_refl _
  · have := List.pairwise_iff_getElem.1 h i (n - 1) (by simp; omega) (by simp; omega) (by omega)
    simp only [List.getElem_take] at this
    omega
end Go.Proofs.Ytanhhgifcolfaaa
