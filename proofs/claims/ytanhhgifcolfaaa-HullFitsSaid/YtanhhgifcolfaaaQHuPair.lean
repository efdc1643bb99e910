/-
  A fit and the reference's, side by side: made, alike.
-/
import Derived.Test.YtanhhgifcolfaaaQHuRefAdd2
namespace Go.Proofs.Ytanhhgifcolfaaa
open Go.RowKit
set_option linter.unusedVariables false
set_option linter.unusedSimpArgs false

/-- The program's fit and the reference's, all their blocks made since w0, none of them shared. -/
def Pair2 (w0 : World) (b1 b2 : Nat) (e : Int) (Fa Fb : Fit) (w : World) : Prop :=
  ∃ S T, FitO w b1 e Fa S ∧ RefO w b2 e Fb T ∧ (∀ k, S k → ¬ T k) ∧ (∀ k, S k → w0.heap.size ≤ k) ∧ (∀ k, T k → w0.heap.size ≤ k) ∧ Below w0.heap.size w0 w
section
variable {w0 w w' : World} {b1 b2 : Nat} {e : Int} {Fa Fb : Fit}
theorem Pair2.bel (h : Pair2 w0 b1 b2 e Fa Fb w) : Below w0.heap.size w0 w := by obtain ⟨_, _, _, _, _, _, _, h⟩ := h; exact h
theorem Pair2.below (h : Pair2 w0 b1 b2 e Fa Fb w) (k : Below w.heap.size w w') : Pair2 w0 b1 b2 e Fa Fb w' := by
  obtain ⟨S, T, h1, h2, h3, h4, h5, h6⟩ := h
  exact ⟨S, T, h1.below k, h2.below k, h3, h4, h5, below_next h6 k⟩
theorem Pair2.base {w1 : World} (h : Pair2 w1 b1 b2 e Fa Fb w) (k : Below w0.heap.size w0 w1) : Pair2 w0 b1 b2 e Fa Fb w := by
  obtain ⟨S, T, h1, h2, h3, h4, h5, h6⟩ := h
  exact ⟨S, T, h1, h2, h3, fun i hi => Nat.le_trans k.size (h4 i hi), fun i hi => Nat.le_trans k.size (h5 i hi), below_next k h6⟩
theorem Pair2.add1 (h : Pair2 w0 b1 b2 e Fa Fb w) {key : Int} (hk : u64ok key) (big : Fa.keys.length < 17592186044416) :
    Calls Try.prog 17 #[.pointer (some ⟨b1, 0, none⟩), .int .u64 key] w fun e' w' => e' = .returned (.tuple #[.bool (Fa.add e key).1.1, .int .i64 (Fa.add e key).1.2]) ∧ Pair2 w0 b1 b2 e (Fa.add e key).2 Fb w' := by
  obtain ⟨S, T, h1, h2, h3, h4, h5, h6⟩ := h
  have lt2 := h2.lt
  refine (hull_AddO key hk big h1).mono ?_
  rintro e' w' ⟨rfl, S', f1, f2, f3⟩
  refine ⟨rfl, S', T, f1, h2.chg f2 (fun i hi hs => h3 i hs hi), fun k hs ht => ?_, fun k hs => ?_, h5, below_chg h6 f2 (fun k _ hk => h4 k hk) h6.size⟩
  · rcases f3 k hs with m | m
    · exact h3 k m ht
    · have := lt2 k ht; omega
  · rcases f3 k hs with m | m
    · exact h4 k m
    · have := h6.size; omega
theorem Pair2.add2 (h : Pair2 w0 b1 b2 e Fa Fb w) {key : Int} (hk : u64ok key) (big : Fb.keys.length < 17592186044416) :
    Calls Try.prog 18 #[.pointer (some ⟨b2, 0, none⟩), .int .u64 key] w fun e' w' => e' = .returned (.tuple #[.bool (Fb.add e key).1.1, .int .i64 (Fb.add e key).1.2]) ∧ Pair2 w0 b1 b2 e Fa (Fb.add e key).2 w' := by
  obtain ⟨S, T, h1, h2, h3, h4, h5, h6⟩ := h
  have lt1 := h1.lt
  refine (ref_AddO key hk big h2).mono ?_
  rintro e' w' ⟨rfl, T', f1, f2, f3⟩
  refine ⟨rfl, S, T', h1.chg f2 (fun i hi ht => h3 i hi ht), f1, fun k hs ht => ?_, h4, fun k ht => ?_, below_chg h6 f2 (fun k _ hk => h5 k hk) h6.size⟩
  · rcases f3 k ht with m | m
    · exact h3 k hs m
    · have := lt1 k hs; omega
  · rcases f3 k ht with m | m
    · exact h5 k m
    · have := h6.size; omega
theorem Pair2.count1 (h : Pair2 w0 b1 b2 e Fa Fb w) : Calls Try.prog 21 #[.pointer (some ⟨b1, 0, none⟩)] w fun e' w' => e' = .returned (.int .i64 Fa.keys.length) ∧ w = w' := by obtain ⟨S, T, h1, _⟩ := h; exact hull_Count h1
theorem Pair2.least1 (h : Pair2 w0 b1 b2 e Fa Fb w) : Calls Try.prog 22 #[.pointer (some ⟨b1, 0, none⟩)] w fun e' w' => e' = .returned (.agg #[.int .u64 Fa.low.1, .int .u64 Fa.low.2]) ∧ Below w.heap.size w w' := by obtain ⟨S, T, h1, _⟩ := h; exact hull_Least h1
theorem Pair2.most1 (h : Pair2 w0 b1 b2 e Fa Fb w) : Calls Try.prog 23 #[.pointer (some ⟨b1, 0, none⟩)] w fun e' w' => e' = .returned (.agg #[.int .u64 Fa.top.1, .int .u64 Fa.top.2]) ∧ Below w.heap.size w w' := by obtain ⟨S, T, h1, _⟩ := h; exact hull_Most h1
theorem Pair2.count2 (h : Pair2 w0 b1 b2 e Fa Fb w) : Calls Try.prog 16 #[.pointer (some ⟨b2, 0, none⟩)] w fun e' w' => e' = .returned (.int .i64 Fb.keys.length) ∧ w = w' := by obtain ⟨S, T, _, h1, _⟩ := h; exact refO_Count h1
theorem Pair2.least2 (h : Pair2 w0 b1 b2 e Fa Fb w) : Calls Try.prog 40 #[.pointer (some ⟨b2, 0, none⟩)] w fun e' w' => e' = .returned (.agg #[.int .u64 Fb.low.1, .int .u64 Fb.low.2]) ∧ Below w.heap.size w w' := by obtain ⟨S, T, _, h1, _⟩ := h; exact refO_Least h1
theorem Pair2.most2 (h : Pair2 w0 b1 b2 e Fa Fb w) : Calls Try.prog 41 #[.pointer (some ⟨b2, 0, none⟩)] w fun e' w' => e' = .returned (.agg #[.int .u64 Fb.top.1, .int .u64 Fb.top.2]) ∧ Below w.heap.size w w' := by obtain ⟨S, T, _, h1, _⟩ := h; exact refO_Most h1
end
attribute [local go_sem high] eqSlope
/-- What alike's region keeps. -/
structure AlS (w0 : World) (b1 b2 : Nat) (e : Int) (F : Fit) (g : Nat) (w : World) : Prop where
  p : Pair2 w0 b1 b2 e F F w
  box : Blk w g 27 #[.pointer (some ⟨b1, 0, none⟩), .pointer (some ⟨b2, 0, none⟩)]
theorem AlS.below {w0 w w' : World} {b1 b2 g : Nat} {e : Int} {F : Fit} (h : AlS w0 b1 b2 e F g w) (k : Below w.heap.size w w') : AlS w0 b1 b2 e F g w' := ⟨h.p.below k, h.box.below k⟩
theorem AlS.all {w0 w : World} {b1 b2 g : Nat} {e : Int} {F : Fit} (h : AlS w0 b1 b2 e F g w) : AlS w0 b1 b2 e F g w ∧ w.cell? ⟨g, 0, none⟩ = some (.pointer (some ⟨b1, 0, none⟩)) ∧ w.cell? ⟨g, 1, none⟩ = some (.pointer (some ⟨b2, 0, none⟩)) := ⟨h, h.box.cell 0, h.box.cell 1⟩
set_option maxHeartbeats 4000000 in
theorem alike_any {w0 w : World} {b1 b2 : Nat} {e : Int} {F : Fit} (P : Pair2 w0 b1 b2 e F F w) :
    Calls Try.prog 19 #[.agg #[.pointer (some ⟨b1, 0, none⟩), .pointer (some ⟨b2, 0, none⟩)]] w fun e' w' => e' = .returned (.bool true) ∧ Below w.heap.size w w' := by
  have P0 : Pair2 w b1 b2 e F F w → True := fun _ => trivial
  have H0 : Hid (AlS w0 b1 b2 e F w.heap.size (w.alloc (.cells #[.pointer (some ⟨b1, 0, none⟩), .pointer (some ⟨b2, 0, none⟩)] 27)).drew ∧ Below w.heap.size w (w.alloc (.cells #[.pointer (some ⟨b1, 0, none⟩), .pointer (some ⟨b2, 0, none⟩)] 27)).drew) :=
    Lib.hid ⟨⟨(P.below (below_new (Below.refl _ _) _)).below (Below.refl _ _).drew, (Blk.new _ _ _).drew⟩, (below_new (Below.refl _ _) _).drew⟩
  clear P0 P
  go_enter Try.func19, Try.ntmps19
  go_wp2_with fail
  go_region_held3 (fun w' => (AlS w0 b1 b2 e F w.heap.size w' ∧ Below w.heap.size w w') ∧ w'.cell? ⟨w.heap.size, 0, none⟩ = some (.pointer (some ⟨b1, 0, none⟩)) ∧ w'.cell? ⟨w.heap.size, 1, none⟩ = some (.pointer (some ⟨b2, 0, none⟩)))
    (first | exact ⟨H0.out, H0.out.1.all.2⟩ | assumption | exact ⟨⟨(‹(AlS _ _ _ _ _ _ _ ∧ _) ∧ _›).1.1.below hb, below_next (‹(AlS _ _ _ _ _ _ _ ∧ _) ∧ _›).1.2 hb⟩, ((‹(AlS _ _ _ _ _ _ _ ∧ _) ∧ _›).1.1.below hb).all.2⟩)
    (first | (go_at_call 21; (with_reducible refine ((‹(AlS _ _ _ _ _ _ _ ∧ _) ∧ _›).1.1.p.count1).mono ?_); rintro e w' ⟨rfl, rfl⟩) | (go_at_call 16; (with_reducible refine ((‹(AlS _ _ _ _ _ _ _ ∧ _) ∧ _›).1.1.p.count2).mono ?_); rintro e w' ⟨rfl, rfl⟩) | (go_at_call 22; (with_reducible refine ((‹(AlS _ _ _ _ _ _ _ ∧ _) ∧ _›).1.1.p.least1).mono ?_); rintro e w' ⟨rfl, hb⟩) | (go_at_call 40; (with_reducible refine ((‹(AlS _ _ _ _ _ _ _ ∧ _) ∧ _›).1.1.p.least2).mono ?_); rintro e w' ⟨rfl, hb⟩) | (go_at_call 23; (with_reducible refine ((‹(AlS _ _ _ _ _ _ _ ∧ _) ∧ _›).1.1.p.most1).mono ?_); rintro e w' ⟨rfl, hb⟩) | (go_at_call 41; (with_reducible refine ((‹(AlS _ _ _ _ _ _ _ ∧ _) ∧ _›).1.1.p.most2).mono ?_); rintro e w' ⟨rfl, hb⟩))
  all_goals
    have K := (‹(AlS _ _ _ _ _ _ _ ∧ _) ∧ _›).1.2
    go_wp2
    go_ret
    exact ⟨rfl, K⟩
end Go.Proofs.Ytanhhgifcolfaaa
