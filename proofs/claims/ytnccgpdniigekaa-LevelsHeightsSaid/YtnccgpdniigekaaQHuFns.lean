/-
  Fits: New, Add, Count, Least, Most, by footprints.
-/
import Derived.Test.YtnccgpdniigekaaQG1
import Derived.Test.YtnccgpdniigekaaQEqS
namespace Go.Proofs.Ytnccgpdniigekaa
open Go.RowKit
set_option linter.unusedVariables false
set_option linter.unusedSimpArgs false

/-- A fit and the blocks that are its own. -/
def FitO (w : World) (b : Nat) (e : Int) (F : Fit) (S : Nat → Prop) : Prop := ∃ v0 v1, FitV w b e F v0 v1 ∧ S = fun k => k = b ∨ v0.ownBlock = some k ∨ v1.ownBlock = some k
section
variable {w w' : World} {b : Nat} {e : Int} {F : Fit} {S T : Nat → Prop}
theorem FitO.lt (h : FitO w b e F S) : ∀ k, S k → k < w.heap.size := by
  obtain ⟨v0, v1, ⟨last, c0, c1, M, _⟩, rfl⟩ := h
  rintro k (rfl | h | h)
  · exact M.blk.lt
  · exact M.r0.lt h
  · exact M.r1.lt h
theorem FitO.chg (h : FitO w b e F S) (k : Chg T w w') (hd : ∀ i, S i → ¬ T i) : FitO w' b e F S := by
  obtain ⟨v0, v1, ⟨last, c0, c1, M, Q⟩, rfl⟩ := h
  exact ⟨v0, v1, ⟨last, c0, c1, M.chg k (hd b (.inl rfl)) (fun g hg => hd g (.inr (.inl hg))) (fun g hg => hd g (.inr (.inr hg))), Q⟩, rfl⟩
theorem FitO.below (h : FitO w b e F S) (k : Below w.heap.size w w') : FitO w' b e F S := h.chg (Chg.of_below k) (fun _ _ h => h)
theorem FitO.drewN (h : FitO w b e F S) (n : Nat) : FitO (w.drewN n) b e F S := h.below (drewN_below (Below.refl _ _) n)
theorem FitO.drew (h : FitO w b e F S) : FitO w.drew b e F S := h.drewN 1
theorem FitO.s (h : FitO w b e F S) : ∃ c0 c1, FitS e F c0 c1 := by
  obtain ⟨v0, v1, ⟨last, c0, c1, M, Q, _⟩, rfl⟩ := h
  exact ⟨c0, c1, Q⟩
theorem FitO.ok (h : FitO w b e F S) : FitOk F := by obtain ⟨_, _, s⟩ := h.s; exact s.ok
/-- What a fit's call leaves. -/
def AddO (w : World) (b : Nat) (e : Int) (F : Fit) (S : Nat → Prop) (key : Int) (w' : World) : Prop :=
  ∃ S', FitO w' b e (F.add e key).2 S' ∧ Chg S w w' ∧ ∀ k, S' k → S k ∨ w.heap.size ≤ k
theorem hull_AddO (key : Int) (hk : u64ok key) (big : F.keys.length < 17592186044416) (H : FitO w b e F S) :
    Calls Try.prog 81 #[.pointer (some ⟨b, 0, none⟩), .int .u64 key] w fun e' w' => e' = .returned (.tuple #[.bool (F.add e key).1.1, .int .i64 (F.add e key).1.2]) ∧ AddO w b e F S key w' := by
  obtain ⟨v0, v1, V, rfl⟩ := H
  refine (hull_Add b e F v0 v1 key hk big w V).mono ?_
  rintro e' w' ⟨rfl, v0', v1', V', C, o0, o1⟩
  refine ⟨rfl, _, ⟨v0', v1', V', rfl⟩, C, ?_⟩
  rintro k (rfl | h | h)
  · exact .inl (.inl rfl)
  · rcases o0 k h with m | m
    · exact .inl (.inr (.inl m))
    · exact .inr m
  · rcases o1 k h with m | m
    · exact .inl (.inr (.inr m))
    · exact .inr m
theorem hull_Least (H : FitO w b e F S) : Calls Try.prog 96 #[.pointer (some ⟨b, 0, none⟩)] w fun e' w' => e' = .returned (.agg #[.int .u64 F.low.1, .int .u64 F.low.2]) ∧ Below w.heap.size w w' := by
  obtain ⟨v0, v1, ⟨last, c0, c1, M, Q⟩, rfl⟩ := H
  have N := M.below (below_new (Below.refl _ _) (.cells #[.int .u64 0, .int .u64 0] 122))
  have x0 : (w.alloc (.cells #[.int .u64 0, .int .u64 0] 122)).cell? ⟨b, 3, none⟩ = some (.int .u64 F.low.1) := N.blk.cell 3
  have x1 : (w.alloc (.cells #[.int .u64 0, .int .u64 0] 122)).cell? ⟨b, 4, none⟩ = some (.int .u64 F.low.2) := N.blk.cell 4
  have hb : b < w.heap.size := M.blk.lt
  clear M Q N
  go_enter Try.func96, Try.ntmps96
  go_wp2
  refine bodyPost_ret (v := .agg #[.int .u64 F.low.1, .int .u64 F.low.2]) (results_cl (p := 2) (ty := 122) (t := 122) rfl _ rfl (Blk.new _ _ _) Try.underlying122 rfl (by kernel_rfl)) rfl ?_
  exact ⟨rfl, below_new (Below.refl _ _) _⟩
end
theorem hull_New_bad (eps : Int) (h : eps < 2 ∨ 64 < eps) (w : World) : Calls Try.prog 80 #[.int .i64 eps] w fun e' w' => e' = .returned (.tuple #[.pointer none, .int .i64 1]) ∧ w = w' := by
  by_cases h1 : eps < 2
  · go_enter Try.func80, Try.ntmps80
    go_wp2
    go_ret2
    exact ⟨rfl, rfl⟩
  · have h2 : 64 < eps := by omega
    go_enter Try.func80, Try.ntmps80
    go_wp2
    go_ret2
    exact ⟨rfl, rfl⟩
theorem hull_New (eps : Int) (h1 : 2 ≤ eps) (h2 : eps ≤ 64) (w : World) : Calls Try.prog 80 #[.int .i64 eps] w fun e' w' =>
    e' = .returned (.tuple #[.pointer (some ⟨w.heap.size, 0, none⟩), .int .i64 0]) ∧ Below w.heap.size w w' ∧ FitO w' w.heap.size (eps - 1) Fit.zero (fun k => k = w.heap.size) := by
  have h3 : ¬ eps < 2 := by omega
  have h4 : ¬ 64 < eps := by omega
  go_enter Try.func80, Try.ntmps80
  go_wp2
  go_ret2
  refine ⟨rfl, below_new (Below.refl _ _) _, .slice none 0 0, .slice none 0 0, ⟨0, [], [], ⟨Blk.new _ _ _, Row.nil _, Row.nil _⟩, FitS.zero (by omega) (by omega), fun l h => by simp [Fit.zero] at h, fun g h => by simp [Value.ownBlock] at h⟩, ?_⟩
  funext k; simp [Value.ownBlock]
theorem eqSlope (d : Nat) (w : World) (x0 y0 x1 y1 : Int) :
    (Op.equalIn (d + 2) 122 (.agg #[.int .u64 x0, .int .u64 x1]) (.agg #[.int .u64 y0, .int .u64 y1])).run Try.prog w = .ok (x0 == y0 && (x1 == y1 && true)) w := by
  refine equal_struct Try.underlying122 (by kernel_rfl) ?_
  refine eqFields_step (by decide) (by go_simp; rfl) (by go_simp; rfl) (by go_simp) ?_
  exact eqFields_step (by decide) (by go_simp; rfl) (by go_simp; rfl) (by go_simp) eqFields_nil
end Go.Proofs.Ytnccgpdniigekaa
