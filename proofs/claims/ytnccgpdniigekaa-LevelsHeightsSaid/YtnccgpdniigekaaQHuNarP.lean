/-
  Plain: a fit narrows.
-/
import Derived.Test.YtnccgpdniigekaaQHuArg
import Derived.Test.YtnccgpdniigekaaQHuRef
namespace Go.Proofs.Ytnccgpdniigekaa
open Go.RowKit
set_option linter.unusedVariables false
set_option linter.unusedSimpArgs false

/-- Rising whole numbers are as far apart as their places. -/
theorem far_apart {K : List Int} (h : K.Pairwise (· < ·)) (i : Nat) : ∀ j (hj : i + j < K.length), K.getD i 0 + j ≤ K.getD (i + j) 0
  | 0, _ => by simp
  | j + 1, hj => by
    have ih := far_apart h i j (by omega)
    have := List.pairwise_iff_getElem.1 h (i + j) (i + (j + 1)) (by omega) hj (by omega)
    simp only [List.getD_eq_getElem?_getD, List.getElem?_eq_getElem hj, List.getElem?_eq_getElem (show i + j < K.length by omega), Option.getD_some] at ih ⊢
    omega
theorem lowest_le {n d : Int} (h0 : 0 ≤ n) (hd : 0 < d) (h : n ≤ d) : (lowest n d).1 ≤ (lowest n d).2 := by
  obtain ⟨L, e, p, _⟩ := lowest_low h0 hd
  rcases Int.lt_or_le (lowest n d).2 (lowest n d).1 with k | k
  · exfalso
    have h1 := Int.mul_le_mul_of_nonneg_right h (Int.le_of_lt p)
    have h2 := Int.mul_lt_mul_of_pos_right k hd
    have h3 : d * (lowest n d).2 = (lowest n d).2 * d := Int.mul_comm _ _
    omega
  · exact k
/-- The least slope is no more than 1, the greatest more than 0. -/
structure NarOk (F : Fit) : Prop where
  low : F.low.1 ≤ F.low.2
  den : F.low.2 ≠ 0
  top : F.top.1 ≠ 0
theorem NarOk.zero : NarOk Fit.zero := ⟨by decide, by decide, by decide⟩
theorem FitOk.key_far {F : Fit} (h : FitOk F) {key : Int} (hl : F.late key = false) {i : Nat} (hi : i < F.keys.length) : (F.keys.length : Int) - i ≤ key - F.keys.getD i 0 := by
  have h1 := far_apart h.up i (F.keys.length - 1 - i) (by omega)
  have h2 := h.lt hl (F.keys.length - 1) (by omega)
  rw [show i + (F.keys.length - 1 - i) = F.keys.length - 1 from by omega] at h1
  omega
theorem Fit.narrows {F : Fit} (h : FitOk F) (hn : NarOk F) {e : Int} (he : 0 ≤ e) {key : Int} {c : Int} {F' : Fit} (ha : F.add e key = ((true, c), F')) :
    NarOk F' ∧ F'.keys.length = F.keys.length + 1 ∧ ¬ ltF F'.low F.low ∧ ¬ ltF F.top F'.top ∧ ¬ ltF F'.top F'.low := by
  by_cases hl : F.late key = true
  · rw [Fit.add_late hl] at ha; simp at ha
  · have hl : F.late key = false := by simpa using hl
    by_cases hlt : ltF (F.topWith e key) (F.lowWith e key)
    · rw [Fit.add_refuse hl hlt] at ha; simp at ha
    · rw [Fit.add_take hl hlt] at ha
      have e2 := (Prod.mk.inj ha).2
      subst e2
      have m1 := lowUp_max (e := e) (n := F.keys.length) (h.lt hl) h.low F.keys.length (Nat.le_refl _)
      have m2 := topUp_min (n := F.keys.length) he (fun i hi => by omega) (h.lt hl) h.top F.keys.length (Nat.le_refl _)
      refine ⟨⟨?_, ?_, ?_⟩, by simp, m1.ge, m2.le, hlt⟩
      · show (F.lowWith e key).1 ≤ (F.lowWith e key).2
        rcases m1.is with q | ⟨i, hi, hp, q⟩
        · rw [Fit.lowWith, q]; exact hn.low
        · rw [Fit.lowWith, q]; have := h.key_far hl hi; exact lowest_le (by omega) (by omega) (by omega)
      · show (F.lowWith e key).2 ≠ 0
        rcases m1.is with q | ⟨i, hi, hp, q⟩
        · rw [Fit.lowWith, q]; exact hn.den
        · rw [Fit.lowWith, q]; have := h.key_far hl hi; have := (lowest_low (n := (F.keys.length : Int) - i - 2 * e) (d := key - F.keys.getD i 0) (by omega) (by omega)).2.2.1; omega
      · show (F.topWith e key).1 ≠ 0
        rcases m2.is with q | ⟨i, hi, q⟩
        · rw [Fit.topWith, q]; exact hn.top
        · rw [Fit.topWith, q]; have := h.key_far hl hi; have := (lowest_low (n := (F.keys.length : Int) - i + 2 * e) (d := key - F.keys.getD i 0) (by omega) (by omega)).2.2.2.2.2 (by omega); omega
theorem Fit.add_not {F : Fit} {e key c : Int} {F' : Fit} (ha : F.add e key = ((false, c), F')) : F' = F := by
  unfold Fit.add at ha
  split at ha
  · exact (Prod.mk.inj ha).2.symm
  · split at ha
    · exact (Prod.mk.inj ha).2.symm
    · simp at ha
/-- Add, and what it leaves of blocks made since. -/
theorem add_mineK {w0 wp w : World} {b : Nat} {e : Int} {F F' : Fit} {key : Int} {t : Bool} {c : Int} (hp : F.add e key = ((t, c), F')) (hk : u64ok key) (big : F.keys.length < 17592186044416) (H : Mine w0 b e F wp) (hb : Below wp.heap.size wp w) :
    Calls Try.prog 81 #[.pointer (some ⟨b, 0, none⟩), .int .u64 key] w fun e' w' => e' = .returned (.tuple #[.bool t, .int .i64 c]) ∧ Mine w0 b e F' w' ∧ ∀ g t cs, wp.heap.size ≤ g → Blk w g t cs → Blk w' g t cs := by
  obtain ⟨S, h1, h2, h3⟩ := H
  have hlt := h1.lt
  refine (hull_AddO key hk big (h1.below hb)).mono ?_
  rintro e' w' ⟨rfl, S', f1, f2, f3⟩
  rw [hp] at f1 ⊢
  have h4 := below_next h3 hb
  refine ⟨rfl, ⟨S', f1, fun k hk => ?_, below_chg h4 f2 (fun k _ hk => h2 k hk) h4.size⟩, fun g t cs hg hB => hB.chg f2 (fun hs => by have := hlt g hs; omega)⟩
  rcases f3 k hk with m | m
  · exact h2 k m
  · have := h4.size; omega
theorem FitO.f64 {w : World} {b : Nat} {e : Int} {F : Fit} {S : Nat → Prop} (h : FitO w b e F S) : Fr64 F.low ∧ Fr64 F.top := by obtain ⟨_, _, s⟩ := h.s; exact ⟨s.fl, s.ft⟩
theorem Mine.f64 {w0 w : World} {b : Nat} {e : Int} {F : Fit} (h : Mine w0 b e F w) : Fr64 F.low ∧ Fr64 F.top := by obtain ⟨S, h1, _⟩ := h; exact h1.f64
theorem Mine.ok' {w0 w : World} {b : Nat} {e : Int} {F : Fit} (h : Mine w0 b e F w) : FitOk F := by obtain ⟨S, h1, _⟩ := h; exact h1.ok
theorem Fr64.u1 {a : Fr} (h : Fr64 a) : u64ok a.1 := by have := h.num; unfold u64ok; omega
theorem Fr64.u2 {a : Fr} (h : Fr64 a) : u64ok a.2 := by have := h.den; unfold u64ok; omega
/-- Below, of two fractions of fits. -/
theorem below_not {a b : Fr} (ha : Fr64 a) (hb : Fr64 b) (oa : OkF a) (ob : OkF b) (h : ¬ ltF a b) (w : World) :
    Calls Try.prog 85 #[.agg #[.int .u64 a.1, .int .u64 a.2], .agg #[.int .u64 b.1, .int .u64 b.2]] w fun e w' => e = .returned (.bool false) ∧ Below w.heap.size w w' := by
  have := ref_Below a b ha.u1 ha.u2 hb.u1 hb.u2 oa ob w
  rwa [decide_eq_false h] at this
end Go.Proofs.Ytnccgpdniigekaa
