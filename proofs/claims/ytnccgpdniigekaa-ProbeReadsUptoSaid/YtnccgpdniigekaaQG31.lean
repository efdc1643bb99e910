/-
  Fits: New, Add, Count, Least, Most, by footprints.
-/
import Derived.Test.YtnccgpdniigekaaQG1
import Derived.Test.YtnccgpdniigekaaQG28
namespace Go.Proofs.Ytnccgpdniigekaa
open Go.RowKit
set_option linter.unusedVariables false
set_option linter.unusedSimpArgs false

/-- A fit and the blocks that are its own. -/
def FitO (w : World) (b : Nat) (e : Int) (F : Fit) (S : Nat → Prop) : Prop := ∃ v0 v1, FitV w b e F v0 v1 ∧ S = fun k => k = b ∨ v0.ownBlock = some k ∨ v1.ownBlock = some k
section
variable {w w' : World} {b : Nat} {e : Int} {F : Fit} {S T : Nat → Prop}
theorem FitO.lt (h : FitO w b e F S) : ∀ k, S k → k < w.heap.size := by
  obtain ⟨v0, v1, ⟨last, c0, c1, M, _⟩, rfl⟩ := h
  rintro k (rfl | h | h)
  · exact M.blk.lt
  · exact M.r0.lt h
  · exact M.r1.lt h
theorem FitO.chg (h : FitO w b e F S) (k : Chg T w w') (hd : ∀ i, S i → ¬ T i) : FitO w' b e F S := by
  obtain ⟨v0, v1, ⟨last, c0, c1, M, Q⟩, rfl⟩ := h
  exact ⟨v0, v1, ⟨last, c0, c1, M.chg k (hd b (.inl rfl)) (fun g hg => hd g (.inr (.inl hg))) (fun g hg => hd g (.inr (.inr hg))), Q⟩, rfl⟩
theorem FitO.below (h : FitO w b e F S) (k : Below w.heap.size w w') : FitO w' b e F S := h.chg (Chg.of_below k) (fun _ _ h => h)
theorem FitO.drewN (h : FitO w b e F S) (n : Nat) : FitO (w.drewN n) b e F S := h.below (drewN_below (Below.refl _ _) n)
theorem FitO.drew (h : FitO w b e F S) : FitO w.drew b e F S := h.drewN 1
theorem FitO.s (h : FitO w b e F S) : ∃ c0 c1, FitS e F c0 c1 := by
  obtain ⟨v0, v1, ⟨last, c0, c1, M, Q, _⟩, rfl⟩ := h
  exact ⟨c0, c1, Q⟩
theorem FitO.ok (h : FitO w b e F S) : FitOk F := by obtain ⟨_, _, s⟩ := h.s; exact s.ok
/-- What a fit's call leaves. -/
def AddO (w : World) (b : Nat) (e : Int) (F : Fit) (S : Nat → Prop) (key : Int) (w' : World) : Prop :=
  ∃ S', FitO w' b e (F.add e key).2 S' ∧ Chg S w w' ∧ ∀ k, S' k → S k ∨ w.heap.size ≤ k
theorem hull_AddO (key : Int) (hk : u64ok key) (big : F.keys.length < 17592186044416) (H : FitO w b e F S) :
    Calls Try.prog 81 #[.pointer (some ⟨b, 0, none⟩), .int .u64 key] w fun e' w' => e' = .returned (.tuple #[.bool (F.add e key).1.1, .int .i64 (F.add e key).1.2]) ∧ AddO w b e F S key w' := by
  obtain ⟨v0, v1, V, rfl⟩ := H
  refine (hull_Add b e F v0 v1 key hk big w V).mono ?_
  rintro e' w' ⟨rfl, v0', v1', V', C, o0, o1⟩
  refine ⟨rfl, _, ⟨v0', v1', V', rfl⟩, C, ?_⟩
  rintro k (rfl | h | h)
  · exact .inl (.inl rfl)
  · rcases o0 k h with m | m
    · exact .inl (.inr (.inl m))
    · exact .inr m
  · rcases o1 k h with m | m
    · exact .inl (.inr (.inr m))
    · exact .inr m
end
theorem eqSlope (d : Nat) (w : World) (x0 y0 x1 y1 : Int) :
    (Op.equalIn (d + 2) 122 (.agg #[.int .u64 x0, .int .u64 x1]) (.agg #[.int .u64 y0, .int .u64 y1])).run Try.prog w = .ok (x0 == y0 && (x1 == y1 && true)) w := by
  refine equal_struct Try.underlying122 (by kernel_rfl) ?_
  refine eqFields_step (by decide) (by go_simp; rfl) (by go_simp; rfl) (by go_simp) ?_
  exact eqFields_step (by decide) (by go_simp; rfl) (by go_simp; rfl) (by go_simp) eqFields_nil
end Go.Proofs.Ytnccgpdniigekaa
/-
  'shown', the small thing at the head of each statement about fits, is true.
-/
namespace Go.Proofs.Ytnccgpdniigekaa
open Go.RowKit
set_option linter.unusedVariables false
set_option linter.unusedSimpArgs false

/-- A fit all of whose blocks were made since world w0; what was there then is as it was. -/
def Mine (w0 : World) (b : Nat) (e : Int) (F : Fit) (w : World) : Prop := ∃ S, FitO w b e F S ∧ (∀ k, S k → w0.heap.size ≤ k) ∧ Below w0.heap.size w0 w
theorem Mine.below {w0 w w' : World} {b : Nat} {e : Int} {F : Fit} (h : Mine w0 b e F w) (k : Below w.heap.size w w') : Mine w0 b e F w' := by
  obtain ⟨S, h1, h2, h3⟩ := h; exact ⟨S, h1.below k, h2, below_next h3 k⟩
theorem Mine.bel {w0 w : World} {b : Nat} {e : Int} {F : Fit} (h : Mine w0 b e F w) : Below w0.heap.size w0 w := by obtain ⟨S, h1, h2, h3⟩ := h; exact h3
theorem Mine.drewN {w0 w : World} {b : Nat} {e : Int} {F : Fit} (h : Mine w0 b e F w) (n : Nat) : Mine w0 b e F (w.drewN n) := h.below (drewN_below (Below.refl _ _) n)
theorem Mine.base {w w0 w' : World} {b : Nat} {e : Int} {F : Fit} (h : Mine w0 b e F w') (k : Below w.heap.size w w0) : Mine w b e F w' := by
  obtain ⟨S, h1, h2, h3⟩ := h; exact ⟨S, h1, fun i hi => Nat.le_trans k.size (h2 i hi), below_next k h3⟩
attribute [local go_sem high] eqSlope
end Go.Proofs.Ytnccgpdniigekaa
/-
  A slice of uint64 that came in; what a fit's last key is.
-/
namespace Go.Proofs.Ytnccgpdniigekaa
open Go.RowKit
set_option linter.unusedVariables false
set_option linter.unusedSimpArgs false

/-- The slice reads as these numbers; they lie in a block that was there. -/
def ArgU (w : World) (A : Option Addr) (L : List Int) : Prop := 0 < L.length → ∃ b o, A = some ⟨b, o, none⟩ ∧ b < w.heap.size ∧ ∀ i (h : i < L.length), w.cell? ⟨b, o + i, none⟩ = some (.int .u64 L[i])
theorem ArgU.below {w w' : World} {A : Option Addr} {L : List Int} (h : ArgU w A L) (k : Below w.heap.size w w') : ArgU w' A L := fun hn => by
  obtain ⟨b, o, hA, hb, hc⟩ := h hn
  exact ⟨b, o, hA, Nat.lt_of_lt_of_le hb k.size, fun i hi => (k.cell (p := ⟨b, _, none⟩) hb).trans (hc i hi)⟩
theorem ArgU.at {w : World} {A : Option Addr} {L : List Int} (h : ArgU w A L) {i : Nat} (hi : i < L.length) : ∃ b o, A = some ⟨b, o, none⟩ ∧ b < w.heap.size ∧ w.cell? ⟨b, o + i, none⟩ = some (.int .u64 L[i]) := by
  obtain ⟨b, o, hA, hb, hc⟩ := h (by omega)
  exact ⟨b, o, hA, hb, hc i hi⟩
def U64s (L : List Int) : Prop := ∀ k ∈ L, u64ok k
theorem U64s.at {L : List Int} (h : U64s L) {i : Nat} (hi : i < L.length) : u64ok L[i] := h _ (List.getElem_mem hi)
/-- A fit's last key, or 0. -/
def Fit.lst (F : Fit) : Int := F.keys.getLast?.getD 0
theorem Fit.late_eq (F : Fit) (key : Int) : F.late key = (decide (0 < (F.keys.length : Int)) && decide (key ≤ F.lst)) := by
  unfold Fit.late Fit.lst
  cases h : F.keys.getLast? with
  | none => rw [List.getLast?_eq_none_iff] at h; simp [h]
  | some l =>
    have : F.keys ≠ [] := by intro e; rw [e] at h; simp at h
    have : 0 < F.keys.length := List.length_pos_iff.2 this
    simp [this]
theorem FitOk.topL {F : Fit} (h : FitOk F) {e : Int} (he : 0 ≤ e) {key : Int} (hl : F.late key = false) : LowF (F.topWith e key) :=
  (topUp_min (n := F.keys.length) he (fun i hi => by omega) (h.lt hl) h.top F.keys.length (Nat.le_refl _)).is.elim (fun q => by rw [Fit.topWith, q]; exact h.top) (sTop_low he (fun i hi => by omega) (h.lt hl) (Nat.le_refl _) _)
theorem FitOk.lowL {F : Fit} (h : FitOk F) {e : Int} {key : Int} (hl : F.late key = false) : LowF (F.lowWith e key) :=
  (lowUp_max (n := F.keys.length) (h.lt hl) h.low F.keys.length (Nat.le_refl _)).is.elim (fun q => by rw [Fit.lowWith, q]; exact h.low) (sLow_low (h.lt hl) (Nat.le_refl _) _)
theorem Fit.add_late {F : Fit} {e key : Int} (h : F.late key = true) : F.add e key = ((false, 40), F) := by rw [Fit.add, if_pos h]
theorem Fit.add_take {F : Fit} {e key : Int} (h : F.late key = false) (k : ¬ ltF (F.topWith e key) (F.lowWith e key)) : F.add e key = ((true, 0), ⟨F.keys ++ [key], F.lowWith e key, F.topWith e key⟩) := by rw [Fit.add, if_neg (by simp [h]), if_neg k]
theorem Fit.add_refuse {F : Fit} {e key : Int} (h : F.late key = false) (k : ltF (F.topWith e key) (F.lowWith e key)) : F.add e key = ((false, 0), F) := by rw [Fit.add, if_neg (by simp [h]), if_pos k]
/-- The first keys are taken. -/
theorem Fit.add_first {F : Fit} (h : FitOk F) {e : Int} (he : 0 ≤ e) {key : Int} (h0 : F.low = (0, 1)) (hn : (F.keys.length : Int) ≤ 2 * e) (hl : F.late key = false) : ∃ t, F.add e key = ((true, 0), ⟨F.keys ++ [key], (0, 1), t⟩) := by
  have e1 : F.lowWith e key = (0, 1) := by
    rcases (lowUp_max (e := e) (n := F.keys.length) (h.lt hl) h.low F.keys.length (Nat.le_refl _)).is with q | ⟨i, hi, hp, _⟩
    · rw [Fit.lowWith, q, h0]
    · omega
  have k : ¬ ltF (F.topWith e key) (F.lowWith e key) := by
    have := (h.topL he hl).ok.num
    rw [e1]; unfold ltF; simp only []; omega
  exact ⟨_, by rw [Fit.add_take hl k, e1]⟩
end Go.Proofs.Ytnccgpdniigekaa
/-
  The reference's fractions: whole, Below, lowest.
-/
namespace Go.Proofs.Ytnccgpdniigekaa
open Go.RowKit
set_option linter.unusedVariables false
set_option linter.unusedSimpArgs false

theorem whole_plain (p11 p10 p01 p00 P : Int) (hP : P = p11 * 18446744073709551616 + (p10 + p01) * 4294967296 + p00) (h00 : 0 ≤ p00) (h10 : 0 ≤ p10) (h01 : 0 ≤ p01) (h11 : 0 ≤ p11)
    (k00 : p00 ≤ 18446744065119617025) (k10 : p10 ≤ 18446744065119617025) (k01 : p01 ≤ 18446744065119617025) (k11 : p11 ≤ 18446744065119617025) :
    p11 + (p10 + p00 / 4294967296) / 4294967296 + (p01 + (p10 + p00 / 4294967296) % 4294967296) / 4294967296 = P / 18446744073709551616 ∧
    IntKind.u64.wrap ((p01 + (p10 + p00 / 4294967296) % 4294967296) * 4294967296) + p00 % 4294967296 = P % 18446744073709551616 := by
  subst hP
  rw [IntKind.wrap_u64]
  omega
theorem whole_prod (a b : Int) : a * b = (a / 4294967296) * (b / 4294967296) * 18446744073709551616 + ((a / 4294967296) * (b % 4294967296) + (a % 4294967296) * (b / 4294967296)) * 4294967296 + (a % 4294967296) * (b % 4294967296) := by
  have ha : a = (a / 4294967296) * 4294967296 + a % 4294967296 := by omega
  have hb : b = (b / 4294967296) * 4294967296 + b % 4294967296 := by omega
  generalize a / 4294967296 = a1 at *; generalize a % 4294967296 = a0 at *; generalize b / 4294967296 = b1 at *; generalize b % 4294967296 = b0 at *
  subst ha hb
  grind
theorem half_prod {x y : Int} (h0 : 0 ≤ x) (h1 : x ≤ 4294967295) (h2 : 0 ≤ y) (h3 : y ≤ 4294967295) : 0 ≤ x * y ∧ x * y ≤ 18446744065119617025 :=
  ⟨Int.mul_nonneg h0 h2, by have := Int.mul_le_mul h1 h3 h2 (by omega : (0 : Int) ≤ 4294967295); omega⟩
set_option maxHeartbeats 2000000 in
theorem ref_whole (a b : Int) (ha : u64ok a) (hb : u64ok b) (w : World) :
    Calls Try.prog 101 #[.int .u64 a, .int .u64 b] w fun e w' => e = .returned (.tuple #[.int .u64 (a * b / 18446744073709551616), .int .u64 (a * b % 18446744073709551616)]) ∧ w = w' := by
  unfold u64ok at ha hb
  have W0 := whole_prod a b
  rw [← Int.tmod_eq_emod_of_nonneg ha.1, ← Int.tmod_eq_emod_of_nonneg hb.1, ← Int.tdiv_eq_ediv_of_nonneg (b := 4294967296) ha.1, ← Int.tdiv_eq_ediv_of_nonneg (b := 4294967296) hb.1] at W0
  obtain ⟨a0, ea0, ha0, ka0⟩ : ∃ x, a.tmod 4294967296 = x ∧ 0 ≤ x ∧ x ≤ 4294967295 := ⟨_, rfl, by rw [Int.tmod_eq_emod_of_nonneg ha.1]; omega, by rw [Int.tmod_eq_emod_of_nonneg ha.1]; omega⟩
  obtain ⟨b0, eb0, hb0, kb0⟩ : ∃ x, b.tmod 4294967296 = x ∧ 0 ≤ x ∧ x ≤ 4294967295 := ⟨_, rfl, by rw [Int.tmod_eq_emod_of_nonneg hb.1]; omega, by rw [Int.tmod_eq_emod_of_nonneg hb.1]; omega⟩
  obtain ⟨a1, ea1, ha1, ka1⟩ : ∃ x, a.tdiv 4294967296 = x ∧ 0 ≤ x ∧ x ≤ 4294967295 := ⟨_, rfl, by rw [Int.tdiv_eq_ediv_of_nonneg ha.1]; omega, by rw [Int.tdiv_eq_ediv_of_nonneg ha.1]; omega⟩
  obtain ⟨b1, eb1, hb1, kb1⟩ : ∃ x, b.tdiv 4294967296 = x ∧ 0 ≤ x ∧ x ≤ 4294967295 := ⟨_, rfl, by rw [Int.tdiv_eq_ediv_of_nonneg hb.1]; omega, by rw [Int.tdiv_eq_ediv_of_nonneg hb.1]; omega⟩
  rw [ea0, eb0, ea1, eb1] at W0
  obtain ⟨q00, k00⟩ := half_prod ha0 ka0 hb0 kb0
  obtain ⟨q10, k10⟩ := half_prod ha1 ka1 hb0 kb0
  obtain ⟨q01, k01⟩ := half_prod ha0 ka0 hb1 kb1
  obtain ⟨q11, k11⟩ := half_prod ha1 ka1 hb1 kb1
  obtain ⟨p00, e00⟩ : ∃ x, a0 * b0 = x := ⟨_, rfl⟩
  obtain ⟨p10, e10⟩ : ∃ x, a1 * b0 = x := ⟨_, rfl⟩
  obtain ⟨p01, e01⟩ : ∃ x, a0 * b1 = x := ⟨_, rfl⟩
  obtain ⟨p11, e11⟩ : ∃ x, a1 * b1 = x := ⟨_, rfl⟩
  rw [e00] at q00 k00 W0
  rw [e10] at q10 k10 W0
  rw [e01] at q01 k01 W0
  rw [e11] at q11 k11 W0
  have W := Lib.hid (whole_plain _ _ _ _ _ W0 q00 q10 q01 q11 k00 k10 k01 k11)
  have R := Lib.hid (show p11 + (p10 + p00 / 4294967296) / 4294967296 + (p01 + (p10 + p00 / 4294967296) % 4294967296) / 4294967296 ≤ 18446744073709551615 by omega)
  clear W0 ha hb
  go_enter Try.func101, Try.ntmps101
  go_wp2
  go_ret2
  refine ⟨?_, rfl⟩
  have h1 := W.out.1
  have h2 := W.out.2
  have h3 : IntKind.u64.wrap (IntKind.u64.wrap ((p01 + (p10 + p00 / 4294967296) % 4294967296) * 4294967296) + p00 % 4294967296) = a * b % 18446744073709551616 := by
    rw [h2, IntKind.wrap_u64]; omega
  show Ending.returned (.tuple #[.int .u64 (p11 + (p10 + p00 / 4294967296) / 4294967296 + (p01 + (p10 + p00 / 4294967296) % 4294967296) / 4294967296), .int .u64 (IntKind.u64.wrap (IntKind.u64.wrap ((p01 + (p10 + p00 / 4294967296) % 4294967296) * 4294967296) + p00 % 4294967296))]) = _
  rw [h3, h1]
theorem whole_lt {P Q : Int} (hP : 0 ≤ P) (hQ : 0 ≤ Q) : (decide (P / 18446744073709551616 < Q / 18446744073709551616) || (P / 18446744073709551616 == Q / 18446744073709551616 && decide (P % 18446744073709551616 < Q % 18446744073709551616))) = decide (P < Q) := by
  rw [Bool.eq_iff_iff]; simp; omega
set_option maxHeartbeats 2000000 in
theorem ref_Below (a b : Fr) (ha1 : u64ok a.1) (ha2 : u64ok a.2) (hb1 : u64ok b.1) (hb2 : u64ok b.2) (oa : OkF a) (ob : OkF b) (w : World) :
    Calls Try.prog 85 #[.agg #[.int .u64 a.1, .int .u64 a.2], .agg #[.int .u64 b.1, .int .u64 b.2]] w fun e w' => e = .returned (.bool (decide (ltF a b))) ∧ Below w.heap.size w w' := by
  have s1 := oa.some; have s2 := ob.some
  have T1 := fun w => ref_whole a.1 b.2 ha1 hb2 w
  have T2 := fun w => ref_whole b.1 a.2 hb1 ha2 w
  have r1 := oa.num; have r2 := oa.den; have r3 := ob.num; have r4 := ob.den
  clear oa ob ha1 ha2 hb1 hb2
  obtain ⟨an, ad⟩ := a
  obtain ⟨bn, bd⟩ := b
  simp only [] at *
  by_cases ha : ad = 0
  · subst ha
    have E : Hid (decide (ltF (an, 0) (bn, bd)) = false) := Lib.hid (by
      have := Int.mul_nonneg r1 r4
      unfold ltF; simp; omega)
    clear T1 T2
    go_enter Try.func85, Try.ntmps85
    go_wp2
    go_ret
    exact ⟨by rw [E.out]; rfl, below_new (below_new (Below.refl _ _) _) _⟩
  · have ha0 : (ad == 0) = false := by simpa using ha
    have ha9 : (ad != 0) = true := by simpa using ha
    by_cases hb : bd = 0
    · subst hb
      have E : Hid (decide (ltF (an, ad) (bn, 0)) = true) := Lib.hid (by
        have : 0 < bn * ad := Int.mul_pos (by omega) (by omega)
        unfold ltF; simp; omega)
      clear T1 T2
      go_enter Try.func85, Try.ntmps85
      go_wp2
      go_ret
      exact ⟨by rw [E.out]; rfl, below_new (below_new (Below.refl _ _) _) _⟩
    · have hb0 : (bd == 0) = false := by simpa using hb
      have E : Hid (∀ x : Bool, x = decide (an * bd < bn * ad) → x = decide (ltF (an, ad) (bn, bd))) := Lib.hid (fun x h => by rw [h]; rfl)
      have EW := Lib.hid (whole_lt (Int.mul_nonneg r1 r4) (Int.mul_nonneg r3 r2))
      obtain ⟨P, hP⟩ : ∃ P, an * bd = P := ⟨_, rfl⟩
      obtain ⟨Q, hQ⟩ : ∃ Q, bn * ad = Q := ⟨_, rfl⟩
      rw [hP] at T1 EW
      rw [hQ] at T2 EW
      rw [hP, hQ] at E
      obtain ⟨p1, e1⟩ : ∃ x, P / 18446744073709551616 = x := ⟨_, rfl⟩
      obtain ⟨p2, e2⟩ : ∃ x, P % 18446744073709551616 = x := ⟨_, rfl⟩
      obtain ⟨q1, e3⟩ : ∃ x, Q / 18446744073709551616 = x := ⟨_, rfl⟩
      obtain ⟨q2, e4⟩ : ∃ x, Q % 18446744073709551616 = x := ⟨_, rfl⟩
      rw [e1, e2] at T1 EW
      rw [e3, e4] at T2 EW
      clear hP hQ e1 e2 e3 e4 s1 s2 r1 r2 r3 r4 ha hb
      have X := Lib.hid (E.out _ EW.out)
      go_enter Try.func85, Try.ntmps85
      go_wp2_with fail
      refine (T1 _).mono ?_
      rintro e w1 ⟨rfl, rfl⟩
      go_wp2_with fail
      refine (T2 _).mono ?_
      rintro e w1 ⟨rfl, rfl⟩
      clear T1 T2
      go_wp2_with fail
      all_goals go_ret
      all_goals refine ⟨?_, below_new (below_new (Below.refl _ _) _) _⟩
      all_goals rw [← X.out]
      all_goals refine congrArg (fun b => Ending.returned (.bool b)) ?_
      · have h : p1 = q1 := by assumption
        have k : ¬ p1 < q1 := by omega
        show decide (p2 < q2) = _
        simp [h]
      · have h : ¬ p1 = q1 := by assumption
        have k : ¬ p1 < q1 := by omega
        show decide (p1 < q1) = _
        simp [h, k]
      · have h : p1 < q1 := by assumption
        show true = _
        simp [h]
end Go.Proofs.Ytnccgpdniigekaa
/-
  Plain: a fit narrows.
-/
namespace Go.Proofs.Ytnccgpdniigekaa
open Go.RowKit
set_option linter.unusedVariables false
set_option linter.unusedSimpArgs false

/-- The least slope is no more than 1, the greatest more than 0. -/
structure NarOk (F : Fit) : Prop where
  low : F.low.1 ≤ F.low.2
  den : F.low.2 ≠ 0
  top : F.top.1 ≠ 0
theorem NarOk.zero : NarOk Fit.zero := ⟨by decide, by decide, by decide⟩
theorem Fit.add_not {F : Fit} {e key c : Int} {F' : Fit} (ha : F.add e key = ((false, c), F')) : F' = F := by
  unfold Fit.add at ha
  split at ha
  · exact (Prod.mk.inj ha).2.symm
  · split at ha
    · exact (Prod.mk.inj ha).2.symm
    · simp at ha
theorem FitO.f64 {w : World} {b : Nat} {e : Int} {F : Fit} {S : Nat → Prop} (h : FitO w b e F S) : Fr64 F.low ∧ Fr64 F.top := by obtain ⟨_, _, s⟩ := h.s; exact ⟨s.fl, s.ft⟩
theorem Mine.f64 {w0 w : World} {b : Nat} {e : Int} {F : Fit} (h : Mine w0 b e F w) : Fr64 F.low ∧ Fr64 F.top := by obtain ⟨S, h1, _⟩ := h; exact h1.f64
theorem Mine.ok' {w0 w : World} {b : Nat} {e : Int} {F : Fit} (h : Mine w0 b e F w) : FitOk F := by obtain ⟨S, h1, _⟩ := h; exact h1.ok
theorem Fr64.u1 {a : Fr} (h : Fr64 a) : u64ok a.1 := by have := h.num; unfold u64ok; omega
theorem Fr64.u2 {a : Fr} (h : Fr64 a) : u64ok a.2 := by have := h.den; unfold u64ok; omega
end Go.Proofs.Ytnccgpdniigekaa
