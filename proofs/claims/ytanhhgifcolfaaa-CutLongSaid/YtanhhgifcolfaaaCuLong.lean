/-
  The law CutLong: each stretch is as long as can be.
-/
import Derived.Test.YtanhhgifcolfaaaCuFew
namespace Go.Proofs.Ytanhhgifcolfaaa
open Go.RowKit
set_option linter.unusedVariables false
set_option linter.unusedSimpArgs false

/-- The fit over some keys from a place on. -/
def runF (e : Int) (L : List Int) (p : Nat) : Nat → Fit
  | 0 => Fit.zero
  | d + 1 => ((runF e L p d).add e (L.getD (p + d) 0)).2
def RunTo (e : Int) (L : List Int) (p a : Nat) : Prop := ∀ d, d < a - p → ((runF e L p d).add e (L.getD (p + d) 0)).1.1 = true
def RefAt (e : Int) (L : List Int) (p a : Nat) : Prop := ((runF e L p (a - p)).add e (L.getD a 0)).1.1 = false
def LongL (e : Int) (L : List Int) : Nat → List Nat → Prop
  | _, [] => True
  | p, a :: r => (RunTo e L p a ∧ RefAt e L p a) ∧ LongL e L a r
theorem LongL.snoc {e : Int} {L : List Int} : ∀ {l : List Nat} {p a : Nat}, LongL e L p l → RunTo e L (lastN p l) a → RefAt e L (lastN p l) a → LongL e L p (l ++ [a])
  | [], p, a, _, h, k => ⟨⟨h, k⟩, trivial⟩
  | b :: r, p, a, hs, h, k => ⟨hs.1, LongL.snoc hs.2 h k⟩
theorem LongL.at {e : Int} {L : List Int} : ∀ {l : List Nat} {p : Nat}, LongL e L p l → ∀ i (h : i < l.length), RunTo e L (prevN p l i) l[i] ∧ RefAt e L (prevN p l i) l[i]
  | [], p, _, i, h => absurd h (by simp)
  | b :: r, p, hs, 0, h => by simpa [prevN] using hs.1
  | b :: r, p, hs, i + 1, h => by
    have ih := LongL.at hs.2 i (by simpa using h)
    cases i with
    | zero => simpa [prevN] using ih
    | succ i => simpa [prevN] using ih
structure CL (e : Int) (L : List Int) (i : Nat) (outs : List Nat) (F : Fit) : Prop where
  run : F = runF e L (lastN 0 outs) (i - lastN 0 outs)
  upto : RunTo e L (lastN 0 outs) i
  long : LongL e L 0 outs
theorem run_one {e : Int} (he : 0 ≤ e) (L : List Int) (i : Nat) : (Fit.zero.add e (L.getD i 0)).2 = runF e L i (i + 1 - i) ∧ RunTo e L i (i + 1) := by
  have h1 : i + 1 - i = 1 := by omega
  refine ⟨by rw [h1]; rfl, fun d hd => ?_⟩
  obtain rfl : d = 0 := by omega
  rw [runF, Fit.add_zero he]
theorem CL.all {e : Int} (he : 0 ≤ e) {L : List Int} (hu : L.Pairwise (· < ·)) : ∀ i, i < L.length → CL e L (i + 1) (cutS e L (i + 1)).1 (cutS e L (i + 1)).2
  | 0, _ => by
    rw [cutS_one he]
    obtain ⟨h1, h2⟩ := run_one he L 0
    exact ⟨h1, h2, trivial⟩
  | i + 1, hi => by
    have ih := CL.all he hu i (by omega)
    have hf := (CI.all he hu i (by omega)).frm
    obtain ⟨outs, F, hq⟩ : ∃ outs F, cutS e L (i + 1) = (outs, F) := ⟨_, _, rfl⟩
    rw [hq] at ih hf
    replace ih : CL e L (i + 1) outs F := ih
    replace hf : lastN 0 outs < i + 1 := hf
    rw [cutS, hq]
    simp only []
    have hd : lastN 0 outs + (i + 1 - lastN 0 outs) = i + 1 := by omega
    by_cases ht : (F.add e (L.getD (i + 1) 0)).1.1 = true
    · rw [if_pos ht]
      show CL e L (i + 1 + 1) outs (F.add e (L.getD (i + 1) 0)).2
      have hs : i + 1 + 1 - lastN 0 outs = (i + 1 - lastN 0 outs) + 1 := by omega
      refine ⟨by rw [hs, runF, hd, ← ih.run], fun d hdl => ?_, ih.long⟩
      by_cases hdd : d < i + 1 - lastN 0 outs
      · exact ih.upto d hdd
      · obtain rfl : d = i + 1 - lastN 0 outs := by omega
        rw [hd, ← ih.run]; exact ht
    · rw [if_neg ht]
      show CL e L (i + 1 + 1) (outs ++ [i + 1]) (Fit.zero.add e (L.getD (i + 1) 0)).2
      obtain ⟨h1, h2⟩ := run_one he L (i + 1)
      have hla := lastN_snoc outs 0 (i + 1)
      refine ⟨by rw [hla]; exact h1, by rw [hla]; exact h2, ih.long.snoc ih.upto ?_⟩
      unfold RefAt
      rw [← ih.run]
      simpa using ht
/-- What the law reads of the ends. -/
theorem long_at {e : Int} (he : 0 ≤ e) {L : List Int} (hu : L.Pairwise (· < ·)) : prevN 0 (endsL e L) (endsL e L).length = L.length ∧ ∀ i (h : i < (endsL e L).length),
    prevN 0 (endsL e L) i < (endsL e L)[i] ∧ (endsL e L)[i] ≤ L.length ∧ prevN 0 (endsL e L) (i + 1) = (endsL e L)[i] ∧ RunTo e L (prevN 0 (endsL e L) i) (endsL e L)[i] ∧ ((endsL e L)[i] < L.length → RefAt e L (prevN 0 (endsL e L) i) (endsL e L)[i]) := by
  by_cases h0 : L.length = 0
  · have hz : endsL e L = [] := by rw [endsL, if_pos h0]
    simp only [hz]
    exact ⟨by simp [prevN, h0], fun i h => absurd h (by simp)⟩
  · obtain ⟨outs, hends, hs, hf, hlen⟩ := few he hu (by omega)
    have hc := CL.all he hu (L.length - 1) (by omega)
    rw [show L.length - 1 + 1 = L.length from by omega] at hc
    have ho : (cutS e L L.length).1 = outs := by
      rw [endsL, if_neg h0] at hends
      exact (List.append_inj' hends rfl).1
    rw [ho] at hc
    simp only [hends]
    refine ⟨by rw [lastN_prev, lastN_snoc], fun i h => ?_⟩
    obtain ⟨f1, f2, f3, f4⟩ := few_at hs (by omega) hf h
    refine ⟨f1, f3, f4, ?_⟩
    have hpi : i ≤ outs.length → prevN 0 (outs ++ [L.length]) i = prevN 0 outs i := by
      intro hi
      cases i with
      | zero => rfl
      | succ i =>
        simp only [prevN, Nat.add_sub_cancel, if_neg (Nat.succ_ne_zero i), List.getD_eq_getElem?_getD]
        rw [List.getElem?_append_left (by omega)]
    have hil : i ≤ outs.length := by simp at h; omega
    rw [hpi hil]
    by_cases hlt : i < outs.length
    · have e1 : (outs ++ [L.length])[i] = outs[i] := List.getElem_append_left hlt
      rw [e1]
      have := hc.long.at i hlt
      exact ⟨this.1, fun _ => this.2⟩
    · obtain rfl : i = outs.length := by omega
      have e1 : (outs ++ [L.length])[outs.length] = L.length := by simp
      rw [e1, lastN_prev]
      exact ⟨hc.upto, fun h => absurd h (by omega)⟩
theorem runF_len {e : Int} (L : List Int) (p : Nat) : ∀ d, (runF e L p d).keys.length ≤ d
  | 0 => by simp [runF, Fit.zero]
  | d + 1 => by have := runF_len (e := e) L p d; have := Fit.add_len (F := runF e L p d) (e := e) (key := L.getD (p + d) 0); rw [runF]; omega
/-- A fit of the reference's, all its blocks made since w0. -/
def RMine (w0 : World) (b : Nat) (e : Int) (F : Fit) (w : World) : Prop := ∃ S, RefO w b e F S ∧ (∀ k, S k → w0.heap.size ≤ k) ∧ Below w0.heap.size w0 w
theorem RMine.bel {w0 w : World} {b : Nat} {e : Int} {F : Fit} (h : RMine w0 b e F w) : Below w0.heap.size w0 w := by obtain ⟨S, h1, h2, h3⟩ := h; exact h3
theorem RMine.add {w0 w : World} {b : Nat} {e : Int} {F F' : Fit} {key : Int} {t : Bool} {c : Int} (hp : F.add e key = ((t, c), F')) (hk : u64ok key) (big : F.keys.length < 17592186044416) (H : RMine w0 b e F w) :
    Calls Try.prog 18 #[.pointer (some ⟨b, 0, none⟩), .int .u64 key] w fun e' w' => e' = .returned (.tuple #[.bool t, .int .i64 c]) ∧ RMine w0 b e F' w' := by
  obtain ⟨S, h1, h2, h3⟩ := H
  refine (ref_AddO key hk big h1).mono ?_
  rintro e' w' ⟨rfl, S', f1, f2, f3⟩
  rw [hp] at f1 ⊢
  refine ⟨rfl, S', f1, fun k hk => ?_, below_chg h3 f2 (fun k _ hk => h2 k hk) h3.size⟩
  rcases f3 k hk with m | m
  · exact h2 k m
  · have := h3.size; omega
theorem RMine.new {eps : Int} (h1 : 2 ≤ eps) (h2 : eps ≤ 64) {w0 w : World} (hb : Below w0.heap.size w0 w) : Calls Try.prog 34 #[.int .i64 eps] w fun e' w' =>
    ∃ b, e' = .returned (.tuple #[.pointer (some ⟨b, 0, none⟩), .int .i64 0]) ∧ RMine w0 b (eps - 1) Fit.zero w' :=
  (ref_New eps h1 h2 w).mono fun e' w' ⟨he, k, ho⟩ => ⟨_, he, _, ho, fun i hi => by have := hb.size; omega, below_next hb k⟩
end Go.Proofs.Ytanhhgifcolfaaa
