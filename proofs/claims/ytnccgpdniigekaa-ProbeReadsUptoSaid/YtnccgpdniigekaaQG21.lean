/-
  Plain: where the stretches end; a fit and a list of ends in memory.
-/
import Derived.Test.YtnccgpdniigekaaQG9
import Derived.WalkMore
import Derived.Test.YtnccgpdniigekaaQG10
namespace Go.Proofs.Ytnccgpdniigekaa
open Go.RowKit
set_option linter.unusedVariables false
set_option linter.unusedSimpArgs false

theorem Fit.add_len' {F : Fit} {e key : Int} : (F.add e key).2.keys.length ≤ F.keys.length + 1 := by
  unfold Fit.add
  split
  · simp
  · split
    · simp
    · simp
/-- The first key is always taken. -/
theorem Fit.add_zero {e : Int} (he : 0 ≤ e) (k : Int) : (Fit.zero.add e k).1 = (true, 0) := by
  obtain ⟨t, h⟩ := Fit.add_first FitOk.zero he (key := k) rfl (by simp [Fit.zero]; omega) (by rfl)
  rw [h]
/-- The ends so far, and the fit that is under way. -/
def cutS (e : Int) (L : List Int) : Nat → List Nat × Fit
  | 0 => ([], Fit.zero)
  | i + 1 => if ((cutS e L i).2.add e (L.getD i 0)).1.1 = true then ((cutS e L i).1, ((cutS e L i).2.add e (L.getD i 0)).2) else ((cutS e L i).1 ++ [i], (Fit.zero.add e (L.getD i 0)).2)
/-- Where the stretches end. -/
def endsL (e : Int) (L : List Int) : List Nat := if L.length = 0 then [] else (cutS e L L.length).1 ++ [L.length]
theorem cutS_one {e : Int} (he : 0 ≤ e) (L : List Int) : cutS e L 1 = ([], (Fit.zero.add e (L.getD 0 0)).2) := by
  rw [cutS, cutS]
  simp only []
  rw [if_pos (by rw [Fit.add_zero he])]
theorem cutS_len {e : Int} (he : 0 ≤ e) (L : List Int) : ∀ i, (cutS e L (i + 1)).1.length ≤ i
  | 0 => by rw [cutS_one he]; simp
  | i + 1 => by
    have ih := cutS_len he L i
    rw [cutS]
    split
    · simp only []; omega
    · simp only [List.length_append, List.length_cons, List.length_nil]; omega
theorem cutS_keys {e : Int} (L : List Int) : ∀ i, (cutS e L i).2.keys.length ≤ i
  | 0 => by simp [cutS, Fit.zero]
  | i + 1 => by
    have ih := cutS_keys (e := e) L i
    rw [cutS]
    split
    · have := Fit.add_len' (F := (cutS e L i).2) (e := e) (key := L.getD i 0); simp only []; omega
    · have h := Fit.add_len' (F := Fit.zero) (e := e) (key := L.getD i 0); have h0 : Fit.zero.keys.length = 0 := rfl; rw [h0] at h; simp only []; omega
/-- A stretch begins at j. -/
def Start (e : Int) (L : List Int) (j : Nat) (outs : List Nat) : Prop := cutS e L (j + 1) = (outs, (Fit.zero.add e (L.getD j 0)).2)
theorem Start.zero {e : Int} (he : 0 ≤ e) (L : List Int) : Start e L 0 [] := cutS_one he L
theorem Start.next {e : Int} {L : List Int} {i : Nat} {outs : List Nat} {F : Fit} (h : cutS e L i = (outs, F)) (hr : (F.add e (L.getD i 0)).1.1 = false) : Start e L i (outs ++ [i]) := by
  rw [Start, cutS, h]
  simp only []
  rw [if_neg (by rw [hr]; simp)]
theorem cutS_go {e : Int} {L : List Int} {i : Nat} {outs : List Nat} {F : Fit} (h : cutS e L i = (outs, F)) (hr : (F.add e (L.getD i 0)).1.1 = true) : cutS e L (i + 1) = (outs, (F.add e (L.getD i 0)).2) := by
  rw [cutS, h]
  simp only []
  rw [if_pos hr]
theorem endsL_of {e : Int} {L : List Int} {outs : List Nat} {F : Fit} (h0 : 0 < L.length) (h : cutS e L L.length = (outs, F)) : endsL e L = outs ++ [L.length] := by
  rw [endsL, if_neg (by omega), h]
/-- Numbers in memory. -/
def Ints (w : World) (v : Value) (l : List Nat) : Prop := w.ownsRow 0 3 1 v l.length (l.map fun (n : Nat) => Value.int .i64 (n : Int))
theorem infoI : (Try.prog.info? 3).map (fun i => (i.zero, i.size, i.bytes)) = some (some (.int .i64 0), 1, 8) := by kernel_rfl
/-- A fit and the ends so far, all made since w0. -/
def EM (w0 : World) (b : Nat) (e : Int) (F : Fit) (v : Value) (l : List Nat) (w : World) : Prop :=
  ∃ S, FitO w b e F S ∧ Ints w v l ∧ (∀ g, v.ownBlock = some g → ¬ S g ∧ w0.heap.size ≤ g) ∧ (∀ k, S k → w0.heap.size ≤ k) ∧ Below w0.heap.size w0 w
section
variable {w0 w w' : World} {b : Nat} {e : Int} {F F' : Fit} {v : Value} {l : List Nat}
theorem EM.bel (h : EM w0 b e F v l w) : Below w0.heap.size w0 w := by obtain ⟨_, _, _, _, _, h⟩ := h; exact h
theorem EM.ints (h : EM w0 b e F v l w) : Ints w v l ∧ (∀ g, v.ownBlock = some g → w0.heap.size ≤ g) := by obtain ⟨_, _, h1, h2, _⟩ := h; exact ⟨h1, fun g hg => (h2 g hg).2⟩
theorem EM.below (h : EM w0 b e F v l w) (k : Below w.heap.size w w') : EM w0 b e F v l w' := by
  obtain ⟨S, h1, h2, h3, h4, h5⟩ := h
  exact ⟨S, h1.below k, own_chg h2 (Chg.of_below k) (fun _ _ h => h), h3, h4, below_next h5 k⟩
theorem EM.add (h : EM w0 b e F v l w) {key c : Int} {t : Bool} (hp : F.add e key = ((t, c), F')) (hk : u64ok key) (big : F.keys.length < 17592186044416) :
    Calls Try.prog 81 #[.pointer (some ⟨b, 0, none⟩), .int .u64 key] w fun e' w' => e' = .returned (.tuple #[.bool t, .int .i64 c]) ∧ EM w0 b e F' v l w' := by
  obtain ⟨S, h1, h2, h3, h4, h5⟩ := h
  refine (hull_AddO key hk big h1).mono ?_
  rintro e' w' ⟨rfl, S', f1, f2, f3⟩
  rw [hp] at f1 ⊢
  refine ⟨rfl, S', f1, own_chg h2 f2 (fun g hg => (h3 g hg).1), fun g hg => ⟨fun hs => ?_, (h3 g hg).2⟩, fun k hk => ?_, below_chg h5 f2 (fun k _ hk => h4 k hk) h5.size⟩
  · rcases f3 g hs with m | m
    · exact (h3 g hg).1 m
    · have := own_lt h2 hg; omega
  · rcases f3 k hk with m | m
    · exact h4 k m
    · have := h5.size; omega
/-- Another fit in its place. -/
theorem EM.fresh (h : EM w0 b e F v l w) {b' : Nat} {S' : Nat → Prop} (k : Below w.heap.size w w') (H : FitO w' b' e F' S') (hS : ∀ i, S' i → w.heap.size ≤ i) : EM w0 b' e F' v l w' := by
  obtain ⟨S, h1, h2, h3, h4, h5⟩ := h
  exact ⟨S', H, own_chg h2 (Chg.of_below k) (fun _ _ h => h), fun g hg => ⟨fun hs => by have := own_lt h2 hg; have := hS g hs; omega, (h3 g hg).2⟩, fun i hi => Nat.le_trans h5.size (hS i hi), below_next h5 k⟩
/-- The ends with one more. -/
theorem EM.grown (h : EM w0 b e F v l w) {o : Obj} {w1 : World} {g cap i : Nat} (hown : w1.ownsRow 0 3 1 (.slice (some ⟨g, 0, none⟩) (l.length + 1) cap) (l.length + 1) (l.map (fun (n : Nat) => Value.int .i64 (n : Int)) ++ [.int .i64 (i : Int)])) (hgr : (w.alloc o).grownBy w1 v.ownBlock) (hat : v.ownBlock = some g ∨ g = w.heap.size + 1) :
    EM w0 b e F (.slice (some ⟨g, 0, none⟩) (l.length + 1) cap) (l ++ [i]) w1 := by
  obtain ⟨S, h1, h2, h3, h4, h5⟩ := h
  have C : Chg (fun k => v.ownBlock = some k) w w1 := ((Chg.refl _ w).alloc o).grown hgr (fun k hk _ => hk)
  have hlt := h1.lt
  refine ⟨S, h1.chg C (fun j hj hv => (h3 j hv).1 hj), ?_, fun g' hg' => ?_, h4, below_chg h5 C (fun k _ hk => (h3 k hk).2) h5.size⟩
  · unfold Ints
    simpa using hown
  · simp only [Value.ownBlock, Option.some.injEq] at hg'
    subst hg'
    rcases hat with m | m
    · exact h3 _ m
    · exact ⟨fun hs => by have := hlt _ hs; omega, by have := h5.size; omega⟩
end
end Go.Proofs.Ytnccgpdniigekaa
/-
  cut.Ends.
-/
namespace Go.Proofs.Ytnccgpdniigekaa
open Go.RowKit
set_option linter.unusedVariables false
set_option linter.unusedSimpArgs false

end Go.Proofs.Ytnccgpdniigekaa
/-
  The statements' helpers: same, right; the examples at the head.
-/
namespace Go.Proofs.Ytnccgpdniigekaa
open Go.RowKit
set_option linter.unusedVariables false
set_option linter.unusedSimpArgs false

/-- The slice reads as these numbers. -/
def ArgN (w : World) (A : Option Addr) (l : List Nat) : Prop := 0 < l.length → ∃ b o, A = some ⟨b, o, none⟩ ∧ b < w.heap.size ∧ ∀ i (h : i < l.length), w.cell? ⟨b, o + i, none⟩ = some (.int .i64 (l[i] : Int))
theorem ArgN.below {w w' : World} {A : Option Addr} {l : List Nat} (h : ArgN w A l) (k : Below w.heap.size w w') : ArgN w' A l := fun hn => by
  obtain ⟨b, o, hA, hb, hc⟩ := h hn
  exact ⟨b, o, hA, Nat.lt_of_lt_of_le hb k.size, fun i hi => (k.cell (p := ⟨b, _, none⟩) hb).trans (hc i hi)⟩
theorem ArgN.at {w : World} {A : Option Addr} {l : List Nat} (h : ArgN w A l) {i : Nat} (hi : i < l.length) : ∃ b o, A = some ⟨b, o, none⟩ ∧ b < w.heap.size ∧ w.cell? ⟨b, o + i, none⟩ = some (.int .i64 (l[i] : Int)) := by
  obtain ⟨b, o, hA, hb, hc⟩ := h (by omega)
  exact ⟨b, o, hA, hb, hc i hi⟩
theorem Ints.arg {w : World} {v : Value} {l : List Nat} (h : Ints w v l) : ∃ A c, v = .slice A l.length c ∧ ArgN w A l ∧ l.length ≤ 17592186044416 ∨ l.length > 17592186044416 := by
  rcases Nat.lt_or_ge 17592186044416 l.length with k | k
  · exact ⟨none, 0, .inr k⟩
  · rcases h.2 with ⟨hv, h0⟩ | ⟨g, cap, cur, hv, hr⟩
    · exact ⟨none, 0, .inl ⟨by rw [hv, h0], fun h => by omega, k⟩⟩
    · have hlt : g < w.heap.size := Blk.lt (t := 3) hr.2.1
      refine ⟨_, _, .inl ⟨hv, fun _ => ⟨g, 0, rfl, hlt, fun i hi => ?_⟩, k⟩⟩
      have hc := World.ownsRow.cells h (g := g) (by rw [hv]; rfl) i (.int .i64 (l[i] : Int)) (by simp [List.getElem?_eq_getElem hi])
      rw [Addr.add_mid] at hc
      exact hc
theorem endsL_len {e : Int} (he : 0 ≤ e) (L : List Int) : (endsL e L).length ≤ L.length := by
  unfold endsL
  split
  · simp
  · have := cutS_len he L (L.length - 1)
    rw [show L.length - 1 + 1 = L.length from by omega] at this
    simp only [List.length_append, List.length_cons, List.length_nil]; omega
/-- Whether keys rise, and an eps may be. -/
def Good (eps : Int) (L : List Int) : Prop := 2 ≤ eps ∧ eps ≤ 64 ∧ L.Pairwise (· < ·)
end Go.Proofs.Ytnccgpdniigekaa
/-
  'shown' of the statements about cuts is true.
-/
namespace Go.Proofs.Ytnccgpdniigekaa
open Go.RowKit
set_option linter.unusedVariables false
set_option linter.unusedSimpArgs false

end Go.Proofs.Ytnccgpdniigekaa
/-
  Plain: keys moved by a number. A list of numbers that grows in memory.
-/
namespace Go.Proofs.Ytnccgpdniigekaa
open Go.RowKit
set_option linter.unusedVariables false
set_option linter.unusedSimpArgs false

/-- Numbers of 64 bits that the call itself gathers. -/
def Us (w0 : World) (v : Value) (l : List Int) (w : World) : Prop := w.ownsRow 0 24 1 v l.length (l.map (Value.int .u64)) ∧ (∀ g, v.ownBlock = some g → w0.heap.size ≤ g) ∧ Below w0.heap.size w0 w
section
variable {w0 w w' : World} {v : Value} {l : List Int}
theorem Us.below (h : Us w0 v l w) (k : Below w.heap.size w w') : Us w0 v l w' := ⟨own_chg h.1 (Chg.of_below k) (fun _ _ h => h), h.2.1, below_next h.2.2 k⟩
theorem Us.grown (h : Us w0 v l w) {o : Obj} {w1 : World} {g cap : Nat} {x : Int} (hown : w1.ownsRow 0 24 1 (.slice (some ⟨g, 0, none⟩) (l.length + 1) cap) (l.length + 1) (l.map (Value.int .u64) ++ [.int .u64 x])) (hgr : (w.alloc o).grownBy w1 v.ownBlock) (hat : v.ownBlock = some g ∨ g = w.heap.size + 1) :
    Us w0 (.slice (some ⟨g, 0, none⟩) (l.length + 1) cap) (l ++ [x]) w1 := by
  have C : Chg (fun k => v.ownBlock = some k) w w1 := ((Chg.refl _ w).alloc o).grown hgr (fun k hk _ => hk)
  refine ⟨by simpa using hown, fun g' hg' => ?_, below_chg h.2.2 C (fun k _ hk => h.2.1 k hk) h.2.2.size⟩
  simp only [Value.ownBlock, Option.some.injEq] at hg'
  subst hg'
  rcases hat with m | m
  · exact h.2.1 _ m
  · have := h.2.2.size; omega
theorem Us.arg (h : Us w0 v l w) : ∃ A c, v = .slice A l.length c ∧ ArgU w A l := by
  rcases h.1.2 with ⟨hv, h0⟩ | ⟨g, cap, cur, hv, hr⟩
  · exact ⟨none, 0, by rw [hv, h0], fun h => by omega⟩
  · have hlt : g < w.heap.size := Blk.lt (t := 24) hr.2.1
    refine ⟨_, _, hv, fun _ => ⟨g, 0, rfl, hlt, fun i hi => ?_⟩⟩
    have hc := World.ownsRow.cells h.1 (g := g) (by rw [hv]; rfl) i (.int .u64 l[i]) (by simp [List.getElem?_eq_getElem hi])
    rw [Addr.add_mid] at hc
    exact hc
end
end Go.Proofs.Ytnccgpdniigekaa
/-
  Plain: each stretch but the last has many keys.
-/
namespace Go.Proofs.Ytnccgpdniigekaa
open Go.RowKit
set_option linter.unusedVariables false
set_option linter.unusedSimpArgs false

/-- Each number is m or more beyond the one ahead. -/
def Spc (m : Int) : Int → List Nat → Prop
  | _, [] => True
  | p, a :: r => p + m ≤ a ∧ Spc m a r
def lastN : Nat → List Nat → Nat
  | p, [] => p
  | _, a :: r => lastN a r
theorem lastN_snoc : ∀ (l : List Nat) (p a : Nat), lastN p (l ++ [a]) = a
  | [], p, a => rfl
  | b :: r, p, a => lastN_snoc r b a
theorem Spc.snoc {m : Int} : ∀ {l : List Nat} {p a : Nat}, Spc m p l → (lastN p l : Int) + m ≤ a → Spc m p (l ++ [a])
  | [], p, a, _, h => ⟨h, trivial⟩
  | b :: r, p, a, hs, h => ⟨hs.1, Spc.snoc hs.2 h⟩
theorem Spc.len {m : Int} : ∀ {l : List Nat} {p : Nat}, Spc m p l → (p : Int) + l.length * m ≤ lastN p l
  | [], p, _ => by simp [lastN]
  | b :: r, p, h => by
    have ih := Spc.len h.2
    have h1 := h.1
    simp only [lastN, List.length_cons]
    have e : (((r.length + 1 : Nat) : Int)) * m = r.length * m + m := by rw [Int.natCast_add, Int.add_mul]; omega
    omega
/-- The number ahead of the i-th. -/
def prevN (p : Nat) (l : List Nat) (i : Nat) : Nat := if i = 0 then p else l.getD (i - 1) 0
theorem Spc.at {m : Int} : ∀ {l : List Nat} {p : Nat}, Spc m p l → ∀ i (h : i < l.length), (prevN p l i : Int) + m ≤ l[i]
  | [], p, _, i, h => absurd h (by simp)
  | b :: r, p, hs, 0, h => by simpa [prevN] using hs.1
  | b :: r, p, hs, i + 1, h => by
    have ih := Spc.at hs.2 i (by simpa using h)
    cases i with
    | zero => simpa [prevN] using ih
    | succ i => simpa [prevN] using ih
theorem lastN_prev : ∀ (l : List Nat) (p : Nat), prevN p l l.length = lastN p l
  | [], p => by simp [prevN, lastN]
  | [b], p => by simp [prevN, lastN]
  | b :: c :: r, p => by
    have := lastN_prev (c :: r) b
    simp [prevN, lastN] at this ⊢
    exact this
/-- What holds of the ends and of the fit, i keys in. -/
structure CI (e : Int) (L : List Int) (i : Nat) (outs : List Nat) (F : Fit) : Prop where
  frm : lastN 0 outs < i
  len : F.keys.length = i - lastN 0 outs
  ok : FitOk F
  low : (F.keys.length : Int) ≤ 2 * e + 1 → F.low = (0, 1)
  lst : F.keys.getLast? = some (L.getD (i - 1) 0)
  spc : Spc (2 * e + 1) ((0 : Nat) : Int) outs
theorem CI.first {e : Int} (he : 0 ≤ e) (k : Int) : (Fit.zero.add e k).2.keys = [k] ∧ (Fit.zero.add e k).2.low = (0, 1) := by
  obtain ⟨t, h⟩ := Fit.add_first FitOk.zero he (key := k) rfl (by simp [Fit.zero]; omega) rfl
  rw [h]; simp [Fit.zero]
theorem CI.mk1 {e : Int} (he : 0 ≤ e) (L : List Int) : CI e L 1 (cutS e L 1).1 (cutS e L 1).2 := by
  rw [cutS_one he]
  obtain ⟨h1, h2⟩ := CI.first he (L.getD 0 0)
  refine ⟨by simp [lastN], by simp only []; rw [h1]; simp [lastN], FitOk.zero.add he _, fun _ => h2, ?_, trivial⟩
  simp only []; rw [h1]; simp
theorem CI.step {e : Int} (he : 0 ≤ e) {L : List Int} (hu : L.Pairwise (· < ·)) {i : Nat} (h0 : 0 < i) (hi : i < L.length) (h : CI e L i (cutS e L i).1 (cutS e L i).2) : CI e L (i + 1) (cutS e L (i + 1)).1 (cutS e L (i + 1)).2 := by
  obtain ⟨outs, F, hq⟩ : ∃ outs F, cutS e L i = (outs, F) := ⟨_, _, rfl⟩
  rw [hq] at h
  replace h : CI e L i outs F := h
  have hlt : L.getD (i - 1) 0 < L.getD i 0 := by
    have := List.pairwise_iff_getElem.1 hu (i - 1) i (by omega) hi (by omega)
    simpa [List.getD_eq_getElem?_getD, List.getElem?_eq_getElem hi, List.getElem?_eq_getElem (show i - 1 < L.length by omega)] using this
  have hl : F.late (L.getD i 0) = false := by
    unfold Fit.late; rw [h.lst]; simp only [decide_eq_false_iff_not]; omega
  rw [cutS, hq]
  simp only []
  have hf := h.frm
  have hn := h.len
  by_cases ht : (F.add e (L.getD i 0)).1.1 = true
  · rw [if_pos ht]
    have hno : ¬ ltF (F.topWith e (L.getD i 0)) (F.lowWith e (L.getD i 0)) := by
      intro k; rw [Fit.add_refuse hl k] at ht; simp at ht
    have ha := Fit.add_take hl hno
    have hok := h.ok.add he (L.getD i 0)
    rw [ha] at hok ⊢
    show CI e L (i + 1) outs ⟨F.keys ++ [L.getD i 0], F.lowWith e (L.getD i 0), F.topWith e (L.getD i 0)⟩
    refine ⟨by omega, by simp only [List.length_append, List.length_cons, List.length_nil]; omega, hok, fun hk => ?_, by simp, h.spc⟩
    have hk' : (F.keys.length : Int) ≤ 2 * e := by simp only [List.length_append, List.length_cons, List.length_nil] at hk; omega
    obtain ⟨t, hf⟩ := Fit.add_first h.ok he (h.low (by omega)) hk' hl
    rw [ha] at hf
    have := (Prod.mk.inj hf).2
    injection this
  · rw [if_neg ht]
    have hbig : ¬ (F.keys.length : Int) ≤ 2 * e := by
      intro k
      obtain ⟨t, hf⟩ := Fit.add_first h.ok he (h.low (by omega)) k hl
      rw [hf] at ht; simp at ht
    obtain ⟨h1, h2⟩ := CI.first he (L.getD i 0)
    have hla := lastN_snoc outs 0 i
    show CI e L (i + 1) (outs ++ [i]) (Fit.zero.add e (L.getD i 0)).2
    refine ⟨by rw [hla]; omega, by rw [hla, h1]; simp, FitOk.zero.add he _, fun _ => h2, by rw [h1]; simp, h.spc.snoc (p := 0) (a := i) ?_⟩
    omega
theorem CI.all {e : Int} (he : 0 ≤ e) {L : List Int} (hu : L.Pairwise (· < ·)) : ∀ i, i < L.length → CI e L (i + 1) (cutS e L (i + 1)).1 (cutS e L (i + 1)).2
  | 0, _ => CI.mk1 he L
  | i + 1, h => CI.step he hu (by omega) h (CI.all he hu i (by omega))
/-- Where the stretches end, when there are keys. -/
theorem few {e : Int} (he : 0 ≤ e) {L : List Int} (hu : L.Pairwise (· < ·)) (h0 : 0 < L.length) :
    ∃ outs, endsL e L = outs ++ [L.length] ∧ Spc (2 * e + 1) ((0 : Nat) : Int) outs ∧ lastN 0 outs < L.length ∧ (outs.length : Int) * (2 * e + 1) ≤ L.length - 1 := by
  have h := CI.all he hu (L.length - 1) (by omega)
  rw [show L.length - 1 + 1 = L.length from by omega] at h
  refine ⟨_, by rw [endsL, if_neg (by omega)], h.spc, h.frm, ?_⟩
  have h1 := h.spc.len
  have h2 := h.frm
  have e0 : ((0 : Nat) : Int) = 0 := rfl
  rw [e0] at h1
  omega
end Go.Proofs.Ytnccgpdniigekaa
