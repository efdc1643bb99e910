/-
  A fit in memory and what it is of: its chains, its slopes, its keys.
-/
import Derived.Test.YtnccgpdniigekaaQG3
import Derived.Test.YtnccgpdniigekaaQHuShort
namespace Go.Proofs.Ytnccgpdniigekaa
open Go.RowKit
set_option linter.unusedVariables false
set_option linter.unusedSimpArgs false

theorem layL_reverse {b : Int} {p : Pt} {d : List Pt} : (layL b p d).reverse = p :: popR b p d.reverse := by simp [layL]
theorem layL_length {b : Int} {p : Pt} {d : List Pt} : (layL b p d).length ≤ d.length + 1 := by
  have := (popR_suffix (b := b) (p := p) d.reverse).length_le
  simp only [layL, List.length_append, List.length_reverse, List.length_cons, List.length_nil] at *
  omega
/-- What is said of a fit beside its memory. -/
structure FitS (e : Int) (F : Fit) (c0 c1 : List Pt) : Prop where
  ok : FitOk F
  lo : Chain (-1) (pts (-e) 0 F.keys) c0.reverse
  up : Chain 1 (pts e 0 F.keys) c1.reverse
  key : ∀ k ∈ F.keys, u64ok k
  n0 : c0.length ≤ 4398046511104
  n1 : c1.length ≤ 4398046511104
  big : F.keys.length ≤ 17592186044416
  e0 : 1 ≤ e
  e1 : e ≤ 63
  fl : Fr64 F.low
  ft : Fr64 F.top
  wide : ¬ ltF F.top F.low
  lp : F.low.2 ≠ 0
section
variable {e : Int} {F : Fit} {c0 c1 : List Pt} {key : Int}
theorem FitS.zero (h0 : 1 ≤ e) (h1 : e ≤ 63) : FitS e Fit.zero [] [] :=
  ⟨FitOk.zero, Chain.nil _, Chain.nil _, fun _ h => absurd h (by simp [Fit.zero]), by simp, by simp, by simp [Fit.zero], h0, h1, ⟨by simp [Fit.zero], by simp [Fit.zero]⟩, ⟨by simp [Fit.zero], by simp [Fit.zero]⟩, by decide, by decide⟩
theorem FitS.pt_ok (h : FitS e F c0 c1) {d : Int} (hd : d = e ∨ d = -e) {u : Pt} (hu : u ∈ pts d 0 F.keys) : PtOk u := by
  obtain ⟨j, hj, rfl⟩ := pts_mem.1 hu
  have := h.big; have := h.e0; have := h.e1
  refine ⟨h.key _ ?_, ?_⟩
  · rw [List.getD_eq_getElem?_getD, List.getElem?_eq_getElem hj, Option.getD_some]; exact List.getElem_mem hj
  · unfold smallY; simp only []; omega
theorem FitS.new_ok (h : FitS e F c0 c1) (hk : u64ok key) {d : Int} (hd : d = e ∨ d = -e) : PtOk (key, (F.keys.length : Int) + d) := by
  have := h.big; have := h.e0; have := h.e1
  refine ⟨hk, ?_⟩
  unfold smallY; simp only []; omega
theorem FitS.lt (h : FitS e F c0 c1) (hl : F.late key = false) {d : Int} : ∀ u ∈ pts d 0 F.keys, u.1 < key := by
  intro u hu
  obtain ⟨j, hj, rfl⟩ := pts_mem.1 hu
  exact h.ok.lt hl j hj
theorem FitS.ne0 (h : FitS e F c0 c1) (hn : F.keys ≠ []) : c0 ≠ [] := by
  have := h.lo.ne (by intro hp; apply hn; have := congrArg List.length hp; cases hK : F.keys with
    | nil => rfl
    | cons a r => rw [hK] at hp; simp [pts] at hp)
  intro e; apply this; rw [e]; rfl
theorem FitS.ne1 (h : FitS e F c0 c1) (hn : F.keys ≠ []) : c1 ≠ [] := by
  have := h.up.ne (by intro hp; apply hn; have := congrArg List.length hp; cases hK : F.keys with
    | nil => rfl
    | cons a r => rw [hK] at hp; simp [pts] at hp)
  intro e; apply this; rw [e]; rfl
/-- Where the search stopped on the upper chain: the least slope. -/
theorem FitS.low_at (h : FitS e F c0 c1) (hl : F.late key = false) {i : Nat} (hi : i < c1.length) (A : Amid 1 c1 (key, (F.keys.length : Int) - e) (c1.length - 1) i i) :
    c1[i] ∈ pts e 0 F.keys ∧ lowBy F.low c1[i] (key, (F.keys.length : Int) - e) = F.lowWith e key := by
  have hs : sgn 1 = 1 := rfl
  have B := h.up.best (p := (key, (F.keys.length : Int) - e)) (h.lt hl) (i := i) (by simpa using hi)
    (by
      rcases A.lo with h0 | h0
      · exact .inl h0
      · by_cases hz : i = 0
        · exact .inl hz
        · refine .inr ⟨by simp; omega, ?_⟩
          simp only [stopAt, hs, decide_eq_false_iff_not, List.getD_eq_getElem?_getD] at h0
          rw [List.getElem?_eq_getElem (by omega), List.getElem?_eq_getElem (by omega), Option.getD_some, Option.getD_some] at h0
          simpa using h0)
    (by
      rcases A.hi with h1 | h1
      · exact .inl (by simp; omega)
      · by_cases hz : i + 1 = c1.length
        · exact .inl (by simpa using hz)
        · refine .inr ⟨by simp; omega, ?_⟩
          simp only [stopAt, hs, decide_eq_true_eq, List.getD_eq_getElem?_getD] at h1
          rw [List.getElem?_eq_getElem (by omega), List.getElem?_eq_getElem (by omega), Option.getD_some, Option.getD_some] at h1
          simpa using h1)
  simp only [List.reverse_reverse] at B
  exact ⟨B.1, lowBy_eq h.ok hl B.1 (fun q hq => by have := B.2 q hq; simpa using this)⟩
theorem FitS.top_at (h : FitS e F c0 c1) (hl : F.late key = false) {i : Nat} (hi : i < c0.length) (A : Amid 0 c0 (key, (F.keys.length : Int) + e) (c0.length - 1) i i) :
    c0[i] ∈ pts (-e) 0 F.keys ∧ topBy F.top c0[i] (key, (F.keys.length : Int) + e) = F.topWith e key := by
  have hs : sgn 0 = -1 := rfl
  have B := h.lo.best (p := (key, (F.keys.length : Int) + e)) (h.lt hl) (i := i) (by simpa using hi)
    (by
      rcases A.lo with h0 | h0
      · exact .inl h0
      · by_cases hz : i = 0
        · exact .inl hz
        · refine .inr ⟨by simp; omega, ?_⟩
          simp only [stopAt, hs, decide_eq_false_iff_not, List.getD_eq_getElem?_getD] at h0
          rw [List.getElem?_eq_getElem (by omega), List.getElem?_eq_getElem (by omega), Option.getD_some, Option.getD_some] at h0
          simpa using h0)
    (by
      rcases A.hi with h1 | h1
      · exact .inl (by simp; omega)
      · by_cases hz : i + 1 = c0.length
        · exact .inl (by simpa using hz)
        · refine .inr ⟨by simp; omega, ?_⟩
          simp only [stopAt, hs, decide_eq_true_eq, List.getD_eq_getElem?_getD] at h1
          rw [List.getElem?_eq_getElem (by omega), List.getElem?_eq_getElem (by omega), Option.getD_some, Option.getD_some] at h1
          simpa using h1)
  simp only [List.reverse_reverse] at B
  exact ⟨B.1, topBy_eq h.ok (by have := h.e0; omega) hl B.1 (fun q hq => by have := B.2 q hq; simpa using this)⟩
theorem Fr64.low {n d : Int} (hn : 0 ≤ n) (hd : 0 < d) (h1 : n ≤ 9223372036854775807) (h2 : d ≤ 18446744073709551615) : Fr64 (lowest n d) := by
  obtain ⟨l, _, p, a, b, _⟩ := lowest_low hn hd
  exact ⟨⟨l.ok.num, by omega⟩, ⟨l.ok.den, by omega⟩⟩
theorem FitS.low64 (h : FitS e F c0 c1) (hk : u64ok key) (hl : F.late key = false) : Fr64 (F.lowWith e key) := by
  have hk2 := h.ok.lt hl
  rcases (lowUp_max (e := e) (n := F.keys.length) hk2 h.ok.low F.keys.length (Nat.le_refl _)).is with q | ⟨i, hi, hp, q⟩
  · rw [Fit.lowWith, q]; exact h.fl
  · rw [Fit.lowWith, q]
    have := hk2 i hi; have := h.big; have := hk.2; have := h.e0
    have hm : u64ok (F.keys.getD i 0) := h.key _ (by rw [List.getD_eq_getElem?_getD, List.getElem?_eq_getElem hi, Option.getD_some]; exact List.getElem_mem hi)
    have := hm.1
    exact Fr64.low (by omega) (by omega) (by omega) (by omega)
theorem FitS.lowOk (h : FitS e F c0 c1) (hl : F.late key = false) : LowF (F.lowWith e key) ∧ (F.lowWith e key).2 ≠ 0 := by
  have hk2 := h.ok.lt hl
  rcases (lowUp_max (e := e) (n := F.keys.length) hk2 h.ok.low F.keys.length (Nat.le_refl _)).is with q | ⟨i, hi, hp, q⟩
  · rw [Fit.lowWith, q]; exact ⟨h.ok.low, h.lp⟩
  · rw [Fit.lowWith, q]
    have L := lowest_low (n := (F.keys.length : Int) - i - 2 * e) (d := key - F.keys.getD i 0) (by omega) (by have := hk2 i hi; omega)
    exact ⟨L.1, by have := L.2.2.1; omega⟩
theorem FitS.topOk (h : FitS e F c0 c1) (hl : F.late key = false) : LowF (F.topWith e key) := by
  have hk2 := h.ok.lt hl
  rcases (topUp_min (e := e) (n := F.keys.length) (by have := h.e0; omega) (fun i hi => by omega) hk2 h.ok.top F.keys.length (Nat.le_refl _)).is with q | ⟨i, hi, q⟩
  · rw [Fit.topWith, q]; exact h.ok.top
  · rw [Fit.topWith, q]
    exact (lowest_low (by have := h.e0; omega) (by have := hk2 i hi; omega)).1
theorem FitS.top64 (h : FitS e F c0 c1) (hk : u64ok key) (hl : F.late key = false) : Fr64 (F.topWith e key) := by
  have hk2 := h.ok.lt hl
  rcases (topUp_min (e := e) (n := F.keys.length) (by have := h.e0; omega) (fun i hi => by omega) hk2 h.ok.top F.keys.length (Nat.le_refl _)).is with q | ⟨i, hi, q⟩
  · rw [Fit.topWith, q]; exact h.ft
  · rw [Fit.topWith, q]
    have := hk2 i hi; have := h.big; have := hk.2; have := h.e0; have := h.e1
    have hm : u64ok (F.keys.getD i 0) := h.key _ (by rw [List.getD_eq_getElem?_getD, List.getElem?_eq_getElem hi, Option.getD_some]; exact List.getElem_mem hi)
    have := hm.1
    exact Fr64.low (by omega) (by omega) (by omega) (by omega)
/-- A key taken: the chains with their new points. -/
theorem FitS.taken (h : FitS e F c0 c1) (hk : u64ok key) (hl : F.late key = false) (hb : F.keys.length < 17592186044416) (hok : FitOk ⟨F.keys ++ [key], F.lowWith e key, F.topWith e key⟩) (hlt : ¬ ltF (F.topWith e key) (F.lowWith e key)) :
    FitS e ⟨F.keys ++ [key], F.lowWith e key, F.topWith e key⟩ (layL (-1) (key, (F.keys.length : Int) - e) c0) (layL 1 (key, (F.keys.length : Int) + e) c1) := by
  have e2 : pts (-e) 0 (F.keys ++ [key]) = (key, (F.keys.length : Int) - e) :: pts (-e) 0 F.keys := by rw [pts_snoc]; simp; omega
  have e3 : pts e 0 (F.keys ++ [key]) = (key, (F.keys.length : Int) + e) :: pts e 0 F.keys := by rw [pts_snoc]; simp
  have kk : ∀ k ∈ F.keys ++ [key], u64ok k := by
    intro k hkm
    rcases List.mem_append.1 hkm with hm | hm
    · exact h.key k hm
    · obtain rfl : k = key := by simpa using hm
      exact hk
  have k1 : Chain (-1) (pts (-e) 0 (F.keys ++ [key])) (layL (-1) (key, (F.keys.length : Int) - e) c0).reverse := by rw [layL_reverse, e2]; exact h.lo.lay (h.lt hl)
  have k2 : Chain 1 (pts e 0 (F.keys ++ [key])) (layL 1 (key, (F.keys.length : Int) + e) c1).reverse := by rw [layL_reverse, e3]; exact h.up.lay (h.lt hl)
  have n1 := k1.short (.inr rfl) kk hok.up (by simp; omega)
  have n2 := k2.short (.inl rfl) kk hok.up (by simp; omega)
  rw [List.length_reverse] at n1 n2
  exact ⟨hok, k1, k2, kk, n1, n2, by simp; omega, h.e0, h.e1, h.low64 hk hl, h.top64 hk hl, hlt, (h.lowOk hl).2⟩
end
end Go.Proofs.Ytnccgpdniigekaa
