/-
  The reference's Build, whole; what the law overwrites.
-/
import Derived.Test.YtnccgpdniigekaaQLvRBld
import Derived.Test.YtnccgpdniigekaaQLvL2
namespace Go.Proofs.Ytnccgpdniigekaa
open Go.RowKit
set_option linter.unusedVariables false
set_option linter.unusedSimpArgs false
attribute [local go_sem high] run_store_float

/-- The levels and the code that both answer. -/
noncomputable def bldL (eps : Int) (K : List Int) : List (List Sg) := if Good eps K then buildL eps K else []
def bldC (eps : Int) (K : List Int) : Int := if eps < 2 ∨ 64 < eps then 1 else if K.Pairwise (· < ·) then 0 else 80
theorem rbuild_all (eps : Int) (A : Option Addr) (c : Nat) (K : List Int) (hK : U64s K) (hn : K.length ≤ 4294967296) (hc : K.length ≤ c) (w : World) (hA : ArgU w A K) :
    Calls Try.prog 18 #[.slice A K.length c, .int .i64 eps] w fun e w' => ∃ A' c', e = .returned (.tuple #[.slice A' (bldL eps K).length c', .int .i64 (bldC eps K)]) ∧ ArgAb w.heap.size w' A' (bldL eps K) ∧ Below w.heap.size w w' := by
  by_cases hb : eps < 2 ∨ 64 < eps
  · have e1 : bldL eps K = [] := by unfold bldL; rw [if_neg (fun h => by have h1 := h.1; have h2 := h.2.1; omega)]
    have e2 : bldC eps K = 1 := by unfold bldC; rw [if_pos hb]
    rw [e1, e2]
    refine (rbuild_bad eps hb A K.length c w).mono ?_
    rintro e w' ⟨rfl, rfl⟩
    exact ⟨none, 0, rfl, fun h => absurd h (by simp), Below.refl _ _⟩
  · by_cases hu : K.Pairwise (· < ·)
    · have e1 : bldL eps K = buildL eps K := by unfold bldL; rw [if_pos ⟨by omega, by omega, hu⟩]
      have e2 : bldC eps K = 0 := by unfold bldC; rw [if_neg hb, if_pos hu]
      rw [e1, e2]
      refine (rbuild_good eps (by omega) (by omega) A c K hK hn hc hu w hA).mono ?_
      rintro e w' ⟨v, vs, rfl, h⟩
      obtain ⟨A', c', rfl, ha⟩ := h.ab
      exact ⟨A', c', rfl, ha, h.bel⟩
    · have e1 : bldL eps K = [] := by unfold bldL; rw [if_neg (fun h => hu h.2.2)]
      have e2 : bldC eps K = 80 := by unfold bldC; rw [if_neg hb, if_neg hu]
      rw [e1, e2]
      refine (rbuild_unsorted eps (by omega) (by omega) A c K (by omega) hu w hA).mono ?_
      rintro e w' ⟨rfl, b⟩
      exact ⟨none, 0, rfl, fun h => absurd h (by simp), b⟩
theorem build_all (eps : Int) (A : Option Addr) (c : Nat) (K : List Int) (hK : U64s K) (hn : K.length ≤ 4294967296) (hc : K.length ≤ c) (w : World) (hA : ArgU w A K) :
    Calls Try.prog 17 #[.slice A K.length c, .int .i64 eps] w fun e w' => ∃ v gs, e = .returned (.tuple #[v, .int .i64 (bldC eps K)]) ∧ LLm w v gs (bldL eps K) w' := by
  by_cases hb : eps < 2 ∨ 64 < eps
  · have e1 : bldL eps K = [] := by unfold bldL; rw [if_neg (fun h => by have h1 := h.1; have h2 := h.2.1; omega)]
    have e2 : bldC eps K = 1 := by unfold bldC; rw [if_pos hb]
    rw [e1, e2]
    refine (build_bad eps hb A K.length c w).mono ?_
    rintro e w' ⟨rfl, rfl⟩
    exact ⟨_, [], rfl, LLm.nil _⟩
  · by_cases hu : K.Pairwise (· < ·)
    · have e1 : bldL eps K = buildL eps K := by unfold bldL; rw [if_pos ⟨by omega, by omega, hu⟩]
      have e2 : bldC eps K = 0 := by unfold bldC; rw [if_neg hb, if_pos hu]
      rw [e1, e2]
      exact build_good eps (by omega) (by omega) A c K hK hn hc hu w hA
    · have e1 : bldL eps K = [] := by unfold bldL; rw [if_neg (fun h => hu h.2.2)]
      have e2 : bldC eps K = 80 := by unfold bldC; rw [if_neg hb, if_neg hu]
      rw [e1, e2]
      refine (build_unsorted eps (by omega) (by omega) A c K (by omega) hu w hA).mono ?_
      rintro e w' ⟨rfl, b⟩
      exact ⟨_, [], rfl, (LLm.nil w).below b⟩
theorem bld_lens {eps : Int} {K : List Int} (hK : U64s K) (hn : K.length ≤ 4294967296) : (∀ l ∈ bldL eps K, (∀ s ∈ l, SgOk s) ∧ l.length ≤ K.length) ∧ (bldL eps K).length ≤ K.length := by
  unfold bldL
  by_cases h : Good eps K
  · rw [if_pos h]; exact build_segs h.1 h.2.1 hK hn h.2.2
  · rw [if_neg h]; exact ⟨fun l hl => absurd hl (by simp), Nat.zero_le _⟩
/-- The answer under way to be overwritten, from level i on. -/
structure OWr (w0 : World) (b : Nat) (gs : List Nat) (ls : List (List Sg)) (i : Nat) (wr : World) : Prop where
  len : gs.length = ls.length
  row : ∃ cs, Blk wr b 30 cs ∧ ls.length ≤ cs.size ∧ ∀ j, i ≤ j → j < ls.length → cs[j]? = some (.slice (some ⟨gs.getD j 0, 0, none⟩) (ls.getD j []).length (ls.getD j []).length)
  inn : ∀ j, i ≤ j → j < ls.length → ∃ cs, Blk wr (gs.getD j 0) 33 cs ∧ cs.size = (ls.getD j []).length * 5
  new : ∀ g ∈ gs, w0.heap.size ≤ g
  dis : gs.Pairwise (· < ·)
  ge : w0.heap.size ≤ b
  bel : Below w0.heap.size w0 wr
theorem LLm.ow {w0 w : World} {b n c : Nat} {gs : List Nat} {ls : List (List Sg)} (h : LLm w0 (.slice (some ⟨b, 0, none⟩) n c) gs ls w) : OWr w0 b gs ls 0 w := by
  rcases h.row.2 with ⟨hv, h0⟩ | ⟨g, cap, cur, hv, _, hb, hc, _, hsz, htk⟩
  · cases hv
  · injection hv with e1 e2 e3
    injection e1 with e1
    injection e1 with e1
    subst e1
    refine ⟨h.len, ⟨cur, hb, by omega, fun j _ hj => ?_⟩, fun j _ hj => ⟨_, (h.inn j hj).1, by simp [length_sflat]⟩, fun g hg => ?_, h.dis, h.own b rfl, h.bel⟩
    · have := svs_get h.len hj
      rw [← htk, List.getElem?_take, if_pos (by omega)] at this
      simpa using this
    · obtain ⟨j, hj, rfl⟩ := List.mem_iff_getElem.1 hg
      have := (h.inn j (by rw [← h.len]; exact hj)).2
      rwa [List.getD_eq_getElem?_getD, List.getElem?_eq_getElem hj] at this
section
variable {w0 wr wx : World} {b i : Nat} {gs : List Nat} {ls : List (List Sg)}
theorem OWr.at_ (h : OWr w0 b gs ls i wr) (hi : i < ls.length) : wr.cell? ⟨b, i, none⟩ = some (.slice (some ⟨gs.getD i 0, 0, none⟩) (ls.getD i []).length (ls.getD i []).length) ∧ wr.frozen? ⟨b, i, none⟩ = false := by
  obtain ⟨cs, hb, _, hc⟩ := h.row
  exact ⟨by rw [hb.cell]; exact hc i (Nat.le_refl _) hi, hb.free i⟩
theorem dis_ne {gs : List Nat} (hd : gs.Pairwise (· < ·)) {i j : Nat} (hi : i < gs.length) (hj : j < gs.length) (h : i ≠ j) : gs.getD i 0 ≠ gs.getD j 0 := by
  have hp := List.pairwise_iff_getElem.1 hd
  rw [List.getD_eq_getElem?_getD, List.getD_eq_getElem?_getD, List.getElem?_eq_getElem hi, List.getElem?_eq_getElem hj]
  simp only [Option.getD_some]
  rcases Nat.lt_or_ge i j with hlt | hge
  · have := hp i j hi hj hlt; omega
  · have := hp j i hj hi (by omega); omega
theorem mem_gsr (h : OWr w0 b gs ls i wr) {j : Nat} (hj : j < ls.length) : gs.getD j 0 ∈ gs := by
  have : j < gs.length := by rw [h.len]; exact hj
  rw [List.getD_eq_getElem?_getD, List.getElem?_eq_getElem this]; exact List.getElem_mem _
/-- Level i's block turns, all else stays. -/
theorem OWr.turn (h : OWr w0 b gs ls i wr) (hi : i < ls.length) (C : Chg (fun k => k = gs.getD i 0) wr wx) (hb : (∃ cs, Blk wx (gs.getD i 0) 33 cs ∧ cs.size = (ls.getD i []).length * 5)) : OWr w0 b gs ls i wx := by
  obtain ⟨cs, hB, h1, h2⟩ := h.row
  obtain ⟨ci, hI, _⟩ := h.inn i (Nat.le_refl _) hi
  have hne : b ≠ gs.getD i 0 := by
    intro e
    rw [← e] at hI
    exact absurd (Blk.uniq hB hI).1 (by decide)
  refine ⟨h.len, ⟨cs, hB.chg C hne, h1, h2⟩, fun j hj hj2 => ?_, h.new, h.dis, h.ge, below_chg h.bel C (fun k _ hk => by rw [hk]; exact h.new _ (mem_gsr h hi)) h.bel.size⟩
  by_cases e : j = i
  · subst e; exact hb
  · obtain ⟨cj, hJ, hs⟩ := h.inn j hj hj2
    exact ⟨cj, hJ.chg C (dis_ne h.dis (by rw [h.len]; exact hj2) (by rw [h.len]; exact hi) e), hs⟩
theorem OWr.below (h : OWr w0 b gs ls i wr) (k : Below wr.heap.size wr wx) : OWr w0 b gs ls i wx := by
  obtain ⟨cs, hB, h1, h2⟩ := h.row
  refine ⟨h.len, ⟨cs, hB.below k, h1, h2⟩, fun j hj hj2 => ?_, h.new, h.dis, h.ge, below_next h.bel k⟩
  obtain ⟨cj, hJ, hs⟩ := h.inn j hj hj2
  exact ⟨cj, hJ.below k, hs⟩
/-- Level i appended to, and struck. -/
theorem OWr.past (h : OWr w0 b gs ls i wr) (hi : i < ls.length) (C : Chg (fun k => k = gs.getD i 0) wr wx) : OWr w0 b gs ls (i + 1) wx ∧ wx.cell? ⟨b, i, none⟩ = some (.slice (some ⟨gs.getD i 0, 0, none⟩) (ls.getD i []).length (ls.getD i []).length) ∧ wx.frozen? ⟨b, i, none⟩ = false := by
  obtain ⟨cs, hB, h1, h2⟩ := h.row
  obtain ⟨ci, hI, _⟩ := h.inn i (Nat.le_refl _) hi
  have hne : b ≠ gs.getD i 0 := by
    intro e
    rw [← e] at hI
    exact absurd (Blk.uniq hB hI).1 (by decide)
  have hB2 := hB.chg C hne
  refine ⟨⟨h.len, ⟨cs, hB2, h1, fun j hj hj2 => h2 j (by omega) hj2⟩, fun j hj hj2 => ?_, h.new, h.dis, h.ge, below_chg h.bel C (fun k _ hk => by rw [hk]; exact h.new _ (mem_gsr h hi)) h.bel.size⟩, by rw [hB2.cell]; exact h2 i (Nat.le_refl _) hi, hB2.free i⟩
  obtain ⟨cj, hJ, hs⟩ := h.inn j (by omega) hj2
  exact ⟨cj, hJ.chg C (dis_ne h.dis (by rw [h.len]; exact hj2) (by rw [h.len]; exact hi) (by omega)), hs⟩
theorem OWr.strike (h : OWr w0 b gs ls (i + 1) wr) (v : Value) : OWr w0 b gs ls (i + 1) (wr.setCell ⟨b, i, none⟩ v) := by
  obtain ⟨cs, hB, h1, h2⟩ := h.row
  refine ⟨h.len, ⟨_, hB.set i v, by simpa using h1, fun j hj hj2 => ?_⟩, fun j hj hj2 => ?_, h.new, h.dis, h.ge, h.bel.setCell h.ge _⟩
  · rw [Array.getElem?_setIfInBounds_ne (by omega)]; exact h2 j hj hj2
  · obtain ⟨cj, hJ, hs⟩ := h.inn j hj hj2
    refine ⟨cj, hJ.far v ?_, hs⟩
    intro e
    have e' : gs.getD j 0 = b := e
    rw [e'] at hJ
    exact absurd (Blk.uniq hB hJ).1 (by decide)
theorem OWr.own (h : OWr w0 b gs ls i wr) (hi : i < ls.length) (hn : (ls.getD i []).length ≤ maxLen) : ∃ xs, wr.ownsRow 0 33 5 (.slice (some ⟨gs.getD i 0, 0, none⟩) (ls.getD i []).length (ls.getD i []).length) (ls.getD i []).length xs := by
  obtain ⟨ci, hI, hs⟩ := h.inn i (Nat.le_refl _) hi
  exact ⟨ci.toList, by simpa using hs, .inr ⟨_, _, ci, rfl, Nat.zero_le _, hI, Nat.le_refl _, hn, hs, by rw [List.take_of_length_le (by simp [hs])]⟩⟩
theorem OWr.write (h : OWr w0 b gs ls i wr) (hi : i < ls.length) (k : Nat) (u v x y z : Value) : OWr w0 b gs ls i (((((wr.setCell ⟨gs.getD i 0, k, none⟩ u).setCell ⟨gs.getD i 0, k + 1, none⟩ v).setCell ⟨gs.getD i 0, k + 2, none⟩ x).setCell ⟨gs.getD i 0, k + 3, none⟩ y).setCell ⟨gs.getD i 0, k + 4, none⟩ z) := by
  obtain ⟨ci, hI, hs⟩ := h.inn i (Nat.le_refl _) hi
  exact h.turn hi ((((((Chg.refl (fun j => j = gs.getD i 0) wr).setCell (p := ⟨gs.getD i 0, _, none⟩) (fun _ => rfl) _).setCell (p := ⟨gs.getD i 0, _, none⟩) (fun _ => rfl) _).setCell (p := ⟨gs.getD i 0, _, none⟩) (fun _ => rfl) _).setCell (p := ⟨gs.getD i 0, _, none⟩) (fun _ => rfl) _).setCell (p := ⟨gs.getD i 0, _, none⟩) (fun _ => rfl) _)
    ⟨_, ((((hI.set k u).set (k + 1) v).set (k + 2) x).set (k + 3) y).set (k + 4) z, by simpa using hs⟩
theorem OWr.cells (h : OWr w0 b gs ls i wr) (hi : i < ls.length) {k : Nat} (hk : k < (ls.getD i []).length) : (∀ j, j < 5 → ∃ u, wr.cell? ⟨gs.getD i 0, k * 5 + j, none⟩ = some u) ∧ ∀ j, wr.frozen? ⟨gs.getD i 0, j, none⟩ = false := by
  obtain ⟨ci, hI, hs⟩ := h.inn i (Nat.le_refl _) hi
  refine ⟨fun j hj => ?_, fun j => hI.free j⟩
  have hlt : k * 5 + j < ci.size := by rw [hs]; omega
  exact ⟨ci[k * 5 + j], by rw [hI.cell]; exact Array.getElem?_eq_getElem hlt⟩
end
end Go.Proofs.Ytnccgpdniigekaa
