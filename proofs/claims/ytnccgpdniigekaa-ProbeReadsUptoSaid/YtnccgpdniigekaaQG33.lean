/-
  Plain: levels that are built are right, and low.
-/
import Derived.Test.YtnccgpdniigekaaQG26
namespace Go.Proofs.Ytnccgpdniigekaa
open Go.RowKit
set_option linter.unusedVariables false
set_option linter.unusedSimpArgs false

theorem stretch_snoc {K : List Int} {p i : Nat} (hp : p ≤ i) (hi : i < K.length) : stretch K p (i + 1) = stretch K p i ++ [K.getD i 0] := by
  have hl : i - p < (K.drop p).length := by rw [List.length_drop]; omega
  unfold stretch
  rw [show i + 1 - p = (i - p) + 1 by omega, List.take_succ_eq_append_getElem hl]
  congr 2
  rw [List.getElem_drop, List.getD_eq_getElem?_getD, List.getElem?_eq_getElem hi]
  simp [show p + (i - p) = i by omega]
theorem stretch_nil (K : List Int) (p : Nat) : stretch K p p = [] := by simp [stretch]
theorem begN_app {outs : List Nat} {x i : Nat} (h : i ≤ outs.length) : begN (outs ++ [x]) i = begN outs i := by
  unfold begN prevN
  split
  · rfl
  · rw [List.getD_eq_getElem?_getD, List.getD_eq_getElem?_getD, List.getElem?_append_left (by omega)]
theorem begN_last (outs : List Nat) : begN outs outs.length = lastN 0 outs := lastN_prev outs 0
theorem app_getD {outs : List Nat} {x i : Nat} (h : i < outs.length) : (outs ++ [x]).getD i 0 = outs.getD i 0 := by
  rw [List.getD_eq_getElem?_getD, List.getD_eq_getElem?_getD, List.getElem?_append_left h]
theorem app_last (outs : List Nat) (x : Nat) : (outs ++ [x]).getD outs.length 0 = x := by simp

/-- Each stretch is taken whole. -/
structure CL (e : Int) (L : List Int) (i : Nat) (outs : List Nat) (F : Fit) : Prop where
  run : fitAll e Fit.zero (stretch L (lastN 0 outs) i) = some F
  old : ∀ j, j < outs.length → ∃ G, fitAll e Fit.zero (stretch L (begN outs j) (outs.getD j 0)) = some G
  le : lastN 0 outs ≤ i
theorem CL.all {e : Int} (he : 0 ≤ e) (L : List Int) : ∀ i, i ≤ L.length → CL e L i (cutS e L i).1 (cutS e L i).2
  | 0, _ => ⟨by simp [cutS, lastN, stretch, fitAll], fun j h => absurd h (by simp [cutS]), by simp [cutS, lastN]⟩
  | i + 1, h => by
    have ih := CL.all he L i (by omega)
    obtain ⟨outs, F, hq⟩ : ∃ outs F, cutS e L i = (outs, F) := ⟨_, _, rfl⟩
    rw [hq] at ih
    replace ih : CL e L i outs F := ih
    rw [cutS, hq]
    simp only []
    by_cases ht : (F.add e (L.getD i 0)).1.1 = true
    · rw [if_pos ht]
      refine ⟨?_, ih.old, Nat.le_succ_of_le ih.le⟩
      show fitAll e Fit.zero (stretch L (lastN 0 outs) (i + 1)) = some (F.add e (L.getD i 0)).2
      rw [stretch_snoc ih.le (by omega), fitAll_snoc, ih.run]
      show (if (F.add e (L.getD i 0)).1.1 = true then some (F.add e (L.getD i 0)).2 else none) = _
      rw [if_pos ht]
    · rw [if_neg ht]
      have hl := lastN_snoc outs 0 i
      refine ⟨?_, fun j hj => ?_, ?_⟩
      · show fitAll e Fit.zero (stretch L (lastN 0 (outs ++ [i])) (i + 1)) = some (Fit.zero.add e (L.getD i 0)).2
        rw [hl, stretch_snoc (Nat.le_refl _) (by omega), stretch_nil, List.nil_append, fitAll, if_pos (by rw [Fit.add_zero he]), fitAll]
      · show ∃ G, fitAll e Fit.zero (stretch L (begN (outs ++ [i]) j) ((outs ++ [i]).getD j 0)) = some G
        replace hj : j < (outs ++ [i]).length := hj
        rcases Nat.lt_or_ge j outs.length with hlt | hge
        · rw [begN_app (by omega), app_getD hlt]; exact ih.old j hlt
        · have : j = outs.length := by simp at hj; omega
          subst this
          rw [begN_app (Nat.le_refl _), app_last, begN_last]
          exact ⟨F, ih.run⟩
      · show lastN 0 (outs ++ [i]) ≤ i + 1
        rw [hl]; omega
/-- Each stretch has a line. -/
theorem ends_line {eps : Int} (h1 : 2 ≤ eps) (h2 : eps ≤ 64) {K : List Int} (hu : K.Pairwise (· < ·)) (h0 : 0 < K.length) {i : Nat} (hi : i < (endsL (eps - 1) K).length) :
    (lineOf (stretch K (begN (endsL (eps - 1) K) i) ((endsL (eps - 1) K).getD i 0)) eps).2 = 0 := by
  have hc := CL.all (e := eps - 1) (by omega) K K.length (Nat.le_refl _)
  obtain ⟨outs, F, hq⟩ : ∃ outs F, cutS (eps - 1) K K.length = (outs, F) := ⟨_, _, rfl⟩
  have hE := endsL_of h0 hq
  rw [hq] at hc
  replace hc : CL (eps - 1) K K.length outs F := hc
  have ho := (endsL_ok (e := eps - 1) (by omega) hu h0).at_ i hi
  rw [hE] at hi ho ⊢
  have key : ∃ G, fitAll (eps - 1) Fit.zero (stretch K (begN (outs ++ [K.length]) i) ((outs ++ [K.length]).getD i 0)) = some G := by
    rcases Nat.lt_or_ge i outs.length with hlt | hge
    · rw [begN_app (by omega), app_getD hlt]; exact hc.old i hlt
    · have : i = outs.length := by simp at hi; omega
      subst this
      rw [begN_app (Nat.le_refl _), app_last, begN_last]
      exact ⟨F, hc.run⟩
  obtain ⟨G, hG⟩ := key
  have hne : stretch K (begN (outs ++ [K.length]) i) ((outs ++ [K.length]).getD i 0) ≠ [] := by
    intro h
    have := stretch_len (K := K) (p := begN (outs ++ [K.length]) i) ho.2
    rw [h] at this
    simp only [List.length_nil] at this
    omega
  unfold lineOf
  rw [if_neg (by omega), if_neg (by rintro (h | h); exact hne h; exact h (stretch_up hu _ _)), hG]

/-- The segment of keys p to t. -/
structure SegOf (K : List Int) (eps : Int) (p t : Nat) (s : Sg) : Prop where
  right : Right s
  ok : SgOk s
  first : s.first = K.getD p 0
  fr : s.fr = p
  up : s.up = t
  err : segE K eps s = 0
section
variable {eps : Int} {K : List Int}
theorem segI_is (h1 : 2 ≤ eps) (h2 : eps ≤ 64) (hU : U64s K) (hn : K.length ≤ 4294967296) (hu : K.Pairwise (· < ·)) {i : Nat} (hi : i < (endsL (eps - 1) K).length) :
    SegOf K eps (begN (endsL (eps - 1) K) i) ((endsL (eps - 1) K).getD i 0) (segI K eps (endsL (eps - 1) K) i) := by
  have h0 : 0 < K.length := by
    apply Classical.byContradiction; intro hk
    have : endsL (eps - 1) K = [] := by unfold endsL; rw [if_pos (by omega)]
    rw [this] at hi; simp at hi
  have hl := ends_line h1 h2 hu h0 hi
  have ho := (endsL_ok (e := eps - 1) (by omega) hu h0).at_ i hi
  unfold segI
  generalize begN (endsL (eps - 1) K) i = p at *
  generalize (endsL (eps - 1) K).getD i 0 = t at *
  have hs := stretch_len (K := K) (p := p) ho.2
  obtain ⟨s, W, s1, s2, s3, s4, s5, s6, s7, s8, s9, s10, _⟩ := of_bound hl (hU.stretch p t) (by omega) (fr := (p : Int)) (by omega) (by omega)
  rw [s1]
  have hf : s.first = K.getD p 0 := by rw [s4, stretch_getD (by omega)]; rfl
  have hup : s.up = t := by rw [s6, hs]; omega
  refine ⟨s2, s3, hf, s5, hup, segE_ok (chk_right.2 s2) (by rw [s5, Int.toNat_natCast]; exact hf) ?_⟩
  rw [s5, hup, Int.toNat_natCast, Int.toNat_natCast, s7]
  simp only []; omega
theorem good_ans (h1 : 2 ≤ eps) (h2 : eps ≤ 64) (hu : K.Pairwise (· < ·)) : ansL eps K = endsL (eps - 1) K := by unfold ansL; rw [if_pos ⟨h1, h2, hu⟩]
theorem over_seg (h1 : 2 ≤ eps) (h2 : eps ≤ 64) (hU : U64s K) (hn : K.length ≤ 4294967296) (hu : K.Pairwise (· < ·)) {i : Nat} (hi : i < (overL K eps).length) :
    SegOf K eps (begN (endsL (eps - 1) K) i) (begN (endsL (eps - 1) K) (i + 1)) ((overL K eps).getD i zS) := by
  rw [overL_len, good_ans h1 h2 hu] at hi
  have := segI_is h1 h2 hU hn hu hi
  rw [begN_succ]
  unfold overL
  rw [good_ans h1 h2 hu, segsN_getD hi]
  exact this
theorem over_begs (h1 : 2 ≤ eps) (h2 : eps ≤ 64) (hu : K.Pairwise (· < ·)) (h0 : 0 < K.length) :
    (∀ i, i < (overL K eps).length → begN (endsL (eps - 1) K) i < begN (endsL (eps - 1) K) (i + 1) ∧ begN (endsL (eps - 1) K) (i + 1) ≤ K.length) ∧ begN (endsL (eps - 1) K) (overL K eps).length = K.length := by
  have hE := good_ans h1 h2 hu
  rw [overL_len, hE]
  refine ⟨fun i hi => ?_, ?_⟩
  · have := (endsL_ok (e := eps - 1) (by omega) hu h0).at_ i hi
    rwa [begN_succ]
  · obtain ⟨outs, h1, _⟩ := few (e := eps - 1) (by omega) hu h0
    rw [h1]
    have : (outs ++ [K.length]).length = outs.length + 1 := by simp
    rw [this, begN_succ, app_last]
theorem tl_all {n : Int} {l : List Sg} (a : Nat → Nat) (h : ∀ i, i < l.length → (l.getD i zS).fr = a i ∧ (l.getD i zS).up = a (i + 1) ∧ a i < a (i + 1) ∧ (a (i + 1) : Int) ≤ n) (hl : (a l.length : Int) = n) : ∀ d i, i + d = l.length → tl n (a i) (l.drop i) = true := by
  intro d
  induction d with
  | zero =>
    intro i hi
    rw [tl_end (by omega), show i = l.length by omega, decide_eq_true hl]
  | succ d ih =>
    intro i hi
    obtain ⟨q1, q2, q3, q4⟩ := h i (by omega)
    rw [tl_step (i := i) (s := l.getD i zS) (by omega) rfl ⟨q1, by rw [q2]; omega, by rw [q2]; exact q4⟩, q2]
    exact ih (i + 1) (by omega)
theorem segsE_all {l : List Sg} (h : ∀ s ∈ l, segE K eps s = 0) : segsE K eps l = 0 := by
  induction l with
  | nil => rfl
  | cons s l ih => rw [segsE, if_neg (by rw [h s (by simp)]; simp)]; exact ih fun t ht => h t (by simp [ht])
theorem getD_mem {α : Type} {l : List α} {z s : α} (h : s ∈ l) : ∃ i, i < l.length ∧ l.getD i z = s := by
  obtain ⟨i, hi, rfl⟩ := List.mem_iff_getElem.1 h
  exact ⟨i, hi, by rw [List.getD_eq_getElem?_getD, List.getElem?_eq_getElem hi]; rfl⟩
theorem over_tl (h1 : 2 ≤ eps) (h2 : eps ≤ 64) (hU : U64s K) (hn : K.length ≤ 4294967296) (hu : K.Pairwise (· < ·)) (h0 : 0 < K.length) : tl K.length 0 (overL K eps) = true := by
  obtain ⟨b1, b2⟩ := over_begs h1 h2 hu h0
  have := tl_all (n := (K.length : Int)) (l := overL K eps) (begN (endsL (eps - 1) K)) (fun i hi => by
    have s := over_seg h1 h2 hU hn hu hi
    have := b1 i hi
    exact ⟨s.fr, s.up, this.1, by omega⟩) (by rw [b2]) (overL K eps).length 0 (by omega)
  simpa [begN, prevN] using this
theorem over_segs (h1 : 2 ≤ eps) (h2 : eps ≤ 64) (hU : U64s K) (hn : K.length ≤ 4294967296) (hu : K.Pairwise (· < ·)) : segsE K eps (overL K eps) = 0 :=
  segsE_all fun s hs => by
    obtain ⟨i, hi, rfl⟩ := getD_mem (z := zS) hs
    exact (over_seg h1 h2 hU hn hu hi).err
theorem over_sgok (h1 : 2 ≤ eps) (h2 : eps ≤ 64) (hU : U64s K) (hn : K.length ≤ 4294967296) (hu : K.Pairwise (· < ·)) : ∀ s ∈ overL K eps, SgOk s := fun s hs => by
  obtain ⟨i, hi, rfl⟩ := getD_mem (z := zS) hs
  exact (over_seg h1 h2 hU hn hu hi).ok
theorem up_begs (h1 : 2 ≤ eps) (h2 : eps ≤ 64) (hu : K.Pairwise (· < ·)) (h0 : 0 < K.length) : ∀ d i, i + d < (overL K eps).length → begN (endsL (eps - 1) K) i ≤ begN (endsL (eps - 1) K) (i + d) := by
  intro d
  induction d with
  | zero => intro i _; exact Nat.le_refl _
  | succ d ih =>
    intro i hi
    have := ih i (by omega)
    have := ((over_begs h1 h2 hu h0).1 (i + d) (by omega)).1
    rw [show i + (d + 1) = i + d + 1 by omega]
    omega
theorem over_up (h1 : 2 ≤ eps) (h2 : eps ≤ 64) (hU : U64s K) (hn : K.length ≤ 4294967296) (hu : K.Pairwise (· < ·)) (h0 : 0 < K.length) : (firstsL (overL K eps)).Pairwise (· < ·) := by
  rw [List.pairwise_iff_getElem]
  intro i j hi hj hij
  rw [firsts_len] at hi hj
  have gi := firsts_getD (overL K eps) hi
  have gj := firsts_getD (overL K eps) hj
  rw [List.getD_eq_getElem?_getD, List.getElem?_eq_getElem (by rw [firsts_len]; exact hi)] at gi
  rw [List.getD_eq_getElem?_getD, List.getElem?_eq_getElem (by rw [firsts_len]; exact hj)] at gj
  simp only [Option.getD_some] at gi gj
  rw [gi, gj, (over_seg h1 h2 hU hn hu hi).first, (over_seg h1 h2 hU hn hu hj).first]
  have b1 := (over_begs h1 h2 hu h0).1
  refine getD_lt hu ?_ ?_
  · have a := (b1 i hi).1
    have b := up_begs h1 h2 hu h0 (j - (i + 1)) (i + 1) (by omega)
    rw [show i + 1 + (j - (i + 1)) = j by omega] at b
    omega
  · have := b1 j hj; omega
/-- How many segments there are. -/
theorem over_few (h1 : 2 ≤ eps) (h2 : eps ≤ 64) (hu : K.Pairwise (· < ·)) (h0 : 0 < K.length) : 1 ≤ (overL K eps).length ∧ (((overL K eps).length : Int) - 1) * (2 * eps - 1) ≤ K.length - 1 ∧ ∀ i, i + 1 < (overL K eps).length → (begN (endsL (eps - 1) K) i : Int) + (2 * eps - 1) ≤ begN (endsL (eps - 1) K) (i + 1) := by
  obtain ⟨outs, e1, e2, _, e4⟩ := few (e := eps - 1) (by omega) hu h0
  rw [overL_len, good_ans h1 h2 hu, e1]
  have hl : (outs ++ [K.length]).length = outs.length + 1 := by simp
  rw [hl]
  have e : 2 * (eps - 1) + 1 = 2 * eps - 1 := by omega
  rw [e] at e2 e4
  refine ⟨by omega, by rw [show (((outs.length + 1 : Nat) : Int) - 1) = outs.length by omega]; exact e4, fun i hi => ?_⟩
  have hlt : i < outs.length := by omega
  have := Spc.at (p := 0) e2 i hlt
  rw [begN_app (by omega), begN_succ, app_getD hlt]
  unfold begN
  rw [List.getD_eq_getElem?_getD, List.getElem?_eq_getElem hlt]
  exact this
theorem over_div (h1 : 2 ≤ eps) (h2 : eps ≤ 64) (hu : K.Pairwise (· < ·)) (h0 : 0 < K.length) : (overL K eps).length ≤ K.length / eps.toNat + 1 := by
  obtain ⟨a, b, _⟩ := over_few h1 h2 hu h0
  obtain ⟨e, rfl⟩ := Int.eq_ofNat_of_zero_le (show 0 ≤ eps by omega)
  rw [Int.toNat_natCast]
  obtain ⟨m, hm⟩ : ∃ m, (overL K (e : Int)).length = m + 1 := ⟨(overL K (e : Int)).length - 1, by omega⟩
  rw [hm] at b ⊢
  have hb : (m : Int) * (2 * (e : Int) - 1) ≤ K.length - 1 := by rwa [show (((m + 1 : Nat) : Int) - 1) = m by omega] at b
  have hc : (m : Int) * e ≤ m * (2 * (e : Int) - 1) := Int.mul_le_mul_of_nonneg_left (by omega) (by omega)
  have hd : ((m * e : Nat) : Int) ≤ K.length - 1 := by rw [Int.natCast_mul]; omega
  have : m ≤ K.length / e := (Nat.le_div_iff_mul_le (by omega)).2 (by omega)
  omega
theorem over_one (h1 : 2 ≤ eps) (h2 : eps ≤ 64) (hu : K.Pairwise (· < ·)) (h0 : 0 < K.length) (h : (K.length : Int) < 2 * eps) : (overL K eps).length = 1 := by
  obtain ⟨a, b, _⟩ := over_few h1 h2 hu h0
  apply Classical.byContradiction
  intro hne
  have hc : 1 * (2 * eps - 1) ≤ (((overL K eps).length : Int) - 1) * (2 * eps - 1) := Int.mul_le_mul_of_nonneg_right (by omega) (by omega)
  omega

/-- What is built is right. -/
theorem build_right (h1 : 2 ≤ eps) (h2 : eps ≤ 64) : ∀ n (K : List Int), K.length = n → U64s K → K.length ≤ 4294967296 → K.Pairwise (· < ·) → 0 < K.length →
    levE eps (buildL eps K) K = 0 ∧ 0 < (buildL eps K).length ∧ (buildL eps K).length ≤ maxH eps.toNat K.length ∧ (∀ l ∈ buildL eps K, (∀ s ∈ l, SgOk s) ∧ l.length ≤ K.length) := by
  intro n
  induction n using Nat.strongRecOn with
  | ind n ih =>
    intro K hK hU hn hu h0
    have hne : K ≠ [] := List.length_pos_iff.1 h0
    have htl := over_tl h1 h2 hU hn hu h0
    have hsg := over_segs h1 h2 hU hn hu
    have hup := over_up h1 h2 hU hn hu h0
    have hok := over_sgok h1 h2 hU hn hu
    have hle : (overL K eps).length ≤ K.length := by
      by_cases h : (overL K eps).length = 1
      · omega
      · exact Nat.le_of_lt (over_less hne h)
    by_cases hone : (overL K eps).length = 1
    · rw [buildL_one hne hone]
      refine ⟨?_, by simp, ?_, ?_⟩
      · rw [levE, if_neg (by simp [htl]), if_neg (by simp [hsg]), levE, if_pos (by rw [firsts_len]; exact hone)]
      · exact (maxH_le (by omega) _ (by omega)).1
      · intro l hl; simp at hl; subst hl; exact ⟨hok, hle⟩
    · rw [buildL_more hne hone]
      have hless := over_less hne hone
      have hpos := (over_few h1 h2 hu h0).1
      obtain ⟨r1, r2, r3, r4⟩ := ih _ (by rw [← hK, firsts_len]; exact hless) (firstsL (overL K eps)) rfl (overL_first hU eps) (by rw [firsts_len]; omega) hup (by rw [firsts_len]; omega)
      rw [firsts_len] at r3 r4
      refine ⟨?_, by simp, ?_, ?_⟩
      · rw [levE, if_neg (by simp [htl]), if_neg (by simp [hsg])]; exact r1
      · have hbig : 2 * eps.toNat ≤ K.length := by
          apply Classical.byContradiction; intro hh
          exact hone (over_one h1 h2 hu h0 (by omega))
        rw [maxH_more (by omega) hbig, List.length_cons]
        have := maxH_mono (eps := eps.toNat) (by omega) _ _ (over_div h1 h2 hu h0)
        omega
      · intro l hl
        rcases List.mem_cons.1 hl with rfl | hl
        · exact ⟨hok, hle⟩
        · have := r4 l hl; exact ⟨this.1, by omega⟩
/-- Check takes what is built. -/
theorem build_chk (h1 : 2 ≤ eps) (h2 : eps ≤ 64) (hU : U64s K) (hn : K.length ≤ 4294967296) (hu : K.Pairwise (· < ·)) : chkI K eps (buildL eps K) = 0 := by
  unfold chkI
  rw [if_neg (by omega), if_neg (by simp [hu])]
  by_cases h0 : K = []
  · subst h0
    rw [buildL_nil]
    rw [if_neg (by
      simp only [List.length_nil, true_iff, not_true_eq_false, or_false]
      have := mh_pos h1 h2; omega)]
    simp
  · have hl : 0 < K.length := List.length_pos_iff.2 h0
    obtain ⟨r1, r2, r3, _⟩ := build_right h1 h2 _ K rfl hU hn hu hl
    have hm := maxH_mono (eps := eps.toNat) (by omega) _ _ hn
    have e : mhI 4294967296 eps = (maxH eps.toNat 4294967296 : Int) := by
      unfold mhI; rw [if_neg (by omega)]; rfl
    rw [if_neg (by
      rw [e]
      rintro (h | h)
      · omega
      · exact h ⟨fun _ => by omega, fun _ => by omega⟩), if_neg (by omega)]
    exact r1
end
end Go.Proofs.Ytnccgpdniigekaa
/-
  Plain: on levels that are right the segment that stands for a number predicts its rank.
-/
namespace Go.Proofs.Ytnccgpdniigekaa
open Go.RowKit
set_option linter.unusedVariables false
set_option linter.unusedSimpArgs false

theorem levE_cons {eps : Int} {l : List Sg} {ll : List (List Sg)} {K : List Int} (h : levE eps (l :: ll) K = 0) : tl K.length 0 l = true ∧ segsE K eps l = 0 ∧ levE eps ll (firstsL l) = 0 := by
  rw [levE] at h
  by_cases h1 : tl K.length 0 l = false
  · rw [if_pos h1] at h; omega
  · rw [if_neg h1] at h
    by_cases h2 : segsE K eps l ≠ 0
    · rw [if_pos h2] at h; exact absurd h h2
    · rw [if_neg h2] at h
      exact ⟨by simpa using h1, by simpa using h2, h⟩
theorem segE_of {K : List Int} {eps : Int} : ∀ {l : List Sg}, segsE K eps l = 0 → ∀ s ∈ l, segE K eps s = 0
  | [], _, s, hs => absurd hs (by simp)
  | x :: l, h, s, hs => by
    rw [segsE] at h
    by_cases h1 : segE K eps x ≠ 0
    · rw [if_pos h1] at h; exact absurd h h1
    · rw [if_neg h1] at h
      rcases List.mem_cons.1 hs with rfl | hs
      · simpa using h1
      · exact segE_of h s hs
theorem segE_zero {K : List Int} {eps : Int} {s : Sg} (h : segE K eps s = 0) : Right s ∧ s.first = K.getD s.fr.toNat 0 ∧ (offI s (stretch K s.fr.toNat s.up.toNat)).1 ≤ eps := by
  unfold segE at h
  by_cases h1 : chk s ≠ 0
  · rw [if_pos h1] at h; exact absurd h h1
  · rw [if_neg h1] at h
    by_cases h2 : s.first ≠ K.getD s.fr.toNat 0
    · rw [if_pos h2] at h; omega
    · rw [if_neg h2] at h
      by_cases h3 : eps < (offI s (stretch K s.fr.toNat s.up.toNat)).1
      · rw [if_pos h3] at h; omega
      · exact ⟨chk_right.1 (by simpa using h1), by simpa using h2, by omega⟩
theorem tl_at {n : Int} : ∀ {l : List Sg} {a : Int}, tl n a l = true →
    (∀ i, i < l.length → (l.getD i zS).fr = (if i = 0 then a else (l.getD (i - 1) zS).up) ∧ (l.getD i zS).fr < (l.getD i zS).up ∧ (l.getD i zS).up ≤ n) ∧ (if l.length = 0 then a else (l.getD (l.length - 1) zS).up) = n
  | [], a, h => ⟨fun i hi => absurd hi (by simp), by rw [tl, decide_eq_true_eq] at h; simpa using h⟩
  | s :: l, a, h => by
    rw [tl, Bool.and_eq_true, decide_eq_true_eq] at h
    obtain ⟨⟨q1, q2, q3⟩, h2⟩ := h
    obtain ⟨r1, r2⟩ := tl_at h2
    constructor
    · intro i hi
      cases i with
      | zero => simp [q1, q2, q3]
      | succ i =>
        have := r1 i (by simpa using hi)
        cases i with
        | zero => simpa using this
        | succ i => simpa using this
    · cases l with
      | nil => simpa using r2
      | cons t l => simpa using r2
section
variable {K : List Int} {eps : Int} {l : List Sg}
/-- A level that is right. -/
structure Lev (K : List Int) (eps : Int) (l : List Sg) : Prop where
  tl : tl K.length 0 l = true
  segs : segsE K eps l = 0
  sg : ∀ s ∈ l, SgOk s
  ok : U64s K
  up : K.Pairwise (· < ·)
theorem Lev.at_ (h : Lev K eps l) {i : Nat} (hi : i < l.length) : ∃ p t : Nat, Right (l.getD i zS) ∧ SgOk (l.getD i zS) ∧ (l.getD i zS).fr = p ∧ (l.getD i zS).up = t ∧ p < t ∧ t ≤ K.length ∧ (l.getD i zS).first = K.getD p 0 ∧ worst (l.getD i zS) (stretch K p t) (stretch K p t).length ≤ eps := by
  have hm : l.getD i zS ∈ l := mem_getD hi rfl
  obtain ⟨q1, q2, q3⟩ := segE_zero (segE_of h.segs _ hm)
  obtain ⟨r1, r2, r3⟩ := (tl_at h.tl).1 i hi
  generalize l.getD i zS = s at *
  have := q1.fr
  obtain ⟨p, hp⟩ := Int.eq_ofNat_of_zero_le q1.fr
  obtain ⟨t, ht⟩ := Int.eq_ofNat_of_zero_le (show 0 ≤ s.up by omega)
  rw [hp, ht] at q3
  simp only [Int.toNat_natCast] at q3
  refine ⟨p, t, q1, h.sg _ hm, hp, ht, by omega, by omega, by rw [q2, hp]; rfl, ?_⟩
  have hs := stretch_len (K := K) (p := p) (t := t) (by omega)
  unfold offI at q3
  rw [if_neg (by rw [chk_right.2 q1]; simp), if_neg (by
    rintro (g | g | g)
    · omega
    · rw [stretch_getD (by omega), q2, hp] at g; exact g rfl
    · exact g (stretch_up h.up _ _))] at q3
  exact q3
theorem Lev.next (h : Lev K eps l) {i : Nat} (hi : i + 1 < l.length) : (l.getD (i + 1) zS).fr = (l.getD i zS).up := by
  have := ((tl_at h.tl).1 (i + 1) hi).1
  simpa using this
theorem Lev.head (h : Lev K eps l) (hi : 0 < l.length) : (l.getD 0 zS).fr = 0 := by
  have := ((tl_at h.tl).1 0 hi).1
  simpa using this
theorem Lev.last (h : Lev K eps l) (hi : 0 < l.length) : (l.getD (l.length - 1) zS).up = K.length := by
  have := (tl_at h.tl).2
  rwa [if_neg (by omega)] at this
theorem Lev.apart (h : Lev K eps l) {i : Nat} : ∀ d, i + d + 1 < l.length → (l.getD i zS).up ≤ (l.getD (i + d + 1) zS).fr := by
  intro d
  induction d with
  | zero => intro hd; rw [h.next hd]; exact Int.le_refl _
  | succ d ih =>
    intro hd
    have h1 := ih (by omega)
    rw [show i + (d + 1) + 1 = (i + d + 1) + 1 by omega, h.next (by omega)]
    have := ((tl_at h.tl).1 (i + d + 1) (by omega)).2.1
    omega
theorem Lev.firsts_up (h : Lev K eps l) {i j : Nat} (hij : i < j) (hj : j < l.length) : (l.getD i zS).first < (l.getD j zS).first := by
  obtain ⟨p, t, _, _, a1, a2, a3, a4, a5, _⟩ := h.at_ (show i < l.length by omega)
  obtain ⟨p', t', _, _, b1, b2, b3, b4, b5, _⟩ := h.at_ hj
  have := h.apart (i := i) (j - (i + 1)) (by omega)
  rw [show i + (j - (i + 1)) + 1 = j by omega] at this
  rw [a5, b5]
  exact getD_lt h.up (by omega) (by omega)
theorem Lev.up' (h : Lev K eps l) : (firstsL l).Pairwise (· < ·) := by
  rw [List.pairwise_iff_getElem]
  intro i j hi hj hij
  rw [firsts_len] at hi hj
  have gi := firsts_getD l hi
  have gj := firsts_getD l hj
  rw [List.getD_eq_getElem?_getD, List.getElem?_eq_getElem (by rw [firsts_len]; exact hi)] at gi
  rw [List.getD_eq_getElem?_getD, List.getElem?_eq_getElem (by rw [firsts_len]; exact hj)] at gj
  simp only [Option.getD_some] at gi gj
  rw [gi, gj]
  exact h.firsts_up hij hj
theorem Lev.ok' (h : Lev K eps l) : U64s (firstsL l) := firsts_ok h.sg
/-- Rising keys have one place where those below end. -/
theorem belowN_is (hu : K.Pairwise (· < ·)) {q : Int} {r : Nat} (hr : r ≤ K.length) (h1 : ∀ i, i < r → K.getD i 0 < q) (h2 : ∀ i, r ≤ i → i < K.length → q ≤ K.getD i 0) : belowN K q K.length = r := by
  obtain ⟨g1, g2⟩ := belowN_split hu q (Nat.le_refl K.length)
  have := belowN_le K q K.length
  rcases Nat.lt_trichotomy (belowN K q K.length) r with h | h | h
  · have a := h1 _ h
    have b := g2 _ (Nat.le_refl _) (by omega)
    omega
  · exact h
  · have a := g1 _ h
    have b := h2 _ (Nat.le_refl _) (by omega)
    omega
theorem getD_le (hu : K.Pairwise (· < ·)) {i j : Nat} (hij : i ≤ j) (hj : j < K.length) : K.getD i 0 ≤ K.getD j 0 := by
  rcases Nat.eq_or_lt_of_le hij with h | h
  · rw [h]; exact Int.le_refl _
  · exact Int.le_of_lt (getD_lt hu h hj)
/-- The segment j stands for q. -/
structure Stands (l : List Sg) (q : Int) (j : Nat) : Prop where
  lt : j < l.length
  low : j = 0 ∨ (l.getD j zS).first ≤ q
  high : j + 1 < l.length → q < (l.getD (j + 1) zS).first
/-- What is below q, told by the segment that stands for it. -/
theorem Stands.rank {q : Int} {j : Nat} (s : Stands l q j) (h : Lev K eps l) {p t : Nat} (hp : (l.getD j zS).fr = p) (ht : (l.getD j zS).up = t) (hpt : p < t) (htn : t ≤ K.length) (hf : (l.getD j zS).first = K.getD p 0) :
    belowN K q K.length = p + belowN (stretch K p t) q (stretch K p t).length ∧ (∀ i, i < p → K.getD i 0 < q) ∧ (∀ i, t ≤ i → i < K.length → q < K.getD i 0) := by
  have hlow : ∀ i, i < p → K.getD i 0 < q := by
    intro i hi
    rcases s.low with g | g
    · subst g
      have := h.head s.lt; omega
    · have := getD_lt h.up hi (by omega); omega
  have hhigh : ∀ i, t ≤ i → i < K.length → q < K.getD i 0 := by
    intro i hi hiK
    by_cases hj : j + 1 < l.length
    · have a := s.high hj
      obtain ⟨p', t', _, _, b1, b2, b3, b4, b5, _⟩ := h.at_ hj
      have c := h.next hj
      have : p' = t := by omega
      subst this
      have := getD_le h.up hi hiK
      omega
    · have c := h.last (by have := s.lt; omega)
      have : l.length - 1 = j := by have := s.lt; omega
      rw [this] at c
      omega
  refine ⟨?_, hlow, hhigh⟩
  have hs := stretch_len (K := K) (p := p) htn
  obtain ⟨g1, g2⟩ := belowN_split (stretch_up h.up p t) q (Nat.le_refl _)
  have gl := belowN_le (stretch K p t) q (stretch K p t).length
  generalize belowN (stretch K p t) q (stretch K p t).length = b at *
  refine belowN_is h.up (by omega) (fun i hi => ?_) (fun i hi hiK => ?_)
  · rcases Nat.lt_or_ge i p with g | g
    · exact hlow i g
    · have := g1 (i - p) (by omega)
      rwa [stretch_getD (by omega), show p + (i - p) = i by omega] at this
  · rcases Nat.lt_or_ge i t with g | g
    · have := g2 (i - p) (by omega) (by omega)
      rwa [stretch_getD (by omega), show p + (i - p) = i by omega] at this
    · exact Int.le_of_lt (hhigh i g hiK)
/-- The bound. -/
theorem Stands.near {q : Int} {j : Nat} (s : Stands l q j) (h : Lev K eps l) (he : 0 ≤ eps) (hq : u64ok q) :
    guess (l.getD j zS) q - belowN K q K.length ≤ eps ∧ -(guess (l.getD j zS) q - belowN K q K.length) ≤ eps + 1 ∧ (∀ i, i < K.length → K.getD i 0 = q → -(guess (l.getD j zS) q - belowN K q K.length) ≤ eps) := by
  obtain ⟨p, t, a0, a1, a2, a3, a4, a5, a6, a7⟩ := h.at_ s.lt
  obtain ⟨r1, r2, r3⟩ := s.rank h a2 a3 a4 a5 a6
  have hs := stretch_len (K := K) (p := p) a5
  have hoff := off_beside a0 a1.hf (h.ok.stretch p t) (stretch_up h.up p t) (by rw [hs, a2, a3]; omega) he a7 hq
  rw [a2] at hoff
  rw [r1]
  refine ⟨by omega, by omega, fun i hi hk => ?_⟩
  have hip : p ≤ i := by
    apply Classical.byContradiction; intro g
    have := r2 i (by omega); omega
  have hit : i < t := by
    apply Classical.byContradiction; intro g
    have := r3 i (by omega) hi; omega
  have hg : (stretch K p t).getD (i - p) 0 = q := by rw [stretch_getD (by omega), show p + (i - p) = i by omega, hk]
  obtain ⟨b1, b2, b3⟩ := off_there (stretch_up h.up p t) a7 (show i - p < (stretch K p t).length by omega)
  rw [hg] at b1 b2 b3
  rw [b1]
  rw [a2] at b3
  omega
/-- The last of the first so many that does not lie beyond q. -/
def pickN (l : List Sg) (q : Int) : Nat → Nat
  | 0 => 0
  | k + 1 => if (l.getD k zS).first ≤ q then k else pickN l q k
end
end Go.Proofs.Ytnccgpdniigekaa
