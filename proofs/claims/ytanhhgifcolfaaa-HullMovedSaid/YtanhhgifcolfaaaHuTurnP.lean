/-
  Plain: the slopes of a fit are those of all pairs of its keys; turned round it has the same.
-/
import Derived.Test.YtanhhgifcolfaaaHuFit
namespace Go.Proofs.Ytanhhgifcolfaaa
set_option linter.unusedVariables false
set_option linter.unusedSimpArgs false

def allLow (e : Int) (K : List Int) (s : Fr) : Prop := ∃ i j : Nat, i < j ∧ j < K.length ∧ 0 < (j : Int) - i - 2 * e ∧ s = lowest (j - i - 2 * e) (K.getD j 0 - K.getD i 0)
def allTop (e : Int) (K : List Int) (s : Fr) : Prop := ∃ i j : Nat, i < j ∧ j < K.length ∧ s = lowest (j - i + 2 * e) (K.getD j 0 - K.getD i 0)
theorem getD_lt {K : List Int} (h : K.Pairwise (· < ·)) {i j : Nat} (hij : i < j) (hj : j < K.length) : K.getD i 0 < K.getD j 0 := by
  have := List.pairwise_iff_getElem.1 h i j (by omega) hj hij
  rwa [List.getD_eq_getElem?_getD, List.getD_eq_getElem?_getD, List.getElem?_eq_getElem hj, List.getElem?_eq_getElem (by omega : i < K.length)]
theorem allLow_low {e : Int} {K : List Int} (h : K.Pairwise (· < ·)) : ∀ s, allLow e K s → LowF s := by
  rintro s ⟨i, j, hij, hj, hp, rfl⟩
  exact (lowest_low (by omega) (by have := getD_lt h hij hj; omega)).1
theorem allTop_low {e : Int} (he : 0 ≤ e) {K : List Int} (h : K.Pairwise (· < ·)) : ∀ s, allTop e K s → LowF s := by
  rintro s ⟨i, j, hij, hj, rfl⟩
  exact (lowest_low (by omega) (by have := getD_lt h hij hj; omega)).1
theorem MaxOf.join {a r r' : Fr} {S T : Fr → Prop} (h0 : LowF a) (hS : ∀ s, S s → LowF s) (hT : ∀ s, T s → LowF s) (h : MaxOf a S r) (k : MaxOf r T r') : MaxOf a (fun x => S x ∨ T x) r' := by
  have hr : LowF r := h.is.elim (fun e => e ▸ h0) (hS r)
  have hr' : LowF r' := k.is.elim (fun e => e ▸ hr) (hT r')
  refine ⟨?_, ltF_trans' h0.ok hr.ok hr'.ok h.ge k.ge, fun s hs => hs.elim (fun hs => ltF_trans' (hS s hs).ok hr.ok hr'.ok (h.all s hs) k.ge) (k.all s)⟩
  rcases k.is with e | e
  · rw [e]; exact h.is.imp id .inl
  · exact .inr (.inr e)
theorem MinOf.join {a r r' : Fr} {S T : Fr → Prop} (h0 : LowF a) (hS : ∀ s, S s → LowF s) (hT : ∀ s, T s → LowF s) (h : MinOf a S r) (k : MinOf r T r') : MinOf a (fun x => S x ∨ T x) r' := by
  have hr : LowF r := h.is.elim (fun e => e ▸ h0) (hS r)
  have hr' : LowF r' := k.is.elim (fun e => e ▸ hr) (hT r')
  refine ⟨?_, ltF_trans' hr'.ok hr.ok h0.ok k.le h.le, fun s hs => hs.elim (fun hs => ltF_trans' hr'.ok hr.ok (hS s hs).ok k.le (h.all s hs)) (k.all s)⟩
  rcases k.is with e | e
  · rw [e]; exact h.is.imp id .inl
  · exact .inr (.inr e)
theorem getD_app {K : List Int} {x : Int} {i : Nat} (h : i < K.length) : (K ++ [x]).getD i 0 = K.getD i 0 := by
  simp [List.getD_eq_getElem?_getD, List.getElem?_append_left h]
theorem getD_end {K : List Int} {x : Int} : (K ++ [x]).getD K.length 0 = x := by simp [List.getD_eq_getElem?_getD]
theorem allLow_snoc {e key : Int} {K : List Int} (x : Fr) : allLow e (K ++ [key]) x ↔ allLow e K x ∨ sLow e K.length key K K.length x := by
  constructor
  · rintro ⟨i, j, hij, hj, hp, rfl⟩
    rw [List.length_append, List.length_singleton] at hj
    by_cases hjn : j = K.length
    · subst hjn; exact .inr ⟨i, hij, hp, by rw [getD_end, getD_app hij]⟩
    · exact .inl ⟨i, j, hij, by omega, hp, by rw [getD_app (by omega), getD_app (by omega)]⟩
  · rintro (⟨i, j, hij, hj, hp, rfl⟩ | ⟨i, hi, hp, rfl⟩)
    · exact ⟨i, j, hij, by rw [List.length_append]; omega, hp, by rw [getD_app (by omega), getD_app (by omega)]⟩
    · exact ⟨i, K.length, hi, by simp, hp, by rw [getD_end, getD_app hi]⟩
theorem allTop_snoc {e key : Int} {K : List Int} (x : Fr) : allTop e (K ++ [key]) x ↔ allTop e K x ∨ sTop e K.length key K K.length x := by
  constructor
  · rintro ⟨i, j, hij, hj, rfl⟩
    rw [List.length_append, List.length_singleton] at hj
    by_cases hjn : j = K.length
    · subst hjn; exact .inr ⟨i, hij, by rw [getD_end, getD_app hij]⟩
    · exact .inl ⟨i, j, hij, by omega, by rw [getD_app (by omega), getD_app (by omega)]⟩
  · rintro (⟨i, j, hij, hj, rfl⟩ | ⟨i, hi, rfl⟩)
    · exact ⟨i, j, hij, by rw [List.length_append]; omega, by rw [getD_app (by omega), getD_app (by omega)]⟩
    · exact ⟨i, K.length, hi, by simp, by rw [getD_end, getD_app hi]⟩

/-- A fit whose slopes are those of all pairs. -/
structure Full (e : Int) (F : Fit) : Prop where
  ok : FitOk F
  low : MaxOf (0, 1) (allLow e F.keys) F.low
  top : MinOf (1, 0) (allTop e F.keys) F.top
  fit : ¬ ltF F.top F.low
theorem Full.zero (e : Int) : Full e Fit.zero :=
  ⟨FitOk.zero, MaxOf.none.congr (fun x => ⟨fun ⟨i, j, h1, h2, _⟩ => by simp [Fit.zero] at h2, fun h => h.elim⟩), MinOf.none.congr (fun x => ⟨fun ⟨i, j, h1, h2, _⟩ => by simp [Fit.zero] at h2, fun h => h.elim⟩), by unfold ltF Fit.zero; decide⟩
theorem Full.lowWith {e : Int} {F : Fit} (h : Full e F) {key : Int} (hl : F.late key = false) : MaxOf (0, 1) (allLow e (F.keys ++ [key])) (F.lowWith e key) := by
  have hk := h.ok.lt hl
  have m1 := lowUp_max (e := e) (n := F.keys.length) hk h.ok.low F.keys.length (Nat.le_refl _)
  exact (h.low.join FitOk.zero.low (allLow_low h.ok.up) (sLow_low hk (Nat.le_refl _)) m1).congr allLow_snoc
theorem Full.topWith {e : Int} (he : 0 ≤ e) {F : Fit} (h : Full e F) {key : Int} (hl : F.late key = false) : MinOf (1, 0) (allTop e (F.keys ++ [key])) (F.topWith e key) := by
  have hk := h.ok.lt hl
  have m1 := topUp_min (n := F.keys.length) he (fun i hi => by omega) hk h.ok.top F.keys.length (Nat.le_refl _)
  exact (h.top.join FitOk.zero.top (allTop_low he h.ok.up) (sTop_low he (fun i hi => by omega) hk (Nat.le_refl _)) m1).congr allTop_snoc
theorem Full.add {e : Int} (he : 0 ≤ e) {F F' : Fit} (h : Full e F) {key c : Int} (ha : F.add e key = ((true, c), F')) : Full e F' := by
  have ok := h.ok.add he key
  unfold Fit.add at ha ok
  split at ha
  · simp at ha
  · rename_i hl
    have hl : F.late key = false := by simpa using hl
    split at ha
    · simp at ha
    · rename_i hlt
      simp only [hl, Bool.false_eq_true, if_false, if_neg hlt] at ok
      simp only [Prod.mk.injEq] at ha
      obtain ⟨_, rfl⟩ := ha
      exact ⟨ok, h.lowWith hl, h.topWith he hl, hlt⟩

/-- Keys turned round. -/
def turned (M : Int) (K : List Int) : List Int := K.reverse.map (M - ·)
theorem turned_cons (M a : Int) (K : List Int) : turned M (a :: K) = turned M K ++ [M - a] := by simp [turned]
theorem turned_len (M : Int) (K : List Int) : (turned M K).length = K.length := by simp [turned]
theorem turned_turned (M : Int) (K : List Int) : turned M (turned M K) = K := by
  unfold turned
  rw [← List.map_reverse, List.map_map, List.reverse_reverse]
  conv => rhs; rw [← List.map_id K]
  exact List.map_congr_left fun a _ => by simp only [Function.comp, id]; omega
theorem turned_getD {M : Int} {K : List Int} {j : Nat} (h : j < K.length) : (turned M K).getD j 0 = M - K.getD (K.length - 1 - j) 0 := by
  unfold turned
  rw [List.getD_eq_getElem?_getD, List.getD_eq_getElem?_getD, List.getElem?_map, List.getElem?_reverse h, List.getElem?_eq_getElem (by omega : K.length - 1 - j < K.length)]
  rfl
theorem turned_up {M : Int} {K : List Int} (h : K.Pairwise (· < ·)) : (turned M K).Pairwise (· < ·) := by
  unfold turned
  rw [List.pairwise_map, List.pairwise_reverse]
  exact h.imp (fun h => by omega)
theorem turned_low {e M : Int} {K : List Int} {s : Fr} (h : allLow e (turned M K) s) : allLow e K s := by
  obtain ⟨i, j, hij, hj, hp, rfl⟩ := h
  rw [turned_len] at hj
  refine ⟨K.length - 1 - j, K.length - 1 - i, by omega, by omega, by omega, ?_⟩
  rw [turned_getD hj, turned_getD (by omega : i < K.length)]
  congr 1 <;> omega
theorem turned_top {e M : Int} {K : List Int} {s : Fr} (h : allTop e (turned M K) s) : allTop e K s := by
  obtain ⟨i, j, hij, hj, rfl⟩ := h
  rw [turned_len] at hj
  refine ⟨K.length - 1 - j, K.length - 1 - i, by omega, by omega, ?_⟩
  rw [turned_getD hj, turned_getD (by omega : i < K.length)]
  congr 1 <;> omega
theorem drop_getD {K : List Int} {d i : Nat} : (K.drop d).getD i 0 = K.getD (d + i) 0 := by
  rw [List.getD_eq_getElem?_getD, List.getD_eq_getElem?_getD, List.getElem?_drop]
theorem drop_low {e : Int} {K : List Int} {d : Nat} {s : Fr} (h : allLow e (K.drop d) s) : allLow e K s := by
  obtain ⟨i, j, hij, hj, hp, rfl⟩ := h
  rw [List.length_drop] at hj
  exact ⟨d + i, d + j, by omega, by omega, by omega, by rw [drop_getD, drop_getD]; congr 1; omega⟩
theorem drop_top {e : Int} {K : List Int} {d : Nat} {s : Fr} (h : allTop e (K.drop d) s) : allTop e K s := by
  obtain ⟨i, j, hij, hj, rfl⟩ := h
  rw [List.length_drop] at hj
  exact ⟨d + i, d + j, by omega, by omega, by rw [drop_getD, drop_getD]; congr 1; omega⟩
/-- A fit over the keys from i on, turned round. -/
structure Turn (e M : Int) (F : Fit) (i : Nat) (G : Fit) : Prop where
  full : Full e G
  keys : G.keys = turned M (F.keys.drop i)
theorem Turn.zero (e M : Int) (F : Fit) : Turn e M F F.keys.length Fit.zero := ⟨Full.zero e, by simp [Fit.zero, turned]⟩
theorem Turn.step {e M : Int} (he : 0 ≤ e) {F G : Fit} {i : Nat} (hF : Full e F) (h : Turn e M F (i + 1) G) (hi : i < F.keys.length) : ∃ G', G.add e (M - F.keys[i]) = ((true, 0), G') ∧ Turn e M F i G' := by
  have hd : F.keys.drop i = F.keys[i] :: F.keys.drop (i + 1) := List.drop_eq_getElem_cons hi
  have hK : G.keys ++ [M - F.keys[i]] = turned M (F.keys.drop i) := by rw [hd, turned_cons, h.keys]
  have hup : (G.keys ++ [M - F.keys[i]]).Pairwise (· < ·) := by
    rw [hK]; exact turned_up (hF.ok.up.sublist (List.drop_sublist _ _))
  have hl : G.late (M - F.keys[i]) = false := by
    unfold Fit.late
    cases hg : G.keys.getLast? with
    | none => rfl
    | some l =>
      have hm := List.mem_of_getLast? hg
      have := (List.pairwise_append.1 hup).2.2 l hm _ (List.mem_singleton.2 rfl)
      simp only [decide_eq_false_iff_not]; omega
  have L := h.full.lowWith hl
  have T := h.full.topWith he hl
  have LL := allLow_low (e := e) hup
  have TL := allTop_low he hup
  have lowL : LowF (G.lowWith e (M - F.keys[i])) := L.is.elim (fun q => by rw [q]; exact FitOk.zero.low) (LL _)
  have topL : LowF (G.topWith e (M - F.keys[i])) := T.is.elim (fun q => by rw [q]; exact FitOk.zero.top) (TL _)
  have h1 : ¬ ltF F.low (G.lowWith e (M - F.keys[i])) := by
    rcases L.is with q | q
    · rw [q]; exact hF.low.ge
    · rw [hK] at q; exact hF.low.all _ (drop_low (turned_low q))
  have h2 : ¬ ltF (G.topWith e (M - F.keys[i])) F.top := by
    rcases T.is with q | q
    · rw [q]; exact hF.top.le
    · rw [hK] at q; exact hF.top.all _ (drop_top (turned_top q))
  have h3 := ltF_trans' lowL.ok hF.ok.low.ok hF.ok.top.ok h1 hF.fit
  have h4 := ltF_trans' lowL.ok hF.ok.top.ok topL.ok h3 h2
  have hadd : G.add e (M - F.keys[i]) = ((true, 0), ⟨G.keys ++ [M - F.keys[i]], G.lowWith e (M - F.keys[i]), G.topWith e (M - F.keys[i])⟩) := by
    unfold Fit.add
    rw [hl, if_neg (by simp), if_neg h4]
  exact ⟨_, hadd, h.full.add he hadd, hK⟩
theorem Turn.end {e M : Int} (he : 0 ≤ e) {F G : Fit} (hF : Full e F) (h : Turn e M F 0 G) : G.keys.length = F.keys.length ∧ G.low = F.low ∧ G.top = F.top := by
  have hk : G.keys = turned M F.keys := by simpa using h.keys
  have hk2 : F.keys = turned M G.keys := by rw [hk, turned_turned]
  refine ⟨by rw [hk, turned_len], ?_, ?_⟩
  · exact MaxOf.uniq FitOk.zero.low (allLow_low hF.ok.up) (h.full.low.congr fun x => ⟨fun q => by rw [hk]; rw [hk2] at q; rw [← hk]; exact turned_low q, fun q => by rw [hk] at q; exact turned_low q⟩) hF.low
  · exact MinOf.uniq FitOk.zero.top (allTop_low he hF.ok.up) (h.full.top.congr fun x => ⟨fun q => by rw [hk]; rw [hk2] at q; rw [← hk]; exact turned_top q, fun q => by rw [hk] at q; exact turned_top q⟩) hF.top
end Go.Proofs.Ytanhhgifcolfaaa
