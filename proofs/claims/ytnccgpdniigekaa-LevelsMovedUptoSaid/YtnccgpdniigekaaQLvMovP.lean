/-
  Plain: keys moved, levels moved; levels in memory moved one segment by one.
-/
import Derived.Test.YtnccgpdniigekaaQG33
import Derived.Test.YtnccgpdniigekaaQG21
namespace Go.Proofs.Ytnccgpdniigekaa
open Go.RowKit
set_option linter.unusedVariables false
set_option linter.unusedSimpArgs false

/-- A segment moved. -/
def mvS (far : Int) (s : Sg) : Sg := ⟨s.first + far, s.sl, s.ic, s.fr, s.up⟩
section
variable {eps far : Int} {K : List Int}
theorem stretch_mv (p t : Nat) : stretch (K.map (· + far)) p t = (stretch K p t).map (· + far) := by
  unfold stretch; rw [List.map_take, List.map_drop]
theorem ofS_mv {L : List Int} (h0 : 0 < L.length) (hl : (lineOf L eps).2 = 0) {fr : Int} (h1 : 0 ≤ fr) (h2 : fr ≤ 4294967296 - (L.length : Int)) : (ofS (L.map (· + far)) eps fr).1 = mvS far (ofS L eps fr).1 := by
  unfold ofS
  rw [lineOf_mv, List.length_map, if_neg (by simp [hl]), if_neg (by omega), if_neg (by simp [hl]), if_neg (by omega), getD_mv h0]
  rfl
theorem U64s.mv (hU : U64s K) (h0 : 0 ≤ far) (h : ∀ k ∈ K, k + far ≤ 18446744073709551615) : U64s (K.map (· + far)) := fun x hx => by
  obtain ⟨k, hk, rfl⟩ := List.mem_map.1 hx
  have := hU k hk; have := h k hk
  unfold u64ok at *; omega
theorem overL_mv (h1 : 2 ≤ eps) (h2 : eps ≤ 64) (hn : K.length ≤ 4294967296) (hu : K.Pairwise (· < ·)) : overL (K.map (· + far)) eps = (overL K eps).map (mvS far) := by
  unfold overL
  rw [good_ans h1 h2 hu, good_ans h1 h2 (up_mv hu far), endsL_mv]
  unfold segsN
  rw [List.map_map]
  apply List.map_congr_left
  intro i hi
  have hi' := List.mem_range.1 hi
  have h0 : 0 < K.length := by
    apply Classical.byContradiction; intro hk
    have : endsL (eps - 1) K = [] := by unfold endsL; rw [if_pos (by omega)]
    rw [this] at hi'; simp at hi'
  have ho := (endsL_ok (e := eps - 1) (by omega) hu h0).at_ i hi'
  have hs := stretch_len (K := K) (p := begN (endsL (eps - 1) K) i) ho.2
  show (ofS (stretch (K.map (· + far)) _ _) eps _).1 = mvS far (ofS (stretch K _ _) eps _).1
  rw [stretch_mv]
  exact ofS_mv (by omega) (ends_line h1 h2 hu h0 hi') (by omega) (by omega)
theorem firsts_mv (l : List Sg) : firstsL (l.map (mvS far)) = (firstsL l).map (· + far) := by
  unfold firstsL; rw [List.map_map, List.map_map]; rfl
theorem buildL_mv (h1 : 2 ≤ eps) (h2 : eps ≤ 64) : ∀ n (K : List Int), K.length = n → U64s K → K.length ≤ 4294967296 → K.Pairwise (· < ·) → buildL eps (K.map (· + far)) = (buildL eps K).map (List.map (mvS far)) := by
  intro n
  induction n using Nat.strongRecOn with
  | ind n ih =>
    intro K hK hU hn hu
    by_cases h0 : K = []
    · subst h0; rw [List.map_nil, buildL_nil]; rfl
    · have h0' : K.map (· + far) ≠ [] := by simpa using h0
      have ho := overL_mv (far := far) h1 h2 hn hu
      have hl : (overL (K.map (· + far)) eps).length = (overL K eps).length := by rw [ho, List.length_map]
      by_cases hone : (overL K eps).length = 1
      · rw [buildL_one h0 hone, buildL_one h0' (by rw [hl]; exact hone), ho]; rfl
      · rw [buildL_more h0 hone, buildL_more h0' (by rw [hl]; exact hone), ho, firsts_mv]
        have hless := over_less h0 hone
        have hp := (over_few h1 h2 hu (List.length_pos_iff.2 h0)).1
        rw [ih _ (by rw [← hK, firsts_len]; exact hless) (firstsL (overL K eps)) rfl (overL_first hU eps) (by rw [firsts_len]; omega) (over_up h1 h2 hU hn hu (List.length_pos_iff.2 h0))]
        rfl
end

/-- So many of a level moved; so many levels moved. -/
def mvK (far : Int) (l : List Sg) (k : Nat) : List Sg := (List.range l.length).map fun j => if j < k then mvS far (l.getD j zS) else l.getD j zS
def mvI (far : Int) (ll : List (List Sg)) (i : Nat) : List (List Sg) := (List.range ll.length).map fun j => if j < i then (ll.getD j []).map (mvS far) else ll.getD j []
theorem ext_getD {α : Type} (z : α) {a b : List α} (hl : a.length = b.length) (h : ∀ i, i < a.length → a.getD i z = b.getD i z) : a = b := by
  apply List.ext_getElem hl
  intro i h1 h2
  have := h i h1
  rwa [List.getD_eq_getElem?_getD, List.getD_eq_getElem?_getD, List.getElem?_eq_getElem h1, List.getElem?_eq_getElem h2] at this
theorem range_getD {α : Type} (z : α) (f : Nat → α) {n i : Nat} (h : i < n) : ((List.range n).map f).getD i z = f i := by
  rw [List.getD_eq_getElem?_getD, List.getElem?_map, List.getElem?_range h]; rfl
theorem map_getD' {α β : Type} (z : α) (y : β) (f : α → β) {l : List α} {i : Nat} (h : i < l.length) : (l.map f).getD i y = f (l.getD i z) := by
  rw [List.getD_eq_getElem?_getD, List.getD_eq_getElem?_getD, List.getElem?_map, List.getElem?_eq_getElem h]; rfl
theorem set_getD {α : Type} (z : α) {l : List α} {i j : Nat} {x : α} (h : i < l.length) : (l.set i x).getD j z = if j = i then x else l.getD j z := by
  rw [List.getD_eq_getElem?_getD, List.getD_eq_getElem?_getD, List.getElem?_set]
  by_cases hij : i = j
  · subst hij; rw [if_pos rfl, if_pos h, if_pos rfl]; rfl
  · rw [if_neg hij, if_neg (fun h => hij h.symm)]
theorem mvK_len (far : Int) (l : List Sg) (k : Nat) : (mvK far l k).length = l.length := by simp [mvK]
theorem mvI_len (far : Int) (ll : List (List Sg)) (i : Nat) : (mvI far ll i).length = ll.length := by simp [mvI]
theorem mvK_zero (far : Int) (l : List Sg) : mvK far l 0 = l :=
  ext_getD zS (mvK_len _ _ _) fun i hi => by rw [mvK_len] at hi; unfold mvK; rw [range_getD _ _ hi, if_neg (by omega)]
theorem mvK_all (far : Int) (l : List Sg) : mvK far l l.length = l.map (mvS far) :=
  ext_getD zS (by rw [mvK_len, List.length_map]) fun i hi => by
    rw [mvK_len] at hi
    unfold mvK
    rw [range_getD _ _ hi, if_pos hi, map_getD' zS zS _ hi]
theorem mvK_set (far : Int) (l : List Sg) {k : Nat} (hk : k < l.length) : (mvK far l k).set k (mvS far (l.getD k zS)) = mvK far l (k + 1) :=
  ext_getD zS (by rw [List.length_set, mvK_len, mvK_len]) fun i hi => by
    rw [List.length_set, mvK_len] at hi
    rw [set_getD zS (by rw [mvK_len]; exact hk)]
    unfold mvK
    rw [range_getD _ _ hi, range_getD _ _ hi]
    by_cases h : i = k
    · subst h; rw [if_pos rfl, if_pos (by omega)]
    · rw [if_neg h]
      by_cases h2 : i < k
      · rw [if_pos h2, if_pos (by omega)]
      · rw [if_neg h2, if_neg (by omega)]
theorem mvK_get (far : Int) (l : List Sg) {k : Nat} (hk : k < l.length) : (mvK far l k).getD k zS = l.getD k zS := by
  unfold mvK; rw [range_getD _ _ hk, if_neg (by omega)]
theorem mvI_zero (far : Int) (ll : List (List Sg)) : mvI far ll 0 = ll :=
  ext_getD [] (mvI_len _ _ _) fun i hi => by rw [mvI_len] at hi; unfold mvI; rw [range_getD _ _ hi, if_neg (by omega)]
theorem mvI_all (far : Int) (ll : List (List Sg)) : mvI far ll ll.length = ll.map (List.map (mvS far)) :=
  ext_getD [] (by rw [mvI_len, List.length_map]) fun i hi => by
    rw [mvI_len] at hi
    unfold mvI
    rw [range_getD _ _ hi, if_pos hi, map_getD' [] [] _ hi]
theorem mvI_get (far : Int) (ll : List (List Sg)) {i : Nat} (hi : i < ll.length) : (mvI far ll i).getD i [] = ll.getD i [] := by
  unfold mvI; rw [range_getD _ _ hi, if_neg (by omega)]
theorem mvI_set (far : Int) (ll : List (List Sg)) {i : Nat} (hi : i < ll.length) : (mvI far ll i).set i ((ll.getD i []).map (mvS far)) = mvI far ll (i + 1) :=
  ext_getD [] (by rw [List.length_set, mvI_len, mvI_len]) fun j hj => by
    rw [List.length_set, mvI_len] at hj
    rw [set_getD [] (by rw [mvI_len]; exact hi)]
    unfold mvI
    rw [range_getD _ _ hj, range_getD _ _ hj]
    by_cases h : j = i
    · subst h; rw [if_pos rfl, if_pos (by omega)]
    · rw [if_neg h]
      by_cases h2 : j < i
      · rw [if_pos h2, if_pos (by omega)]
      · rw [if_neg h2, if_neg (by omega)]
theorem set_self {α : Type} (z : α) {l : List α} {i : Nat} (hi : i < l.length) : l.set i (l.getD i z) = l :=
  ext_getD z (List.length_set ..) fun j hj => by
    rw [set_getD z hi]
    by_cases h : j = i
    · subst h; rw [if_pos rfl]
    · rw [if_neg h]

section
variable {w0 w w' : World} {v : Value} {gs : List Nat} {ll : List (List Sg)}
theorem LLm.base {w1 : World} (k : Below w0.heap.size w0 w1) (h : LLm w1 v gs ll w) : LLm w0 v gs ll w :=
  ⟨h.len, h.row, fun g hg => Nat.le_trans k.size (h.own g hg), fun i hi => ⟨(h.inn i hi).1, Nat.le_trans k.size (h.inn i hi).2⟩, h.dis, below_next k h.bel⟩
/-- Elsewhere something turns. -/
theorem LLm.chg {S : Nat → Prop} (h : LLm w0 v gs ll w) (C : Chg S w w') (h1 : ∀ g, v.ownBlock = some g → ¬ S g) (h2 : ∀ g ∈ gs, ¬ S g) (h3 : ∀ g, S g → w0.heap.size ≤ g) : LLm w0 v gs ll w' :=
  ⟨h.len, own_chg h.row C h1, h.own, fun i hi => ⟨(h.inn i hi).1.chg C (h2 _ (by
    rw [List.getD_eq_getElem?_getD, List.getElem?_eq_getElem (by rw [h.len]; exact hi)]; exact List.getElem_mem _)), (h.inn i hi).2⟩, h.dis, below_chg h.bel C (fun k _ hk => h3 k hk) h.bel.size⟩
theorem svs_same {gs : List Nat} {ll ml : List (List Sg)} (hl : ll.length = ml.length) (h : ∀ i, i < ll.length → (ll.getD i []).length = (ml.getD i []).length) : svs gs ll = svs gs ml := by
  apply List.ext_getElem?
  intro i
  unfold svs
  rw [List.getElem?_zipWith, List.getElem?_zipWith]
  cases hg : gs[i]? with
  | none => rfl
  | some g =>
    by_cases hi : i < ll.length
    · have := h i hi
      rw [List.getD_eq_getElem?_getD, List.getD_eq_getElem?_getD, List.getElem?_eq_getElem hi, List.getElem?_eq_getElem (by omega : i < ml.length)] at this
      rw [List.getElem?_eq_getElem hi, List.getElem?_eq_getElem (by omega : i < ml.length)]
      simp only [Option.getD_some] at this
      simp [this]
    · rw [List.getElem?_eq_none (by omega), List.getElem?_eq_none (by omega)]
theorem gs_getD {gs : List Nat} {i : Nat} (h : i < gs.length) : gs.getD i 0 ∈ gs := by
  rw [List.getD_eq_getElem?_getD, List.getElem?_eq_getElem h]; exact List.getElem_mem _
/-- One segment in its place is another now. -/
theorem LLm.put (h : LLm w0 v gs ll w) {i : Nat} (hi : i < ll.length) {l : List Sg} (hl : l.length = (ll.getD i []).length) (C : Chg (fun k => k = gs.getD i 0) w w') (hb : Blk w' (gs.getD i 0) 33 (sflat l).toArray) : LLm w0 v gs (ll.set i l) w' := by
  have hne := own_ne_blk h.row (h.inn i hi).1 (by decide)
  have hgi : i < gs.length := by rw [h.len]; exact hi
  refine ⟨by rw [List.length_set]; exact h.len, ?_, h.own, fun j hj => ?_, h.dis, below_chg h.bel C (fun k _ hk => by rw [hk]; exact (h.inn i hi).2) h.bel.size⟩
  · have := own_chg h.row C (fun g hg hk => hne (by rw [hg, hk]))
    rw [List.length_set]
    rwa [svs_same (ml := ll.set i l) (by rw [List.length_set]) (fun j hj => by
      rw [set_getD [] hi]
      by_cases hji : j = i
      · subst hji; rw [if_pos rfl, hl]
      · rw [if_neg hji])] at this
  · rw [List.length_set] at hj
    rw [set_getD [] hi]
    by_cases hji : j = i
    · subst hji; rw [if_pos rfl]; exact ⟨hb, (h.inn j hj).2⟩
    · rw [if_neg hji]
      refine ⟨(h.inn j hj).1.chg C ?_, (h.inn j hj).2⟩
      intro he
      have hp := List.pairwise_iff_getElem.1 h.dis
      rw [List.getD_eq_getElem?_getD, List.getD_eq_getElem?_getD, List.getElem?_eq_getElem (by rw [h.len]; exact hj), List.getElem?_eq_getElem hgi] at he
      simp only [Option.getD_some] at he
      rcases Nat.lt_or_ge j i with hlt | hge
      · have := hp j i (by rw [h.len]; exact hj) hgi hlt; omega
      · have := hp i j hgi (by rw [h.len]; exact hj) (by omega); omega
theorem sflat_set1 : ∀ (l : List Sg) (i : Nat) (far : Int), i < l.length → (sflat l).set (i * 5) (.int .u64 ((l.getD i zS).first + far)) = sflat (l.set i (mvS far (l.getD i zS)))
  | [], i, far, h => absurd h (by simp)
  | e :: es, 0, far, _ => by rw [sflat_cons, List.set_cons_zero, sflat_cons]; simp [scells, mvS]
  | e :: es, i + 1, far, h => by
    have hl : (scells e).length = 5 := rfl
    rw [List.set_cons_succ, sflat_cons, sflat_cons]
    have e1 : (e :: es).getD (i + 1) zS = es.getD i zS := by simp
    rw [e1, ← sflat_set1 es i far (by simpa using h), List.set_append_right _ _ (by omega), hl, show (i + 1) * 5 - 5 = i * 5 by omega]
end
end Go.Proofs.Ytnccgpdniigekaa
