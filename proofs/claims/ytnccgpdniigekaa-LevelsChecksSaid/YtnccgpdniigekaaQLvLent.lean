/-
  lent of the law: levels of one's own, with marks behind each list.
-/
import Derived.Test.YtnccgpdniigekaaQG24
import Derived.Test.YtnccgpdniigekaaQG25
namespace Go.Proofs.Ytnccgpdniigekaa
open Go.RowKit
set_option linter.unusedVariables false
set_option linter.unusedSimpArgs false
attribute [local go_sem high] run_store_float

/-- copy that copies nothing, elements of whatever size. -/
theorem run_copy_none' {P : Program} (w : World) (dT sT ty elem : TypeId) (d a : Option Addr) (dLen dCap sLen sCap size : Nat) (hu : P.underlying dT = some (.slice elem)) (hs : (P.info? elem).map (·.size) = some size) (hn : Nat.min sLen dLen = 0) :
    (Builtin.copy_ #[dT, sT] ty #[.slice d dLen dCap, .slice a sLen sCap]).run P w = .ok (goInt 0) w := by
  cases hq : P.info? elem with
  | none => simp [hq] at hs
  | some i =>
    have hi : i.size = size := by simpa [hq] using hs
    have hl : ∀ (x : Addr), (loadCells x 0).run P w = .ok #[] w := fun x => by simpa using run_loadCells_list (P := P) w x [] (by simp)
    cases d <;> cases a <;> simp [Builtin.copy_, run_underlying hu, Builtin.lenOf, Builtin.firstCells, sizeOf, typeInfo, hq, hi, hn, storeCells, hl]
/-- copy into one's own row, elements of whatever size: what is laid over it is told. -/
theorem wpList_copy_rows {P : Program} {w : World} {ops : Array Oper} {rest : List Oper} {o : Oper} {a : Act} {Q : Exit → Act → World → Prop} (hgd : o.guard = none) (d s : Operand) (dT sT : TypeId)
    (ho : o.op = .call { callee := .builtin .copy, args := #[d, s], argTypes := #[dT, sT] }) (elem : TypeId) (hu : P.underlying dT = some (.slice elem)) (size : Nat) (hsz : (P.info? elem).map (·.size) = some size) (hs0 : 0 < size)
    (dp sp : Option Addr) (dLen dCap sLen sCap m : Nat) (hd : a.eval d = .slice dp dLen dCap) (hs : a.eval s = .slice sp sLen sCap)
    (g off : Nat) (cur : List Value) (t : TypeId) (hg : w.heap[g]? = some (.cells cur.toArray t (0, 0))) (cs : List Value) (hm : m = Nat.min sLen dLen) (hn : cs.length = m * size)
    (hpos : 0 < cs.length → dp = some ⟨g, off, none⟩ ∧ ∃ ad, sp = some ad ∧ ∀ j v, cs[j]? = some v → w.cell? (ad.add j) = some v)
    (hfit : off + cs.length ≤ cur.length) (h1 : ∀ v ∈ cs, v.oneCell' = true) (B : Nat) (w0 : World) (hb : Below B w0 w) (hBg : B ≤ g)
    (h : ∀ w', Hid (w'.heap[g]? = some (.cells (splice cur off cs).toArray t (0, 0))) → Hid (Below B w0 w' ∧ Below g w w') → wpList P ops Q rest (a.put o.dst (goInt m)) w') :
    wpList P ops Q (o :: rest) a w := by
  by_cases h0 : cs.length = 0
  · obtain rfl : cs = [] := List.eq_nil_of_length_eq_zero h0
    have hm0 : m = 0 := by
      rw [h0] at hn
      rcases Nat.mul_eq_zero.1 hn.symm with h | h
      · exact h
      · omega
    subst hm0
    refine wpList_plain hgd fun K hK => ?_
    have hrun := run_copy_none' (P := P) w dT sT o.type elem dp sp dLen dCap sLen sCap size hu hsz hm.symm
    unfold Oper.wp
    simp [execOp, ho, resolve, invoke, builtin, hd, hs, hrun, Result.andThen]
    exact hK _ _ (h w (show _ = _ by simpa [splice] using hg) (Lib.hid ⟨hb, Below.refl _ _⟩))
  · obtain ⟨rfl, ad, rfl, hsrc⟩ := hpos (by omega)
    exact wpList_plain hgd fun K hK => wp_copy_rows d s dT sT ho elem hu size hsz g off dLen dCap ad sLen sCap m hd hs cur.toArray t hg cs hm hn hsrc (by simpa using hfit) h1
      (hK _ _ (h _ (show _ = _ by simpa [splice] using setRow_heap w g _ _ t _ hg) (Lib.hid ⟨below_setRow hb hBg _, below_setRow (Below.refl _ _) (Nat.le_refl _) _⟩)))
theorem made_nils (n : Nat) : madeCells #[Value.slice none 0 0] n = (List.replicate n (Value.slice none 0 0)).toArray := by
  rw [← toList_madeCells_one]
def z77 : Sg := ⟨0, 0, 0, -77, 0⟩
def z78 : Sg := ⟨0, 0, 0, -78, 0⟩
/-- What is laid there: each list and a mark. -/
def svC (G : Nat → Nat) (ll : List (List Sg)) (j : Nat) : Value := .slice (some ⟨G j, 0, none⟩) (ll.getD j []).length ((ll.getD j []).length + 1)
def svF (G : Nat → Nat) (ll : List (List Sg)) (i : Nat) : List Value := (List.range i).map (svC G ll) ++ List.replicate (ll.length + 1 - i) (.slice none 0 0)
theorem svF_len (G : Nat → Nat) (ll : List (List Sg)) {i : Nat} (h : i ≤ ll.length) : (svF G ll i).length = ll.length + 1 := by unfold svF; simp; omega
theorem svF_set (G : Nat → Nat) (ll : List (List Sg)) {i g : Nat} (h : i < ll.length) : (svF G ll i).toArray.setIfInBounds i (.slice (some ⟨g, 0, none⟩) (ll.getD i []).length ((ll.getD i []).length + 1)) = (svF (fun j => if j = i then g else G j) ll (i + 1)).toArray := by
  rw [List.setIfInBounds_toArray]
  unfold svF
  have e : ll.length + 1 - i = (ll.length + 1 - (i + 1)) + 1 := by omega
  rw [List.set_append_right _ _ (by simp), List.length_map, List.length_range, Nat.sub_self, e, List.replicate_succ, List.set_cons_zero, List.range_succ, List.map_append, List.append_assoc]
  congr 2
  · apply List.map_congr_left
    intro j hj
    have : j ≠ i := by have := List.mem_range.1 hj; omega
    simp [svC, this]
  · simp [svC]
theorem svF_nil {G : Nat → Nat} {ll : List (List Sg)} {i j : Nat} (h1 : i ≤ j) (h2 : j ≤ ll.length) : (svF G ll i)[j]? = some (.slice none 0 0) := by
  unfold svF
  rw [List.getElem?_append_right (by simpa using h1), List.getElem?_replicate, if_pos (by simp; omega)]
theorem svF_at {G : Nat → Nat} {ll : List (List Sg)} {i j : Nat} (h1 : j < i) : (svF G ll i)[j]? = some (svC G ll j) := by
  unfold svF
  rw [List.getElem?_append_left (by simpa using h1), List.getElem?_map, List.getElem?_range h1]; rfl
theorem splice_row (l : List Sg) : splice (sflat (List.replicate (l.length + 1) zS)) 0 (sflat l) = sflat (l ++ [zS]) := by
  unfold splice
  rw [List.take_zero, List.nil_append, Nat.zero_add, length_sflat, sflat_append]
  congr 1
  have e : List.replicate (l.length + 1) zS = List.replicate l.length zS ++ [zS] := List.replicate_succ'
  rw [e, sflat_append, List.drop_left' (by rw [length_sflat, List.length_replicate])]
theorem mark_set (l : List Sg) (t : Sg) : (l ++ [zS]).set l.length t = l ++ [t] := by
  rw [List.set_append_right _ _ (Nat.le_refl _), Nat.sub_self]; rfl
theorem mark_get (l : List Sg) (s : Sg) : (l ++ [s]).getD l.length zS = s := by simp
/-- The loop of lent, i lists in. -/
structure LI (w : World) (G : Nat → Nat) (ll : List (List Sg)) (i : Nat) (wr : World) : Prop where
  row : Blk wr w.heap.size 30 (svF G ll i).toArray
  inn : ∀ j, j < i → Blk wr (G j) 33 (sflat (ll.getD j [] ++ [z77])).toArray ∧ w.heap.size < G j
  bel : Below w.heap.size w wr
theorem ArgS.src {w : World} {A : Option Addr} {l : List Sg} (h : ArgS w A l) (h0 : 0 < (sflat l).length) : ∃ ad, A = some ad ∧ ∀ j v, (sflat l)[j]? = some v → w.cell? (ad.add j) = some v := by
  rw [length_sflat] at h0
  obtain ⟨b, o, hA, hb, hc⟩ := h (by omega)
  refine ⟨_, hA, fun j v hv => ?_⟩
  have hj : j < l.length * 5 := by
    rw [← length_sflat]
    exact (List.getElem?_eq_some_iff.1 hv).1
  obtain ⟨q, r, hr, rfl⟩ : ∃ q r, r < 5 ∧ j = q * 5 + r := ⟨j / 5, j % 5, Nat.mod_lt _ (by omega), by omega⟩
  have hq : q < l.length := by omega
  rw [sflat_get l q r hq hr] at hv
  have e : l.getD q zS = l[q] := by rw [List.getD_eq_getElem?_getD, List.getElem?_eq_getElem hq]; rfl
  obtain ⟨s0, s1, s2, s3, s4⟩ := hc q hq
  rw [e] at s0 s1 s2 s3 s4
  rw [Addr.add_mid, ← Nat.add_assoc]
  match r, hr with
  | 0, _ => simp [scells] at hv; rw [← hv]; exact s0
  | 1, _ => simp [scells] at hv; rw [← hv]; exact s1
  | 2, _ => simp [scells] at hv; rw [← hv]; exact s2
  | 3, _ => simp [scells] at hv; rw [← hv]; exact s3
  | 4, _ => simp [scells] at hv; rw [← hv]; exact s4
/-- What lent hands over. -/
structure LentW (w : World) (g : Nat) (ll : List (List Sg)) (w' : World) : Prop where
  ge : w.heap.size ≤ g
  lt : g < w'.heap.size
  inn : ∀ j, j < ll.length → ∃ h, w'.cell? ⟨g, j, none⟩ = some (.slice (some ⟨h, 0, none⟩) (ll.getD j []).length ((ll.getD j []).length + 1)) ∧ ArgS w' (some ⟨h, 0, none⟩) (ll.getD j [] ++ [z77])
  lst : ∃ h, w'.cell? ⟨g, ll.length, none⟩ = some (.slice (some ⟨h, 0, none⟩) 1 1) ∧ ArgS w' (some ⟨h, 0, none⟩) [z78]
  bel : Below w.heap.size w w'
theorem LentW.below {w w' wx : World} {g : Nat} {ll : List (List Sg)} (h : LentW w g ll w') (k : Below w'.heap.size w' wx) : LentW w g ll wx := by
  refine ⟨h.ge, Nat.lt_of_lt_of_le h.lt k.size, fun j hj => ?_, ?_, below_next h.bel k⟩
  · obtain ⟨b, h1, h2⟩ := h.inn j hj
    exact ⟨b, (k.cell (p := ⟨g, _, none⟩) h.lt).trans h1, h2.below k⟩
  · obtain ⟨b, h1, h2⟩ := h.lst
    exact ⟨b, (k.cell (p := ⟨g, _, none⟩) h.lt).trans h1, h2.below k⟩
theorem ArgS.left {w : World} {A : Option Addr} {l m : List Sg} (h : ArgS w A (l ++ m)) : ArgS w A l := fun hn => by
  obtain ⟨b, o, hA, hb, hc⟩ := h (by rw [List.length_append]; omega)
  refine ⟨b, o, hA, hb, fun i hi => ?_⟩
  have := hc i (by rw [List.length_append]; omega)
  rwa [List.getD_eq_getElem?_getD, List.getElem?_append_left hi, ← List.getD_eq_getElem?_getD] at this
theorem LentW.arg {w w' : World} {g : Nat} {ll : List (List Sg)} (h : LentW w g ll w') : ArgSS w' (some ⟨g, 0, none⟩) ll := fun hn =>
  ⟨g, 0, rfl, h.lt, fun i hi => by
    obtain ⟨b, h1, h2⟩ := h.inn i hi
    rw [Nat.zero_add]
    exact ⟨_, _, h1, h2.left⟩⟩
end Go.Proofs.Ytnccgpdniigekaa
