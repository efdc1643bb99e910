/-
  Putting an entry into a buffer.
-/
import Derived.Test.YtalhfjcopkmmlaaBfOps
namespace Go.Proofs.Ytalhfjcopkmmlaa
open Go.RowKit
set_option linter.unusedVariables false
set_option linter.unusedSimpArgs false

theorem flat_set (es : List Ent) (i : Nat) (e : Ent) (h : i < es.length) : flat (es.set i e) = (((flat es).set (i * 3) (.int .u64 e.1)).set (i * 3 + 1) (.int .u64 e.2.1)).set (i * 3 + 2) (.bool e.2.2) := by
  refine List.ext_getElem? fun n => ?_
  by_cases hn : n < es.length * 3
  · have e1 : n = n / 3 * 3 + n % 3 := by omega
    have h3 : n % 3 < 3 := Nat.mod_lt _ (by omega)
    have hq : n / 3 < es.length := by omega
    have l := length_flat es
    have r := flat_get (es.set i e) (n / 3) (n % 3) (by simpa using hq) h3
    have r' := flat_get es (n / 3) (n % 3) hq h3
    rw [← e1] at r r'
    rw [r]
    simp only [List.getElem?_set, List.length_set, l, List.getElem_set]
    by_cases hi : i = n / 3
    · rw [if_pos hi]
      have : n % 3 = 0 ∨ n % 3 = 1 ∨ n % 3 = 2 := by omega
      rcases this with h0 | h0 | h0
      · rw [if_neg (by omega), if_neg (by omega), if_pos (by omega), if_pos (by omega), h0]; rfl
      · rw [if_neg (by omega), if_pos (by omega), if_pos (by omega), h0]; rfl
      · rw [if_pos (by omega), if_pos (by omega), h0]; rfl
    · rw [if_neg hi, if_neg (by omega), if_neg (by omega), if_neg (by omega), r']
  · rw [List.getElem?_eq_none (by rw [length_flat]; simp; omega), List.getElem?_eq_none (by simp [length_flat]; omega)]

theorem Row.store {w : World} {g n cap : Nat} {es : List Ent} (h : Row w (.slice (some ⟨g, 0, none⟩) n cap) es) {i : Nat} (hi : i < es.length) (e : Ent) :
    Row (((w.setCell ⟨g, i * 3, none⟩ (.int .u64 e.1)).setCell ⟨g, i * 3 + 1, none⟩ (.int .u64 e.2.1)).setCell ⟨g, i * 3 + 2, none⟩ (.bool e.2.2)) (.slice (some ⟨g, 0, none⟩) n cap) (es.set i e) := by
  obtain rfl : n = es.length := h.cur.1
  have := (World.ownsRow.stored ((World.ownsRow.stored ((World.ownsRow.stored h (i * 3) (.int .u64 e.1)).1) (i * 3 + 1) (.int .u64 e.2.1)).1) (i * 3 + 2) (.bool e.2.2)).1
  rw [← flat_set es i e hi] at this
  unfold Row
  rw [List.length_set]
  exact this
theorem Row.free {w : World} {g n cap : Nat} {es : List Ent} (h : Row w (.slice (some ⟨g, 0, none⟩) n cap) es) (j : Nat) : w.frozen? ⟨g, j, none⟩ = false := by
  obtain rfl : n = es.length := h.cur.1
  exact World.ownsRow.frozenAt h j

/-- What a put leaves. -/
def Left (b most : Nat) (es : List Ent) (v : Value) (e : Ent) (w : World) (x : Ending) (w' : World) : Prop :=
  x = .returned (.int .i64 (putL most es e).2) ∧ ∃ v', Buf w' b most (putL most es e).1 v' ∧ Chg (Foot b v) w w' ∧ (∀ g, v'.ownBlock = some g → v.ownBlock = some g ∨ w.heap.size ≤ g)

theorem Left.same {b most : Nat} {es : List Ent} {v : Value} {e : Ent} {w : World} {x : Ending} {w' : World} (hw : Buf w b most es v) (hx : x = .returned (.int .i64 (putL most es e).2)) (he : (putL most es e).1 = es) (hb : Below w.heap.size w w') :
    Left b most es v e w x w' := ⟨hx, v, by rw [he]; exact hw.below hb, (Chg.of_below hb).mono (fun _ _ h => h.elim), fun g hg => .inl hg⟩

set_option maxHeartbeats 1000000 in
theorem put_bad (b most : Nat) (es : List Ent) (v : Value) (k x : Int) (hr : Rises es) (hlen : es.length ≤ 4611686018427387904) (hbad : (x != 0) = true) (w : World) (hw : Buf w b most es v) :
    Calls Try.prog 9 #[.pointer (some ⟨b, 0, none⟩), .agg #[.int .u64 k, .int .u64 x, .bool true]] w (Left b most es v (k, x, true) w) := by
  have P := place_any b most es v k hr hlen (w.alloc (.cells #[.int .u64 k, .int .u64 x, .bool true] 27)) (hw.below (below_new (Below.refl _ _) _))
  have E := Lib.hid (putL_bad (most := most) (es := es) (e := (k, x, true)) (by simpa [bad] using hbad))
  go_enter Try.func9, Try.ntmps9
  go_wp2_with (go_at_call 23; refine P.mono ?_; rintro e w' ⟨rfl, hb⟩; have R9 := Blk.below (Blk.new w 27 #[.int .u64 k, .int .u64 x, .bool true]) hb; obtain ⟨q0, q1, q2, f0, f1, f2⟩ := Blk.cells3 R9)
  go_ret
  exact Left.same hw (by rw [E.out]; rfl) (by rw [E.out]) (below_next (below_new (Below.refl _ _) _) hb)

set_option maxHeartbeats 1000000 in
theorem put_full (b most : Nat) (es : List Ent) (v : Value) (k x : Int) (gone : Bool) (hr : Rises es) (hlen : es.length ≤ 4611686018427387904) (hbad : bad (k, x, gone) = false) (ht : there k es = false) (hf : es.length = most) (w : World) (hw : Buf w b most es v) :
    Calls Try.prog 9 #[.pointer (some ⟨b, 0, none⟩), .agg #[.int .u64 k, .int .u64 x, .bool gone]] w (Left b most es v (k, x, gone) w) := by
  have P := place_any b most es v k hr hlen (w.alloc (.cells #[.int .u64 k, .int .u64 x, .bool gone] 27)) (hw.below (below_new (Below.refl _ _) _))
  rw [ht] at P
  have E := Lib.hid (putL_full (most := most) (es := es) (e := (k, x, gone)) hbad ht hf)
  have hfull : (((es.length : Nat) : Int) == (most : Int)) = true := beq_iff_eq.2 (by omega)
  have HF := Lib.hid hfull
  clear hfull hf ht
  have hx : gone = false ∨ (gone = true ∧ (x != 0) = false) := by cases gone <;> simp [bad] at hbad ⊢; exact hbad
  clear hbad
  rcases hx with rfl | ⟨rfl, hx⟩
  all_goals
    go_enter Try.func9, Try.ntmps9
    go_wp2_with (first | (go_at_call 23; refine P.mono ?_; rintro e w' ⟨rfl, hb⟩; have R9 := Blk.below (Blk.new w 27 #[.int .u64 k, .int .u64 x, .bool _]) hb; obtain ⟨q0, q1, q2, f0, f1, f2⟩ := Blk.cells3 R9) | (go_at_call 13; refine (full_any b most es v _ (hw.below (below_next (below_new (Below.refl _ _) _) hb))).mono ?_; rintro e w2 ⟨rfl, nq, rfl⟩; rw [HF.out]))
    go_ret
    exact Left.same hw (by rw [E.out]; rfl) (by rw [E.out]) (drewN_below (below_next (below_new (Below.refl _ _) _) hb) _)

set_option maxHeartbeats 1000000 in
theorem put_there (b most : Nat) (es : List Ent) (v : Value) (k x : Int) (gone : Bool) (hr : Rises es) (hlen : es.length ≤ 4611686018427387904) (hbad : bad (k, x, gone) = false) (ht : there k es = true) (w : World) (hw : Buf w b most es v) :
    Calls Try.prog 9 #[.pointer (some ⟨b, 0, none⟩), .agg #[.int .u64 k, .int .u64 x, .bool gone]] w (Left b most es v (k, x, gone) w) := by
  have hl := there_lt ht
  rcases hw.row.form with ⟨rfl, rfl⟩ | ⟨g, cap, rfl, hg, _, _⟩
  · simp at hl
  have P := place_any b most es _ k hr hlen (w.alloc (.cells #[.int .u64 k, .int .u64 x, .bool gone] 27)) (hw.below (below_new (Below.refl _ _) _))
  rw [ht] at P
  have E := Lib.hid (putL_there (most := most) (es := es) (e := (k, x, gone)) hbad ht)
  have HW := Lib.hid hw
  have HT := Lib.hid ht
  clear ht hw
  have hx : gone = false ∨ (gone = true ∧ (x != 0) = false) := by cases gone <;> simp [bad] at hbad ⊢; exact hbad
  clear hbad
  rcases hx with rfl | ⟨rfl, hx⟩
  all_goals
    go_enter Try.func9, Try.ntmps9
    go_wp2_with (go_at_call 23; refine P.mono ?_; rintro e w' ⟨rfl, hb⟩; have R9 := Blk.below (Blk.new w 27 #[.int .u64 k, .int .u64 x, .bool _]) hb; obtain ⟨q0, q1, q2, f0, f1, f2⟩ := Blk.cells3 R9; have HB := Lib.hid (HW.out.below (below_next (below_new (Below.refl _ _) _) hb)); have c1 : w'.cell? ⟨b, 1, none⟩ = some (.slice (some ⟨g, 0, none⟩) es.length cap) := HB.out.blk.cell 1; obtain ⟨d0, d1, d2⟩ := HB.out.row.cells hl; have g0 := HB.out.row.free (rk k es * 3); have g1 := HB.out.row.free (rk k es * 3 + 1); have g2 := HB.out.row.free (rk k es * 3 + 2))
    go_region
    go_wp2
    have K : ∀ z : Bool, Chg (Foot b (.slice (some ⟨g, 0, none⟩) es.length cap)) w (((w'.drew.setCell ⟨g, rk k es * 3, none⟩ (.int .u64 k)).setCell ⟨g, rk k es * 3 + 1, none⟩ (.int .u64 x)).setCell ⟨g, rk k es * 3 + 2, none⟩ (.bool z)) := fun z =>
      (((((Chg.of_below (below_next (below_new (Below.refl _ _) _) hb)).mono (fun _ _ h => h.elim)).drew).setCell (p := ⟨g, rk k es * 3, none⟩) (fun _ => .inr rfl) _).setCell (p := ⟨g, rk k es * 3 + 1, none⟩) (fun _ => .inr rfl) _).setCell (p := ⟨g, rk k es * 3 + 2, none⟩) (fun _ => .inr rfl) _
    have hne : b ≠ g := fun e => HB.out.ne (by rw [e]; rfl)
    have RB : ∀ z : Bool, Buf (((w'.drew.setCell ⟨g, rk k es * 3, none⟩ (.int .u64 k)).setCell ⟨g, rk k es * 3 + 1, none⟩ (.int .u64 x)).setCell ⟨g, rk k es * 3 + 2, none⟩ (.bool z)) b most (es.set (rk k es) (k, x, z)) (.slice (some ⟨g, 0, none⟩) es.length cap) := fun z =>
      ⟨((HB.out.drew.blk.far (a := ⟨g, rk k es * 3, none⟩) _ hne).far (a := ⟨g, rk k es * 3 + 1, none⟩) _ hne).far (a := ⟨g, rk k es * 3 + 2, none⟩) _ hne, Row.store HB.out.drew.row hl (k, x, z)⟩
    go_ret
    refine ⟨by rw [E.out]; rfl, _, ?_, K _, fun g' hg' => .inl hg'⟩
    rw [E.out]; exact RB _

/-- Behind the append: the buffer's row is one entry longer. -/
structure Longer (b most : Nat) (es : List Ent) (v : Value) (e : Ent) (w : World) (g cap : Nat) (M : List Ent) (wx : World) : Prop where
  box : Blk wx w.heap.size 27 #[.int .u64 e.1, .int .u64 e.2.1, .bool e.2.2]
  blk : Blk wx b 53 #[.int .i64 most, .slice (some ⟨g, 0, none⟩) (es.length + 1) cap]
  row : Row wx (.slice (some ⟨g, 0, none⟩) (es.length + 1) cap) M
  chg : Chg (Foot b v) w wx
  new : v.ownBlock = some g ∧ g < w.heap.size ∨ w.heap.size < g
  bg : b ≠ g
theorem ecells_news {w : World} {N : Nat} {k x : Int} {z : Bool} (h : Blk w N 27 #[.int .u64 k, .int .u64 x, .bool z]) : ∀ j u, (ecells (k, x, z))[j]? = some u → w.cell? ((⟨N, 0, none⟩ : Addr).add j) = some u := World.news_of_block h

theorem grown_blk {b most : Nat} {es : List Ent} {v : Value} {w2 wa w1 : World} (B2 : Buf w2 b most es v) (ha : Chg (fun _ => False) w2 wa) (hgr : wa.grownBy w1 v.ownBlock) : Blk w1 b 53 #[.int .i64 most, v] :=
  (hgr.block b ((B2.blk.chg ha (fun h => h)).lt) (fun e => B2.ne e.symm)).trans (B2.blk.chg ha (fun h => h))
theorem Longer.mk' {b most : Nat} {es : List Ent} {v : Value} {k x : Int} {z : Bool} {w w2 wa w1 : World} {g cap : Nat} (hw : Buf w b most es v) (L2 : Below w.heap.size w w2) (R2 : Blk w2 w.heap.size 27 #[.int .u64 k, .int .u64 x, .bool z])
    (ha : Chg (fun _ => False) w2 wa) (hown : w1.ownsRow 0 27 3 (.slice (some ⟨g, 0, none⟩) (es.length + 1) cap) (es.length + 1) (flat es ++ ecells (k, x, z))) (hgr : wa.grownBy w1 v.ownBlock) (hat : v.ownBlock = some g ∨ w.heap.size < g) :
    Longer b most es v (k, x, z) w g cap (es ++ [(k, x, z)]) (w1.setCell ⟨b, 1, none⟩ (.slice (some ⟨g, 0, none⟩) (es.length + 1) cap)) := by
  have c0 := (Chg.of_below L2).trans ha (T := fun _ => False) (S := fun _ => False) (fun _ _ h => h)
  have c1 : Chg (Foot b v) w w1 := (c0.mono (fun _ _ h => h.elim)).grown hgr (fun k hk _ => .inr hk)
  have hb1 : Blk w1 b 53 #[.int .i64 most, v] := (hgr.block b ((hw.blk.chg c0 (fun h => h)).lt) (fun e => hw.ne e.symm)).trans (hw.blk.chg c0 (fun h => h))
  have hbx : Blk w1 w.heap.size 27 #[.int .u64 k, .int .u64 x, .bool z] :=
    (hgr.block _ ((R2.chg ha (fun h => h)).lt) (fun e => by have := hw.row.lt e.symm; omega)).trans (R2.chg ha (fun h => h))
  have hlt := hw.blk.lt
  have hne : b ≠ g := by
    rintro rfl
    rcases hat with h | h
    · exact hw.ne h
    · omega
  have hrow : Row w1 (.slice (some ⟨g, 0, none⟩) (es.length + 1) cap) (es ++ [(k, x, z)]) := by
    unfold Row; rw [flat_append, List.length_append]; exact hown
  refine ⟨hbx.far (a := ⟨b, 1, none⟩) _ (by show w.heap.size ≠ b; omega), hb1.set 1 _, own_far hrow (p := ⟨b, 1, none⟩) (fun e => hne (by simpa [Value.ownBlock] using e.symm)) _, c1.setCell (p := ⟨b, 1, none⟩) (fun _ => .inl rfl) _, ?_, hne⟩
  rcases hat with h | h
  · exact .inl ⟨h, hw.row.lt h⟩
  · exact .inr h

theorem Row.src {w : World} {g n cap i : Nat} {es : List Ent} {e : Ent} (H : Row w (.slice (some ⟨g, 0, none⟩) n cap) (es ++ [e])) (hi : i ≤ es.length) :
    ∀ j u, (flat (es.drop i))[j]? = some u → w.cell? ((⟨g, i * 3, none⟩ : Addr).add j) = some u := by
  intro j u hu
  have hj : j < (flat (es.drop i)).length := (List.getElem?_eq_some_iff.1 hu).1
  rw [length_flat, List.length_drop] at hj
  have := World.ownsRow.cells H (g := g) rfl (i * 3 + j) u (by
    rw [flat_append, List.getElem?_append_left (by rw [length_flat]; omega)]
    rw [flat_drop, List.getElem?_drop] at hu
    exact hu)
  rw [Addr.add_mid] at this ⊢
  simpa using this
/-- The list behind the copy: all from place i on stands one place further. -/
def movedL (es : List Ent) (e : Ent) (i : Nat) : List Ent := (es ++ [e]).take (i + 1) ++ es.drop i
theorem length_movedL {es : List Ent} {e : Ent} {i : Nat} (hi : i ≤ es.length) : (movedL es e i).length = es.length + 1 := by
  unfold movedL; simp only [List.length_append, List.length_take, List.length_cons, List.length_nil, List.length_drop]; omega
theorem moved_set {es : List Ent} {e : Ent} {i : Nat} (hi : i ≤ es.length) : (movedL es e i).set i e = es.take i ++ e :: es.drop i := by
  unfold movedL
  have h1 : (es ++ [e]).take (i + 1) = es.take i ++ [(es ++ [e])[i]'(by simp; omega)] := by
    rw [List.take_succ_eq_append_getElem (by simp; omega), List.take_append_of_le_length hi]
  have h2 : (es.take i).length = i := by rw [List.length_take]; omega
  rw [h1, List.append_assoc]
  simp [List.set_append, h2]
theorem Longer.copied {b most : Nat} {es : List Ent} {v : Value} {e : Ent} {w wx : World} {g cap i : Nat} {cur : Array Value} (H : Longer b most es v e w g cap (es ++ [e]) wx) (hi : i ≤ es.length)
    (hc : Blk wx g 27 cur) (hs : cur.size = cap * 3) (hct : cur.toList.take ((es.length + 1) * 3) = flat (es ++ [e])) (hcap : es.length + 1 ≤ cap) (hm : cap ≤ maxLen) {off : Nat} (ho : off = (i + 1) * 3 ∨ i = es.length) :
    Longer b most es v e w g cap (movedL es e i) (wx.setRow g (cur.toList.take off ++ (flat (es.drop i) ++ cur.toList.drop (off + (flat (es.drop i)).length))).toArray) := by
  have hne : w.heap.size ≠ g := by
    rcases H.new with h | h <;> omega
  refine ⟨H.box.rowFar _ hne, H.blk.rowFar _ H.bg, ?_, H.chg.row (fun hg => ?_) _, H.new, H.bg⟩
  · have hl := length_movedL (e := e) hi
    have hfl : (flat (es.drop i)).length = (es.length - i) * 3 := by rw [length_flat, List.length_drop]
    have key : ((cur.toList.take off ++ (flat (es.drop i) ++ cur.toList.drop (off + (flat (es.drop i)).length))).toArray).toList.take ((movedL es e i).length * 3) = flat (movedL es e i) ∧
        (cur.toList.take off ++ (flat (es.drop i) ++ cur.toList.drop (off + (flat (es.drop i)).length))).toArray.size = cap * 3 := by
      rcases ho with rfl | rfl
      · constructor
        · rw [hl]
          unfold movedL
          rw [flat_append, flat_take, ← hct, List.take_take, Nat.min_eq_left (by omega), ← List.append_assoc]
          have hl1 : (cur.toList.take ((i + 1) * 3)).length = (i + 1) * 3 := by rw [List.length_take, Array.length_toList, hs]; omega
          rw [List.take_append_of_le_length (by rw [List.length_append, hl1, hfl]; omega), List.take_of_length_le (by rw [List.length_append, hl1, hfl]; omega)]
        · simp only [List.size_toArray, List.length_append, List.length_take, List.length_drop, Array.length_toList, hfl, hs]; omega
      · have e0 : flat (es.drop es.length) = [] := by rw [List.drop_length]; rfl
        rw [e0]
        simp only [List.length_nil, Nat.add_zero, List.nil_append, List.take_append_drop, Array.toArray_toList]
        refine ⟨?_, hs⟩
        rw [hl, hct]
        congr 1
        unfold movedL
        rw [List.drop_length, List.append_nil, List.take_of_length_le (by simp)]
    have := Row.mk' (es := movedL es e i) (cap := cap) (hc.row _) (by rw [hl]; exact hcap) hm key.2 key.1
    rw [hl] at this
    exact this
  · rcases H.new with h | h
    · exact .inr h.1
    · omega
theorem Longer.drew {b most : Nat} {es : List Ent} {v : Value} {e : Ent} {w wx : World} {g cap : Nat} {M : List Ent} (H : Longer b most es v e w g cap M wx) : Longer b most es v e w g cap M wx.drew := ⟨H.box, H.blk, H.row, H.chg.drew, H.new, H.bg⟩
theorem Longer.left {b most : Nat} {es : List Ent} {v : Value} {k x : Int} {z : Bool} {w wx : World} {g cap i : Nat} (H : Longer b most es v (k, x, z) w g cap (movedL es (k, x, z) i) wx) (hi : i ≤ es.length) (h : putL most es (k, x, z) = (es.take i ++ (k, x, z) :: es.drop i, 0)) {e : Ending} (he : e = .returned (.int .i64 0)) :
    Left b most es v (k, x, z) w e (((wx.setCell ⟨g, i * 3, none⟩ (.int .u64 k)).setCell ⟨g, i * 3 + 1, none⟩ (.int .u64 x)).setCell ⟨g, i * 3 + 2, none⟩ (.bool z)) := by
  have hS : g < w.heap.size → Foot b v g := fun hg => by
    rcases H.new with h | h
    · exact .inr h.1
    · omega
  have hl := length_movedL (e := (k, x, z)) hi
  refine ⟨by rw [he, h], .slice (some ⟨g, 0, none⟩) (es.length + 1) cap, ?_, ((H.chg.setCell (p := ⟨g, i * 3, none⟩) hS _).setCell (p := ⟨g, i * 3 + 1, none⟩) hS _).setCell (p := ⟨g, i * 3 + 2, none⟩) hS _, fun g' hg' => ?_⟩
  · rw [h]
    have := Row.store H.row (i := i) (by omega) (k, x, z)
    rw [moved_set hi] at this
    exact ⟨((H.blk.far (a := ⟨g, i * 3, none⟩) _ H.bg).far (a := ⟨g, i * 3 + 1, none⟩) _ H.bg).far (a := ⟨g, i * 3 + 2, none⟩) _ H.bg, this⟩
  · simp only [Value.ownBlock, Option.some.injEq] at hg'
    subst hg'
    rcases H.new with h | h
    · exact .inl h.1
    · exact .inr (by omega)

set_option maxHeartbeats 2000000 in
theorem put_new_f (b most : Nat) (es : List Ent) (v : Value) (k x : Int) (hr : Rises es) (hlen : (es.length + 1) * 24 ≤ 140737488355328) (hbad : bad (k, x, false) = false) (ht : there k es = false) (hf : es.length ≠ most) (w : World) (hw : Buf w b most es v) :
    Calls Try.prog 9 #[.pointer (some ⟨b, 0, none⟩), .agg #[.int .u64 k, .int .u64 x, .bool false]] w (Left b most es v (k, x, false) w) := by
  have P := place_any b most es v k hr (by omega) (w.alloc (.cells #[.int .u64 k, .int .u64 x, .bool false] 27)) (hw.below (below_new (Below.refl _ _) _))
  rw [ht] at P
  have E := Lib.hid (putL_new (most := most) (es := es) (e := (k, x, false)) hbad ht hf)
  have hfull : (((es.length : Nat) : Int) == (most : Int)) = false := beq_eq_false_iff_ne.2 (by omega)
  have HF := Lib.hid hfull
  have HT := Lib.hid ht
  have HLE := Lib.hid (length_ecells (k, x, false))
  have HFO : Hid (∀ u ∈ ecells (k, x, false), u.oneCell' = true) := Lib.hid (by intro u hu; simp [ecells] at hu; rcases hu with rfl | rfl | rfl <;> rfl)
  clear hfull hf ht
  obtain ⟨i0, hi, hz0, hz1, hz2⟩ := info_parts infoE
  clear hbad
  go_enter Try.func9, Try.ntmps9
  go_upto_region 2 with (first | (go_at_call 23; refine P.mono ?_; rintro e w' ⟨rfl, hb⟩; have R9 := Blk.below (Blk.new w 27 #[.int .u64 k, .int .u64 x, .bool false]) hb; obtain ⟨q0, q1, q2, f0, f1, f2⟩ := Blk.cells3 R9) | (go_at_call 13; refine (full_any b most es v _ (hw.below (below_next (below_new (Below.refl _ _) _) hb))).mono ?_; rintro e w2 ⟨rfl, nq, rfl⟩; rw [HF.out]))
  obtain ⟨w2, hw2⟩ : ∃ w2, w'.drewN nq = w2 := ⟨_, rfl⟩
  rw [hw2]
  have R2 := R9.drewN nq
  rw [hw2] at R2
  have B2 : Buf w2 b most es v := by rw [← hw2]; exact ⟨(hw.below (below_next (below_new (Below.refl _ _) _) hb)).blk, (hw.below (below_next (below_new (Below.refl _ _) _) hb)).row⟩
  have L2 : Below w.heap.size w w2 := by rw [← hw2]; exact drewN_below (below_next (below_new (Below.refl _ _) _) hb) _
  clear hw2 hb R9 q0 q1 q2 f0 f1 f2
  go_cut [14] (fun sx wx => ∃ g cap, Longer b most es v (k, x, false) w g cap (es ++ [(k, x, false)]) wx)
  case first =>
    obtain ⟨q0, q1, q2, f0, f1, f2⟩ := Blk.cells3 R2
    have c1 : w2.cell? ⟨b, 1, none⟩ = some v := B2.blk.cell 1
    have c2 : ∀ o, (w2.alloc o).cell? ⟨b, 1, none⟩ = some v := fun o => (B2.blk.alloc o).cell 1
    go_region_law ((refine step_append_lies _ (by rfl) (.tmp 18) (.tmp 20) 22 (by rfl) 0 27 i0 _ 3 24 Try.underlying22 hi hz0 hz1 hz2 (by rfl) (by omega) v es.length (flat es) (by simp [Act.eval, Act.put]) (own_chg B2.row ((Chg.refl (fun _ => False) w2).alloc _).drew (fun _ _ h => h)) ⟨w2.heap.size, 0, none⟩ 1 1 (ecells (k, x, false)) (by simp [Act.eval, Act.put]) HLE.out (ecells_news (Blk.drew (Blk.new w2 27 _))) HFO.out (by omega) (by unfold maxLen; omega) (by omega) (Nat.zero_le _) (w2.heap.size + 1) (by simp) ?_; intro g cap w1 hown hgr hat hlt; have hb1 := grown_blk B2 ((Chg.refl (fun _ => False) w2).alloc _).drew hgr; have c1' : w1.cell? ⟨b, 1, none⟩ = some v := hb1.cell 1; have f1' : w1.frozen? ⟨b, 1, none⟩ = false := hb1.free 1; have LM := Lib.hid (Longer.mk' hw L2 R2 ((Chg.refl (fun _ => False) w2).alloc _).drew hown hgr (hat.imp id (fun h => by have := L2.size; omega))); clear hown hgr hat hb1))
    all_goals (go_wp2_with fail; go_meet; exact ⟨_, _, LM.out⟩)
  case rest =>
    obtain ⟨g, cap, H⟩ := hcut
    have hi1 := rk_le k es
    obtain ⟨hcl, cur, hcur, hcap, hmax, hcs, hct⟩ := H.row.cur
    rw [List.length_append] at hcap hct
    simp only [List.length_cons, List.length_nil, Nat.zero_add] at hcap hct
    have c1 : wc.cell? ⟨b, 1, none⟩ = some (.slice (some ⟨g, 0, none⟩) (es.length + 1) cap) := H.blk.cell 1
    unfold maxLen at hmax
    have b1 : IntKind.i64.wrap (↑(rk k es) + 1) = ↑(rk k es) + 1 := IntWalk.i64_in _ (by omega)
    have b2 : (0 : Int) ≤ ↑(rk k es) := by omega
    have b3 : (0 : Int) ≤ ↑(rk k es) + 1 := by omega
    have b4 : (↑(rk k es) + 1 : Int) ≤ ↑cap := by omega
    have b5 : (↑(rk k es) + 1 : Int).toNat = rk k es + 1 := by omega
    have b6 : (↑(rk k es) : Int) ≤ ↑cap := by omega
    have b7 : (↑(rk k es) + 1 : Int) ≤ ↑es.length + 1 := by omega
    have b8 : (↑(rk k es) : Int) ≤ ↑es.length + 1 := by omega
    have HC := Lib.hid hcur
    have HCT := Lib.hid hct
    have HCS := Lib.hid hcs
    clear hcur hct hcs hcl
    by_cases hcp : cap = rk k es + 1
    · have hrn : rk k es = es.length := by omega
      have HRN := Lib.hid hrn
      subst hcp
      have hfl : (flat (es.drop (rk k es))).length = 0 * 3 := by rw [length_flat, List.length_drop]; omega
      have HFL := Lib.hid hfl
      have HSR := Lib.hid (Row.src H.row hi1)
      have HFO2 := Lib.hid (flat_one (es.drop (rk k es)))
      have HFIT : Hid (0 + (flat (es.drop (rk k es))).length ≤ cur.size) := Lib.hid (by rw [hfl, HCS.out]; omega)
      have HMIN : Hid (0 = Nat.min (es.length + 1 - rk k es) 0) := Lib.hid (Nat.min_eq_right (by omega)).symm
      have M2 := H.drew.copied hi1 HC.out HCS.out HCT.out hcap (by unfold maxLen; exact hmax) (off := 0) (.inr hrn)
      have HM2 := Lib.hid M2
      clear hfl M2 hrn
      go_wp2
      go_region_held3 (fun w' => w'.cell? ⟨b, 1, none⟩ = some (.slice (some ⟨g, 0, none⟩) (es.length + 1) (rk k es + 1))) (first | exact H.blk.cell 1 | exact HM2.out.blk.cell 1 | go_keep)
        ((refine step_copy_rows (by rfl) (.tmp 30) (.tmp 36) 22 22 (by rfl) 27 Try.underlying22 3 (by kernel_rfl) g (0) 0 0 ⟨g, rk k es * 3, none⟩ (es.length + 1 - rk k es) 1 0 (by simp [Act.eval, Act.put]) (by simp [Act.eval, Act.put]) cur 27 HC.out (flat (es.drop (rk k es))) HMIN.out HFL.out HSR.out HFIT.out HFO2.out ?_))
      generalize wc.drew.setRow g (cur.toList.take (0) ++ (flat (es.drop (rk k es)) ++ cur.toList.drop (0 + (flat (es.drop (rk k es))).length))).toArray = w3 at HM2 ⊢
      clear HFL HSR HFO2 HFIT HMIN c1
      have hlt : rk k es < (movedL es (k, x, false) (rk k es)).length := by rw [length_movedL hi1]; omega
      obtain ⟨q0, q1, q2, f0, f1, f2⟩ := Blk.cells3 HM2.out.box
      have c1 : w3.cell? ⟨b, 1, none⟩ = some (.slice (some ⟨g, 0, none⟩) (es.length + 1) (rk k es + 1)) := HM2.out.blk.cell 1
      obtain ⟨d0, d1, d2⟩ := HM2.out.row.cells (i := rk k es) hlt
      have g0 := HM2.out.row.free (rk k es * 3)
      have g1 := HM2.out.row.free (rk k es * 3 + 1)
      have g2 := HM2.out.row.free (rk k es * 3 + 2)
      go_wp2
      go_region
      go_wp2
      go_ret
      exact HM2.out.drew.left hi1 E.out rfl
    · have n1 : cap ≠ rk k es + 1 := hcp
      have n2 : cap ≠ rk k es := by omega
      have hfl : (flat (es.drop (rk k es))).length = (es.length - rk k es) * 3 := by rw [length_flat, List.length_drop]
      have HFL := Lib.hid hfl
      have HSR := Lib.hid (Row.src H.row hi1)
      have HFO2 := Lib.hid (flat_one (es.drop (rk k es)))
      have HFIT : Hid ((rk k es + 1) * 3 + (flat (es.drop (rk k es))).length ≤ cur.size) := Lib.hid (by rw [hfl, HCS.out]; omega)
      have HMIN : Hid (es.length - rk k es = Nat.min (es.length + 1 - rk k es) (es.length - rk k es)) := Lib.hid (Nat.min_eq_right (by omega)).symm
      have M2 := H.drew.copied hi1 HC.out HCS.out HCT.out hcap (by unfold maxLen; exact hmax) (off := (rk k es + 1) * 3) (.inl rfl)
      have HM2 := Lib.hid M2
      clear hfl M2
      go_wp2
      go_region_held3 (fun w' => w'.cell? ⟨b, 1, none⟩ = some (.slice (some ⟨g, 0, none⟩) (es.length + 1) cap)) (first | exact H.blk.cell 1 | exact HM2.out.blk.cell 1 | go_keep)
        ((refine step_copy_rows (by rfl) (.tmp 30) (.tmp 36) 22 22 (by rfl) 27 Try.underlying22 3 (by kernel_rfl) g ((rk k es + 1) * 3) (es.length - rk k es) (cap - (rk k es + 1)) ⟨g, rk k es * 3, none⟩ (es.length + 1 - rk k es) (cap - rk k es) (es.length - rk k es) (by simp [Act.eval, Act.put]) (by simp [Act.eval, Act.put]) cur 27 HC.out (flat (es.drop (rk k es))) HMIN.out HFL.out HSR.out HFIT.out HFO2.out ?_))
      generalize wc.drew.setRow g (cur.toList.take ((rk k es + 1) * 3) ++ (flat (es.drop (rk k es)) ++ cur.toList.drop ((rk k es + 1) * 3 + (flat (es.drop (rk k es))).length))).toArray = w3 at HM2 ⊢
      clear HFL HSR HFO2 HFIT HMIN c1
      have hlt : rk k es < (movedL es (k, x, false) (rk k es)).length := by rw [length_movedL hi1]; omega
      obtain ⟨q0, q1, q2, f0, f1, f2⟩ := Blk.cells3 HM2.out.box
      have c1 : w3.cell? ⟨b, 1, none⟩ = some (.slice (some ⟨g, 0, none⟩) (es.length + 1) cap) := HM2.out.blk.cell 1
      obtain ⟨d0, d1, d2⟩ := HM2.out.row.cells (i := rk k es) hlt
      have g0 := HM2.out.row.free (rk k es * 3)
      have g1 := HM2.out.row.free (rk k es * 3 + 1)
      have g2 := HM2.out.row.free (rk k es * 3 + 2)
      go_wp2
      go_region
      go_wp2
      go_ret
      exact HM2.out.drew.left hi1 E.out rfl
set_option maxHeartbeats 2000000 in
theorem put_new_t (b most : Nat) (es : List Ent) (v : Value) (k x : Int) (hr : Rises es) (hlen : (es.length + 1) * 24 ≤ 140737488355328) (hbad : bad (k, x, true) = false) (ht : there k es = false) (hf : es.length ≠ most) (w : World) (hw : Buf w b most es v) :
    Calls Try.prog 9 #[.pointer (some ⟨b, 0, none⟩), .agg #[.int .u64 k, .int .u64 x, .bool true]] w (Left b most es v (k, x, true) w) := by
  have P := place_any b most es v k hr (by omega) (w.alloc (.cells #[.int .u64 k, .int .u64 x, .bool true] 27)) (hw.below (below_new (Below.refl _ _) _))
  rw [ht] at P
  have E := Lib.hid (putL_new (most := most) (es := es) (e := (k, x, true)) hbad ht hf)
  have hfull : (((es.length : Nat) : Int) == (most : Int)) = false := beq_eq_false_iff_ne.2 (by omega)
  have HF := Lib.hid hfull
  have HT := Lib.hid ht
  have HLE := Lib.hid (length_ecells (k, x, true))
  have HFO : Hid (∀ u ∈ ecells (k, x, true), u.oneCell' = true) := Lib.hid (by intro u hu; simp [ecells] at hu; rcases hu with rfl | rfl | rfl <;> rfl)
  clear hfull hf ht
  obtain ⟨i0, hi, hz0, hz1, hz2⟩ := info_parts infoE
  have hx : (x != 0) = false := by simpa [bad] using hbad
  clear hbad
  go_enter Try.func9, Try.ntmps9
  go_upto_region 2 with (first | (go_at_call 23; refine P.mono ?_; rintro e w' ⟨rfl, hb⟩; have R9 := Blk.below (Blk.new w 27 #[.int .u64 k, .int .u64 x, .bool true]) hb; obtain ⟨q0, q1, q2, f0, f1, f2⟩ := Blk.cells3 R9) | (go_at_call 13; refine (full_any b most es v _ (hw.below (below_next (below_new (Below.refl _ _) _) hb))).mono ?_; rintro e w2 ⟨rfl, nq, rfl⟩; rw [HF.out]))
  obtain ⟨w2, hw2⟩ : ∃ w2, w'.drewN nq = w2 := ⟨_, rfl⟩
  rw [hw2]
  have R2 := R9.drewN nq
  rw [hw2] at R2
  have B2 : Buf w2 b most es v := by rw [← hw2]; exact ⟨(hw.below (below_next (below_new (Below.refl _ _) _) hb)).blk, (hw.below (below_next (below_new (Below.refl _ _) _) hb)).row⟩
  have L2 : Below w.heap.size w w2 := by rw [← hw2]; exact drewN_below (below_next (below_new (Below.refl _ _) _) hb) _
  clear hw2 hb R9 q0 q1 q2 f0 f1 f2
  go_cut [14] (fun sx wx => ∃ g cap, Longer b most es v (k, x, true) w g cap (es ++ [(k, x, true)]) wx)
  case first =>
    obtain ⟨q0, q1, q2, f0, f1, f2⟩ := Blk.cells3 R2
    have c1 : w2.cell? ⟨b, 1, none⟩ = some v := B2.blk.cell 1
    have c2 : ∀ o, (w2.alloc o).cell? ⟨b, 1, none⟩ = some v := fun o => (B2.blk.alloc o).cell 1
    go_region_law ((refine step_append_lies _ (by rfl) (.tmp 18) (.tmp 20) 22 (by rfl) 0 27 i0 _ 3 24 Try.underlying22 hi hz0 hz1 hz2 (by rfl) (by omega) v es.length (flat es) (by simp [Act.eval, Act.put]) (own_chg B2.row ((Chg.refl (fun _ => False) w2).alloc _).drew (fun _ _ h => h)) ⟨w2.heap.size, 0, none⟩ 1 1 (ecells (k, x, true)) (by simp [Act.eval, Act.put]) HLE.out (ecells_news (Blk.drew (Blk.new w2 27 _))) HFO.out (by omega) (by unfold maxLen; omega) (by omega) (Nat.zero_le _) (w2.heap.size + 1) (by simp) ?_; intro g cap w1 hown hgr hat hlt; have hb1 := grown_blk B2 ((Chg.refl (fun _ => False) w2).alloc _).drew hgr; have c1' : w1.cell? ⟨b, 1, none⟩ = some v := hb1.cell 1; have f1' : w1.frozen? ⟨b, 1, none⟩ = false := hb1.free 1; have LM := Lib.hid (Longer.mk' hw L2 R2 ((Chg.refl (fun _ => False) w2).alloc _).drew hown hgr (hat.imp id (fun h => by have := L2.size; omega))); clear hown hgr hat hb1))
    all_goals (go_wp2_with fail; go_meet; exact ⟨_, _, LM.out⟩)
  case rest =>
    obtain ⟨g, cap, H⟩ := hcut
    have hi1 := rk_le k es
    obtain ⟨hcl, cur, hcur, hcap, hmax, hcs, hct⟩ := H.row.cur
    rw [List.length_append] at hcap hct
    simp only [List.length_cons, List.length_nil, Nat.zero_add] at hcap hct
    have c1 : wc.cell? ⟨b, 1, none⟩ = some (.slice (some ⟨g, 0, none⟩) (es.length + 1) cap) := H.blk.cell 1
    unfold maxLen at hmax
    have b1 : IntKind.i64.wrap (↑(rk k es) + 1) = ↑(rk k es) + 1 := IntWalk.i64_in _ (by omega)
    have b2 : (0 : Int) ≤ ↑(rk k es) := by omega
    have b3 : (0 : Int) ≤ ↑(rk k es) + 1 := by omega
    have b4 : (↑(rk k es) + 1 : Int) ≤ ↑cap := by omega
    have b5 : (↑(rk k es) + 1 : Int).toNat = rk k es + 1 := by omega
    have b6 : (↑(rk k es) : Int) ≤ ↑cap := by omega
    have b7 : (↑(rk k es) + 1 : Int) ≤ ↑es.length + 1 := by omega
    have b8 : (↑(rk k es) : Int) ≤ ↑es.length + 1 := by omega
    have HC := Lib.hid hcur
    have HCT := Lib.hid hct
    have HCS := Lib.hid hcs
    clear hcur hct hcs hcl
    by_cases hcp : cap = rk k es + 1
    · have hrn : rk k es = es.length := by omega
      have HRN := Lib.hid hrn
      subst hcp
      have hfl : (flat (es.drop (rk k es))).length = 0 * 3 := by rw [length_flat, List.length_drop]; omega
      have HFL := Lib.hid hfl
      have HSR := Lib.hid (Row.src H.row hi1)
      have HFO2 := Lib.hid (flat_one (es.drop (rk k es)))
      have HFIT : Hid (0 + (flat (es.drop (rk k es))).length ≤ cur.size) := Lib.hid (by rw [hfl, HCS.out]; omega)
      have HMIN : Hid (0 = Nat.min (es.length + 1 - rk k es) 0) := Lib.hid (Nat.min_eq_right (by omega)).symm
      have M2 := H.drew.copied hi1 HC.out HCS.out HCT.out hcap (by unfold maxLen; exact hmax) (off := 0) (.inr hrn)
      have HM2 := Lib.hid M2
      clear hfl M2 hrn
      go_wp2
      go_region_held3 (fun w' => w'.cell? ⟨b, 1, none⟩ = some (.slice (some ⟨g, 0, none⟩) (es.length + 1) (rk k es + 1))) (first | exact H.blk.cell 1 | exact HM2.out.blk.cell 1 | go_keep)
        ((refine step_copy_rows (by rfl) (.tmp 30) (.tmp 36) 22 22 (by rfl) 27 Try.underlying22 3 (by kernel_rfl) g (0) 0 0 ⟨g, rk k es * 3, none⟩ (es.length + 1 - rk k es) 1 0 (by simp [Act.eval, Act.put]) (by simp [Act.eval, Act.put]) cur 27 HC.out (flat (es.drop (rk k es))) HMIN.out HFL.out HSR.out HFIT.out HFO2.out ?_))
      generalize wc.drew.setRow g (cur.toList.take (0) ++ (flat (es.drop (rk k es)) ++ cur.toList.drop (0 + (flat (es.drop (rk k es))).length))).toArray = w3 at HM2 ⊢
      clear HFL HSR HFO2 HFIT HMIN c1
      have hlt : rk k es < (movedL es (k, x, true) (rk k es)).length := by rw [length_movedL hi1]; omega
      obtain ⟨q0, q1, q2, f0, f1, f2⟩ := Blk.cells3 HM2.out.box
      have c1 : w3.cell? ⟨b, 1, none⟩ = some (.slice (some ⟨g, 0, none⟩) (es.length + 1) (rk k es + 1)) := HM2.out.blk.cell 1
      obtain ⟨d0, d1, d2⟩ := HM2.out.row.cells (i := rk k es) hlt
      have g0 := HM2.out.row.free (rk k es * 3)
      have g1 := HM2.out.row.free (rk k es * 3 + 1)
      have g2 := HM2.out.row.free (rk k es * 3 + 2)
      go_wp2
      go_region
      go_wp2
      go_ret
      exact HM2.out.drew.left hi1 E.out rfl
    · have n1 : cap ≠ rk k es + 1 := hcp
      have n2 : cap ≠ rk k es := by omega
      have hfl : (flat (es.drop (rk k es))).length = (es.length - rk k es) * 3 := by rw [length_flat, List.length_drop]
      have HFL := Lib.hid hfl
      have HSR := Lib.hid (Row.src H.row hi1)
      have HFO2 := Lib.hid (flat_one (es.drop (rk k es)))
      have HFIT : Hid ((rk k es + 1) * 3 + (flat (es.drop (rk k es))).length ≤ cur.size) := Lib.hid (by rw [hfl, HCS.out]; omega)
      have HMIN : Hid (es.length - rk k es = Nat.min (es.length + 1 - rk k es) (es.length - rk k es)) := Lib.hid (Nat.min_eq_right (by omega)).symm
      have M2 := H.drew.copied hi1 HC.out HCS.out HCT.out hcap (by unfold maxLen; exact hmax) (off := (rk k es + 1) * 3) (.inl rfl)
      have HM2 := Lib.hid M2
      clear hfl M2
      go_wp2
      go_region_held3 (fun w' => w'.cell? ⟨b, 1, none⟩ = some (.slice (some ⟨g, 0, none⟩) (es.length + 1) cap)) (first | exact H.blk.cell 1 | exact HM2.out.blk.cell 1 | go_keep)
        ((refine step_copy_rows (by rfl) (.tmp 30) (.tmp 36) 22 22 (by rfl) 27 Try.underlying22 3 (by kernel_rfl) g ((rk k es + 1) * 3) (es.length - rk k es) (cap - (rk k es + 1)) ⟨g, rk k es * 3, none⟩ (es.length + 1 - rk k es) (cap - rk k es) (es.length - rk k es) (by simp [Act.eval, Act.put]) (by simp [Act.eval, Act.put]) cur 27 HC.out (flat (es.drop (rk k es))) HMIN.out HFL.out HSR.out HFIT.out HFO2.out ?_))
      generalize wc.drew.setRow g (cur.toList.take ((rk k es + 1) * 3) ++ (flat (es.drop (rk k es)) ++ cur.toList.drop ((rk k es + 1) * 3 + (flat (es.drop (rk k es))).length))).toArray = w3 at HM2 ⊢
      clear HFL HSR HFO2 HFIT HMIN c1
      have hlt : rk k es < (movedL es (k, x, true) (rk k es)).length := by rw [length_movedL hi1]; omega
      obtain ⟨q0, q1, q2, f0, f1, f2⟩ := Blk.cells3 HM2.out.box
      have c1 : w3.cell? ⟨b, 1, none⟩ = some (.slice (some ⟨g, 0, none⟩) (es.length + 1) cap) := HM2.out.blk.cell 1
      obtain ⟨d0, d1, d2⟩ := HM2.out.row.cells (i := rk k es) hlt
      have g0 := HM2.out.row.free (rk k es * 3)
      have g1 := HM2.out.row.free (rk k es * 3 + 1)
      have g2 := HM2.out.row.free (rk k es * 3 + 2)
      go_wp2
      go_region
      go_wp2
      go_ret
      exact HM2.out.drew.left hi1 E.out rfl
/-- Whatever the entry: what a put does. -/
theorem put_any (b most : Nat) (es : List Ent) (v : Value) (e : Ent) (hr : Rises es) (hlen : (es.length + 1) * 24 ≤ 140737488355328) (w : World) (hw : Buf w b most es v) :
    Calls Try.prog 9 #[.pointer (some ⟨b, 0, none⟩), .agg #[.int .u64 e.1, .int .u64 e.2.1, .bool e.2.2]] w (Left b most es v e w) := by
  obtain ⟨k, x, gone⟩ := e
  by_cases hb : bad (k, x, gone) = true
  · cases gone
    · simp [bad] at hb
    · exact put_bad b most es v k x hr (by omega) (by simpa [bad] using hb) w hw
  · have hb : bad (k, x, gone) = false := by simpa using hb
    by_cases ht : there k es = true
    · exact put_there b most es v k x gone hr (by omega) hb ht w hw
    · have ht : there k es = false := by simpa using ht
      by_cases hf : es.length = most
      · exact put_full b most es v k x gone hr (by omega) hb ht hf w hw
      · cases gone
        · exact put_new_f b most es v k x hr hlen hb ht hf w hw
        · exact put_new_t b most es v k x hr hlen hb ht hf w hw
end Go.Proofs.Ytalhfjcopkmmlaa
