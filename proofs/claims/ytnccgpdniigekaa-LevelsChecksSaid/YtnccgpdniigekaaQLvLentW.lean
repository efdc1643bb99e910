/-
  lent of the law, walked.
-/
import Derived.Test.YtnccgpdniigekaaQLvLent
import Derived.Test.YtnccgpdniigekaaQG27
namespace Go.Proofs.Ytnccgpdniigekaa
open Go.RowKit
set_option linter.unusedVariables false
set_option linter.unusedSimpArgs false
attribute [local go_sem high] run_store_float

theorem lent_num {i n m : Nat} (h : i < n) (hn : n ≤ 17592186044416) (hm : m ≤ 17592186044416) : wrap64 ((i : Int) + 1) = (i : Int) + 1 ∧ wrap64 ((m : Int) + 1) = ((m + 1 : Nat) : Int) ∧ (m : Int) < ((m + 1 : Nat) : Int) ∧ (i : Int) < ((n + 1 : Nat) : Int) ∧ (m : Int) ≤ ((m + 1 : Nat) : Int) := by unfold wrap64; omega
theorem lent_num0 {n : Nat} (hn : n ≤ 17592186044416) : wrap64 ((n : Int) + 1) = ((n + 1 : Nat) : Int) ∧ (n : Int) < ((n + 1 : Nat) : Int) ∧ (n : Int) ≤ ((n + 1 : Nat) : Int) := by unfold wrap64; omega
/-- One list laid. -/
theorem LI.more {w wr wx : World} {G : Nat → Nat} {ll : List (List Sg)} {i : Nat} (h : LI w G ll i wr) (hi : i < ll.length) (k : Below wr.heap.size wr wx) (hb : Blk wx wr.heap.size 33 (sflat (ll.getD i [] ++ [z77])).toArray) :
    LI w (fun j => if j = i then wr.heap.size else G j) ll (i + 1) (wx.setCell ⟨w.heap.size, i, none⟩ (.slice (some ⟨wr.heap.size, 0, none⟩) (ll.getD i []).length ((ll.getD i []).length + 1))) := by
  have hlt := h.row.lt
  refine ⟨?_, fun j hj => ?_, (below_next h.bel k).setCell (Nat.le_refl _) _⟩
  · have := (h.row.below k).set i (.slice (some ⟨wr.heap.size, 0, none⟩) (ll.getD i []).length ((ll.getD i []).length + 1))
    rwa [svF_set G ll hi] at this
  · by_cases hji : j = i
    · subst hji
      rw [if_pos rfl]
      exact ⟨hb.far _ (by show wr.heap.size ≠ w.heap.size; omega), by omega⟩
    · rw [if_neg hji]
      have hl := (h.inn j (by omega)).2
      exact ⟨((h.inn j (by omega)).1.below k).far _ (by show G j ≠ w.heap.size; omega), hl⟩
theorem mark_blk {w : World} {g : Nat} {l : List Sg} {t : Sg} (h : Blk w g 33 (sflat (l ++ [zS])).toArray) :
    Blk (((((w.setCell ⟨g, l.length * 5, none⟩ (.int .u64 t.first)).setCell ⟨g, l.length * 5 + 1, none⟩ (.float .f64 t.sl)).setCell ⟨g, l.length * 5 + 2, none⟩ (.float .f64 t.ic)).setCell ⟨g, l.length * 5 + 3, none⟩ (.int .i64 t.fr)).setCell ⟨g, l.length * 5 + 4, none⟩ (.int .i64 t.up)) g 33 (sflat (l ++ [t])).toArray := by
  have := h.seg5 (i := l.length) (by simp) t
  rwa [mark_set] at this

theorem LI.done {w wr : World} {G : Nat → Nat} {ll : List (List Sg)} (h : LI w G ll ll.length wr) :
    LentW w w.heap.size ll ((wr.setCell ⟨w.heap.size, ll.length, none⟩ (.slice (some ⟨wr.heap.size, 0, none⟩) 1 1)).alloc (.cells #[.int .u64 0, .float .f64 0, .float .f64 0, .int .i64 (-78), .int .i64 0] 33)) := by
  have hlt := h.row.lt
  have ha := (h.row.set ll.length (.slice (some ⟨wr.heap.size, 0, none⟩) 1 1)).alloc (.cells #[.int .u64 0, .float .f64 0, .float .f64 0, .int .i64 (-78), .int .i64 0] 33)
  have hn : Blk ((wr.setCell ⟨w.heap.size, ll.length, none⟩ (.slice (some ⟨wr.heap.size, 0, none⟩) 1 1)).alloc (.cells #[.int .u64 0, .float .f64 0, .float .f64 0, .int .i64 (-78), .int .i64 0] 33)) wr.heap.size 33 (sflat [z78]).toArray :=
    Blk.new' (w := wr.setCell ⟨w.heap.size, ll.length, none⟩ (.slice (some ⟨wr.heap.size, 0, none⟩) 1 1)) 33 #[.int .u64 0, .float .f64 0, .float .f64 0, .int .i64 (-78), .int .i64 0] (by simp)
  refine ⟨Nat.le_refl _, ha.lt, fun j hj => ⟨G j, ?_, ?_⟩, ⟨wr.heap.size, ?_, args_blk hn⟩, (h.bel.setCell (Nat.le_refl _) _).alloc (by simpa using h.bel.size) _⟩
  · rw [ha.cell, Array.getElem?_setIfInBounds_ne (by omega), List.getElem?_toArray, svF_at hj]; rfl
  · have hg := (h.inn j hj).2
    exact args_blk (((h.inn j hj).1.far _ (by show G j ≠ w.heap.size; omega)).alloc _)
  · rw [ha.cell, Array.getElem?_setIfInBounds_self_of_lt (by simp [svF_len G ll (Nat.le_refl _)])]
set_option maxHeartbeats 4000000 in
set_option maxRecDepth 100000 in
theorem lent8_any (B : Option Addr) (d : Nat) (ll : List (List Sg)) (hln : ∀ l ∈ ll, l.length ≤ 7000000000000) (hll : ll.length ≤ 7000000000000) (w : World) (hB : ArgSS w B ll) :
    Calls Try.prog 20 #[.slice B ll.length d] w fun e w' => ∃ g, e = .returned (.slice (some ⟨g, 0, none⟩) ll.length (ll.length + 1)) ∧ LentW w g ll w' := by
  obtain ⟨ir, hir, hr0, hr1, hr2⟩ := info_parts infoR
  obtain ⟨iS, hi, hz0, hz1, hz2⟩ := info_parts infoS
  have HB := Lib.hid hB
  have HL := Lib.hid hln
  have HN := Lib.hid hll
  obtain ⟨v1, v2, v3⟩ := lent_num0 (n := ll.length) (by omega)
  have L0 : Hid (LI w (fun _ => 0) ll 0 (w.alloc (.cells (madeCells #[Value.slice none 0 0] (ll.length + 1)) 30))) := Lib.hid ⟨by rw [made_nils]; exact Blk.new _ _ _, fun j hj => absurd hj (by omega), below_new (Below.refl _ _) _⟩
  clear hB hln
  go_enter Try.func20, Try.ntmps20
  go_wp2_with (refine wpList_make_row _ rfl (.tmp 8) (.tmp 8) 25 rfl 30 ir _ Try.underlying25 hir hr0 hr1 rfl .i64 .i64 (ll.length + 1) (by rfl) (by rfl) (by rw [hr2]; omega) (by omega) ?_)
  go_loopw [4] (fun x wr => ∃ (i : Nat) (G : Nat → Nat), i ≤ ll.length ∧ x = .int .i64 i ∧ Hid (LI w G ll i wr)) (fun x _ => ll.length - (intOf x).toNat)
  case atStart => exact ⟨0, _, Nat.zero_le _, rfl, L0⟩
  case round =>
    obtain ⟨i, G, hi', rfl, I⟩ := hrel
    clear L0
    by_cases hlt : i < ll.length
    · have i0 : (0 : Int) ≤ (i : Int) := by omega
      have i1 : (i : Int) < (ll.length : Int) := by omega
      obtain ⟨b, o, rfl, hb, hc⟩ := HB.out (by omega)
      obtain ⟨A2, c2, hcell0, hseg0⟩ := hc i hlt
      have X := Lib.hid (show ∀ w', Below w.heap.size w w' → w'.cell? ⟨b, o + i, none⟩ = some (.slice A2 (ll.getD i []).length c2) ∧ ArgS w' A2 (ll.getD i []) from fun w' k => ⟨(k.cell (p := ⟨b, _, none⟩) hb).trans hcell0, hseg0.below k⟩)
      have hlb := HL.out _ (mem_getD (z := []) hlt rfl)
      have MO := Lib.hid (fun wx => I.out.more (wx := wx) hlt)
      obtain ⟨l, hl⟩ : ∃ l, ll.getD i [] = l := ⟨_, rfl⟩
      rw [hl] at X hlb MO
      obtain ⟨q1, q2, q3, q4, q5⟩ := lent_num hlt (show ll.length ≤ 17592186044416 by omega) (show l.length ≤ 17592186044416 by omega)
      obtain ⟨xa, xs⟩ := X.out _ I.out.bel
      clear hc hcell0 hseg0 hl hb xs
      have W1 : Hid ((wr.alloc (.cells (madeCells #[Value.int .u64 0, .float .f64 0, .float .f64 0, .int .i64 0, .int .i64 0] ((l.length + 1) * 5)) 33)).heap[wr.heap.size]? = some (.cells (sflat (List.replicate (l.length + 1) zS)).toArray 33 (0, 0))) := Lib.hid (by rw [made_zS]; exact Blk.new _ _ _)
      have W2 : Hid (Below wr.heap.size wr (wr.alloc (.cells (madeCells #[Value.int .u64 0, .float .f64 0, .float .f64 0, .int .i64 0, .int .i64 0] ((l.length + 1) * 5)) 33))) := Lib.hid (below_new (Below.refl _ _) _)
      go_upto_region 6 with (refine wpList_make_rows _ rfl (.tmp 21) (.tmp 21) 30 rfl 33 iS _ Try.underlying30 hi hz0 5 hz1 .i64 .i64 (l.length + 1) (by rfl) (by rfl) (by rw [hz2]; omega) (by omega) ?_; simp only [Value.cells])
      obtain ⟨wm, hwm⟩ : ∃ wm, wm = wr.alloc (.cells (madeCells #[Value.int .u64 0, .float .f64 0, .float .f64 0, .int .i64 0, .int .i64 0] ((l.length + 1) * 5)) 33) := ⟨_, rfl⟩
      rw [← hwm] at W1 W2 ⊢
      clear hwm xa
      obtain ⟨xa, xs⟩ := X.out _ (below_next I.out.bel W2.out)
      have HF : Hid (0 + (sflat l).length ≤ (sflat (List.replicate (l.length + 1) zS)).length) := Lib.hid (by rw [length_sflat, length_sflat, List.length_replicate]; omega)
      have HC : Hid ((sflat l).length = l.length * 5) := Lib.hid (length_sflat l)
      have HM : Hid (l.length = Nat.min l.length (l.length + 1)) := Lib.hid (by simp [Nat.min_def])
      have HP : Hid (0 < (sflat l).length → (some ⟨wr.heap.size, 0, none⟩ : Option Addr) = some ⟨wr.heap.size, 0, none⟩ ∧ ∃ ad, A2 = some ad ∧ ∀ j v, (sflat l)[j]? = some v → wm.cell? (ad.add j) = some v) := Lib.hid (fun h0 => ⟨rfl, xs.src h0⟩)
      have H1 := Lib.hid (sflat_one l)
      clear xs
      go_upto_region 7 with (refine wpList_copy_rows rfl (.tmp 23) (.tmp 27) 30 30 rfl 33 Try.underlying30 5 (by kernel_rfl) (by omega) (some ⟨wr.heap.size, 0, none⟩) A2 (l.length + 1) (l.length + 1) l.length c2 l.length (by rfl) (by rfl) wr.heap.size 0 (sflat (List.replicate (l.length + 1) zS)) 33 W1.out (sflat l) HM.out HC.out HP.out HF.out H1.out wr.heap.size wr W2.out (Nat.le_refl _) ?_; intro wc hg hbb; have W3 := hg; have W4 := hbb; clear hg hbb)
      have B4 : Hid (Blk wc wr.heap.size 33 (sflat (l ++ [zS])).toArray) := Lib.hid (by have := W3.out; rw [splice_row] at this; exact this)
      have B5 := Lib.hid (mark_blk (t := z77) B4.out)
      obtain ⟨d0, d1, d2, d3, d4⟩ := seg_at_blk B4.out (i := l.length) (by simp)
      have f0 := B4.out.free (l.length * 5); have f1 := B4.out.free (l.length * 5 + 1); have f2 := B4.out.free (l.length * 5 + 2); have f3 := B4.out.free (l.length * 5 + 3); have f4 := B4.out.free (l.length * 5 + 4)
      clear xa W1 W2 W3 HF HC HM HP H1
      obtain ⟨xa, xs⟩ := X.out _ (below_next I.out.bel W4.out.1)
      unfold z77 at B5
      simp only [] at B5
      clear xs
      go_upto_region 8 with fail
      have W5 := Lib.hid (below_seg5 (k0 := l.length * 5) (k1 := l.length * 5 + 1) (k2 := l.length * 5 + 2) (k3 := l.length * 5 + 3) (k4 := l.length * 5 + 4) (u := .int .u64 0) (v := .float .f64 0) (x := .float .f64 0) (y := .int .i64 (-77)) (z := .int .i64 0) W4.out.1 (Nat.le_refl _))
      obtain ⟨wy, hwy⟩ : ∃ wy, wy = (((((wc.setCell ⟨wr.heap.size, l.length * 5, none⟩ (.int .u64 0)).setCell ⟨wr.heap.size, l.length * 5 + 1, none⟩ (.float .f64 0)).setCell ⟨wr.heap.size, l.length * 5 + 2, none⟩ (.float .f64 0)).setCell ⟨wr.heap.size, l.length * 5 + 3, none⟩ (.int .i64 (-77))).setCell ⟨wr.heap.size, l.length * 5 + 4, none⟩ (.int .i64 0)) := ⟨_, rfl⟩
      rw [← hwy] at B5 W5 ⊢
      clear hwy xa d0 d1 d2 d3 d4 f0 f1 f2 f3 f4 B4 W4
      obtain ⟨xa, xs⟩ := X.out _ (below_next I.out.bel W5.out)
      have RW := Lib.hid (I.out.row.below W5.out)
      have r0 := RW.out.cell i
      rw [List.getElem?_toArray, svF_nil (Nat.le_refl _) hi'] at r0
      have r1 := RW.out.free i
      have M9 := Lib.hid (MO.out wy W5.out B5.out)
      clear xs RW MO
      go_wp2_with fail
      go_roundw
      case rel => exact ⟨i + 1, _, Nat.succ_le_of_lt hlt, (by first | (rw [q1]; rfl) | rfl), M9⟩
      case measure => first | (rw [q1]; exact meas_next hlt) | exact meas_next hlt
    · obtain rfl : i = ll.length := by omega
      have i1 : ¬ (ll.length : Int) < (ll.length : Int) := by omega
      have r0 := I.out.row.cell ll.length
      rw [List.getElem?_toArray, svF_nil (Nat.le_refl _) (Nat.le_refl _)] at r0
      have r1 := I.out.row.free ll.length
      have D := Lib.hid I.out.done
      have hlt' := I.out.row.lt
      clear hlt
      go_wp2_with fail
      go_ret
      exact ⟨w.heap.size, rfl, D.out⟩
end Go.Proofs.Ytnccgpdniigekaa
