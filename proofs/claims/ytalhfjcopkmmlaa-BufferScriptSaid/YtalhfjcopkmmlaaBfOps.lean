/-
  A buffer's functions that change no entry: place, Full, Len, List, Clone, Get, New, Empty.
-/
import Derived.Test.YtalhfjcopkmmlaaBfFind
namespace Go.Proofs.Ytalhfjcopkmmlaa
open Go.RowKit
set_option linter.unusedVariables false
set_option linter.unusedSimpArgs false

theorem infoE : (Try.prog.info? 27).map (fun i => (i.zero, i.size, i.bytes)) = some (some (.agg #[.int .u64 0, .int .u64 0, .bool false]), 3, 24) := by kernel_rfl

theorem place_any (b : Nat) (most : Int) (es : List Ent) (v : Value) (k : Int) (hr : Rises es) (hlen : es.length ≤ 4611686018427387904) (w : World) (hw : Buf w b most es v) :
    Calls Try.prog 23 #[.pointer (some ⟨b, 0, none⟩), .int .u64 k] w fun e w' => e = .returned (.tuple #[.int .i64 (rk k es), .bool (there k es)]) ∧ Below w.heap.size w w' := by
  have c1 : w.cell? ⟨b, 1, none⟩ = some v := hw.blk.cell 1
  rcases hw.row.form with ⟨rfl, rfl⟩ | ⟨g, cap, rfl, _, _, _⟩
  · go_enter Try.func23, Try.ntmps23
    go_wp2_with (go_at_call 28; refine (search_empty _ _).mono ?_; rintro e w' ⟨rfl, hb⟩)
    go_ret2
    exact ⟨rfl, hb⟩
  · have P := search_any k es hr g cap w hw.row hlen
    have HW := Lib.hid hw
    clear hw
    go_enter Try.func23, Try.ntmps23
    go_wp2_with (go_at_call 28; refine P.mono ?_; rintro e w' ⟨rfl, hb⟩)
    go_ret2
    exact ⟨rfl, hb⟩

theorem clone_row (es : List Ent) (v : Value) (hlen : es.length * 24 ≤ 140737488355328) (w : World) (hw : Row w v es) :
    Calls Try.prog 24 #[v] w fun e w' => ∃ A c, e = .returned (.slice A es.length c) ∧ Row w' (.slice A es.length c) es ∧ Below w.heap.size w w' ∧ (∀ g, Value.ownBlock (.slice A es.length c) = some g → w.heap.size ≤ g) := by
  have q22 : ∀ (w : World) (a : Option Addr) (n c n' c' : Nat), (binOp .eql 22 (.slice a n c) (.slice none n' c')).run Try.prog w = .ok (.bool a.isNone) w := fun w a n c n' c' => Lib.run_eql_slice_nil w _ _ a n c n' c' Try.underlying22
  rcases hw.form with ⟨rfl, rfl⟩ | ⟨g, cap, rfl, _, _, _⟩
  · go_enter Try.func24, Try.ntmps24
    go_wp2
    go_ret
    exact ⟨_, _, rfl, Row.nil _, Below.refl _ _, fun g h => by simp [Value.ownBlock] at h⟩
  · obtain ⟨i0, hi, hz0, hz1, hz2⟩ := info_parts infoE
    have O1 := Lib.hid (World.ownsRow_made (e := 27) (size := 3) w #[] 0 (Nat.le_refl _) (by unfold maxLen; omega) rfl)
    have HL := Lib.hid (length_flat es)
    have HO := Lib.hid (flat_one es)
    have H1 := Lib.hid (World.ownsRow.cells (g := g) (Row.below hw (below_new (Below.refl _ _) (.cells #[] 27))) rfl)
    go_enter Try.func24, Try.ntmps24
    go_wp2_with (at_builtin; refine wpList_append_own _ rfl (.tmp 5) (.tmp 6) _ rfl w.heap.size 27 i0 _ 3 24 Try.underlying22 hi hz0 hz1 hz2 rfl (by omega) (.slice (some ⟨w.heap.size, 0, none⟩) 0 0) 0 [] rfl O1.out ⟨g, 0, none⟩ es.length cap (flat es) rfl HL.out H1.out HO.out (by unfold maxLen; omega) (by omega) (by simp) ?_; intro v' w1 hown hgr hnil)
    have hb : Below w.heap.size w w1 := (below_new (Below.refl _ _) _).grown hgr (by simp) (fun k hk => by simp [Value.ownBlock] at hk; omega)
    go_ret
    have hR : Row w1 v' es := by have := own_mono (base' := 0) hown (fun _ _ => Nat.zero_le _); unfold Row; simpa using this
    have hN : ∀ k, v'.ownBlock = some k → w.heap.size ≤ k := fun k hk => (hown.lt k hk).1
    obtain ⟨A, c, hv⟩ := hR.val
    exact ⟨A, c, by rw [← hv]; rfl, by rw [← hv]; exact hR, hb, by rw [← hv]; exact hN⟩

theorem full_any (b : Nat) (most : Int) (es : List Ent) (v : Value) (w : World) (hw : Buf w b most es v) :
    Calls Try.prog 13 #[.pointer (some ⟨b, 0, none⟩)] w fun e w' => e = .returned (.bool ((es.length : Int) == most)) ∧ ∃ n, w' = w.drewN n := by
  have c0 : w.cell? ⟨b, 0, none⟩ = some (.int .i64 most) := hw.blk.cell 0
  have c1 : w.cell? ⟨b, 1, none⟩ = some v := hw.blk.cell 1
  rcases hw.row.form with ⟨rfl, rfl⟩ | ⟨g, cap, rfl, _, _, _⟩
  all_goals
    have HW := Lib.hid hw
    clear hw
    go_enter Try.func13, Try.ntmps13
    go_wp2
    go_quiet (fail)
    go_wp2
    go_ret
    exact ⟨rfl, _, rfl⟩
theorem len_any (b : Nat) (most : Int) (es : List Ent) (v : Value) (w : World) (hw : Buf w b most es v) :
    Calls Try.prog 12 #[.pointer (some ⟨b, 0, none⟩)] w fun e w' => e = .returned (.int .i64 es.length) ∧ w = w' := by
  have c1 : w.cell? ⟨b, 1, none⟩ = some v := hw.blk.cell 1
  rcases hw.row.form with ⟨rfl, rfl⟩ | ⟨g, cap, rfl, _, _, _⟩
  all_goals
    have HW := Lib.hid hw
    clear hw
    go_enter Try.func12, Try.ntmps12
    go_wp2
    go_ret
    exact ⟨rfl, rfl⟩
theorem new_bad (most : Int) (h : most < 1 ∨ 4294967296 < most) (w : World) :
    Calls Try.prog 8 #[.int .i64 most] w fun e w' => e = .returned (.tuple #[.pointer none, .int .i64 1]) ∧ w = w' := by
  by_cases h1 : most < 1
  · go_enter Try.func8, Try.ntmps8
    go_wp2
    go_ret2
    exact ⟨rfl, rfl⟩
  · have h2 : 4294967296 < most := by omega
    go_enter Try.func8, Try.ntmps8
    go_wp2
    go_ret2
    exact ⟨rfl, rfl⟩
theorem new_good (most : Int) (h1 : ¬ most < 1) (h2 : ¬ 4294967296 < most) (w : World) :
    Calls Try.prog 8 #[.int .i64 most] w fun e w' => e = .returned (.tuple #[.pointer (some ⟨w.heap.size, 0, none⟩), .int .i64 0]) ∧ Buf w' w.heap.size most [] (.slice none 0 0) ∧ Below w.heap.size w w' := by
  go_enter Try.func8, Try.ntmps8
  go_wp2
  go_ret2
  exact ⟨rfl, ⟨Blk.new _ _ _, Row.nil _⟩, below_new (Below.refl _ _) _⟩
theorem list_any (b : Nat) (most : Int) (es : List Ent) (v : Value) (hlen : es.length * 24 ≤ 140737488355328) (w : World) (hw : Buf w b most es v) :
    Calls Try.prog 10 #[.pointer (some ⟨b, 0, none⟩)] w fun e w' => ∃ A c, e = .returned (.slice A es.length c) ∧ Row w' (.slice A es.length c) es ∧ Below w.heap.size w w' ∧ (∀ g, Value.ownBlock (.slice A es.length c) = some g → w.heap.size ≤ g) := by
  have c1 : w.cell? ⟨b, 1, none⟩ = some v := hw.blk.cell 1
  have P := clone_row es v hlen w hw.row
  have HW := Lib.hid hw
  clear hw
  go_enter Try.func10, Try.ntmps10
  go_wp2_with (go_at_call 24; refine P.mono ?_; rintro e w' ⟨A, c, rfl, r, hb, hn⟩)
  go_ret
  exact ⟨_, _, rfl, r, hb, hn⟩
theorem clone_any (b : Nat) (most : Int) (es : List Ent) (v : Value) (hlen : es.length * 24 ≤ 140737488355328) (w : World) (hw : Buf w b most es v) :
    Calls Try.prog 16 #[.pointer (some ⟨b, 0, none⟩)] w fun e w' => ∃ b' v', e = .returned (.pointer (some ⟨b', 0, none⟩)) ∧ w.heap.size ≤ b' ∧ Buf w' b' most es v' ∧ Below w.heap.size w w' ∧ (∀ g, v'.ownBlock = some g → w.heap.size ≤ g) := by
  go_enter Try.func16, Try.ntmps16
  go_wp2
  go_region_held3 (fun w' => w'.cell? ⟨b, 0, none⟩ = some (.int .i64 most) ∧ Buf w' b most es v ∧ Below w.heap.size w w') (first | exact ⟨hw.blk.cell 0, hw.drew, (Below.refl _ _).drew⟩ | exact ⟨cell_below hb (‹_ ∧ Buf _ _ _ _ _ ∧ _›).1, (‹_ ∧ Buf _ _ _ _ _ ∧ _›).2.1.below hb, below_next (‹_ ∧ Buf _ _ _ _ _ ∧ _›).2.2 hb⟩ | exact ⟨cell_below (below_new (Below.refl _ _) _) (‹_ ∧ Buf _ _ _ _ _ ∧ _›).1, (‹_ ∧ Buf _ _ _ _ _ ∧ _›).2.1.below (below_new (Below.refl _ _) _), below_new (‹_ ∧ Buf _ _ _ _ _ ∧ _›).2.2 _⟩ | go_keep)
    (first | (go_at_call 10; refine (list_any b most es v hlen _ (‹_ ∧ Buf _ _ _ _ _ ∧ _›).2.1).mono ?_; rintro e w' ⟨A, c, rfl, r, hb, hn⟩))
  go_wp2
  have K := ‹_ ∧ Buf _ _ _ _ _ ∧ _›
  go_ret
  exact ⟨w'.heap.size, _, rfl, hb.size, ⟨Blk.new _ _ _, r.below (below_new (Below.refl _ _) _)⟩, K.2.2, hn⟩
theorem empty_any (b : Nat) (most : Int) (es : List Ent) (v : Value) (hlen : es.length * 24 ≤ 140737488355328) (w : World) (hw : Buf w b most es v) :
    Calls Try.prog 20 #[.pointer (some ⟨b, 0, none⟩)] w fun e w' => ∃ A c, e = .returned (.slice A es.length c) ∧ Row w' (.slice A es.length c) es ∧ Buf w' b most [] (.slice none 0 0) ∧ Chg (fun k => k = b) w w' ∧ (∀ g, Value.ownBlock (.slice A es.length c) = some g → w.heap.size ≤ g) := by
  have P := list_any b most es v hlen w hw
  have HW := Lib.hid hw
  clear hw
  go_enter Try.func20, Try.ntmps20
  go_wp2_with (go_at_call 10; refine P.mono ?_; rintro e w' ⟨A, c, rfl, r, hb, hn⟩; have HB := Lib.hid (HW.out.below hb); have f1 := HB.out.blk.free 1; have c1 := HB.out.blk.cell 1)
  have hlt := HW.out.blk.lt
  have K : Chg (fun k => k = b) w (w'.setCell ⟨b, 1, none⟩ (.slice none 0 0)) := Chg.setCell (S := fun k => k = b) ((Chg.of_below hb).mono (fun _ _ h => h.elim)) (p := ⟨b, 1, none⟩) (fun _ => rfl) _
  have hne : (Value.slice A es.length c).ownBlock ≠ some b := own_ne_blk r HB.out.blk (by decide)
  have B2 : Blk (w'.setCell ⟨b, 1, none⟩ (.slice none 0 0)) b 53 #[.int .i64 most, .slice none 0 0] := HB.out.blk.set 1 _
  have R2 : Row (w'.setCell ⟨b, 1, none⟩ (.slice none 0 0)) (.slice A es.length c) es := own_far r hne _
  go_ret
  exact ⟨_, _, rfl, R2, ⟨B2, Row.nil _⟩, K, hn⟩
/-- What getting a key gives. -/
theorem get_any (b : Nat) (most : Int) (es : List Ent) (v : Value) (k : Int) (hr : Rises es) (hlen : es.length ≤ 4611686018427387904) (w : World) (hw : Buf w b most es v) :
    Calls Try.prog 14 #[.pointer (some ⟨b, 0, none⟩), .int .u64 k] w fun e w' =>
      e = .returned (.tuple #[.agg (ecells (getL es k).1).toArray, .bool (getL es k).2]) ∧ Below w.heap.size w w' := by
  by_cases ht : there k es = true
  · have hl := there_lt ht
    have E : getL es k = (es[rk k es], true) := by unfold getL; rw [if_pos ht, List.getElem?_eq_getElem hl]; rfl
    rw [E]
    rcases hw.row.form with ⟨rfl, rfl⟩ | ⟨g, cap, rfl, _, _, _⟩
    · simp at hl
    have P := place_any b most es _ k hr hlen (w.alloc (.cells #[.int .u64 0, .int .u64 0, .bool false] 27)) (hw.below (below_new (Below.refl _ _) _))
    rw [ht] at P
    have HT := Lib.hid ht
    clear ht
    have HR := Lib.hid hr
    clear hr
    have HW := Lib.hid hw
    clear hw
    have HE := Lib.hid E
    clear E
    go_enter Try.func14, Try.ntmps14
    go_wp2_with (go_at_call 23; refine P.mono ?_; rintro e w' ⟨rfl, hb⟩; have HB := Lib.hid (HW.out.below (below_next (below_new (Below.refl _ _) _) hb)); have c1 := HB.out.blk.cell 1; obtain ⟨d0, d1, d2⟩ := HB.out.row.cells hl; have R9 := Blk.below (Blk.new w 27 #[.int .u64 0, .int .u64 0, .bool false]) hb; obtain ⟨q0, q1, q2, f0, f1, f2⟩ := Blk.cells3 R9)
    refine bodyPost_ret (results_ct rfl _ (g := w.heap.size) (t := 27) (cs := #[.int .u64 es[rk k es].1, .int .u64 es[rk k es].2.1, .bool es[rk k es].2.2]) (x := .bool true) rfl rfl (Blk.set3 R9) Try.underlying27 rfl (by kernel_rfl)) rfl ?_
    exact ⟨rfl, below_set3 (below_next (below_new (Below.refl _ _) _) hb) (Nat.le_refl _)⟩
  · have ht : there k es = false := by simpa using ht
    have E : getL es k = ((0, 0, false), false) := by unfold getL; rw [if_neg (by simp [ht])]
    rw [E]
    have P := place_any b most es _ k hr hlen (w.alloc (.cells #[.int .u64 0, .int .u64 0, .bool false] 27)) (hw.below (below_new (Below.refl _ _) _))
    rw [ht] at P
    have HT := Lib.hid ht
    clear ht
    have HE := Lib.hid E
    clear E
    go_enter Try.func14, Try.ntmps14
    go_wp2_with (go_at_call 23; refine P.mono ?_; rintro e w' ⟨rfl, hb⟩; have R9 := Blk.below (Blk.new w 27 #[.int .u64 0, .int .u64 0, .bool false]) hb; obtain ⟨q0, q1, q2, f0, f1, f2⟩ := Blk.cells3 R9)
    refine bodyPost_ret (results_ct rfl _ (g := w.heap.size) (t := 27) (cs := #[.int .u64 0, .int .u64 0, .bool false]) (x := .bool false) rfl rfl (Blk.set3 R9) Try.underlying27 rfl (by kernel_rfl)) rfl ?_
    exact ⟨rfl, below_set3 (below_next (below_new (Below.refl _ _) _) hb) (Nat.le_refl _)⟩
end Go.Proofs.Ytalhfjcopkmmlaa
