/-
  A fit's clone.
-/
import Derived.Test.YtanhhgifcolfaaaQHuFns
namespace Go.Proofs.Ytanhhgifcolfaaa
open Go.RowKit
set_option linter.unusedVariables false
set_option linter.unusedSimpArgs false

theorem Row.slice {w : World} {v : Value} {es : List Pt} (h : Row w v es) : ∃ A n c, v = .slice A n c := by
  rcases h.form with ⟨rfl, _⟩ | ⟨g, cap, rfl, _⟩
  · exact ⟨_, _, _, rfl⟩
  · exact ⟨_, _, _, rfl⟩
theorem clone_row (es : List Pt) (v : Value) (hlen : es.length * 16 ≤ 140737488355328) (w : World) (hw : Row w v es) :
    Calls Try.prog 47 #[v] w fun e w' => ∃ v', e = .returned v' ∧ Row w' v' es ∧ Below w.heap.size w w' ∧ (∀ g, v'.ownBlock = some g → w.heap.size ≤ g) := by
  have q22 : ∀ (w : World) (a : Option Addr) (n c n' c' : Nat), (binOp .eql 65 (.slice a n c) (.slice none n' c')).run Try.prog w = .ok (.bool a.isNone) w := fun w a n c n' c' => Lib.run_eql_slice_nil w _ _ a n c n' c' Try.underlying65
  rcases hw.form with ⟨rfl, rfl⟩ | ⟨g, cap, rfl, _, _, _⟩
  · go_enter Try.func47, Try.ntmps47
    go_wp2
    go_ret
    exact ⟨_, rfl, Row.nil _, Below.refl _ _, fun g h => by simp [Value.ownBlock] at h⟩
  · obtain ⟨i0, hi, hz0, hz1, hz2⟩ := info_parts infoP
    have O1 := Lib.hid (World.ownsRow_made (e := 70) (size := 2) w #[] 0 (Nat.le_refl _) (by unfold maxLen; omega) rfl)
    have HL := Lib.hid (length_flat es)
    have HO := Lib.hid (flat_one es)
    have H1 := Lib.hid (World.ownsRow.cells (g := g) (own_chg hw (Chg.of_below (below_new (Below.refl _ _) (.cells #[] 70))) (fun _ _ h => h)) rfl)
    go_enter Try.func47, Try.ntmps47
    go_wp2_with (at_builtin; refine wpList_append_own _ rfl (.tmp 5) (.tmp 6) _ rfl w.heap.size 70 i0 _ 2 16 Try.underlying65 hi hz0 hz1 hz2 rfl (by omega) (.slice (some ⟨w.heap.size, 0, none⟩) 0 0) 0 [] rfl O1.out ⟨g, 0, none⟩ es.length cap (flat es) rfl HL.out H1.out HO.out (by unfold maxLen; omega) (by omega) (by simp) ?_; intro v' w1 hown hgr hnil)
    have hb : Below w.heap.size w w1 := (below_new (Below.refl _ _) _).grown hgr (by simp) (fun k hk => by simp [Value.ownBlock] at hk; omega)
    go_ret
    have hR : Row w1 v' es := by have := own_mono (base' := 0) hown (fun _ _ => Nat.zero_le _); unfold Row; simpa using this
    have hN : ∀ k, v'.ownBlock = some k → w.heap.size ≤ k := fun k hk => (hown.lt k hk).1
    exact ⟨v', rfl, hR, hb, hN⟩
theorem clone_row' {es : List Pt} {v : Value} (hlen : es.length ≤ 4398046511104) {w : World} (hw : Row w v es) :
    Calls Try.prog 47 #[v] w fun e w' => ∃ A n c, e = .returned (.slice A n c) ∧ Row w' (.slice A n c) es ∧ Below w.heap.size w w' ∧ (∀ g, (Value.slice A n c).ownBlock = some g → w.heap.size ≤ g) :=
  (clone_row es v (by omega) w hw).mono fun e w' ⟨v', h1, h2, h3, h4⟩ => by
    obtain ⟨A, n, c, rfl⟩ := h2.slice
    exact ⟨A, n, c, h1, h2, h3, h4⟩
abbrev ZF (e : Int) (F : Fit) (last : Int) (u0 u1 : Value) : Array Value := #[.int .i64 e, .int .i64 F.keys.length, .int .u64 last, .int .u64 F.low.1, .int .u64 F.low.2, .int .u64 F.top.1, .int .u64 F.top.2, u0, u1]
set_option maxHeartbeats 4000000 in
set_option maxRecDepth 10000 in
theorem clone_fit {w : World} {b : Nat} {e : Int} {F : Fit} {v0 v1 : Value} (V : FitV w b e F v0 v1) :
    Calls Try.prog 27 #[.pointer (some ⟨b, 0, none⟩)] w fun e' w' => ∃ v0' v1', e' = .returned (.pointer (some ⟨w.heap.size, 0, none⟩)) ∧ FitV w' w.heap.size e F v0' v1' ∧ Below w.heap.size w w' ∧ (∀ g, v0'.ownBlock = some g → w.heap.size < g) ∧ (∀ g, v1'.ownBlock = some g → w.heap.size < g) := by
  obtain ⟨last, c0, c1, M, Q, Hl, Hd⟩ := V
  obtain ⟨A0, n0, k0, rfl⟩ := M.r0.slice
  obtain ⟨A1, n1, k1, rfl⟩ := M.r1.slice
  have x0 := M.blk.cell 0
  have x1 := M.blk.cell 1
  have x2 := M.blk.cell 2
  have x3 := M.blk.cell 3
  have x4 := M.blk.cell 4
  have x5 := M.blk.cell 5
  have x6 := M.blk.cell 6
  have x7 := M.blk.cell 7
  have x8 := M.blk.cell 8
  have HM := Lib.hid M
  have HQ := Lib.hid Q
  have HL := Lib.hid Hl
  clear M Q Hl Hd
  simp only [List.getElem?_toArray, List.getElem?_cons_succ, List.getElem?_cons_zero] at x0 x1 x2 x3 x4 x5 x6 x7 x8
  go_enter Try.func27, Try.ntmps27
  go_wp2_with fail
  refine wp_loop_rounds 3 ?_
  rw [rounds_succ]
  go_wp2_with fail
  have B1 : Hid (Blk (w.alloc (.cells (ZF e F last (.slice A0 n0 k0) (.slice A1 n1 k1)) 68)) w.heap.size 68 (ZF e F last (.slice A0 n0 k0) (.slice A1 n1 k1))) := Lib.hid (Blk.new _ _ _)
  have M1 := Lib.hid (HM.out.below (below_new (Below.refl _ _) (.cells (ZF e F last (.slice A0 n0 k0) (.slice A1 n1 k1)) 68)))
  have HBl1 : Hid (Below w.heap.size w (w.alloc (.cells (ZF e F last (.slice A0 n0 k0) (.slice A1 n1 k1)) 68))) := Lib.hid (below_new (Below.refl _ _) _)
  have hs1 : Hid ((w.alloc (.cells (ZF e F last (.slice A0 n0 k0) (.slice A1 n1 k1)) 68)).heap.size = w.heap.size + 1) := Lib.hid (by simp)
  have C0 := clone_row' HQ.out.n0 M1.out.r0
  clear x0 x1 x2 x3 x4 x5 x6 x7 x8
  obtain ⟨wa, hwa⟩ : ∃ wa, w.alloc (.cells (ZF e F last (.slice A0 n0 k0) (.slice A1 n1 k1)) 68) = wa := ⟨_, rfl⟩
  rw [hwa] at B1 M1 HBl1 hs1 C0
  unfold ZF at hwa
  rw [hwa]
  clear hwa
  refine C0.mono ?_
  rintro e' w2 ⟨D0, m0, d0, rfl, R0, b2, o0⟩
  have HR0 := Lib.hid (And.intro R0 (And.intro b2 o0))
  have B2 := Lib.hid (B1.out.below b2)
  have y7 := B2.out.cell 7
  have f7 := B2.out.free 7
  have y8 : (w2.setCell ⟨w.heap.size, 7, none⟩ (.slice D0 m0 d0)).cell? ⟨w.heap.size, 8, none⟩ = some (.slice A1 n1 k1) := (B2.out.set 7 (.slice D0 m0 d0)).cell 8
  simp only [List.getElem?_toArray, List.getElem?_cons_succ, List.getElem?_cons_zero] at y7
  have HGN : Hid (∀ g, (Value.slice A1 n1 k1).ownBlock = some g → ¬ g = w.heap.size) := Lib.hid (fun g h hg => by have := own_lt HM.out.r1 h; omega)
  have R12 : Hid (Row (w2.setCell ⟨w.heap.size, 7, none⟩ (.slice D0 m0 d0)) (.slice A1 n1 k1) c1) := Lib.hid (own_far (own_chg M1.out.r1 (Chg.of_below b2) (fun _ _ h => h)) (fun h => HGN.out _ h rfl) _)
  have C1 := clone_row' HQ.out.n1 R12.out
  clear C0 R0 b2 o0
  go_wp2_with fail
  rw [rounds_succ]
  go_wp2_with fail
  refine C1.mono ?_
  rintro e' w4 ⟨D1, m1, d1, rfl, R1, b4, o1⟩
  have HR1 := Lib.hid (And.intro R1 (And.intro b4 o1))
  have B4 := Lib.hid ((B2.out.set 7 (.slice D0 m0 d0)).below b4)
  have y9 := B4.out.cell 8
  have f9 := B4.out.free 8
  clear C1 R1 b4 o1 y7 f7 y8
  go_wp2_with fail
  rw [rounds_succ]
  go_wp2_with fail
  have hz2 : wa.heap.size ≤ w2.heap.size := HR0.out.2.1.size
  have hz1 := hs1.out
  have hzs : (w2.setCell ⟨w.heap.size, 7, none⟩ (.slice D0 m0 d0)).heap.size = w2.heap.size := by simp
  have P0 : ∀ g, (Value.slice D0 m0 d0).ownBlock = some g → w.heap.size < g := fun g h => by have := HR0.out.2.2 g h; omega
  have P1 : ∀ g, (Value.slice D1 m1 d1).ownBlock = some g → w2.heap.size ≤ g := fun g h => by have := HR1.out.2.2 g h; omega
  have N0 : (Value.slice D0 m0 d0).ownBlock ≠ some w.heap.size := fun h => by have := P0 _ h; omega
  have N1 : (Value.slice D1 m1 d1).ownBlock ≠ some w.heap.size := fun h => by have := P1 _ h; omega
  have l0 : ∀ g, (Value.slice D0 m0 d0).ownBlock = some g → g < w2.heap.size := fun g h => own_lt HR0.out.1 h
  have FB := B4.out.set 8 (.slice D1 m1 d1)
  have F0 : Row (w4.setCell ⟨w.heap.size, 8, none⟩ (.slice D1 m1 d1)) (.slice D0 m0 d0) c0 := own_far (own_chg (own_far HR0.out.1 (p := ⟨w.heap.size, 7, none⟩) N0 (.slice D0 m0 d0)) (Chg.of_below HR1.out.2.1) (fun _ _ h => h)) (p := ⟨w.heap.size, 8, none⟩) N0 _
  have F1 : Row (w4.setCell ⟨w.heap.size, 8, none⟩ (.slice D1 m1 d1)) (.slice D1 m1 d1) c1 := own_far HR1.out.1 (p := ⟨w.heap.size, 8, none⟩) N1 _
  have FBe : Below w.heap.size w (w4.setCell ⟨w.heap.size, 8, none⟩ (.slice D1 m1 d1)) := by
    have k1 : Below w.heap.size w (w2.setCell ⟨w.heap.size, 7, none⟩ (.slice D0 m0 d0)) := (below_next HBl1.out HR0.out.2.1).setCell (p := ⟨w.heap.size, 7, none⟩) (Nat.le_refl _) _
    exact (below_next k1 HR1.out.2.1).setCell (p := ⟨w.heap.size, 8, none⟩) (Nat.le_refl _) _
  go_ret
  exact ⟨_, _, rfl, ⟨last, c0, c1, ⟨FB, F0, F1⟩, HQ.out, HL.out, fun g h1 h2 => by have := l0 g h1; have := P1 g h2; omega⟩, FBe, P0, fun g h => by have := P1 g h; omega⟩
theorem hull_Clone {w : World} {b : Nat} {e : Int} {F : Fit} {S : Nat → Prop} (H : FitO w b e F S) :
    Calls Try.prog 27 #[.pointer (some ⟨b, 0, none⟩)] w fun e' w' => e' = .returned (.pointer (some ⟨w.heap.size, 0, none⟩)) ∧ (∃ T, FitO w' w.heap.size e F T ∧ ∀ k, T k → w.heap.size ≤ k) ∧ Below w.heap.size w w' := by
  obtain ⟨v0, v1, V, rfl⟩ := H
  refine (clone_fit V).mono ?_
  rintro e' w' ⟨v0', v1', rfl, V', hb, o0, o1⟩
  refine ⟨rfl, ⟨_, ⟨v0', v1', V', rfl⟩, ?_⟩, hb⟩
  rintro k (rfl | h | h)
  · exact Nat.le_refl _
  · have := o0 k h; omega
  · have := o1 k h; omega
end Go.Proofs.Ytanhhgifcolfaaa
