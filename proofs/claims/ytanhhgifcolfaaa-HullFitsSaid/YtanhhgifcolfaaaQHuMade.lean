/-
  'made' gives a fit and the reference's.
-/
import Derived.Test.YtanhhgifcolfaaaQHuPair
import Derived.Deep.CutBlock
import Derived.Deep.DeepCutAuto
namespace Go.Proofs.Ytanhhgifcolfaaa
open Go.RowKit
set_option linter.unusedVariables false
set_option linter.unusedSimpArgs false
theorem new_pair {eps : Int} (h1 : 2 ≤ eps) (h2 : eps ≤ 64) {w w1 w2 : World} {b1 b2 : Nat} {S T : Nat → Prop} (H1 : FitO w1 b1 (eps - 1) Fit.zero S) (B1 : Below w.heap.size w w1) (hS : ∀ k, S k → w.heap.size ≤ k) (H2 : RefO w2 b2 (eps - 1) Fit.zero T) (B2 : Below w1.heap.size w1 w2) (hT : ∀ k, T k → w1.heap.size ≤ k) :
    Pair2 w b1 b2 (eps - 1) Fit.zero Fit.zero w2 :=
  ⟨S, T, H1.below B2, H2, fun k hs ht => by have := H1.lt k hs; have := hT k ht; omega, hS, fun k ht => Nat.le_trans B1.size (hT k ht), below_next B1 B2⟩
theorem Pair2.set2 {w wA w' : World} {b1 b2 : Nat} {e : Int} {Fa Fb : Fit} (h : Pair2 wA b1 b2 e Fa Fb w') (BA : Below w.heap.size w wA) {g : Nat} (h1 : w.heap.size ≤ g) (h2 : g < wA.heap.size) (x y : Value) :
    Pair2 w b1 b2 e Fa Fb ((w'.setCell ⟨g, 0, none⟩ x).setCell ⟨g, 1, none⟩ y) := by
  obtain ⟨S, T, q1, q2, q3, q4, q5, q6⟩ := h
  have C : Chg (fun k => k = g) w' ((w'.setCell ⟨g, 0, none⟩ x).setCell ⟨g, 1, none⟩ y) := ((Chg.refl (fun k => k = g) _).setCell (fun _ => rfl) _).setCell (fun _ => rfl) _
  exact ⟨S, T, q1.chg C (fun i hi k => by have := q4 i hi; omega), q2.chg C (fun i hi k => by have := q5 i hi; omega), q3, fun i hi => Nat.le_trans BA.size (q4 i hi), fun i hi => Nat.le_trans BA.size (q5 i hi), below_set2 (below_next BA q6) h1⟩
theorem Pair2.drewN {w0 w : World} {b1 b2 : Nat} {e : Int} {Fa Fb : Fit} (h : Pair2 w0 b1 b2 e Fa Fb w) (n : Nat) : Pair2 w0 b1 b2 e Fa Fb (w.drewN n) := h.below (drewN_below (Below.refl _ _) n)
set_option maxHeartbeats 2000000 in
theorem made_good (eps : Int) (h1 : 2 ≤ eps) (h2 : eps ≤ 64) (w : World) :
    Calls Try.prog 15 #[.int .i64 eps] w fun e' w' => ∃ b1 b2, e' = .returned (.tuple #[.agg #[.pointer (some ⟨b1, 0, none⟩), .pointer (some ⟨b2, 0, none⟩)], .bool true, .bool true]) ∧ Pair2 w b1 b2 (eps - 1) Fit.zero Fit.zero w' := by
  have N1 := fun w => hull_New eps h1 h2 w
  have N2 := fun w => ref_New eps h1 h2 w
  have H12 := Lib.hid (And.intro h1 h2)
  clear h1 h2
  go_enter Try.func15, Try.ntmps15
  go_wp2_with fail
  refine (N1 _).mono ?_
  rintro e w1 ⟨rfl, b1, F1⟩
  have G0 := Lib.hid ((Blk.new w 27 #[.pointer none, .pointer none]).below b1)
  have HB1 := Lib.hid (And.intro b1 F1)
  clear b1 F1 N1
  go_wp2_with fail
  refine (N2 _).mono ?_
  rintro e w2 ⟨rfl, b2, F2⟩
  have G1 := Lib.hid (G0.out.below b2)
  have P := Lib.hid (new_pair H12.out.1 H12.out.2 HB1.out.2 HB1.out.1 (fun k hk => by omega) F2 b2 (fun k hk => by omega))
  obtain ⟨c0, c1, c2, c3⟩ := G1.out.cells2
  have hne : Hid (w.heap.size < w1.heap.size) := Lib.hid (by have := HB1.out.1.size; simp at this; omega)
  clear G0 HB1 F2 b2 N2
  go_wp2_with fail
  refine bodyPost_ret (v := .tuple #[.agg #[.pointer (some ⟨w.heap.size + 1, 0, none⟩), .pointer (some ⟨w1.heap.size, 0, none⟩)], .bool true, .bool true]) (results_ctt (p := 2) (u := 3) (v := 4) (ty := 27) (t := 27) rfl _ rfl rfl rfl G1.out.set2 Try.underlying27 rfl (by kernel_rfl)) rfl ?_
  refine ⟨_, _, rfl, ?_⟩
  have P' := P.out
  have e1 : (w.alloc (.cells #[.pointer none, .pointer none] 27)).heap.size = w.heap.size + 1 := by simp
  rw [e1] at P'
  exact P'.set2 (below_new (Below.refl _ _) _) (Nat.le_refl _) (by rw [e1]; omega) _ _
set_option maxHeartbeats 2000000 in
theorem made_bad (eps : Int) (h : eps < 2 ∨ 64 < eps) (w : World) :
    Calls Try.prog 15 #[.int .i64 eps] w fun e' w' => e' = .returned (.tuple #[.agg #[.pointer none, .pointer none], .bool false, .bool true]) ∧ Below w.heap.size w w' := by
  have N1 := fun w => hull_New_bad eps h w
  have N2 := fun w => ref_New_bad eps h w
  clear h
  go_enter Try.func15, Try.ntmps15
  go_wp2_with fail
  refine (N1 _).mono ?_
  rintro e w1 ⟨rfl, rfl⟩
  go_wp2_with fail
  refine (N2 _).mono ?_
  rintro e w2 ⟨rfl, rfl⟩
  go_wp2_with fail
  refine bodyPost_ret (v := .tuple #[.agg #[.pointer none, .pointer none], .bool false, .bool true]) (results_ctt (p := 2) (u := 3) (v := 4) (ty := 27) (t := 27) rfl _ rfl rfl rfl (Blk.new _ _ _) Try.underlying27 rfl (by kernel_rfl)) rfl ?_
  exact ⟨rfl, below_new (Below.refl _ _) _⟩
end Go.Proofs.Ytanhhgifcolfaaa
