/-
  'shown', the small thing at the head of each statement about buffers, is true; what a put leaves of a buffer that the call made.
-/
import Derived.Test.YtalhfjcopkmmlaaBfSame
namespace Go.Proofs.Ytalhfjcopkmmlaa
open Go.RowKit
set_option linter.unusedVariables false
set_option linter.unusedSimpArgs false

/-- A buffer whose blocks were all made since world w0; what was there then is as it was. -/
structure Mine (w0 : World) (b : Nat) (most : Int) (es : List Ent) (v : Value) (w : World) : Prop where
  buf : Buf w b most es v
  lo : w0.heap.size ≤ b
  vo : ∀ g, v.ownBlock = some g → w0.heap.size ≤ g
  bel : Below w0.heap.size w0 w
theorem Mine.drewN {w0 : World} {b : Nat} {most : Int} {es : List Ent} {v : Value} {w : World} (h : Mine w0 b most es v w) (n : Nat) : Mine w0 b most es v (w.drewN n) := ⟨⟨h.buf.blk, h.buf.row⟩, h.lo, h.vo, drewN_below h.bel n⟩
theorem Mine.drew {w0 : World} {b : Nat} {most : Int} {es : List Ent} {v : Value} {w : World} (h : Mine w0 b most es v w) : Mine w0 b most es v w.drew := h.drewN 1
theorem Mine.below {w0 : World} {b : Nat} {most : Int} {es : List Ent} {v : Value} {w w' : World} (h : Mine w0 b most es v w) (k : Below w.heap.size w w') : Mine w0 b most es v w' := ⟨h.buf.below k, h.lo, h.vo, below_next h.bel k⟩
theorem Mine.chg {S : Nat → Prop} {w0 : World} {b : Nat} {most : Int} {es : List Ent} {v : Value} {w w' : World} (h : Mine w0 b most es v w) (k : Chg S w w') (hS : ∀ i, i < w.heap.size → S i → w0.heap.size ≤ i) (hb : ¬ S b) (hv : ∀ g, v.ownBlock = some g → ¬ S g) : Mine w0 b most es v w' :=
  ⟨h.buf.chg k hb hv, h.lo, h.vo, below_chg h.bel k hS h.bel.size⟩
theorem Mine.base {w w0 : World} {b : Nat} {most : Int} {es : List Ent} {v : Value} {w' : World} (h : Mine w0 b most es v w') (k : Below w.heap.size w w0) : Mine w b most es v w' :=
  ⟨h.buf, Nat.le_trans k.size h.lo, fun g hg => Nat.le_trans k.size (h.vo g hg), below_next k h.bel⟩
theorem Mine.foot {w0 : World} {b : Nat} {most : Int} {es : List Ent} {v : Value} {w : World} (h : Mine w0 b most es v w) : ∀ i, i < w.heap.size → Foot b v i → w0.heap.size ≤ i := by
  rintro i _ (rfl | h')
  · exact h.lo
  · exact h.vo i h'

theorem put_mine {w0 : World} {b most : Nat} {es es' : List Ent} {v : Value} {e : Ent} {c : Int} (hp : putL most es e = (es', c)) (hr : Rises es) (hlen : (es.length + 1) * 24 ≤ 140737488355328) {w : World} (hw : Mine w0 b most es v w) :
    Calls Try.prog 9 #[.pointer (some ⟨b, 0, none⟩), .agg #[.int .u64 e.1, .int .u64 e.2.1, .bool e.2.2]] w fun x w' => x = .returned (.int .i64 c) ∧ ∃ v', Mine w0 b most es' v' w' ∧ Chg (Foot b v) w w' ∧ (∀ g, v'.ownBlock = some g → v.ownBlock = some g ∨ w.heap.size ≤ g) := by
  refine (put_any b most es v e hr hlen w hw.buf).mono ?_
  rintro x w' ⟨hx, v', hb, hc, hn⟩
  rw [hp] at hx hb
  refine ⟨hx, v', ⟨hb, hw.lo, fun g hg => ?_, below_chg hw.bel hc hw.foot hw.bel.size⟩, hc, hn⟩
  rcases hn g hg with h | h
  · exact hw.vo g h
  · exact Nat.le_trans hw.bel.size h
theorem new_mine (most : Int) (h1 : ¬ most < 1) (h2 : ¬ 4294967296 < most) (w : World) :
    Calls Try.prog 8 #[.int .i64 most] w fun e w' => e = .returned (.tuple #[.pointer (some ⟨w.heap.size, 0, none⟩), .int .i64 0]) ∧ Mine w w.heap.size most [] (.slice none 0 0) w' :=
  (new_good most h1 h2 w).mono fun e w' ⟨he, hb, hl⟩ => ⟨he, hb, Nat.le_refl _, fun g hg => by simp [Value.ownBlock] at hg, hl⟩

attribute [local go_sem high] eqEnt
set_option maxHeartbeats 2000000 in
theorem shown_any (w : World) : Calls Try.prog 6 #[] w fun e w' => e = .returned (.bool true) ∧ Below w.heap.size w w' := by
  have N := new_mine 2 (by decide) (by decide) w
  go_enter Try.func6, Try.ntmps6
  go_wp2_with (go_at_call 8; refine N.mono ?_; rintro e w1 ⟨rfl, M1⟩)
  refine (put_mine (es' := [(5, 1, false)]) (e := (5, 1, false)) (c := 0) rfl List.Pairwise.nil (by decide) M1).mono ?_
  rintro e w2 ⟨rfl, v2, M2, -, -⟩
  go_wp2_with fail
  refine (put_mine (es' := [(3, 0, true), (5, 1, false)]) (e := (3, 0, true)) (c := 0) rfl (by simp [Rises]) (by decide) M2).mono ?_
  rintro e w3 ⟨rfl, v3, M3, -, -⟩
  go_wp2_with fail
  refine (put_mine (es' := [(3, 0, true), (5, 1, false)]) (e := (4, 1, false)) (c := 140) rfl (by simp [Rises]) (by decide) M3).mono ?_
  rintro e w4 ⟨rfl, v4, M4, -, -⟩
  go_wp2_with fail
  refine (list_any _ _ _ _ (by decide) _ M4.buf).mono ?_
  rintro e w5 ⟨A, c, rfl, R5, hb, -⟩
  have M5 := M4.below hb
  obtain ⟨g, cap, hv, _⟩ := R5.form.resolve_left (fun h => by simp at h)
  injection hv with hA _ hc
  subst hA hc
  obtain ⟨c0, c1, c2⟩ := R5.cells (i := 0) (by decide)
  obtain ⟨d0, d1, d2⟩ := R5.cells (i := 1) (by decide)
  simp at c0 c1 c2 d0 d1 d2
  go_wp2_with fail
  have F : ((([(3, 0, true), (5, 1, false)] : List Ent).length : Int) == ((2 : Nat) : Int)) = true := by decide
  refine (full_any _ _ _ _ _ M5.buf).mono ?_
  rintro e w6 ⟨rfl, n, rfl⟩
  rw [F]
  go_wp2_with fail
  go_ret
  exact ⟨rfl, drewN_below M5.bel n⟩
end Go.Proofs.Ytalhfjcopkmmlaa
