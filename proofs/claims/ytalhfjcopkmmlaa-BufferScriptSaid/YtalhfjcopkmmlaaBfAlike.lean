/-
  'alike' holds the program's buffer against the reference's: with the same entries it is true.
-/
import Derived.Test.YtalhfjcopkmmlaaBfRefPut
import Derived.Test.YtalhfjcopkmmlaaBfRefClone
import Derived.Test.YtalhfjcopkmmlaaBfMark
namespace Go.Proofs.Ytalhfjcopkmmlaa
open Go.RowKit
set_option linter.unusedVariables false
set_option linter.unusedSimpArgs false
theorem Buf.drewN {w : World} {b : Nat} {most : Int} {es : List Ent} {v : Value} (h : Buf w b most es v) (n : Nat) : Buf (w.drewN n) b most es v := ⟨h.blk, h.row⟩
theorem lenq (b : Nat) (most : Int) (es : List Ent) (v : Value) (w : World) (hw : Buf w b most es v) :
    Calls Try.prog 12 #[.pointer (some ⟨b, 0, none⟩)] w fun e w' => e = .returned (.int .i64 es.length) ∧ w' = w := (len_any b most es v w hw).mono fun _ _ ⟨h, k⟩ => ⟨h, k.symm⟩
attribute [local go_sem high] eqEnt
set_option maxHeartbeats 4000000 in
theorem alike_any (x y : Nat) (most : Int) (es : List Ent) (vx vy : Value) (k : Int) (hr : Rises es) (hlen : es.length * 24 ≤ 140737488355328) (w : World) (hx : Buf w x most es vx) (hy : Ref w y most es vy) :
    Calls Try.prog 22 #[.pointer (some ⟨x, 0, none⟩), .pointer (some ⟨y, 0, none⟩), .int .u64 k] w fun e w' => e = .returned (.bool true) ∧ Below w.heap.size w w' := by
  have G1 := get_any x most es vx k hr (by omega) w hx
  have G2 := fun (w' : World) (h : Ref w' y most es vy) => rget_any y most es vy k (by omega) w' h
  obtain ⟨u0, u1, u2, huu⟩ : ∃ (u0 u1 : Int) (u2 : Bool), (getL es k).1 = (u0, u1, u2) := ⟨_, _, _, rfl⟩
  obtain ⟨th, hth⟩ : ∃ th : Bool, (getL es k).2 = th := ⟨_, rfl⟩
  simp only [huu, hth] at G1 G2
  clear huu hth
  obtain ⟨Ay, cy, hvy⟩ := hy.row.val
  subst hvy
  go_enter Try.func22, Try.ntmps22
  go_wp2_with fail
  refine G1.mono ?_
  rintro e w1 ⟨rfl, hb1⟩
  have y1 := hy.below hb1
  simp only [ecells, List.toArray]
  clear G1
  go_upto_region 2 with fail
  generalize hw2 : w1.alloc (.cells #[.int .u64 u0, .int .u64 u1, .bool u2] 27) = w2
  have n2 : Blk w2 w1.heap.size 27 #[.int .u64 u0, .int .u64 u1, .bool u2] := by rw [← hw2]; exact Blk.new _ _ _
  have L2 : Below w.heap.size w w2 := by rw [← hw2]; exact below_new hb1 _
  clear hw2 hb1 y1
  generalize w1.heap.size = p1 at n2 ⊢
  go_wp2_with fail
  refine (G2 _ (hy.below L2)).mono ?_
  rintro e w3 ⟨rfl, hb3⟩
  have n3 := n2.below hb3
  have L3 := below_next L2 hb3
  clear G2 n2 hb3 L2
  simp only [ecells, List.toArray]
  go_upto_region 3 with fail
  generalize hw4 : w3.alloc (.cells #[.int .u64 u0, .int .u64 u1, .bool u2] 27) = w4
  have n4 : Blk w4 p1 27 #[.int .u64 u0, .int .u64 u1, .bool u2] := by rw [← hw4]; exact n3.alloc _
  have m4 : Blk w4 w3.heap.size 27 #[.int .u64 u0, .int .u64 u1, .bool u2] := by rw [← hw4]; exact Blk.new _ _ _
  have L4 : Below w.heap.size w w4 := by rw [← hw4]; exact below_new L3 _
  clear hw4 L3 n3
  generalize w3.heap.size = p2 at m4 ⊢
  go_wp2_with fail
  refine (list_any _ _ _ _ hlen _ (hx.below L4)).mono ?_
  rintro e w5 ⟨A5, c5, rfl, R5, hb5, -⟩
  have L5 := below_next L4 hb5
  have y5 := hy.below L5
  have c1 : w5.cell? ⟨y, 1, none⟩ = some (.slice Ay es.length cy) := y5.blk.cell 1
  have n5 := n4.below hb5
  have m5 := m4.below hb5
  clear hb5 n4 m4 L4
  go_wp2_with fail
  have SM := same_any _ _ _ _ _ _ (by omega) _ R5 y5.row
  rw [decide_eq_true rfl] at SM
  refine SM.mono ?_
  rintro e w6 ⟨rfl, hb6⟩
  have L6 := below_next L5 hb6
  have x6 := hx.below L6
  have y6 := hy.below L6
  obtain ⟨a0, a1, a2, -, -, -⟩ := Blk.cells3 (n5.below hb6)
  obtain ⟨d0, d1, d2, -, -, -⟩ := Blk.cells3 (m5.below hb6)
  have e1 : w6.cell? ⟨y, 1, none⟩ = some (.slice Ay es.length cy) := y6.blk.cell 1
  have FX := fun n => full_any x most es vx (w6.drewN n) (x6.drewN n)
  have FY := fun n => rfull_any y most es _ (w6.drewN n) (y6.drewN n)
  have LX := fun n => lenq x most es vx (w6.drewN n) (x6.drewN n)
  generalize (((es.length : Nat) : Int) == most) = q at FX FY
  clear SM hb6 n5 m5 L5 R5 y5 c1 x6 y6
  go_wp2_with fail
  go_quiet (first | (go_at_call 12; exact Calls.quiet_of_same (LX _)) | (go_at_call 13; exact Calls.quiet_of (FX _)) | (go_at_call 27; exact Calls.quiet_of (FY _)))
  go_wp2_with fail
  go_ret
  exact ⟨rfl, drewN_below L6 _⟩
end Go.Proofs.Ytalhfjcopkmmlaa
