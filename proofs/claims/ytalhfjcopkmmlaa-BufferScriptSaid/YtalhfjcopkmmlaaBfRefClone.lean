/-
  The reference's clone.
-/
import Derived.Test.YtalhfjcopkmmlaaBfRef
import Derived.Test.YtalhfjcopkmmlaaReads
namespace Go.Proofs.Ytalhfjcopkmmlaa
open Go.RowKit
set_option linter.unusedVariables false
set_option linter.unusedSimpArgs false

structure RS (w : World) (b : Nat) (most : Int) (es : List Ent) (v : Value) (w' : World) : Prop where
  ref : Ref w' b most es v
  bel : Below w.heap.size w w'
def RSall (w : World) (b : Nat) (most : Int) (es : List Ent) (v : Value) (w' : World) : Prop := RS w b most es v w' ∧ w'.cell? ⟨b, 0, none⟩ = some (.int .i64 most) ∧ w'.cell? ⟨b, 1, none⟩ = some v
theorem RS.all {w : World} {b : Nat} {most : Int} {es : List Ent} {v : Value} {w' : World} (h : RS w b most es v w') : RS w b most es v w' ∧ w'.cell? ⟨b, 0, none⟩ = some (.int .i64 most) ∧ w'.cell? ⟨b, 1, none⟩ = some v := ⟨h, h.ref.blk.cell 0, h.ref.blk.cell 1⟩
theorem RS.alloc {w : World} {b : Nat} {most : Int} {es : List Ent} {v : Value} {w' : World} (h : RS w b most es v w') (o : Obj) : RS w b most es v (w'.alloc o) := ⟨h.ref.below (below_new (Below.refl _ _) o), below_new h.bel o⟩
theorem RS.grown {w : World} {b : Nat} {most : Int} {es : List Ent} {v : Value} {w' w1 : World} {row : Option Nat} (h : RS w b most es v w') (hg : w'.grownBy w1 row) (hr : ∀ k, row = some k → w.heap.size ≤ k) (hw : Ref w b most es v) : RS w b most es v w1 := by
  have hb : Below w.heap.size w w1 := h.bel.grown hg h.bel.size hr
  exact ⟨hw.below hb, hb⟩
theorem infoE' : (Try.prog.info? 27).map (fun i => (i.zero, i.size, i.bytes)) = some (some (.agg #[.int .u64 0, .int .u64 0, .bool false]), 3, 24) := by kernel_rfl
theorem Row.reads' {w : World} {A : Option Addr} {n c : Nat} {es : List Ent} (h : Row w (.slice A n c) es) : Reads w w.heap.size 3 A n (flat es) := by
  obtain ⟨A', c', hv⟩ := h.val
  injection hv with h1 h2 h3
  subst h2
  exact Reads.of_own h

theorem rclone_val {w w1 : World} {v1 : Value} {es : List Ent} (hown : w1.ownsRow w.heap.size 27 3 v1 (0 + es.length) ([] ++ flat es)) : ∃ A c, v1 = .slice A es.length c := by
  have h9 : Row w1 v1 es := by have h9 := own_mono (base' := 0) hown (fun _ _ => Nat.zero_le _); rw [Nat.zero_add, List.nil_append] at h9; exact h9
  exact h9.val
theorem rclone_step {w w1 : World} {b : Nat} {most : Int} {v1 v : Value} {es : List Ent} (hw : Ref w b most es v) (hown : w1.ownsRow w.heap.size 27 3 v1 (0 + es.length) ([] ++ flat es)) (hgr : (w.alloc (.cells #[] 27)).drew.grownBy w1 (Value.slice (some ⟨w.heap.size, 0, none⟩) 0 0).ownBlock) :
    RS w b most es v w1 ∧ Row w1 v1 es ∧ (∀ k, v1.ownBlock = some k → w.heap.size ≤ k) := by
  have h9 : Row w1 v1 es := by have h9 := own_mono (base' := 0) hown (fun _ _ => Nat.zero_le _); rw [Nat.zero_add, List.nil_append] at h9; exact h9
  have hb : Below w.heap.size w w1 := ((below_new (Below.refl _ _) (.cells #[] 27)).drew).grown hgr (by simp) (fun k hk => by simp [Value.ownBlock] at hk; omega)
  exact ⟨⟨hw.below hb, hb⟩, h9, fun k hk => (hown.lt k hk).1⟩
set_option maxHeartbeats 2000000 in
theorem rclone_any (b : Nat) (most : Int) (es : List Ent) (v : Value) (hlen : es.length * 24 ≤ 140737488355328) (w : World) (hw : Ref w b most es v) :
    Calls Try.prog 17 #[.pointer (some ⟨b, 0, none⟩)] w fun e w' => ∃ b' v', e = .returned (.pointer (some ⟨b', 0, none⟩)) ∧ w.heap.size ≤ b' ∧ Ref w' b' most es v' ∧ Below w.heap.size w w' ∧ (∀ g, v'.ownBlock = some g → w.heap.size ≤ g) := by
  obtain ⟨i0, hi, hz0, hz1, hz2⟩ := info_parts infoE'
  have O1 := Lib.hid (World.ownsRow_made (e := 27) (size := 3) w #[] 0 (Nat.le_refl _) (by unfold maxLen; omega) rfl)
  have HO := Lib.hid (flat_one es)
  obtain ⟨A, c, hv⟩ := hw.row.val
  subst hv
  have HR : Hid (Reads (w.alloc (.cells #[] 27)) w.heap.size 3 A es.length (flat es)) := Lib.hid ((hw.row.reads').chg (S := fun _ => False) ((Chg.refl _ _).alloc _) (Nat.le_refl _) (fun _ _ h => h))
  have H63 : Hid (0 + es.length ≤ maxLen) := Lib.hid (by unfold maxLen; omega)
  have HBY : Hid ((0 + es.length) * 24 ≤ 140737488355328) := Lib.hid (by omega)
  have HBS : Hid (w.heap.size ≤ (w.alloc (.cells #[] 27)).heap.size) := Lib.hid (by simp)
  go_enter Try.func17, Try.ntmps17
  go_wp2
  go_region_held3 (fun w' => RS w b most es (.slice A es.length c) w' ∧ w'.cell? ⟨b, 0, none⟩ = some (.int .i64 most) ∧ w'.cell? ⟨b, 1, none⟩ = some (.slice A es.length c))
    (first | exact RS.all ⟨hw.drewN 1, (Below.refl _ _).drew⟩ | exact RS.all (RS.alloc (‹RS _ _ _ _ _ _ ∧ _›).1 _) | exact RS.all KG.out.1 | go_keep)
    ((refine step_append_any _ (by rfl) (.tmp 7) (.tmp 11) 22 (by rfl) w.heap.size 27 i0 _ 3 24 Try.underlying22 hi hz0 hz1 hz2 rfl (Nat.succ_pos 2) (.slice (some ⟨w.heap.size, 0, none⟩) 0 0) 0 [] (by simp [Act.eval, Act.put]) O1.out w.heap.size A es.length c (flat es) (by simp [Act.eval, Act.put]) HR.out HO.out H63.out HBY.out HBS.out ?_; intro v1 w1 hown hgr hat; obtain ⟨A1, c1, hv1⟩ := rclone_val hown; subst hv1; have KG := Lib.hid (rclone_step hw hown hgr); clear hown hgr hat))
  go_wp2
  have K := ‹RS _ _ _ _ _ _ ∧ _›
  go_ret
  exact ⟨w1.heap.size, _, rfl, KG.out.1.bel.size, ⟨Blk.new _ _ _, KG.out.2.1.below (below_new (Below.refl _ _) _)⟩, K.1.bel, KG.out.2.2⟩
end Go.Proofs.Ytalhfjcopkmmlaa
