/-
  The reference's clone.
-/
import Derived.Test.YtanhhgifcolfaaaQHuClone
import Derived.Test.YtanhhgifcolfaaaQHuRefAdd2
import Derived.Test.YtanhhgifcolfaaaQReads
namespace Go.Proofs.Ytanhhgifcolfaaa
open Go.RowKit
set_option linter.unusedVariables false
set_option linter.unusedSimpArgs false

structure RS (w : World) (b : Nat) (e : Int) (F : Fit) (v : Value) (w' : World) : Prop where
  ref : RefM w' b e F v
  bel : Below w.heap.size w w'
def RSc (b : Nat) (e : Int) (F : Fit) (v : Value) (w' : World) : Prop := w'.cell? ⟨b, 0, none⟩ = some (.int .i64 (e + 1)) ∧ w'.cell? ⟨b, 1, none⟩ = some v ∧ w'.cell? ⟨b, 2, none⟩ = some (.int .u64 F.low.1) ∧ w'.cell? ⟨b, 3, none⟩ = some (.int .u64 F.low.2) ∧ w'.cell? ⟨b, 4, none⟩ = some (.int .u64 F.top.1) ∧ w'.cell? ⟨b, 5, none⟩ = some (.int .u64 F.top.2)
section
variable {w w' w1 : World} {b : Nat} {e : Int} {F : Fit} {v v1 : Value}
theorem RS.all (h : RS w b e F v w') : RS w b e F v w' ∧ w'.cell? ⟨b, 0, none⟩ = some (.int .i64 (e + 1)) ∧ w'.cell? ⟨b, 1, none⟩ = some v ∧ w'.cell? ⟨b, 2, none⟩ = some (.int .u64 F.low.1) ∧ w'.cell? ⟨b, 3, none⟩ = some (.int .u64 F.low.2) ∧ w'.cell? ⟨b, 4, none⟩ = some (.int .u64 F.top.1) ∧ w'.cell? ⟨b, 5, none⟩ = some (.int .u64 F.top.2) :=
  ⟨h, h.ref.blk.cell 0, h.ref.blk.cell 1, h.ref.blk.cell 2, h.ref.blk.cell 3, h.ref.blk.cell 4, h.ref.blk.cell 5⟩
theorem RS.alloc (h : RS w b e F v w') (o : Obj) : RS w b e F v (w'.alloc o) := ⟨h.ref.below (below_new (Below.refl _ _) o), below_new h.bel o⟩
theorem infoK : (Try.prog.info? 34).map (fun i => (i.zero, i.size, i.bytes)) = some (some (.int .u64 0), 1, 8) := by kernel_rfl
theorem keys_len (L : List Int) : (L.map (Value.int .u64)).length = L.length := by simp
theorem RefM.slice (h : RefM w b e F v) : ∃ A c, v = .slice A F.keys.length c := by
  rcases h.row.2 with ⟨hv, h0⟩ | ⟨g, cap, cur, hv, hr⟩
  · exact ⟨none, 0, by rw [hv, h0]⟩
  · exact ⟨_, _, hv⟩
theorem keys_reads {A : Option Addr} {c : Nat} (h : RefM w b e F (.slice A F.keys.length c)) : Reads w w.heap.size 1 A F.keys.length (F.keys.map (Value.int .u64)) := Reads.of_own h.row
theorem rclone_val (hown : w1.ownsRow w.heap.size 34 1 v1 (0 + F.keys.length) ([] ++ F.keys.map (Value.int .u64))) : ∃ A c, v1 = .slice A F.keys.length c := by
  rw [Nat.zero_add] at hown
  rcases hown.2 with ⟨hv, h0⟩ | ⟨g, cap, cur, hv, hr⟩
  · exact ⟨none, 0, by rw [hv, h0]⟩
  · exact ⟨_, _, hv⟩
theorem rclone_step (hw : RefM w b e F v) (hown : w1.ownsRow w.heap.size 34 1 v1 (0 + F.keys.length) ([] ++ F.keys.map (Value.int .u64))) (hgr : (w.alloc (.cells #[] 34)).drew.grownBy w1 (Value.slice (some ⟨w.heap.size, 0, none⟩) 0 0).ownBlock) :
    RS w b e F v w1 ∧ w1.ownsRow 0 34 1 v1 F.keys.length (F.keys.map (Value.int .u64)) ∧ (∀ k, v1.ownBlock = some k → w.heap.size ≤ k) := by
  have h9 : w1.ownsRow 0 34 1 v1 F.keys.length (F.keys.map (Value.int .u64)) := by have h9 := own_mono (base' := 0) hown (fun _ _ => Nat.zero_le _); rw [Nat.zero_add, List.nil_append] at h9; exact h9
  have hb : Below w.heap.size w w1 := ((below_new (Below.refl _ _) (.cells #[] 34)).drew).grown hgr (by simp) (fun k hk => by simp [Value.ownBlock] at hk; omega)
  exact ⟨⟨hw.below hb, hb⟩, h9, fun k hk => (hown.lt k hk).1⟩
end
theorem keys_one (L : List Int) : ∀ u ∈ L.map (Value.int .u64), u.oneCell' = true := by intro u hu; obtain ⟨k, _, rfl⟩ := List.mem_map.1 hu; rfl
set_option maxHeartbeats 2000000 in
theorem rclone_any {b : Nat} {e : Int} {F : Fit} {v : Value} (hlen : F.keys.length ≤ 17592186044416) {w : World} (hw : RefM w b e F v) :
    Calls Try.prog 28 #[.pointer (some ⟨b, 0, none⟩)] w fun e' w' => ∃ b' v', e' = .returned (.pointer (some ⟨b', 0, none⟩)) ∧ w.heap.size ≤ b' ∧ RefM w' b' e F v' ∧ Below w.heap.size w w' ∧ (∀ g, v'.ownBlock = some g → w.heap.size ≤ g) := by
  obtain ⟨i0, hi, hz0, hz1, hz2⟩ := info_parts infoK
  have O1 := Lib.hid (World.ownsRow_made (e := 34) (size := 1) w #[] 0 (Nat.le_refl _) (by unfold maxLen; omega) rfl)
  have HO := Lib.hid (keys_one F.keys)
  obtain ⟨A, c, hv⟩ := hw.slice
  subst hv
  have HR : Hid (Reads (w.alloc (.cells #[] 34)) w.heap.size 1 A F.keys.length (F.keys.map (Value.int .u64))) := Lib.hid ((keys_reads hw).chg (S := fun _ => False) ((Chg.refl _ _).alloc _) (Nat.le_refl _) (fun _ _ h => h))
  have H63 : Hid (0 + F.keys.length ≤ maxLen) := Lib.hid (by unfold maxLen; omega)
  have HBY : Hid ((0 + F.keys.length) * 8 ≤ 140737488355328) := Lib.hid (by omega)
  have HBS : Hid (w.heap.size ≤ (w.alloc (.cells #[] 34)).heap.size) := Lib.hid (by simp)
  go_enter Try.func28, Try.ntmps28
  go_wp2
  go_region_held3 (fun w' => RS w b e F (.slice A F.keys.length c) w' ∧ w'.cell? ⟨b, 0, none⟩ = some (.int .i64 (e + 1)) ∧ w'.cell? ⟨b, 1, none⟩ = some (.slice A F.keys.length c) ∧ w'.cell? ⟨b, 2, none⟩ = some (.int .u64 F.low.1) ∧ w'.cell? ⟨b, 3, none⟩ = some (.int .u64 F.low.2) ∧ w'.cell? ⟨b, 4, none⟩ = some (.int .u64 F.top.1) ∧ w'.cell? ⟨b, 5, none⟩ = some (.int .u64 F.top.2))
    (first | exact RS.all ⟨RefM.below hw (Below.refl _ _).drew, (Below.refl _ _).drew⟩ | exact RS.all (RS.alloc (‹RS _ _ _ _ _ _ ∧ _›).1 _) | exact RS.all KG.out.1 | go_keep)
    ((refine step_append_any _ (by rfl) (.tmp 7) (.tmp 11) 22 (by rfl) w.heap.size 34 i0 _ 1 8 Try.underlying22 hi hz0 hz1 hz2 rfl (Nat.succ_pos 0) (.slice (some ⟨w.heap.size, 0, none⟩) 0 0) 0 [] (by simp [Act.eval, Act.put]) O1.out w.heap.size A F.keys.length c (F.keys.map (Value.int .u64)) (by simp [Act.eval, Act.put]) HR.out HO.out H63.out HBY.out HBS.out ?_; intro v1 w1 hown hgr hat; obtain ⟨A1, c1, hv1⟩ := rclone_val hown; subst hv1; have KG := Lib.hid (rclone_step hw hown hgr); clear hown hgr hat))
  go_wp2
  have K := ‹RS _ _ _ _ _ _ ∧ _›
  go_ret
  exact ⟨w1.heap.size, _, rfl, KG.out.1.bel.size, ⟨Blk.new _ _ _, own_chg KG.out.2.1 ((Chg.refl (fun _ => False) w1).alloc _) (fun _ _ h => h)⟩, K.1.bel, KG.out.2.2⟩
theorem ref_Clone {w : World} {b : Nat} {e : Int} {F : Fit} {S : Nat → Prop} (H : RefO w b e F S) :
    Calls Try.prog 28 #[.pointer (some ⟨b, 0, none⟩)] w fun e' w' => ∃ b', e' = .returned (.pointer (some ⟨b', 0, none⟩)) ∧ (∃ T, RefO w' b' e F T ∧ ∀ k, T k → w.heap.size ≤ k) ∧ Below w.heap.size w w' := by
  obtain ⟨v, M, ⟨c0, c1, Q⟩, rfl⟩ := H
  refine (rclone_any Q.big M).mono ?_
  rintro e' w' ⟨b', v', rfl, hb', M', hb, hv⟩
  refine ⟨b', rfl, ⟨_, ⟨v', M', ⟨c0, c1, Q⟩, rfl⟩, ?_⟩, hb⟩
  rintro k (rfl | h)
  · exact hb'
  · exact hv k h
end Go.Proofs.Ytanhhgifcolfaaa
