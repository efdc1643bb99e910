/-
  A fit in memory; (*Fit).touching.
-/
import Derived.Test.YtnccgpdniigekaaQHuFind
namespace Go.Proofs.Ytnccgpdniigekaa
open Go.RowKit
set_option linter.unusedVariables false
set_option linter.unusedSimpArgs false

/-- A fit behind a pointer. -/
structure FitM (w : World) (b : Nat) (e n last : Int) (low top : Fr) (v0 v1 : Value) (c0 c1 : List Pt) : Prop where
  blk : Blk w b 137 #[.int .i64 e, .int .i64 n, .int .u64 last, .int .u64 low.1, .int .u64 low.2, .int .u64 top.1, .int .u64 top.2, v0, v1]
  r0 : Row w v0 c0
  r1 : Row w v1 c1
section
variable {w w' : World} {b : Nat} {e n last : Int} {low top : Fr} {v0 v1 : Value} {c0 c1 : List Pt}
theorem FitM.chg {S : Nat → Prop} (h : FitM w b e n last low top v0 v1 c0 c1) (k : Chg S w w') (hb : ¬ S b) (h0 : ∀ g, v0.ownBlock = some g → ¬ S g) (h1 : ∀ g, v1.ownBlock = some g → ¬ S g) : FitM w' b e n last low top v0 v1 c0 c1 :=
  ⟨h.blk.chg k hb, h.r0.chg k h0, h.r1.chg k h1⟩
theorem FitM.below (h : FitM w b e n last low top v0 v1 c0 c1) (k : Below w.heap.size w w') : FitM w' b e n last low top v0 v1 c0 c1 := h.chg (Chg.of_below k) (fun h => h) (fun _ _ h => h) (fun _ _ h => h)
theorem FitM.drewN (h : FitM w b e n last low top v0 v1 c0 c1) (k : Nat) : FitM (w.drewN k) b e n last low top v0 v1 c0 c1 := ⟨h.blk, h.r0, h.r1⟩
theorem FitM.ne0 (h : FitM w b e n last low top v0 v1 c0 c1) : v0.ownBlock ≠ some b := own_ne_blk h.r0 h.blk (by decide)
theorem FitM.ne1 (h : FitM w b e n last low top v0 v1 c0 c1) : v1.ownBlock ≠ some b := own_ne_blk h.r1 h.blk (by decide)
end
set_option maxHeartbeats 2000000 in
theorem touching_low (b : Nat) (e n last : Int) (low top : Fr) (v0 v1 : Value) (c0 c1 : List Pt) (p : Pt) (hp : PtOk p) (hc : ∀ u ∈ c0, PtOk u ∧ u.1 ≤ p.1) (hlen : c0.length ≤ 4611686018427387904) (h0 : c0 ≠ []) (w : World) (F : FitM w b e n last low top v0 v1 c0 c1) :
    Calls Try.prog 92 #[.pointer (some ⟨b, 0, none⟩), .int .i64 0, .agg #[.int .u64 p.1, .int .i64 p.2]] w fun e w' =>
      (∃ (i : Nat) (h : i < c0.length), e = .returned (.agg #[.int .u64 c0[i].1, .int .i64 c0[i].2]) ∧ Amid 0 c0 p (c0.length - 1) i i) ∧ Below w.heap.size w w' := by
  obtain ⟨g, cap, rfl, hg, hcap, hm⟩ := F.r0.form.resolve_left (fun h => h0 h.2)
  obtain ⟨px, py⟩ := p
  have hpos : 0 < c0.length := List.length_pos_iff.2 h0
  have x7 : (((((w.alloc (.cells #[.int .i64 0] 3)).alloc (.cells #[.int .u64 px, .int .i64 py] 139)).alloc (.cells #[.int .u64 0, .int .i64 0] 139)).alloc (.cells #[.slice none 0 0] 134)).drew).cell? ⟨b, 7, none⟩ = some (.slice (some ⟨g, 0, none⟩) c0.length cap) :=
    ((((F.blk.alloc _).alloc _).alloc _).alloc _).drew.cell 7
  have x8 : ((((w.alloc (.cells #[.int .i64 0] 3)).alloc (.cells #[.int .u64 px, .int .i64 py] 139)).alloc (.cells #[.int .u64 0, .int .i64 0] 139)).drew).cell? ⟨b, 7, none⟩ = some (.slice (some ⟨g, 0, none⟩) c0.length cap) :=
    (((F.blk.alloc _).alloc _).alloc _).drew.cell 7
  have hcast : ((c0.length - 1 : Nat) : Int) = (c0.length : Int) - 1 := by omega
  have SR := search_any (w.heap.size + 1 + 1 + 1) (w.heap.size + 1) w.heap.size 134 139 3 g cap c0 (px, py) 0 (.inl rfl) hp hc hlen (c0.length - 1) (by omega)
  simp only [hcast] at SR
  go_enter Try.func92, Try.ntmps92
  go_wp2_with fail
  go_big_region
  all_goals
    go_wp2_with fail
    refine (SR _ ?_ ?_).mono ?_
    · exact ⟨(Blk.new' _ _ (by simp)).drew, (((Blk.new' _ _ (by simp)).alloc _).alloc _).drew, ((((Blk.new _ _ _).alloc _).alloc _).alloc _).drew⟩
    · exact (F.below (below_new (below_new (below_new (below_new (Below.refl _ _) _) _) _) _).drew).r0
    rintro e w' ⟨⟨i, rfl, A⟩, hb⟩
    have hi : i < c0.length := by have := A.jn; omega
    have R2 := (F.below (below_new (below_new (below_new (below_new (Below.refl _ _) (.cells #[.int .i64 0] 3)) (.cells #[.int .u64 px, .int .i64 py] 139)) (.cells #[.int .u64 0, .int .i64 0] 139)) (.cells #[.slice (some ⟨g, 0, none⟩) c0.length cap] 134)).drew).r0.below hb
    have B2 := below_next (below_new (below_new (below_new (below_new (Below.refl w.heap.size w) (.cells #[.int .i64 0] 3)) (.cells #[.int .u64 px, .int .i64 py] 139)) (.cells #[.int .u64 0, .int .i64 0] 139)) (.cells #[.slice (some ⟨g, 0, none⟩) c0.length cap] 134)).drew hb
    have G7 : Blk w' (w.heap.size + 1 + 1 + 1) 134 #[.slice (some ⟨g, 0, none⟩) c0.length cap] := (Blk.new' _ _ (by simp)).drew.below hb
    have G6 : Blk w' (w.heap.size + 1 + 1) 139 #[.int .u64 0, .int .i64 0] := ((Blk.new' _ _ (by simp)).alloc _).drew.below hb
    have y7 : w'.cell? ⟨w.heap.size + 1 + 1 + 1, 0, none⟩ = some (.slice (some ⟨g, 0, none⟩) c0.length cap) := G7.cell 0
    obtain ⟨z0, z1⟩ := R2.cells hi
    obtain ⟨y0, y1, y2, y3⟩ := G6.cells2
    have b0 : (0 : Int) ≤ (i : Int) := by omega
    have b1 : (i : Int) < (c0.length : Int) := by omega
    have AH := Lib.hid A
    have l6 : w.heap.size ≤ w.heap.size + 1 + 1 := by omega
    clear A SR hp hc
    go_wp2_with fail
    refine bodyPost_ret (v := .agg #[.int .u64 c0[i].1, .int .i64 c0[i].2]) (results_cl (p := 6) (ty := 139) (t := 139) rfl _ rfl G6.set2 Try.underlying139 rfl (by kernel_rfl)) rfl ?_
    exact ⟨⟨i, hi, rfl, AH.out⟩, below_set2 B2 l6⟩
set_option maxHeartbeats 2000000 in
theorem touching_up (b : Nat) (e n last : Int) (low top : Fr) (v0 v1 : Value) (c0 c1 : List Pt) (p : Pt) (hp : PtOk p) (hc : ∀ u ∈ c1, PtOk u ∧ u.1 ≤ p.1) (hlen : c1.length ≤ 4611686018427387904) (h0 : c1 ≠ []) (w : World) (F : FitM w b e n last low top v0 v1 c0 c1) :
    Calls Try.prog 92 #[.pointer (some ⟨b, 0, none⟩), .int .i64 1, .agg #[.int .u64 p.1, .int .i64 p.2]] w fun e w' =>
      (∃ (i : Nat) (h : i < c1.length), e = .returned (.agg #[.int .u64 c1[i].1, .int .i64 c1[i].2]) ∧ Amid 1 c1 p (c1.length - 1) i i) ∧ Below w.heap.size w w' := by
  obtain ⟨g, cap, rfl, hg, hcap, hm⟩ := F.r1.form.resolve_left (fun h => h0 h.2)
  obtain ⟨px, py⟩ := p
  have hpos : 0 < c1.length := List.length_pos_iff.2 h0
  have x7 : (((((w.alloc (.cells #[.int .i64 1] 3)).alloc (.cells #[.int .u64 px, .int .i64 py] 139)).alloc (.cells #[.int .u64 0, .int .i64 0] 139)).alloc (.cells #[.slice none 0 0] 134)).drew).cell? ⟨b, 8, none⟩ = some (.slice (some ⟨g, 0, none⟩) c1.length cap) :=
    ((((F.blk.alloc _).alloc _).alloc _).alloc _).drew.cell 8
  have x8 : ((((w.alloc (.cells #[.int .i64 1] 3)).alloc (.cells #[.int .u64 px, .int .i64 py] 139)).alloc (.cells #[.int .u64 0, .int .i64 0] 139)).drew).cell? ⟨b, 8, none⟩ = some (.slice (some ⟨g, 0, none⟩) c1.length cap) :=
    (((F.blk.alloc _).alloc _).alloc _).drew.cell 8
  have hcast : ((c1.length - 1 : Nat) : Int) = (c1.length : Int) - 1 := by omega
  have SR := search_any (w.heap.size + 1 + 1 + 1) (w.heap.size + 1) w.heap.size 134 139 3 g cap c1 (px, py) 1 (.inr rfl) hp hc hlen (c1.length - 1) (by omega)
  simp only [hcast] at SR
  go_enter Try.func92, Try.ntmps92
  go_wp2_with fail
  go_big_region
  all_goals
    go_wp2_with fail
    refine (SR _ ?_ ?_).mono ?_
    · exact ⟨(Blk.new' _ _ (by simp)).drew, (((Blk.new' _ _ (by simp)).alloc _).alloc _).drew, ((((Blk.new _ _ _).alloc _).alloc _).alloc _).drew⟩
    · exact (F.below (below_new (below_new (below_new (below_new (Below.refl _ _) _) _) _) _).drew).r1
    rintro e w' ⟨⟨i, rfl, A⟩, hb⟩
    have hi : i < c1.length := by have := A.jn; omega
    have R2 := (F.below (below_new (below_new (below_new (below_new (Below.refl _ _) (.cells #[.int .i64 1] 3)) (.cells #[.int .u64 px, .int .i64 py] 139)) (.cells #[.int .u64 0, .int .i64 0] 139)) (.cells #[.slice (some ⟨g, 0, none⟩) c1.length cap] 134)).drew).r1.below hb
    have B2 := below_next (below_new (below_new (below_new (below_new (Below.refl w.heap.size w) (.cells #[.int .i64 1] 3)) (.cells #[.int .u64 px, .int .i64 py] 139)) (.cells #[.int .u64 0, .int .i64 0] 139)) (.cells #[.slice (some ⟨g, 0, none⟩) c1.length cap] 134)).drew hb
    have G7 : Blk w' (w.heap.size + 1 + 1 + 1) 134 #[.slice (some ⟨g, 0, none⟩) c1.length cap] := (Blk.new' _ _ (by simp)).drew.below hb
    have G6 : Blk w' (w.heap.size + 1 + 1) 139 #[.int .u64 0, .int .i64 0] := ((Blk.new' _ _ (by simp)).alloc _).drew.below hb
    have y7 : w'.cell? ⟨w.heap.size + 1 + 1 + 1, 0, none⟩ = some (.slice (some ⟨g, 0, none⟩) c1.length cap) := G7.cell 0
    obtain ⟨z0, z1⟩ := R2.cells hi
    obtain ⟨y0, y1, y2, y3⟩ := G6.cells2
    have b0 : (0 : Int) ≤ (i : Int) := by omega
    have b1 : (i : Int) < (c1.length : Int) := by omega
    have AH := Lib.hid A
    have l6 : w.heap.size ≤ w.heap.size + 1 + 1 := by omega
    clear A SR hp hc
    go_wp2_with fail
    refine bodyPost_ret (v := .agg #[.int .u64 c1[i].1, .int .i64 c1[i].2]) (results_cl (p := 6) (ty := 139) (t := 139) rfl _ rfl G6.set2 Try.underlying139 rfl (by kernel_rfl)) rfl ?_
    exact ⟨⟨i, hi, rfl, AH.out⟩, below_set2 B2 l6⟩
end Go.Proofs.Ytnccgpdniigekaa
